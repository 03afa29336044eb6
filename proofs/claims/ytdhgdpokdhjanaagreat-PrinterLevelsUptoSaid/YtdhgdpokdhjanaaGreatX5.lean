/- The machine is sound for the program. -/
import Derived.Test.YtdhgdpokdhjanaaGreatX4
import Derived.Test.YtdhgdpokdhjanaaGreatA36
import Derived.Test.YtdhgdpokdhjanaaGreatProg
import Derived.Test.YtdhgdpokdhjanaaGreatShelf
set_option linter.unusedSimpArgs false
set_option linter.unusedVariables false
namespace Go.Proofs.YtdhgdpokdhjanaaGreat.Abs
open Go Go.RowKit Go.Shelf

def okAll (P : Program) : Bool := (List.range 512).all fun i => match funcs0 i with
  | none => true
  | some af => match P.funcs[fm i]? with
    | some fn => okFunc P fm af fn
    | none => false

theorem funcs0_small {i : Nat} {af : AFunc} (h : funcs0 i = some af) : i < 512 := by
  rcases Nat.lt_or_ge i 512 with h1 | h1
  · exact h1
  · unfold funcs0 at h
    split at h
    · cases h
    · unfold table at h
      have : rows[i / 16]? = none := by
        rw [List.getElem?_eq_none]
        have h2 : rows.length ≤ 32 := by decide
        omega
      rw [this] at h
      simp at h

theorem all_ok : okAll Tryz.prog = true := by kernel_rfl

theorem funcs_ok {i : Nat} {af : AFunc} (h : funcs0 i = some af) : ∃ fn, Tryz.prog.funcs[fm i]? = some fn ∧ okFunc Tryz.prog fm af fn = true := by
  have h1 := List.all_eq_true.1 all_ok i (List.mem_range.2 (funcs0_small h))
  simp only [h] at h1
  cases h2 : Tryz.prog.funcs[fm i]? with
  | none => rw [h2] at h1; cases h1
  | some fn => rw [h2] at h1; exact ⟨fn, rfl, h1⟩

theorem mixed : Tryz.prog.follows .mixedOrders = true := by kernel_rfl
theorem few : Tryz.prog.funcs.size ≤ 1000000 := of_decide_eq_true (by kernel_rfl)

theorem fm_yield (l : Nat) : fm (2000000 + l) = 1000000 + l := by
  unfold fm
  have h1 : Nat.ble 1000000 (2000000 + l) = true := Nat.ble_eq_true_of_le (by omega)
  have h2 : Nat.beq (2000000 + l) 1000000 = false := by
    cases h : Nat.beq (2000000 + l) 1000000
    · rfl
    · have := Nat.eq_of_beq_eq_true h; omega
  have h3 : Nat.beq (2000000 + l) 1000001 = false := by
    cases h : Nat.beq (2000000 + l) 1000001
    · rfl
    · have := Nat.eq_of_beq_eq_true h; omega
  rw [h1, h2, h3]
  show 2000000 + l - 1000000 = _
  omega

def entersB (P : Program) (f : Nat) : Bool := match P.funcs[f]? with
  | some fn => !fn.body.isNone && !(fn.name == "runtime.NumGoroutine") && decide (f < 1000000)
  | none => false
theorem enters_of {f : Nat} (h : entersB Tryz.prog f = true) : Enters Tryz.prog f := by
  unfold entersB at h
  split at h
  · rename_i fn hfn
    simp only [Bool.and_eq_true, Bool.not_eq_true', decide_eq_true_eq] at h
    exact ⟨h.2, fn, hfn, h.1.1, h.1.2⟩
  · cases h

theorem lib_sound (f : Nat) (h : List AVal → ASt → Option (AVal × ASt)) (hf : extLib f = some h) (args : List AVal) (s : ASt) (v : AVal) (s' : ASt) (hh : h args s = some (v, s')) : Enters Tryz.prog (fm f) ∧ ∀ (g : Gh) (w : World) (vs : Array Value) (m : Nat), Sim fm s g w → RepL fm g s.n args vs.toList →
    CallsIn (FW none) m Tryz.prog (fm f) vs w (CallPost fm g w s s' v) := by
  unfold extLib at hf
  split at hf
  · cases hf
    exact ⟨enters_of (by kernel_rfl), fun g w vs m hS hR => join_sound (f := 160) (fun bk o c xs sep w h1 h2 h3 h4 h5 => Tryz.strings_Join bk o c xs sep w h1 h2 h3 h4 h5) (fun a c sep w => Tryz.strings_Join_none a c sep w) hh hS hR m⟩
  · cases hf
    exact ⟨enters_of (by kernel_rfl), fun g w vs m hS hR => repeat_sound (f := 162) (fun x c w h1 h2 => Tryz.strings_Repeat x c w h1 h2) hh hS hR m⟩
  · cases hf
    exact ⟨enters_of (by kernel_rfl), fun g w vs m hS hR => write_sound (f := 137) (write_said ({ Tryz.lays156 with } : Lays.n166 Tryz.prog Tryz.lays156_ren) Tryz.Builder_Extra_156) hh hS hR m⟩
  · cases hf
    exact ⟨enters_of (by kernel_rfl), fun g w vs m hS hR => string_sound (f := 139) (string_said Tryz.lays169 Tryz.Builder_Extra_169) hh hS hR m⟩
  · cases hf

theorem sound0 : Sound Tryz.prog fm C0 := ⟨mixed, few, fun i af h _ => funcs_ok h, fun f args s v s' h => by
  cases hx : C0.ext f with
  | none => simp only [hx] at h; cases h
  | some e =>
    simp only [hx] at h
    exact lib_sound f e hx args s v s' h⟩

theorem sound1 : Sound Tryz.prog fm C1 := ⟨mixed, few, fun i af h _ => funcs_ok h, fun f args s v s' h => by
  cases hx : C1.ext f with
  | none => simp only [hx] at h; cases h
  | some e =>
    simp only [hx] at h
    by_cases hf : f = 385
    · subst hf
      cases hx
      obtain ⟨he, hs⟩ := shapes_sound sound0 (f := fm 385) (fn := Tryz.f81) (by kernel_rfl) (by kernel_rfl)
      have h : extShapes args s = some (v, s') := h
      unfold extShapes at h
      split at h
      · cases h
        exact ⟨he, fun g w vs m hS hR => pure_ext hs rfl hS hR m⟩
      · cases h
    · have : C1.ext f = extLib f := by
        simp only [C1]
        try rfl
      rw [this] at hx
      exact lib_sound f e hx args s v s' h⟩

/-! ### With tree.shaped -/

open Classical in
noncomputable def shapedV (cs : List AVal) : Option Bool := if h : ∃ k b, shapedK k cs = some b then some h.choose_spec.choose else none
noncomputable def extShaped : List AVal → ASt → Option (AVal × ASt)
  | [.agg cs], s => if underL 0 cs = true then (shapedV cs).map fun b => (.bool b, s) else none
  | _, _ => none
noncomputable def C2 : Cfg := ⟨funcs0, fun f => match f with
  | 384 => some extShaped
  | f => C1.ext f⟩

theorem sound2 : Sound Tryz.prog fm C2 := ⟨mixed, few, fun i af h _ => funcs_ok h, fun f args s v s' h => by
  cases hx : C2.ext f with
  | none => simp only [hx] at h; cases h
  | some e =>
    simp only [hx] at h
    by_cases hf : f = 384
    · subst hf
      cases hx
      obtain ⟨fv, hfv, hokv⟩ := funcs_ok (i := 387) (af := f387) (by kernel_rfl)
      obtain ⟨fo, hfo, hoko⟩ := funcs_ok (i := 377) (af := f377) (by kernel_rfl)
      obtain ⟨he, hs⟩ := shaped_sound sound1 fm_yield (fn := Tryz.f58) (by kernel_rfl) (by kernel_rfl) hfv hokv hfo hoko (enters_of (by kernel_rfl)) (enters_of (by kernel_rfl))
      have h : extShaped args s = some (v, s') := h
      unfold extShaped at h
      split at h
      · split at h
        · rename_i cs hu
          obtain ⟨b, hb, h⟩ := map_some' h
          cases h
          unfold shapedV at hb
          split at hb
          · rename_i hk
            cases hb
            exact ⟨he, fun g w vs m hS hR => pure_ext (hs _ _ _ hk.choose_spec.choose_spec) (by simp only [underL, AVal.under, Bool.and_true]; exact hu) hS hR m⟩
          · cases hb
        · cases h
      · cases h
    · have : C2.ext f = C1.ext f := by
        simp only [C2]
        try rfl
      rw [this] at hx
      have := sound1.ext f args s v s' (by simp only [hx]; exact h)
      exact this⟩

end Go.Proofs.YtdhgdpokdhjanaaGreat.Abs
