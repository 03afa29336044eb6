/- The other operations that only compute. -/
import Derived.Test.YtdhgdpokdhjanaaGreatA6
set_option linter.unusedSimpArgs false
set_option linter.unusedVariables false
namespace Go.Proofs.YtdhgdpokdhjanaaGreat.Abs
open Go

section
variable {P : Program} {fm : Nat → Nat} {g : Gh} {s : ASt} {n nt : Nat} {A : Frame} {a : Act} {w : World}

/-! ### Cells laid over others -/

theorem set_take_drop {α : Type} (l : List α) (i : Nat) (v : α) (m : Nat) (h : i < l.length) :
    (l.set i v).take (i + 1) = l.take i ++ [v] ∧ (l.set i v).drop (i + 1 + m) = l.drop (i + 1 + m) := by
  rw [List.set_eq_take_append_cons_drop, if_pos h]
  have e : (l.take i).length = i := by simp; omega
  constructor
  · rw [List.take_append, e, List.take_of_length_le (by omega)]
    simp
  · rw [List.drop_append, e, List.drop_of_length_le (by omega)]
    simp only [List.nil_append]
    rw [show i + 1 + m - i = m + 1 from by omega]
    simp [Nat.add_comm, Nat.add_left_comm]

theorem foldl_set (off : Nat) : ∀ (new : List Value) (k : Nat) (cells : Array Value), off + k + new.length ≤ cells.size →
    ((new.zipIdx k).foldl (fun (cs : Array Value) (x : Value × Nat) => cs.setIfInBounds (off + x.2) x.1) cells).toList =
      cells.toList.take (off + k) ++ new ++ cells.toList.drop (off + k + new.length)
  | [], k, cells, h => by simp
  | v :: new, k, cells, h => by
    simp only [List.length_cons] at h
    rw [List.zipIdx_cons, List.foldl_cons, foldl_set off new (k + 1) _ (by simp; omega)]
    have hlt : off + k < cells.toList.length := by simp; omega
    obtain ⟨h1, h2⟩ := set_take_drop cells.toList (off + k) v new.length hlt
    simp only [Array.toList_setIfInBounds]
    rw [show off + (k + 1) = off + k + 1 from rfl, h1, h2]
    simp [Nat.add_comm, Nat.add_left_comm]

theorem fill_run {place : Nat → Option (Nat × Nat)} (hF : FrameRep fm g n nt A a.tmps) : ∀ {parts : List (Nat × Nat × Opd)} {ps : List (Nat × Operand)} {cs r : List AVal} {vs : Array Value},
    partsOk fm place parts ps = true → RepL fm g n cs vs.toList → fill cs (parts.map fun (i, k, x) => (i, k, x.ev A)) = some r →
    ∃ us : Array Value, Instr.fill place vs (ps.map fun (i, x) => (i, a.eval x)) = some us ∧ RepL fm g n r us.toList ∧ us.size = vs.size
  | [], [], cs, r, vs, _, hr, h => by
    simp only [List.map_nil, fill, Option.some.injEq] at h
    subst h
    exact ⟨vs, rfl, hr, rfl⟩
  | [], _ :: _, _, _, _, h, _, _ => by simp [partsOk] at h
  | (_, _, _) :: _, [], _, _, _, h, _, _ => by simp [partsOk] at h
  | (off, k, x) :: parts, (i, y) :: ps, cs, r, vs, hok, hr, h => by
    simp only [partsOk, Bool.and_eq_true, beq_iff_eq] at hok
    obtain ⟨⟨hpl, hxy⟩, hrest⟩ := hok
    simp only [List.map_cons, fill] at h
    split at h
    · rename_i hc
      obtain ⟨hk, hlen, hle⟩ := hc
      have hx := okOpd_rep hF hxy
      have hcells := hx.cells hk
      have hl2 := hcells.length
      have hl1 := hr.length
      have hsz : (a.eval y).cells.size = k := by rw [← Array.length_toList, ← hl2, hlen]
      have hl3 : cs.length = vs.size := by rw [hl1]; simp
      have hl4 : (a.eval y).cells.toList.length = k := by simp [hsz]
      have key := foldl_set off (a.eval y).cells.toList 0 vs (by rw [hl4]; omega)
      simp only [List.map_cons, Instr.fill, hpl]
      rw [if_neg (by simp [hsz]; omega)]
      rw [← Array.foldl_toList, Array.toList_zipIdx]
      generalize List.foldl _ _ _ = X at *
      have hsz2 : X.size = vs.size := by
        have := congrArg List.length key
        simp at this
        omega
      obtain ⟨us, h1, h2, h3⟩ := fill_run hF (cs := splice cs off (x.ev A).cells) (vs := X) hrest (by
        rw [key]
        unfold splice
        simp only [Nat.add_zero]
        rw [← hl2]
        exact ((hr.take off).append hcells).append (hr.drop _)) h
      exact ⟨us, h1, h2, h3.trans hsz2⟩
    · cases h

end
end Go.Proofs.YtdhgdpokdhjanaaGreat.Abs
