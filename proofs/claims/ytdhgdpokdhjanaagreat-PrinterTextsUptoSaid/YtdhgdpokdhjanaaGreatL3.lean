/- PrinterTexts: for every node and every depth of bulk up to the bound the law returns true, and changes nothing that came in. -/
import Derived.Test.YtdhgdpokdhjanaaGreatMZ10
set_option linter.unusedSimpArgs false
set_option linter.unusedVariables false
namespace Go.Proofs.YtdhgdpokdhjanaaGreat.texts
open Go.ChangeShapes Go.WideShapes Go.ChangeAt Go.RowKit
open Go Abs rows

set_option maxRecDepth 100000 in
theorem contract (H : Type) (enc : TypeId × Value → H) (F : Stop.Interp) (W : World) (base : Nat) (args : Array Value) (ds gs : List (DataW H)) (before : List MemPlace)
    (hval : ∀ (j : Nat) t v, Tryz.f7.params[j]? = some t → args[j]? = some v → Value.okWide Tryz.prog W .any base t v)
    (hW : DataW.Whole enc Tryz.prog Tryz.f7.params.toList Rows.printerTextsSpec.vars false W args.toList ds gs before) (hk : Rows.uptoSmall H (ds ++ gs) = true) :
    Calls Tryz.prog 7 args W fun e W' => ∃ v, e = .returned v ∧ Rows.printerTextsSpec.post enc Tryz.prog Tryz.f7 false true false false W args v W' := by
  have hW' := hW
  obtain ⟨p, q, hA0, hV, rfl, hfz, hnd⟩ := hW
  have hA1 : DataW.TrodAll enc Tryz.prog W 0 (fun _ => true) true Tryz.f7.params.toList args.toList ds p := hA0
  rw [Tryz.params7] at hA1 hval
  obtain ⟨v0, vs0, d0, ds0, p0, q0, hargs, rfl, rfl, h0, r0⟩ := trodAll_cons hA1
  obtain ⟨v1, vs1, d1, ds1, p1, q1, rfl, rfl, rfl, h1, r1⟩ := trodAll_cons r0
  obtain ⟨rfl, rfl, rfl⟩ := trodAll_nil r1
  obtain rfl : args = #[v0, v1] := by cases args; simp_all
  obtain ⟨rfl, rfl⟩ := trodVars_none hV
  obtain ⟨i, rfl, rfl, rfl, w2⟩ := open_int Tryz.underlying3 (hval 1 3 v1 rfl rfl) h1
  have hb : Rows.uptoBulk d0 ≤ limit ∧ Rows.uptoBulk d0 ≤ 1048576 := by
    unfold Rows.uptoSmall at hk
    simp only [List.append_nil, Rows.uptoBulkAll, decide_eq_true_eq] at hk
    unfold limit
    omega
  obtain ⟨ka, ta, pa, ea, kva, ya, c1, c2, c3⟩ := trod_isNode h0 hb.1
  have hs' := law_texts (k := ka) (t := ta) (p := pa) (e := ea) c2 (by unfold limit; omega) i
  have a0 := arg_struct (fm := fm) plain (by decide : 24 ∈ S) Tryz.underlying24 (hval 0 24 v0 rfl rfl) h0
  rw [c1] at a0
  have := law_calls (again := false) (fresh := true) (handsOn := false) (s := Rows.printerTextsSpec) sound2 plain (by rw [Tryz.params7]; decide) hW' rfl rfl (rfl : Tryz.f7.resultTypes = #[4]) Tryz.underlying4 (.cons _ _ _ _ a0 (.cons _ _ _ _ (.int _ _) .nil)) hs'
  exact this

set_option maxRecDepth 100000 in
theorem lifted (os : Os) (started : os.Started) (H : Type) (enc : TypeId × Value → H) (F : Stop.Interp) :
    ReturnsInHanded {} Tryz.checked os 7 .any ((Rows.OpenSpec.upto Rows.printerTextsSpec).pre6 enc Tryz.prog Tryz.f7 Rows.printerTextsUptoRow.domain false) (((Rows.OpenSpec.upto Rows.printerTextsSpec).at F).post enc Tryz.prog Tryz.f7 false true false false) := by
  refine returnsInHanded_of_cond (C := Tryz.checked) (s := Rows.OpenSpec.upto Rows.printerTextsSpec) (k := Rows.uptoSmall) rfl own started (by kernel_rfl) Tryz.func7
    (OpenSpec.witness (enc := enc) (C := Tryz.checked) (s := Rows.OpenSpec.upto Rows.printerTextsSpec) (k := Rows.uptoSmall) rfl false ⟨#[], #[node0, .int .i64 0], []⟩ 8 (by kernel_rfl) (by kernel_rfl) (by kernel_rfl)
      (x := ([data0, .lit (.int .i64 0)], [], [])) (by kernel_rfl) rfl (by kernel_rfl)) ?_
  intro W base args ds gs before hval hW _ hk _
  exact contract H enc F W base args ds gs before hval hW hk

theorem over : Rows.PrinterTextsUptoSaid :=
  OpenClaim.holds_of_cond 7 Tryz.f7 rfl rfl rfl rfl rfl rfl rfl ⟨rfl, rfl, rfl, rfl, rfl⟩ rfl rfl rfl rfl rfl (by kernel_rfl) Tryz.func7 (by kernel_rfl)
    (of_decide_eq_true (by kernel_rfl)) (by unfold Func.isWrapper; first | (rw [if_pos (by decide +kernel)]; kernel_rfl) | (rw [if_neg (by decide +kernel)]; exact ⟨rfl, rfl⟩))
    (fun os started H enc _ F => lifted os started H enc F)

end Go.Proofs.YtdhgdpokdhjanaaGreat.texts
