/- PrinterLevels: for every two nodes and every index of bulk up to the bound the law returns true, and changes nothing that came in. -/
import Derived.Test.YtdhgdpokdhjanaaGreatRows
import Derived.Test.YtdhgdpokdhjanaaGreatA32
import Derived.Test.YtdhgdpokdhjanaaGreatX12
import Derived.KernelRfl
import Derived.WalkKit
import Derived.ProofKit
set_option linter.unusedSimpArgs false
set_option linter.unusedVariables false
namespace Go.Proofs.YtdhgdpokdhjanaaGreat.levels
open Go.ChangeShapes Go.WideShapes Go.ChangeAt Go.RowKit
open Go Abs

theorem own : ownKnob Tryz.prog.godebug = none := by kernel_rfl
def S : List Nat := [3, 9, 24, 22]
theorem plain : ∀ t ∈ S, plainAt Tryz.prog S t = true := by
  have h : S.all (plainAt Tryz.prog S) = true := by kernel_rfl
  exact fun t ht => List.all_eq_true.1 h t ht

/-! ### What comes in is a tree of nodes -/

theorem bulk_append {H : Type} : ∀ a b : List (DataW H), Rows.uptoBulkAll (a ++ b) = Rows.uptoBulkAll a + Rows.uptoBulkAll b
  | [], b => by simp [Rows.uptoBulkAll]
  | d :: a, b => by simp [Rows.uptoBulkAll, bulk_append a b]; omega

/-- A reading that is a node. -/
def IsNode {H : Type} (d : DataW H) : Prop := ∃ k t p e kv y, dcells d = kid5 k t p e kv ∧ preV kv = some y ∧ y.length + 1 ≤ Rows.uptoBulk d

theorem nodes_cells {H : Type} : ∀ {l : List (DataW H)}, (∀ d ∈ l, IsNode d) → ∃ z, preL (dcellsL l) = some z ∧ z.length ≤ Rows.uptoBulkAll l ∧ (dcellsL l).length = 5 * l.length
  | [], _ => ⟨[], rfl, by simp, rfl⟩
  | d :: l, h => by
    obtain ⟨k, t, p, e, kv, y, h1, h2, h3⟩ := h d (by simp)
    obtain ⟨z, q1, q2, q3⟩ := nodes_cells (l := l) (fun d hd => h d (by simp [hd]))
    refine ⟨kid5 k t p e kv :: (y ++ z), ?_, ?_, ?_⟩
    · simp only [dcellsL, h1, kid5, List.cons_append, List.nil_append, preL, h2, q1, Option.bind_some, Option.map_some]
    · simp only [List.length_cons, List.length_append, Rows.uptoBulkAll]
      omega
    · simp only [dcellsL, h1, List.length_append, List.length_cons, q3, kid5, List.length_nil]
      omega

theorem trod_node {H : Type} {enc : TypeId × Value → H} {W : World} {sp : Nat → Bool} {held : Bool} : ∀ (fuel : Nat) (cs : List Value) (x : DataW H × List MemPlace), DataW.trod enc Tryz.prog W 0 sp held fuel 24 cs = some x → Rows.uptoBulk x.1 ≤ limit → IsNode x.1 := by
  intro fuel
  induction fuel using Nat.strongRecOn with
  | _ fuel ih =>
    intro cs x h hb
    obtain ⟨xs, n, rfl, rfl, hcl, hxl, hall⟩ := DataW.trod_struct Tryz.underlying24 h
    have a0 := hall 0 _ rfl
    have a1 := hall 1 _ rfl
    have a2 := hall 2 _ rfl
    have a3 := hall 3 _ rfl
    have a4 := hall 4 _ rfl
    have hxl : xs.length = 5 := hxl
    match xs, hxl with
    | [x0, x1, x2, x3, x4], _ =>
      simp only [List.getElem?_cons_zero, List.getElem?_cons_succ] at a0 a1 a2 a3 a4
      obtain ⟨k, e0, rfl, _⟩ := DataW.trod_int Tryz.underlying3 a0
      obtain ⟨t, e1, rfl, _⟩ := DataW.trod_string Tryz.underlying9 a1
      obtain ⟨p, e2, rfl, _⟩ := DataW.trod_int Tryz.underlying3 a2
      obtain ⟨e, e3, rfl, _⟩ := DataW.trod_int Tryz.underlying3 a3
      simp only [List.map_cons, List.map_nil, Rows.uptoBulk, Rows.uptoBulkAll] at hb ⊢
      rcases DataW.trod_slice Tryz.underlying22 a4 with ⟨_, rfl⟩ | ⟨a, len, cap, elems, rest, m, rfl, _, rfl, _, hle, _, hlen, hel, _⟩
      · exact ⟨k, t.data.toList, p, e, .nils, [], by simp [dcells, dcellsL, kid5], rfl, by simp [Rows.uptoBulk, Rows.uptoBulkAll]⟩
      · simp only [Rows.uptoBulk] at hb
        have hbulk : ∀ d ∈ elems.map (·.1), Rows.uptoBulk d ≤ Rows.uptoBulkAll (elems.map (·.1)) := by
          intro d hd
          obtain ⟨l1, l2, e⟩ := List.append_of_mem hd
          rw [e, bulk_append]
          simp only [Rows.uptoBulkAll]
          omega
        have hnodes : ∀ d ∈ elems.map (·.1), IsNode d := by
          intro d hd
          have hbd := hbulk d hd
          obtain ⟨y, hy, rfl⟩ := List.mem_map.1 hd
          obtain ⟨i, hi⟩ := List.mem_iff_getElem?.1 hy
          have hlt : i < len := by rw [← hlen]; exact (List.getElem?_eq_some_iff.1 hi).1
          have h1 := hel i hlt
          rw [hi] at h1
          obtain ⟨l, _, htr⟩ := bind_some' h1
          exact ih m (by omega) l y htr (by omega)
        obtain ⟨z, q1, q2, q3⟩ := nodes_cells hnodes
        rw [List.length_map] at q3
        refine ⟨k, t.data.toList, p, e, .sl (dcellsL (elems.map (·.1))) (elems.map (·.1)).length .none, z, by simp [dcells, dcellsL, kid5], ?_, ?_⟩
        · rw [List.length_map]
          have hn : elems.length ≤ limit := by
            have hone : ∀ l : List (DataW H), l.length ≤ Rows.uptoBulkAll l := by
              intro l
              induction l with
              | nil => simp
              | cons d l ih =>
                have : 1 ≤ Rows.uptoBulk d := by
                  cases d with
                  | lit x => cases x <;> first | exact Nat.le_refl 1 | exact Nat.succ_le_succ (Nat.zero_le _) | (simp [Rows.uptoBulk]; done)
                  | _ => simp only [Rows.uptoBulk]; omega
                simp only [Rows.uptoBulkAll, List.length_cons]
                omega
            have := hone (elems.map (·.1))
            rw [List.length_map] at this
            omega
          unfold preV
          rw [if_pos ⟨q3, hn⟩]
          exact q1
        · simp only [Rows.uptoBulk, Rows.uptoBulkAll]
          omega

theorem trod_isNode {H : Type} {enc : TypeId × Value → H} {W : World} {sp : Nat → Bool} {held : Bool} {v : Value} {d : DataW H} {p : List MemPlace} (h : DataW.Trod enc Tryz.prog W 0 sp held 24 v d p) (hb : Rows.uptoBulk d ≤ limit) : IsNode d := by
  obtain ⟨fuel, h⟩ := h
  exact trod_node fuel _ (d, p) h hb

set_option maxRecDepth 100000 in
theorem contract (H : Type) (enc : TypeId × Value → H) (F : Stop.Interp) (W : World) (base : Nat) (args : Array Value) (ds gs : List (DataW H)) (before : List MemPlace)
    (hval : ∀ (j : Nat) t v, Tryz.f3.params[j]? = some t → args[j]? = some v → Value.okWide Tryz.prog W .any base t v)
    (hW : DataW.Whole enc Tryz.prog Tryz.f3.params.toList Rows.printerLevelsSpec.vars false W args.toList ds gs before) (hk : Rows.uptoSmall H (ds ++ gs) = true) :
    Calls Tryz.prog 3 args W fun e W' => ∃ v, e = .returned v ∧ Rows.printerLevelsSpec.post enc Tryz.prog Tryz.f3 false true false false W args v W' := by
  have hW' := hW
  obtain ⟨p, q, hA0, hV, rfl, hfz, hnd⟩ := hW
  have hA1 : DataW.TrodAll enc Tryz.prog W 0 (fun _ => true) true Tryz.f3.params.toList args.toList ds p := hA0
  rw [Tryz.params3] at hA1 hval
  obtain ⟨v0, vs0, d0, ds0, p0, q0, hargs, rfl, rfl, h0, r0⟩ := trodAll_cons hA1
  obtain ⟨v1, vs1, d1, ds1, p1, q1, rfl, rfl, rfl, h1, r1⟩ := trodAll_cons r0
  obtain ⟨v2, vs2, d2, ds2, p2, q2, rfl, rfl, rfl, h2, r2⟩ := trodAll_cons r1
  obtain ⟨rfl, rfl, rfl⟩ := trodAll_nil r2
  obtain rfl : args = #[v0, v1, v2] := by cases args; simp_all
  obtain ⟨rfl, rfl⟩ := trodVars_none hV
  obtain ⟨i, rfl, rfl, rfl, w2⟩ := open_int Tryz.underlying3 (hval 2 3 v2 rfl rfl) h2
  have hb : Rows.uptoBulk d0 ≤ limit ∧ Rows.uptoBulk d1 ≤ limit ∧ Rows.uptoBulk d0 ≤ 1048576 ∧ Rows.uptoBulk d1 ≤ 1048576 := by
    unfold Rows.uptoSmall at hk
    simp only [List.append_nil, Rows.uptoBulkAll, decide_eq_true_eq] at hk
    unfold limit
    omega
  obtain ⟨ka, ta, pa, ea, kva, ya, c1, c2, c3⟩ := trod_isNode h0 hb.1
  obtain ⟨kb, tb, pb, eb, kvb, yb, e1, e2, e3⟩ := trod_isNode h1 hb.2.1
  have hs' := law_levels (k := ka) (t := ta) (p := pa) (e := ea) (k2 := kb) (t2 := tb) (p2 := pb) (e2 := eb) (i := i) c2 e2 (by omega) (by omega)
  have a0 := arg_struct (fm := fm) plain (by decide : 24 ∈ S) Tryz.underlying24 (hval 0 24 v0 rfl rfl) h0
  have a1 := arg_struct (fm := fm) plain (by decide : 24 ∈ S) Tryz.underlying24 (hval 1 24 v1 rfl rfl) h1
  rw [c1] at a0
  rw [e1] at a1
  have := law_calls (again := false) (fresh := true) (handsOn := false) (s := Rows.printerLevelsSpec) sound2 plain (by rw [Tryz.params3]; decide) hW' rfl rfl (rfl : Tryz.f3.resultTypes = #[4]) Tryz.underlying4 (.cons _ _ _ _ a0 (.cons _ _ _ _ a1 (.cons _ _ _ _ (.int _ _) .nil))) hs'
  exact this

def node0 : Value := .agg #[.int .i64 0, .string ⟨#[]⟩, .int .i64 0, .int .i64 0, .slice none 0 0]
def data0 {H : Type} : DataW H := .agg [.lit (.int .i64 0), .lit (.string []), .lit (.int .i64 0), .lit (.int .i64 0), .nil]

set_option maxRecDepth 100000 in
theorem lifted (os : Os) (started : os.Started) (H : Type) (enc : TypeId × Value → H) (F : Stop.Interp) :
    ReturnsInHanded {} Tryz.checked os 3 .any ((Rows.OpenSpec.upto Rows.printerLevelsSpec).pre6 enc Tryz.prog Tryz.f3 Rows.printerLevelsUptoRow.domain false) (((Rows.OpenSpec.upto Rows.printerLevelsSpec).at F).post enc Tryz.prog Tryz.f3 false true false false) := by
  refine returnsInHanded_of_cond (C := Tryz.checked) (s := Rows.OpenSpec.upto Rows.printerLevelsSpec) (k := Rows.uptoSmall) rfl own started (by kernel_rfl) Tryz.func3
    (OpenSpec.witness (enc := enc) (C := Tryz.checked) (s := Rows.OpenSpec.upto Rows.printerLevelsSpec) (k := Rows.uptoSmall) rfl false ⟨#[], #[node0, node0, .int .i64 0], []⟩ 8 (by kernel_rfl) (by kernel_rfl) (by kernel_rfl)
      (x := ([data0, data0, .lit (.int .i64 0)], [], [])) (by kernel_rfl) rfl (by kernel_rfl)) ?_
  intro W base args ds gs before hval hW _ hk _
  exact contract H enc F W base args ds gs before hval hW hk

theorem over : Rows.PrinterLevelsUptoSaid :=
  OpenClaim.holds_of_cond 3 Tryz.f3 rfl rfl rfl rfl rfl rfl rfl ⟨rfl, rfl, rfl, rfl, rfl⟩ rfl rfl rfl rfl rfl (by kernel_rfl) Tryz.func3 (by kernel_rfl)
    (of_decide_eq_true (by kernel_rfl)) (by unfold Func.isWrapper; first | (rw [if_pos (by decide +kernel)]; kernel_rfl) | (rw [if_neg (by decide +kernel)]; exact ⟨rfl, rfl⟩))
    (fun os started H enc _ F => lifted os started H enc F)

end Go.Proofs.YtdhgdpokdhjanaaGreat.levels
