/- Closed calls whose answers the kernel reckons; written by a program. -/
import Derived.Test.YtdhgdpokdhjanaaGreatX5
import Derived.Test.YtdhgdpokdhjanaaGreatA27
set_option linter.unusedSimpArgs false
set_option linter.unusedVariables false
namespace Go.Proofs.YtdhgdpokdhjanaaGreat.Abs
open Go
def w1T : AVal := (.str [112, 114, 111, 99, 32, 102, 40, 120, 41, 123, 105, 102, 40, 120, 60, 49, 41, 123, 120, 61, 40, 49, 43, 120, 41, 42, 45, 50, 59, 125, 125])
def w2T : AVal := (.str [97, 32, 45, 32, 40, 98, 32, 45, 32, 99, 41])
def w3T : AVal := (.str [40, 97, 32, 45, 32, 98, 41, 32, 45, 32, 99])
def n1C : List AVal := [(.int .i64 2), (.str []), (.int .i64 0), (.int .i64 31), (.sl [(.int .i64 5), (.str [102]), (.int .i64 0), (.int .i64 31), (.sl [(.int .i64 6), (.str []), (.int .i64 6), (.int .i64 9), (.sl [(.int .i64 7), (.str [120]), (.int .i64 7), (.int .i64 8), (.sl [(.int .i64 0), (.str []), (.int .i64 8), (.int .i64 8), .nils] 1 .exact)] 1 .none), (.int .i64 0), (.str []), (.int .i64 9), (.int .i64 9), .nils, (.int .i64 11), (.str []), (.int .i64 9), (.int .i64 31), (.sl [(.int .i64 14), (.str []), (.int .i64 10), (.int .i64 30), (.sl [(.int .i64 29), (.str [60]), (.int .i64 13), (.int .i64 16), (.sl [(.int .i64 20), (.str [120]), (.int .i64 13), (.int .i64 14), .nils, (.int .i64 24), (.str [49]), (.int .i64 15), (.int .i64 16), .nils] 2 .exact), (.int .i64 11), (.str []), (.int .i64 17), (.int .i64 30), (.sl [(.int .i64 13), (.str []), (.int .i64 18), (.int .i64 29), (.sl [(.int .i64 20), (.str [120]), (.int .i64 18), (.int .i64 19), .nils, (.int .i64 29), (.str [42]), (.int .i64 20), (.int .i64 28), (.sl [(.int .i64 29), (.str [43]), (.int .i64 21), (.int .i64 24), (.sl [(.int .i64 24), (.str [49]), (.int .i64 21), (.int .i64 22), .nils, (.int .i64 20), (.str [120]), (.int .i64 23), (.int .i64 24), .nils] 2 .exact), (.int .i64 28), (.str [45]), (.int .i64 26), (.int .i64 28), (.sl [(.int .i64 24), (.str [50]), (.int .i64 27), (.int .i64 28), .nils] 1 .exact)] 2 .exact)] 2 .exact)] 1 .none), (.int .i64 0), (.str []), (.int .i64 30), (.int .i64 30), .nils] 3 .exact)] 1 .none)] 3 .exact)] 1 .none)]
def n2C : List AVal := [(.int .i64 29), (.str [45]), (.int .i64 0), (.int .i64 11), (.sl [(.int .i64 20), (.str [97]), (.int .i64 0), (.int .i64 1), .nils, (.int .i64 29), (.str [45]), (.int .i64 5), (.int .i64 10), (.sl [(.int .i64 20), (.str [98]), (.int .i64 5), (.int .i64 6), .nils, (.int .i64 20), (.str [99]), (.int .i64 9), (.int .i64 10), .nils] 2 .exact)] 2 .exact)]
def n3C : List AVal := [(.int .i64 29), (.str [45]), (.int .i64 0), (.int .i64 11), (.sl [(.int .i64 29), (.str [45]), (.int .i64 1), (.int .i64 6), (.sl [(.int .i64 20), (.str [97]), (.int .i64 1), (.int .i64 2), .nils, (.int .i64 20), (.str [98]), (.int .i64 5), (.int .i64 6), .nils] 2 .exact), (.int .i64 20), (.str [99]), (.int .i64 10), (.int .i64 11), .nils] 2 .exact)]
def scan1V : AVal := (.tup [(.sl [(.int .i64 1), (.int .i64 0), (.int .i64 0), (.int .i64 4), (.int .i64 0), (.int .i64 4), (.int .i64 5), (.int .i64 6), (.int .i64 3), (.int .i64 6), (.int .i64 6), (.int .i64 7), (.int .i64 0), (.int .i64 7), (.int .i64 7), (.int .i64 8), (.int .i64 3), (.int .i64 8), (.int .i64 8), (.int .i64 9), (.int .i64 3), (.int .i64 9), (.int .i64 9), (.int .i64 10), (.int .i64 1), (.int .i64 10), (.int .i64 10), (.int .i64 12), (.int .i64 3), (.int .i64 12), (.int .i64 12), (.int .i64 13), (.int .i64 0), (.int .i64 13), (.int .i64 13), (.int .i64 14), (.int .i64 3), (.int .i64 14), (.int .i64 14), (.int .i64 15), (.int .i64 2), (.int .i64 15), (.int .i64 15), (.int .i64 16), (.int .i64 3), (.int .i64 16), (.int .i64 16), (.int .i64 17), (.int .i64 3), (.int .i64 17), (.int .i64 17), (.int .i64 18), (.int .i64 0), (.int .i64 18), (.int .i64 18), (.int .i64 19), (.int .i64 3), (.int .i64 19), (.int .i64 19), (.int .i64 20), (.int .i64 3), (.int .i64 20), (.int .i64 20), (.int .i64 21), (.int .i64 2), (.int .i64 21), (.int .i64 21), (.int .i64 22), (.int .i64 3), (.int .i64 22), (.int .i64 22), (.int .i64 23), (.int .i64 0), (.int .i64 23), (.int .i64 23), (.int .i64 24), (.int .i64 3), (.int .i64 24), (.int .i64 24), (.int .i64 25), (.int .i64 3), (.int .i64 25), (.int .i64 25), (.int .i64 26), (.int .i64 3), (.int .i64 26), (.int .i64 26), (.int .i64 27), (.int .i64 2), (.int .i64 27), (.int .i64 27), (.int .i64 28), (.int .i64 3), (.int .i64 28), (.int .i64 28), (.int .i64 29), (.int .i64 3), (.int .i64 29), (.int .i64 29), (.int .i64 30), (.int .i64 3), (.int .i64 30), (.int .i64 30), (.int .i64 31), (.int .i64 5), (.int .i64 31), (.int .i64 31), (.int .i64 31)] 27 .none), (.int .i64 0)])

theorem uptoR_is (C : Cfg) (k : Nat) : uptoR C k = upto C k := by rw [uptoR_eq, uptoF_eq]

theorem stp_mono {k m : Nat} (h : k ≤ m) {x : List AVal} {ok b : Bool} (hs : stp (upto C1 k).1 (upto C1 k).2 x ok = some b) : stp (upto C1 m).1 (upto C1 m).2 x ok = some b := by
  unfold stp at hs ⊢
  obtain ⟨⟨e1, A1, s1⟩, h1, hs⟩ := bind_some' hs
  rw [exec_mono (upto_le C1 h).1 (upto_le C1 h).2 _ _ _ _ h1]
  simp only [Option.bind_some]
  cases e1 <;> simp only at hs ⊢ <;> try (cases hs; done)
  obtain ⟨⟨e2, A2, s2⟩, h2, hs⟩ := bind_some' hs
  rw [exec_mono (upto_le C1 h).1 (upto_le C1 h).2 _ _ _ _ h2]
  exact hs
theorem stepsF_mono {f f' : List AVal → Bool → Option Bool} (h : ∀ x ok b, f x ok = some b → f' x ok = some b) : ∀ {l : List (List AVal)} {ok b : Bool}, stepsF f l ok = some b → stepsF f' l ok = some b
  | [], _, _, hs => hs
  | x :: l, ok, b, hs => by
    obtain ⟨c, h1, h2⟩ := bind_some' hs
    simp only [stepsF, h _ _ _ h1, Option.bind_some]
    exact stepsF_mono h h2
theorem shapedK_mono {k m : Nat} (h : k ≤ m) {cs : List AVal} {b : Bool} (hs : shapedK k cs = some b) : shapedK m cs = some b := by
  unfold shapedK at hs ⊢
  split at hs
  · obtain ⟨y, hy, hs⟩ := bind_some' hs
    simp only [hy, Option.bind_some]
    exact stepsF_mono (fun x ok b h1 => stp_mono h h1) hs
  · cases hs
theorem shapedV_of {k : Nat} {cs : List AVal} {b : Bool} (hs : shapedK k cs = some b) : shapedV cs = some b := by
  have hh : ∃ k b, shapedK k cs = some b := ⟨k, b, hs⟩
  unfold shapedV
  rw [dif_pos hh]
  have h1 := shapedK_mono (Nat.le_max_left hh.choose k) hh.choose_spec.choose_spec
  have h2 := shapedK_mono (Nat.le_max_right hh.choose k) hs
  rw [h1] at h2
  exact h2
theorem call_shaped {k : Nat} {cs : List AVal} {b : Bool} (hu : underL 0 cs = true) (hs : shapedK k cs = some b) (s : ASt) : Call C2 384 [.agg cs] s = some (.bool b, s) := by
  rw [Call_eq]
  show extShaped [.agg cs] s = _
  simp only [extShaped, hu, if_true, shapedV_of hs, Option.map_some]
noncomputable def shapedR (k : Nat) (cs : List AVal) : Option Bool := match cs with
  | [.int .i64 _, .str _, .int .i64 _, .int .i64 _, kv] => (preV kv).bind fun y => stepsF (stp (uptoR C1 k).1 (uptoR C1 k).2) (cs :: y) true
  | _ => none
theorem shapedR_is (k : Nat) (cs : List AVal) : shapedR k cs = shapedK k cs := by
  unfold shapedR shapedK
  rw [uptoR_is]
  split
  · rfl
  · rename_i h
    split
    · exact absurd rfl (h _ _ _ _ _)
    · rfl

theorem know_holds {fs : List Fact} (hfs : ∀ x ∈ fs, x.holds C2) {x : Fact} {k : Nat} (h : (uptoR (C2.know fs) k).1 x.f x.args ⟨0, []⟩ = some (x.v, ⟨0, []⟩)) : x.holds C2 := Call_know hfs h
theorem shaped_holds {k : Nat} {cs : List AVal} {b : Bool} (hu : underL 0 cs = true) (h : shapedR k cs = some b) : (⟨384, [.agg cs], .bool b⟩ : Fact).holds C2 := by
  rw [shapedR_is] at h
  exact call_shaped hu h _
theorem all_nil : ∀ x ∈ ([] : List Fact), x.holds C2 := fun x h => (by cases h)
theorem all_cons {x : Fact} {fs : List Fact} (h : x.holds C2) (hs : ∀ y ∈ fs, y.holds C2) : ∀ y ∈ x :: fs, y.holds C2 := fun y hy => by
  rcases List.mem_cons.1 hy with rfl | hy
  · exact h
  · exact hs y hy
def fScan : Fact := ⟨147, [w1T], scan1V⟩
def fLex : Fact := ⟨201, [w1T], (.sl [] 0 .exact)⟩
def fParse : Fact := ⟨184, [w1T], (.tup [(.agg n1C), (.sl [] 0 .exact), (.int .i64 0)])⟩
def fE2 : Fact := ⟨182, [w2T], (.tup [(.agg n2C), (.sl [] 0 .exact), (.int .i64 0)])⟩
def fE3 : Fact := ⟨182, [w3T], (.tup [(.agg n3C), (.sl [] 0 .exact), (.int .i64 0)])⟩
def fSh1 : Fact := ⟨384, [.agg n1C], .bool true⟩
def fSh2 : Fact := ⟨384, [.agg n2C], .bool true⟩
def fSh3 : Fact := ⟨384, [.agg n3C], .bool true⟩
def fFmt : Fact := ⟨339, [.agg n1C], (.tup [(.str [112, 114, 111, 99, 32, 102, 40, 120, 41, 32, 123, 10, 32, 32, 105, 102, 32, 120, 32, 60, 32, 49, 32, 123, 10, 32, 32, 32, 32, 120, 32, 61, 32, 40, 49, 32, 43, 32, 120, 41, 32, 42, 32, 45, 50, 59, 10, 32, 32, 125, 10, 125, 10]), (.int .i64 0)])⟩
def fP2 : Fact := ⟨338, [.agg n2C], (.tup [(.str [97, 32, 45, 32, 40, 98, 32, 45, 32, 99, 41]), (.int .i64 0)])⟩
def fP3 : Fact := ⟨338, [.agg n3C], (.tup [(.str [97, 32, 45, 32, 98, 32, 45, 32, 99]), (.int .i64 0)])⟩

theorem hScan : fScan.holds C2 := know_holds all_nil (k := 200) (by kernel_rfl)
theorem hLex : fLex.holds C2 := know_holds (all_cons hScan all_nil) (k := 200) (by kernel_rfl)
theorem hParse : fParse.holds C2 := know_holds (all_cons hScan (all_cons hLex all_nil)) (k := 200) (by kernel_rfl)
theorem hE2 : fE2.holds C2 := know_holds all_nil (k := 200) (by kernel_rfl)
theorem hE3 : fE3.holds C2 := know_holds all_nil (k := 200) (by kernel_rfl)
theorem hSh1 : fSh1.holds C2 := shaped_holds (k := 60) (by kernel_rfl) (by kernel_rfl)
theorem hSh2 : fSh2.holds C2 := shaped_holds (k := 60) (by kernel_rfl) (by kernel_rfl)
theorem hSh3 : fSh3.holds C2 := shaped_holds (k := 60) (by kernel_rfl) (by kernel_rfl)
theorem hFmt : fFmt.holds C2 := know_holds (all_cons hSh1 all_nil) (k := 100) (by kernel_rfl)
theorem hP2 : fP2.holds C2 := know_holds (all_cons hSh2 all_nil) (k := 100) (by kernel_rfl)
theorem hP3 : fP3.holds C2 := know_holds (all_cons hSh3 all_nil) (k := 100) (by kernel_rfl)

/-- The examples hold. -/
theorem awake : Call C2 121 [] ⟨0, []⟩ = some (.bool true, ⟨0, []⟩) :=
  Call_know (fs := [fParse, fFmt, fE2, fE3, fP2, fP3]) (all_cons hParse (all_cons hFmt (all_cons hE2 (all_cons hE3 (all_cons hP2 (all_cons hP3 all_nil)))))) (k := 30) (by kernel_rfl)
end Go.Proofs.YtdhgdpokdhjanaaGreat.Abs
