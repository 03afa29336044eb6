/- tree.shaped: the machine's answer is what the rounds come to, node by node. -/
import Derived.Test.YtdhgdpokdhjanaaGreatX2
set_option linter.unusedSimpArgs false
set_option linter.unusedVariables false
namespace Go.Proofs.YtdhgdpokdhjanaaGreat.Abs
open Go

def shAssign : ACode := .region none [⟨some 5, .alloc [.int .i64 0, .str [], .int .i64 0, .int .i64 0, .nils], none⟩,
  ⟨none, .store 5 (.tmp 5) (.tmp 11), none⟩] [3, 4, 5]
def shBody : ACode := .block 1 (.seq (.region none [⟨some 13, .load 1 false (.tmp 3), none⟩,
  ⟨some 14, .fieldAddr 0 (.tmp 5), none⟩,
  ⟨some 15, .load 1 false (.tmp 14), none⟩,
  ⟨some 16, .lookup .int (.agg [.nilf, .nils, .nilf, .int .i64 0]) true (.tmp 13) (.tmp 15), none⟩,
  ⟨some 12, .mov (.tmp 16), none⟩,
  ⟨some 17, .extract (.tmp 12) 0, none⟩,
  ⟨some 18, .extract (.tmp 12) 1, none⟩,
  ⟨some 6, .alloc [.nilf, .nils, .nilf, .int .i64 0], none⟩,
  ⟨none, .store 4 (.tmp 6) (.tmp 17), none⟩,
  ⟨some 7, .mov (.tmp 18), none⟩] [4, 5, 6, 7]) (.seq (.region none [⟨some 19, .load 1 false (.tmp 4), none⟩,
  ⟨some 20, .mov (.tmp 19), none⟩,
  ⟨some 21, .mov (.tmp 7), some (20, true)⟩,
  ⟨some 22, .pick (.tmp 20) (.tmp 21) (.val (.bool false)), none⟩,
  ⟨some 23, .mov (.tmp 22), none⟩,
  ⟨some 24, .load 4 true (.tmp 6), some (23, true)⟩,
  ⟨some 25, .load 5 true (.tmp 5), some (23, true)⟩,
  ⟨some 26, .call (.fn 371) [(.tmp 24), (.tmp 25)], some (23, true)⟩,
  ⟨some 27, .pick (.tmp 23) (.tmp 26) (.val (.bool false)), none⟩,
  ⟨none, .store 1 (.tmp 4) (.tmp 27), none⟩] [4, 5]) (.seq (.region none [⟨some 28, .fieldAddr 0 (.tmp 5), none⟩,
  ⟨some 29, .load 1 false (.tmp 28), none⟩,
  ⟨some 30, .bin .eql .num (.tmp 29) (.val (.int .i64 4)), none⟩,
  ⟨some 31, .mov (.tmp 30), none⟩,
  ⟨some 32, .load 1 false (.tmp 4), some (31, true)⟩,
  ⟨some 33, .pick (.tmp 31) (.tmp 32) (.val (.bool false)), none⟩] [4, 5, 33]) (.cond (.tmp 33) (.region none [⟨some 34, .fieldAddr 4 (.tmp 5), none⟩,
  ⟨some 35, .load 1 false (.tmp 34), none⟩,
  ⟨some 36, .indexAddr 5 (.tmp 35) (.val (.int .i64 0)), none⟩,
  ⟨some 37, .fieldAddr 1 (.tmp 36), none⟩,
  ⟨some 38, .load 1 false (.tmp 37), none⟩,
  ⟨some 39, .bin .eql .num (.tmp 38) (.val (.str [105, 110, 116])), none⟩,
  ⟨some 40, .mov (.tmp 39), none⟩,
  ⟨some 41, .fieldAddr 4 (.tmp 5), some (40, false)⟩,
  ⟨some 42, .load 1 false (.tmp 41), some (40, false)⟩,
  ⟨some 43, .indexAddr 5 (.tmp 42) (.val (.int .i64 0)), some (40, false)⟩,
  ⟨some 44, .fieldAddr 1 (.tmp 43), some (40, false)⟩,
  ⟨some 45, .load 1 false (.tmp 44), some (40, false)⟩,
  ⟨some 46, .bin .eql .num (.tmp 45) (.val (.str [98, 111, 111, 108])), some (40, false)⟩,
  ⟨some 47, .pick (.tmp 40) (.val (.bool true)) (.tmp 46), none⟩,
  ⟨none, .store 1 (.tmp 4) (.tmp 47), none⟩] []) (.skip)))))

def tabV : AVal := .imap (ksOf tab) (vsOf tab)
def okOf : ASt → Option Bool
  | ⟨_, [.cells [.bool b]]⟩ => some b
  | _ => none

/-- One round: what 'ok' is behind it. -/
def stp (K : CallFn) (L : LoopFn) (x : List AVal) (ok : Bool) : Option Bool :=
  (exec K L shAssign [(3, .ipt [tabV] 0), (4, .ref 0 0), (11, .agg x)] (okSt ok)).bind fun r => match r with
    | (.normal, A, s) => (exec K L shBody A s).bind fun r => match r with
      | (.normal, _, s2) => okOf (s2.trunc 1)
      | _ => none
    | _ => none

def shapedK (k : Nat) (cs : List AVal) : Option Bool := match cs with
  | [.int .i64 a, .str t, .int .i64 p, .int .i64 e, kv] => (preV kv).bind fun y => stepsF (stp (upto C1 k).1 (upto C1 k).2) (cs :: y) true
  | _ => none

theorem okOf_some {s : ASt} {b : Bool} (hn : s.n = 1) (h : okOf s = some b) : s = okSt b := by
  unfold okOf at h
  split at h
  · cases h
    simp only at hn
    subst hn
    rfl
  · cases h

section
variable {P : Program} {fm : Nat → Nat} {l D : Nat} {rec : Go.Loop} {gB g g' g'' : Gh} {ok ok' : Bool} {w w' w'' : World}

structure RecOk (P : Program) (fm : Nat → Nat) (rec : Go.Loop) (gB : Gh) (nt : Nat) : Prop where
  st : rec.state = .ready
  pend : rec.pending = none
  params : rec.params = #[11]
  assign : okCode P fm nt shAssign rec.assign = true
  body : okCode P fm nt shBody rec.body = true
  size : rec.tmps.size = nt
  big : 11 < nt
  tabs : ∃ v, rec.tmps[3]? = some v ∧ Rep fm gB 1 (.ipt [tabV] 0) v
  oks : ∃ v, rec.tmps[4]? = some v ∧ Rep fm gB 1 (.ref 0 0) v

theorem rounds_go (hC : Sound P fm C1) (k : Nat) {nt : Nat} (hr : RecOk P fm rec gB nt) : RoundsGo P fm l D rec gB (stp (upto C1 k).1 (upto C1 k).2) := by
  intro x ok ok' g w v m hx hL hv
  obtain ⟨hcall, hloop⟩ := upto_sound hC k
  have hmx := hC.mixed
  refine roundIn_of_wpIn (F := FW none) trivial ?_
  show rec.assign.wpIn (FW (some l)) m P _ _ _
  unfold stp at hx
  obtain ⟨⟨e1, A1, s1⟩, h1, hx⟩ := bind_some' hx
  cases e1 <;> simp only at hx <;> try (cases hx; done)
  obtain ⟨⟨e2, A2, s2⟩, h2, hx⟩ := bind_some' hx
  cases e2 <;> simp only at hx <;> try (cases hx; done)
  obtain ⟨v3, t3, r3⟩ := hr.tabs
  obtain ⟨v4, t4, r4⟩ := hr.oks
  have hF : FrameRep fm g 1 nt [(3, .ipt [tabV] 0), (4, .ref 0 0), (11, .agg x)] (rec.tmps.setIfInBounds 11 v) := by
    refine ⟨by simp [hr.size], fun d hd => ?_⟩
    have hb := hr.big
    have hs := hr.size
    by_cases e3 : 3 = d
    · subst e3
      refine ⟨v3, by rw [Array.getElem?_setIfInBounds_ne (by omega)]; exact t3, ?_⟩
      exact (r3.mono hL.le (Nat.le_refl _)).slot
    by_cases e4 : 4 = d
    · subst e4
      refine ⟨v4, by rw [Array.getElem?_setIfInBounds_ne (by omega)]; exact t4, ?_⟩
      exact (r4.mono hL.le (Nat.le_refl _)).slot
    by_cases e11 : 11 = d
    · subst e11
      refine ⟨v, by simp [hs, hb], ?_⟩
      exact hv.slot
    · exact absurd (by simp [Frame.get, e3, e4, e11]) hd
  refine exec_sound (r := some l) hmx hcall (hloop nt) shAssign rec.assign _ (okSt ok) g w _ .normal A1 s1 _ hr.assign hL.sim hF h1 (fun a1 w1 g1 p1 => ?_)
  obtain ⟨fl1, hl1⟩ := hL.fl.kept p1.kept
  have hl1' : w1.heap[l]? = some (.loop rec) := by rw [hl1, hL.hl]
  refine ⟨_, run_beginRound hl1' hr.st, ?_⟩
  have hbl : l < w1.heap.size := (Array.getElem?_eq_some_iff.1 hl1').1
  have hS2 : Sim fm s1 g1 (w1.putObj l (.loop { rec with state := .busy })) := p1.sim.others fl1 (fun k hk => World.putObj_heap_other hk) (by simp)
  refine exec_sound (r := some l) hmx hcall (hloop nt) shBody rec.body A1 s1 g1 _ a1 .normal A2 s2 _ hr.body hS2 p1.frame h2 (fun a2 w3 g2 p2 => ?_)
  obtain ⟨fl2, hl2⟩ := fl1.kept p2.kept
  have hl2' : w3.heap[l]? = some (.loop { rec with state := .busy }) := by rw [hl2]; exact World.putObj_heap_same hbl
  have hbl3 : l < w3.heap.size := (Array.getElem?_eq_some_iff.1 hl2').1
  have hn2 : 1 ≤ s2.n := Nat.le_trans p1.n p2.n
  have hst : s2.trunc 1 = okSt ok' := okOf_some rfl hx
  have hrec : ({ { rec with state := .busy } with state := if (none : Option Code).isNone then .ready else .done, pending := none } : Go.Loop) = rec := by
    have h1 := hr.st
    have h2 := hr.pend
    cases rec
    simp only at h1 h2
    subst h1 h2
    rfl
  refine ⟨_, _, run_endRound none hl2', rfl, g2.frozen 1 w3, ?_, ?_, ?_⟩
  · rw [hrec]
    have hSf := p2.sim.frozen (m := 1) hn2
    rw [hst] at hSf
    refine hSf.others ?_ (fun k hk => World.putObj_heap_other hk) (by simp)
    exact (fl2.kept (frozen_kept (w := w3) 1)).1
  · exact (p1.le.trans (p2.le.less p1.n)).trans (frozen_le p2.sim 1)
  · rw [hrec]
    have hfk := frozen_kept (g := g2) (w := w3) 1
    refine ⟨fun k y hk => ?_, ?_, ?_, fun k y hk => ?_⟩
    · have a1 := p1.kept.blk k y hk
      have hk1 : g1.own k = .other y := by rw [a1.1.1, hk]
      have a2 := p2.kept.blk k y hk1
      have hk2 : g2.own k = .other y := by rw [a2.1.1, hk1]
      have a3 := hfk.blk k y hk2
      refine ⟨(a1.1.trans a2.1).trans a3.1, ?_⟩
      by_cases e : k = l
      · subst e
        rw [World.putObj_heap_same hbl3, hL.hl]
      · rw [World.putObj_heap_other e, a2.2, World.putObj_heap_other e, a1.2]
    · show w3.os = _
      rw [p2.kept.os]
      exact p1.kept.os
    · show w3.output = _
      rw [p2.kept.out]
      exact p1.kept.out
    · have a1 := p1.kept.blk k y hk
      have hk1 : g1.own k = .other y := by rw [a1.1.1, hk]
      have a2 := p2.kept.blk k y hk1
      have hk2 : g2.own k = .other y := by rw [a2.1.1, hk1]
      rw [hfk.mst k y hk2, p2.kept.mst k y hk1, p1.kept.mst k y hk]

end
end Go.Proofs.YtdhgdpokdhjanaaGreat.Abs
