/- tree.shaped, whole. -/
import Derived.Test.YtdhgdpokdhjanaaGreatX3
import Derived.RangeFuncLeaves
set_option linter.unusedSimpArgs false
set_option linter.unusedVariables false
namespace Go.Proofs.YtdhgdpokdhjanaaGreat.Abs
open Go

def shR0 : ACode := .region none [⟨some 1, .box (.tmp 0), none⟩, ⟨some 2, .mov (.val (.bool false)), none⟩] [1]
def shR1 : ACode := .region none [⟨some 8, .callp (.fn 385) [], none⟩, ⟨some 3, .alloc [.nilm], none⟩, ⟨none, .store 1 (.tmp 3) (.tmp 8), none⟩] [1, 3]
def shR2 : ACode := .region none [⟨some 4, .alloc [.bool false], none⟩, ⟨none, .store 1 (.tmp 4) (.val (.bool true)), none⟩] [1, 3, 4]
def shR3 : ACode := .region none [⟨some 9, .load 5 true (.tmp 1), none⟩, ⟨some 10, .callp (.fn 376) [(.tmp 9)], none⟩] [3, 4, 10]
def shR9 : ACode := .seq (.region none [⟨some 48, .load 1 false (.tmp 4), none⟩, ⟨some 2, .mov (.tmp 48), none⟩] [2]) .ret

def shapedOk (P : Program) (fm : Nat → Nat) (fn : Func) : Bool := match fn.body with
  | some (.seq r0 (.seq r1 (.seq r2 (.seq (.seq r3 (.block bq (.rangeFunc (.tmp tq) ps asg bd))) r9)))) =>
    bq == 0 && tq == 10 && ps == #[11] && okCode P fm fn.ntmps shR0 r0 && okCode P fm fn.ntmps shR1 r1 && okCode P fm fn.ntmps shR2 r2 && okCode P fm fn.ntmps shR3 r3 && okCode P fm fn.ntmps shAssign asg && okCode P fm fn.ntmps shBody bd &&
      okCode P fm fn.ntmps shR9 r9 && resOks P [.slot 2] fn.results.toList && decide (11 < fn.ntmps) && !(fn.name == "runtime.NumGoroutine")
  | _ => false

section
variable {P : Program} {fm : Nat → Nat} {l D : Nat} {rec : Go.Loop} {gB g g' g'' : Gh} {ok ok' : Bool} {w w' w'' : World}

theorem nodes1_goes (hC : Sound P fm C1) (hY : fm (2000000 + l) = 1000000 + l) (hen : Enters P (fm 387)) {fn : Func} (hfn : P.funcs[fm 377]? = some fn) (hok : okFunc P fm f377 fn = true) {f : List AVal → Bool → Option Bool} {N : Nat} (hV : VisitGoes P fm l D rec gB f N)
    {k : Int} {t : List UInt8} {p e : Int} {kv : AVal} {y : List (List AVal)} (hkv : preV kv = some y) (hy : y.length + 1 ≤ N) (hs : stepsF f (kid5 k t p e kv :: y) ok = some ok') (hL : Loops fm l D rec gB ok g w) {u : Value}
    (hu : Rep fm g 1 (.ipt (kid5 k t p e kv) 0) u) (m : Nat) : CallsIn (FW none) m P (fm 377) #[yv l, u] w fun en w' => (∃ v, en = .returned v) ∧ ∃ g', Stretch fm ok' g w g' w' := by
  obtain ⟨hcall, hloop⟩ := upto_sound hC 1
  have hmx := hC.mixed
  unfold okFunc at hok
  cases hbody : fn.body with
  | none => rw [hbody] at hok; cases hok
  | some c =>
  rw [hbody] at hok
  simp only [Bool.and_eq_true, decide_eq_true_eq, Bool.not_eq_true'] at hok
  obtain ⟨⟨⟨hok1, hok2⟩, hok3⟩, hok4⟩ := hok
  obtain ⟨rid, ops1, rfl, k1⟩ := okCode_region (aos := opsR f377.code) (keep := []) hok1
  have hYr : Rep fm g 1 (Y l) (yv l) := .yld _ _ hY
  have hR : RepL fm g (okSt ok).n [Y l, .ipt (kid5 k t p e kv) 0] (#[yv l, u] : Array Value).toList := .cons _ _ _ _ hYr (.cons _ _ _ _ hu .nil)
  have hF := params_frame (nt := fn.ntmps) hR hok3
  refine callsIn_of_wp hfn hbody trivial ?_ rfl
  refine region_special (s1 := okSt ok) (s2 := okSt ok') (v := .bool true) (pre := [⟨some 3, .load 5 true (.tmp 1), none⟩, ⟨some 4, .mov (.tmp 0), none⟩]) (sp := ⟨some 5, .call (.fn 387) [(.tmp 3), (.tmp 4)], none⟩)
      (post := []) (keep := []) hcall k1 rfl hL.sim hF (A1 := [(4, Y l), (3, .agg (kid5 k t p e kv)), (0, Y l), (1, .ipt (kid5 k t p e kv) 0)]) ?_ ?_ ?_ rfl (fun a2 w2 g2 p2 => ?_)
  · rfl
  · exact idle_frame rfl
  · intro o1 a5 w5 g5 hok5 p5 K hK
    unfold okOper at hok5
    simp only [Bool.and_eq_true, beq_iff_eq] at hok5
    obtain ⟨⟨⟨hd5, hdn5⟩, hop5⟩, hgd5⟩ := hok5
    clear hdn5 hgd5
    obtain ⟨dst, op, ty, pos, after, gd⟩ := o1
    cases op <;> try (simp only [okOp, Bool.false_eq_true] at hop5; done)
    rename_i c
    obtain ⟨callee, cargs, ts⟩ := c
    cases callee <;> simp only [okOp, Bool.false_eq_true, Bool.and_eq_true] at hop5
    rename_i fo
    obtain ⟨vs, hvs, hrun⟩ := run_call (w := w5) (ty := ty) (ts := ts) p5.frame hop5.1 hop5.2 (i := 387) (first := []) (captured := []) rfl hen
    have hvs' : RepL fm g5 1 [.agg (kid5 k t p e kv), Y l] vs.toList := hvs
    obtain ⟨v, rfl, hv⟩ := visit_args hY hvs'
    have hLp5 := hL.next (ok' := ok) p5.sim p5.le p5.kept
    refine ⟨fun _ _ => trivial, ?_⟩
    rw [Oper.semAt_eq _ _ _ (by intro c e; cases e)]
    have hrun' : (execOp a5.eval { dst := dst, op := .call { callee := .value fo, args := cargs, argTypes := ts }, type := ty, pos := pos, after := after, guard := gd }).run P w5 = .ok (.enter (fm 387) #[v, yv l]) w5 := hrun
    rw [hrun', Oper.uponIn_enter]
    refine ⟨fun h => by simp [FW] at h, ?_⟩
    refine (hV k t p e kv y hkv hy ok ok' hs g5 w5 v (m - 1) hLp5 hv).mono ?_
    rintro en w6 ⟨rfl, g6, h6⟩
    exact hK (.bool true) g6 w6 h6.1 h6.2.1 (Nat.le_refl _) h6.2.2 (.bool true)
  · have p2 : RPost fm fn.ntmps g w (okSt ok) (okSt ok') [] _ a2 g2 w2 := p2
    obtain ⟨cv, g7, q1, q2, q3, q4, q5⟩ := results_sound p2.sim p2.frame (rs := []) hok2 (v := .tup []) rfl
    exact ⟨p2.defers, cv, q1, ⟨cv, rfl⟩, g7, q2, p2.le.trans q3, p2.kept.trans q4⟩

theorem fz_ref' {n : Nat} {s : ASt} {r k : Nat} {cs : List AVal} (hr : n ≤ r) (hg : s.get r = some (.cells cs)) (h : ∀ c ∈ cs, c.strip = c ∧ c.under n = true) : fz n s (k + 2) (.ref r 0) = some (.ipt cs 0) := by
  show fz n s (k + 1 + 1) _ = _
  unfold fz
  rw [if_neg (by simp [AVal.under]; omega)]
  simp only [hg, mapM_fz (k := k) h, Option.map_some]

theorem C1_377 (k : Nat) : stepCall C1 (upto C1 k).1 (upto C1 k).2 376 = runBody (upto C1 k).1 (upto C1 k).2 f376 := rfl

theorem nodes_call {x : List AVal} (hx : ∀ c ∈ x, c.strip = c ∧ c.under 0 = true) : (upto C1 2).1 376 [.agg x] ⟨0, []⟩ = some (.fn 377 [] [.ipt x 0], ⟨0, []⟩) := by
  show stepCall C1 (upto C1 1).1 (upto C1 1).2 376 [.agg x] ⟨0, []⟩ = _
  have h1 : exec (upto C1 1).1 (upto C1 1).2 f376.code [(0, .agg x)] ⟨0, []⟩ = some (.ret, [(2, .fn 377 [] [.ref 0 0])], ⟨1, [.cells x]⟩) := rfl
  have h2 : fz 0 (⟨1, [.cells x]⟩ : ASt) depth (.fn 377 [] [.ref 0 0]) = some (.fn 377 [] [.ipt x 0]) := by
    show fz 0 _ (63 + 1) _ = _
    unfold fz
    rw [if_neg (by simp [AVal.under, underL])]
    have : fz 0 (⟨1, [.cells x]⟩ : ASt) 63 (.ref 0 0) = some (.ipt x 0) := fz_ref' (k := 61) (Nat.le_refl _) rfl hx
    simp [this]
  rw [C1_377]
  have h3 : runBody (upto C1 1).1 (upto C1 1).2 f376 [.agg x] ⟨0, []⟩ = (exec (upto C1 1).1 (upto C1 1).2 f376.code [(0, .agg x)] ⟨0, []⟩).bind (fun (e, A, s') =>
      match e with
      | .normal | .ret => do
        let v ← results A s' f376.results
        if f376.live ∨ s'.n = 0 then some (v, s') else do
        let v ← fz 0 s' depth v
        some (v, s'.trunc 0)
      | _ => none) := rfl
  rw [h3, h1]
  show (do
        let v ← some (AVal.fn 377 [] [.ref 0 0])
        if f376.live ∨ (1 : Nat) = 0 then some (v, (⟨1, [.cells x]⟩ : ASt)) else do
        let v ← fz 0 (⟨1, [.cells x]⟩ : ASt) depth v
        some (v, (⟨1, [.cells x]⟩ : ASt).trunc 0)) = _
  simp only [Option.bind_eq_bind, Option.bind_some]
  rw [if_neg (by simp [f376]), h2]
  rfl

theorem ex_shR0 {K : CallFn} {L : LoopFn} (x : List AVal) : exec K L shR0 [(0, .agg x)] ⟨0, []⟩ = some (.normal, [(1, .ref 0 0)], ⟨1, [.cells x]⟩) := rfl
theorem ex_shR1 : (fun x => exec (upto C1 2).1 (upto C1 2).2 shR1 [(1, .ipt x 0)] ⟨0, []⟩) = fun x => some (.normal, [(1, .ipt x 0), (3, .ref 0 0)], ⟨1, [.cells [tabV]]⟩) := by kernel_rfl
theorem ex_shR2 {K : CallFn} {L : LoopFn} (x : List AVal) : exec K L shR2 [(1, .ipt x 0), (3, .ipt [tabV] 0)] ⟨0, []⟩ = some (.normal, [(1, .ipt x 0), (3, .ipt [tabV] 0), (4, .ref 0 0)], okSt true) := rfl
theorem ex_shR3 (k : Int) (t : List UInt8) (p e : Int) (kv : AVal) (hx : ∀ c ∈ kid5 k t p e kv, c.strip = c ∧ c.under 0 = true) : exec (upto C1 2).1 (upto C1 2).2 shR3 [(1, .ipt (kid5 k t p e kv) 0), (3, .ipt [tabV] 0), (4, .ref 0 0)] (okSt true) =
    some (.normal, [(3, .ipt [tabV] 0), (4, .ref 0 0), (10, .fn 377 [] [.ipt (kid5 k t p e kv) 0])], okSt true) := by
  have hc := nodes_call hx
  have hu : underL 0 [AVal.agg (kid5 k t p e kv)] = true := by
    simp only [underL, AVal.under, Bool.and_true]
    exact underL_all.2 (fun a ha => (hx a ha).2)
  have h1 : aop (upto C1 2).1 (.callp (.fn 376) [.tmp 9]) [(9, .agg (kid5 k t p e kv)), (1, .ipt (kid5 k t p e kv) 0), (3, .ipt [tabV] 0), (4, .ref 0 0)] (okSt true) =
      some (.fn 377 [] [.ipt (kid5 k t p e kv) 0], [(9, .agg (kid5 k t p e kv)), (1, .ipt (kid5 k t p e kv) 0), (3, .ipt [tabV] 0), (4, .ref 0 0)], okSt true) := by
    show (if underL 0 [AVal.agg (kid5 k t p e kv)] then ((upto C1 2).1 376 [.agg (kid5 k t p e kv)] ⟨0, []⟩).bind _ else none) = _
    rw [hu, hc]
    rfl
  show ((exOps (upto C1 2).1 [⟨some 9, .load 5 true (.tmp 1), none⟩, ⟨some 10, .callp (.fn 376) [(.tmp 9)], none⟩] [(1, .ipt (kid5 k t p e kv) 0), (3, .ipt [tabV] 0), (4, .ref 0 0)] (okSt true)).map fun (A, s) => (AExit.normal, A.keep [3, 4, 10], s)) = _
  have h2 : exOps (upto C1 2).1 [⟨some 9, .load 5 true (.tmp 1), none⟩, ⟨some 10, .callp (.fn 376) [(.tmp 9)], none⟩] [(1, .ipt (kid5 k t p e kv) 0), (3, .ipt [tabV] 0), (4, .ref 0 0)] (okSt true) =
      (aop (upto C1 2).1 (.callp (.fn 376) [.tmp 9]) [(9, .agg (kid5 k t p e kv)), (1, .ipt (kid5 k t p e kv) 0), (3, .ipt [tabV] 0), (4, .ref 0 0)] (okSt true)).bind fun (v, A, s) => some (A.putO (some 10) v, s) := rfl
  rw [h2, h1]
  rfl
theorem ex_shR9 {K : CallFn} {L : LoopFn} (x : AVal) (f : AVal) (b : Bool) : exec K L shR9 [(3, x), (4, .ref 0 0), (10, f)] (okSt b) = some (.ret, [(2, .bool b)], okSt b) := rfl

theorem tab_idle : ∀ c ∈ [tabV], c.strip = c ∧ c.under 0 = true := by
  intro c hc
  simp only [List.mem_singleton] at hc
  subst hc
  exact ⟨rfl, tabUnder⟩

theorem shaped_sound (hC : Sound P fm C1) (hY : ∀ l, fm (2000000 + l) = 1000000 + l) {fn fv fo : Func} (hfn : P.funcs[fm 384]? = some fn) (hok : shapedOk P fm fn = true) (hfv : P.funcs[fm 387]? = some fv) (hokv : okFunc P fm f387 fv = true)
    (hfo : P.funcs[fm 377]? = some fo) (hoko : okFunc P fm f377 fo = true) (henv : Enters P (fm 387)) (heno : Enters P (fm 377)) :
    Enters P (fm 384) ∧ ∀ (k : Nat) (cs : List AVal) (b : Bool), shapedK k cs = some b → ∀ (g : Gh) (w : World) (vs : Array Value) (m : Nat), Sim fm ⟨0, []⟩ g w → RepL fm g 0 [.agg cs] vs.toList →
      CallsIn (FW none) m P (fm 384) vs w (CallPost fm g w ⟨0, []⟩ ⟨0, []⟩ (.bool b)) := by
  unfold shapedOk at hok
  split at hok
  case h_2 => cases hok
  rename_i r0 r1 r2 r3 bq tq ps asg bd r9 hbody
  simp only [Bool.and_eq_true, decide_eq_true_eq, Bool.not_eq_true', beq_iff_eq] at hok
  obtain ⟨⟨⟨⟨⟨⟨⟨⟨⟨⟨⟨⟨rfl, rfl⟩, rfl⟩, k0⟩, k1⟩, k2⟩, k3⟩, kA⟩, kB⟩, k9⟩, kr⟩, kb⟩, kn⟩ := hok
  refine ⟨⟨Nat.lt_of_lt_of_le (Array.getElem?_eq_some_iff.1 hfn).1 hC.few, fn, hfn, by simp [hbody], by simpa using kn⟩, ?_⟩
  intro k cs b hk g w vs m hS hR
  unfold shapedK at hk
  split at hk
  case h_2 => cases hk
  rename_i ka tx pa ea kv
  obtain ⟨y, hkv, hs⟩ := bind_some' hk
  have hs : stepsF (stp (upto C1 k).1 (upto C1 k).2) (kid5 ka tx pa ea kv :: y) true = some b := hs
  have hcells : ∀ c ∈ kid5 ka tx pa ea kv, c.strip = c ∧ c.under 0 = true := by
    generalize hvl : vs.toList = vl at hR
    cases hR with
    | cons _ v1 _ _ h1 ht =>
    cases h1 with
    | agg _ us h => exact repL_idle h
  obtain ⟨hcall, hloop⟩ := upto_sound hC 2
  have hmx := hC.mixed
  have hF := params_frame (nt := fn.ntmps) (s := ⟨0, []⟩) hR (by simp; omega)
  refine callsIn_of_wp_marks hfn hbody trivial ?_ rfl
  refine wpIn_seq (exec_sound hmx hcall (hloop fn.ntmps) shR0 r0 _ ⟨0, []⟩ g w _ .normal _ _ _ k0 hS hF (ex_shR0 _) (fun a1 w1 g1 p1 => ?_))
  have p1 : RPost fm fn.ntmps g w ⟨0, []⟩ ⟨0, []⟩ [(1, .ipt (kid5 ka tx pa ea kv) 0)] _ a1 (g1.frozen (⟨0, []⟩ : ASt).n w1) w1 := freeze_post p1 (ds := [1]) (by
    have e2 : fz 0 (⟨1, [.cells (kid5 ka tx pa ea kv)]⟩ : ASt) depth (.ref 0 0) = some (.ipt (kid5 ka tx pa ea kv) 0) := fz_ref (Nat.le_refl _) rfl hcells
    show keepF 0 (⟨1, [.cells (kid5 ka tx pa ea kv)]⟩ : ASt) [(1, .ref 0 0)] [1] = _
    simp [keepF, Frame.get, e2])
  generalize hg1 : g1.frozen (⟨0, []⟩ : ASt).n w1 = g1' at p1
  refine wpIn_seq (exec_sound hmx hcall (hloop fn.ntmps) shR1 r1 _ ⟨0, []⟩ g1' w1 a1 .normal _ _ _ k1 p1.sim p1.frame (congrFun ex_shR1 (kid5 ka tx pa ea kv)) (fun a2 w2 g2 p2 => ?_))
  have p2 : RPost fm fn.ntmps g1' w1 ⟨0, []⟩ ⟨0, []⟩ [(1, .ipt (kid5 ka tx pa ea kv) 0), (3, .ipt [tabV] 0)] a1 a2 (g2.frozen (⟨0, []⟩ : ASt).n w2) w2 := freeze_post p2 (ds := [1, 3]) (by
    have e1 : fz 0 (⟨1, [.cells [tabV]]⟩ : ASt) depth (.ipt (kid5 ka tx pa ea kv) 0) = some (.ipt (kid5 ka tx pa ea kv) 0) := fz_under (by
      simp only [AVal.under]
      exact underL_all.2 (fun a ha => (hcells a ha).2))
    have e2 : fz 0 (⟨1, [.cells [tabV]]⟩ : ASt) depth (.ref 0 0) = some (.ipt [tabV] 0) := fz_ref (Nat.le_refl _) rfl tab_idle
    show keepF 0 (⟨1, [.cells [tabV]]⟩ : ASt) [(1, .ipt (kid5 ka tx pa ea kv) 0), (3, .ref 0 0)] [1, 3] = _
    simp [keepF, Frame.get, e1, e2])
  generalize hg2 : g2.frozen (⟨0, []⟩ : ASt).n w2 = g2' at p2
  have p12 := p1.trans p2
  refine wpIn_seq (exec_sound hmx hcall (hloop fn.ntmps) shR2 r2 _ ⟨0, []⟩ g2' w2 a2 .normal _ _ _ k2 p2.sim p2.frame (ex_shR2 _) (fun a3 w3 g3 p3 => ?_))
  have p13 := p12.trans p3
  refine wpIn_seq (wpIn_seq (exec_sound hmx hcall (hloop fn.ntmps) shR3 r3 _ (okSt true) g3 w3 a3 .normal _ _ _ k3 p3.sim p3.frame (ex_shR3 ka tx pa ea kv hcells) (fun a4 w4 g4 p4 => ?_)))
  have p14 := p13.trans p4
  -- the loop's two blocks
  obtain ⟨hS5, fD5, hK5⟩ := p4.sim.foreign (.deferred (some []))
  generalize hg5 : g4.tag w4.heap.size (.other false) = g5 at hS5 fD5 hK5
  have hle5 : le 1 g4 g5 := by rw [← hg5]; exact tag_le _ _ _
  have hw5s : (w4.alloc (.deferred (some []))).heap.size = w4.heap.size + 1 := World.size_alloc _ _
  obtain ⟨v10, t10, r10⟩ := p4.frame.2 10 (by simp [Frame.get])
  have r10 : Rep fm g4 1 (.fn 377 [] [.ipt (kid5 ka tx pa ea kv) 0]) v10 := r10
  obtain ⟨u, rfl, hu⟩ : ∃ u, v10 = .func (.func (fm 377)) #[] #[u] ∧ Rep fm g4 1 (.ipt (kid5 ka tx pa ea kv) 0) u := by
    cases r10 with
    | fn _ _ _ us ws q1 q2 hf =>
      cases q1
      cases q2 with
      | cons _ u _ _ h1 h2 =>
        cases h2
        exact ⟨u, rfl, h1⟩
  obtain ⟨v3, t3, r3'⟩ := p4.frame.2 3 (by simp [Frame.get])
  obtain ⟨v4, t4, r4'⟩ := p4.frame.2 4 (by simp [Frame.get])
  have r3' : Rep fm g4 1 (.ipt [tabV] 0) v3 := r3'
  have r4' : Rep fm g4 1 (.ref 0 0) v4 := r4'
  refine wpIn_block (wpIn_rangeFunc (fun fnum _ => ?_))
  obtain ⟨hS6, fl6, hK6⟩ := hS5.foreign (.loop { state := .ready, pending := none, fn := fnum, tmps := a4.tmps, params := #[11], assign := asg, body := bd, defers := w4.heap.size })
  rw [hw5s] at hS6 fl6 hK6
  generalize hg6 : g5.tag (w4.heap.size + 1) (.other false) = g6 at hS6 fl6 hK6
  have hle6 : le 1 g5 g6 := by rw [← hg6]; exact tag_le _ _ _
  generalize hrec : ({ state := .ready, pending := none, fn := fnum, tmps := a4.tmps, params := #[11], assign := asg, body := bd, defers := w4.heap.size } : Go.Loop) = rec at hS6 fl6 hK6
  obtain ⟨fD6, hD6⟩ := fD5.kept hK6
  have hro : RecOk P fm rec g6 fn.ntmps := by
    rw [← hrec]
    exact ⟨rfl, rfl, rfl, kA, kB, p4.frame.1, kb, ⟨v3, t3, r3'.mono (hle5.trans hle6) (Nat.le_refl _)⟩, ⟨v4, t4, r4'.mono (hle5.trans hle6) (Nat.le_refl _)⟩⟩
  have hD5h : (w4.alloc (.deferred (some []))).heap[w4.heap.size]? = some (.deferred (some [])) := World.alloc_heap_new _ _
  have hl6h : ((w4.alloc (.deferred (some []))).alloc (.loop rec)).heap[w4.heap.size + 1]? = some (.loop rec) := by
    have := World.alloc_heap_new (w4.alloc (.deferred (some []))) (.loop rec)
    rwa [hw5s] at this
  have hLp : Loops fm (w4.heap.size + 1) w4.heap.size rec g6 true g6 ((w4.alloc (.deferred (some []))).alloc (.loop rec)) := ⟨hS6, fl6, hl6h, fD6, by rw [hD6, hD5h], le.refl _ _⟩
  have hgo := rounds_go (l := w4.heap.size + 1) (D := w4.heap.size) hC k hro
  obtain ⟨hV, _⟩ := both_go hC hro.params (hY _) hfv hokv henv hgo (y.length + 1)
  obtain ⟨hen0, fno, eo1, eo2, eo3⟩ := heno
  have hev : a4.eval (.tmp 10) = .func (.func (fm 377)) #[] #[u] := by
    have hlt : 10 < a4.tmps.size := (Array.getElem?_eq_some_iff.1 t10).1
    have := (Array.getElem?_eq_some_iff.1 t10).2
    simp only [Act.eval, Array.getD, hlt, dif_pos]
    exact this
  refine ⟨w4.heap.size + 1, [{ target := .collected w4.heap.size, args := #[] }], (w4.alloc (.deferred (some []))).alloc (.loop rec), { target := .fn (.func (fm 377)) #[u], args := #[yv (w4.heap.size + 1)] },
    (w4.alloc (.deferred (some []))).alloc (.loop rec), fm 377, #[yv (w4.heap.size + 1), u], (w4.alloc (.deferred (some []))).alloc (.loop rec), ?_, ?_, fun _ _ => trivial, ?_, fun h => by simp [FW] at h, ?_⟩
  · rw [← hrec]
    exact run_enterLoop_outer _ _ _ _ _
  · simp only [resolve, hev, Sem.run_bind, Deferred.ofValue, Sem.run_pure, Result.andThen_ok]
    simp [Act.eval, yv]
  · simp only [invoke, callFunc, Sem.run_bind, run_program, Result.andThen_ok, eo1, eo3, Bool.false_eq_true, if_false, eo2]
    rfl
  · refine (nodes1_goes hC (hY _) henv hfo hoko hV hkv (Nat.le_refl _) hs hLp (hu.mono (hle5.trans hle6) (Nat.le_refl _)) (m - 1)).mono ?_
    rintro en w7 ⟨⟨v7, rfl⟩, g7, h7⟩
    have hLp7 := hLp.next (ok' := b) h7.1 h7.2.1 h7.2.2
    have hend := run_endLoop (P := P) hLp7.hl (by rw [hro.st]; simp)
    generalize hw8 : w7.putObj (w4.heap.size + 1) (.loop { rec with state := .exhausted }) = w8 at hend
    refine ⟨_, w8, hend, ?_⟩
    rw [hro.pend]
    simp only [Exit.inBlock]
    have hbl7 : w4.heap.size + 1 < w7.heap.size := (Array.getElem?_eq_some_iff.1 hLp7.hl).1
    have hS8 : Sim fm (okSt b) g7 w8 := by
      rw [← hw8]
      exact h7.1.others hLp7.fl (fun k hk => World.putObj_heap_other hk) (by simp)
    have hF8 : FrameRep fm g7 1 fn.ntmps [(3, .ipt [tabV] 0), (4, .ref 0 0), (10, .fn 377 [] [.ipt (kid5 ka tx pa ea kv) 0])] a4.tmps := p4.frame.plain (idle_frame rfl) ((hle5.trans hle6).trans h7.2.1) (Nat.le_refl _)
    refine exec_sound hmx hcall (hloop fn.ntmps) shR9 r9 _ (okSt b) g7 w8 { tmps := a4.tmps, defers := [{ target := .collected w4.heap.size, args := #[] }] ++ a4.defers } .ret _ (okSt b) _ k9 hS8 hF8 (ex_shR9 _ _ b) (fun a9 w9 g9 p9 => ?_)
    have hdef : a9.defers = { target := .collected w4.heap.size, args := #[] } :: [] := by
      rw [p9.defers]
      show _ ++ a4.defers = _
      rw [p14.defers]
      rfl
    show LeavesInM (FW none) m P fn a9.tmps _ a9.defers .returning w9
    rw [hdef]
    have hDk : w8.heap[w4.heap.size]? = some (.deferred (some [])) := by
      rw [← hw8, World.putObj_heap_other (by omega), hLp7.hD]
    obtain ⟨fD9, hD9⟩ := hLp7.fD.kept p9.kept
    have hD9' : w9.heap[w4.heap.size]? = some (.deferred (some [])) := by rw [hD9, hDk]
    refine ⟨by simp, .inl ⟨_, _, rfl, run_takeDeferred hD9', ?_⟩⟩
    generalize hw10 : w9.putObj w4.heap.size (.deferred none) = w10
    have hS10 : Sim fm (okSt b) g9 w10 := by
      rw [← hw10]
      exact p9.sim.others fD9 (fun k hk => World.putObj_heap_other hk) (by simp)
    obtain ⟨cv, g11, q1, q2, q3, q4, q5⟩ := results_sound hS10 p9.frame (rs := [.slot 2]) kr (v := .bool b) rfl
    have hcv : cv = .bool b := Rep.bool_inv q5
    subst hcv
    refine ⟨_, q1, .bool b, g11.frozen 0 w10, rfl, q2.frozen (Nat.zero_le _), ?_, Nat.le_refl _, ?_, Rep.slot (.bool b)⟩
    · have l1 : le 0 g g4 := p14.le
      have l2 : le 0 g4 g7 := ((hle5.trans hle6).trans h7.2.1).less (Nat.zero_le _)
      have l3 : le 0 g7 g11 := (p9.le.trans q3).less (Nat.zero_le _)
      exact ((l1.trans l2).trans l3).trans (frozen_le q2 0)
    · have hfk := frozen_kept (g := g11) (w := w10) 0
      have hk4 := p14.kept
      have ch : ∀ k x, g.own k = .other x → (Fix g (g11.frozen 0 w10) k ∧ w10.heap[k]? = w.heap[k]?) ∧ (g11.frozen 0 w10).mst k = g.mst k := by
        intro k x hk
        have b4 := hk4.blk k x hk
        have o4 : g4.own k = .other x := by rw [b4.1.1, hk]
        have m4 := hk4.mst k x hk
        have hlt : k < w4.heap.size := by
          rcases Nat.lt_or_ge k w4.heap.size with h | h
          · exact h
          · have := (p4.sim.fresh k h).1
            rw [o4] at this
            cases this
        have b5 := hK5.blk k x o4
        have o5 : g5.own k = .other x := by rw [b5.1.1, o4]
        have b6 := hK6.blk k x o5
        have o6 : g6.own k = .other x := by rw [b6.1.1, o5]
        have b7 := h7.2.2.blk k x o6
        have o7 : g7.own k = .other x := by rw [b7.1.1, o6]
        have b9 := p9.kept.blk k x o7
        have o9 : g9.own k = .other x := by rw [b9.1.1, o7]
        have b11 := q4.blk k x o9
        have o11 : g11.own k = .other x := by rw [b11.1.1, o9]
        have bf := hfk.blk k x o11
        refine ⟨⟨((((((b4.1.trans b5.1).trans b6.1).trans b7.1).trans b9.1).trans b11.1).trans bf.1), ?_⟩, ?_⟩
        · rw [← hw10, World.putObj_heap_other (by omega), b9.2, ← hw8, World.putObj_heap_other (by omega), b7.2, b6.2, b5.2, b4.2]
        · rw [hfk.mst k x o11, q4.mst k x o9, p9.kept.mst k x o7, h7.2.2.mst k x o6, hK6.mst k x o5, hK5.mst k x o4, m4]
      refine ⟨fun k x hk => (ch k x hk).1, ?_, ?_, fun k x hk => (ch k x hk).2⟩
      · rw [← hw10]
        show w9.os = _
        rw [p9.kept.os, ← hw8]
        show w7.os = _
        rw [h7.2.2.os, hK6.os, hK5.os, hk4.os]
      · rw [← hw10]
        show w9.output = _
        rw [p9.kept.out, ← hw8]
        show w7.output = _
        rw [h7.2.2.out, hK6.out, hK5.out, hk4.out]

end
end Go.Proofs.YtdhgdpokdhjanaaGreat.Abs
