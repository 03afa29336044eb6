/- The operations that only compute, or only read. -/
import Derived.Test.YtdhgdpokdhjanaaGreatA4
import Derived.Laws.StructEq
set_option linter.unusedSimpArgs false
set_option linter.unusedVariables false
namespace Go.Proofs.YtdhgdpokdhjanaaGreat.Abs
open Go

section
variable {P : Program} {fm : Nat → Nat} {g : Gh} {n nt : Nat} {A : Frame} {a : Act} {w : World}

theorem run_typeInfo {t : Nat} {i : TypeInfo} (h : P.info? t = some i) (w : World) : (typeInfo t).run P w = .ok i w := by
  simp [typeInfo, h]
theorem run_sizeOf {t k : Nat} (h : sizeIs P t k = true) (w : World) : (sizeOf t).run P w = .ok k w := by
  unfold sizeIs at h
  split at h
  · rename_i i hi
    simp [sizeOf, run_typeInfo hi]
    simpa using h
  · cases h
theorem run_isAgg {t : Nat} {b : Bool} (h : aggIs P t b = true) (w : World) : (isAgg t).run P w = .ok b w := by
  unfold aggIs at h
  split at h
  · rename_i hu; simp [isAgg, run_underlying hu, h]
  · rename_i hu; simp [isAgg, run_underlying hu, h]
  · rename_i d h1 h2 hu
    simp only [isAgg, Sem.run_bind, run_underlying hu, Result.andThen_ok]
    cases d <;> simp_all
  · cases h

theorem Rep.cells {x : AVal} {v : Value} (h : Rep fm g n x v) (hk : x.known = true) : RepL fm g n x.cells v.cells.toList := by
  cases h
  case undef => cases hk
  case agg => simpa [AVal.cells, Value.cells]
  case tup cs vs h => exact .cons _ _ _ _ (.tup cs vs h) .nil
  all_goals exact .cons _ _ _ _ (by first | (constructor <;> assumption) | (apply Rep.imapU <;> assumption)) .nil

theorem Rep.slot {t : Tag} {x : AVal} {v : Value} (h : Rep fm g n x v) : SlotRep fm g n t x v := by
  cases h
  case sl cs len o b base cap vs ho hc h hp =>
    rcases ho with rfl | ⟨rfl, rfl⟩
    · exact .sl _ _ _ _ _ _ _ (.inl rfl) hc h hp
    · exact .sl _ _ _ _ _ _ _ (.inr ⟨rfl, rfl⟩) hc h hp
  all_goals first | (constructor <;> assumption) | (apply Rep.imapU <;> assumption)

theorem Rep.bool_inv {b : Bool} {v : Value} (h : Rep fm g n (.bool b) v) : v = .bool b := by cases h; rfl
theorem Rep.int_inv {k : IntKind} {i : Int} {v : Value} (h : Rep fm g n (.int k i) v) : v = .int k i := by cases h; rfl
theorem Rep.str_inv {l : List UInt8} {v : Value} (h : Rep fm g n (.str l) v) : v = .string ⟨l.toArray⟩ := by cases h; rfl

theorem part_run {t off k : Nat} {agg : Bool} {cs : List AVal} {vs : List Value} {x : AVal} (hr : RepL fm g n cs vs) (ha : aggIs P t agg = true) (hs : sizeIs P t k = true)
    (h : (cut cs off k).bind (mk agg) = some x) : ∃ cv, (part t vs.toArray off).run P w = .ok cv w ∧ Rep fm g n x cv := by
  obtain ⟨l, hl, hm⟩ := bind_some' h
  unfold cut at hl
  split at hl
  · rename_i hle
    cases hl
    have hlen := hr.length
    simp only [part, Sem.run_bind, run_isAgg ha, Result.andThen_ok]
    cases agg with
    | true =>
      simp only [mk, if_true, Option.some.injEq] at hm
      subst hm
      simp only [if_true, Sem.run_bind, run_sizeOf hs, Result.andThen_ok, Sem.run_pure]
      refine ⟨_, rfl, ?_⟩
      have e : (vs.toArray.extract off (off + k)) = ((vs.drop off).take k).toArray := by
        simp [List.drop_take]
      rw [e]
      exact .agg _ _ ((hr.drop off).take k)
    | false =>
      simp only [mk, Bool.false_eq_true, if_false] at hm ⊢
      split at hm
      · rename_i v he
        cases hm
        have h1 : cs[off]? = some x := by
          have := congrArg (·[0]?) he
          simp only [List.getElem?_cons_zero] at this
          rw [List.getElem?_take] at this
          split at this
          · simpa using this
          · cases this
        obtain ⟨u, hu, hR⟩ := hr.get off x h1
        refine ⟨u, ?_, hR⟩
        simp [hu]
      · cases hm
  · cases hl

theorem kIntEq {k j : IntKind} (h : (k == j) = true) : k = j := by simpa using h

theorem cmp_run {op : BinOp} {x y : Int} {b : Bool} (h : cmpInt op x y = some b) : (Op.intCmp op x y).run P w = .ok (.bool b) w := by
  cases op <;> simp only [cmpInt] at h <;> first | (cases h; done) | (cases h; rfl)

theorem bytesLess_eq : ∀ (a b : List UInt8), Op.bytesLess a b = bytesLess a b
  | _, [] => by simp [Op.bytesLess, bytesLess]
  | [], _ :: _ => by simp [Op.bytesLess, bytesLess]
  | a :: x, b :: y => by simp [Op.bytesLess, bytesLess, bytesLess_eq x y]

theorem toList_mk (l : List UInt8) : (ByteArray.mk l.toArray).toList = l := by
  rw [ByteArray.toList_eq]

theorem str_run {op : BinOp} {x y : List UInt8} {v : AVal} (h : abin op .num (.str x) (.str y) = some v) :
    ∃ cv, (Op.stringOp op ⟨x.toArray⟩ ⟨y.toArray⟩).run P w = .ok cv w ∧ Rep fm g n v cv := by
  simp only [abin] at h
  cases op <;> simp only at h
  case add =>
    split at h
    · rename_i hl
      cases h
      refine ⟨.string ⟨(x ++ y).toArray⟩, ?_, .str _⟩
      unfold limit at hl
      have e1 : (ByteArray.mk x.toArray).size = x.length := by simp [ByteArray.size]
      have e2 : (ByteArray.mk y.toArray).size = y.length := by simp [ByteArray.size]
      have : ¬ (((x.length + y.length : Nat) : Int) > IntKind.i64.max) := by
        simp [IntKind.max, IntKind.signed, IntKind.bits]; omega
      simp only [Op.stringOp, e1, e2, if_neg this, Sem.run_pure]
      congr 2
    · cases h
  all_goals first | (cases h; done) | (cases h; refine ⟨_, ?_, .bool _⟩; simp only [Op.stringOp, toList_mk, bytesLess_eq, Sem.run_pure])

theorem bool_eqOp {op : BinOp} {e : Bool} {v : AVal} (h : eqOp op e = some v) : (op = .eql ∧ v = .bool e) ∨ (op = .neq ∧ v = .bool (!e)) := by
  cases op <;> simp only [eqOp] at h <;> first | (cases h; done) | (cases h; simp)

theorem plain_part {t off : Nat} {vs : Array Value} {v : Value} {d : TypeDesc} (hu : P.underlying t = some d) (hd : (match d with | .struct _ | .array _ _ => true | _ => false) = false)
    (hv : vs[off]? = some v) : (part t vs off).run P w = .ok v w := by
  have : (isAgg t).run P w = .ok false w := by
    simp only [isAgg, Sem.run_bind, run_underlying hu, Result.andThen_ok]
    cases d <;> simp_all
  simp [part, this, hv]

/-- The cells of a struct whose fields are plain. -/
theorem fields_run (d : Nat) : ∀ (fs : List Field) (ks : List PK) (i : Nat) (cs ds : List AVal) (vs us pre qre : List Value), fieldsOk P fs ks i = true → isKinds ks cs = true → isKinds ks ds = true →
    RepL fm g n cs vs → RepL fm g n ds us → pre.length = i → qre.length = i →
    (Op.eqFields (d + 1) (pre ++ vs).toArray (qre ++ us).toArray fs).run P w = .ok (sameL cs ds) w
  | fs, [], i, cs, ds, vs, us, pre, qre, hf, hc, hd, _, _, _, _ => by
    simp only [fieldsOk, List.isEmpty_iff] at hf
    subst hf
    cases cs <;> simp [isKinds] at hc
    cases ds <;> simp [isKinds] at hd
    simp [Op.eqFields, sameL]
  | [], _ :: _, _, _, _, _, _, _, _, hf, _, _, _, _, _, _ => by simp [fieldsOk] at hf
  | f :: fs, k :: ks, i, cs, ds, vs, us, pre, qre, hf, hc, hd, hr, hs, hp, hq => by
    simp only [fieldsOk, Bool.and_eq_true] at hf
    obtain ⟨⟨⟨hname, hoff⟩, hk⟩, hrest⟩ := hf
    have hoff : f.offset = i := by simpa using hoff
    have hname : f.name ≠ "_" := by simpa using hname
    cases hr with
    | nil => simp [isKinds] at hc
    | cons a v cs vs ha hcs =>
    cases hs with
    | nil => simp [isKinds] at hd
    | cons b u ds us hb hds =>
    simp only [isKinds, Bool.and_eq_true] at hc hd
    have e1 : (pre ++ v :: vs).toArray[i]? = some v := by simp [← hp]
    have e2 : (qre ++ u :: us).toArray[i]? = some u := by simp [← hq]
    have ih := fields_run d fs ks (i + 1) cs ds vs us (pre ++ [v]) (qre ++ [u]) hrest hc.2 hd.2 hcs hds (by simp [hp]) (by simp [hq])
    simp only [List.append_assoc, List.cons_append, List.nil_append] at ih
    simp only [Op.eqFields, if_pos hname, hoff, Sem.run_bind]
    cases k with
    | int k =>
      cases hu : P.underlying f.type with
      | none => simp [hu] at hk
      | some dd =>
        cases dd <;> simp [hu] at hk
        subst hk
        cases a <;> simp [AVal.isKind] at hc
        cases b <;> simp [AVal.isKind] at hd
        obtain ⟨rfl, hc2⟩ := hc
        obtain ⟨rfl, hd2⟩ := hd
        obtain rfl := ha.int_inv
        obtain rfl := hb.int_inv
        rw [plain_part hu rfl e1]
        simp only [Result.andThen_ok]
        rw [plain_part hu rfl e2]
        simp only [Result.andThen_ok, run_equalIn_int _ _ _ _ _ _ _ hu, sameL, AVal.same, BEq.rfl, Bool.true_and]
        rename_i x y
        cases hxy : (x == y) <;> simp [ih]
    | str =>
      cases hu : P.underlying f.type with
      | none => simp [hu] at hk
      | some dd =>
        cases dd <;> simp [hu] at hk
        cases a <;> simp [AVal.isKind] at hc
        cases b <;> simp [AVal.isKind] at hd
        obtain rfl := ha.str_inv
        obtain rfl := hb.str_inv
        rw [plain_part hu rfl e1]
        simp only [Result.andThen_ok]
        rw [plain_part hu rfl e2]
        simp only [Result.andThen_ok, run_equalIn_string _ _ _ _ _ hu, sameL, AVal.same, toList_mk]
        rename_i x y
        cases hxy : (x == y) <;> simp [ih]
    | bool =>
      cases hu : P.underlying f.type with
      | none => simp [hu] at hk
      | some dd =>
        cases dd <;> simp [hu] at hk
        cases a <;> simp [AVal.isKind] at hc
        cases b <;> simp [AVal.isKind] at hd
        obtain rfl := ha.bool_inv
        obtain rfl := hb.bool_inv
        rw [plain_part hu rfl e1]
        simp only [Result.andThen_ok]
        rw [plain_part hu rfl e2]
        simp only [Result.andThen_ok, run_equalIn_bool' _ _ _ _ _ hu, sameL, AVal.same]
        rename_i x y
        cases hxy : (x == y) <;> simp [ih]

theorem eqIn_nilf (d : Nat) {t : Nat} {a b : Array TypeId} {c : Bool} (hu : P.underlying t = some (.func a b c)) : (Op.equalIn (d + 1) t .nilFunc .nilFunc).run P w = .ok true w := by
  simp [Op.equalIn, run_underlying hu]
theorem eqIn_fn (d : Nat) {t : Nat} {a b : Array TypeId} {c : Bool} (hu : P.underlying t = some (.func a b c)) (f : Fn) (x y : Array Value) : (Op.equalIn (d + 1) t (.func f x y) .nilFunc).run P w = .ok false w := by
  simp [Op.equalIn, run_underlying hu]
theorem eqIn_nilp (d : Nat) {t e : Nat} (hu : P.underlying t = some (.pointer e)) : (Op.equalIn (d + 1) t (.pointer none) (.pointer none)).run P w = .ok true w := by
  simp [Op.equalIn, run_underlying hu]
theorem eqIn_ref (d : Nat) {t e : Nat} (hu : P.underlying t = some (.pointer e)) (b : Addr) : (Op.equalIn (d + 1) t (.pointer (some b)) (.pointer none)).run P w = .ok false w := by
  simp [Op.equalIn, run_underlying hu]

theorem bin_run {op : BinOp} {ty : EqT} {t : Nat} {x y v : AVal} {cx cy : Value} {ox oy : Operand} (hx : Rep fm g n x cx) (hy : Rep fm g n y cy) (ht : tyOk P t ty = true)
    (h : abin op ty x y = some v) : ∃ cv, (do eqGuard op t ox oy cx cy; binOp op t cx cy).run P w = .ok cv w ∧ Rep fm g n v cv := by
  cases ty with
  | num =>
    cases x <;> cases y <;> simp only [abin] at h <;> try (cases h; done)
    case int.int k i j l =>
      rw [hx.int_inv, hy.int_inv]
      have hg : (eqGuard op t ox oy (.int k i) (.int j l)).run P w = .ok () w := by cases op <;> simp [eqGuard]
      simp only [Sem.run_bind, hg, Result.andThen_ok]
      split at h
      · rename_i e
        subst e
        cases op <;> simp only at h
        case add => cases h; exact ⟨_, by simp [binOp, Op.intArith], .int _ _⟩
        case sub => cases h; exact ⟨_, by simp [binOp, Op.intArith], .int _ _⟩
        case mul => cases h; exact ⟨_, by simp [binOp, Op.intArith], .int _ _⟩
        case quo =>
          split at h
          · cases h
          · rename_i h0
            cases h
            exact ⟨_, by simp [binOp, Op.intDiv, h0], .int _ _⟩
        case rem =>
          split at h
          · cases h
          · rename_i h0
            cases h
            exact ⟨_, by simp [binOp, Op.intDiv, h0], .int _ _⟩
        all_goals
          obtain ⟨b, hb, rfl⟩ := map_some' h
          first
            | (simp [cmpInt] at hb; done)
            | (refine ⟨.bool b, ?_, .bool b⟩
               rw [← cmp_run (P := P) (w := w) hb]
               simp [binOp])
      · cases h
    case str.str l m =>
      rw [hx.str_inv, hy.str_inv]
      have hg : (eqGuard op t ox oy (.string ⟨l.toArray⟩) (.string ⟨m.toArray⟩)).run P w = .ok () w := by cases op <;> simp [eqGuard]
      simp only [Sem.run_bind, hg, Result.andThen_ok]
      obtain ⟨cv, h1, h2⟩ := str_run (P := P) (fm := fm) (g := g) (n := n) (w := w) (op := op) (x := l) (y := m) (v := v) (by simp only [abin]; exact h)
      refine ⟨cv, ?_, h2⟩
      rw [← h1]
      cases op <;> rfl
  | bool =>
    cases x <;> cases y <;> simp only [abin] at h <;> try (cases h; done)
    rename_i b c
    rw [hx.bool_inv, hy.bool_inv]
    have hu : P.underlying t = some .bool := by
      simp only [tyOk] at ht
      split at ht
      · assumption
      · cases ht
    have he : (Op.equal t (.bool b) (.bool c)).run P w = .ok (b == c) w := by simp only [Op.equal, Op.maxDepth]; exact run_equalIn_bool' w _ t b c hu
    rcases bool_eqOp h with ⟨rfl, rfl⟩ | ⟨rfl, rfl⟩
    · exact ⟨.bool (b == c), by simp [eqGuard, binOp, he], .bool _⟩
    · exact ⟨.bool (!(b == c)), by simp [eqGuard, binOp, he], .bool _⟩
  | func =>
    have hu : ∃ a b c, P.underlying t = some (.func a b c) := by
      simp only [tyOk] at ht
      split at ht
      · exact ⟨_, _, _, by assumption⟩
      · cases ht
    obtain ⟨_, _, _, hu⟩ := hu
    cases x <;> cases y <;> simp only [abin] at h <;> try (cases h; done)
    case nilf.nilf =>
      cases hx; cases hy
      have he : (Op.equal t .nilFunc .nilFunc).run P w = .ok true w := by simp only [Op.equal, Op.maxDepth]; exact eqIn_nilf 9999 hu
      rcases bool_eqOp h with ⟨rfl, rfl⟩ | ⟨rfl, rfl⟩
      · exact ⟨.bool true, by simp [eqGuard, binOp, he], .bool _⟩
      · exact ⟨.bool (!true), by simp [eqGuard, binOp, he], .bool _⟩
    case fn.nilf =>
      have he : ∀ f us vs, (Op.equal t (.func f us vs) .nilFunc).run P w = .ok false w := fun f us vs => by simp only [Op.equal, Op.maxDepth]; exact eqIn_fn 9999 hu _ _ _
      cases hy
      cases hx
      · rcases bool_eqOp h with ⟨rfl, rfl⟩ | ⟨rfl, rfl⟩
        · exact ⟨.bool false, by simp [eqGuard, binOp, he], .bool _⟩
        · exact ⟨.bool (!false), by simp [eqGuard, binOp, he], .bool _⟩
      · rcases bool_eqOp h with ⟨rfl, rfl⟩ | ⟨rfl, rfl⟩
        · exact ⟨.bool false, by simp [eqGuard, binOp, he], .bool _⟩
        · exact ⟨.bool (!false), by simp [eqGuard, binOp, he], .bool _⟩
  | ptr =>
    have hu : ∃ e, P.underlying t = some (.pointer e) := by
      simp only [tyOk] at ht
      split at ht
      · exact ⟨_, by assumption⟩
      · cases ht
    obtain ⟨_, hu⟩ := hu
    cases x <;> cases y <;> simp only [abin] at h <;> try (cases h; done)
    case nilp.nilp =>
      cases hx; cases hy
      have he : (Op.equal t (.pointer none) (.pointer none)).run P w = .ok true w := by simp only [Op.equal, Op.maxDepth]; exact eqIn_nilp 9999 hu
      rcases bool_eqOp h with ⟨rfl, rfl⟩ | ⟨rfl, rfl⟩
      · exact ⟨.bool true, by simp [eqGuard, binOp, he], .bool _⟩
      · exact ⟨.bool (!true), by simp [eqGuard, binOp, he], .bool _⟩
    case ref.nilp =>
      cases hx; cases hy
      have he : ∀ b, (Op.equal t (.pointer (some b)) (.pointer none)).run P w = .ok false w := fun b => by simp only [Op.equal, Op.maxDepth]; exact eqIn_ref 9999 hu _
      rcases bool_eqOp h with ⟨rfl, rfl⟩ | ⟨rfl, rfl⟩
      · exact ⟨.bool false, by simp [eqGuard, binOp, he], .bool _⟩
      · exact ⟨.bool (!false), by simp [eqGuard, binOp, he], .bool _⟩
  | agg ks =>
    cases x <;> cases y <;> simp only [abin] at h <;> try (cases h; done)
    rename_i cs ds
    split at h
    · rename_i hk
      simp only [Bool.and_eq_true] at hk
      cases hx with
      | agg _ vs hcs =>
      cases hy with
      | agg _ us hds =>
      simp only [tyOk] at ht
      split at ht
      · rename_i fs hu
        simp only [Bool.and_eq_true, Bool.not_eq_true'] at ht
        obtain ⟨⟨hf, hst⟩, hgd⟩ := ht
        have hfo : P.fieldsOf t = fs := by simp [Program.fieldsOf, hu]
        have heq : (Op.equalIn 10000 t (.agg vs.toArray) (.agg us.toArray)).run P w = .ok (sameL cs ds) w := by
          rw [run_equalIn_struct w 9999 t vs.toArray us.toArray (by rw [hfo]; exact hu) hst, hfo]
          exact fields_run 9998 fs.toList ks 0 cs ds vs us [] [] hf hk.1 hk.2 hcs hds rfl rfl
        have hg := run_eqGuard_agg (P := P) w op t ox oy vs.toArray us.toArray hgd
        rcases bool_eqOp h with ⟨rfl, rfl⟩ | ⟨rfl, rfl⟩
        · exact ⟨.bool (sameL cs ds), by simp only [Sem.run_bind, hg, Result.andThen_ok, run_eql_struct, heq], .bool _⟩
        · exact ⟨.bool (!sameL cs ds), by simp only [Sem.run_bind, hg, Result.andThen_ok, run_neq_struct, heq], .bool _⟩
      · cases ht
    · cases h

end

end Go.Proofs.YtdhgdpokdhjanaaGreat.Abs
