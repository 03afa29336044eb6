/- Which instruction of the abstract machine stands for which operation of the model; the operations that only compute. -/
import Derived.Test.YtdhgdpokdhjanaaGreatA3
import Derived.Laws.Slices
import Derived.Laws.Entries
import Derived.Laws.Append
import Derived.Laws.Tables
import Derived.Laws.Strings
set_option linter.unusedSimpArgs false
set_option linter.unusedVariables false
namespace Go.Proofs.YtdhgdpokdhjanaaGreat.Abs
open Go

def litOk : AVal → Value → Bool
  | .bool a, .bool b => a == b
  | .int k a, .int j b => k == j && a == b
  | .str l, .string s => l == s.data.toList
  | .nilp, .pointer none => true
  | .nils, .slice none 0 0 => true
  | .nilm, .map none => true
  | .nilf, .nilFunc => true
  | .nili, .nilIface => true
  | _, _ => false
def litOkL : List AVal → List Value → Bool
  | [], [] => true
  | a :: l, v :: m => litOk a v && litOkL l m
  | _, _ => false

section ok
variable (P : Program) (fm : Nat → Nat)

def okOpd : Opd → Operand → Bool
  | .tmp d, .tmp t => d == t
  | .val a, .const v => litOk a v
  | .fn i, .func f => fm i == f && decide (f < 1000000)
  | _, _ => false
def okOpds : List Opd → List Operand → Bool
  | [], [] => true
  | x :: l, y :: m => okOpd fm x y && okOpds l m
  | _, _ => false
def okOpdO : Option Opd → Option Operand → Bool
  | none, none => true
  | some x, some y => okOpd fm x y
  | _, _ => false

def sizeIs (t n : Nat) : Bool := match P.info? t with
  | some i => i.size == n
  | none => false
def aggIs (t : Nat) (b : Bool) : Bool := match P.underlying t with
  | some (.struct _) | some (.array _ _) => b
  | some _ => !b
  | none => false
def zeroOk (t : Nat) (cs : List AVal) : Bool := match P.info? t with
  | some i => match i.zero with
    | some z => litOkL cs z.cells.toList
    | none => false
  | none => false
def zvalOk (t : Nat) (a : AVal) : Bool := match P.info? t with
  | some i => match i.zero, a with
    | some (.agg zs), .agg cs => litOkL cs zs.toList
    | some z, a => litOk a z
    | none, _ => false
  | none => false
def partsOk (place : Nat → Option (Nat × Nat)) : List (Nat × Nat × Opd) → List (Nat × Operand) → Bool
  | [], [] => true
  | (off, size, x) :: l, (i, y) :: m => place i == some (off, size) && okOpd fm x y && partsOk place l m
  | _, _ => false
def fieldAt (fs : Array Field) (i : Nat) : Option (Nat × Nat) := match fs[i]? with
  | some f => (P.info? f.type).map fun j => (f.offset, j.size)
  | none => none
def fieldsOk (fs : List Field) : List PK → Nat → Bool
  | [], _ => fs.isEmpty
  | k :: ks, i => match fs with
    | [] => false
    | f :: r => f.name != "_" && f.offset == i && (match k, P.underlying f.type with
        | .int k, some (.int j) => k == j
        | .str, some .string => true
        | .bool, some .bool => true
        | _, _ => false) && fieldsOk r ks (i + 1)
def tyOk (t : Nat) : EqT → Bool
  | .num => true
  | .bool => match P.underlying t with | some .bool => true | _ => false
  | .func => match P.underlying t with | some (.func _ _ _) => true | _ => false
  | .ptr => match P.underlying t with | some (.pointer _) => true | _ => false
  | .agg ks => match P.underlying t with
    | some (.struct fs) => fieldsOk P fs.toList ks 0 && !P.stoodInHeld t && !P.eqGuardType P.depth t
    | _ => false
def keyOk (t : Nat) (kt : KT) : Bool := match P.underlying t with
  | some (.map k _) => match P.underlying k, kt with
    | some (.int _), .int | some .string, .str | some .bool, .bool => true
    | _, _ => false
  | _ => false
def isU8 (t : Nat) : Bool := match P.underlying t with
  | some (.slice e) => match P.underlying e with
    | some (.int .u8) => true
    | _ => false
  | _ => false
def convOk (s d : Nat) : Cv → Bool
  | .int k => match P.underlying s, P.underlying d with | some _, some (.int j) => k == j | _, _ => false
  | .same => match P.underlying s, P.underlying d with | some _, some .string => true | _, _ => false
  | .strBytes => match P.underlying s with | some _ => isU8 P d | none => false
  | .bytesStr => false

def okOp : AOp → Op → Bool
  | .mov x, .move y | .mov x, .assign y | .take x, .move y | .take x, .assign y => okOpd fm x y
  | .pick c a b, .pick c' a' b' => okOpd fm c c' && okOpd fm a a' && okOpd fm b b'
  | .alloc cs, .alloc t => zeroOk P t cs
  | .box x, .box _ y => okOpd fm x y
  | .build zero parts, .build t ps => match P.underlying t with
    | some (.struct fs) => zeroOk P t zero && partsOk fm (fieldAt P fs) parts ps.toList && fs.all fun f => (P.info? f.type).isSome
    | _ => false
  | .buildSlice zero len parts, .buildSlice t len' ps => match P.underlying t with
    | some (.slice e) => match P.info? e with
      | some i => len == len' && decide (len * i.size ≤ 2 ^ 24) && i.size != 0 && zero.length == i.size && zeroOk P e zero && partsOk fm (fun k => some (k * i.size, i.size)) parts ps.toList
      | none => false
    | _ => false
  | .load n agg x, .load t y => okOpd fm x y && aggIs P t agg && sizeIs P t n
  | .store n x v, .store t y u => okOpd fm x y && okOpd fm v u && sizeIs P t n
  | .bin op ty x y, .binOp op' t x' y' _ => op == op' && tyOk P t ty && okOpd fm x x' && okOpd fm y y'
  | .un op x, .unOp op' _ y => op == op' && okOpd fm x y
  | .conv k x, .convert s d y => convOk P s d k && okOpd fm x y
  | .fieldAddr off x, .fieldAddr t y i => okOpd fm x y && (match P.underlying t with
    | some (.struct fs) => match fs[i]? with
      | some f => f.offset == off && (match P.info? f.type with | some j => j.size != 0 | none => false)
      | none => false
    | _ => false)
  | .field off n agg x, .field t y i => okOpd fm x y && (match P.underlying t with
    | some (.struct fs) => match fs[i]? with
      | some f => f.offset == off && aggIs P f.type agg && sizeIs P f.type n
      | none => false
    | _ => false)
  | .indexAddr size x i, .indexAddr t y j => okOpd fm x y && okOpd fm i j && (match P.underlying t with
    | some (.slice e) => sizeIs P e size
    | _ => false)
  | .index x i, .index t y j => okOpd fm x y && okOpd fm i j && (match P.underlying t with | some .string => true | _ => false)
  | .slice str size x lo hi, .slice t y lo' hi' none => okOpd fm x y && okOpdO fm lo lo' && okOpdO fm hi hi' && (match P.underlying t with
    | some .string => str
    | some (.slice e) => !str && sizeIs P e size
    | _ => false)
  | .makeMap, .makeMap _ none => true
  | .insert kt m k v, .insert t m' k' v' | .insert kt m k v, .mapUpdate t m' k' v' => keyOk P t kt && okOpd fm m m' && okOpd fm k k' && okOpd fm v v'
  | .lookup kt zero ok m k, .lookup t m' k' ok' => ok == ok' && keyOk P t kt && okOpd fm m m' && okOpd fm k k' && (match P.underlying t with
    | some (.map _ e) => zvalOk P e zero
    | _ => false)
  | .extract x i, .extract y j => okOpd fm x y && i == j
  | .nilCheck x, .nilCheck y => okOpd fm x y
  | .makeFunc f first captured, .makeFunc (.func g) first' captured' => fm f == g && okOpds fm first first'.toList && okOpds fm captured captured'.toList && decide (g < 1000000)
  | .call f args, .call { callee := .value g, args := args', argTypes := _ } => okOpd fm f g && okOpds fm args args'.toList
  | .callp f args, .call { callee := .value g, args := args', argTypes := _ } => okOpd fm f g && okOpds fm args args'.toList
  | .allocB, .alloc t => t == fm 1000000 && zeroOk P t [.nilp, .nils]
  | .len str x, .call { callee := .builtin .len, args := args', argTypes := ts } => match args'.toList, ts.toList with
    | [y], [t] => okOpd fm x y && (match P.underlying t with
      | some .string => str
      | some (.slice _) => !str
      | _ => false)
    | _, _ => false
  | .append size x y, .call { callee := .builtin .append, args := args', argTypes := ts } => match args'.toList, ts.toList with
    | [x', y'], [t, u] => okOpd fm x x' && okOpd fm y y' && (match P.underlying t with
      | some (.slice e) => match P.info? e, P.underlying u with
        | some i, some d => i.size == size && size != 0 && decide (i.bytes ≤ 128) && (match d with | .int _ => false | _ => true) &&
          (match i.zero with | some z => z.cells.size == size | none => false) && (match d with | .string => isU8 P t | _ => true)
        | _, _ => false
      | _ => false)
    | _, _ => false
  | .minmax max x y, .call { callee := .builtin b, args := args', argTypes := _ } => match args'.toList with
    | [x', y'] => okOpd fm x x' && okOpd fm y y' && (match b with | .max => max | .min => !max | _ => false)
    | _ => false
  | _, _ => false
end ok

theorem litOk_rep (fm : Nat → Nat) (g : Gh) (n : Nat) : ∀ {a : AVal} {v : Value}, litOk a v = true → Rep fm g n a v := by
  intro a v h
  cases a <;> cases v <;> simp [litOk] at h
  case bool.bool => subst h; exact .bool _
  case int.int => obtain ⟨rfl, rfl⟩ := h; exact .int _ _
  case str.string l s =>
    subst h
    have : s = ⟨s.data.toList.toArray⟩ := by cases s; simp
    rw [this]
    exact .str _
  case nilp.pointer a => cases a with
    | none => exact .nilp
    | some a => simp [litOk] at h
  case nils.slice a n c =>
    cases a with
    | none =>
      cases n <;> cases c <;> simp [litOk] at h
      exact .nils
    | some a => simp [litOk] at h
  case nilm.map a => cases a with
    | none => exact .nilm
    | some a => simp [litOk] at h
  case nilf.nilFunc => exact .nilf
  case nili.nilIface => exact .nili

theorem litOkL_rep (fm : Nat → Nat) (g : Gh) (n : Nat) : ∀ {cs : List AVal} {vs : List Value}, litOkL cs vs = true → RepL fm g n cs vs
  | [], [], _ => .nil
  | a :: l, v :: m, h => by
    simp only [litOkL, Bool.and_eq_true] at h
    exact .cons _ _ _ _ (litOk_rep fm g n h.1) (litOkL_rep fm g n h.2)
  | [], _ :: _, h => by simp [litOkL] at h
  | _ :: _, [], h => by simp [litOkL] at h

theorem litOkL_plain : ∀ {cs : List AVal} {vs : List Value}, litOkL cs vs = true → ∀ a ∈ cs, a.strip = a ∧ (∀ x y z, a ≠ .sl x y z)
  | [], [], _, a, ha => by cases ha
  | a :: l, v :: m, h, b, hb => by
    simp only [litOkL, Bool.and_eq_true] at h
    cases hb with
    | head => cases a <;> simp_all [litOk, AVal.strip]
    | tail _ hb => exact litOkL_plain h.2 b hb
  | [], _ :: _, h, _, _ => by simp [litOkL] at h
  | _ :: _, [], h, _, _ => by simp [litOkL] at h

section rep
variable {fm : Nat → Nat} {g : Gh} {n nt : Nat} {A : Frame} {a : Act}

theorem SlotRep.strip {t : Tag} {x : AVal} {v : Value} (h : SlotRep fm g n t x v) : Rep fm g n x.strip v := by
  cases x
  case sl cs len o =>
    cases o with
    | none => exact h
    | exact => exact h
    | moved => exact h
    | mine z =>
      obtain ⟨b, base, cap, vs, rfl, hc, hr, hp, _⟩ := h
      exact .sl _ _ _ _ _ _ _ (.inl rfl) hc hr hp
    | loc r c => exact h.1
  all_goals exact h

theorem Rep.strip {x : AVal} {v : Value} (h : Rep fm g n x v) : Rep fm g n x.strip v := by
  cases x
  case sl cs len o =>
    cases h with
    | sl _ _ _ b base cap vs ho hc hr hp =>
      rcases ho with rfl | ⟨rfl, rfl⟩
      · exact .sl _ _ _ _ _ _ _ (.inl rfl) hc hr hp
      · exact .sl _ _ _ _ _ _ _ (.inr ⟨rfl, rfl⟩) hc hr hp
    | sl0 a cap => exact .sl0 a cap
  all_goals exact h

theorem okOpd_rep {x : Opd} {y : Operand} (hF : FrameRep fm g n nt A a.tmps) (h : okOpd fm x y = true) : Rep fm g n (x.ev A) (a.eval y) := by
  cases x <;> cases y <;> simp [okOpd] at h
  case tmp.tmp d t =>
    subst h
    simp only [Opd.ev, Act.eval]
    by_cases hu : A.get d = .undef
    · rw [hu]; exact .undef _
    · obtain ⟨v, hv, hs⟩ := hF.2 d hu
      have hlt : d < a.tmps.size := (Array.getElem?_eq_some_iff.1 hv).1
      have : a.tmps.getD d undef = v := by simp [Array.getD, hlt, (Array.getElem?_eq_some_iff.1 hv).2]
      rw [this]
      exact hs.strip
  case val.const c v => exact litOk_rep fm g n h
  case fn.func i f =>
    obtain ⟨rfl, h⟩ := h
    exact .fn i [] [] [] [] .nil .nil h

theorem okOpds_rep (hF : FrameRep fm g n nt A a.tmps) : ∀ {xs : List Opd} {ys : List Operand}, okOpds fm xs ys = true → RepL fm g n (xs.map (·.ev A)) (ys.map a.eval)
  | [], [], _ => .nil
  | x :: l, y :: m, h => by
    simp only [okOpds, Bool.and_eq_true] at h
    exact .cons _ _ _ _ (okOpd_rep hF h.1) (okOpds_rep hF h.2)
  | [], _ :: _, h => by simp [okOpds] at h
  | _ :: _, [], h => by simp [okOpds] at h
end rep

end Go.Proofs.YtdhgdpokdhjanaaGreat.Abs
