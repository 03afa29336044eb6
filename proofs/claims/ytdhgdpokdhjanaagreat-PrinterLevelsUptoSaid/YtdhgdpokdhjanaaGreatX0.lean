/- What the machine knows: the functions of the program; the library's by their contracts. -/
import Derived.Test.YtdhgdpokdhjanaaGreatIrT
import Derived.Test.YtdhgdpokdhjanaaGreatFm
import Derived.Test.YtdhgdpokdhjanaaGreatA28
import Derived.Test.YtdhgdpokdhjanaaGreatA26
import Derived.Test.YtdhgdpokdhjanaaGreatA35
set_option linter.unusedSimpArgs false
set_option linter.unusedVariables false
namespace Go.Proofs.YtdhgdpokdhjanaaGreat.Abs
open Go

def hand : List Nat := [384, 385, 55, 56, 57, 52, 58, 423, 424, 483, 485]
def funcs0 (i : Nat) : Option AFunc := if hand.contains i then none else table i
def extLib (f : Nat) : Option (List AVal → ASt → Option (AVal × ASt)) := match f with
  | 483 => some extJoin
  | 485 => some extRepeat
  | 56 => some extWrite
  | 55 => some extString
  | _ => none
/-- Without the shapes. -/
def C0 : Cfg := ⟨funcs0, extLib⟩

def shapesPre : Option ACode := match f385.code with
  | .seq a (.seq b (.seq c (.seq d (.seq _ _)))) => some (.seq a (.seq b (.seq c d)))
  | _ => none
def shapesOps : List AOper := match f385.code with
  | .seq _ (.seq _ (.seq _ (.seq _ (.seq (.region _ ops _) _)))) => ops
  | _ => []
def shapesStart : Option (AExit × Frame × ASt) := match shapesPre with
  | some c => exec (upto C0 12).1 (upto C0 12).2 c [] ⟨0, []⟩
  | none => none
end Go.Proofs.YtdhgdpokdhjanaaGreat.Abs
