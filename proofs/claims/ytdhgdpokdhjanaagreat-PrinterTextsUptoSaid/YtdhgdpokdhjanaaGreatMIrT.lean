/- The table of the functions. -/
import Derived.Test.YtdhgdpokdhjanaaGreatIr0
import Derived.Test.YtdhgdpokdhjanaaGreatIr1
import Derived.Test.YtdhgdpokdhjanaaGreatIr2
import Derived.Test.YtdhgdpokdhjanaaGreatMA1
import Derived.Test.YtdhgdpokdhjanaaGreatMA27
import Derived.Test.YtdhgdpokdhjanaaGreatA26
import Derived.KernelRfl
import Derived.RangeFuncRecord
import Derived.RangeFuncLeaves
import Derived.Test.YtdhgdpokdhjanaaGreatProg
import Derived.Test.YtdhgdpokdhjanaaGreatShelf
set_option linter.unusedSimpArgs false
set_option linter.unusedVariables false
namespace Go.Proofs.YtdhgdpokdhjanaaGreat.Abs
open Go
def rows : List (List (Option AFunc)) := [
  [none, none, none, none, none, none, none, none, none, none, none, none, none, none, none, none],
  [none, none, none, none, none, none, none, none, none, none, none, none, none, none, none, none],
  [none, none, none, none, none, none, none, none, none, none, none, none, none, none, none, none],
  [none, none, none, none, none, some f53, none, none, none, none, none, none, none, none, none, none],
  [none, none, none, none, none, none, none, some f71, some f72, some f73, some f74, some f75, some f76, some f77, some f78, some f79],
  [some f80, some f81, some f82, some f83, some f84, some f85, some f86, some f87, some f88, some f89, some f90, some f91, some f92, some f93, some f94, some f95],
  [some f96, some f97, some f98, none, none, none, none, none, none, none, none, none, none, none, none, none],
  [none, none, none, none, some f116, none, none, none, some f120, some f121, none, none, none, none, none, none],
  [none, none, none, none, none, none, none, none, none, none, none, none, none, none, some f142, some f143],
  [some f144, some f145, none, some f147, none, none, some f150, some f151, some f152, none, some f154, some f155, some f156, some f157, none, none],
  [none, some f161, none, some f163, some f164, none, some f166, none, some f168, none, some f170, some f171, some f172, some f173, some f174, some f175],
  [none, none, some f178, some f179, some f180, some f181, some f182, some f183, some f184, none, none, some f187, some f188, some f189, some f190, some f191],
  [some f192, some f193, some f194, some f195, some f196, some f197, some f198, some f199, some f200, some f201, some f202, some f203, some f204, some f205, some f206, some f207],
  [some f208, some f209, some f210, some f211, some f212, some f213, some f214, some f215, some f216, some f217, some f218, some f219, some f220, some f221, some f222, some f223],
  [some f224, some f225, some f226, some f227, some f228, some f229, some f230, some f231, some f232, some f233, some f234, some f235, some f236, some f237, none, none],
  [none, none, none, none, none, none, none, none, none, none, none, none, none, none, none, none],
  [none, none, none, none, none, none, none, none, none, none, none, none, none, none, none, none],
  [none, none, none, none, none, none, none, none, none, none, none, none, none, none, none, none],
  [none, none, none, none, none, none, some f294, some f295, some f296, some f297, none, none, none, some f301, none, some f303],
  [some f304, some f305, none, none, none, none, none, none, none, none, none, none, none, none, none, none],
  [none, none, none, none, none, none, none, none, none, none, none, none, none, none, none, none],
  [none, none, some f338, some f339, some f340, some f341, some f342, some f343, some f344, some f345, some f346, some f347, none, none, none, none],
  [none, none, none, none, none, none, none, none, some f360, none, none, none, none, none, none, some f367],
  [some f368, none, some f370, some f371, some f372, some f373, some f374, some f375, some f376, some f377, some f378, some f379, some f380, some f381, some f382, none],
  [some f384, some f385, some f386, some f387, some f388, some f389, none, none, none, none, some f394, none, none, none, none, none],
  [none, none, none, none, none, none, none, none, none, none, none, none, none, none, none, some f415],
  [none, none, none, none, none, none, some f422, none, none, none, none, none, none, none, none, none],
  [none, none, none, none, none, none, none, some f439, some f440, none, none, none, none, none, some f446, some f447],
  [none, none, none, none, none, none, none, none, none, none, none, none, none, none, none, none],
  [none, none, none, none, none, none, none, none, none, none, none, none, none, none, none, some f479],
  [none, none, none, none, none, none, none, none, none, none, none, none, none, none, none, none]]
def table (i : Nat) : Option AFunc := ((rows[i / 16]?).getD [])[i % 16]?.getD none
end Go.Proofs.YtdhgdpokdhjanaaGreat.Abs
/- The numbers of the functions in the program; written by a program. -/
namespace Go.Proofs.YtdhgdpokdhjanaaGreat.Abs
open Go
def fmRows : List (List Nat) := [
  [0, 0, 0, 0, 0, 0, 0, 0, 0, 0, 0, 0, 0, 0, 0, 0],
  [0, 0, 0, 0, 0, 0, 0, 0, 0, 0, 0, 0, 0, 0, 0, 0],
  [0, 0, 0, 0, 0, 0, 0, 0, 0, 0, 0, 0, 0, 0, 0, 189],
  [187, 188, 185, 186, 167, 171, 192, 139, 137, 161, 172, 0, 0, 0, 0, 0],
  [0, 0, 0, 0, 0, 0, 0, 135, 90, 98, 93, 106, 91, 104, 88, 94],
  [96, 92, 99, 138, 100, 140, 102, 103, 95, 101, 87, 84, 85, 97, 86, 105],
  [89, 36, 136, 193, 190, 191, 177, 178, 183, 184, 179, 180, 181, 182, 0, 0],
  [0, 0, 0, 5, 3, 6, 4, 0, 7, 9, 0, 0, 0, 0, 0, 0],
  [0, 0, 0, 0, 0, 0, 0, 0, 0, 0, 0, 0, 0, 0, 28, 142],
  [107, 72, 0, 63, 0, 0, 145, 143, 117, 0, 141, 111, 144, 112, 0, 0],
  [0, 19, 0, 27, 79, 0, 25, 0, 110, 0, 18, 37, 8, 53, 109, 16],
  [0, 0, 62, 61, 108, 60, 21, 29, 17, 0, 0, 73, 68, 120, 163, 119],
  [71, 146, 118, 50, 66, 49, 67, 40, 39, 47, 46, 65, 64, 45, 75, 76],
  [70, 113, 69, 121, 147, 42, 44, 41, 43, 148, 38, 116, 115, 114, 122, 22],
  [14, 11, 13, 24, 57, 32, 80, 77, 33, 55, 31, 54, 51, 56, 0, 0],
  [0, 0, 0, 0, 0, 0, 0, 0, 0, 0, 0, 0, 0, 0, 0, 0],
  [0, 0, 0, 0, 0, 0, 0, 0, 0, 0, 0, 0, 0, 0, 0, 0],
  [0, 0, 0, 0, 0, 0, 0, 0, 0, 0, 0, 0, 0, 0, 0, 0],
  [0, 0, 0, 0, 0, 0, 150, 123, 152, 159, 0, 0, 0, 153, 0, 164],
  [149, 151, 0, 0, 0, 0, 0, 0, 0, 0, 0, 0, 0, 0, 0, 0],
  [0, 0, 0, 0, 0, 0, 0, 0, 0, 0, 0, 0, 0, 0, 0, 0],
  [0, 0, 20, 15, 10, 12, 23, 35, 26, 30, 134, 59, 0, 0, 0, 0],
  [0, 0, 0, 0, 0, 0, 0, 0, 48, 0, 0, 0, 0, 0, 0, 52],
  [34, 0, 128, 83, 74, 131, 78, 126, 82, 132, 130, 124, 154, 125, 156, 0],
  [58, 81, 129, 133, 127, 157, 0, 0, 0, 1, 2, 0, 168, 0, 0, 0],
  [0, 0, 0, 176, 0, 0, 0, 0, 0, 0, 0, 0, 0, 0, 0, 175],
  [0, 0, 0, 0, 0, 0, 169, 173, 174, 0, 0, 0, 0, 0, 0, 0],
  [0, 0, 0, 0, 0, 0, 0, 155, 158, 0, 0, 0, 0, 0, 165, 166],
  [0, 0, 0, 0, 0, 0, 0, 0, 0, 0, 0, 0, 0, 0, 0, 0],
  [0, 0, 0, 0, 0, 0, 0, 0, 0, 0, 0, 0, 0, 0, 0, 170],
  [0, 0, 0, 160, 0, 162, 0, 0, 0, 0, 0, 0, 0, 0, 0, 0],
  [0, 0, 0, 0, 0, 0, 0, 0, 0, 0, 0, 0, 0, 0, 0, 0],
  [0, 0, 0, 0, 0, 0, 0, 0, 0, 0, 0, 0, 0, 0, 0, 0],
  [0]]
def fm (i : Nat) : Nat := match Nat.ble 1000000 i with
  | true => match Nat.beq i 1000000 with
    | true => 111
    | false => match Nat.beq i 1000001 with
      | true => 5
      | false => i - 1000000
  | false => ((fmRows[i / 16]?).getD [])[i % 16]?.getD 0
end Go.Proofs.YtdhgdpokdhjanaaGreat.Abs
/- What the machine knows: the functions of the program; the library's by their contracts. -/
namespace Go.Proofs.YtdhgdpokdhjanaaGreat.Abs
open Go

def hand : List Nat := [384, 385, 55, 56, 57, 52, 58, 423, 424, 483, 485]
def funcs0 (i : Nat) : Option AFunc := if hand.contains i then none else table i
def extLib (f : Nat) : Option (List AVal → ASt → Option (AVal × ASt)) := match f with
  | 483 => some extJoin
  | 485 => some extRepeat
  | 56 => some extWrite
  | 55 => some extString
  | _ => none
/-- Without the shapes. -/
def C0 : Cfg := ⟨funcs0, extLib⟩

def shapesPre : Option ACode := match f385.code with
  | .seq a (.seq b (.seq c (.seq d (.seq _ _)))) => some (.seq a (.seq b (.seq c d)))
  | _ => none
def shapesOps : List AOper := match f385.code with
  | .seq _ (.seq _ (.seq _ (.seq _ (.seq (.region _ ops _) _)))) => ops
  | _ => []
def shapesStart : Option (AExit × Frame × ASt) := match shapesPre with
  | some c => exec (upto C0 12).1 (upto C0 12).2 c [] ⟨0, []⟩
  | none => none
end Go.Proofs.YtdhgdpokdhjanaaGreat.Abs
/- The table of the shapes: whatever the order in which it is laid, it answers as the table in the text's order. -/
namespace Go.Proofs.YtdhgdpokdhjanaaGreat.Abs
open Go

mutual
theorem under_mono {n m : Nat} (h : n ≤ m) : ∀ {a : AVal}, a.under n = true → a.under m = true
  | .undef, _ => rfl
  | .bool _, _ => rfl
  | .int _ _, _ => rfl
  | .str _, _ => rfl
  | .nilp, _ => rfl
  | .nils, _ => rfl
  | .nilm, _ => rfl
  | .nilf, _ => rfl
  | .nili, _ => rfl
  | .ref r _, hu => by simp [AVal.under] at hu ⊢; omega
  | .map r, hu => by simp [AVal.under] at hu ⊢; omega
  | .ipt cs _, hu => by simp only [AVal.under] at hu ⊢; exact underL_mono h hu
  | .sl cs _ o, hu => by
    simp only [AVal.under, Bool.and_eq_true] at hu ⊢
    refine ⟨underL_mono h hu.1, ?_⟩
    have := hu.2
    cases o <;> simp [Own.under] at this ⊢
    omega
  | .imap ks vs, hu => by
    simp only [AVal.under, Bool.and_eq_true] at hu ⊢
    exact ⟨underL_mono h hu.1, underL_mono h hu.2⟩
  | .fn _ ks vs, hu => by
    simp only [AVal.under, Bool.and_eq_true] at hu ⊢
    exact ⟨underL_mono h hu.1, underL_mono h hu.2⟩
  | .agg cs, hu => by simp only [AVal.under] at hu ⊢; exact underL_mono h hu
  | .tup cs, hu => by simp only [AVal.under] at hu ⊢; exact underL_mono h hu
theorem underL_mono {n m : Nat} (h : n ≤ m) : ∀ {l : List AVal}, underL n l = true → underL m l = true
  | [], _ => rfl
  | a :: l, hu => by
    simp only [underL, Bool.and_eq_true] at hu ⊢
    exact ⟨under_mono h hu.1, underL_mono h hu.2⟩
end

theorem underL_all {n : Nat} : ∀ {l : List AVal}, underL n l = true ↔ ∀ a ∈ l, a.under n = true
  | [] => by simp [underL]
  | a :: l => by simp [underL, underL_all (l := l)]

/-- The shapes, in the order of the text. -/
def tab : List (Int × AVal) := [
(0, (.agg [(.fn 370 [] []), .nils, .nilf, (.int .i64 0)])),
(2, (.agg [(.fn 370 [] []), .nils, (.fn 380 [] [(.ipt [(.sl [(.int .i64 3), (.int .i64 5)] 2 .exact)] 0)]), (.int .i64 0)])),
(3, (.agg [(.fn 295 [] []), .nils, (.fn 380 [] [(.ipt [(.sl [(.int .i64 4)] 1 .exact)] 0)]), (.int .i64 1)])),
(4, (.agg [(.fn 295 [] []), (.sl [(.fn 380 [] [(.ipt [(.sl [(.int .i64 9)] 1 .exact)] 0)])] 1 .exact), .nilf, (.int .i64 0)])),
(5, (.agg [(.fn 295 [] []), (.sl [(.fn 380 [] [(.ipt [(.sl [(.int .i64 6)] 1 .exact)] 0)]), (.fn 382 [] [(.ipt [(.fn 375 [] [])] 0)]), (.fn 380 [] [(.ipt [(.sl [(.int .i64 11)] 1 .exact)] 0)])] 3 .exact), .nilf, (.int .i64 0)])),
(6, (.agg [(.fn 370 [] []), .nils, (.fn 380 [] [(.ipt [(.sl [(.int .i64 7), (.int .i64 8)] 2 .exact)] 0)]), (.int .i64 0)])),
(7, (.agg [(.fn 295 [] []), (.sl [(.fn 382 [] [(.ipt [(.fn 375 [] [])] 0)])] 1 .exact), .nilf, (.int .i64 0)])),
(8, (.agg [(.fn 295 [] []), (.sl [(.fn 382 [] [(.ipt [(.fn 375 [] [])] 0)])] 1 .exact), .nilf, (.int .i64 0)])),
(9, (.agg [(.fn 386 [] [(.ipt [(.fn 389 [] [(.ipt [(.sl [(.str [105, 110, 116]), (.str [98, 111, 111, 108])] 2 .exact)] 0)])] 0), (.ipt [(.fn 295 [] [])] 0)]), .nils, .nilf, (.int .i64 0)])),
(10, (.agg [(.fn 378 [] []), .nils, .nilf, (.int .i64 0)])),
(11, (.agg [(.fn 370 [] []), .nils, (.fn 374 [] []), (.int .i64 0)])),
(12, (.agg [(.fn 295 [] []), (.sl [(.fn 382 [] [(.ipt [(.fn 375 [] [])] 0)]), (.fn 372 [] [])] 2 .exact), .nilf, (.int .i64 0)])),
(13, (.agg [(.fn 370 [] []), (.sl [(.fn 373 [] []), (.fn 372 [] [])] 2 .exact), .nilf, (.int .i64 0)])),
(14, (.agg [(.fn 370 [] []), (.sl [(.fn 372 [] []), (.fn 380 [] [(.ipt [(.sl [(.int .i64 11)] 1 .exact)] 0)]), (.fn 382 [] [(.ipt [(.fn 380 [] [(.ipt [(.sl [(.int .i64 11), (.int .i64 14)] 2 .exact)] 0)])] 0)])] 3 .exact), .nilf, (.int .i64 0)])),
(15, (.agg [(.fn 370 [] []), (.sl [(.fn 372 [] []), (.fn 380 [] [(.ipt [(.sl [(.int .i64 11)] 1 .exact)] 0)])] 2 .exact), .nilf, (.int .i64 0)])),
(16, (.agg [(.fn 295 [] []), (.sl [(.fn 372 [] []), (.fn 372 [] []), (.fn 380 [] [(.ipt [(.sl [(.int .i64 11)] 1 .exact)] 0)])] 3 .exact), .nilf, (.int .i64 0)])),
(17, (.agg [(.fn 370 [] []), (.sl [(.fn 382 [] [(.ipt [(.fn 372 [] [])] 0)])] 1 .exact), .nilf, (.int .i64 0)])),
(18, (.agg [(.fn 370 [] []), (.sl [(.fn 372 [] [])] 1 .exact), .nilf, (.int .i64 0)])),
(19, (.agg [(.fn 295 [] []), .nils, (.fn 372 [] []), (.int .i64 0)])),
(20, (.agg [(.fn 295 [] []), .nils, .nilf, (.int .i64 0)])),
(21, (.agg [(.fn 370 [] []), (.sl [(.fn 380 [] [(.ipt [(.sl [(.int .i64 20)] 1 .exact)] 0)]), (.fn 372 [] [])] 2 .exact), .nilf, (.int .i64 0)])),
(22, (.agg [(.fn 295 [] []), (.sl [(.fn 380 [] [(.ipt [(.sl [(.int .i64 20)] 1 .exact)] 0)])] 1 .exact), .nilf, (.int .i64 0)])),
(23, (.agg [(.fn 370 [] []), (.sl [(.fn 380 [] [(.ipt [(.sl [(.int .i64 20)] 1 .exact)] 0)])] 1 .exact), .nilf, (.int .i64 0)])),
(24, (.agg [(.fn 378 [] []), .nils, .nilf, (.int .i64 0)])),
(25, (.agg [(.fn 389 [] [(.ipt [(.sl [(.str [116, 114, 117, 101]), (.str [102, 97, 108, 115, 101])] 2 .exact)] 0)]), .nils, .nilf, (.int .i64 0)])),
(26, (.agg [(.fn 370 [] []), .nils, (.fn 372 [] []), (.int .i64 1)])),
(27, (.agg [(.fn 295 [] []), .nils, (.fn 372 [] []), (.int .i64 0)])),
(28, (.agg [(.fn 389 [] [(.ipt [(.sl [(.str [45]), (.str [110, 111, 116])] 2 .exact)] 0)]), (.sl [(.fn 372 [] [])] 1 .exact), .nilf, (.int .i64 0)])),
(29, (.agg [(.fn 389 [] [(.ipt [(.sl [(.str [111, 114]), (.str [97, 110, 100]), (.str [61, 61]), (.str [33, 61]), (.str [60]), (.str [60, 61]), (.str [62]), (.str [62, 61]), (.str [43]), (.str [45]), (.str [42]), (.str [47]), (.str [37])] 13 .exact)] 0)]), (.sl [(.fn 372 [] []), (.fn 372 [] [])] 2 .exact), .nilf, (.int .i64 0)]))]

def shA1 : Frame := [(1, .ref 0 0)]
def shA2 : Frame := [(1, (.ref 0 0)), (2, (.fn 380 [] [(.ipt [(.sl [(.int .i64 11)] 1 .exact)] 0)])), (3, (.fn 372 [] [])), (4, (.fn 382 [] [(.ipt [(.fn 375 [] [])] 0)]))]
def shA3 : Frame := [(1, (.ref 0 0)), (2, (.fn 380 [] [(.ipt [(.sl [(.int .i64 11)] 1 .exact)] 0)])), (3, (.fn 372 [] [])), (4, (.fn 382 [] [(.ipt [(.fn 375 [] [])] 0)])), (5, (.ref 1 0))]
def shO1 : List AObj := [.cells [(.fn 295 [] [])]]
def shO : List AObj := [.cells [(.fn 389 [] [(.ipt [(.sl [(.str [105, 110, 116]), (.str [98, 111, 111, 108])] 2 .exact)] 0)])], .cells [(.fn 295 [] [])]]
def shV : List (Nat × AVal) := [
  (0, (.map 2)),
  (118, (.map 2)),
  (117, (.agg [(.fn 389 [] [(.ipt [(.sl [(.str [111, 114]), (.str [97, 110, 100]), (.str [61, 61]), (.str [33, 61]), (.str [60]), (.str [60, 61]), (.str [62]), (.str [62, 61]), (.str [43]), (.str [45]), (.str [42]), (.str [47]), (.str [37])] 13 .exact)] 0)]), (.sl [(.fn 372 [] []), (.fn 372 [] [])] 2 .exact), .nilf, (.int .i64 0)])),
  (116, (.sl [(.fn 372 [] []), (.fn 372 [] [])] 2 .exact)),
  (115, (.fn 372 [] [])),
  (114, (.fn 372 [] [])),
  (113, (.fn 389 [] [(.ipt [(.sl [(.str [111, 114]), (.str [97, 110, 100]), (.str [61, 61]), (.str [33, 61]), (.str [60]), (.str [60, 61]), (.str [62]), (.str [62, 61]), (.str [43]), (.str [45]), (.str [42]), (.str [47]), (.str [37])] 13 .exact)] 0)])),
  (112, (.sl [(.str [111, 114]), (.str [97, 110, 100]), (.str [61, 61]), (.str [33, 61]), (.str [60]), (.str [60, 61]), (.str [62]), (.str [62, 61]), (.str [43]), (.str [45]), (.str [42]), (.str [47]), (.str [37])] 13 .exact)),
  (111, (.agg [(.fn 389 [] [(.ipt [(.sl [(.str [45]), (.str [110, 111, 116])] 2 .exact)] 0)]), (.sl [(.fn 372 [] [])] 1 .exact), .nilf, (.int .i64 0)])),
  (110, (.sl [(.fn 372 [] [])] 1 .exact)),
  (109, (.fn 372 [] [])),
  (108, (.fn 389 [] [(.ipt [(.sl [(.str [45]), (.str [110, 111, 116])] 2 .exact)] 0)])),
  (107, (.sl [(.str [45]), (.str [110, 111, 116])] 2 .exact)),
  (106, (.agg [(.fn 295 [] []), .nils, (.fn 372 [] []), (.int .i64 0)])),
  (105, (.fn 372 [] [])),
  (104, (.fn 295 [] [])),
  (103, (.agg [(.fn 370 [] []), .nils, (.fn 372 [] []), (.int .i64 1)])),
  (102, (.fn 372 [] [])),
  (101, (.agg [(.fn 389 [] [(.ipt [(.sl [(.str [116, 114, 117, 101]), (.str [102, 97, 108, 115, 101])] 2 .exact)] 0)]), .nils, .nilf, (.int .i64 0)])),
  (100, (.fn 389 [] [(.ipt [(.sl [(.str [116, 114, 117, 101]), (.str [102, 97, 108, 115, 101])] 2 .exact)] 0)])),
  (99, (.sl [(.str [116, 114, 117, 101]), (.str [102, 97, 108, 115, 101])] 2 .exact)),
  (98, (.agg [(.fn 378 [] []), .nils, .nilf, (.int .i64 0)])),
  (97, (.agg [(.fn 370 [] []), (.sl [(.fn 380 [] [(.ipt [(.sl [(.int .i64 20)] 1 .exact)] 0)])] 1 .exact), .nilf, (.int .i64 0)])),
  (96, (.sl [(.fn 380 [] [(.ipt [(.sl [(.int .i64 20)] 1 .exact)] 0)])] 1 .exact)),
  (95, (.fn 380 [] [(.ipt [(.sl [(.int .i64 20)] 1 .exact)] 0)])),
  (94, (.sl [(.int .i64 20)] 1 .exact)),
  (93, (.agg [(.fn 295 [] []), (.sl [(.fn 380 [] [(.ipt [(.sl [(.int .i64 20)] 1 .exact)] 0)])] 1 .exact), .nilf, (.int .i64 0)])),
  (92, (.sl [(.fn 380 [] [(.ipt [(.sl [(.int .i64 20)] 1 .exact)] 0)])] 1 .exact)),
  (91, (.fn 380 [] [(.ipt [(.sl [(.int .i64 20)] 1 .exact)] 0)])),
  (90, (.sl [(.int .i64 20)] 1 .exact)),
  (89, (.fn 295 [] [])),
  (88, (.agg [(.fn 370 [] []), (.sl [(.fn 380 [] [(.ipt [(.sl [(.int .i64 20)] 1 .exact)] 0)]), (.fn 372 [] [])] 2 .exact), .nilf, (.int .i64 0)])),
  (87, (.sl [(.fn 380 [] [(.ipt [(.sl [(.int .i64 20)] 1 .exact)] 0)]), (.fn 372 [] [])] 2 .exact)),
  (86, (.fn 372 [] [])),
  (85, (.fn 380 [] [(.ipt [(.sl [(.int .i64 20)] 1 .exact)] 0)])),
  (84, (.sl [(.int .i64 20)] 1 .exact)),
  (83, (.agg [(.fn 295 [] []), .nils, .nilf, (.int .i64 0)])),
  (82, (.fn 295 [] [])),
  (81, (.agg [(.fn 295 [] []), .nils, (.fn 372 [] []), (.int .i64 0)])),
  (80, (.fn 372 [] [])),
  (79, (.fn 295 [] [])),
  (78, (.agg [(.fn 370 [] []), (.sl [(.fn 372 [] [])] 1 .exact), .nilf, (.int .i64 0)])),
  (77, (.sl [(.fn 372 [] [])] 1 .exact)),
  (76, (.fn 372 [] [])),
  (75, (.agg [(.fn 370 [] []), (.sl [(.fn 382 [] [(.ipt [(.fn 372 [] [])] 0)])] 1 .exact), .nilf, (.int .i64 0)])),
  (74, (.sl [(.fn 382 [] [(.ipt [(.fn 372 [] [])] 0)])] 1 .exact)),
  (73, (.fn 382 [] [(.ipt [(.fn 372 [] [])] 0)])),
  (72, (.fn 372 [] [])),
  (71, (.agg [(.fn 295 [] []), (.sl [(.fn 372 [] []), (.fn 372 [] []), (.fn 380 [] [(.ipt [(.sl [(.int .i64 11)] 1 .exact)] 0)])] 3 .exact), .nilf, (.int .i64 0)])),
  (70, (.sl [(.fn 372 [] []), (.fn 372 [] []), (.fn 380 [] [(.ipt [(.sl [(.int .i64 11)] 1 .exact)] 0)])] 3 .exact)),
  (69, (.fn 380 [] [(.ipt [(.sl [(.int .i64 11)] 1 .exact)] 0)])),
  (68, (.fn 372 [] [])),
  (67, (.fn 372 [] [])),
  (66, (.fn 295 [] [])),
  (65, (.agg [(.fn 370 [] []), (.sl [(.fn 372 [] []), (.fn 380 [] [(.ipt [(.sl [(.int .i64 11)] 1 .exact)] 0)])] 2 .exact), .nilf, (.int .i64 0)])),
  (64, (.sl [(.fn 372 [] []), (.fn 380 [] [(.ipt [(.sl [(.int .i64 11)] 1 .exact)] 0)])] 2 .exact)),
  (63, (.fn 380 [] [(.ipt [(.sl [(.int .i64 11)] 1 .exact)] 0)])),
  (62, (.fn 372 [] [])),
  (61, (.agg [(.fn 370 [] []), (.sl [(.fn 372 [] []), (.fn 380 [] [(.ipt [(.sl [(.int .i64 11)] 1 .exact)] 0)]), (.fn 382 [] [(.ipt [(.fn 380 [] [(.ipt [(.sl [(.int .i64 11), (.int .i64 14)] 2 .exact)] 0)])] 0)])] 3 .exact), .nilf, (.int .i64 0)])),
  (60, (.sl [(.fn 372 [] []), (.fn 380 [] [(.ipt [(.sl [(.int .i64 11)] 1 .exact)] 0)]), (.fn 382 [] [(.ipt [(.fn 380 [] [(.ipt [(.sl [(.int .i64 11), (.int .i64 14)] 2 .exact)] 0)])] 0)])] 3 .exact)),
  (59, (.fn 382 [] [(.ipt [(.fn 380 [] [(.ipt [(.sl [(.int .i64 11), (.int .i64 14)] 2 .exact)] 0)])] 0)])),
  (58, (.fn 380 [] [(.ipt [(.sl [(.int .i64 11), (.int .i64 14)] 2 .exact)] 0)])),
  (57, (.sl [(.int .i64 11), (.int .i64 14)] 2 .exact)),
  (56, (.fn 380 [] [(.ipt [(.sl [(.int .i64 11)] 1 .exact)] 0)])),
  (55, (.fn 372 [] [])),
  (54, (.agg [(.fn 370 [] []), (.sl [(.fn 373 [] []), (.fn 372 [] [])] 2 .exact), .nilf, (.int .i64 0)])),
  (53, (.sl [(.fn 373 [] []), (.fn 372 [] [])] 2 .exact)),
  (52, (.fn 372 [] [])),
  (51, (.agg [(.fn 295 [] []), (.sl [(.fn 382 [] [(.ipt [(.fn 375 [] [])] 0)]), (.fn 372 [] [])] 2 .exact), .nilf, (.int .i64 0)])),
  (50, (.sl [(.fn 382 [] [(.ipt [(.fn 375 [] [])] 0)]), (.fn 372 [] [])] 2 .exact)),
  (49, (.fn 372 [] [])),
  (48, (.fn 382 [] [(.ipt [(.fn 375 [] [])] 0)])),
  (47, (.fn 295 [] [])),
  (46, (.agg [(.fn 370 [] []), .nils, (.fn 374 [] []), (.int .i64 0)])),
  (45, (.agg [(.fn 378 [] []), .nils, .nilf, (.int .i64 0)])),
  (44, (.agg [(.fn 386 [] [(.ref 1 0), (.ref 0 0)]), .nils, .nilf, (.int .i64 0)])),
  (43, (.fn 386 [] [(.ref 1 0), (.ref 0 0)])),
  (42, (.agg [(.fn 295 [] []), (.sl [(.fn 382 [] [(.ipt [(.fn 375 [] [])] 0)])] 1 .exact), .nilf, (.int .i64 0)])),
  (41, (.sl [(.fn 382 [] [(.ipt [(.fn 375 [] [])] 0)])] 1 .exact)),
  (40, (.fn 382 [] [(.ipt [(.fn 375 [] [])] 0)])),
  (39, (.fn 295 [] [])),
  (38, (.agg [(.fn 295 [] []), (.sl [(.fn 382 [] [(.ipt [(.fn 375 [] [])] 0)])] 1 .exact), .nilf, (.int .i64 0)])),
  (37, (.sl [(.fn 382 [] [(.ipt [(.fn 375 [] [])] 0)])] 1 .exact)),
  (36, (.fn 382 [] [(.ipt [(.fn 375 [] [])] 0)])),
  (35, (.fn 295 [] [])),
  (34, (.agg [(.fn 370 [] []), .nils, (.fn 380 [] [(.ipt [(.sl [(.int .i64 7), (.int .i64 8)] 2 .exact)] 0)]), (.int .i64 0)])),
  (33, (.fn 380 [] [(.ipt [(.sl [(.int .i64 7), (.int .i64 8)] 2 .exact)] 0)])),
  (32, (.sl [(.int .i64 7), (.int .i64 8)] 2 .exact)),
  (31, (.agg [(.fn 295 [] []), (.sl [(.fn 380 [] [(.ipt [(.sl [(.int .i64 6)] 1 .exact)] 0)]), (.fn 382 [] [(.ipt [(.fn 375 [] [])] 0)]), (.fn 380 [] [(.ipt [(.sl [(.int .i64 11)] 1 .exact)] 0)])] 3 .exact), .nilf, (.int .i64 0)])),
  (30, (.sl [(.fn 380 [] [(.ipt [(.sl [(.int .i64 6)] 1 .exact)] 0)]), (.fn 382 [] [(.ipt [(.fn 375 [] [])] 0)]), (.fn 380 [] [(.ipt [(.sl [(.int .i64 11)] 1 .exact)] 0)])] 3 .exact)),
  (29, (.fn 380 [] [(.ipt [(.sl [(.int .i64 11)] 1 .exact)] 0)])),
  (28, (.fn 382 [] [(.ipt [(.fn 375 [] [])] 0)])),
  (27, (.fn 380 [] [(.ipt [(.sl [(.int .i64 6)] 1 .exact)] 0)])),
  (26, (.sl [(.int .i64 6)] 1 .exact)),
  (25, (.fn 295 [] [])),
  (24, (.agg [(.fn 295 [] []), (.sl [(.fn 380 [] [(.ipt [(.sl [(.int .i64 9)] 1 .exact)] 0)])] 1 .exact), .nilf, (.int .i64 0)])),
  (23, (.sl [(.fn 380 [] [(.ipt [(.sl [(.int .i64 9)] 1 .exact)] 0)])] 1 .exact)),
  (22, (.fn 380 [] [(.ipt [(.sl [(.int .i64 9)] 1 .exact)] 0)])),
  (21, (.sl [(.int .i64 9)] 1 .exact)),
  (20, (.fn 295 [] [])),
  (19, (.agg [(.fn 295 [] []), .nils, (.fn 380 [] [(.ipt [(.sl [(.int .i64 4)] 1 .exact)] 0)]), (.int .i64 1)])),
  (18, (.fn 380 [] [(.ipt [(.sl [(.int .i64 4)] 1 .exact)] 0)])),
  (17, (.sl [(.int .i64 4)] 1 .exact)),
  (16, (.fn 295 [] [])),
  (15, (.agg [(.fn 370 [] []), .nils, (.fn 380 [] [(.ipt [(.sl [(.int .i64 3), (.int .i64 5)] 2 .exact)] 0)]), (.int .i64 0)])),
  (14, (.fn 380 [] [(.ipt [(.sl [(.int .i64 3), (.int .i64 5)] 2 .exact)] 0)])),
  (13, (.sl [(.int .i64 3), (.int .i64 5)] 2 .exact)),
  (12, (.agg [(.fn 370 [] []), .nils, .nilf, (.int .i64 0)])),
  (11, (.map 2))]
def shF : Frame := shV ++ shA3

def shK : CallFn := (upto C0 12).1
def shL : LoopFn := (upto C0 12).2

def part (k : Nat) : ACode → ACode
  | .seq a b => match k with
    | 0 => a
    | k + 1 => part k b
  | c => match k with
    | 0 => c
    | _ => .bad

theorem sh1 : exec shK shL (part 0 f385.code) [] ⟨0, []⟩ = some (.normal, [], ⟨0, []⟩) := by kernel_rfl
theorem sh2 : exec shK shL (part 1 f385.code) [] ⟨0, []⟩ = some (.normal, shA1, ⟨1, shO1⟩) := by kernel_rfl
theorem sh3 : exec shK shL (part 2 f385.code) shA1 ⟨1, shO1⟩ = some (.normal, shA2, ⟨1, shO1⟩) := by kernel_rfl
theorem sh4 : exec shK shL (part 3 f385.code) shA2 ⟨1, shO1⟩ = some (.normal, shA3, ⟨2, shO⟩) := by kernel_rfl

def opsOf : ACode → List AOper
  | .region (some _) ops _ => ops
  | _ => []
def shOps : List AOper := opsOf (part 4 f385.code)
def shEnt : List (Int × AVal) := shOps.filterMap (entryOf shF 11)

theorem shRuns0 : (shOps.map fun o => if o.plain then aop shK o.op shF ⟨2, shO⟩ else none) = shOps.map fun o => if o.plain then o.dst.map fun d => (shF.get d, shF, ⟨2, shO⟩) else none := by kernel_rfl
theorem shRuns : (fun ks vs => shOps.map fun o => if o.plain then aop shK o.op shF ⟨3, .map ks vs :: shO⟩ else none) = (fun ks vs => shOps.map fun o => if o.plain then o.dst.map fun d => (shF.get d, shF, (⟨3, .map ks vs :: shO⟩ : ASt)) else none) := by kernel_rfl
theorem shKinds : (shOps.zipIdx.all fun (o, i) => i == 0 || o.plain || (entryOf shF 11 o).isSome) = true := by kernel_rfl
theorem shDst : (shV.all fun p => shOps.any fun o => o.dst == some p.1) = true := by kernel_rfl
theorem shUnder : (shEnt.all fun p => p.2.under 3) = true := by kernel_rfl
theorem shKeys : ((shEnt.map (·.1)).Nodup) := of_decide_eq_true (by kernel_rfl)
theorem shFz : (fun ks vs => shEnt.map fun p => (fz 0 ⟨3, .map ks vs :: shO⟩ 63 p.2).map fun v => (p.1, v)) = (fun _ _ => tab.map some) := by kernel_rfl
theorem tabKeys : (tab.map (·.1)).Nodup := of_decide_eq_true (by kernel_rfl)
theorem tabUnder : (underL 0 (ksOf tab) && underL 0 (vsOf tab)) = true := by kernel_rfl

def backOk (ops : Array Oper) : Bool := ops.toList.zipIdx.all fun (o, k) => o.after.toList.all fun e => !Region.binds .any e || decide (e.on < k)

def shapesOk (P : Program) (fm : Nat → Nat) (fn : Func) : Bool := match fn.body with
  | some (.seq a (.seq b (.seq c (.seq d (.seq (.region _ ops true) .ret))))) =>
    okCode P fm fn.ntmps (part 0 f385.code) a && okCode P fm fn.ntmps (part 1 f385.code) b && okCode P fm fn.ntmps (part 2 f385.code) c && okCode P fm fn.ntmps (part 3 f385.code) d &&
      okOpers P fm fn.ntmps ops shOps ops.toList && backOk ops && readsBound shOps ops.toList && (shOps.length == ops.size) && resOks P [.slot 0] fn.results.toList && !(fn.name == "runtime.NumGoroutine")
  | _ => false

theorem map_get {α β : Type} {f g : α → β} {l : List α} (h : l.map f = l.map g) {i : Nat} {x : α} (hx : l[i]? = some x) : f x = g x := by
  have h1 : (l.map f)[i]? = (l.map g)[i]? := by rw [h]
  simpa [hx] using h1

theorem get_append {A : Frame} {d : Nat} : ∀ {V : List (Nat × AVal)}, (∀ p ∈ V, p.1 ≠ d) → Frame.get (V ++ A) d = Frame.get A d
  | [], _ => rfl
  | (k, v) :: V, h => by
    show (if k = d then v else Frame.get (V ++ A) d) = _
    rw [if_neg (h (k, v) (by simp)), get_append (fun p hp => h p (by simp [hp]))]

theorem shOpens {ops : Array Oper} (h1 : readsBound shOps ops.toList = true) (h2 : shOps.length = ops.size) : Opens shK shOps ops shA3 shF 2 shO 11 where
  bound := h1
  len := h2
  first := ⟨_, rfl, rfl, rfl, rfl⟩
  kinds := fun i o ho => by
    have h := List.all_eq_true.1 shKinds (o, i) (by rw [List.mem_iff_getElem?]; exact ⟨i, by rw [List.getElem?_zipIdx, ho]; simp⟩)
    simpa [or_assoc] using h
  slot := rfl
  base := fun d hd => by
    refine (get_append (fun p hp e => ?_)).symm
    have h := List.all_eq_true.1 shDst p hp
    rw [List.any_eq_true] at h
    obtain ⟨o, ho, hod⟩ := h
    obtain ⟨i, hi⟩ := List.mem_iff_getElem?.1 ho
    exact hd i o hi (by rw [← e]; simpa using hod)
  size := rfl
  runs0 := fun i o ho hp d hd => by
    have := map_get shRuns0 ho
    simp only [hp, if_true, hd, Option.map_some] at this
    exact this
  runs := fun ks vs i o ho hp d hd => by
    have := map_get (congrFun (congrFun shRuns ks) vs) ho
    simp only [hp, if_true, hd, Option.map_some] at this
    exact this
  under := fun i o p ho hp => by
    exact List.all_eq_true.1 shUnder p (List.mem_filterMap.2 ⟨o, List.mem_of_getElem? ho, hp⟩)
  keys := by
    have := shKeys
    unfold shEnt at this
    rw [List.map_filterMap] at this
    exact this

theorem mapM_ks {f : AVal → Option AVal} (hf : ∀ n : Int, f (.int .i64 n) = some (.int .i64 n)) : ∀ es : List (Int × AVal), (ksOf es).mapM f = some (ksOf es)
  | [] => rfl
  | p :: es => by
    have ih := mapM_ks hf es
    simp only [ksOf, List.map_cons, List.mapM_cons] at ih ⊢
    rw [hf, ih]
    rfl
theorem mapM_vs {f : AVal → Option AVal} : ∀ {es fs : List (Int × AVal)}, (es.map fun p => (f p.2).map fun v => (p.1, v)) = fs.map some → (vsOf es).mapM f = some (vsOf fs) ∧ ksOf es = ksOf fs
  | [], [], _ => ⟨rfl, rfl⟩
  | [], _ :: _, h => by simp at h
  | _ :: _, [], h => by simp at h
  | p :: es, q :: fs, h => by
    simp only [List.map_cons, List.cons.injEq] at h
    obtain ⟨h1, h2⟩ := mapM_vs h.2
    obtain ⟨v, hv, e⟩ := map_some' h.1
    subst e
    simp only [vsOf, ksOf, List.map_cons, List.mapM_cons] at h1 h2 ⊢
    exact ⟨by rw [hv, h1]; rfl, by rw [h2]⟩

/-- The map's value, whichever order. -/
theorem rep_tab {fm : Nat → Nat} {g : Gh} {n : Nat} {fs : List (Int × AVal)} {v : Value} (hp : fs.Perm tab) (h : Rep fm g n (.imap (ksOf fs) (vsOf fs)) v) : Rep fm g n (.imap (ksOf tab) (vsOf tab)) v := by
  have hu := tabUnder
  rw [Bool.and_eq_true] at hu
  have hfind : ∀ kt k, Abs.find kt k (ksOf tab) (vsOf tab) = Abs.find kt k (ksOf fs) (vsOf fs) := fun kt k => find_perm hp.symm tabKeys kt k
  have hk : underL 0 (ksOf fs) = true := underL_all.2 (fun a ha => underL_all.1 hu.1 a ((hp.map _).mem_iff.1 ha))
  have hv : underL 0 (vsOf fs) = true := underL_all.2 (fun a ha => underL_all.1 hu.2 a ((hp.map _).mem_iff.1 ha))
  cases h with
  | imap _ _ b cks cvs hb h1 h2 =>
    exact .imapU _ _ _ _ b cks cvs hb h1 h2 hfind (fun m => ⟨underL_mono (Nat.zero_le m) hu.1, underL_mono (Nat.zero_le m) hu.2, underL_mono (Nat.zero_le m) hk, underL_mono (Nat.zero_le m) hv⟩)
  | imapU _ _ ks0 vs0 b cks cvs hb h1 h2 hf hq =>
    exact .imapU _ _ _ _ b cks cvs hb h1 h2 (fun kt k => (hfind kt k).trans (hf kt k)) (fun m => ⟨underL_mono (Nat.zero_le m) hu.1, underL_mono (Nat.zero_le m) hu.2, (hq m).2.2.1, (hq m).2.2.2⟩)

theorem shapes_sound {P : Program} {fm : Nat → Nat} (hC : Sound P fm C0) {f : Nat} {fn : Func} (hfn : P.funcs[f]? = some fn) (hok : shapesOk P fm fn = true) :
    Enters P f ∧ ∀ (g : Gh) (w : World) (vs : Array Value) (m : Nat), Sim fm ⟨0, []⟩ g w → RepL fm g 0 [] vs.toList → CallsIn (FW none) m P f vs w (CallPost fm g w ⟨0, []⟩ ⟨0, []⟩ (.imap (ksOf tab) (vsOf tab))) := by
  unfold shapesOk at hok
  split at hok
  · rename_i c0 c1 c2 c3 rid ops hbody
    simp only [Bool.and_eq_true, beq_iff_eq, Bool.not_eq_true'] at hok
    obtain ⟨⟨⟨⟨⟨⟨⟨⟨⟨k0, k1⟩, k2⟩, k3⟩, k4⟩, k5⟩, k6⟩, k7⟩, k8⟩, k9⟩ := hok
    refine ⟨⟨Nat.lt_of_lt_of_le (Array.getElem?_eq_some_iff.1 hfn).1 hC.few, fn, hfn, by simp [hbody], by simpa using k9⟩, ?_⟩
    intro g w vs m hS hR
    obtain ⟨hcall, hloop⟩ := upto_sound hC 12
    have hmx := hC.mixed
    have hF := params_frame (nt := fn.ntmps) (s := ⟨0, []⟩) (args := []) hR (Nat.zero_le _)
    refine callsIn_of_wp hfn hbody trivial ?_ rfl
    refine wpIn_seq (exec_sound hmx hcall (hloop fn.ntmps) _ c0 [] ⟨0, []⟩ g w _ .normal [] ⟨0, []⟩ _ k0 hS hF sh1 (fun a1 w1 g1 p1 => ?_))
    refine wpIn_seq (exec_sound hmx hcall (hloop fn.ntmps) _ c1 [] ⟨0, []⟩ g1 w1 a1 .normal shA1 ⟨1, shO1⟩ _ k1 p1.sim p1.frame sh2 (fun a2 w2 g2 p2 => ?_))
    refine wpIn_seq (exec_sound hmx hcall (hloop fn.ntmps) _ c2 shA1 ⟨1, shO1⟩ g2 w2 a2 .normal shA2 ⟨1, shO1⟩ _ k2 p2.sim p2.frame sh3 (fun a3 w3 g3 p3 => ?_))
    refine wpIn_seq (exec_sound hmx hcall (hloop fn.ntmps) _ c3 shA2 ⟨1, shO1⟩ g3 w3 a3 .normal shA3 ⟨2, shO⟩ _ k3 p3.sim p3.frame sh4 (fun a4 w4 g4 p4 => ?_))
    refine wpIn_seq (opens_sound hcall hmx k4 (shOpens k6 k7) (fun k o ho e he hb => ?_) p4.sim p4.frame (fun es B a5 w5 g5 hperm hB p5 => ?_))
    · have h := List.all_eq_true.1 k5 (o, k) (by rw [List.mem_iff_getElem?]; exact ⟨k, by rw [List.getElem?_zipIdx]; simp [ho]⟩)
      rw [List.all_eq_true] at h
      have h2 := h e (by simpa using he)
      simpa [hb] using h2
    · have hp := ((((p1.trans p2).trans p3).trans p4).trans p5)
      refine wpIn_ret ?_
      have hv0 : Abs.results B ⟨3, .map (ksOf es) (vsOf es) :: shO⟩ [.slot 0] = some (.map 2) := by
        simp only [Abs.results, result, hB]
        rfl
      obtain ⟨cv, g6, q1, q2, q3, q4, q5⟩ := results_sound hp.sim hp.frame k8 hv0
      have hfzv := congrFun (congrFun shFz (ksOf es)) (vsOf es)
      have hpm : (es.map fun p => (fz 0 ⟨3, .map (ksOf es) (vsOf es) :: shO⟩ 63 p.2).map fun v => (p.1, v)).Perm (tab.map some) := by
        rw [← hfzv]
        exact hperm.map _
      obtain ⟨fs, hfs, hfp⟩ : ∃ fs : List (Int × AVal), (es.map fun p => (fz 0 ⟨3, .map (ksOf es) (vsOf es) :: shO⟩ 63 p.2).map fun v => (p.1, v)) = fs.map some ∧ fs.Perm tab := by
        have hall : ∀ x ∈ (es.map fun p => (fz 0 ⟨3, .map (ksOf es) (vsOf es) :: shO⟩ 63 p.2).map fun v => (p.1, v)), ∃ y, x = some y := fun x hx => by
          obtain ⟨y, _, rfl⟩ := List.mem_map.1 (hpm.mem_iff.1 hx)
          exact ⟨y, rfl⟩
        generalize (es.map fun p => (fz 0 ⟨3, .map (ksOf es) (vsOf es) :: shO⟩ 63 p.2).map fun v => (p.1, v)) = L at hpm hall
        refine ⟨L.filterMap id, ?_, ?_⟩
        · clear hpm
          induction L with
          | nil => rfl
          | cons x L ih =>
            obtain ⟨y, rfl⟩ := hall x (by simp)
            have := ih (fun z hz => hall z (by simp [hz]))
            simp only [List.filterMap_cons, id, List.map_cons]
            rw [← this]
        · have := hpm.filterMap id
          rw [List.filterMap_map] at this
          simpa [Function.comp_def] using this
      obtain ⟨hmv, hmk⟩ := mapM_vs hfs
      have hv1 : fz 0 ⟨3, .map (ksOf es) (vsOf es) :: shO⟩ depth (.map 2) = some (.imap (ksOf fs) (vsOf fs)) := by
        have hks : (ksOf es).mapM (fz 0 ⟨3, .map (ksOf es) (vsOf es) :: shO⟩ 63) = some (ksOf es) := mapM_ks (f := fz 0 ⟨3, .map (ksOf es) (vsOf es) :: shO⟩ 63) (fun n => rfl) es
        show (do some (AVal.imap (← (ksOf es).mapM (fz 0 ⟨3, .map (ksOf es) (vsOf es) :: shO⟩ 63)) (← (vsOf es).mapM (fz 0 ⟨3, .map (ksOf es) (vsOf es) :: shO⟩ 63)))) = _
        rw [hks, hmv, hmk]
        rfl
      have hslot := fz_slot q2 (Nat.zero_le _) (by simp) q5 hv1
      refine ⟨hp.defers, cv, q1, cv, g6.frozen 0 w5, rfl, q2.frozen (Nat.zero_le _), ((hp.le.trans (q3.less hp.n)).trans (frozen_le q2 _)), Nat.le_refl _, (hp.kept.trans q4).trans (frozen_kept _), ?_⟩
      exact Rep.slot (rep_tab hfp hslot)
  · cases hok

end Go.Proofs.YtdhgdpokdhjanaaGreat.Abs
/- The range over the nodes of a tree: visit calls yield with the nodes, one behind the other. -/
namespace Go.Proofs.YtdhgdpokdhjanaaGreat.Abs
open Go

def extShapes : List AVal → ASt → Option (AVal × ASt)
  | [], s => some (.imap (ksOf tab) (vsOf tab), s)
  | _, _ => none
/-- With the shapes. -/
def C1 : Cfg := ⟨funcs0, fun f => match f with
  | 385 => some extShapes
  | f => extLib f⟩

/-! ### The nodes of a tree, in order -/

mutual
def preV : AVal → Option (List (List AVal))
  | .nils => some []
  | .sl cs n .none => if cs.length = 5 * n ∧ n ≤ limit then preL cs else none
  | .sl cs n .exact => if cs.length = 5 * n ∧ n ≤ limit then preL cs else none
  | _ => none
def preL : List AVal → Option (List (List AVal))
  | [] => some []
  | .int .i64 k :: .str t :: .int .i64 p :: .int .i64 e :: kv :: r => (preV kv).bind fun x => (preL r).map fun y => [.int .i64 k, .str t, .int .i64 p, .int .i64 e, kv] :: (x ++ y)
  | _ => none
end

theorem preL_cons {rem : List AVal} {y : List (List AVal)} (h : preL rem = some y) : (rem = [] ∧ y = []) ∨ ∃ k t p e kv r x z, rem = .int .i64 k :: .str t :: .int .i64 p :: .int .i64 e :: kv :: r ∧ preV kv = some x ∧ preL r = some z ∧ y = [.int .i64 k, .str t, .int .i64 p, .int .i64 e, kv] :: (x ++ z) := by
  unfold preL at h
  split at h
  · cases h; exact .inl ⟨rfl, rfl⟩
  · rename_i k t p e kv r
    obtain ⟨x, hx, h⟩ := bind_some' h
    obtain ⟨z, hz, h⟩ := map_some' h
    exact .inr ⟨k, t, p, e, kv, r, x, z, rfl, hx, hz, h.symm⟩
  · cases h

theorem preV_cases {kv : AVal} {y : List (List AVal)} (h : preV kv = some y) : (kv = .nils ∧ y = []) ∨ ∃ cs n o, kv = .sl cs n o ∧ (o = .none ∨ o = .exact) ∧ cs.length = 5 * n ∧ n ≤ limit ∧ preL cs = some y := by
  unfold preV at h
  split at h
  · cases h; exact .inl ⟨rfl, rfl⟩
  · split at h
    · rename_i hc; exact .inr ⟨_, _, _, rfl, .inl rfl, hc.1, hc.2, h⟩
    · cases h
  · split at h
    · rename_i hc; exact .inr ⟨_, _, _, rfl, .inr rfl, hc.1, hc.2, h⟩
    · cases h
  · cases h

def stepsF (f : List AVal → Bool → Option Bool) : List (List AVal) → Bool → Option Bool
  | [], ok => some ok
  | x :: l, ok => (f x ok).bind (stepsF f l)
theorem stepsF_append {f : List AVal → Bool → Option Bool} : ∀ {x y : List (List AVal)} {ok r : Bool}, stepsF f (x ++ y) ok = some r → ∃ ok1, stepsF f x ok = some ok1 ∧ stepsF f y ok1 = some r
  | [], y, ok, r, h => ⟨ok, rfl, h⟩
  | a :: x, y, ok, r, h => by
    obtain ⟨b, h1, h2⟩ := bind_some' h
    obtain ⟨c, h3, h4⟩ := stepsF_append h2
    exact ⟨c, by simp only [stepsF, h1, Option.bind_some]; exact h3, h4⟩

/-! ### Values and the objects that they see -/

mutual
theorem rep_under {fm : Nat → Nat} {g : Gh} {n : Nat} : ∀ {a : AVal} {v : Value}, Rep fm g n a v → a.under n = true
  | _, _, .undef v => rfl
  | _, _, .bool b => rfl
  | _, _, .int k i => rfl
  | _, _, .str l => rfl
  | _, _, .nilp => rfl
  | _, _, .nils => rfl
  | _, _, .nilm => rfl
  | _, _, .nilf => rfl
  | _, _, .nili => rfl
  | _, _, .ref r off b hr hb => by simp [AVal.under, hr]
  | _, _, .ipt cs off b base vs h hp => by simp only [AVal.under]; exact repL_under h
  | _, _, .sl cs len o b base cap vs ho hc h hp => by
    simp only [AVal.under, repL_under h, Bool.true_and]
    rcases ho with rfl | ⟨rfl, _⟩ <;> rfl
  | _, _, .sl0 a cap => rfl
  | _, _, .map r b hr hb => by simp [AVal.under, hr]
  | _, _, .imap ks vs b cks cvs hb hk hv => by simp only [AVal.under, repL_under hk, repL_under hv, Bool.and_self]
  | _, _, .imapU ks vs ks0 vs0 b cks cvs hb hk hv hf hu => by simp only [AVal.under, (hu n).1, (hu n).2.1, Bool.and_self]
  | _, _, .fn f xs ys us vs h1 h2 hf => by simp only [AVal.under, repL_under h1, repL_under h2, Bool.and_self]
  | _, _, .yld f l hf => rfl
  | _, _, .agg cs vs h => by simp only [AVal.under]; exact repL_under h
  | _, _, .tup cs vs h => by simp only [AVal.under]; exact repL_under h
theorem repL_under {fm : Nat → Nat} {g : Gh} {n : Nat} : ∀ {cs : List AVal} {vs : List Value}, RepL fm g n cs vs → underL n cs = true
  | _, _, .nil => rfl
  | _, _, .cons a v cs vs h t => by simp only [underL, rep_under h, repL_under t, Bool.and_self]
end

theorem mapM_fz {n : Nat} {s : ASt} {k : Nat} : ∀ {cs : List AVal}, (∀ c ∈ cs, c.strip = c ∧ c.under n = true) → cs.mapM (fun c => fz n s (k + 1) c.strip) = some cs
  | [], _ => rfl
  | c :: cs, h => by
    have h1 := h c (by simp)
    rw [List.mapM_cons, mapM_fz (fun d hd => h d (by simp [hd])), h1.1]
    have : fz n s (k + 1) c = some c := by
      unfold fz
      rw [if_pos h1.2]
    rw [this]
    rfl

theorem repL_idle {fm : Nat → Nat} {g : Gh} {n : Nat} {cs : List AVal} {vs : List Value} (h : RepL fm g n cs vs) : ∀ c ∈ cs, c.strip = c ∧ c.under n = true := by
  intro c hc
  obtain ⟨i, hi⟩ := List.mem_iff_getElem?.1 hc
  obtain ⟨v, _, hv⟩ := h.get i c hi
  exact ⟨hv.strip_id, rep_under hv⟩

/-- What lies at an object that ends. -/
theorem fz_ref {n : Nat} {s : ASt} {r : Nat} {cs : List AVal} (hr : n ≤ r) (hg : s.get r = some (.cells cs)) (h : ∀ c ∈ cs, c.strip = c ∧ c.under n = true) : fz n s depth (.ref r 0) = some (.ipt cs 0) := by
  show fz n s (63 + 1) _ = _
  unfold fz
  rw [if_neg (by simp [AVal.under]; omega)]
  simp only [hg, mapM_fz (k := 62) h, Option.map_some]

theorem fz_under {n : Nat} {s : ASt} {a : AVal} (h : a.under n = true) : fz n s depth a = some a := by
  show fz n s (63 + 1) _ = _
  unfold fz
  rw [if_pos h]

theorem wrap_i64 {x : Int} (h1 : 0 ≤ x) (h2 : x < 9223372036854775808) : IntKind.wrap .i64 x = x := by
  show (if (true && decide (x % 18446744073709551616 ≥ 9223372036854775808)) = true then x % 18446744073709551616 - 18446744073709551616 else x % 18446744073709551616) = x
  have h3 : x % 18446744073709551616 = x := by omega
  rw [if_neg (by simp only [Bool.true_and, decide_eq_true_eq]; omega), h3]

/-! ### The loop's record, the rounds -/

def Y (l : Nat) : AVal := .fn (2000000 + l) [] []
def yv (l : Nat) : Value := .func (.yield l) #[] #[]

def okSt (ok : Bool) : ASt := ⟨1, [.cells [.bool ok]]⟩

structure Loops (fm : Nat → Nat) (l D : Nat) (rec : Go.Loop) (gB : Gh) (ok : Bool) (g : Gh) (w : World) : Prop where
  sim : Sim fm (okSt ok) g w
  fl : Foreign g l
  hl : w.heap[l]? = some (.loop rec)
  fD : Foreign g D
  hD : w.heap[D]? = some (.deferred (some []))
  le : le 1 gB g

section
variable {P : Program} {fm : Nat → Nat} {l D : Nat} {rec : Go.Loop} {gB g g' g'' : Gh} {ok ok' : Bool} {w w' w'' : World}

theorem Loops.next (h : Loops fm l D rec gB ok g w) (hS : Sim fm (okSt ok') g' w') (hle : Abs.le 1 g g') (hk : Kept g g' w w') : Loops fm l D rec gB ok' g' w' := by
  obtain ⟨a1, a2⟩ := h.fl.kept hk
  obtain ⟨b1, b2⟩ := h.fD.kept hk
  exact ⟨hS, a1, by rw [a2, h.hl], b1, by rw [b2, h.hD], h.le.trans hle⟩

/-- What a stretch of the rounds leaves. -/
def Stretch (fm : Nat → Nat) (ok' : Bool) (g : Gh) (w : World) (g' : Gh) (w' : World) : Prop := Sim fm (okSt ok') g' w' ∧ le 1 g g' ∧ Kept g g' w w'

theorem Stretch.trans {ok'' : Bool} (h : Stretch fm ok' g w g' w') (h' : Stretch fm ok'' g' w' g'' w'') : Stretch fm ok'' g w g'' w'' :=
  ⟨h'.1, h.2.1.trans h'.2.1, h.2.2.trans h'.2.2⟩

/-- One round, for each node. -/
def RoundsGo (P : Program) (fm : Nat → Nat) (l D : Nat) (rec : Go.Loop) (gB : Gh) (f : List AVal → Bool → Option Bool) : Prop :=
  ∀ x ok ok' g w v m, f x ok = some ok' → Loops fm l D rec gB ok g w → Rep fm g 1 (.agg x) v →
    RoundIn (FW none) m P l rec.fn (rec.tmps.setIfInBounds 11 v) rec.assign rec.body w fun e w' => e = .returned (.bool true) ∧ ∃ g', Stretch fm ok' g w g' w'

theorem yield_op {m : Nat} {f : List AVal → Bool → Option Bool} (hG : RoundsGo P fm l D rec gB f) (hps : rec.params = #[11]) {a : Act} {o : Oper} {fo xo : Operand} {ts : Array TypeId} (hop : o.op = .call { callee := .value fo, args := #[xo], argTypes := ts })
    (hf : a.eval fo = yv l) {x : List AVal} {v : Value} (hv : a.eval xo = v) (hx : Rep fm g 1 (.agg x) v) (hs : f x ok = some ok') (hL : Loops fm l D rec gB ok g w) {K : Act → World → Prop} {Q : Exit → Act → World → Prop}
    (hK : ∀ g' w', Stretch fm ok' g w g' w' → K (a.put o.dst (.bool true)) w') : o.wpIn (FW none) m P a w K Q := by
  have hrun : (execOp a.eval o).run P w = .ok (.round l rec.fn (rec.tmps.setIfInBounds 11 v) rec.assign rec.body) w := by
    have h1 := run_yield (P := P) (args := #[v]) hL.hl (by rw [hps]; rfl)
    rw [hps] at h1
    obtain ⟨dst, op, ty, pos, after, gd⟩ := o
    simp only at hop
    subst hop
    simp only [execOp, resolve, hf, yv, Sem.run_bind, Deferred.ofValue, Sem.run_pure, Result.andThen_ok, invoke]
    simpa [hv] using h1
  refine ⟨fun _ _ => trivial, ?_⟩
  rw [Oper.semAt_eq _ _ _ (by intro c e; rw [hop] at e; cases e), hrun, Oper.uponIn_round]
  refine ⟨fun h => by simp [FW] at h, ?_⟩
  refine (hG x ok ok' g w v (m - 1) hs hL hx).mono ?_
  rintro e w' ⟨rfl, g', h⟩
  exact hK g' w' h

end

/-! ### visit -/

def vBody : ACode := match part 2 f387.code with
  | .seq _ (.block _ (.loop b _)) => b
  | _ => .bad
def vKeep : List Nat := [1, 12, 13, 14]

def opsR : ACode → List AOper
  | .region none ops _ => ops
  | _ => []
def inner (k : Nat) : ACode → ACode
  | .seq a b => match k with
    | 0 => a
    | _ => b
  | .block _ a => a
  | .loop a _ => a
  | c => c

section
variable {P : Program} {fm : Nat → Nat} {l D : Nat} {rec : Go.Loop} {gB g g' g'' : Gh} {ok ok' : Bool} {w w' w'' : World}

def VisitGoes (P : Program) (fm : Nat → Nat) (l D : Nat) (rec : Go.Loop) (gB : Gh) (f : List AVal → Bool → Option Bool) (N : Nat) : Prop :=
  ∀ k t p e kv y, preV kv = some y → y.length + 1 ≤ N → ∀ ok ok', stepsF f ([.int .i64 k, .str t, .int .i64 p, .int .i64 e, kv] :: y) ok = some ok' → ∀ g w v m, Loops fm l D rec gB ok g w →
    Rep fm g 1 (.agg [.int .i64 k, .str t, .int .i64 p, .int .i64 e, kv]) v → CallsIn (FW none) m P (fm 387) #[v, yv l] w fun en w' => en = .returned (.bool true) ∧ ∃ g', Stretch fm ok' g w g' w'

def loopFrame (l : Nat) (kv : AVal) (n i : Nat) : Frame := [(1, Y l), (12, kv), (13, .int .i64 n), (14, .int .i64 i)]

def LoopGoes (P : Program) (fm : Nat → Nat) (nt : Nat) (lc : Code) (l D : Nat) (rec : Go.Loop) (gB : Gh) (f : List AVal → Bool → Option Bool) (N : Nat) : Prop :=
  ∀ rem y, preL rem = some y → y.length ≤ N → ∀ ok ok', stepsF f y ok = some ok' → ∀ kv n i, (rem = [] ∧ i = n ∨ ∃ cs o, kv = .sl cs n o ∧ (o = .none ∨ o = .exact) ∧ cs.length = 5 * n ∧ rem = cs.drop (5 * i) ∧ i ≤ n ∧ n ≤ limit) →
    ∀ j, y.length < j → ∀ (Q : Exit → Act → World → Prop) g w a m, Loops fm l D rec gB ok g w → FrameRep fm g 1 nt (loopFrame l kv n i) a.tmps →
      (∀ a' w' g', Stretch fm ok' g w g' w' → a'.tmps.size = nt → a'.defers = a.defers → Q (.exit 0) a' w') → Code.roundsIn (FW none) m P lc Q j a w


theorem loop_exit {K : CallFn} {L : LoopFn} (kv : AVal) (n : Nat) (s : ASt) : exec K L vBody (loopFrame l kv n n) s = some (.exit 0, [(1, Y l), (12, kv), (13, .int .i64 n), (14, .int .i64 n), (15, .bool false)], s) := by
  simp [vBody, f387, part, loopFrame, Y, exec, exOps, wanted, aop, Opd.ev, Frame.get, AVal.strip, abin, cmpInt, Frame.putO, Frame.put, Frame.keep]

def v4 : ACode := inner 0 vBody
def vC : ACode := inner 0 (inner 1 vBody)
def v5 : ACode := inner 0 (inner 0 (inner 0 (inner 1 (inner 1 vBody))))
def v6 : ACode := inner 0 (inner 1 (inner 0 (inner 0 (inner 1 (inner 1 vBody)))))
def v6c : ACode := inner 1 (inner 1 (inner 0 (inner 0 (inner 1 (inner 1 vBody)))))
def v8 : ACode := inner 1 (inner 1 (inner 1 vBody))
theorem vBody_is : vBody = .seq v4 (.seq vC (.seq (.block 1 (.seq v5 (.seq v6 v6c))) v8)) := rfl

def kid5 (k : Int) (t : List UInt8) (p e : Int) (kv : AVal) : List AVal := [.int .i64 k, .str t, .int .i64 p, .int .i64 e, kv]

theorem ex_v4 {K : CallFn} {L : LoopFn} (kv : AVal) (n i : Nat) (h : i < n) (s : ASt) : exec K L v4 (loopFrame l kv n i) s = some (.normal, [(1, Y l), (12, kv), (13, .int .i64 n), (14, .int .i64 i), (15, .bool true)], s) := by
  simp [v4, inner, vBody, f387, part, loopFrame, Y, exec, exOps, wanted, aop, Opd.ev, Frame.get, AVal.strip, abin, cmpInt, Frame.putO, Frame.put, Frame.keep, h]
theorem ex_vC {K : CallFn} {L : LoopFn} (kv : AVal) (n i : Nat) (s : ASt) : exec K L vC [(1, Y l), (12, kv), (13, .int .i64 n), (14, .int .i64 i), (15, .bool true)] s = some (.normal, [(1, Y l), (12, kv), (13, .int .i64 n), (14, .int .i64 i), (15, .bool true)], s) := by
  simp [vC, inner, vBody, f387, part, exec, Opd.ev, Frame.get, AVal.strip]
theorem one_int (k : IntKind) (i : Int) : (AVal.int k i).one = true := rfl
theorem one_str (t : List UInt8) : (AVal.str t).one = true := rfl
theorem ex_v5 {K : CallFn} {L : LoopFn} {cs : List AVal} {n i : Nat} {o : Own} (ho : o = .none ∨ o = .exact) (hi : i < n) {k : Int} {t : List UInt8} {p e : Int} {kv : AVal} (hcut : cut cs (i * 5) 5 = some (kid5 k t p e kv)) (hone : kv.one = true) (hst : kv.strip = kv) (hu : kv.under 1 = true) (ok : Bool) :
    exec K L v5 [(1, Y l), (12, .sl cs n o), (13, .int .i64 n), (14, .int .i64 i), (15, .bool true)] (okSt ok) =
      some (.normal, [(1, Y l), (6, .ref 1 0), (12, .sl cs n o), (13, .int .i64 n), (14, .int .i64 i)], ⟨2, [.cells (kid5 k t p e kv), .cells [.bool ok]]⟩) := by
  have hu2 : kv.under 2 = true := under_mono (by omega) hu
  rcases ho with rfl | rfl <;>
  simp [v5, inner, vBody, f387, part, Y, exec, exOps, wanted, aop, Opd.ev, Frame.get, AVal.strip, Frame.putO, Frame.put, Frame.keep, okSt, hi, loadAt, hcut, kid5, mk, ASt.push, storeAt, ASt.get, getL, AVal.cells, mayPutL, mayPut, underL, AVal.under, one_int, one_str, hone, splice, ASt.set, setL, Opd.taken, hst, hu2]
theorem ex_v6c {K : CallFn} {L : LoopFn} (kv : AVal) (n i : Nat) (s : ASt) : exec K L v6c [(1, Y l), (12, kv), (13, .int .i64 n), (14, .int .i64 i), (21, .bool false)] s = some (.normal, [(1, Y l), (12, kv), (13, .int .i64 n), (14, .int .i64 i), (21, .bool false)], s) := by
  simp [v6c, inner, vBody, f387, part, exec, Opd.ev, Frame.get, AVal.strip]
theorem ex_v8 {K : CallFn} {L : LoopFn} (kv : AVal) (n i : Nat) (hi : i < n) (hn : n ≤ limit) (s : ASt) : exec K L v8 [(1, Y l), (12, kv), (13, .int .i64 n), (14, .int .i64 i), (21, .bool false)] s = some (.normal, loopFrame l kv n (i + 1), s) := by
  have hw : IntKind.wrap .i64 ((i : Int) + 1) = (i : Int) + 1 := wrap_i64 (by omega) (by unfold limit at hn; omega)
  simp [v8, inner, vBody, f387, part, exec, exOps, wanted, aop, Opd.ev, Frame.get, AVal.strip, abin, cmpInt, Frame.putO, Frame.put, Frame.keep, loopFrame, hw]

theorem stretch_of {nt : Nat} {A A' : Frame} {a a' : Act} (h : RPost fm nt g w (okSt ok) (okSt ok) A' a a' g' w') : Stretch fm ok g w g' w' := ⟨h.sim, h.le, h.kept⟩

theorem keepF_five {s : ASt} {x kv : AVal} {cells : List AVal} {n i : Nat} (hs : s.get 1 = some (.cells cells)) (hc : ∀ c ∈ cells, c.strip = c ∧ c.under 1 = true) (hkv : kv.under 1 = true) :
    keepF 1 s [(1, Y l), (6, .ref 1 0), (12, kv), (13, .int .i64 n), (14, .int .i64 i)] [1, 6, 12, 13, 14] = some [(1, Y l), (6, .ipt cells 0), (12, kv), (13, .int .i64 n), (14, .int .i64 i)] := by
  have e1 : fz 1 s depth (Y l) = some (Y l) := fz_under rfl
  have e2 : fz 1 s depth (.ref 1 0) = some (.ipt cells 0) := fz_ref (Nat.le_refl _) hs hc
  have e3 : fz 1 s depth kv = some kv := fz_under hkv
  have e4 : ∀ j : Int, fz 1 s depth (.int .i64 j) = some (.int .i64 j) := fun j => fz_under rfl
  simp [keepF, Frame.get, e1, e2, e3, e4]

/-- The callee of a call that sees a node and yield. -/
theorem visit_args {n : Nat} (hY : fm (2000000 + l) = 1000000 + l) {x : AVal} {vs : Array Value} (h : RepL fm g n [x, Y l] vs.toList) : ∃ v, vs = #[v, yv l] ∧ Rep fm g n x v := by
  generalize hvs : vs.toList = vl at h
  cases h with
  | cons _ v1 _ _ h1 ht =>
  cases ht with
  | cons _ v2 _ _ h2 ht =>
  cases ht with
  | nil =>
  obtain rfl : vs = #[v1, v2] := Array.ext' hvs
  refine ⟨v1, ?_, h1⟩
  have : v2 = yv l := by
    unfold Y at h2
    cases h2 with
    | fn _ _ _ us ws q1 q2 hf => omega
    | yld _ l' hf =>
      have : l' = l := by omega
      subst this
      rfl
  rw [this]

theorem loop_goes (hC : Sound P fm C1) (hY : fm (2000000 + l) = 1000000 + l) (hen : Enters P (fm 387)) {nt : Nat} {lc : Code} (hlc : okCode P fm nt vBody lc = true) {f : List AVal → Bool → Option Bool} {N : Nat} (hV : VisitGoes P fm l D rec gB f N)
    (hL : ∀ M, M < N → LoopGoes P fm nt lc l D rec gB f M) : LoopGoes P fm nt lc l D rec gB f N := by
  intro rem y hrem hy ok ok' hs kv n i hkv j hj Q g w a m hLp hF hQ
  obtain ⟨hcall, hloop⟩ := upto_sound hC 1
  have hmx := hC.mixed
  obtain ⟨j, rfl⟩ : ∃ k, j = k + 1 := ⟨j - 1, by omega⟩
  rw [roundsIn_succ]
  rcases preL_cons hrem with ⟨rfl, rfl⟩ | ⟨k, t, p, e, kv1, r, x, z, rfl, hx, hz, rfl⟩
  · have hin : i = n := by
      rcases hkv with ⟨_, h⟩ | ⟨cs, o, _, _, h1, h2, h3, _⟩
      · exact h
      · have := congrArg List.length h2
        simp only [List.length_nil, List.length_drop] at this
        omega
    subst hin
    simp only [stepsF, Option.some.injEq] at hs
    subst hs
    refine exec_sound hmx hcall (hloop nt) vBody lc _ (okSt ok) g w a (.exit 0) _ (okSt ok) _ hlc hLp.sim hF (loop_exit kv i _) (fun a' w' g' hp => ?_)
    exact hQ a' w' g' (stretch_of (A := []) hp) hp.frame.1 hp.defers
  · rcases hkv with ⟨h, _⟩ | ⟨cs, o, rfl, ho, hcs, hdrop, hin, hlim⟩
    · cases h
    have hlen : 5 * i + 5 ≤ cs.length := by
      have := congrArg List.length hdrop
      simp only [List.length_cons, List.length_drop] at this
      omega
    have hi : i < n := by omega
    have hcut : cut cs (i * 5) 5 = some (kid5 k t p e kv1) := by
      unfold cut
      rw [if_pos (by omega), Nat.mul_comm i 5, ← hdrop]
      rfl
    have hr : r = cs.drop (5 * (i + 1)) := by
      rw [show 5 * (i + 1) = 5 * i + 5 from by omega, ← List.drop_drop, ← hdrop]
      rfl
    obtain ⟨ok1, hs1, hs2⟩ := stepsF_append (x := kid5 k t p e kv1 :: x) (y := z) (by simpa [kid5] using hs)
    rw [vBody_is] at hlc
    obtain ⟨c4, c5, rfl, k4, hlc⟩ := okCode_seq hlc
    obtain ⟨cC, c6, rfl, kC, hlc⟩ := okCode_seq hlc
    obtain ⟨cB, c8, rfl, kB, k8⟩ := okCode_seq hlc
    obtain ⟨cB, rfl, kB⟩ := okCode_block kB
    obtain ⟨cR5, cR, rfl, k5, kB⟩ := okCode_seq kB
    obtain ⟨cR6, cK, rfl, k6, kK⟩ := okCode_seq kB
    have hkvr : Rep fm g 1 (.sl cs n o) (a.tmps.getD 12 undef) := by
      have := tmp_val (s := okSt ok) hF 12
      exact slot_idle (by rcases ho with rfl | rfl <;> rfl) this
    have hcells : ∀ c ∈ kid5 k t p e kv1, c.strip = c ∧ c.under 1 = true := by
      have hsub : ∀ c ∈ kid5 k t p e kv1, c ∈ cs := by
        intro c hc
        have : kid5 k t p e kv1 = (cs.drop (5 * i)).take 5 := by rw [← hdrop]; rfl
        rw [this] at hc
        exact List.mem_of_mem_drop (List.mem_of_mem_take hc)
      intro c hc
      have hm := hsub c hc
      generalize hcv : a.tmps.getD 12 undef = cv at hkvr
      cases hkvr with
      | sl _ _ _ b base cap vs _ _ hR _ => exact repL_idle hR c hm
      | sl0 ad cap => simp at hm
    have hkv1 := hcells kv1 (by simp [kid5])
    have hone : kv1.one = true := by
      rcases preV_cases hx with ⟨rfl, _⟩ | ⟨_, _, _, rfl, _⟩ <;> rfl
    refine wpIn_seq (exec_sound hmx hcall (hloop nt) v4 c4 _ (okSt ok) g w a .normal _ (okSt ok) _ k4 hLp.sim hF (ex_v4 _ n i hi _) (fun a1 w1 g1 p1 => ?_))
    refine wpIn_seq (exec_sound hmx hcall (hloop nt) vC cC _ (okSt ok) g1 w1 a1 .normal _ (okSt ok) _ kC p1.sim p1.frame (ex_vC _ n i _) (fun a2 w2 g2 p2 => ?_))
    refine wpIn_seq (wpIn_block ?_)
    refine wpIn_seq (exec_sound hmx hcall (hloop nt) v5 cR5 _ (okSt ok) g2 w2 a2 .normal _ _ _ k5 p2.sim p2.frame (ex_v5 ho hi hcut hone hkv1.1 hkv1.2 ok) (fun a3 w3 g3 p3 => ?_))
    have p3 : RPost fm nt g2 w2 (okSt ok) (okSt ok) [(1, Y l), (6, .ipt (kid5 k t p e kv1) 0), (12, .sl cs n o), (13, .int .i64 n), (14, .int .i64 i)] a2 a3 (g3.frozen (okSt ok).n w3) w3 :=
      freeze_post p3 (keepF_five (l := l) (x := .undef) (n := n) (i := i) (kv := .sl cs n o) (cells := kid5 k t p e kv1) rfl hcells (rep_under hkvr))
    generalize hg3 : g3.frozen (okSt ok).n w3 = g3' at p3
    have p13 := (p1.trans p2).trans p3
    have hLp3 := hLp.next (ok' := ok) p13.sim p13.le p13.kept
    obtain ⟨rid, ops6, rfl, k6⟩ := okCode_region k6
    refine wpIn_seq (region_special (s1 := okSt ok) (s2 := okSt ok1) (v := .bool true) (pre := [⟨some 18, .load 5 true (.tmp 6), none⟩, ⟨some 19, .mov (.tmp 1), none⟩]) (sp := ⟨some 20, .call (.fn 387) [(.tmp 18), (.tmp 19)], none⟩)
      (post := [⟨some 21, .un .not (.tmp 20), none⟩]) (keep := [1, 12, 13, 14, 21]) hcall k6 rfl p13.sim p13.frame
      (A1 := [(19, Y l), (18, .agg (kid5 k t p e kv1)), (1, Y l), (6, .ipt (kid5 k t p e kv1) 0), (12, .sl cs n o), (13, .int .i64 n), (14, .int .i64 i)]) ?_ ?_ ?_ rfl (fun a4 w4 g4 p4 => ?_))
    · rfl
    · exact idle_frame (by rcases ho with rfl | rfl <;> rfl)
    · intro o1 a5 w5 g5 hok5 p5 K hK
      unfold okOper at hok5
      simp only [Bool.and_eq_true, beq_iff_eq] at hok5
      obtain ⟨⟨⟨hd5, hdn5⟩, hop5⟩, hgd5⟩ := hok5
      clear hdn5 hgd5
      obtain ⟨dst, op, ty, pos, after, gd⟩ := o1
      cases op <;> try (simp only [okOp, Bool.false_eq_true] at hop5; done)
      rename_i c
      obtain ⟨callee, cargs, ts⟩ := c
      cases callee <;> simp only [okOp, Bool.false_eq_true, Bool.and_eq_true] at hop5
      rename_i fo
      obtain ⟨vs, hvs, hrun⟩ := run_call (w := w5) (ty := ty) (ts := ts) p5.frame hop5.1 hop5.2 (i := 387) (first := []) (captured := []) rfl hen
      have hvs' : RepL fm g5 1 [.agg (kid5 k t p e kv1), Y l] vs.toList := hvs
      obtain ⟨v, rfl, hv⟩ := visit_args hY hvs'
      have hLp5 := hLp3.next (ok' := ok) p5.sim p5.le p5.kept
      refine ⟨fun _ _ => trivial, ?_⟩
      rw [Oper.semAt_eq _ _ _ (by intro c e; cases e)]
      have hrun' : (execOp a5.eval { dst := dst, op := .call { callee := .value fo, args := cargs, argTypes := ts }, type := ty, pos := pos, after := after, guard := gd }).run P w5 = .ok (.enter (fm 387) #[v, yv l]) w5 := hrun
      rw [hrun', Oper.uponIn_enter]
      refine ⟨fun h => by simp [FW] at h, ?_⟩
      refine (hV k t p e kv1 x hx (by simp only [List.length_cons, List.length_append] at hy; omega) ok ok1 hs1 g5 w5 v (m - 1) hLp5 hv).mono ?_
      rintro en w6 ⟨rfl, g6, h6⟩
      exact hK (.bool true) g6 w6 h6.1 h6.2.1 (Nat.le_refl _) h6.2.2 (.bool true)
    · have hp4 : RPost fm nt g3' w3 (okSt ok) (okSt ok1) [(1, Y l), (12, .sl cs n o), (13, .int .i64 n), (14, .int .i64 i), (21, .bool false)] a3 a4 g4 w4 := p4
      have p14 := p13.trans hp4
      refine exec_sound hmx hcall (hloop nt) v6c cK _ (okSt ok1) g4 w4 a4 .normal _ (okSt ok1) _ kK p14.sim p14.frame (ex_v6c _ n i _) (fun a5 w5 g5 p5 => ?_)
      refine exec_sound hmx hcall (hloop nt) v8 c8 _ (okSt ok1) g5 w5 a5 .normal _ (okSt ok1) _ k8 p5.sim p5.frame (ex_v8 _ n i hi hlim _) (fun a6 w6 g6 p6 => ?_)
      have p16 := (p14.trans p5).trans p6
      have hS16 : Stretch fm ok1 g w g6 w6 := ⟨p16.sim, p16.le, p16.kept⟩
      have hzlen : z.length < N := by simp only [List.length_cons, List.length_append] at hy; omega
      refine hL z.length hzlen r z hz (Nat.le_refl _) ok1 ok' hs2 (.sl cs n o) n (i + 1) (.inr ⟨cs, o, rfl, ho, hcs, hr, by omega, hlim⟩) j (by simp only [List.length_cons, List.length_append] at hj; omega) Q g6 w6 a6 m
        (hLp.next p16.sim p16.le p16.kept) p16.frame (fun a7 w7 g7 h7 hz7 hd7 => hQ a7 w7 g7 (hS16.trans h7) hz7 (hd7.trans p16.defers))

def w0 : ACode := part 0 f387.code
def w1 : ACode := inner 0 (part 1 f387.code)
def w1c : ACode := inner 1 (part 1 f387.code)
def w2 : ACode := inner 0 (part 2 f387.code)
def w3 : ACode := inner 1 (inner 1 (inner 1 f387.code))
theorem f387_is : f387.code = .seq w0 (.seq (.seq w1 w1c) (.seq (.seq w2 (.block 0 (.loop vBody vKeep))) w3)) := rfl

theorem ex_w0 {K : CallFn} {L : LoopFn} (x : List AVal) (ok : Bool) : exec K L w0 [(0, .agg x), (1, Y l)] (okSt ok) = some (.normal, [(1, Y l), (2, .ref 1 0)], ⟨2, [.cells x, .cells [.bool ok]]⟩) := rfl
theorem ex_w1c {K : CallFn} {L : LoopFn} (x : List AVal) (s : ASt) : exec K L w1c [(1, Y l), (2, .ipt x 0), (10, .bool false)] s = some (.normal, [(1, Y l), (2, .ipt x 0), (10, .bool false)], s) := rfl
theorem ex_w2 {K : CallFn} {L : LoopFn} (k : Int) (t : List UInt8) (p e : Int) (kv : AVal) (n : Nat) (h : (kv = .nils ∧ n = 0) ∨ ∃ cs o, kv = .sl cs n o ∧ (o = .none ∨ o = .exact)) (s : ASt) :
    exec K L w2 [(1, Y l), (2, .ipt (kid5 k t p e kv) 0), (10, .bool false)] s = some (.normal, loopFrame l kv n 0, s) := by
  rcases h with ⟨rfl, rfl⟩ | ⟨cs, o, rfl, rfl | rfl⟩ <;> rfl
theorem ex_w3 {K : CallFn} {L : LoopFn} (s : ASt) : exec K L w3 [] s = some (.ret, [(4, .bool true)], s) := rfl

theorem visit_goes (hC : Sound P fm C1) (hps : rec.params = #[11]) (hY : fm (2000000 + l) = 1000000 + l) {fn : Func} (hfn : P.funcs[fm 387]? = some fn) (hok : okFunc P fm f387 fn = true) {f : List AVal → Bool → Option Bool} (hG : RoundsGo P fm l D rec gB f) {N : Nat}
    (hL : ∀ lc, okCode P fm fn.ntmps vBody lc = true → ∀ M, M < N → LoopGoes P fm fn.ntmps lc l D rec gB f M) : VisitGoes P fm l D rec gB f N := by
  intro k t p e kv y hkv hy ok ok' hs g w v m hLp hv
  obtain ⟨hcall, hloop⟩ := upto_sound hC 1
  have hmx := hC.mixed
  unfold okFunc at hok
  cases hbody : fn.body with
  | none => rw [hbody] at hok; cases hok
  | some c =>
  rw [hbody] at hok
  simp only [Bool.and_eq_true, decide_eq_true_eq, Bool.not_eq_true'] at hok
  obtain ⟨⟨⟨hok1, hok2⟩, hok3⟩, hok4⟩ := hok
  rw [f387_is] at hok1
  obtain ⟨c0, cr0, rfl, k0, hr0⟩ := okCode_seq hok1
  obtain ⟨c10, cr1, rfl, k10, hr1⟩ := okCode_seq hr0
  obtain ⟨c1, c1c, rfl, k1a, k1c⟩ := okCode_seq k10
  obtain ⟨c20, c3, rfl, k20, k3⟩ := okCode_seq hr1
  obtain ⟨c2, cB0, rfl, k2, kB0⟩ := okCode_seq k20
  obtain ⟨cB, rfl, kB1⟩ := okCode_block kB0
  obtain ⟨lc, rfl, kB⟩ := okCode_loop kB1
  obtain ⟨rid, ops1, rfl, k1⟩ := okCode_region k1a
  have hYr : Rep fm g 1 (Y l) (yv l) := .yld _ _ hY
  have hR : RepL fm g (okSt ok).n [.agg (kid5 k t p e kv), Y l] (#[v, yv l] : Array Value).toList := .cons _ _ _ _ hv (.cons _ _ _ _ hYr .nil)
  have hF := params_frame (nt := fn.ntmps) hR hok3
  have hcells : ∀ c ∈ kid5 k t p e kv, c.strip = c ∧ c.under 1 = true := by
    cases hv with
    | agg _ vs h => exact repL_idle h
  have hn : ∃ n cs o, ((kv = .nils ∧ n = 0 ∧ cs = []) ∨ (kv = .sl cs n o ∧ (o = .none ∨ o = .exact) ∧ cs.length = 5 * n ∧ n ≤ limit)) ∧ preL cs = some y := by
    rcases preV_cases hkv with ⟨rfl, rfl⟩ | ⟨cs, n, o, rfl, h1, h2, h3, h4⟩
    · exact ⟨0, [], .none, .inl ⟨rfl, rfl, rfl⟩, rfl⟩
    · exact ⟨n, cs, o, .inr ⟨rfl, h1, h2, h3⟩, h4⟩
  obtain ⟨n, cs, o, hn, hpre⟩ := hn
  obtain ⟨ok1, hs1, hs2⟩ := bind_some' hs
  refine callsIn_of_wp hfn hbody trivial ?_ rfl
  refine wpIn_seq (exec_sound hmx hcall (hloop fn.ntmps) w0 c0 _ (okSt ok) g w _ .normal _ _ _ k0 hLp.sim hF (ex_w0 _ ok) (fun a1 w1 g1 p1 => ?_))
  have p1 : RPost fm fn.ntmps g w (okSt ok) (okSt ok) [(1, Y l), (2, .ipt (kid5 k t p e kv) 0)] _ a1 (g1.frozen (okSt ok).n w1) w1 := freeze_post p1 (ds := [1, 2]) (by
    have e1 : fz 1 (⟨2, [.cells (kid5 k t p e kv), .cells [.bool ok]]⟩ : ASt) depth (Y l) = some (Y l) := fz_under rfl
    have e2 : fz 1 (⟨2, [.cells (kid5 k t p e kv), .cells [.bool ok]]⟩ : ASt) depth (.ref 1 0) = some (.ipt (kid5 k t p e kv) 0) := fz_ref (Nat.le_refl _) rfl hcells
    show keepF 1 _ _ _ = _
    simp [keepF, Frame.get, e1, e2])
  generalize hg1 : g1.frozen (okSt ok).n w1 = g1' at p1
  have hLp1 := hLp.next (ok' := ok) p1.sim p1.le p1.kept
  refine wpIn_seq (wpIn_seq (region_special (s1 := okSt ok) (s2 := okSt ok1) (v := .bool true) (pre := [⟨some 7, .mov (.tmp 1), none⟩, ⟨some 8, .load 5 true (.tmp 2), none⟩]) (sp := ⟨some 9, .call (.tmp 7) [(.tmp 8)], none⟩)
      (post := [⟨some 10, .un .not (.tmp 9), none⟩]) (keep := [1, 2, 10]) hcall k1 rfl p1.sim p1.frame
      (A1 := [(8, .agg (kid5 k t p e kv)), (7, Y l), (1, Y l), (2, .ipt (kid5 k t p e kv) 0)]) ?_ ?_ ?_ rfl (fun a2 w2 g2 p2 => ?_)))
  · rfl
  · exact idle_frame rfl
  · intro o1 a5 w5 g5 hok5 p5 K hK
    unfold okOper at hok5
    simp only [Bool.and_eq_true, beq_iff_eq] at hok5
    obtain ⟨⟨⟨hd5, hdn5⟩, hop5⟩, hgd5⟩ := hok5
    clear hdn5 hgd5
    obtain ⟨dst, op, ty, pos, after, gd⟩ := o1
    cases op <;> try (simp only [okOp, Bool.false_eq_true] at hop5; done)
    rename_i c
    obtain ⟨callee, cargs, ts⟩ := c
    cases callee <;> simp only [okOp, Bool.false_eq_true, Bool.and_eq_true] at hop5
    rename_i fo
    have hfo := okOpd_rep p5.frame hop5.1
    obtain ⟨xo, hxo, hcx⟩ : ∃ xo, cargs = #[xo] ∧ okOpd fm (.tmp 8) xo = true := by
      obtain ⟨l⟩ := cargs
      match l, hop5.2 with
      | [xo], h => exact ⟨xo, rfl, by simpa [okOpds] using h⟩
      | [], h => simp [okOpds] at h
      | _ :: _ :: _, h => simp [okOpds] at h
    subst hxo
    have hxv := okOpd_rep p5.frame hcx
    have hfv : a5.eval fo = yv l := by
      have hfo : Rep fm g5 1 (Y l) (a5.eval fo) := hfo
      unfold Y at hfo
      generalize a5.eval fo = cv at hfo
      cases hfo with
      | fn _ _ _ us ws q1 q2 hf => omega
      | yld _ l' hf =>
        have : l' = l := by omega
        subst this
        rfl
    have hLp5 := hLp1.next (ok' := ok) p5.sim p5.le p5.kept
    exact yield_op hG hps rfl hfv rfl hxv hs1 hLp5 (fun g6 w6 h6 => hK (.bool true) g6 w6 h6.1 h6.2.1 (Nat.le_refl _) h6.2.2 (.bool true))
  · have hp2 : RPost fm fn.ntmps g1' w1 (okSt ok) (okSt ok1) [(1, Y l), (2, .ipt (kid5 k t p e kv) 0), (10, .bool false)] a1 a2 g2 w2 := p2
    have p12 := p1.trans hp2
    refine exec_sound hmx hcall (hloop fn.ntmps) w1c c1c _ (okSt ok1) g2 w2 a2 .normal _ (okSt ok1) _ k1c p12.sim p12.frame (ex_w1c _ _) (fun a3 w3' g3 p3 => ?_)
    have p13 := p12.trans p3
    refine wpIn_seq (wpIn_seq (exec_sound hmx hcall (hloop fn.ntmps) Abs.w2 c2 _ (okSt ok1) g3 w3' a3 .normal _ (okSt ok1) _ k2 p13.sim p13.frame (ex_w2 k t p e kv n (by
      rcases hn with ⟨h1, h2, _⟩ | ⟨h1, h2, _⟩
      · exact .inl ⟨h1, h2⟩
      · exact .inr ⟨cs, o, h1, h2⟩) _) (fun a4 w4 g4 p4 => ?_)))
    have p14 := p13.trans p4
    have hS14 : Stretch fm ok1 g w g4 w4 := ⟨p14.sim, p14.le, p14.kept⟩
    refine wpIn_block (wpIn_loop_rounds (y.length + 1) (hL lc kB y.length (by omega) cs y hpre (Nat.le_refl _) ok1 ok' hs2 kv n 0 ?_ (y.length + 1) (by omega) _ g4 w4 a4 m (hLp.next p14.sim p14.le p14.kept) p14.frame (fun a5 w5 g5 h5 hz5 hd5 => ?_)))
    · rcases hn with ⟨h1, h2, h3⟩ | ⟨h1, h2, h3, h4⟩
      · exact .inl ⟨h3, h2.symm⟩
      · exact .inr ⟨cs, o, h1, h2, h3, by simp, Nat.zero_le _, h4⟩
    · have hS15 := hS14.trans h5
      simp only [Exit.inBlock, if_true]
      refine exec_sound hmx hcall (hloop fn.ntmps) Abs.w3 c3 [] (okSt ok') g5 w5 a5 .ret _ (okSt ok') _ k3 h5.1 ⟨hz5, fun d hd => absurd rfl hd⟩ (ex_w3 _) (fun a6 w6 g6 p6 => ?_)
      obtain ⟨cv, g7, q1, q2, q3, q4, q5⟩ := results_sound p6.sim p6.frame (rs := [.slot 4]) hok2 (v := .bool true) rfl
      refine ⟨p6.defers.trans (hd5.trans p14.defers), cv, q1, ?_⟩
      have hcv : cv = .bool true := Rep.bool_inv q5
      subst hcv
      have hS67 : Stretch fm ok' g5 w5 g7 w6 := ⟨q2, p6.le.trans q3, p6.kept.trans q4⟩
      exact ⟨rfl, g7, hS15.trans hS67⟩

theorem both_go (hC : Sound P fm C1) (hps : rec.params = #[11]) (hY : fm (2000000 + l) = 1000000 + l) {fn : Func} (hfn : P.funcs[fm 387]? = some fn) (hok : okFunc P fm f387 fn = true) (hen : Enters P (fm 387)) {f : List AVal → Bool → Option Bool} (hG : RoundsGo P fm l D rec gB f) :
    ∀ N, VisitGoes P fm l D rec gB f N ∧ ∀ lc, okCode P fm fn.ntmps vBody lc = true → LoopGoes P fm fn.ntmps lc l D rec gB f N := by
  intro N
  induction N using Nat.strongRecOn with
  | _ N ih =>
    have hV := visit_goes hC hps hY hfn hok hG (N := N) (fun lc hlc M hM => (ih M hM).2 lc hlc)
    exact ⟨hV, fun lc hlc => loop_goes hC hY hen hlc hV (fun M hM => (ih M hM).2 lc hlc)⟩

end
end Go.Proofs.YtdhgdpokdhjanaaGreat.Abs
/- tree.shaped: the machine's answer is what the rounds come to, node by node. -/
namespace Go.Proofs.YtdhgdpokdhjanaaGreat.Abs
open Go

def shAssign : ACode := .region none [⟨some 5, .alloc [.int .i64 0, .str [], .int .i64 0, .int .i64 0, .nils], none⟩,
  ⟨none, .store 5 (.tmp 5) (.tmp 11), none⟩] [3, 4, 5]
def shBody : ACode := .block 1 (.seq (.region none [⟨some 13, .load 1 false (.tmp 3), none⟩,
  ⟨some 14, .fieldAddr 0 (.tmp 5), none⟩,
  ⟨some 15, .load 1 false (.tmp 14), none⟩,
  ⟨some 16, .lookup .int (.agg [.nilf, .nils, .nilf, .int .i64 0]) true (.tmp 13) (.tmp 15), none⟩,
  ⟨some 12, .mov (.tmp 16), none⟩,
  ⟨some 17, .extract (.tmp 12) 0, none⟩,
  ⟨some 18, .extract (.tmp 12) 1, none⟩,
  ⟨some 6, .alloc [.nilf, .nils, .nilf, .int .i64 0], none⟩,
  ⟨none, .store 4 (.tmp 6) (.tmp 17), none⟩,
  ⟨some 7, .mov (.tmp 18), none⟩] [4, 5, 6, 7]) (.seq (.region none [⟨some 19, .load 1 false (.tmp 4), none⟩,
  ⟨some 20, .mov (.tmp 19), none⟩,
  ⟨some 21, .mov (.tmp 7), some (20, true)⟩,
  ⟨some 22, .pick (.tmp 20) (.tmp 21) (.val (.bool false)), none⟩,
  ⟨some 23, .mov (.tmp 22), none⟩,
  ⟨some 24, .load 4 true (.tmp 6), some (23, true)⟩,
  ⟨some 25, .load 5 true (.tmp 5), some (23, true)⟩,
  ⟨some 26, .call (.fn 371) [(.tmp 24), (.tmp 25)], some (23, true)⟩,
  ⟨some 27, .pick (.tmp 23) (.tmp 26) (.val (.bool false)), none⟩,
  ⟨none, .store 1 (.tmp 4) (.tmp 27), none⟩] [4, 5]) (.seq (.region none [⟨some 28, .fieldAddr 0 (.tmp 5), none⟩,
  ⟨some 29, .load 1 false (.tmp 28), none⟩,
  ⟨some 30, .bin .eql .num (.tmp 29) (.val (.int .i64 4)), none⟩,
  ⟨some 31, .mov (.tmp 30), none⟩,
  ⟨some 32, .load 1 false (.tmp 4), some (31, true)⟩,
  ⟨some 33, .pick (.tmp 31) (.tmp 32) (.val (.bool false)), none⟩] [4, 5, 33]) (.cond (.tmp 33) (.region none [⟨some 34, .fieldAddr 4 (.tmp 5), none⟩,
  ⟨some 35, .load 1 false (.tmp 34), none⟩,
  ⟨some 36, .indexAddr 5 (.tmp 35) (.val (.int .i64 0)), none⟩,
  ⟨some 37, .fieldAddr 1 (.tmp 36), none⟩,
  ⟨some 38, .load 1 false (.tmp 37), none⟩,
  ⟨some 39, .bin .eql .num (.tmp 38) (.val (.str [105, 110, 116])), none⟩,
  ⟨some 40, .mov (.tmp 39), none⟩,
  ⟨some 41, .fieldAddr 4 (.tmp 5), some (40, false)⟩,
  ⟨some 42, .load 1 false (.tmp 41), some (40, false)⟩,
  ⟨some 43, .indexAddr 5 (.tmp 42) (.val (.int .i64 0)), some (40, false)⟩,
  ⟨some 44, .fieldAddr 1 (.tmp 43), some (40, false)⟩,
  ⟨some 45, .load 1 false (.tmp 44), some (40, false)⟩,
  ⟨some 46, .bin .eql .num (.tmp 45) (.val (.str [98, 111, 111, 108])), some (40, false)⟩,
  ⟨some 47, .pick (.tmp 40) (.val (.bool true)) (.tmp 46), none⟩,
  ⟨none, .store 1 (.tmp 4) (.tmp 47), none⟩] []) (.skip)))))

def tabV : AVal := .imap (ksOf tab) (vsOf tab)
def okOf : ASt → Option Bool
  | ⟨_, [.cells [.bool b]]⟩ => some b
  | _ => none

/-- One round: what 'ok' is behind it. -/
def stp (K : CallFn) (L : LoopFn) (x : List AVal) (ok : Bool) : Option Bool :=
  (exec K L shAssign [(3, .ipt [tabV] 0), (4, .ref 0 0), (11, .agg x)] (okSt ok)).bind fun r => match r with
    | (.normal, A, s) => (exec K L shBody A s).bind fun r => match r with
      | (.normal, _, s2) => okOf (s2.trunc 1)
      | _ => none
    | _ => none

def shapedK (k : Nat) (cs : List AVal) : Option Bool := match cs with
  | [.int .i64 a, .str t, .int .i64 p, .int .i64 e, kv] => (preV kv).bind fun y => stepsF (stp (upto C1 k).1 (upto C1 k).2) (cs :: y) true
  | _ => none

theorem okOf_some {s : ASt} {b : Bool} (hn : s.n = 1) (h : okOf s = some b) : s = okSt b := by
  unfold okOf at h
  split at h
  · cases h
    simp only at hn
    subst hn
    rfl
  · cases h

section
variable {P : Program} {fm : Nat → Nat} {l D : Nat} {rec : Go.Loop} {gB g g' g'' : Gh} {ok ok' : Bool} {w w' w'' : World}

structure RecOk (P : Program) (fm : Nat → Nat) (rec : Go.Loop) (gB : Gh) (nt : Nat) : Prop where
  st : rec.state = .ready
  pend : rec.pending = none
  params : rec.params = #[11]
  assign : okCode P fm nt shAssign rec.assign = true
  body : okCode P fm nt shBody rec.body = true
  size : rec.tmps.size = nt
  big : 11 < nt
  tabs : ∃ v, rec.tmps[3]? = some v ∧ Rep fm gB 1 (.ipt [tabV] 0) v
  oks : ∃ v, rec.tmps[4]? = some v ∧ Rep fm gB 1 (.ref 0 0) v

theorem rounds_go (hC : Sound P fm C1) (k : Nat) {nt : Nat} (hr : RecOk P fm rec gB nt) : RoundsGo P fm l D rec gB (stp (upto C1 k).1 (upto C1 k).2) := by
  intro x ok ok' g w v m hx hL hv
  obtain ⟨hcall, hloop⟩ := upto_sound hC k
  have hmx := hC.mixed
  refine roundIn_of_wpIn (F := FW none) trivial ?_
  show rec.assign.wpIn (FW (some l)) m P _ _ _
  unfold stp at hx
  obtain ⟨⟨e1, A1, s1⟩, h1, hx⟩ := bind_some' hx
  cases e1 <;> simp only at hx <;> try (cases hx; done)
  obtain ⟨⟨e2, A2, s2⟩, h2, hx⟩ := bind_some' hx
  cases e2 <;> simp only at hx <;> try (cases hx; done)
  obtain ⟨v3, t3, r3⟩ := hr.tabs
  obtain ⟨v4, t4, r4⟩ := hr.oks
  have hF : FrameRep fm g 1 nt [(3, .ipt [tabV] 0), (4, .ref 0 0), (11, .agg x)] (rec.tmps.setIfInBounds 11 v) := by
    refine ⟨by simp [hr.size], fun d hd => ?_⟩
    have hb := hr.big
    have hs := hr.size
    by_cases e3 : 3 = d
    · subst e3
      refine ⟨v3, by rw [Array.getElem?_setIfInBounds_ne (by omega)]; exact t3, ?_⟩
      exact (r3.mono hL.le (Nat.le_refl _)).slot
    by_cases e4 : 4 = d
    · subst e4
      refine ⟨v4, by rw [Array.getElem?_setIfInBounds_ne (by omega)]; exact t4, ?_⟩
      exact (r4.mono hL.le (Nat.le_refl _)).slot
    by_cases e11 : 11 = d
    · subst e11
      refine ⟨v, by simp [hs, hb], ?_⟩
      exact hv.slot
    · exact absurd (by simp [Frame.get, e3, e4, e11]) hd
  refine exec_sound (r := some l) hmx hcall (hloop nt) shAssign rec.assign _ (okSt ok) g w _ .normal A1 s1 _ hr.assign hL.sim hF h1 (fun a1 w1 g1 p1 => ?_)
  obtain ⟨fl1, hl1⟩ := hL.fl.kept p1.kept
  have hl1' : w1.heap[l]? = some (.loop rec) := by rw [hl1, hL.hl]
  refine ⟨_, run_beginRound hl1' hr.st, ?_⟩
  have hbl : l < w1.heap.size := (Array.getElem?_eq_some_iff.1 hl1').1
  have hS2 : Sim fm s1 g1 (w1.putObj l (.loop { rec with state := .busy })) := p1.sim.others fl1 (fun k hk => World.putObj_heap_other hk) (by simp)
  refine exec_sound (r := some l) hmx hcall (hloop nt) shBody rec.body A1 s1 g1 _ a1 .normal A2 s2 _ hr.body hS2 p1.frame h2 (fun a2 w3 g2 p2 => ?_)
  obtain ⟨fl2, hl2⟩ := fl1.kept p2.kept
  have hl2' : w3.heap[l]? = some (.loop { rec with state := .busy }) := by rw [hl2]; exact World.putObj_heap_same hbl
  have hbl3 : l < w3.heap.size := (Array.getElem?_eq_some_iff.1 hl2').1
  have hn2 : 1 ≤ s2.n := Nat.le_trans p1.n p2.n
  have hst : s2.trunc 1 = okSt ok' := okOf_some rfl hx
  have hrec : ({ { rec with state := .busy } with state := if (none : Option Code).isNone then .ready else .done, pending := none } : Go.Loop) = rec := by
    have h1 := hr.st
    have h2 := hr.pend
    cases rec
    simp only at h1 h2
    subst h1 h2
    rfl
  refine ⟨_, _, run_endRound none hl2', rfl, g2.frozen 1 w3, ?_, ?_, ?_⟩
  · rw [hrec]
    have hSf := p2.sim.frozen (m := 1) hn2
    rw [hst] at hSf
    refine hSf.others ?_ (fun k hk => World.putObj_heap_other hk) (by simp)
    exact (fl2.kept (frozen_kept (w := w3) 1)).1
  · exact (p1.le.trans (p2.le.less p1.n)).trans (frozen_le p2.sim 1)
  · rw [hrec]
    have hfk := frozen_kept (g := g2) (w := w3) 1
    refine ⟨fun k y hk => ?_, ?_, ?_, fun k y hk => ?_⟩
    · have a1 := p1.kept.blk k y hk
      have hk1 : g1.own k = .other y := by rw [a1.1.1, hk]
      have a2 := p2.kept.blk k y hk1
      have hk2 : g2.own k = .other y := by rw [a2.1.1, hk1]
      have a3 := hfk.blk k y hk2
      refine ⟨(a1.1.trans a2.1).trans a3.1, ?_⟩
      by_cases e : k = l
      · subst e
        rw [World.putObj_heap_same hbl3, hL.hl]
      · rw [World.putObj_heap_other e, a2.2, World.putObj_heap_other e, a1.2]
    · show w3.os = _
      rw [p2.kept.os]
      exact p1.kept.os
    · show w3.output = _
      rw [p2.kept.out]
      exact p1.kept.out
    · have a1 := p1.kept.blk k y hk
      have hk1 : g1.own k = .other y := by rw [a1.1.1, hk]
      have a2 := p2.kept.blk k y hk1
      have hk2 : g2.own k = .other y := by rw [a2.1.1, hk1]
      rw [hfk.mst k y hk2, p2.kept.mst k y hk1, p1.kept.mst k y hk]

end
end Go.Proofs.YtdhgdpokdhjanaaGreat.Abs
/- tree.shaped, whole. -/
namespace Go.Proofs.YtdhgdpokdhjanaaGreat.Abs
open Go

def shR0 : ACode := .region none [⟨some 1, .box (.tmp 0), none⟩, ⟨some 2, .mov (.val (.bool false)), none⟩] [1]
def shR1 : ACode := .region none [⟨some 8, .callp (.fn 385) [], none⟩, ⟨some 3, .alloc [.nilm], none⟩, ⟨none, .store 1 (.tmp 3) (.tmp 8), none⟩] [1, 3]
def shR2 : ACode := .region none [⟨some 4, .alloc [.bool false], none⟩, ⟨none, .store 1 (.tmp 4) (.val (.bool true)), none⟩] [1, 3, 4]
def shR3 : ACode := .region none [⟨some 9, .load 5 true (.tmp 1), none⟩, ⟨some 10, .callp (.fn 376) [(.tmp 9)], none⟩] [3, 4, 10]
def shR9 : ACode := .seq (.region none [⟨some 48, .load 1 false (.tmp 4), none⟩, ⟨some 2, .mov (.tmp 48), none⟩] [2]) .ret

def shapedOk (P : Program) (fm : Nat → Nat) (fn : Func) : Bool := match fn.body with
  | some (.seq r0 (.seq r1 (.seq r2 (.seq (.seq r3 (.block bq (.rangeFunc (.tmp tq) ps asg bd))) r9)))) =>
    bq == 0 && tq == 10 && ps == #[11] && okCode P fm fn.ntmps shR0 r0 && okCode P fm fn.ntmps shR1 r1 && okCode P fm fn.ntmps shR2 r2 && okCode P fm fn.ntmps shR3 r3 && okCode P fm fn.ntmps shAssign asg && okCode P fm fn.ntmps shBody bd &&
      okCode P fm fn.ntmps shR9 r9 && resOks P [.slot 2] fn.results.toList && decide (11 < fn.ntmps) && !(fn.name == "runtime.NumGoroutine")
  | _ => false

section
variable {P : Program} {fm : Nat → Nat} {l D : Nat} {rec : Go.Loop} {gB g g' g'' : Gh} {ok ok' : Bool} {w w' w'' : World}

theorem nodes1_goes (hC : Sound P fm C1) (hY : fm (2000000 + l) = 1000000 + l) (hen : Enters P (fm 387)) {fn : Func} (hfn : P.funcs[fm 377]? = some fn) (hok : okFunc P fm f377 fn = true) {f : List AVal → Bool → Option Bool} {N : Nat} (hV : VisitGoes P fm l D rec gB f N)
    {k : Int} {t : List UInt8} {p e : Int} {kv : AVal} {y : List (List AVal)} (hkv : preV kv = some y) (hy : y.length + 1 ≤ N) (hs : stepsF f (kid5 k t p e kv :: y) ok = some ok') (hL : Loops fm l D rec gB ok g w) {u : Value}
    (hu : Rep fm g 1 (.ipt (kid5 k t p e kv) 0) u) (m : Nat) : CallsIn (FW none) m P (fm 377) #[yv l, u] w fun en w' => (∃ v, en = .returned v) ∧ ∃ g', Stretch fm ok' g w g' w' := by
  obtain ⟨hcall, hloop⟩ := upto_sound hC 1
  have hmx := hC.mixed
  unfold okFunc at hok
  cases hbody : fn.body with
  | none => rw [hbody] at hok; cases hok
  | some c =>
  rw [hbody] at hok
  simp only [Bool.and_eq_true, decide_eq_true_eq, Bool.not_eq_true'] at hok
  obtain ⟨⟨⟨hok1, hok2⟩, hok3⟩, hok4⟩ := hok
  obtain ⟨rid, ops1, rfl, k1⟩ := okCode_region (aos := opsR f377.code) (keep := []) hok1
  have hYr : Rep fm g 1 (Y l) (yv l) := .yld _ _ hY
  have hR : RepL fm g (okSt ok).n [Y l, .ipt (kid5 k t p e kv) 0] (#[yv l, u] : Array Value).toList := .cons _ _ _ _ hYr (.cons _ _ _ _ hu .nil)
  have hF := params_frame (nt := fn.ntmps) hR hok3
  refine callsIn_of_wp hfn hbody trivial ?_ rfl
  refine region_special (s1 := okSt ok) (s2 := okSt ok') (v := .bool true) (pre := [⟨some 3, .load 5 true (.tmp 1), none⟩, ⟨some 4, .mov (.tmp 0), none⟩]) (sp := ⟨some 5, .call (.fn 387) [(.tmp 3), (.tmp 4)], none⟩)
      (post := []) (keep := []) hcall k1 rfl hL.sim hF (A1 := [(4, Y l), (3, .agg (kid5 k t p e kv)), (0, Y l), (1, .ipt (kid5 k t p e kv) 0)]) ?_ ?_ ?_ rfl (fun a2 w2 g2 p2 => ?_)
  · rfl
  · exact idle_frame rfl
  · intro o1 a5 w5 g5 hok5 p5 K hK
    unfold okOper at hok5
    simp only [Bool.and_eq_true, beq_iff_eq] at hok5
    obtain ⟨⟨⟨hd5, hdn5⟩, hop5⟩, hgd5⟩ := hok5
    clear hdn5 hgd5
    obtain ⟨dst, op, ty, pos, after, gd⟩ := o1
    cases op <;> try (simp only [okOp, Bool.false_eq_true] at hop5; done)
    rename_i c
    obtain ⟨callee, cargs, ts⟩ := c
    cases callee <;> simp only [okOp, Bool.false_eq_true, Bool.and_eq_true] at hop5
    rename_i fo
    obtain ⟨vs, hvs, hrun⟩ := run_call (w := w5) (ty := ty) (ts := ts) p5.frame hop5.1 hop5.2 (i := 387) (first := []) (captured := []) rfl hen
    have hvs' : RepL fm g5 1 [.agg (kid5 k t p e kv), Y l] vs.toList := hvs
    obtain ⟨v, rfl, hv⟩ := visit_args hY hvs'
    have hLp5 := hL.next (ok' := ok) p5.sim p5.le p5.kept
    refine ⟨fun _ _ => trivial, ?_⟩
    rw [Oper.semAt_eq _ _ _ (by intro c e; cases e)]
    have hrun' : (execOp a5.eval { dst := dst, op := .call { callee := .value fo, args := cargs, argTypes := ts }, type := ty, pos := pos, after := after, guard := gd }).run P w5 = .ok (.enter (fm 387) #[v, yv l]) w5 := hrun
    rw [hrun', Oper.uponIn_enter]
    refine ⟨fun h => by simp [FW] at h, ?_⟩
    refine (hV k t p e kv y hkv hy ok ok' hs g5 w5 v (m - 1) hLp5 hv).mono ?_
    rintro en w6 ⟨rfl, g6, h6⟩
    exact hK (.bool true) g6 w6 h6.1 h6.2.1 (Nat.le_refl _) h6.2.2 (.bool true)
  · have p2 : RPost fm fn.ntmps g w (okSt ok) (okSt ok') [] _ a2 g2 w2 := p2
    obtain ⟨cv, g7, q1, q2, q3, q4, q5⟩ := results_sound p2.sim p2.frame (rs := []) hok2 (v := .tup []) rfl
    exact ⟨p2.defers, cv, q1, ⟨cv, rfl⟩, g7, q2, p2.le.trans q3, p2.kept.trans q4⟩

theorem fz_ref' {n : Nat} {s : ASt} {r k : Nat} {cs : List AVal} (hr : n ≤ r) (hg : s.get r = some (.cells cs)) (h : ∀ c ∈ cs, c.strip = c ∧ c.under n = true) : fz n s (k + 2) (.ref r 0) = some (.ipt cs 0) := by
  show fz n s (k + 1 + 1) _ = _
  unfold fz
  rw [if_neg (by simp [AVal.under]; omega)]
  simp only [hg, mapM_fz (k := k) h, Option.map_some]

theorem C1_377 (k : Nat) : stepCall C1 (upto C1 k).1 (upto C1 k).2 376 = runBody (upto C1 k).1 (upto C1 k).2 f376 := rfl

theorem nodes_call {x : List AVal} (hx : ∀ c ∈ x, c.strip = c ∧ c.under 0 = true) : (upto C1 2).1 376 [.agg x] ⟨0, []⟩ = some (.fn 377 [] [.ipt x 0], ⟨0, []⟩) := by
  show stepCall C1 (upto C1 1).1 (upto C1 1).2 376 [.agg x] ⟨0, []⟩ = _
  have h1 : exec (upto C1 1).1 (upto C1 1).2 f376.code [(0, .agg x)] ⟨0, []⟩ = some (.ret, [(2, .fn 377 [] [.ref 0 0])], ⟨1, [.cells x]⟩) := rfl
  have h2 : fz 0 (⟨1, [.cells x]⟩ : ASt) depth (.fn 377 [] [.ref 0 0]) = some (.fn 377 [] [.ipt x 0]) := by
    show fz 0 _ (63 + 1) _ = _
    unfold fz
    rw [if_neg (by simp [AVal.under, underL])]
    have : fz 0 (⟨1, [.cells x]⟩ : ASt) 63 (.ref 0 0) = some (.ipt x 0) := fz_ref' (k := 61) (Nat.le_refl _) rfl hx
    simp [this]
  rw [C1_377]
  have h3 : runBody (upto C1 1).1 (upto C1 1).2 f376 [.agg x] ⟨0, []⟩ = (exec (upto C1 1).1 (upto C1 1).2 f376.code [(0, .agg x)] ⟨0, []⟩).bind (fun (e, A, s') =>
      match e with
      | .normal | .ret => do
        let v ← results A s' f376.results
        if f376.live ∨ s'.n = 0 then some (v, s') else do
        let v ← fz 0 s' depth v
        some (v, s'.trunc 0)
      | _ => none) := rfl
  rw [h3, h1]
  show (do
        let v ← some (AVal.fn 377 [] [.ref 0 0])
        if f376.live ∨ (1 : Nat) = 0 then some (v, (⟨1, [.cells x]⟩ : ASt)) else do
        let v ← fz 0 (⟨1, [.cells x]⟩ : ASt) depth v
        some (v, (⟨1, [.cells x]⟩ : ASt).trunc 0)) = _
  simp only [Option.bind_eq_bind, Option.bind_some]
  rw [if_neg (by simp [f376]), h2]
  rfl

theorem ex_shR0 {K : CallFn} {L : LoopFn} (x : List AVal) : exec K L shR0 [(0, .agg x)] ⟨0, []⟩ = some (.normal, [(1, .ref 0 0)], ⟨1, [.cells x]⟩) := rfl
theorem ex_shR1 : (fun x => exec (upto C1 2).1 (upto C1 2).2 shR1 [(1, .ipt x 0)] ⟨0, []⟩) = fun x => some (.normal, [(1, .ipt x 0), (3, .ref 0 0)], ⟨1, [.cells [tabV]]⟩) := by kernel_rfl
theorem ex_shR2 {K : CallFn} {L : LoopFn} (x : List AVal) : exec K L shR2 [(1, .ipt x 0), (3, .ipt [tabV] 0)] ⟨0, []⟩ = some (.normal, [(1, .ipt x 0), (3, .ipt [tabV] 0), (4, .ref 0 0)], okSt true) := rfl
theorem ex_shR3 (k : Int) (t : List UInt8) (p e : Int) (kv : AVal) (hx : ∀ c ∈ kid5 k t p e kv, c.strip = c ∧ c.under 0 = true) : exec (upto C1 2).1 (upto C1 2).2 shR3 [(1, .ipt (kid5 k t p e kv) 0), (3, .ipt [tabV] 0), (4, .ref 0 0)] (okSt true) =
    some (.normal, [(3, .ipt [tabV] 0), (4, .ref 0 0), (10, .fn 377 [] [.ipt (kid5 k t p e kv) 0])], okSt true) := by
  have hc := nodes_call hx
  have hu : underL 0 [AVal.agg (kid5 k t p e kv)] = true := by
    simp only [underL, AVal.under, Bool.and_true]
    exact underL_all.2 (fun a ha => (hx a ha).2)
  have h1 : aop (upto C1 2).1 (.callp (.fn 376) [.tmp 9]) [(9, .agg (kid5 k t p e kv)), (1, .ipt (kid5 k t p e kv) 0), (3, .ipt [tabV] 0), (4, .ref 0 0)] (okSt true) =
      some (.fn 377 [] [.ipt (kid5 k t p e kv) 0], [(9, .agg (kid5 k t p e kv)), (1, .ipt (kid5 k t p e kv) 0), (3, .ipt [tabV] 0), (4, .ref 0 0)], okSt true) := by
    show (if underL 0 [AVal.agg (kid5 k t p e kv)] then ((upto C1 2).1 376 [.agg (kid5 k t p e kv)] ⟨0, []⟩).bind _ else none) = _
    rw [hu, hc]
    rfl
  show ((exOps (upto C1 2).1 [⟨some 9, .load 5 true (.tmp 1), none⟩, ⟨some 10, .callp (.fn 376) [(.tmp 9)], none⟩] [(1, .ipt (kid5 k t p e kv) 0), (3, .ipt [tabV] 0), (4, .ref 0 0)] (okSt true)).map fun (A, s) => (AExit.normal, A.keep [3, 4, 10], s)) = _
  have h2 : exOps (upto C1 2).1 [⟨some 9, .load 5 true (.tmp 1), none⟩, ⟨some 10, .callp (.fn 376) [(.tmp 9)], none⟩] [(1, .ipt (kid5 k t p e kv) 0), (3, .ipt [tabV] 0), (4, .ref 0 0)] (okSt true) =
      (aop (upto C1 2).1 (.callp (.fn 376) [.tmp 9]) [(9, .agg (kid5 k t p e kv)), (1, .ipt (kid5 k t p e kv) 0), (3, .ipt [tabV] 0), (4, .ref 0 0)] (okSt true)).bind fun (v, A, s) => some (A.putO (some 10) v, s) := rfl
  rw [h2, h1]
  rfl
theorem ex_shR9 {K : CallFn} {L : LoopFn} (x : AVal) (f : AVal) (b : Bool) : exec K L shR9 [(3, x), (4, .ref 0 0), (10, f)] (okSt b) = some (.ret, [(2, .bool b)], okSt b) := rfl

theorem tab_idle : ∀ c ∈ [tabV], c.strip = c ∧ c.under 0 = true := by
  intro c hc
  simp only [List.mem_singleton] at hc
  subst hc
  exact ⟨rfl, tabUnder⟩

theorem shaped_sound (hC : Sound P fm C1) (hY : ∀ l, fm (2000000 + l) = 1000000 + l) {fn fv fo : Func} (hfn : P.funcs[fm 384]? = some fn) (hok : shapedOk P fm fn = true) (hfv : P.funcs[fm 387]? = some fv) (hokv : okFunc P fm f387 fv = true)
    (hfo : P.funcs[fm 377]? = some fo) (hoko : okFunc P fm f377 fo = true) (henv : Enters P (fm 387)) (heno : Enters P (fm 377)) :
    Enters P (fm 384) ∧ ∀ (k : Nat) (cs : List AVal) (b : Bool), shapedK k cs = some b → ∀ (g : Gh) (w : World) (vs : Array Value) (m : Nat), Sim fm ⟨0, []⟩ g w → RepL fm g 0 [.agg cs] vs.toList →
      CallsIn (FW none) m P (fm 384) vs w (CallPost fm g w ⟨0, []⟩ ⟨0, []⟩ (.bool b)) := by
  unfold shapedOk at hok
  split at hok
  case h_2 => cases hok
  rename_i r0 r1 r2 r3 bq tq ps asg bd r9 hbody
  simp only [Bool.and_eq_true, decide_eq_true_eq, Bool.not_eq_true', beq_iff_eq] at hok
  obtain ⟨⟨⟨⟨⟨⟨⟨⟨⟨⟨⟨⟨rfl, rfl⟩, rfl⟩, k0⟩, k1⟩, k2⟩, k3⟩, kA⟩, kB⟩, k9⟩, kr⟩, kb⟩, kn⟩ := hok
  refine ⟨⟨Nat.lt_of_lt_of_le (Array.getElem?_eq_some_iff.1 hfn).1 hC.few, fn, hfn, by simp [hbody], by simpa using kn⟩, ?_⟩
  intro k cs b hk g w vs m hS hR
  unfold shapedK at hk
  split at hk
  case h_2 => cases hk
  rename_i ka tx pa ea kv
  obtain ⟨y, hkv, hs⟩ := bind_some' hk
  have hs : stepsF (stp (upto C1 k).1 (upto C1 k).2) (kid5 ka tx pa ea kv :: y) true = some b := hs
  have hcells : ∀ c ∈ kid5 ka tx pa ea kv, c.strip = c ∧ c.under 0 = true := by
    generalize hvl : vs.toList = vl at hR
    cases hR with
    | cons _ v1 _ _ h1 ht =>
    cases h1 with
    | agg _ us h => exact repL_idle h
  obtain ⟨hcall, hloop⟩ := upto_sound hC 2
  have hmx := hC.mixed
  have hF := params_frame (nt := fn.ntmps) (s := ⟨0, []⟩) hR (by simp; omega)
  refine callsIn_of_wp_marks hfn hbody trivial ?_ rfl
  refine wpIn_seq (exec_sound hmx hcall (hloop fn.ntmps) shR0 r0 _ ⟨0, []⟩ g w _ .normal _ _ _ k0 hS hF (ex_shR0 _) (fun a1 w1 g1 p1 => ?_))
  have p1 : RPost fm fn.ntmps g w ⟨0, []⟩ ⟨0, []⟩ [(1, .ipt (kid5 ka tx pa ea kv) 0)] _ a1 (g1.frozen (⟨0, []⟩ : ASt).n w1) w1 := freeze_post p1 (ds := [1]) (by
    have e2 : fz 0 (⟨1, [.cells (kid5 ka tx pa ea kv)]⟩ : ASt) depth (.ref 0 0) = some (.ipt (kid5 ka tx pa ea kv) 0) := fz_ref (Nat.le_refl _) rfl hcells
    show keepF 0 (⟨1, [.cells (kid5 ka tx pa ea kv)]⟩ : ASt) [(1, .ref 0 0)] [1] = _
    simp [keepF, Frame.get, e2])
  generalize hg1 : g1.frozen (⟨0, []⟩ : ASt).n w1 = g1' at p1
  refine wpIn_seq (exec_sound hmx hcall (hloop fn.ntmps) shR1 r1 _ ⟨0, []⟩ g1' w1 a1 .normal _ _ _ k1 p1.sim p1.frame (congrFun ex_shR1 (kid5 ka tx pa ea kv)) (fun a2 w2 g2 p2 => ?_))
  have p2 : RPost fm fn.ntmps g1' w1 ⟨0, []⟩ ⟨0, []⟩ [(1, .ipt (kid5 ka tx pa ea kv) 0), (3, .ipt [tabV] 0)] a1 a2 (g2.frozen (⟨0, []⟩ : ASt).n w2) w2 := freeze_post p2 (ds := [1, 3]) (by
    have e1 : fz 0 (⟨1, [.cells [tabV]]⟩ : ASt) depth (.ipt (kid5 ka tx pa ea kv) 0) = some (.ipt (kid5 ka tx pa ea kv) 0) := fz_under (by
      simp only [AVal.under]
      exact underL_all.2 (fun a ha => (hcells a ha).2))
    have e2 : fz 0 (⟨1, [.cells [tabV]]⟩ : ASt) depth (.ref 0 0) = some (.ipt [tabV] 0) := fz_ref (Nat.le_refl _) rfl tab_idle
    show keepF 0 (⟨1, [.cells [tabV]]⟩ : ASt) [(1, .ipt (kid5 ka tx pa ea kv) 0), (3, .ref 0 0)] [1, 3] = _
    simp [keepF, Frame.get, e1, e2])
  generalize hg2 : g2.frozen (⟨0, []⟩ : ASt).n w2 = g2' at p2
  have p12 := p1.trans p2
  refine wpIn_seq (exec_sound hmx hcall (hloop fn.ntmps) shR2 r2 _ ⟨0, []⟩ g2' w2 a2 .normal _ _ _ k2 p2.sim p2.frame (ex_shR2 _) (fun a3 w3 g3 p3 => ?_))
  have p13 := p12.trans p3
  refine wpIn_seq (wpIn_seq (exec_sound hmx hcall (hloop fn.ntmps) shR3 r3 _ (okSt true) g3 w3 a3 .normal _ _ _ k3 p3.sim p3.frame (ex_shR3 ka tx pa ea kv hcells) (fun a4 w4 g4 p4 => ?_)))
  have p14 := p13.trans p4
  -- the loop's two blocks
  obtain ⟨hS5, fD5, hK5⟩ := p4.sim.foreign (.deferred (some []))
  generalize hg5 : g4.tag w4.heap.size (.other false) = g5 at hS5 fD5 hK5
  have hle5 : le 1 g4 g5 := by rw [← hg5]; exact tag_le _ _ _
  have hw5s : (w4.alloc (.deferred (some []))).heap.size = w4.heap.size + 1 := World.size_alloc _ _
  obtain ⟨v10, t10, r10⟩ := p4.frame.2 10 (by simp [Frame.get])
  have r10 : Rep fm g4 1 (.fn 377 [] [.ipt (kid5 ka tx pa ea kv) 0]) v10 := r10
  obtain ⟨u, rfl, hu⟩ : ∃ u, v10 = .func (.func (fm 377)) #[] #[u] ∧ Rep fm g4 1 (.ipt (kid5 ka tx pa ea kv) 0) u := by
    cases r10 with
    | fn _ _ _ us ws q1 q2 hf =>
      cases q1
      cases q2 with
      | cons _ u _ _ h1 h2 =>
        cases h2
        exact ⟨u, rfl, h1⟩
  obtain ⟨v3, t3, r3'⟩ := p4.frame.2 3 (by simp [Frame.get])
  obtain ⟨v4, t4, r4'⟩ := p4.frame.2 4 (by simp [Frame.get])
  have r3' : Rep fm g4 1 (.ipt [tabV] 0) v3 := r3'
  have r4' : Rep fm g4 1 (.ref 0 0) v4 := r4'
  refine wpIn_block (wpIn_rangeFunc (fun fnum _ => ?_))
  obtain ⟨hS6, fl6, hK6⟩ := hS5.foreign (.loop { state := .ready, pending := none, fn := fnum, tmps := a4.tmps, params := #[11], assign := asg, body := bd, defers := w4.heap.size })
  rw [hw5s] at hS6 fl6 hK6
  generalize hg6 : g5.tag (w4.heap.size + 1) (.other false) = g6 at hS6 fl6 hK6
  have hle6 : le 1 g5 g6 := by rw [← hg6]; exact tag_le _ _ _
  generalize hrec : ({ state := .ready, pending := none, fn := fnum, tmps := a4.tmps, params := #[11], assign := asg, body := bd, defers := w4.heap.size } : Go.Loop) = rec at hS6 fl6 hK6
  obtain ⟨fD6, hD6⟩ := fD5.kept hK6
  have hro : RecOk P fm rec g6 fn.ntmps := by
    rw [← hrec]
    exact ⟨rfl, rfl, rfl, kA, kB, p4.frame.1, kb, ⟨v3, t3, r3'.mono (hle5.trans hle6) (Nat.le_refl _)⟩, ⟨v4, t4, r4'.mono (hle5.trans hle6) (Nat.le_refl _)⟩⟩
  have hD5h : (w4.alloc (.deferred (some []))).heap[w4.heap.size]? = some (.deferred (some [])) := World.alloc_heap_new _ _
  have hl6h : ((w4.alloc (.deferred (some []))).alloc (.loop rec)).heap[w4.heap.size + 1]? = some (.loop rec) := by
    have := World.alloc_heap_new (w4.alloc (.deferred (some []))) (.loop rec)
    rwa [hw5s] at this
  have hLp : Loops fm (w4.heap.size + 1) w4.heap.size rec g6 true g6 ((w4.alloc (.deferred (some []))).alloc (.loop rec)) := ⟨hS6, fl6, hl6h, fD6, by rw [hD6, hD5h], le.refl _ _⟩
  have hgo := rounds_go (l := w4.heap.size + 1) (D := w4.heap.size) hC k hro
  obtain ⟨hV, _⟩ := both_go hC hro.params (hY _) hfv hokv henv hgo (y.length + 1)
  obtain ⟨hen0, fno, eo1, eo2, eo3⟩ := heno
  have hev : a4.eval (.tmp 10) = .func (.func (fm 377)) #[] #[u] := by
    have hlt : 10 < a4.tmps.size := (Array.getElem?_eq_some_iff.1 t10).1
    have := (Array.getElem?_eq_some_iff.1 t10).2
    simp only [Act.eval, Array.getD, hlt, dif_pos]
    exact this
  refine ⟨w4.heap.size + 1, [{ target := .collected w4.heap.size, args := #[] }], (w4.alloc (.deferred (some []))).alloc (.loop rec), { target := .fn (.func (fm 377)) #[u], args := #[yv (w4.heap.size + 1)] },
    (w4.alloc (.deferred (some []))).alloc (.loop rec), fm 377, #[yv (w4.heap.size + 1), u], (w4.alloc (.deferred (some []))).alloc (.loop rec), ?_, ?_, fun _ _ => trivial, ?_, fun h => by simp [FW] at h, ?_⟩
  · rw [← hrec]
    exact run_enterLoop_outer _ _ _ _ _
  · simp only [resolve, hev, Sem.run_bind, Deferred.ofValue, Sem.run_pure, Result.andThen_ok]
    simp [Act.eval, yv]
  · simp only [invoke, callFunc, Sem.run_bind, run_program, Result.andThen_ok, eo1, eo3, Bool.false_eq_true, if_false, eo2]
    rfl
  · refine (nodes1_goes hC (hY _) henv hfo hoko hV hkv (Nat.le_refl _) hs hLp (hu.mono (hle5.trans hle6) (Nat.le_refl _)) (m - 1)).mono ?_
    rintro en w7 ⟨⟨v7, rfl⟩, g7, h7⟩
    have hLp7 := hLp.next (ok' := b) h7.1 h7.2.1 h7.2.2
    have hend := run_endLoop (P := P) hLp7.hl (by rw [hro.st]; simp)
    generalize hw8 : w7.putObj (w4.heap.size + 1) (.loop { rec with state := .exhausted }) = w8 at hend
    refine ⟨_, w8, hend, ?_⟩
    rw [hro.pend]
    simp only [Exit.inBlock]
    have hbl7 : w4.heap.size + 1 < w7.heap.size := (Array.getElem?_eq_some_iff.1 hLp7.hl).1
    have hS8 : Sim fm (okSt b) g7 w8 := by
      rw [← hw8]
      exact h7.1.others hLp7.fl (fun k hk => World.putObj_heap_other hk) (by simp)
    have hF8 : FrameRep fm g7 1 fn.ntmps [(3, .ipt [tabV] 0), (4, .ref 0 0), (10, .fn 377 [] [.ipt (kid5 ka tx pa ea kv) 0])] a4.tmps := p4.frame.plain (idle_frame rfl) ((hle5.trans hle6).trans h7.2.1) (Nat.le_refl _)
    refine exec_sound hmx hcall (hloop fn.ntmps) shR9 r9 _ (okSt b) g7 w8 { tmps := a4.tmps, defers := [{ target := .collected w4.heap.size, args := #[] }] ++ a4.defers } .ret _ (okSt b) _ k9 hS8 hF8 (ex_shR9 _ _ b) (fun a9 w9 g9 p9 => ?_)
    have hdef : a9.defers = { target := .collected w4.heap.size, args := #[] } :: [] := by
      rw [p9.defers]
      show _ ++ a4.defers = _
      rw [p14.defers]
      rfl
    show LeavesInM (FW none) m P fn a9.tmps _ a9.defers .returning w9
    rw [hdef]
    have hDk : w8.heap[w4.heap.size]? = some (.deferred (some [])) := by
      rw [← hw8, World.putObj_heap_other (by omega), hLp7.hD]
    obtain ⟨fD9, hD9⟩ := hLp7.fD.kept p9.kept
    have hD9' : w9.heap[w4.heap.size]? = some (.deferred (some [])) := by rw [hD9, hDk]
    refine ⟨by simp, .inl ⟨_, _, rfl, run_takeDeferred hD9', ?_⟩⟩
    generalize hw10 : w9.putObj w4.heap.size (.deferred none) = w10
    have hS10 : Sim fm (okSt b) g9 w10 := by
      rw [← hw10]
      exact p9.sim.others fD9 (fun k hk => World.putObj_heap_other hk) (by simp)
    obtain ⟨cv, g11, q1, q2, q3, q4, q5⟩ := results_sound hS10 p9.frame (rs := [.slot 2]) kr (v := .bool b) rfl
    have hcv : cv = .bool b := Rep.bool_inv q5
    subst hcv
    refine ⟨_, q1, .bool b, g11.frozen 0 w10, rfl, q2.frozen (Nat.zero_le _), ?_, Nat.le_refl _, ?_, Rep.slot (.bool b)⟩
    · have l1 : le 0 g g4 := p14.le
      have l2 : le 0 g4 g7 := ((hle5.trans hle6).trans h7.2.1).less (Nat.zero_le _)
      have l3 : le 0 g7 g11 := (p9.le.trans q3).less (Nat.zero_le _)
      exact ((l1.trans l2).trans l3).trans (frozen_le q2 0)
    · have hfk := frozen_kept (g := g11) (w := w10) 0
      have hk4 := p14.kept
      have ch : ∀ k x, g.own k = .other x → (Fix g (g11.frozen 0 w10) k ∧ w10.heap[k]? = w.heap[k]?) ∧ (g11.frozen 0 w10).mst k = g.mst k := by
        intro k x hk
        have b4 := hk4.blk k x hk
        have o4 : g4.own k = .other x := by rw [b4.1.1, hk]
        have m4 := hk4.mst k x hk
        have hlt : k < w4.heap.size := by
          rcases Nat.lt_or_ge k w4.heap.size with h | h
          · exact h
          · have := (p4.sim.fresh k h).1
            rw [o4] at this
            cases this
        have b5 := hK5.blk k x o4
        have o5 : g5.own k = .other x := by rw [b5.1.1, o4]
        have b6 := hK6.blk k x o5
        have o6 : g6.own k = .other x := by rw [b6.1.1, o5]
        have b7 := h7.2.2.blk k x o6
        have o7 : g7.own k = .other x := by rw [b7.1.1, o6]
        have b9 := p9.kept.blk k x o7
        have o9 : g9.own k = .other x := by rw [b9.1.1, o7]
        have b11 := q4.blk k x o9
        have o11 : g11.own k = .other x := by rw [b11.1.1, o9]
        have bf := hfk.blk k x o11
        refine ⟨⟨((((((b4.1.trans b5.1).trans b6.1).trans b7.1).trans b9.1).trans b11.1).trans bf.1), ?_⟩, ?_⟩
        · rw [← hw10, World.putObj_heap_other (by omega), b9.2, ← hw8, World.putObj_heap_other (by omega), b7.2, b6.2, b5.2, b4.2]
        · rw [hfk.mst k x o11, q4.mst k x o9, p9.kept.mst k x o7, h7.2.2.mst k x o6, hK6.mst k x o5, hK5.mst k x o4, m4]
      refine ⟨fun k x hk => (ch k x hk).1, ?_, ?_, fun k x hk => (ch k x hk).2⟩
      · rw [← hw10]
        show w9.os = _
        rw [p9.kept.os, ← hw8]
        show w7.os = _
        rw [h7.2.2.os, hK6.os, hK5.os, hk4.os]
      · rw [← hw10]
        show w9.output = _
        rw [p9.kept.out, ← hw8]
        show w7.output = _
        rw [h7.2.2.out, hK6.out, hK5.out, hk4.out]

end
end Go.Proofs.YtdhgdpokdhjanaaGreat.Abs
/- The machine is sound for the program. -/
namespace Go.Proofs.YtdhgdpokdhjanaaGreat.Abs
open Go Go.RowKit Go.Shelf

def okAll (P : Program) : Bool := (List.range 512).all fun i => match funcs0 i with
  | none => true
  | some af => match P.funcs[fm i]? with
    | some fn => okFunc P fm af fn
    | none => false

theorem funcs0_small {i : Nat} {af : AFunc} (h : funcs0 i = some af) : i < 512 := by
  rcases Nat.lt_or_ge i 512 with h1 | h1
  · exact h1
  · unfold funcs0 at h
    split at h
    · cases h
    · unfold table at h
      have : rows[i / 16]? = none := by
        rw [List.getElem?_eq_none]
        have h2 : rows.length ≤ 32 := by decide
        omega
      rw [this] at h
      simp at h

theorem all_ok : okAll Tryz.prog = true := by kernel_rfl

theorem funcs_ok {i : Nat} {af : AFunc} (h : funcs0 i = some af) : ∃ fn, Tryz.prog.funcs[fm i]? = some fn ∧ okFunc Tryz.prog fm af fn = true := by
  have h1 := List.all_eq_true.1 all_ok i (List.mem_range.2 (funcs0_small h))
  simp only [h] at h1
  cases h2 : Tryz.prog.funcs[fm i]? with
  | none => rw [h2] at h1; cases h1
  | some fn => rw [h2] at h1; exact ⟨fn, rfl, h1⟩

theorem mixed : Tryz.prog.follows .mixedOrders = true := by kernel_rfl
theorem few : Tryz.prog.funcs.size ≤ 1000000 := of_decide_eq_true (by kernel_rfl)

theorem fm_yield (l : Nat) : fm (2000000 + l) = 1000000 + l := by
  unfold fm
  have h1 : Nat.ble 1000000 (2000000 + l) = true := Nat.ble_eq_true_of_le (by omega)
  have h2 : Nat.beq (2000000 + l) 1000000 = false := by
    cases h : Nat.beq (2000000 + l) 1000000
    · rfl
    · have := Nat.eq_of_beq_eq_true h; omega
  have h3 : Nat.beq (2000000 + l) 1000001 = false := by
    cases h : Nat.beq (2000000 + l) 1000001
    · rfl
    · have := Nat.eq_of_beq_eq_true h; omega
  rw [h1, h2, h3]
  show 2000000 + l - 1000000 = _
  omega

def entersB (P : Program) (f : Nat) : Bool := match P.funcs[f]? with
  | some fn => !fn.body.isNone && !(fn.name == "runtime.NumGoroutine") && decide (f < 1000000)
  | none => false
theorem enters_of {f : Nat} (h : entersB Tryz.prog f = true) : Enters Tryz.prog f := by
  unfold entersB at h
  split at h
  · rename_i fn hfn
    simp only [Bool.and_eq_true, Bool.not_eq_true', decide_eq_true_eq] at h
    exact ⟨h.2, fn, hfn, h.1.1, h.1.2⟩
  · cases h

theorem lib_sound (f : Nat) (h : List AVal → ASt → Option (AVal × ASt)) (hf : extLib f = some h) (args : List AVal) (s : ASt) (v : AVal) (s' : ASt) (hh : h args s = some (v, s')) : Enters Tryz.prog (fm f) ∧ ∀ (g : Gh) (w : World) (vs : Array Value) (m : Nat), Sim fm s g w → RepL fm g s.n args vs.toList →
    CallsIn (FW none) m Tryz.prog (fm f) vs w (CallPost fm g w s s' v) := by
  unfold extLib at hf
  split at hf
  · cases hf
    exact ⟨enters_of (by kernel_rfl), fun g w vs m hS hR => join_sound (f := 160) (fun bk o c xs sep w h1 h2 h3 h4 h5 => Tryz.strings_Join bk o c xs sep w h1 h2 h3 h4 h5) (fun a c sep w => Tryz.strings_Join_none a c sep w) hh hS hR m⟩
  · cases hf
    exact ⟨enters_of (by kernel_rfl), fun g w vs m hS hR => repeat_sound (f := 162) (fun x c w h1 h2 => Tryz.strings_Repeat x c w h1 h2) hh hS hR m⟩
  · cases hf
    exact ⟨enters_of (by kernel_rfl), fun g w vs m hS hR => write_sound (f := 137) (write_said ({ Tryz.lays156 with } : Lays.n166 Tryz.prog Tryz.lays156_ren) Tryz.Builder_Extra_156) hh hS hR m⟩
  · cases hf
    exact ⟨enters_of (by kernel_rfl), fun g w vs m hS hR => string_sound (f := 139) (string_said Tryz.lays169 Tryz.Builder_Extra_169) hh hS hR m⟩
  · cases hf

theorem sound0 : Sound Tryz.prog fm C0 := ⟨mixed, few, fun i af h _ => funcs_ok h, fun f args s v s' h => by
  cases hx : C0.ext f with
  | none => simp only [hx] at h; cases h
  | some e =>
    simp only [hx] at h
    exact lib_sound f e hx args s v s' h⟩

theorem sound1 : Sound Tryz.prog fm C1 := ⟨mixed, few, fun i af h _ => funcs_ok h, fun f args s v s' h => by
  cases hx : C1.ext f with
  | none => simp only [hx] at h; cases h
  | some e =>
    simp only [hx] at h
    by_cases hf : f = 385
    · subst hf
      cases hx
      obtain ⟨he, hs⟩ := shapes_sound sound0 (f := fm 385) (fn := Tryz.f81) (by kernel_rfl) (by kernel_rfl)
      have h : extShapes args s = some (v, s') := h
      unfold extShapes at h
      split at h
      · cases h
        exact ⟨he, fun g w vs m hS hR => pure_ext hs rfl hS hR m⟩
      · cases h
    · have : C1.ext f = extLib f := by
        simp only [C1]
        try rfl
      rw [this] at hx
      exact lib_sound f e hx args s v s' h⟩

/-! ### With tree.shaped -/

open Classical in
noncomputable def shapedV (cs : List AVal) : Option Bool := if h : ∃ k b, shapedK k cs = some b then some h.choose_spec.choose else none
noncomputable def extShaped : List AVal → ASt → Option (AVal × ASt)
  | [.agg cs], s => if underL 0 cs = true then (shapedV cs).map fun b => (.bool b, s) else none
  | _, _ => none
noncomputable def C2 : Cfg := ⟨funcs0, fun f => match f with
  | 384 => some extShaped
  | f => C1.ext f⟩

theorem sound2 : Sound Tryz.prog fm C2 := ⟨mixed, few, fun i af h _ => funcs_ok h, fun f args s v s' h => by
  cases hx : C2.ext f with
  | none => simp only [hx] at h; cases h
  | some e =>
    simp only [hx] at h
    by_cases hf : f = 384
    · subst hf
      cases hx
      obtain ⟨fv, hfv, hokv⟩ := funcs_ok (i := 387) (af := f387) (by kernel_rfl)
      obtain ⟨fo, hfo, hoko⟩ := funcs_ok (i := 377) (af := f377) (by kernel_rfl)
      obtain ⟨he, hs⟩ := shaped_sound sound1 fm_yield (fn := Tryz.f58) (by kernel_rfl) (by kernel_rfl) hfv hokv hfo hoko (enters_of (by kernel_rfl)) (enters_of (by kernel_rfl))
      have h : extShaped args s = some (v, s') := h
      unfold extShaped at h
      split at h
      · split at h
        · rename_i cs hu
          obtain ⟨b, hb, h⟩ := map_some' h
          cases h
          unfold shapedV at hb
          split at hb
          · rename_i hk
            cases hb
            exact ⟨he, fun g w vs m hS hR => pure_ext (hs _ _ _ hk.choose_spec.choose_spec) (by simp only [underL, AVal.under, Bool.and_true]; exact hu) hS hR m⟩
          · cases hb
        · cases h
      · cases h
    · have : C2.ext f = C1.ext f := by
        simp only [C2]
        try rfl
      rw [this] at hx
      have := sound1.ext f args s v s' (by simp only [hx]; exact h)
      exact this⟩

end Go.Proofs.YtdhgdpokdhjanaaGreat.Abs
/- Closed calls whose answers the kernel reckons; written by a program. -/
namespace Go.Proofs.YtdhgdpokdhjanaaGreat.Abs
open Go
def w1T : AVal := (.str [112, 114, 111, 99, 32, 102, 40, 120, 41, 123, 105, 102, 40, 120, 60, 49, 41, 123, 120, 61, 40, 49, 43, 120, 41, 42, 45, 50, 59, 125, 125])
def w2T : AVal := (.str [97, 32, 45, 32, 40, 98, 32, 45, 32, 99, 41])
def w3T : AVal := (.str [40, 97, 32, 45, 32, 98, 41, 32, 45, 32, 99])
def n1C : List AVal := [(.int .i64 2), (.str []), (.int .i64 0), (.int .i64 31), (.sl [(.int .i64 5), (.str [102]), (.int .i64 0), (.int .i64 31), (.sl [(.int .i64 6), (.str []), (.int .i64 6), (.int .i64 9), (.sl [(.int .i64 7), (.str [120]), (.int .i64 7), (.int .i64 8), (.sl [(.int .i64 0), (.str []), (.int .i64 8), (.int .i64 8), .nils] 1 .exact)] 1 .none), (.int .i64 0), (.str []), (.int .i64 9), (.int .i64 9), .nils, (.int .i64 11), (.str []), (.int .i64 9), (.int .i64 31), (.sl [(.int .i64 14), (.str []), (.int .i64 10), (.int .i64 30), (.sl [(.int .i64 29), (.str [60]), (.int .i64 13), (.int .i64 16), (.sl [(.int .i64 20), (.str [120]), (.int .i64 13), (.int .i64 14), .nils, (.int .i64 24), (.str [49]), (.int .i64 15), (.int .i64 16), .nils] 2 .exact), (.int .i64 11), (.str []), (.int .i64 17), (.int .i64 30), (.sl [(.int .i64 13), (.str []), (.int .i64 18), (.int .i64 29), (.sl [(.int .i64 20), (.str [120]), (.int .i64 18), (.int .i64 19), .nils, (.int .i64 29), (.str [42]), (.int .i64 20), (.int .i64 28), (.sl [(.int .i64 29), (.str [43]), (.int .i64 21), (.int .i64 24), (.sl [(.int .i64 24), (.str [49]), (.int .i64 21), (.int .i64 22), .nils, (.int .i64 20), (.str [120]), (.int .i64 23), (.int .i64 24), .nils] 2 .exact), (.int .i64 28), (.str [45]), (.int .i64 26), (.int .i64 28), (.sl [(.int .i64 24), (.str [50]), (.int .i64 27), (.int .i64 28), .nils] 1 .exact)] 2 .exact)] 2 .exact)] 1 .none), (.int .i64 0), (.str []), (.int .i64 30), (.int .i64 30), .nils] 3 .exact)] 1 .none)] 3 .exact)] 1 .none)]
def n2C : List AVal := [(.int .i64 29), (.str [45]), (.int .i64 0), (.int .i64 11), (.sl [(.int .i64 20), (.str [97]), (.int .i64 0), (.int .i64 1), .nils, (.int .i64 29), (.str [45]), (.int .i64 5), (.int .i64 10), (.sl [(.int .i64 20), (.str [98]), (.int .i64 5), (.int .i64 6), .nils, (.int .i64 20), (.str [99]), (.int .i64 9), (.int .i64 10), .nils] 2 .exact)] 2 .exact)]
def n3C : List AVal := [(.int .i64 29), (.str [45]), (.int .i64 0), (.int .i64 11), (.sl [(.int .i64 29), (.str [45]), (.int .i64 1), (.int .i64 6), (.sl [(.int .i64 20), (.str [97]), (.int .i64 1), (.int .i64 2), .nils, (.int .i64 20), (.str [98]), (.int .i64 5), (.int .i64 6), .nils] 2 .exact), (.int .i64 20), (.str [99]), (.int .i64 10), (.int .i64 11), .nils] 2 .exact)]
def scan1V : AVal := (.tup [(.sl [(.int .i64 1), (.int .i64 0), (.int .i64 0), (.int .i64 4), (.int .i64 0), (.int .i64 4), (.int .i64 5), (.int .i64 6), (.int .i64 3), (.int .i64 6), (.int .i64 6), (.int .i64 7), (.int .i64 0), (.int .i64 7), (.int .i64 7), (.int .i64 8), (.int .i64 3), (.int .i64 8), (.int .i64 8), (.int .i64 9), (.int .i64 3), (.int .i64 9), (.int .i64 9), (.int .i64 10), (.int .i64 1), (.int .i64 10), (.int .i64 10), (.int .i64 12), (.int .i64 3), (.int .i64 12), (.int .i64 12), (.int .i64 13), (.int .i64 0), (.int .i64 13), (.int .i64 13), (.int .i64 14), (.int .i64 3), (.int .i64 14), (.int .i64 14), (.int .i64 15), (.int .i64 2), (.int .i64 15), (.int .i64 15), (.int .i64 16), (.int .i64 3), (.int .i64 16), (.int .i64 16), (.int .i64 17), (.int .i64 3), (.int .i64 17), (.int .i64 17), (.int .i64 18), (.int .i64 0), (.int .i64 18), (.int .i64 18), (.int .i64 19), (.int .i64 3), (.int .i64 19), (.int .i64 19), (.int .i64 20), (.int .i64 3), (.int .i64 20), (.int .i64 20), (.int .i64 21), (.int .i64 2), (.int .i64 21), (.int .i64 21), (.int .i64 22), (.int .i64 3), (.int .i64 22), (.int .i64 22), (.int .i64 23), (.int .i64 0), (.int .i64 23), (.int .i64 23), (.int .i64 24), (.int .i64 3), (.int .i64 24), (.int .i64 24), (.int .i64 25), (.int .i64 3), (.int .i64 25), (.int .i64 25), (.int .i64 26), (.int .i64 3), (.int .i64 26), (.int .i64 26), (.int .i64 27), (.int .i64 2), (.int .i64 27), (.int .i64 27), (.int .i64 28), (.int .i64 3), (.int .i64 28), (.int .i64 28), (.int .i64 29), (.int .i64 3), (.int .i64 29), (.int .i64 29), (.int .i64 30), (.int .i64 3), (.int .i64 30), (.int .i64 30), (.int .i64 31), (.int .i64 5), (.int .i64 31), (.int .i64 31), (.int .i64 31)] 27 .none), (.int .i64 0)])

theorem uptoR_is (C : Cfg) (k : Nat) : uptoR C k = upto C k := by rw [uptoR_eq, uptoF_eq]

theorem stp_mono {k m : Nat} (h : k ≤ m) {x : List AVal} {ok b : Bool} (hs : stp (upto C1 k).1 (upto C1 k).2 x ok = some b) : stp (upto C1 m).1 (upto C1 m).2 x ok = some b := by
  unfold stp at hs ⊢
  obtain ⟨⟨e1, A1, s1⟩, h1, hs⟩ := bind_some' hs
  rw [exec_mono (upto_le C1 h).1 (upto_le C1 h).2 _ _ _ _ h1]
  simp only [Option.bind_some]
  cases e1 <;> simp only at hs ⊢ <;> try (cases hs; done)
  obtain ⟨⟨e2, A2, s2⟩, h2, hs⟩ := bind_some' hs
  rw [exec_mono (upto_le C1 h).1 (upto_le C1 h).2 _ _ _ _ h2]
  exact hs
theorem stepsF_mono {f f' : List AVal → Bool → Option Bool} (h : ∀ x ok b, f x ok = some b → f' x ok = some b) : ∀ {l : List (List AVal)} {ok b : Bool}, stepsF f l ok = some b → stepsF f' l ok = some b
  | [], _, _, hs => hs
  | x :: l, ok, b, hs => by
    obtain ⟨c, h1, h2⟩ := bind_some' hs
    simp only [stepsF, h _ _ _ h1, Option.bind_some]
    exact stepsF_mono h h2
theorem shapedK_mono {k m : Nat} (h : k ≤ m) {cs : List AVal} {b : Bool} (hs : shapedK k cs = some b) : shapedK m cs = some b := by
  unfold shapedK at hs ⊢
  split at hs
  · obtain ⟨y, hy, hs⟩ := bind_some' hs
    simp only [hy, Option.bind_some]
    exact stepsF_mono (fun x ok b h1 => stp_mono h h1) hs
  · cases hs
theorem shapedV_of {k : Nat} {cs : List AVal} {b : Bool} (hs : shapedK k cs = some b) : shapedV cs = some b := by
  have hh : ∃ k b, shapedK k cs = some b := ⟨k, b, hs⟩
  unfold shapedV
  rw [dif_pos hh]
  have h1 := shapedK_mono (Nat.le_max_left hh.choose k) hh.choose_spec.choose_spec
  have h2 := shapedK_mono (Nat.le_max_right hh.choose k) hs
  rw [h1] at h2
  exact h2
theorem call_shaped {k : Nat} {cs : List AVal} {b : Bool} (hu : underL 0 cs = true) (hs : shapedK k cs = some b) (s : ASt) : Call C2 384 [.agg cs] s = some (.bool b, s) := by
  rw [Call_eq]
  show extShaped [.agg cs] s = _
  simp only [extShaped, hu, if_true, shapedV_of hs, Option.map_some]
noncomputable def shapedR (k : Nat) (cs : List AVal) : Option Bool := match cs with
  | [.int .i64 _, .str _, .int .i64 _, .int .i64 _, kv] => (preV kv).bind fun y => stepsF (stp (uptoR C1 k).1 (uptoR C1 k).2) (cs :: y) true
  | _ => none
theorem shapedR_is (k : Nat) (cs : List AVal) : shapedR k cs = shapedK k cs := by
  unfold shapedR shapedK
  rw [uptoR_is]
  all_goals
    split
    · rfl
    · rename_i h
      split
      · exact absurd rfl (h _ _ _ _ _)
      · rfl

theorem know_holds {fs : List Fact} (hfs : ∀ x ∈ fs, x.holds C2) {x : Fact} {k : Nat} (h : (uptoR (C2.know fs) k).1 x.f x.args ⟨0, []⟩ = some (x.v, ⟨0, []⟩)) : x.holds C2 := Call_know hfs h
theorem shaped_holds {k : Nat} {cs : List AVal} {b : Bool} (hu : underL 0 cs = true) (h : shapedR k cs = some b) : (⟨384, [.agg cs], .bool b⟩ : Fact).holds C2 := by
  rw [shapedR_is] at h
  exact call_shaped hu h _
theorem all_nil : ∀ x ∈ ([] : List Fact), x.holds C2 := fun x h => (by cases h)
theorem all_cons {x : Fact} {fs : List Fact} (h : x.holds C2) (hs : ∀ y ∈ fs, y.holds C2) : ∀ y ∈ x :: fs, y.holds C2 := fun y hy => by
  rcases List.mem_cons.1 hy with rfl | hy
  · exact h
  · exact hs y hy
def fScan : Fact := ⟨147, [w1T], scan1V⟩
def fLex : Fact := ⟨201, [w1T], (.sl [] 0 .exact)⟩
def fParse : Fact := ⟨184, [w1T], (.tup [(.agg n1C), (.sl [] 0 .exact), (.int .i64 0)])⟩
def fE2 : Fact := ⟨182, [w2T], (.tup [(.agg n2C), (.sl [] 0 .exact), (.int .i64 0)])⟩
def fE3 : Fact := ⟨182, [w3T], (.tup [(.agg n3C), (.sl [] 0 .exact), (.int .i64 0)])⟩
def fSh1 : Fact := ⟨384, [.agg n1C], .bool true⟩
def fSh2 : Fact := ⟨384, [.agg n2C], .bool true⟩
def fSh3 : Fact := ⟨384, [.agg n3C], .bool true⟩
def fFmt : Fact := ⟨339, [.agg n1C], (.tup [(.str [112, 114, 111, 99, 32, 102, 40, 120, 41, 32, 123, 10, 32, 32, 105, 102, 32, 120, 32, 60, 32, 49, 32, 123, 10, 32, 32, 32, 32, 120, 32, 61, 32, 40, 49, 32, 43, 32, 120, 41, 32, 42, 32, 45, 50, 59, 10, 32, 32, 125, 10, 125, 10]), (.int .i64 0)])⟩
def fP2 : Fact := ⟨338, [.agg n2C], (.tup [(.str [97, 32, 45, 32, 40, 98, 32, 45, 32, 99, 41]), (.int .i64 0)])⟩
def fP3 : Fact := ⟨338, [.agg n3C], (.tup [(.str [97, 32, 45, 32, 98, 32, 45, 32, 99]), (.int .i64 0)])⟩

theorem hScan : fScan.holds C2 := know_holds all_nil (k := 200) (by kernel_rfl)
theorem hLex : fLex.holds C2 := know_holds (all_cons hScan all_nil) (k := 200) (by kernel_rfl)
theorem hParse : fParse.holds C2 := know_holds (all_cons hScan (all_cons hLex all_nil)) (k := 200) (by kernel_rfl)
theorem hE2 : fE2.holds C2 := know_holds all_nil (k := 200) (by kernel_rfl)
theorem hE3 : fE3.holds C2 := know_holds all_nil (k := 200) (by kernel_rfl)
theorem hSh1 : fSh1.holds C2 := shaped_holds (k := 60) (by kernel_rfl) (by kernel_rfl)
theorem hSh2 : fSh2.holds C2 := shaped_holds (k := 60) (by kernel_rfl) (by kernel_rfl)
theorem hSh3 : fSh3.holds C2 := shaped_holds (k := 60) (by kernel_rfl) (by kernel_rfl)
theorem hFmt : fFmt.holds C2 := know_holds (all_cons hSh1 all_nil) (k := 100) (by kernel_rfl)
theorem hP2 : fP2.holds C2 := know_holds (all_cons hSh2 all_nil) (k := 100) (by kernel_rfl)
theorem hP3 : fP3.holds C2 := know_holds (all_cons hSh3 all_nil) (k := 100) (by kernel_rfl)

/-- The examples hold. -/
theorem awake : Call C2 121 [] ⟨0, []⟩ = some (.bool true, ⟨0, []⟩) :=
  Call_know (fs := [fParse, fFmt, fE2, fE3, fP2, fP3]) (all_cons hParse (all_cons hFmt (all_cons hE2 (all_cons hE3 (all_cons hP2 (all_cons hP3 all_nil)))))) (k := 30) (by kernel_rfl)
end Go.Proofs.YtdhgdpokdhjanaaGreat.Abs
