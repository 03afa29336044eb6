/- The table of the shapes: whatever the order in which it is laid, it answers as the table in the text's order. -/
import Derived.Test.YtdhgdpokdhjanaaGreatX0
import Derived.Test.YtdhgdpokdhjanaaGreatA37
import Derived.KernelRfl
set_option linter.unusedSimpArgs false
set_option linter.unusedVariables false
namespace Go.Proofs.YtdhgdpokdhjanaaGreat.Abs
open Go

mutual
theorem under_mono {n m : Nat} (h : n ≤ m) : ∀ {a : AVal}, a.under n = true → a.under m = true
  | .undef, _ => rfl
  | .bool _, _ => rfl
  | .int _ _, _ => rfl
  | .str _, _ => rfl
  | .nilp, _ => rfl
  | .nils, _ => rfl
  | .nilm, _ => rfl
  | .nilf, _ => rfl
  | .nili, _ => rfl
  | .ref r _, hu => by simp [AVal.under] at hu ⊢; omega
  | .map r, hu => by simp [AVal.under] at hu ⊢; omega
  | .ipt cs _, hu => by simp only [AVal.under] at hu ⊢; exact underL_mono h hu
  | .sl cs _ o, hu => by
    simp only [AVal.under, Bool.and_eq_true] at hu ⊢
    refine ⟨underL_mono h hu.1, ?_⟩
    have := hu.2
    cases o <;> simp [Own.under] at this ⊢
    omega
  | .imap ks vs, hu => by
    simp only [AVal.under, Bool.and_eq_true] at hu ⊢
    exact ⟨underL_mono h hu.1, underL_mono h hu.2⟩
  | .fn _ ks vs, hu => by
    simp only [AVal.under, Bool.and_eq_true] at hu ⊢
    exact ⟨underL_mono h hu.1, underL_mono h hu.2⟩
  | .agg cs, hu => by simp only [AVal.under] at hu ⊢; exact underL_mono h hu
  | .tup cs, hu => by simp only [AVal.under] at hu ⊢; exact underL_mono h hu
theorem underL_mono {n m : Nat} (h : n ≤ m) : ∀ {l : List AVal}, underL n l = true → underL m l = true
  | [], _ => rfl
  | a :: l, hu => by
    simp only [underL, Bool.and_eq_true] at hu ⊢
    exact ⟨under_mono h hu.1, underL_mono h hu.2⟩
end

theorem underL_all {n : Nat} : ∀ {l : List AVal}, underL n l = true ↔ ∀ a ∈ l, a.under n = true
  | [] => by simp [underL]
  | a :: l => by simp [underL, underL_all (l := l)]

/-- The shapes, in the order of the text. -/
def tab : List (Int × AVal) := [
(0, (.agg [(.fn 370 [] []), .nils, .nilf, (.int .i64 0)])),
(2, (.agg [(.fn 370 [] []), .nils, (.fn 380 [] [(.ipt [(.sl [(.int .i64 3), (.int .i64 5)] 2 .exact)] 0)]), (.int .i64 0)])),
(3, (.agg [(.fn 295 [] []), .nils, (.fn 380 [] [(.ipt [(.sl [(.int .i64 4)] 1 .exact)] 0)]), (.int .i64 1)])),
(4, (.agg [(.fn 295 [] []), (.sl [(.fn 380 [] [(.ipt [(.sl [(.int .i64 9)] 1 .exact)] 0)])] 1 .exact), .nilf, (.int .i64 0)])),
(5, (.agg [(.fn 295 [] []), (.sl [(.fn 380 [] [(.ipt [(.sl [(.int .i64 6)] 1 .exact)] 0)]), (.fn 382 [] [(.ipt [(.fn 375 [] [])] 0)]), (.fn 380 [] [(.ipt [(.sl [(.int .i64 11)] 1 .exact)] 0)])] 3 .exact), .nilf, (.int .i64 0)])),
(6, (.agg [(.fn 370 [] []), .nils, (.fn 380 [] [(.ipt [(.sl [(.int .i64 7), (.int .i64 8)] 2 .exact)] 0)]), (.int .i64 0)])),
(7, (.agg [(.fn 295 [] []), (.sl [(.fn 382 [] [(.ipt [(.fn 375 [] [])] 0)])] 1 .exact), .nilf, (.int .i64 0)])),
(8, (.agg [(.fn 295 [] []), (.sl [(.fn 382 [] [(.ipt [(.fn 375 [] [])] 0)])] 1 .exact), .nilf, (.int .i64 0)])),
(9, (.agg [(.fn 386 [] [(.ipt [(.fn 389 [] [(.ipt [(.sl [(.str [105, 110, 116]), (.str [98, 111, 111, 108])] 2 .exact)] 0)])] 0), (.ipt [(.fn 295 [] [])] 0)]), .nils, .nilf, (.int .i64 0)])),
(10, (.agg [(.fn 378 [] []), .nils, .nilf, (.int .i64 0)])),
(11, (.agg [(.fn 370 [] []), .nils, (.fn 374 [] []), (.int .i64 0)])),
(12, (.agg [(.fn 295 [] []), (.sl [(.fn 382 [] [(.ipt [(.fn 375 [] [])] 0)]), (.fn 372 [] [])] 2 .exact), .nilf, (.int .i64 0)])),
(13, (.agg [(.fn 370 [] []), (.sl [(.fn 373 [] []), (.fn 372 [] [])] 2 .exact), .nilf, (.int .i64 0)])),
(14, (.agg [(.fn 370 [] []), (.sl [(.fn 372 [] []), (.fn 380 [] [(.ipt [(.sl [(.int .i64 11)] 1 .exact)] 0)]), (.fn 382 [] [(.ipt [(.fn 380 [] [(.ipt [(.sl [(.int .i64 11), (.int .i64 14)] 2 .exact)] 0)])] 0)])] 3 .exact), .nilf, (.int .i64 0)])),
(15, (.agg [(.fn 370 [] []), (.sl [(.fn 372 [] []), (.fn 380 [] [(.ipt [(.sl [(.int .i64 11)] 1 .exact)] 0)])] 2 .exact), .nilf, (.int .i64 0)])),
(16, (.agg [(.fn 295 [] []), (.sl [(.fn 372 [] []), (.fn 372 [] []), (.fn 380 [] [(.ipt [(.sl [(.int .i64 11)] 1 .exact)] 0)])] 3 .exact), .nilf, (.int .i64 0)])),
(17, (.agg [(.fn 370 [] []), (.sl [(.fn 382 [] [(.ipt [(.fn 372 [] [])] 0)])] 1 .exact), .nilf, (.int .i64 0)])),
(18, (.agg [(.fn 370 [] []), (.sl [(.fn 372 [] [])] 1 .exact), .nilf, (.int .i64 0)])),
(19, (.agg [(.fn 295 [] []), .nils, (.fn 372 [] []), (.int .i64 0)])),
(20, (.agg [(.fn 295 [] []), .nils, .nilf, (.int .i64 0)])),
(21, (.agg [(.fn 370 [] []), (.sl [(.fn 380 [] [(.ipt [(.sl [(.int .i64 20)] 1 .exact)] 0)]), (.fn 372 [] [])] 2 .exact), .nilf, (.int .i64 0)])),
(22, (.agg [(.fn 295 [] []), (.sl [(.fn 380 [] [(.ipt [(.sl [(.int .i64 20)] 1 .exact)] 0)])] 1 .exact), .nilf, (.int .i64 0)])),
(23, (.agg [(.fn 370 [] []), (.sl [(.fn 380 [] [(.ipt [(.sl [(.int .i64 20)] 1 .exact)] 0)])] 1 .exact), .nilf, (.int .i64 0)])),
(24, (.agg [(.fn 378 [] []), .nils, .nilf, (.int .i64 0)])),
(25, (.agg [(.fn 389 [] [(.ipt [(.sl [(.str [116, 114, 117, 101]), (.str [102, 97, 108, 115, 101])] 2 .exact)] 0)]), .nils, .nilf, (.int .i64 0)])),
(26, (.agg [(.fn 370 [] []), .nils, (.fn 372 [] []), (.int .i64 1)])),
(27, (.agg [(.fn 295 [] []), .nils, (.fn 372 [] []), (.int .i64 0)])),
(28, (.agg [(.fn 389 [] [(.ipt [(.sl [(.str [45]), (.str [110, 111, 116])] 2 .exact)] 0)]), (.sl [(.fn 372 [] [])] 1 .exact), .nilf, (.int .i64 0)])),
(29, (.agg [(.fn 389 [] [(.ipt [(.sl [(.str [111, 114]), (.str [97, 110, 100]), (.str [61, 61]), (.str [33, 61]), (.str [60]), (.str [60, 61]), (.str [62]), (.str [62, 61]), (.str [43]), (.str [45]), (.str [42]), (.str [47]), (.str [37])] 13 .exact)] 0)]), (.sl [(.fn 372 [] []), (.fn 372 [] [])] 2 .exact), .nilf, (.int .i64 0)]))]

def shA1 : Frame := [(1, .ref 0 0)]
def shA2 : Frame := [(1, (.ref 0 0)), (2, (.fn 380 [] [(.ipt [(.sl [(.int .i64 11)] 1 .exact)] 0)])), (3, (.fn 372 [] [])), (4, (.fn 382 [] [(.ipt [(.fn 375 [] [])] 0)]))]
def shA3 : Frame := [(1, (.ref 0 0)), (2, (.fn 380 [] [(.ipt [(.sl [(.int .i64 11)] 1 .exact)] 0)])), (3, (.fn 372 [] [])), (4, (.fn 382 [] [(.ipt [(.fn 375 [] [])] 0)])), (5, (.ref 1 0))]
def shO1 : List AObj := [.cells [(.fn 295 [] [])]]
def shO : List AObj := [.cells [(.fn 389 [] [(.ipt [(.sl [(.str [105, 110, 116]), (.str [98, 111, 111, 108])] 2 .exact)] 0)])], .cells [(.fn 295 [] [])]]
def shV : List (Nat × AVal) := [
  (0, (.map 2)),
  (118, (.map 2)),
  (117, (.agg [(.fn 389 [] [(.ipt [(.sl [(.str [111, 114]), (.str [97, 110, 100]), (.str [61, 61]), (.str [33, 61]), (.str [60]), (.str [60, 61]), (.str [62]), (.str [62, 61]), (.str [43]), (.str [45]), (.str [42]), (.str [47]), (.str [37])] 13 .exact)] 0)]), (.sl [(.fn 372 [] []), (.fn 372 [] [])] 2 .exact), .nilf, (.int .i64 0)])),
  (116, (.sl [(.fn 372 [] []), (.fn 372 [] [])] 2 .exact)),
  (115, (.fn 372 [] [])),
  (114, (.fn 372 [] [])),
  (113, (.fn 389 [] [(.ipt [(.sl [(.str [111, 114]), (.str [97, 110, 100]), (.str [61, 61]), (.str [33, 61]), (.str [60]), (.str [60, 61]), (.str [62]), (.str [62, 61]), (.str [43]), (.str [45]), (.str [42]), (.str [47]), (.str [37])] 13 .exact)] 0)])),
  (112, (.sl [(.str [111, 114]), (.str [97, 110, 100]), (.str [61, 61]), (.str [33, 61]), (.str [60]), (.str [60, 61]), (.str [62]), (.str [62, 61]), (.str [43]), (.str [45]), (.str [42]), (.str [47]), (.str [37])] 13 .exact)),
  (111, (.agg [(.fn 389 [] [(.ipt [(.sl [(.str [45]), (.str [110, 111, 116])] 2 .exact)] 0)]), (.sl [(.fn 372 [] [])] 1 .exact), .nilf, (.int .i64 0)])),
  (110, (.sl [(.fn 372 [] [])] 1 .exact)),
  (109, (.fn 372 [] [])),
  (108, (.fn 389 [] [(.ipt [(.sl [(.str [45]), (.str [110, 111, 116])] 2 .exact)] 0)])),
  (107, (.sl [(.str [45]), (.str [110, 111, 116])] 2 .exact)),
  (106, (.agg [(.fn 295 [] []), .nils, (.fn 372 [] []), (.int .i64 0)])),
  (105, (.fn 372 [] [])),
  (104, (.fn 295 [] [])),
  (103, (.agg [(.fn 370 [] []), .nils, (.fn 372 [] []), (.int .i64 1)])),
  (102, (.fn 372 [] [])),
  (101, (.agg [(.fn 389 [] [(.ipt [(.sl [(.str [116, 114, 117, 101]), (.str [102, 97, 108, 115, 101])] 2 .exact)] 0)]), .nils, .nilf, (.int .i64 0)])),
  (100, (.fn 389 [] [(.ipt [(.sl [(.str [116, 114, 117, 101]), (.str [102, 97, 108, 115, 101])] 2 .exact)] 0)])),
  (99, (.sl [(.str [116, 114, 117, 101]), (.str [102, 97, 108, 115, 101])] 2 .exact)),
  (98, (.agg [(.fn 378 [] []), .nils, .nilf, (.int .i64 0)])),
  (97, (.agg [(.fn 370 [] []), (.sl [(.fn 380 [] [(.ipt [(.sl [(.int .i64 20)] 1 .exact)] 0)])] 1 .exact), .nilf, (.int .i64 0)])),
  (96, (.sl [(.fn 380 [] [(.ipt [(.sl [(.int .i64 20)] 1 .exact)] 0)])] 1 .exact)),
  (95, (.fn 380 [] [(.ipt [(.sl [(.int .i64 20)] 1 .exact)] 0)])),
  (94, (.sl [(.int .i64 20)] 1 .exact)),
  (93, (.agg [(.fn 295 [] []), (.sl [(.fn 380 [] [(.ipt [(.sl [(.int .i64 20)] 1 .exact)] 0)])] 1 .exact), .nilf, (.int .i64 0)])),
  (92, (.sl [(.fn 380 [] [(.ipt [(.sl [(.int .i64 20)] 1 .exact)] 0)])] 1 .exact)),
  (91, (.fn 380 [] [(.ipt [(.sl [(.int .i64 20)] 1 .exact)] 0)])),
  (90, (.sl [(.int .i64 20)] 1 .exact)),
  (89, (.fn 295 [] [])),
  (88, (.agg [(.fn 370 [] []), (.sl [(.fn 380 [] [(.ipt [(.sl [(.int .i64 20)] 1 .exact)] 0)]), (.fn 372 [] [])] 2 .exact), .nilf, (.int .i64 0)])),
  (87, (.sl [(.fn 380 [] [(.ipt [(.sl [(.int .i64 20)] 1 .exact)] 0)]), (.fn 372 [] [])] 2 .exact)),
  (86, (.fn 372 [] [])),
  (85, (.fn 380 [] [(.ipt [(.sl [(.int .i64 20)] 1 .exact)] 0)])),
  (84, (.sl [(.int .i64 20)] 1 .exact)),
  (83, (.agg [(.fn 295 [] []), .nils, .nilf, (.int .i64 0)])),
  (82, (.fn 295 [] [])),
  (81, (.agg [(.fn 295 [] []), .nils, (.fn 372 [] []), (.int .i64 0)])),
  (80, (.fn 372 [] [])),
  (79, (.fn 295 [] [])),
  (78, (.agg [(.fn 370 [] []), (.sl [(.fn 372 [] [])] 1 .exact), .nilf, (.int .i64 0)])),
  (77, (.sl [(.fn 372 [] [])] 1 .exact)),
  (76, (.fn 372 [] [])),
  (75, (.agg [(.fn 370 [] []), (.sl [(.fn 382 [] [(.ipt [(.fn 372 [] [])] 0)])] 1 .exact), .nilf, (.int .i64 0)])),
  (74, (.sl [(.fn 382 [] [(.ipt [(.fn 372 [] [])] 0)])] 1 .exact)),
  (73, (.fn 382 [] [(.ipt [(.fn 372 [] [])] 0)])),
  (72, (.fn 372 [] [])),
  (71, (.agg [(.fn 295 [] []), (.sl [(.fn 372 [] []), (.fn 372 [] []), (.fn 380 [] [(.ipt [(.sl [(.int .i64 11)] 1 .exact)] 0)])] 3 .exact), .nilf, (.int .i64 0)])),
  (70, (.sl [(.fn 372 [] []), (.fn 372 [] []), (.fn 380 [] [(.ipt [(.sl [(.int .i64 11)] 1 .exact)] 0)])] 3 .exact)),
  (69, (.fn 380 [] [(.ipt [(.sl [(.int .i64 11)] 1 .exact)] 0)])),
  (68, (.fn 372 [] [])),
  (67, (.fn 372 [] [])),
  (66, (.fn 295 [] [])),
  (65, (.agg [(.fn 370 [] []), (.sl [(.fn 372 [] []), (.fn 380 [] [(.ipt [(.sl [(.int .i64 11)] 1 .exact)] 0)])] 2 .exact), .nilf, (.int .i64 0)])),
  (64, (.sl [(.fn 372 [] []), (.fn 380 [] [(.ipt [(.sl [(.int .i64 11)] 1 .exact)] 0)])] 2 .exact)),
  (63, (.fn 380 [] [(.ipt [(.sl [(.int .i64 11)] 1 .exact)] 0)])),
  (62, (.fn 372 [] [])),
  (61, (.agg [(.fn 370 [] []), (.sl [(.fn 372 [] []), (.fn 380 [] [(.ipt [(.sl [(.int .i64 11)] 1 .exact)] 0)]), (.fn 382 [] [(.ipt [(.fn 380 [] [(.ipt [(.sl [(.int .i64 11), (.int .i64 14)] 2 .exact)] 0)])] 0)])] 3 .exact), .nilf, (.int .i64 0)])),
  (60, (.sl [(.fn 372 [] []), (.fn 380 [] [(.ipt [(.sl [(.int .i64 11)] 1 .exact)] 0)]), (.fn 382 [] [(.ipt [(.fn 380 [] [(.ipt [(.sl [(.int .i64 11), (.int .i64 14)] 2 .exact)] 0)])] 0)])] 3 .exact)),
  (59, (.fn 382 [] [(.ipt [(.fn 380 [] [(.ipt [(.sl [(.int .i64 11), (.int .i64 14)] 2 .exact)] 0)])] 0)])),
  (58, (.fn 380 [] [(.ipt [(.sl [(.int .i64 11), (.int .i64 14)] 2 .exact)] 0)])),
  (57, (.sl [(.int .i64 11), (.int .i64 14)] 2 .exact)),
  (56, (.fn 380 [] [(.ipt [(.sl [(.int .i64 11)] 1 .exact)] 0)])),
  (55, (.fn 372 [] [])),
  (54, (.agg [(.fn 370 [] []), (.sl [(.fn 373 [] []), (.fn 372 [] [])] 2 .exact), .nilf, (.int .i64 0)])),
  (53, (.sl [(.fn 373 [] []), (.fn 372 [] [])] 2 .exact)),
  (52, (.fn 372 [] [])),
  (51, (.agg [(.fn 295 [] []), (.sl [(.fn 382 [] [(.ipt [(.fn 375 [] [])] 0)]), (.fn 372 [] [])] 2 .exact), .nilf, (.int .i64 0)])),
  (50, (.sl [(.fn 382 [] [(.ipt [(.fn 375 [] [])] 0)]), (.fn 372 [] [])] 2 .exact)),
  (49, (.fn 372 [] [])),
  (48, (.fn 382 [] [(.ipt [(.fn 375 [] [])] 0)])),
  (47, (.fn 295 [] [])),
  (46, (.agg [(.fn 370 [] []), .nils, (.fn 374 [] []), (.int .i64 0)])),
  (45, (.agg [(.fn 378 [] []), .nils, .nilf, (.int .i64 0)])),
  (44, (.agg [(.fn 386 [] [(.ref 1 0), (.ref 0 0)]), .nils, .nilf, (.int .i64 0)])),
  (43, (.fn 386 [] [(.ref 1 0), (.ref 0 0)])),
  (42, (.agg [(.fn 295 [] []), (.sl [(.fn 382 [] [(.ipt [(.fn 375 [] [])] 0)])] 1 .exact), .nilf, (.int .i64 0)])),
  (41, (.sl [(.fn 382 [] [(.ipt [(.fn 375 [] [])] 0)])] 1 .exact)),
  (40, (.fn 382 [] [(.ipt [(.fn 375 [] [])] 0)])),
  (39, (.fn 295 [] [])),
  (38, (.agg [(.fn 295 [] []), (.sl [(.fn 382 [] [(.ipt [(.fn 375 [] [])] 0)])] 1 .exact), .nilf, (.int .i64 0)])),
  (37, (.sl [(.fn 382 [] [(.ipt [(.fn 375 [] [])] 0)])] 1 .exact)),
  (36, (.fn 382 [] [(.ipt [(.fn 375 [] [])] 0)])),
  (35, (.fn 295 [] [])),
  (34, (.agg [(.fn 370 [] []), .nils, (.fn 380 [] [(.ipt [(.sl [(.int .i64 7), (.int .i64 8)] 2 .exact)] 0)]), (.int .i64 0)])),
  (33, (.fn 380 [] [(.ipt [(.sl [(.int .i64 7), (.int .i64 8)] 2 .exact)] 0)])),
  (32, (.sl [(.int .i64 7), (.int .i64 8)] 2 .exact)),
  (31, (.agg [(.fn 295 [] []), (.sl [(.fn 380 [] [(.ipt [(.sl [(.int .i64 6)] 1 .exact)] 0)]), (.fn 382 [] [(.ipt [(.fn 375 [] [])] 0)]), (.fn 380 [] [(.ipt [(.sl [(.int .i64 11)] 1 .exact)] 0)])] 3 .exact), .nilf, (.int .i64 0)])),
  (30, (.sl [(.fn 380 [] [(.ipt [(.sl [(.int .i64 6)] 1 .exact)] 0)]), (.fn 382 [] [(.ipt [(.fn 375 [] [])] 0)]), (.fn 380 [] [(.ipt [(.sl [(.int .i64 11)] 1 .exact)] 0)])] 3 .exact)),
  (29, (.fn 380 [] [(.ipt [(.sl [(.int .i64 11)] 1 .exact)] 0)])),
  (28, (.fn 382 [] [(.ipt [(.fn 375 [] [])] 0)])),
  (27, (.fn 380 [] [(.ipt [(.sl [(.int .i64 6)] 1 .exact)] 0)])),
  (26, (.sl [(.int .i64 6)] 1 .exact)),
  (25, (.fn 295 [] [])),
  (24, (.agg [(.fn 295 [] []), (.sl [(.fn 380 [] [(.ipt [(.sl [(.int .i64 9)] 1 .exact)] 0)])] 1 .exact), .nilf, (.int .i64 0)])),
  (23, (.sl [(.fn 380 [] [(.ipt [(.sl [(.int .i64 9)] 1 .exact)] 0)])] 1 .exact)),
  (22, (.fn 380 [] [(.ipt [(.sl [(.int .i64 9)] 1 .exact)] 0)])),
  (21, (.sl [(.int .i64 9)] 1 .exact)),
  (20, (.fn 295 [] [])),
  (19, (.agg [(.fn 295 [] []), .nils, (.fn 380 [] [(.ipt [(.sl [(.int .i64 4)] 1 .exact)] 0)]), (.int .i64 1)])),
  (18, (.fn 380 [] [(.ipt [(.sl [(.int .i64 4)] 1 .exact)] 0)])),
  (17, (.sl [(.int .i64 4)] 1 .exact)),
  (16, (.fn 295 [] [])),
  (15, (.agg [(.fn 370 [] []), .nils, (.fn 380 [] [(.ipt [(.sl [(.int .i64 3), (.int .i64 5)] 2 .exact)] 0)]), (.int .i64 0)])),
  (14, (.fn 380 [] [(.ipt [(.sl [(.int .i64 3), (.int .i64 5)] 2 .exact)] 0)])),
  (13, (.sl [(.int .i64 3), (.int .i64 5)] 2 .exact)),
  (12, (.agg [(.fn 370 [] []), .nils, .nilf, (.int .i64 0)])),
  (11, (.map 2))]
def shF : Frame := shV ++ shA3

def shK : CallFn := (upto C0 12).1
def shL : LoopFn := (upto C0 12).2

def part (k : Nat) : ACode → ACode
  | .seq a b => match k with
    | 0 => a
    | k + 1 => part k b
  | c => match k with
    | 0 => c
    | _ => .bad

theorem sh1 : exec shK shL (part 0 f385.code) [] ⟨0, []⟩ = some (.normal, [], ⟨0, []⟩) := by kernel_rfl
theorem sh2 : exec shK shL (part 1 f385.code) [] ⟨0, []⟩ = some (.normal, shA1, ⟨1, shO1⟩) := by kernel_rfl
theorem sh3 : exec shK shL (part 2 f385.code) shA1 ⟨1, shO1⟩ = some (.normal, shA2, ⟨1, shO1⟩) := by kernel_rfl
theorem sh4 : exec shK shL (part 3 f385.code) shA2 ⟨1, shO1⟩ = some (.normal, shA3, ⟨2, shO⟩) := by kernel_rfl

def opsOf : ACode → List AOper
  | .region (some _) ops _ => ops
  | _ => []
def shOps : List AOper := opsOf (part 4 f385.code)
def shEnt : List (Int × AVal) := shOps.filterMap (entryOf shF 11)

theorem shRuns0 : (shOps.map fun o => if o.plain then aop shK o.op shF ⟨2, shO⟩ else none) = shOps.map fun o => if o.plain then o.dst.map fun d => (shF.get d, shF, ⟨2, shO⟩) else none := by kernel_rfl
theorem shRuns : (fun ks vs => shOps.map fun o => if o.plain then aop shK o.op shF ⟨3, .map ks vs :: shO⟩ else none) = (fun ks vs => shOps.map fun o => if o.plain then o.dst.map fun d => (shF.get d, shF, (⟨3, .map ks vs :: shO⟩ : ASt)) else none) := by kernel_rfl
theorem shKinds : (shOps.zipIdx.all fun (o, i) => i == 0 || o.plain || (entryOf shF 11 o).isSome) = true := by kernel_rfl
theorem shDst : (shV.all fun p => shOps.any fun o => o.dst == some p.1) = true := by kernel_rfl
theorem shUnder : (shEnt.all fun p => p.2.under 3) = true := by kernel_rfl
theorem shKeys : ((shEnt.map (·.1)).Nodup) := of_decide_eq_true (by kernel_rfl)
theorem shFz : (fun ks vs => shEnt.map fun p => (fz 0 ⟨3, .map ks vs :: shO⟩ 63 p.2).map fun v => (p.1, v)) = (fun _ _ => tab.map some) := by kernel_rfl
theorem tabKeys : (tab.map (·.1)).Nodup := of_decide_eq_true (by kernel_rfl)
theorem tabUnder : (underL 0 (ksOf tab) && underL 0 (vsOf tab)) = true := by kernel_rfl

def backOk (ops : Array Oper) : Bool := ops.toList.zipIdx.all fun (o, k) => o.after.toList.all fun e => !Region.binds .any e || decide (e.on < k)

def shapesOk (P : Program) (fm : Nat → Nat) (fn : Func) : Bool := match fn.body with
  | some (.seq a (.seq b (.seq c (.seq d (.seq (.region _ ops true) .ret))))) =>
    okCode P fm fn.ntmps (part 0 f385.code) a && okCode P fm fn.ntmps (part 1 f385.code) b && okCode P fm fn.ntmps (part 2 f385.code) c && okCode P fm fn.ntmps (part 3 f385.code) d &&
      okOpers P fm fn.ntmps ops shOps ops.toList && backOk ops && readsBound shOps ops.toList && (shOps.length == ops.size) && resOks P [.slot 0] fn.results.toList && !(fn.name == "runtime.NumGoroutine")
  | _ => false

theorem map_get {α β : Type} {f g : α → β} {l : List α} (h : l.map f = l.map g) {i : Nat} {x : α} (hx : l[i]? = some x) : f x = g x := by
  have h1 : (l.map f)[i]? = (l.map g)[i]? := by rw [h]
  simpa [hx] using h1

theorem get_append {A : Frame} {d : Nat} : ∀ {V : List (Nat × AVal)}, (∀ p ∈ V, p.1 ≠ d) → Frame.get (V ++ A) d = Frame.get A d
  | [], _ => rfl
  | (k, v) :: V, h => by
    show (if k = d then v else Frame.get (V ++ A) d) = _
    rw [if_neg (h (k, v) (by simp)), get_append (fun p hp => h p (by simp [hp]))]

theorem shOpens {ops : Array Oper} (h1 : readsBound shOps ops.toList = true) (h2 : shOps.length = ops.size) : Opens shK shOps ops shA3 shF 2 shO 11 where
  bound := h1
  len := h2
  first := ⟨_, rfl, rfl, rfl, rfl⟩
  kinds := fun i o ho => by
    have h := List.all_eq_true.1 shKinds (o, i) (by rw [List.mem_iff_getElem?]; exact ⟨i, by rw [List.getElem?_zipIdx, ho]; simp⟩)
    simpa [or_assoc] using h
  slot := rfl
  base := fun d hd => by
    refine (get_append (fun p hp e => ?_)).symm
    have h := List.all_eq_true.1 shDst p hp
    rw [List.any_eq_true] at h
    obtain ⟨o, ho, hod⟩ := h
    obtain ⟨i, hi⟩ := List.mem_iff_getElem?.1 ho
    exact hd i o hi (by rw [← e]; simpa using hod)
  size := rfl
  runs0 := fun i o ho hp d hd => by
    have := map_get shRuns0 ho
    simp only [hp, if_true, hd, Option.map_some] at this
    exact this
  runs := fun ks vs i o ho hp d hd => by
    have := map_get (congrFun (congrFun shRuns ks) vs) ho
    simp only [hp, if_true, hd, Option.map_some] at this
    exact this
  under := fun i o p ho hp => by
    exact List.all_eq_true.1 shUnder p (List.mem_filterMap.2 ⟨o, List.mem_of_getElem? ho, hp⟩)
  keys := by
    have := shKeys
    unfold shEnt at this
    rw [List.map_filterMap] at this
    exact this

theorem mapM_ks {f : AVal → Option AVal} (hf : ∀ n : Int, f (.int .i64 n) = some (.int .i64 n)) : ∀ es : List (Int × AVal), (ksOf es).mapM f = some (ksOf es)
  | [] => rfl
  | p :: es => by
    have ih := mapM_ks hf es
    simp only [ksOf, List.map_cons, List.mapM_cons] at ih ⊢
    rw [hf, ih]
    rfl
theorem mapM_vs {f : AVal → Option AVal} : ∀ {es fs : List (Int × AVal)}, (es.map fun p => (f p.2).map fun v => (p.1, v)) = fs.map some → (vsOf es).mapM f = some (vsOf fs) ∧ ksOf es = ksOf fs
  | [], [], _ => ⟨rfl, rfl⟩
  | [], _ :: _, h => by simp at h
  | _ :: _, [], h => by simp at h
  | p :: es, q :: fs, h => by
    simp only [List.map_cons, List.cons.injEq] at h
    obtain ⟨h1, h2⟩ := mapM_vs h.2
    obtain ⟨v, hv, e⟩ := map_some' h.1
    subst e
    simp only [vsOf, ksOf, List.map_cons, List.mapM_cons] at h1 h2 ⊢
    exact ⟨by rw [hv, h1]; rfl, by rw [h2]⟩

/-- The map's value, whichever order. -/
theorem rep_tab {fm : Nat → Nat} {g : Gh} {n : Nat} {fs : List (Int × AVal)} {v : Value} (hp : fs.Perm tab) (h : Rep fm g n (.imap (ksOf fs) (vsOf fs)) v) : Rep fm g n (.imap (ksOf tab) (vsOf tab)) v := by
  have hu := tabUnder
  rw [Bool.and_eq_true] at hu
  have hfind : ∀ kt k, Abs.find kt k (ksOf tab) (vsOf tab) = Abs.find kt k (ksOf fs) (vsOf fs) := fun kt k => find_perm hp.symm tabKeys kt k
  have hk : underL 0 (ksOf fs) = true := underL_all.2 (fun a ha => underL_all.1 hu.1 a ((hp.map _).mem_iff.1 ha))
  have hv : underL 0 (vsOf fs) = true := underL_all.2 (fun a ha => underL_all.1 hu.2 a ((hp.map _).mem_iff.1 ha))
  cases h with
  | imap _ _ b cks cvs hb h1 h2 =>
    exact .imapU _ _ _ _ b cks cvs hb h1 h2 hfind (fun m => ⟨underL_mono (Nat.zero_le m) hu.1, underL_mono (Nat.zero_le m) hu.2, underL_mono (Nat.zero_le m) hk, underL_mono (Nat.zero_le m) hv⟩)
  | imapU _ _ ks0 vs0 b cks cvs hb h1 h2 hf hq =>
    exact .imapU _ _ _ _ b cks cvs hb h1 h2 (fun kt k => (hfind kt k).trans (hf kt k)) (fun m => ⟨underL_mono (Nat.zero_le m) hu.1, underL_mono (Nat.zero_le m) hu.2, (hq m).2.2.1, (hq m).2.2.2⟩)

theorem shapes_sound {P : Program} {fm : Nat → Nat} (hC : Sound P fm C0) {f : Nat} {fn : Func} (hfn : P.funcs[f]? = some fn) (hok : shapesOk P fm fn = true) :
    Enters P f ∧ ∀ (g : Gh) (w : World) (vs : Array Value) (m : Nat), Sim fm ⟨0, []⟩ g w → RepL fm g 0 [] vs.toList → CallsIn (FW none) m P f vs w (CallPost fm g w ⟨0, []⟩ ⟨0, []⟩ (.imap (ksOf tab) (vsOf tab))) := by
  unfold shapesOk at hok
  split at hok
  · rename_i c0 c1 c2 c3 rid ops hbody
    simp only [Bool.and_eq_true, beq_iff_eq, Bool.not_eq_true'] at hok
    obtain ⟨⟨⟨⟨⟨⟨⟨⟨⟨k0, k1⟩, k2⟩, k3⟩, k4⟩, k5⟩, k6⟩, k7⟩, k8⟩, k9⟩ := hok
    refine ⟨⟨Nat.lt_of_lt_of_le (Array.getElem?_eq_some_iff.1 hfn).1 hC.few, fn, hfn, by simp [hbody], by simpa using k9⟩, ?_⟩
    intro g w vs m hS hR
    obtain ⟨hcall, hloop⟩ := upto_sound hC 12
    have hmx := hC.mixed
    have hF := params_frame (nt := fn.ntmps) (s := ⟨0, []⟩) (args := []) hR (Nat.zero_le _)
    refine callsIn_of_wp hfn hbody trivial ?_ rfl
    refine wpIn_seq (exec_sound hmx hcall (hloop fn.ntmps) _ c0 [] ⟨0, []⟩ g w _ .normal [] ⟨0, []⟩ _ k0 hS hF sh1 (fun a1 w1 g1 p1 => ?_))
    refine wpIn_seq (exec_sound hmx hcall (hloop fn.ntmps) _ c1 [] ⟨0, []⟩ g1 w1 a1 .normal shA1 ⟨1, shO1⟩ _ k1 p1.sim p1.frame sh2 (fun a2 w2 g2 p2 => ?_))
    refine wpIn_seq (exec_sound hmx hcall (hloop fn.ntmps) _ c2 shA1 ⟨1, shO1⟩ g2 w2 a2 .normal shA2 ⟨1, shO1⟩ _ k2 p2.sim p2.frame sh3 (fun a3 w3 g3 p3 => ?_))
    refine wpIn_seq (exec_sound hmx hcall (hloop fn.ntmps) _ c3 shA2 ⟨1, shO1⟩ g3 w3 a3 .normal shA3 ⟨2, shO⟩ _ k3 p3.sim p3.frame sh4 (fun a4 w4 g4 p4 => ?_))
    refine wpIn_seq (opens_sound hcall hmx k4 (shOpens k6 k7) (fun k o ho e he hb => ?_) p4.sim p4.frame (fun es B a5 w5 g5 hperm hB p5 => ?_))
    · have h := List.all_eq_true.1 k5 (o, k) (by rw [List.mem_iff_getElem?]; exact ⟨k, by rw [List.getElem?_zipIdx]; simp [ho]⟩)
      rw [List.all_eq_true] at h
      have h2 := h e (by simpa using he)
      simpa [hb] using h2
    · have hp := ((((p1.trans p2).trans p3).trans p4).trans p5)
      refine wpIn_ret ?_
      have hv0 : Abs.results B ⟨3, .map (ksOf es) (vsOf es) :: shO⟩ [.slot 0] = some (.map 2) := by
        simp only [Abs.results, result, hB]
        rfl
      obtain ⟨cv, g6, q1, q2, q3, q4, q5⟩ := results_sound hp.sim hp.frame k8 hv0
      have hfzv := congrFun (congrFun shFz (ksOf es)) (vsOf es)
      have hpm : (es.map fun p => (fz 0 ⟨3, .map (ksOf es) (vsOf es) :: shO⟩ 63 p.2).map fun v => (p.1, v)).Perm (tab.map some) := by
        rw [← hfzv]
        exact hperm.map _
      obtain ⟨fs, hfs, hfp⟩ : ∃ fs : List (Int × AVal), (es.map fun p => (fz 0 ⟨3, .map (ksOf es) (vsOf es) :: shO⟩ 63 p.2).map fun v => (p.1, v)) = fs.map some ∧ fs.Perm tab := by
        have hall : ∀ x ∈ (es.map fun p => (fz 0 ⟨3, .map (ksOf es) (vsOf es) :: shO⟩ 63 p.2).map fun v => (p.1, v)), ∃ y, x = some y := fun x hx => by
          obtain ⟨y, _, rfl⟩ := List.mem_map.1 (hpm.mem_iff.1 hx)
          exact ⟨y, rfl⟩
        generalize (es.map fun p => (fz 0 ⟨3, .map (ksOf es) (vsOf es) :: shO⟩ 63 p.2).map fun v => (p.1, v)) = L at hpm hall
        refine ⟨L.filterMap id, ?_, ?_⟩
        · clear hpm
          induction L with
          | nil => rfl
          | cons x L ih =>
            obtain ⟨y, rfl⟩ := hall x (by simp)
            have := ih (fun z hz => hall z (by simp [hz]))
            simp only [List.filterMap_cons, id, List.map_cons]
            rw [← this]
        · have := hpm.filterMap id
          rw [List.filterMap_map] at this
          simpa [Function.comp_def] using this
      obtain ⟨hmv, hmk⟩ := mapM_vs hfs
      have hv1 : fz 0 ⟨3, .map (ksOf es) (vsOf es) :: shO⟩ depth (.map 2) = some (.imap (ksOf fs) (vsOf fs)) := by
        have hks : (ksOf es).mapM (fz 0 ⟨3, .map (ksOf es) (vsOf es) :: shO⟩ 63) = some (ksOf es) := mapM_ks (f := fz 0 ⟨3, .map (ksOf es) (vsOf es) :: shO⟩ 63) (fun n => rfl) es
        show (do some (AVal.imap (← (ksOf es).mapM (fz 0 ⟨3, .map (ksOf es) (vsOf es) :: shO⟩ 63)) (← (vsOf es).mapM (fz 0 ⟨3, .map (ksOf es) (vsOf es) :: shO⟩ 63)))) = _
        rw [hks, hmv, hmk]
        rfl
      have hslot := fz_slot q2 (Nat.zero_le _) (by simp) q5 hv1
      refine ⟨hp.defers, cv, q1, cv, g6.frozen 0 w5, rfl, q2.frozen (Nat.zero_le _), ((hp.le.trans (q3.less hp.n)).trans (frozen_le q2 _)), Nat.le_refl _, (hp.kept.trans q4).trans (frozen_kept _), ?_⟩
      exact Rep.slot (rep_tab hfp hslot)
  · cases hok

end Go.Proofs.YtdhgdpokdhjanaaGreat.Abs
