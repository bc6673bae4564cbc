/- The law LimitCovers returns true whatever comes in, and leaves its arguments as they were. No condition. -/
import Derived.Test.YthabnmnhmioheaaKLc1
import Derived.OpenShut
import Derived.Carry
import Derived.Deep.Slices
import Derived.DataElems
namespace Go.Proofs.Ythabnmnhmioheaa.C
open Go.RowKit Go.Proofs.YthabnmnhmioheaaW.PrintWords Go.Proofs.YthabnmnhmioheaaW.PrintLast Go.Proofs.YthabnmnhmioheaaW.PrintMore
abbrev QB16_0 : Array Bool := #[false, false, false, false, false, false, false, false, false, false, false, false, false, false, false, false, false, false, false, false, false, false, false, false, false, false, false, false, false, false, false, false, false, false, false, false]
abbrev QB16_1 : Array Bool := #[true, false, false, false, false, false, false, false, false, false, false, false, false, false, false, false, false, false, false, false, false, false, false, false, false, false, false, false, false, false, false, false, false, false, false, false]
abbrev QB16_2 : Array Bool := #[true, false, true, false, false, false, false, false, false, false, false, false, false, false, false, false, false, false, false, false, false, false, false, false, false, false, false, false, false, false, false, false, false, false, false, false]
abbrev QB16_3 : Array Bool := #[true, true, true, false, false, false, false, false, false, false, false, false, false, false, false, false, false, false, false, false, false, false, false, false, false, false, false, false, false, false, false, false, false, false, false, false]
abbrev QB16_4 : Array Bool := #[true, true, true, true, false, false, false, false, false, false, false, false, false, false, false, false, false, false, false, false, false, false, false, false, false, false, false, false, false, false, false, false, false, false, false, false]
abbrev QB16_5 : Array Bool := #[true, true, true, true, true, false, false, false, false, false, false, false, false, false, false, false, false, false, false, false, false, false, false, false, false, false, false, false, false, false, false, false, false, false, false, false]
abbrev QB16_6 : Array Bool := #[true, true, true, true, true, true, false, false, false, false, false, false, false, false, false, false, false, false, false, false, false, false, false, false, false, false, false, false, false, false, false, false, false, false, false, false]
abbrev QB16_7 : Array Bool := #[true, true, true, true, true, true, true, false, false, false, false, false, false, false, false, false, false, false, false, false, false, false, false, false, false, false, false, false, false, false, false, false, false, false, false, false]
abbrev QB16_8 : Array Bool := #[true, true, true, true, true, true, true, true, true, false, false, false, false, false, false, false, false, false, false, false, false, false, false, false, false, false, false, false, false, false, false, false, false, false, false, false]
abbrev QB16_9 : Array Bool := #[true, true, true, true, true, true, true, true, true, true, false, false, false, false, false, false, false, false, false, false, false, false, false, false, false, false, false, false, false, false, false, false, false, false, false, false]
abbrev QB16_10 : Array Bool := #[true, true, true, true, true, true, true, true, true, true, true, false, false, false, false, false, false, false, false, false, false, false, false, false, false, false, false, false, false, false, false, false, false, false, false, false]
abbrev QB16_11 : Array Bool := #[true, true, true, true, true, true, true, true, true, true, true, true, false, false, false, false, false, false, false, false, false, false, false, false, false, false, false, false, false, false, false, false, false, false, false, false]
abbrev QB16_12 : Array Bool := #[true, true, true, true, true, true, true, true, true, true, true, true, true, false, false, false, false, false, false, false, false, false, false, false, false, false, false, false, false, false, false, false, false, false, false, false]
abbrev QB16_13 : Array Bool := #[true, true, true, true, true, true, true, true, true, true, true, true, true, true, false, false, false, false, false, false, false, false, false, false, false, false, false, false, false, false, false, false, false, false, false, false]
abbrev QB16_14 : Array Bool := #[true, true, true, true, true, true, true, true, true, true, true, true, true, true, true, true, false, false, false, false, false, false, false, false, false, false, false, false, false, false, false, false, false, false, false, false]
abbrev QB16_15 : Array Bool := #[true, true, true, true, true, true, true, true, true, true, true, true, true, true, true, true, true, false, false, false, false, false, false, false, false, false, false, false, false, false, false, false, false, false, false, false]
abbrev QB16_16 : Array Bool := #[true, true, true, true, true, true, true, true, true, true, true, true, true, true, true, true, true, true, false, false, false, false, false, false, false, false, false, false, false, false, false, false, false, false, false, false]
abbrev QB16_17 : Array Bool := #[true, true, true, true, true, true, true, true, true, true, true, true, true, true, true, true, true, true, true, false, false, false, false, false, false, false, false, false, false, false, false, false, false, false, false, false]
abbrev QB16_18 : Array Bool := #[true, true, true, true, true, true, true, true, true, true, true, true, true, true, true, true, true, true, true, true, false, false, false, false, false, false, false, false, false, false, false, false, false, false, false, false]
abbrev QB16_19 : Array Bool := #[true, true, true, true, true, true, true, true, true, true, true, true, true, true, true, true, true, true, true, true, true, true, false, false, false, false, false, false, false, false, false, false, false, false, false, false]
abbrev QB16_20 : Array Bool := #[true, true, true, true, true, true, true, true, true, true, true, true, true, true, true, true, true, true, true, true, true, true, true, false, false, false, false, false, false, false, false, false, false, false, false, false]
abbrev QB16_21 : Array Bool := #[true, true, true, true, true, true, true, true, true, true, true, true, true, true, true, true, true, true, true, true, true, true, true, true, false, false, false, false, false, false, false, false, false, false, false, false]
abbrev QB16_22 : Array Bool := #[true, true, true, true, true, true, true, true, true, true, true, true, true, true, true, true, true, true, true, true, true, true, true, true, true, false, false, false, false, false, false, false, false, false, false, false]
abbrev QB16_23 : Array Bool := #[true, true, true, true, true, true, true, true, true, true, true, true, true, true, true, true, true, true, true, true, true, true, true, true, true, true, false, false, false, false, false, false, false, false, false, false]
abbrev QB16_24 : Array Bool := #[true, true, true, true, true, true, true, true, true, true, true, true, true, true, true, true, true, true, true, true, true, true, true, true, true, true, true, false, false, false, false, false, false, false, false, false]
abbrev QB16_25 : Array Bool := #[true, true, true, true, true, true, true, true, true, true, true, true, true, true, true, true, true, true, true, true, true, true, true, true, true, true, true, true, false, false, false, false, false, false, false, false]
abbrev QB16_26 : Array Bool := #[true, true, true, true, true, true, true, true, true, true, true, true, true, true, true, true, true, true, true, true, true, true, true, true, true, true, true, true, true, false, false, false, false, false, false, false]
abbrev QB16_27 : Array Bool := #[true, true, true, true, true, true, true, true, true, true, true, true, true, true, true, true, true, true, true, true, true, true, true, true, true, true, true, true, true, true, true, true, true, false, false, false]
abbrev QB16_28 : Array Bool := #[true, true, true, true, true, true, true, true, true, true, true, true, true, true, true, true, true, true, true, true, true, true, true, true, true, true, true, true, true, true, true, true, true, true, false, false]
abbrev QB16_29 : Array Bool := #[true, true, true, true, true, true, true, true, true, true, true, true, true, true, true, true, true, true, true, true, true, true, true, true, true, true, true, true, true, true, true, true, true, true, true, false]
abbrev QB16_30 : Array Bool := #[true, true, true, true, true, true, true, true, true, true, true, true, true, true, true, true, true, true, true, true, true, true, true, true, true, true, true, true, true, true, true, true, true, true, true, true]
abbrev QB16_31 : Array Bool := #[true, true, true, true, true, true, true, true, true, true, true, true, true, true, false, true, false, false, false, false, false, false, false, false, false, false, false, false, false, false, false, false, false, false, false, false]
abbrev QB16_32 : Array Bool := #[false, false, false, false, false, false, false, false, false, false, false, false, false, false, false, false, false, false, false, false, false, false, false, false, false, false]
abbrev QB16_33 : Array Bool := #[true, false, false, false, false, false, false, false, false, false, false, false, false, false, false, false, false, false, false, false, false, false, false, false, false, false]
abbrev QB16_34 : Array Bool := #[true, true, false, false, false, false, false, false, false, false, false, false, false, false, false, false, false, false, false, false, false, false, false, false, false, false]
abbrev QB16_35 : Array Bool := #[true, true, false, true, false, false, false, false, false, false, false, false, false, false, false, false, false, false, false, false, false, false, false, false, false, false]
abbrev QB16_36 : Array Bool := #[true, true, false, true, true, false, false, false, false, false, false, false, false, false, false, false, false, false, false, false, false, false, false, false, false, false]
abbrev QB16_37 : Array Bool := #[true, true, true, true, true, false, false, false, false, false, false, false, false, false, false, false, false, false, false, false, false, false, false, false, false, false]
abbrev QB16_38 : Array Bool := #[true, true, true, true, true, true, false, false, false, false, false, false, false, false, false, false, false, false, false, false, false, false, false, false, false, false]
abbrev QB16_39 : Array Bool := #[true, true, true, true, true, true, true, false, false, false, false, false, false, false, false, false, false, false, false, false, false, false, false, false, false, false]
abbrev QB16_40 : Array Bool := #[true, true, true, true, true, true, true, true, false, false, false, false, false, false, false, false, false, false, false, false, false, false, false, false, false, false]
abbrev QB16_41 : Array Bool := #[true, true, true, true, true, true, true, true, true, false, false, false, false, false, false, false, false, false, false, false, false, false, false, false, false, false]
abbrev QB16_42 : Array Bool := #[true, true, true, true, true, true, true, true, true, true, false, false, false, false, false, false, false, false, false, false, false, false, false, false, false, false]
abbrev QB16_43 : Array Bool := #[true, true, true, true, true, true, true, true, true, true, true, false, false, false, false, false, false, false, false, false, false, false, false, false, false, false]
abbrev QB16_44 : Array Bool := #[true, true, true, true, true, true, true, true, true, true, true, true, false, false, false, false, false, false, false, false, false, false, false, false, false, false]
abbrev QB16_45 : Array Bool := #[true, true, true, true, true, true, true, true, true, true, true, true, true, false, false, false, false, false, false, false, false, false, false, false, false, false]
abbrev QB16_46 : Array Bool := #[true, true, true, true, true, true, true, true, true, true, true, true, true, true, false, false, false, false, false, false, false, false, false, false, false, false]
abbrev QB16_47 : Array Bool := #[true, true, true, true, true, true, true, true, true, true, true, true, true, true, true, false, false, false, false, false, false, false, false, false, false, false]
abbrev QB16_48 : Array Bool := #[true, true, true, true, true, true, true, true, true, true, true, true, true, true, true, true, false, false, false, false, false, false, false, false, false, false]
abbrev QB16_49 : Array Bool := #[true, true, true, true, true, true, true, true, true, true, true, true, true, true, true, true, true, false, false, false, false, false, false, false, false, false]
abbrev QB16_50 : Array Bool := #[true, true, true, true, true, true, true, true, true, true, true, true, true, true, true, true, true, true, false, false, false, false, false, false, false, false]
abbrev QB16_51 : Array Bool := #[true, true, true, true, true, true, true, true, true, true, true, true, true, true, true, true, true, true, true, false, false, false, false, false, false, false]
abbrev QB16_52 : Array Bool := #[true, true, true, true, true, true, true, true, true, true, true, true, true, true, true, true, true, true, true, true, false, false, false, false, false, false]
abbrev QB16_53 : Array Bool := #[true, true, true, true, true, true, true, true, true, true, true, true, true, true, true, true, true, true, true, true, true, false, false, false, false, false]
abbrev QB16_54 : Array Bool := #[true, true, true, true, true, true, true, true, true, true, true, true, true, true, true, true, true, true, true, true, true, true, false, false, false, false]
abbrev QB16_55 : Array Bool := #[true, true, true, true, true, true, true, true, true, true, true, true, true, true, true, true, true, true, true, true, true, true, true, false, false, false]
abbrev QB16_56 : Array Bool := #[true, true, true, true, true, true, true, true, true, true, true, true, true, true, true, true, true, true, true, true, true, true, true, true, false, false]
abbrev QB16_57 : Array Bool := #[true, true, true, true, true, true, true, true, true, true, true, true, true, true, true, true, true, true, true, true, true, true, true, true, true, false]
abbrev QB16_58 : Array Bool := #[true, true, true, true, true, true, true, true, true, true, true, true, true, true, true, true, true, true, true, true, true, true, true, true, true, true]
abbrev QB16_59 : Array Bool := #[true, true, true, true, true, true, true, true, true, true, true, true, true, true, true, true, true, true, true, true, true, true, true, true, true, true, true, true, true, false, true, false, false, false, false, false]
abbrev QB16_60 : Array Bool := #[true, true, true, true, true, true, true, true, true, true, true, true, true, true, true, true, true, true, true, true, true, true, true, true, true, true, true, true, true, false, true, true, false, false, false, false]
abbrev QB16_61 : Array Bool := #[true, true, true, true, true, true, true, true, true, true, true, true, true, true, true, true, true, true, true, true, true, true, true, true, true, true, true, true, true, false, true, true, true, false, false, false]
abbrev QB16_62 : Array Bool := #[true, true, true, true, true, true, true, true, true, true, true, true, true, true, true, true, true, true, true, true, false, true, false, false, false, false, false, false, false, false, false, false, false, false, false, false]
abbrev QB16_63 : Array Bool := #[true, true, true, true, true, true, true, false, true, false, false, false, false, false, false, false, false, false, false, false, false, false, false, false, false, false, false, false, false, false, false, false, false, false, false, false]
abbrev QB16_64 : Array Bool := #[true, true, true, true, true, true, true, true, false, false, false, false, false, false, false, false, false, false, false, false, false, false, false, false, false, false, false, false, false, false, false, false, false, false, false, false]
abbrev QB16_65 : Array Bool := #[true, true, true, true, true, true, true, true, true, true, true, true, true, true, true, true, true, true, true, true, true, false, false, false, false, false, false, false, false, false, false, false, false, false, false, false]
abbrev QB16_66 : Array Bool := #[true, true, true, true, true, true, true, true, true, true, true, true, true, true, true, true, true, true, true, true, true, true, true, true, true, true, true, true, true, true, false, false, false, false, false, false]
abbrev QB16_67 : Array Bool := #[true, true, true, true, true, true, true, true, true, true, true, true, true, true, true, true, true, true, true, true, true, true, true, true, true, true, true, true, true, true, true, false, false, false, false, false]
abbrev QB16_68 : Array Bool := #[true, true, true, true, true, true, true, true, true, true, true, true, true, true, true, true, true, true, true, true, true, true, true, true, true, true, true, true, true, true, true, true, false, false, false, false]
attribute [local go_sem] max2_int min2_int max_two min_two max_three min_three max_four min_four tdiv_most
set_option linter.unusedVariables false
set_option linter.unusedSimpArgs false
attribute [local go_sem high] eqA29
def Qy.f (k : Nat) (a0_0 : Int) (a0_1 : Int) (a1_0 : Int) (a1_1 : Int) : Option (Bool) := (Qb1.f k).bind fun t161 => (if t161 = true then ((Qz.f a0_0 a0_1 a1_0 a1_1).bind fun bt162 => ((Qt.f a0_0 a0_1 a1_0 a1_1).bind fun t165 => ((Qa1.f a0_0 a0_1 a1_0 a1_1).bind fun t166 => (if (t165 != t166) = true then (some false) else ((Qa1.f a0_0 a0_1 bt162.1 bt162.2).bind fun t167 => (if t167 = true then ((Qa1.f a1_0 a1_1 bt162.1 bt162.2).bind fun t168 => (if t168 = true then ((Qz.f a1_0 a1_1 a0_0 a0_1).bind fun bt169 => (if (!(bt162.1 == bt169.1) || (!(bt162.2 == bt169.2))) = true then (some false) else (if bt162.1 = a0_0 then (if bt162.2 = a0_1 then ((Qt.f a0_0 a0_1 a1_0 a1_1).bind fun t171 => (some (t171 == (bt162.1 == a1_0 && (bt162.2 == a1_1))))) else (if bt162.2 = a1_1 then ((Qt.f a0_0 a0_1 a1_0 a1_1).bind fun t172 => (some (t172 == (bt162.1 == a1_0 && (bt162.2 == a1_1))))) else (some false))) else (if bt162.1 = a1_0 then (if bt162.2 = a0_1 then ((Qt.f a0_0 a0_1 a1_0 a1_1).bind fun t173 => (some (t173 == (bt162.1 == a1_0 && (bt162.2 == a1_1))))) else (if bt162.2 = a1_1 then ((Qt.f a0_0 a0_1 a1_0 a1_1).bind fun t174 => (some (t174 == (bt162.1 == a1_0 && (bt162.2 == a1_1))))) else (some false))) else (some false))))) else (some false))) else (some false))))))) else (some false))
theorem Qy.mono : ∀ a0 a1 a2 a3 k, LeO (Qy.f k a0 a1 a2 a3) (Qy.f (k + 1) a0 a1 a2 a3) := by
 intro a0 a1 a2 a3 k
 unfold Qy.f
 repeat' first
  | (with_reducible exact Qb1.mono _)
  | (with_reducible exact LeO.refl _)
  | (with_reducible exact LeO.none _)
  | (with_reducible refine LeO.ite ?_ ?_)
  | (with_reducible refine LeO.bind ?_ (fun _ => ?_))
  | exact Qb1.mono _
  | exact LeO.none _
  | refine LeO.ite ?_ ?_
  | refine LeO.bind ?_ (fun _ => ?_)
def Qy.T4 : Bool × List (List Nat × List Nat) := (true, [([], []), ([], []), ([0, 1], [0, 1]), ([], []), ([], []), ([3, 4, 2], [3, 4]), ([2, 5], [2, 5]), ([6, 5], [6]), ([7], [7]), ([7], [7]), ([8, 9, 7, 7], [7, 8, 9]), ([10, 7], [7, 10]), ([7, 11], [7, 11]), ([12, 10], [12]), ([13], [13]), ([13], [13]), ([14, 15, 13, 13], [13, 14, 15]), ([16, 13], [13, 16]), ([13, 17], [13, 17]), ([18, 16], [18]), ([19], [19]), ([19], [19]), ([19], [19]), ([21, 22, 19, 19], [19, 21, 22]), ([20, 23, 19], [19, 20, 23]), ([19, 24], [19, 24])])
def Qy.B4 : List Nat := [0, 0, 3, 0, 0, 31, 63, 127, 255, 255, 1023, 2047, 4095, 8191, 16383, 16383, 65535, 131071, 262143, 524287, 1048575, 1048575, 1048575, 7340031, 16777215, 33554431]
theorem Qy.tab4 : rtab .any (opsOf Try.f4 4) = Qy.T4 := by kernel_rfl
theorem Qy.bits4 : waitsOk Qy.T4.2 Qy.B4 = true := by kernel_rfl
def Qy.T6 : Bool × List (List Nat × List Nat) := (true, [([], []), ([0], [0]), ([], []), ([2], [2]), ([1, 3], [1, 3]), ([4], [4]), ([5], [5]), ([6, 5], [5, 6]), ([5], [5]), ([8, 5], [5, 8]), ([7, 9, 5], [5, 7, 9]), ([5, 10], [5, 10]), ([11, 5], [11]), ([12], [12]), ([13, 12], [12, 13]), ([12], [12]), ([15, 12], [12, 15]), ([14, 16, 12], [12, 14, 16]), ([17, 12, 12], [12, 17]), ([18], [18]), ([19, 18], [18, 19]), ([18], [18]), ([21, 18], [18, 21]), ([20, 22, 18], [18, 20, 22]), ([18, 23, 12], [12, 18, 23]), ([12, 24], [12, 24]), ([25, 18], [25]), ([26], [26]), ([26], [26]), ([27, 28, 26, 26], [26, 27, 28]), ([26], [26]), ([26], [26]), ([30, 31, 26], [26, 30, 31]), ([29, 32, 26], [26, 29, 32]), ([26, 33], [26, 33]), ([34, 29, 0, 1, 2, 3, 4, 5, 6, 7, 8, 9, 10, 11, 12, 13, 14, 15, 16, 17, 18, 19, 20, 21, 22, 23, 24, 25, 26, 27, 28, 29, 30, 31, 32, 33, 34], [34])])
def Qy.B6 : List Nat := [0, 1, 0, 4, 15, 31, 63, 127, 63, 319, 1023, 2047, 4095, 8191, 16383, 8191, 40959, 131071, 262143, 524287, 1048575, 524287, 2621439, 8388607, 16777215, 33554431, 67108863, 134217727, 134217727, 536870911, 134217727, 134217727, 3355443199, 8589934591, 17179869183, 34359738367]
theorem Qy.tab6 : rtab .any (opsOf Try.f4 6) = Qy.T6 := by kernel_rfl
theorem Qy.bits6 : waitsOk Qy.T6.2 Qy.B6 = true := by kernel_rfl
set_option maxHeartbeats 8000000 in
set_option maxRecDepth 100000 in
theorem Qy.calls (k : Nat) (a0_0 : Int) (a0_1 : Int) (a1_0 : Int) (a1_1 : Int) (r : Bool) (w : World) (h : Qy.f k a0_0 a0_1 a1_0 a1_1 = some r) :
 Calls Try.prog 4 #[.agg #[.int .i64 a0_0, .int .i64 a0_1], .agg #[.int .i64 a1_0, .int .i64 a1_1]] w fun e w' => e = .returned (.bool r) ∧ Below w.heap.size w w' := by
 have hu29 := Try.underlying29
 have HB := Qa.mk (Below.refl w.heap.size w)
 have H : ((Qb1.f k).bind fun t161 => (if t161 = true then ((Qz.f a0_0 a0_1 a1_0 a1_1).bind fun bt162 => ((Qt.f a0_0 a0_1 a1_0 a1_1).bind fun t165 => ((Qa1.f a0_0 a0_1 a1_0 a1_1).bind fun t166 => (if (t165 != t166) = true then (some false) else ((Qa1.f a0_0 a0_1 bt162.1 bt162.2).bind fun t167 => (if t167 = true then ((Qa1.f a1_0 a1_1 bt162.1 bt162.2).bind fun t168 => (if t168 = true then ((Qz.f a1_0 a1_1 a0_0 a0_1).bind fun bt169 => (if (!(bt162.1 == bt169.1) || (!(bt162.2 == bt169.2))) = true then (some false) else (if bt162.1 = a0_0 then (if bt162.2 = a0_1 then ((Qt.f a0_0 a0_1 a1_0 a1_1).bind fun t171 => (some (t171 == (bt162.1 == a1_0 && (bt162.2 == a1_1))))) else (if bt162.2 = a1_1 then ((Qt.f a0_0 a0_1 a1_0 a1_1).bind fun t172 => (some (t172 == (bt162.1 == a1_0 && (bt162.2 == a1_1))))) else (some false))) else (if bt162.1 = a1_0 then (if bt162.2 = a0_1 then ((Qt.f a0_0 a0_1 a1_0 a1_1).bind fun t173 => (some (t173 == (bt162.1 == a1_0 && (bt162.2 == a1_1))))) else (if bt162.2 = a1_1 then ((Qt.f a0_0 a0_1 a1_0 a1_1).bind fun t174 => (some (t174 == (bt162.1 == a1_0 && (bt162.2 == a1_1))))) else (some false))) else (some false))))) else (some false))) else (some false))))))) else (some false))) = some r := h
 clear h
 replace H := Option.bind_eq_some_iff.mp H
 obtain ⟨t161, A30, H⟩ := H
 replace H : (if t161 = true then ((Qz.f a0_0 a0_1 a1_0 a1_1).bind fun bt162 => ((Qt.f a0_0 a0_1 a1_0 a1_1).bind fun t165 => ((Qa1.f a0_0 a0_1 a1_0 a1_1).bind fun t166 => (if (t165 != t166) = true then (some false) else ((Qa1.f a0_0 a0_1 bt162.1 bt162.2).bind fun t167 => (if t167 = true then ((Qa1.f a1_0 a1_1 bt162.1 bt162.2).bind fun t168 => (if t168 = true then ((Qz.f a1_0 a1_1 a0_0 a0_1).bind fun bt169 => (if (!(bt162.1 == bt169.1) || (!(bt162.2 == bt169.2))) = true then (some false) else (if bt162.1 = a0_0 then (if bt162.2 = a0_1 then ((Qt.f a0_0 a0_1 a1_0 a1_1).bind fun t171 => (some (t171 == (bt162.1 == a1_0 && (bt162.2 == a1_1))))) else (if bt162.2 = a1_1 then ((Qt.f a0_0 a0_1 a1_0 a1_1).bind fun t172 => (some (t172 == (bt162.1 == a1_0 && (bt162.2 == a1_1))))) else (some false))) else (if bt162.1 = a1_0 then (if bt162.2 = a0_1 then ((Qt.f a0_0 a0_1 a1_0 a1_1).bind fun t173 => (some (t173 == (bt162.1 == a1_0 && (bt162.2 == a1_1))))) else (if bt162.2 = a1_1 then ((Qt.f a0_0 a0_1 a1_0 a1_1).bind fun t174 => (some (t174 == (bt162.1 == a1_0 && (bt162.2 == a1_1))))) else (some false))) else (some false))))) else (some false))) else (some false))))))) else (some false)) = some r := H
 have A3 := Qa.mk A30
 clear A30
 by_cases c4 : t161 = true
 ·
  subst c4
  have H1 : ((Qz.f a0_0 a0_1 a1_0 a1_1).bind fun bt162 => ((Qt.f a0_0 a0_1 a1_0 a1_1).bind fun t165 => ((Qa1.f a0_0 a0_1 a1_0 a1_1).bind fun t166 => (if (t165 != t166) = true then (some false) else ((Qa1.f a0_0 a0_1 bt162.1 bt162.2).bind fun t167 => (if t167 = true then ((Qa1.f a1_0 a1_1 bt162.1 bt162.2).bind fun t168 => (if t168 = true then ((Qz.f a1_0 a1_1 a0_0 a0_1).bind fun bt169 => (if (!(bt162.1 == bt169.1) || (!(bt162.2 == bt169.2))) = true then (some false) else (if bt162.1 = a0_0 then (if bt162.2 = a0_1 then ((Qt.f a0_0 a0_1 a1_0 a1_1).bind fun t171 => (some (t171 == (bt162.1 == a1_0 && (bt162.2 == a1_1))))) else (if bt162.2 = a1_1 then ((Qt.f a0_0 a0_1 a1_0 a1_1).bind fun t172 => (some (t172 == (bt162.1 == a1_0 && (bt162.2 == a1_1))))) else (some false))) else (if bt162.1 = a1_0 then (if bt162.2 = a0_1 then ((Qt.f a0_0 a0_1 a1_0 a1_1).bind fun t173 => (some (t173 == (bt162.1 == a1_0 && (bt162.2 == a1_1))))) else (if bt162.2 = a1_1 then ((Qt.f a0_0 a0_1 a1_0 a1_1).bind fun t174 => (some (t174 == (bt162.1 == a1_0 && (bt162.2 == a1_1))))) else (some false))) else (some false))))) else (some false))) else (some false))))))) = some r := by rw [if_pos rfl] at H; exact H
  clear H
  have H := H1
  clear H1
  replace H := Option.bind_eq_some_iff.mp H
  obtain ⟨⟨t162, t163⟩, A50, H⟩ := H
  replace H : ((Qt.f a0_0 a0_1 a1_0 a1_1).bind fun t165 => ((Qa1.f a0_0 a0_1 a1_0 a1_1).bind fun t166 => (if (t165 != t166) = true then (some false) else ((Qa1.f a0_0 a0_1 t162 t163).bind fun t167 => (if t167 = true then ((Qa1.f a1_0 a1_1 t162 t163).bind fun t168 => (if t168 = true then ((Qz.f a1_0 a1_1 a0_0 a0_1).bind fun bt169 => (if (!(t162 == bt169.1) || (!(t163 == bt169.2))) = true then (some false) else (if t162 = a0_0 then (if t163 = a0_1 then ((Qt.f a0_0 a0_1 a1_0 a1_1).bind fun t171 => (some (t171 == (t162 == a1_0 && (t163 == a1_1))))) else (if t163 = a1_1 then ((Qt.f a0_0 a0_1 a1_0 a1_1).bind fun t172 => (some (t172 == (t162 == a1_0 && (t163 == a1_1))))) else (some false))) else (if t162 = a1_0 then (if t163 = a0_1 then ((Qt.f a0_0 a0_1 a1_0 a1_1).bind fun t173 => (some (t173 == (t162 == a1_0 && (t163 == a1_1))))) else (if t163 = a1_1 then ((Qt.f a0_0 a0_1 a1_0 a1_1).bind fun t174 => (some (t174 == (t162 == a1_0 && (t163 == a1_1))))) else (some false))) else (some false))))) else (some false))) else (some false)))))) = some r := H
  have A5 := Qa.mk A50
  clear A50
  replace H := Option.bind_eq_some_iff.mp H
  obtain ⟨t165, A60, H⟩ := H
  replace H : ((Qa1.f a0_0 a0_1 a1_0 a1_1).bind fun t166 => (if (t165 != t166) = true then (some false) else ((Qa1.f a0_0 a0_1 t162 t163).bind fun t167 => (if t167 = true then ((Qa1.f a1_0 a1_1 t162 t163).bind fun t168 => (if t168 = true then ((Qz.f a1_0 a1_1 a0_0 a0_1).bind fun bt169 => (if (!(t162 == bt169.1) || (!(t163 == bt169.2))) = true then (some false) else (if t162 = a0_0 then (if t163 = a0_1 then ((Qt.f a0_0 a0_1 a1_0 a1_1).bind fun t171 => (some (t171 == (t162 == a1_0 && (t163 == a1_1))))) else (if t163 = a1_1 then ((Qt.f a0_0 a0_1 a1_0 a1_1).bind fun t172 => (some (t172 == (t162 == a1_0 && (t163 == a1_1))))) else (some false))) else (if t162 = a1_0 then (if t163 = a0_1 then ((Qt.f a0_0 a0_1 a1_0 a1_1).bind fun t173 => (some (t173 == (t162 == a1_0 && (t163 == a1_1))))) else (if t163 = a1_1 then ((Qt.f a0_0 a0_1 a1_0 a1_1).bind fun t174 => (some (t174 == (t162 == a1_0 && (t163 == a1_1))))) else (some false))) else (some false))))) else (some false))) else (some false))))) = some r := H
  have A6 := Qa.mk A60
  clear A60
  replace H := Option.bind_eq_some_iff.mp H
  obtain ⟨t166, A70, H⟩ := H
  replace H : (if (t165 != t166) = true then (some false) else ((Qa1.f a0_0 a0_1 t162 t163).bind fun t167 => (if t167 = true then ((Qa1.f a1_0 a1_1 t162 t163).bind fun t168 => (if t168 = true then ((Qz.f a1_0 a1_1 a0_0 a0_1).bind fun bt169 => (if (!(t162 == bt169.1) || (!(t163 == bt169.2))) = true then (some false) else (if t162 = a0_0 then (if t163 = a0_1 then ((Qt.f a0_0 a0_1 a1_0 a1_1).bind fun t171 => (some (t171 == (t162 == a1_0 && (t163 == a1_1))))) else (if t163 = a1_1 then ((Qt.f a0_0 a0_1 a1_0 a1_1).bind fun t172 => (some (t172 == (t162 == a1_0 && (t163 == a1_1))))) else (some false))) else (if t162 = a1_0 then (if t163 = a0_1 then ((Qt.f a0_0 a0_1 a1_0 a1_1).bind fun t173 => (some (t173 == (t162 == a1_0 && (t163 == a1_1))))) else (if t163 = a1_1 then ((Qt.f a0_0 a0_1 a1_0 a1_1).bind fun t174 => (some (t174 == (t162 == a1_0 && (t163 == a1_1))))) else (some false))) else (some false))))) else (some false))) else (some false)))) = some r := H
  have A7 := Qa.mk A70
  clear A70
  by_cases c8 : (t165 != t166) = true
  ·
   rw [if_pos c8] at H
   have c8b0 : (t165 != t166) = true := c8
   (try (have c8b1 : decide (t165 = t166) = false := by simpa using c8))
   (try (have c8b2 : (t165 == t166) = false := by simpa using c8))
   (try (have c8b3 : ¬ (t165 = t166) := by simpa using c8))
   clear c8
   obtain rfl := Option.some.inj H
   go_enter Try.func4, Try.ntmps4
   try go_wp2_with (first | ((with_reducible refine Qv (N := 2) rfl ?_); refine Qx ?hg (N := 2) ?hd (cs := #[.int .i64 a0_0, .int .i64 a0_1]) (t := 29) ?hr ?_; (case hd => rfl); (case hg => rfl); (case hr => first | (go_simp; done) | (go_simp; rfl)); intro gb159 hg w9 hbox hb; have n0_ := Qa.mk (Ql (by repeat (first | (with_reducible first | exact HB.out | apply Qg | apply Qh | apply Qf) | exact HB.out)) hb); have n1_ := Qa.mk (hbox); have n2_ := Qa.mk ((by rw [hg]; exact (Qn (by repeat (first | (with_reducible first | exact HB.out | apply Qg | apply Qh | apply Qf) | exact HB.out))) : w.heap.size ≤ gb159)); have n3_ := Qa.mk ((by rw [hg]; exact (Qn (by repeat (first | (with_reducible first | exact HB.out | apply Qg | apply Qh | apply Qf) | exact HB.out))) : w.heap.size ≤ gb159)); clear HB; have HB := n0_; have BK159 := n1_; have GW159 := n2_; have GE159 := n3_; clear n0_ n1_ n2_ n3_; clear hb hbox hg) | ((with_reducible refine Qv (N := 3) rfl ?_); refine Qx ?hg (N := 3) ?hd (cs := #[.int .i64 a1_0, .int .i64 a1_1]) (t := 29) ?hr ?_; (case hd => rfl); (case hg => rfl); (case hr => first | (go_simp; done) | (go_simp; rfl)); intro gb160 hg w10 hbox hb; have n0_ := Qa.mk (Qk (g := gb159) (o := .cells #[.int .i64 a0_0, .int .i64 a0_1] 29 (0, 0)) (by (with_reducible repeat (first | refine Qc ?_ _ | refine Qb ?_ | refine Qd ?_ _)); exact BK159.out) hb); have n1_ := Qa.mk (Ql (by repeat (first | (with_reducible first | exact HB.out | apply Qg | apply Qh | apply Qf | refine Qe ?_ GE159.out) | exact HB.out)) hb); have n2_ := Qa.mk (hbox); have n3_ := Qa.mk ((by rw [hg]; exact (Qn (by repeat (first | (with_reducible first | exact HB.out | apply Qg | apply Qh | apply Qf | refine Qe ?_ GE159.out) | exact HB.out))) : w.heap.size ≤ gb160)); have n4_ := Qa.mk ((by rw [hg]; exact (Qn (by repeat (first | (with_reducible first | exact HB.out | apply Qg | apply Qh | apply Qf | refine Qe ?_ GE159.out) | exact HB.out))) : w.heap.size ≤ gb160)); have n5_ := Qa.mk ((by rw [hg]; exact Nat.ne_of_lt (blk_lt (g := gb159) (o := .cells #[.int .i64 a0_0, .int .i64 a0_1] 29 (0, 0)) (by (with_reducible repeat (first | refine Qc ?_ _ | refine Qb ?_ | refine Qd ?_ _)); exact BK159.out)) : gb159 ≠ gb160)); have n6_ := Qa.mk ((by rw [hg]; exact Nat.ne_of_gt (blk_lt (g := gb159) (o := .cells #[.int .i64 a0_0, .int .i64 a0_1] 29 (0, 0)) (by (with_reducible repeat (first | refine Qc ?_ _ | refine Qb ?_ | refine Qd ?_ _)); exact BK159.out)) : gb160 ≠ gb159)); clear BK159; clear HB; have BK159 := n0_; have HB := n1_; have BK160 := n2_; have GW160 := n3_; have GE160 := n4_; have NB159_160 := n5_; have NB160_159 := n6_; clear n0_ n1_ n2_ n3_ n4_ n5_ n6_; clear hb hbox hg) | ((with_reducible refine Qr (f := 7) rfl ?_); refine goesL_ (some 6) rfl rfl Try.func7 (by kernel_rfl) rfl #[] rfl (by (try simp only [List.map_toArray, List.map_cons, List.map_nil]); first | done | rfl | (simp only [List.length_drop, List.length_take]; rfl)) ?_; (with_reducible refine (Qb1.calls k  true _ A3.out).mono ?_); rintro e w11 ⟨rfl, hb⟩; refine ⟨_, rfl, ?_⟩; have n0_ := Qa.mk (Qk (g := gb159) (o := .cells #[.int .i64 a0_0, .int .i64 a0_1] 29 (0, 0)) (by (with_reducible repeat (first | refine Qc ?_ _ | refine Qb ?_ | refine Qd ?_ _)); exact BK159.out) hb); have n1_ := Qa.mk (Qk (g := gb160) (o := .cells #[.int .i64 a1_0, .int .i64 a1_1] 29 (0, 0)) (by (with_reducible repeat (first | refine Qc ?_ _ | refine Qb ?_ | refine Qd ?_ _)); exact BK160.out) hb); have n2_ := Qa.mk (Ql (by repeat (first | (with_reducible first | exact HB.out | apply Qg | apply Qh | apply Qf | refine Qe ?_ GE159.out | refine Qe ?_ GE160.out) | exact HB.out)) hb); clear BK159; clear BK160; clear HB; have BK159 := n0_; have BK160 := n1_; have HB := n2_; clear n0_ n1_ n2_; (try clear hb); (try clear hb2); (try clear hk); (try clear hi); have hnb12 := NB159_160.out; have hnc12 := NB160_159.out; have hcz13_0 : w11.cell? ⟨gb159, 0, none⟩ = some (.int .i64 a0_0) := (Qi BK159.out 0).trans rfl; have hcz13_1 : w11.cell? ⟨gb159, 1, none⟩ = some (.int .i64 a0_1) := (Qi BK159.out 1).trans rfl; have hfz13_0 := Qm BK159.out 0; have hfz13_1 := Qm BK159.out 1; have hcz14_0 : w11.cell? ⟨gb160, 0, none⟩ = some (.int .i64 a1_0) := (Qi BK160.out 0).trans rfl; have hcz14_1 : w11.cell? ⟨gb160, 1, none⟩ = some (.int .i64 a1_1) := (Qi BK160.out 1).trans rfl; have hfz14_0 := Qm BK160.out 0; have hfz14_1 := Qm BK160.out 1) | ((with_reducible refine Qr (f := 10) rfl ?_); refine goesL_ (some 10) rfl rfl Try.func10 (by kernel_rfl) rfl #[.agg #[.int .i64 a0_0, .int .i64 a0_1], .agg #[.int .i64 a1_0, .int .i64 a1_1]] rfl (by (try simp only [List.map_toArray, List.map_cons, List.map_nil]); first | done | rfl | (simp only [List.length_drop, List.length_take]; rfl)) ?_; (with_reducible refine (Qz.calls a0_0 a0_1 a1_0 a1_1 t162 t163 _ A5.out).mono ?_); rintro e w15 ⟨rfl, hb⟩; refine ⟨_, rfl, ?_⟩; have n0_ := Qa.mk (Qk (g := gb159) (o := .cells #[.int .i64 a0_0, .int .i64 a0_1] 29 (0, 0)) (by (with_reducible repeat (first | refine Qc ?_ _ | refine Qb ?_ | refine Qd ?_ _)); exact BK159.out) hb); have n1_ := Qa.mk (Qk (g := gb160) (o := .cells #[.int .i64 a1_0, .int .i64 a1_1] 29 (0, 0)) (by (with_reducible repeat (first | refine Qc ?_ _ | refine Qb ?_ | refine Qd ?_ _)); exact BK160.out) hb); have n2_ := Qa.mk (Ql (by repeat (first | (with_reducible first | exact HB.out | apply Qg | apply Qh | apply Qf | refine Qe ?_ GE159.out | refine Qe ?_ GE160.out) | exact HB.out)) hb); clear BK159; clear BK160; clear HB; have BK159 := n0_; have BK160 := n1_; have HB := n2_; clear n0_ n1_ n2_; (try clear hb); (try clear hb2); (try clear hk); (try clear hi)) | ((with_reducible refine Qv (N := 5) rfl ?_); refine Qx ?hg (N := 5) ?hd (cs := #[.int .i64 0, .int .i64 0]) (t := 29) ?hr ?_; (case hd => rfl); (case hg => rfl); (case hr => first | (go_simp; done) | (go_simp; rfl)); intro gb164 hg w16 hbox hb; have n0_ := Qa.mk (Qk (g := gb159) (o := .cells #[.int .i64 a0_0, .int .i64 a0_1] 29 (0, 0)) (by (with_reducible repeat (first | refine Qc ?_ _ | refine Qb ?_ | refine Qd ?_ _)); exact BK159.out) hb); have n1_ := Qa.mk (Qk (g := gb160) (o := .cells #[.int .i64 a1_0, .int .i64 a1_1] 29 (0, 0)) (by (with_reducible repeat (first | refine Qc ?_ _ | refine Qb ?_ | refine Qd ?_ _)); exact BK160.out) hb); have n2_ := Qa.mk (Ql (by repeat (first | (with_reducible first | exact HB.out | apply Qg | apply Qh | apply Qf | refine Qe ?_ GE159.out | refine Qe ?_ GE160.out) | exact HB.out)) hb); have n3_ := Qa.mk (hbox); have n4_ := Qa.mk ((by rw [hg]; exact (Qn (by repeat (first | (with_reducible first | exact HB.out | apply Qg | apply Qh | apply Qf | refine Qe ?_ GE159.out | refine Qe ?_ GE160.out) | exact HB.out))) : w.heap.size ≤ gb164)); have n5_ := Qa.mk ((by rw [hg]; exact (Qn (by repeat (first | (with_reducible first | exact HB.out | apply Qg | apply Qh | apply Qf | refine Qe ?_ GE159.out | refine Qe ?_ GE160.out) | exact HB.out))) : w.heap.size ≤ gb164)); have n6_ := Qa.mk ((by rw [hg]; exact Nat.ne_of_lt (blk_lt (g := gb159) (o := .cells #[.int .i64 a0_0, .int .i64 a0_1] 29 (0, 0)) (by (with_reducible repeat (first | refine Qc ?_ _ | refine Qb ?_ | refine Qd ?_ _)); exact BK159.out)) : gb159 ≠ gb164)); have n7_ := Qa.mk ((by rw [hg]; exact Nat.ne_of_gt (blk_lt (g := gb159) (o := .cells #[.int .i64 a0_0, .int .i64 a0_1] 29 (0, 0)) (by (with_reducible repeat (first | refine Qc ?_ _ | refine Qb ?_ | refine Qd ?_ _)); exact BK159.out)) : gb164 ≠ gb159)); have n8_ := Qa.mk ((by rw [hg]; exact Nat.ne_of_lt (blk_lt (g := gb160) (o := .cells #[.int .i64 a1_0, .int .i64 a1_1] 29 (0, 0)) (by (with_reducible repeat (first | refine Qc ?_ _ | refine Qb ?_ | refine Qd ?_ _)); exact BK160.out)) : gb160 ≠ gb164)); have n9_ := Qa.mk ((by rw [hg]; exact Nat.ne_of_gt (blk_lt (g := gb160) (o := .cells #[.int .i64 a1_0, .int .i64 a1_1] 29 (0, 0)) (by (with_reducible repeat (first | refine Qc ?_ _ | refine Qb ?_ | refine Qd ?_ _)); exact BK160.out)) : gb164 ≠ gb160)); clear BK159; clear BK160; clear HB; have BK159 := n0_; have BK160 := n1_; have HB := n2_; have BK164 := n3_; have GW164 := n4_; have GE164 := n5_; have NB159_164 := n6_; have NB164_159 := n7_; have NB160_164 := n8_; have NB164_160 := n9_; clear n0_ n1_ n2_ n3_ n4_ n5_ n6_ n7_ n8_ n9_; clear hb hbox hg; have hnb17 := NB164_159.out; have hnc17 := NB159_164.out; have hnb18 := NB164_160.out; have hnc18 := NB160_164.out; have hcz19_0 : w16.cell? ⟨gb164, 0, none⟩ = some (.int .i64 0) := (Qi BK164.out 0).trans rfl; have hcz19_1 : w16.cell? ⟨gb164, 1, none⟩ = some (.int .i64 0) := (Qi BK164.out 1).trans rfl; have hfz19_0 := Qm BK164.out 0; have hfz19_1 := Qm BK164.out 1))
   have n0_ : Qa (((w16.setCell ⟨gb164, 0, none⟩ (.int .i64 t162)).setCell ⟨gb164, 1, none⟩ (.int .i64 t163)).heap[gb159]? = some (.cells #[.int .i64 a0_0, .int .i64 a0_1] 29 (0, 0))) := ⟨by (with_reducible repeat (first | refine Qc ?_ _ | refine Qb ?_ | refine Qd ?_ _)); refine blk_far ?_ NB159_164.out _; (with_reducible repeat (first | refine Qc ?_ _ | refine Qb ?_ | refine Qd ?_ _)); refine blk_far ?_ NB159_164.out _; (with_reducible repeat (first | refine Qc ?_ _ | refine Qb ?_ | refine Qd ?_ _)); exact BK159.out⟩
   have n1_ : Qa (((w16.setCell ⟨gb164, 0, none⟩ (.int .i64 t162)).setCell ⟨gb164, 1, none⟩ (.int .i64 t163)).heap[gb160]? = some (.cells #[.int .i64 a1_0, .int .i64 a1_1] 29 (0, 0))) := ⟨by (with_reducible repeat (first | refine Qc ?_ _ | refine Qb ?_ | refine Qd ?_ _)); refine blk_far ?_ NB160_164.out _; (with_reducible repeat (first | refine Qc ?_ _ | refine Qb ?_ | refine Qd ?_ _)); refine blk_far ?_ NB160_164.out _; (with_reducible repeat (first | refine Qc ?_ _ | refine Qb ?_ | refine Qd ?_ _)); exact BK160.out⟩
   have n2_ : Qa (((w16.setCell ⟨gb164, 0, none⟩ (.int .i64 t162)).setCell ⟨gb164, 1, none⟩ (.int .i64 t163)).heap[gb164]? = some (.cells #[.int .i64 t162, .int .i64 t163] 29 (0, 0))) := ⟨by (with_reducible repeat (first | refine Qc ?_ _ | refine Qb ?_ | refine Qd ?_ _)); refine Qu (cs := #[.int .i64 t162, .int .i64 0]) ?_ 1 _ rfl; (with_reducible repeat (first | refine Qc ?_ _ | refine Qb ?_ | refine Qd ?_ _)); refine Qu (cs := #[.int .i64 0, .int .i64 0]) ?_ 0 _ rfl; (with_reducible repeat (first | refine Qc ?_ _ | refine Qb ?_ | refine Qd ?_ _)); exact BK164.out⟩
   have n3_ : Qa (Below w.heap.size w ((w16.setCell ⟨gb164, 0, none⟩ (.int .i64 t162)).setCell ⟨gb164, 1, none⟩ (.int .i64 t163))) := ⟨by repeat (first | (with_reducible first | exact HB.out | apply Qg | apply Qh | apply Qf | refine Qe ?_ GE159.out | refine Qe ?_ GE160.out | refine Qe ?_ GE164.out) | exact HB.out)⟩
   (try clear BK159)
   (try clear BK160)
   (try clear BK164)
   (try clear HB)
   generalize ((w16.setCell ⟨gb164, 0, none⟩ (.int .i64 t162)).setCell ⟨gb164, 1, none⟩ (.int .i64 t163)) = w20 at n0_ n1_ n2_ n3_ ⊢
   have BK159 := n0_
   have BK160 := n1_
   have BK164 := n2_
   have HB := n3_
   clear n0_ n1_ n2_ n3_
   have n0_ := Qa.mk (Qb BK159.out)
   have n1_ := Qa.mk (Qb BK160.out)
   have n2_ := Qa.mk (Qb BK164.out)
   have n3_ := Qa.mk (Qf HB.out)
   clear BK159
   clear BK160
   clear BK164
   clear HB
   have BK159 := n0_
   have BK160 := n1_
   have BK164 := n2_
   have HB := n3_
   clear n0_ n1_ n2_ n3_
   refine start_ (n := 26) (S := fun w' => w'.cell? ⟨gb159, 0, none⟩ = some (.int .i64 a0_0) ∧ w'.cell? ⟨gb159, 1, none⟩ = some (.int .i64 a0_1) ∧ w'.cell? ⟨gb160, 0, none⟩ = some (.int .i64 a1_0) ∧ w'.cell? ⟨gb160, 1, none⟩ = some (.int .i64 a1_1)) (ds := []) QB16_32 (by kernel_rfl) rfl rfl ⟨(Qi BK159.out 0).trans rfl, (Qi BK159.out 1).trans rfl, (Qi BK160.out 0).trans rfl, (Qi BK160.out 1).trans rfl⟩ (fun hHeld => ?_); refine with_tabW Qy.tab4 Qy.bits4 (fun HT_ HW_ => ?_)
   generalize w20.drew = w21 at BK159 BK160 BK164 HB hHeld ⊢
   refine take_ (i := 0) (N := some 11) (v := ?_) (a' := ?_) QB16_33 rfl rfl (Qs HT_.out HW_.out (by kernel_rfl)) (fun _ _ _ h => h) (Or.inl ⟨by rfl, ?_⟩) hHeld ?_ ?_
   rotate_left
   ·
    rintro w' ⟨s0, s1, s2, s3⟩
    go_simp
    with_reducible rfl
   rotate_left
   ·
    simp only [Act.put, List.setIfInBounds_toArray, List.set_cons_zero, List.set_cons_succ, i64_w, i32_w]
    rfl
   refine take_ (i := 1) (N := some 12) (v := ?_) (a' := ?_) QB16_34 rfl rfl (Qs HT_.out HW_.out (by kernel_rfl)) (fun _ _ _ h => h) (Or.inl ⟨by rfl, ?_⟩) hHeld ?_ ?_
   rotate_left
   ·
    rintro w' ⟨s0, s1, s2, s3⟩
    go_simp
    with_reducible rfl
   rotate_left
   ·
    simp only [Act.put, List.setIfInBounds_toArray, List.set_cons_zero, List.set_cons_succ, i64_w, i32_w]
    rfl
   refine take_ (i := 3) (N := some 14) (v := ?_) (a' := ?_) QB16_35 rfl rfl (Qs HT_.out HW_.out (by kernel_rfl)) (fun _ _ _ h => h) (Or.inl ⟨by rfl, ?_⟩) hHeld ?_ ?_
   rotate_left
   ·
    rintro w' ⟨s0, s1, s2, s3⟩
    go_simp
    with_reducible rfl
   rotate_left
   ·
    simp only [Act.put, List.setIfInBounds_toArray, List.set_cons_zero, List.set_cons_succ, i64_w, i32_w]
    rfl
   refine take_ (i := 4) (N := some 15) (v := ?_) (a' := ?_) QB16_36 rfl rfl (Qs HT_.out HW_.out (by kernel_rfl)) (fun _ _ _ h => h) (Or.inl ⟨by rfl, ?_⟩) hHeld ?_ ?_
   rotate_left
   ·
    rintro w' ⟨s0, s1, s2, s3⟩
    go_simp
    with_reducible rfl
   rotate_left
   ·
    simp only [Act.put, List.setIfInBounds_toArray, List.set_cons_zero, List.set_cons_succ, i64_w, i32_w]
    rfl
   refine one_ (i := 2) (N := some 13) QB16_37 rfl rfl (one_of HT_.out (by kernel_rfl)) (by decide) (fun K hK => ?_)
   refine goes_ Try.func11 (by kernel_rfl) rfl #[.agg #[.int .i64 a0_0, .int .i64 a0_1], .agg #[.int .i64 a1_0, .int .i64 a1_1]] (by rfl) rfl rfl (by (try simp only [List.map_toArray, List.map_cons, List.map_nil]); first | done | rfl | (simp only [List.length_drop, List.length_take]; rfl)) ?_
   with_reducible refine (Qt.calls a0_0 a0_1 a1_0 a1_1 t165 _ A6.out).mono ?_
   rintro e w22 ⟨rfl, hb⟩
   refine ⟨_, rfl, ?_⟩
   have n0_ := Qa.mk (Qk (g := gb159) (o := .cells #[.int .i64 a0_0, .int .i64 a0_1] 29 (0, 0)) (by (with_reducible repeat (first | refine Qc ?_ _ | refine Qb ?_ | refine Qd ?_ _)); exact BK159.out) hb)
   have n1_ := Qa.mk (Qk (g := gb160) (o := .cells #[.int .i64 a1_0, .int .i64 a1_1] 29 (0, 0)) (by (with_reducible repeat (first | refine Qc ?_ _ | refine Qb ?_ | refine Qd ?_ _)); exact BK160.out) hb)
   have n2_ := Qa.mk (Qk (g := gb164) (o := .cells #[.int .i64 t162, .int .i64 t163] 29 (0, 0)) (by (with_reducible repeat (first | refine Qc ?_ _ | refine Qb ?_ | refine Qd ?_ _)); exact BK164.out) hb)
   have n3_ := Qa.mk (Ql (by repeat (first | (with_reducible first | exact HB.out | apply Qg | apply Qh | apply Qf | refine Qe ?_ GE159.out | refine Qe ?_ GE160.out | refine Qe ?_ GE164.out) | exact HB.out)) hb)
   clear BK159
   clear BK160
   clear BK164
   clear HB
   have BK159 := n0_
   have BK160 := n1_
   have BK164 := n2_
   have HB := n3_
   clear n0_ n1_ n2_ n3_
   (try clear hb)
   (try clear hb2)
   (try clear hk)
   (try clear hi)
   refine hK.out _ _ ⟨(Qi BK159.out 0).trans rfl, (Qi BK159.out 1).trans rfl, (Qi BK160.out 0).trans rfl, (Qi BK160.out 1).trans rfl⟩ (fun hHeld => ?_)
   clear hK K
   refine norm_ (a' := ?_) ?_ ?_
   rotate_left
   ·
    show Act.put _ (some 13) _ = _
    simp only [Act.put, List.setIfInBounds_toArray, List.set_cons_zero, List.set_cons_succ, i64_w, i32_w]
    rfl
   refine one_ (i := 5) (N := some 16) QB16_38 rfl rfl (one_of HT_.out (by kernel_rfl)) (by decide) (fun K hK => ?_)
   refine goes_ Try.func12 (by kernel_rfl) rfl #[.agg #[.int .i64 a0_0, .int .i64 a0_1], .agg #[.int .i64 a1_0, .int .i64 a1_1]] (by rfl) rfl rfl (by (try simp only [List.map_toArray, List.map_cons, List.map_nil]); first | done | rfl | (simp only [List.length_drop, List.length_take]; rfl)) ?_
   with_reducible refine (Qa1.calls a0_0 a0_1 a1_0 a1_1 t166 _ A7.out).mono ?_
   rintro e w23 ⟨rfl, hb⟩
   refine ⟨_, rfl, ?_⟩
   have n0_ := Qa.mk (Qk (g := gb159) (o := .cells #[.int .i64 a0_0, .int .i64 a0_1] 29 (0, 0)) (by (with_reducible repeat (first | refine Qc ?_ _ | refine Qb ?_ | refine Qd ?_ _)); exact BK159.out) hb)
   have n1_ := Qa.mk (Qk (g := gb160) (o := .cells #[.int .i64 a1_0, .int .i64 a1_1] 29 (0, 0)) (by (with_reducible repeat (first | refine Qc ?_ _ | refine Qb ?_ | refine Qd ?_ _)); exact BK160.out) hb)
   have n2_ := Qa.mk (Qk (g := gb164) (o := .cells #[.int .i64 t162, .int .i64 t163] 29 (0, 0)) (by (with_reducible repeat (first | refine Qc ?_ _ | refine Qb ?_ | refine Qd ?_ _)); exact BK164.out) hb)
   have n3_ := Qa.mk (Ql (by repeat (first | (with_reducible first | exact HB.out | apply Qg | apply Qh | apply Qf | refine Qe ?_ GE159.out | refine Qe ?_ GE160.out | refine Qe ?_ GE164.out) | exact HB.out)) hb)
   clear BK159
   clear BK160
   clear BK164
   clear HB
   have BK159 := n0_
   have BK160 := n1_
   have BK164 := n2_
   have HB := n3_
   clear n0_ n1_ n2_ n3_
   (try clear hb)
   (try clear hb2)
   (try clear hk)
   (try clear hi)
   refine hK.out _ _ ⟨(Qi BK159.out 0).trans rfl, (Qi BK159.out 1).trans rfl, (Qi BK160.out 0).trans rfl, (Qi BK160.out 1).trans rfl⟩ (fun hHeld => ?_)
   clear hK K
   refine norm_ (a' := ?_) ?_ ?_
   rotate_left
   ·
    show Act.put _ (some 16) _ = _
    simp only [Act.put, List.setIfInBounds_toArray, List.set_cons_zero, List.set_cons_succ, i64_w, i32_w]
    rfl
   refine pure_ (i := 6) (N := some 17) (v := ?_) (a' := ?_) QB16_39 rfl rfl (Qj HT_.out (by kernel_rfl)) (fun _ _ _ h => h) (Or.inl ⟨by rfl, ?_⟩) ?_ ?_
   rotate_left
   ·
    intro w'
    go_simp
    with_reducible rfl
   rotate_left
   ·
    simp only [Act.put, List.setIfInBounds_toArray, List.set_cons_zero, List.set_cons_succ, i64_w, i32_w]
    rfl
   refine pure_ (i := 7) (N := some 18) (v := ?_) (a' := ?_) QB16_40 rfl rfl (Qj HT_.out (by kernel_rfl)) (fun _ _ _ h => h) (Or.inl ⟨by rfl, ?_⟩) ?_ ?_
   rotate_left
   ·
    intro w'
    go_simp
    with_reducible rfl
   rotate_left
   ·
    simp only [Act.put, List.setIfInBounds_toArray, List.set_cons_zero, List.set_cons_succ, i64_w, i32_w]
    rfl
   refine pure_ (i := 8) (N := some 19) (v := undef) (a' := ?_) QB16_41 rfl rfl (Qj HT_.out (by kernel_rfl)) (fun _ _ _ h => h) (Or.inr ⟨by rfl, rfl⟩) ?_ ?_
   rotate_left
   ·
    simp only [Act.put, List.setIfInBounds_toArray, List.set_cons_zero, List.set_cons_succ, i64_w, i32_w]
    rfl
   refine pure_ (i := 9) (N := some 20) (v := undef) (a' := ?_) QB16_42 rfl rfl (Qj HT_.out (by kernel_rfl)) (fun _ _ _ h => h) (Or.inr ⟨by rfl, rfl⟩) ?_ ?_
   rotate_left
   ·
    simp only [Act.put, List.setIfInBounds_toArray, List.set_cons_zero, List.set_cons_succ, i64_w, i32_w]
    rfl
   refine pure_ (i := 10) (N := some 21) (v := undef) (a' := ?_) QB16_43 rfl rfl (Qj HT_.out (by kernel_rfl)) (fun _ _ _ h => h) (Or.inr ⟨by rfl, rfl⟩) ?_ ?_
   rotate_left
   ·
    simp only [Act.put, List.setIfInBounds_toArray, List.set_cons_zero, List.set_cons_succ, i64_w, i32_w]
    rfl
   refine pure_ (i := 11) (N := some 22) (v := undef) (a' := ?_) QB16_44 rfl rfl (Qj HT_.out (by kernel_rfl)) (fun _ _ _ h => h) (Or.inr ⟨by rfl, rfl⟩) ?_ ?_
   rotate_left
   ·
    simp only [Act.put, List.setIfInBounds_toArray, List.set_cons_zero, List.set_cons_succ, i64_w, i32_w]
    rfl
   refine pure_ (i := 12) (N := some 23) (v := ?_) (a' := ?_) QB16_45 rfl rfl (Qj HT_.out (by kernel_rfl)) (fun _ _ _ h => h) (Or.inl ⟨by rfl, ?_⟩) ?_ ?_
   rotate_left
   ·
    intro w'
    go_simp
    with_reducible rfl
   rotate_left
   ·
    simp only [Act.put, List.setIfInBounds_toArray, List.set_cons_zero, List.set_cons_succ, i64_w, i32_w]
    rfl
   refine pure_ (i := 13) (N := some 24) (v := ?_) (a' := ?_) QB16_46 rfl rfl (Qj HT_.out (by kernel_rfl)) (fun _ _ _ h => h) (Or.inl ⟨by rfl, ?_⟩) ?_ ?_
   rotate_left
   ·
    intro w'
    go_simp
    with_reducible rfl
   rotate_left
   ·
    simp only [Act.put, List.setIfInBounds_toArray, List.set_cons_zero, List.set_cons_succ, i64_w, i32_w]
    rfl
   refine pure_ (i := 14) (N := some 25) (v := undef) (a' := ?_) QB16_47 rfl rfl (Qj HT_.out (by kernel_rfl)) (fun _ _ _ h => h) (Or.inr ⟨by rfl, rfl⟩) ?_ ?_
   rotate_left
   ·
    simp only [Act.put, List.setIfInBounds_toArray, List.set_cons_zero, List.set_cons_succ, i64_w, i32_w]
    rfl
   refine pure_ (i := 15) (N := some 26) (v := undef) (a' := ?_) QB16_48 rfl rfl (Qj HT_.out (by kernel_rfl)) (fun _ _ _ h => h) (Or.inr ⟨by rfl, rfl⟩) ?_ ?_
   rotate_left
   ·
    simp only [Act.put, List.setIfInBounds_toArray, List.set_cons_zero, List.set_cons_succ, i64_w, i32_w]
    rfl
   refine pure_ (i := 16) (N := some 27) (v := undef) (a' := ?_) QB16_49 rfl rfl (Qj HT_.out (by kernel_rfl)) (fun _ _ _ h => h) (Or.inr ⟨by rfl, rfl⟩) ?_ ?_
   rotate_left
   ·
    simp only [Act.put, List.setIfInBounds_toArray, List.set_cons_zero, List.set_cons_succ, i64_w, i32_w]
    rfl
   refine pure_ (i := 17) (N := some 28) (v := undef) (a' := ?_) QB16_50 rfl rfl (Qj HT_.out (by kernel_rfl)) (fun _ _ _ h => h) (Or.inr ⟨by rfl, rfl⟩) ?_ ?_
   rotate_left
   ·
    simp only [Act.put, List.setIfInBounds_toArray, List.set_cons_zero, List.set_cons_succ, i64_w, i32_w]
    rfl
   refine pure_ (i := 18) (N := some 29) (v := ?_) (a' := ?_) QB16_51 rfl rfl (Qj HT_.out (by kernel_rfl)) (fun _ _ _ h => h) (Or.inl ⟨by rfl, ?_⟩) ?_ ?_
   rotate_left
   ·
    intro w'
    go_simp
    with_reducible rfl
   rotate_left
   ·
    simp only [Act.put, List.setIfInBounds_toArray, List.set_cons_zero, List.set_cons_succ, i64_w, i32_w]
    rfl
   refine pure_ (i := 19) (N := some 30) (v := ?_) (a' := ?_) QB16_52 rfl rfl (Qj HT_.out (by kernel_rfl)) (fun _ _ _ h => h) (Or.inl ⟨by rfl, ?_⟩) ?_ ?_
   rotate_left
   ·
    intro w'
    go_simp
    with_reducible rfl
   rotate_left
   ·
    simp only [Act.put, List.setIfInBounds_toArray, List.set_cons_zero, List.set_cons_succ, i64_w, i32_w]
    rfl
   refine pure_ (i := 20) (N := some 31) (v := undef) (a' := ?_) QB16_53 rfl rfl (Qj HT_.out (by kernel_rfl)) (fun _ _ _ h => h) (Or.inr ⟨by rfl, rfl⟩) ?_ ?_
   rotate_left
   ·
    simp only [Act.put, List.setIfInBounds_toArray, List.set_cons_zero, List.set_cons_succ, i64_w, i32_w]
    rfl
   refine pure_ (i := 21) (N := some 32) (v := undef) (a' := ?_) QB16_54 rfl rfl (Qj HT_.out (by kernel_rfl)) (fun _ _ _ h => h) (Or.inr ⟨by rfl, rfl⟩) ?_ ?_
   rotate_left
   ·
    simp only [Act.put, List.setIfInBounds_toArray, List.set_cons_zero, List.set_cons_succ, i64_w, i32_w]
    rfl
   refine pure_ (i := 22) (N := some 33) (v := undef) (a' := ?_) QB16_55 rfl rfl (Qj HT_.out (by kernel_rfl)) (fun _ _ _ h => h) (Or.inr ⟨by rfl, rfl⟩) ?_ ?_
   rotate_left
   ·
    simp only [Act.put, List.setIfInBounds_toArray, List.set_cons_zero, List.set_cons_succ, i64_w, i32_w]
    rfl
   refine pure_ (i := 23) (N := some 34) (v := undef) (a' := ?_) QB16_56 rfl rfl (Qj HT_.out (by kernel_rfl)) (fun _ _ _ h => h) (Or.inr ⟨by rfl, rfl⟩) ?_ ?_
   rotate_left
   ·
    simp only [Act.put, List.setIfInBounds_toArray, List.set_cons_zero, List.set_cons_succ, i64_w, i32_w]
    rfl
   refine pure_ (i := 24) (N := some 35) (v := undef) (a' := ?_) QB16_57 rfl rfl (Qj HT_.out (by kernel_rfl)) (fun _ _ _ h => h) (Or.inr ⟨by rfl, rfl⟩) ?_ ?_
   rotate_left
   ·
    simp only [Act.put, List.setIfInBounds_toArray, List.set_cons_zero, List.set_cons_succ, i64_w, i32_w]
    rfl
   refine pure_ (i := 25) (N := some 36) (v := ?_) (a' := ?_) QB16_58 rfl rfl (Qj HT_.out (by kernel_rfl)) (fun _ _ _ h => h) (Or.inl ⟨by rfl, ?_⟩) ?_ ?_
   rotate_left
   ·
    intro w'
    go_simp
    with_reducible rfl
   rotate_left
   ·
    simp only [Act.put, List.setIfInBounds_toArray, List.set_cons_zero, List.set_cons_succ, i64_w, i32_w]
    rfl
   refine done_ (done_of HT_.out (by kernel_rfl)) ?_
   try go_wp2
   go_ret
   exact ⟨by first | rfl | (simp [Qp, Qq] <;> rfl) | (simp [*, Qp, Qq] <;> rfl), by repeat (first | (with_reducible first | exact HB.out | apply Qg | apply Qh | apply Qf | refine Qe ?_ GE159.out | refine Qe ?_ GE160.out | refine Qe ?_ GE164.out) | exact HB.out)⟩
  ·
   rw [if_neg c8] at H
   have c8b0 : (t165 != t166) = false := by simpa using c8
   (try (have c8b1 : decide (t165 = t166) = true := by simpa using c8))
   (try (have c8b2 : (t165 == t166) = true := by simpa using c8))
   clear c8
   replace H := Option.bind_eq_some_iff.mp H
   obtain ⟨t167, A240, H⟩ := H
   replace H : (if t167 = true then ((Qa1.f a1_0 a1_1 t162 t163).bind fun t168 => (if t168 = true then ((Qz.f a1_0 a1_1 a0_0 a0_1).bind fun bt169 => (if (!(t162 == bt169.1) || (!(t163 == bt169.2))) = true then (some false) else (if t162 = a0_0 then (if t163 = a0_1 then ((Qt.f a0_0 a0_1 a1_0 a1_1).bind fun t171 => (some (t171 == (t162 == a1_0 && (t163 == a1_1))))) else (if t163 = a1_1 then ((Qt.f a0_0 a0_1 a1_0 a1_1).bind fun t172 => (some (t172 == (t162 == a1_0 && (t163 == a1_1))))) else (some false))) else (if t162 = a1_0 then (if t163 = a0_1 then ((Qt.f a0_0 a0_1 a1_0 a1_1).bind fun t173 => (some (t173 == (t162 == a1_0 && (t163 == a1_1))))) else (if t163 = a1_1 then ((Qt.f a0_0 a0_1 a1_0 a1_1).bind fun t174 => (some (t174 == (t162 == a1_0 && (t163 == a1_1))))) else (some false))) else (some false))))) else (some false))) else (some false)) = some r := H
   have A24 := Qa.mk A240
   clear A240
   by_cases c25 : t167 = true
   ·
    subst c25
    have H1 : ((Qa1.f a1_0 a1_1 t162 t163).bind fun t168 => (if t168 = true then ((Qz.f a1_0 a1_1 a0_0 a0_1).bind fun bt169 => (if (!(t162 == bt169.1) || (!(t163 == bt169.2))) = true then (some false) else (if t162 = a0_0 then (if t163 = a0_1 then ((Qt.f a0_0 a0_1 a1_0 a1_1).bind fun t171 => (some (t171 == (t162 == a1_0 && (t163 == a1_1))))) else (if t163 = a1_1 then ((Qt.f a0_0 a0_1 a1_0 a1_1).bind fun t172 => (some (t172 == (t162 == a1_0 && (t163 == a1_1))))) else (some false))) else (if t162 = a1_0 then (if t163 = a0_1 then ((Qt.f a0_0 a0_1 a1_0 a1_1).bind fun t173 => (some (t173 == (t162 == a1_0 && (t163 == a1_1))))) else (if t163 = a1_1 then ((Qt.f a0_0 a0_1 a1_0 a1_1).bind fun t174 => (some (t174 == (t162 == a1_0 && (t163 == a1_1))))) else (some false))) else (some false))))) else (some false))) = some r := by rw [if_pos rfl] at H; exact H
    clear H
    have H := H1
    clear H1
    replace H := Option.bind_eq_some_iff.mp H
    obtain ⟨t168, A260, H⟩ := H
    replace H : (if t168 = true then ((Qz.f a1_0 a1_1 a0_0 a0_1).bind fun bt169 => (if (!(t162 == bt169.1) || (!(t163 == bt169.2))) = true then (some false) else (if t162 = a0_0 then (if t163 = a0_1 then ((Qt.f a0_0 a0_1 a1_0 a1_1).bind fun t171 => (some (t171 == (t162 == a1_0 && (t163 == a1_1))))) else (if t163 = a1_1 then ((Qt.f a0_0 a0_1 a1_0 a1_1).bind fun t172 => (some (t172 == (t162 == a1_0 && (t163 == a1_1))))) else (some false))) else (if t162 = a1_0 then (if t163 = a0_1 then ((Qt.f a0_0 a0_1 a1_0 a1_1).bind fun t173 => (some (t173 == (t162 == a1_0 && (t163 == a1_1))))) else (if t163 = a1_1 then ((Qt.f a0_0 a0_1 a1_0 a1_1).bind fun t174 => (some (t174 == (t162 == a1_0 && (t163 == a1_1))))) else (some false))) else (some false))))) else (some false)) = some r := H
    have A26 := Qa.mk A260
    clear A260
    by_cases c27 : t168 = true
    ·
     subst c27
     have H1 : ((Qz.f a1_0 a1_1 a0_0 a0_1).bind fun bt169 => (if (!(t162 == bt169.1) || (!(t163 == bt169.2))) = true then (some false) else (if t162 = a0_0 then (if t163 = a0_1 then ((Qt.f a0_0 a0_1 a1_0 a1_1).bind fun t171 => (some (t171 == (t162 == a1_0 && (t163 == a1_1))))) else (if t163 = a1_1 then ((Qt.f a0_0 a0_1 a1_0 a1_1).bind fun t172 => (some (t172 == (t162 == a1_0 && (t163 == a1_1))))) else (some false))) else (if t162 = a1_0 then (if t163 = a0_1 then ((Qt.f a0_0 a0_1 a1_0 a1_1).bind fun t173 => (some (t173 == (t162 == a1_0 && (t163 == a1_1))))) else (if t163 = a1_1 then ((Qt.f a0_0 a0_1 a1_0 a1_1).bind fun t174 => (some (t174 == (t162 == a1_0 && (t163 == a1_1))))) else (some false))) else (some false))))) = some r := by rw [if_pos rfl] at H; exact H
     clear H
     have H := H1
     clear H1
     replace H := Option.bind_eq_some_iff.mp H
     obtain ⟨⟨t169, t170⟩, A280, H⟩ := H
     replace H : (if (!(t162 == t169) || (!(t163 == t170))) = true then (some false) else (if t162 = a0_0 then (if t163 = a0_1 then ((Qt.f a0_0 a0_1 a1_0 a1_1).bind fun t171 => (some (t171 == (t162 == a1_0 && (t163 == a1_1))))) else (if t163 = a1_1 then ((Qt.f a0_0 a0_1 a1_0 a1_1).bind fun t172 => (some (t172 == (t162 == a1_0 && (t163 == a1_1))))) else (some false))) else (if t162 = a1_0 then (if t163 = a0_1 then ((Qt.f a0_0 a0_1 a1_0 a1_1).bind fun t173 => (some (t173 == (t162 == a1_0 && (t163 == a1_1))))) else (if t163 = a1_1 then ((Qt.f a0_0 a0_1 a1_0 a1_1).bind fun t174 => (some (t174 == (t162 == a1_0 && (t163 == a1_1))))) else (some false))) else (some false)))) = some r := H
     have A28 := Qa.mk A280
     clear A280
     have HC29 := Qa.mk H
     clear H
     go_enter Try.func4, Try.ntmps4
     try go_wp2_with (first | ((with_reducible refine Qv (N := 2) rfl ?_); refine Qx ?hg (N := 2) ?hd (cs := #[.int .i64 a0_0, .int .i64 a0_1]) (t := 29) ?hr ?_; (case hd => rfl); (case hg => rfl); (case hr => first | (go_simp; done) | (go_simp; rfl)); intro gb159 hg w30 hbox hb; have n0_ := Qa.mk (Ql (by repeat (first | (with_reducible first | exact HB.out | apply Qg | apply Qh | apply Qf) | exact HB.out)) hb); have n1_ := Qa.mk (hbox); have n2_ := Qa.mk ((by rw [hg]; exact (Qn (by repeat (first | (with_reducible first | exact HB.out | apply Qg | apply Qh | apply Qf) | exact HB.out))) : w.heap.size ≤ gb159)); have n3_ := Qa.mk ((by rw [hg]; exact (Qn (by repeat (first | (with_reducible first | exact HB.out | apply Qg | apply Qh | apply Qf) | exact HB.out))) : w.heap.size ≤ gb159)); clear HB; have HB := n0_; have BK159 := n1_; have GW159 := n2_; have GE159 := n3_; clear n0_ n1_ n2_ n3_; clear hb hbox hg) | ((with_reducible refine Qv (N := 3) rfl ?_); refine Qx ?hg (N := 3) ?hd (cs := #[.int .i64 a1_0, .int .i64 a1_1]) (t := 29) ?hr ?_; (case hd => rfl); (case hg => rfl); (case hr => first | (go_simp; done) | (go_simp; rfl)); intro gb160 hg w31 hbox hb; have n0_ := Qa.mk (Qk (g := gb159) (o := .cells #[.int .i64 a0_0, .int .i64 a0_1] 29 (0, 0)) (by (with_reducible repeat (first | refine Qc ?_ _ | refine Qb ?_ | refine Qd ?_ _)); exact BK159.out) hb); have n1_ := Qa.mk (Ql (by repeat (first | (with_reducible first | exact HB.out | apply Qg | apply Qh | apply Qf | refine Qe ?_ GE159.out) | exact HB.out)) hb); have n2_ := Qa.mk (hbox); have n3_ := Qa.mk ((by rw [hg]; exact (Qn (by repeat (first | (with_reducible first | exact HB.out | apply Qg | apply Qh | apply Qf | refine Qe ?_ GE159.out) | exact HB.out))) : w.heap.size ≤ gb160)); have n4_ := Qa.mk ((by rw [hg]; exact (Qn (by repeat (first | (with_reducible first | exact HB.out | apply Qg | apply Qh | apply Qf | refine Qe ?_ GE159.out) | exact HB.out))) : w.heap.size ≤ gb160)); have n5_ := Qa.mk ((by rw [hg]; exact Nat.ne_of_lt (blk_lt (g := gb159) (o := .cells #[.int .i64 a0_0, .int .i64 a0_1] 29 (0, 0)) (by (with_reducible repeat (first | refine Qc ?_ _ | refine Qb ?_ | refine Qd ?_ _)); exact BK159.out)) : gb159 ≠ gb160)); have n6_ := Qa.mk ((by rw [hg]; exact Nat.ne_of_gt (blk_lt (g := gb159) (o := .cells #[.int .i64 a0_0, .int .i64 a0_1] 29 (0, 0)) (by (with_reducible repeat (first | refine Qc ?_ _ | refine Qb ?_ | refine Qd ?_ _)); exact BK159.out)) : gb160 ≠ gb159)); clear BK159; clear HB; have BK159 := n0_; have HB := n1_; have BK160 := n2_; have GW160 := n3_; have GE160 := n4_; have NB159_160 := n5_; have NB160_159 := n6_; clear n0_ n1_ n2_ n3_ n4_ n5_ n6_; clear hb hbox hg) | ((with_reducible refine Qr (f := 7) rfl ?_); refine goesL_ (some 6) rfl rfl Try.func7 (by kernel_rfl) rfl #[] rfl (by (try simp only [List.map_toArray, List.map_cons, List.map_nil]); first | done | rfl | (simp only [List.length_drop, List.length_take]; rfl)) ?_; (with_reducible refine (Qb1.calls k  true _ A3.out).mono ?_); rintro e w32 ⟨rfl, hb⟩; refine ⟨_, rfl, ?_⟩; have n0_ := Qa.mk (Qk (g := gb159) (o := .cells #[.int .i64 a0_0, .int .i64 a0_1] 29 (0, 0)) (by (with_reducible repeat (first | refine Qc ?_ _ | refine Qb ?_ | refine Qd ?_ _)); exact BK159.out) hb); have n1_ := Qa.mk (Qk (g := gb160) (o := .cells #[.int .i64 a1_0, .int .i64 a1_1] 29 (0, 0)) (by (with_reducible repeat (first | refine Qc ?_ _ | refine Qb ?_ | refine Qd ?_ _)); exact BK160.out) hb); have n2_ := Qa.mk (Ql (by repeat (first | (with_reducible first | exact HB.out | apply Qg | apply Qh | apply Qf | refine Qe ?_ GE159.out | refine Qe ?_ GE160.out) | exact HB.out)) hb); clear BK159; clear BK160; clear HB; have BK159 := n0_; have BK160 := n1_; have HB := n2_; clear n0_ n1_ n2_; (try clear hb); (try clear hb2); (try clear hk); (try clear hi); have hnb33 := NB159_160.out; have hnc33 := NB160_159.out; have hcz34_0 : w32.cell? ⟨gb159, 0, none⟩ = some (.int .i64 a0_0) := (Qi BK159.out 0).trans rfl; have hcz34_1 : w32.cell? ⟨gb159, 1, none⟩ = some (.int .i64 a0_1) := (Qi BK159.out 1).trans rfl; have hfz34_0 := Qm BK159.out 0; have hfz34_1 := Qm BK159.out 1; have hcz35_0 : w32.cell? ⟨gb160, 0, none⟩ = some (.int .i64 a1_0) := (Qi BK160.out 0).trans rfl; have hcz35_1 : w32.cell? ⟨gb160, 1, none⟩ = some (.int .i64 a1_1) := (Qi BK160.out 1).trans rfl; have hfz35_0 := Qm BK160.out 0; have hfz35_1 := Qm BK160.out 1) | ((with_reducible refine Qr (f := 10) rfl ?_); refine goesL_ (some 10) rfl rfl Try.func10 (by kernel_rfl) rfl #[.agg #[.int .i64 a0_0, .int .i64 a0_1], .agg #[.int .i64 a1_0, .int .i64 a1_1]] rfl (by (try simp only [List.map_toArray, List.map_cons, List.map_nil]); first | done | rfl | (simp only [List.length_drop, List.length_take]; rfl)) ?_; (with_reducible refine (Qz.calls a0_0 a0_1 a1_0 a1_1 t162 t163 _ A5.out).mono ?_); rintro e w36 ⟨rfl, hb⟩; refine ⟨_, rfl, ?_⟩; have n0_ := Qa.mk (Qk (g := gb159) (o := .cells #[.int .i64 a0_0, .int .i64 a0_1] 29 (0, 0)) (by (with_reducible repeat (first | refine Qc ?_ _ | refine Qb ?_ | refine Qd ?_ _)); exact BK159.out) hb); have n1_ := Qa.mk (Qk (g := gb160) (o := .cells #[.int .i64 a1_0, .int .i64 a1_1] 29 (0, 0)) (by (with_reducible repeat (first | refine Qc ?_ _ | refine Qb ?_ | refine Qd ?_ _)); exact BK160.out) hb); have n2_ := Qa.mk (Ql (by repeat (first | (with_reducible first | exact HB.out | apply Qg | apply Qh | apply Qf | refine Qe ?_ GE159.out | refine Qe ?_ GE160.out) | exact HB.out)) hb); clear BK159; clear BK160; clear HB; have BK159 := n0_; have BK160 := n1_; have HB := n2_; clear n0_ n1_ n2_; (try clear hb); (try clear hb2); (try clear hk); (try clear hi)) | ((with_reducible refine Qv (N := 5) rfl ?_); refine Qx ?hg (N := 5) ?hd (cs := #[.int .i64 0, .int .i64 0]) (t := 29) ?hr ?_; (case hd => rfl); (case hg => rfl); (case hr => first | (go_simp; done) | (go_simp; rfl)); intro gb164 hg w37 hbox hb; have n0_ := Qa.mk (Qk (g := gb159) (o := .cells #[.int .i64 a0_0, .int .i64 a0_1] 29 (0, 0)) (by (with_reducible repeat (first | refine Qc ?_ _ | refine Qb ?_ | refine Qd ?_ _)); exact BK159.out) hb); have n1_ := Qa.mk (Qk (g := gb160) (o := .cells #[.int .i64 a1_0, .int .i64 a1_1] 29 (0, 0)) (by (with_reducible repeat (first | refine Qc ?_ _ | refine Qb ?_ | refine Qd ?_ _)); exact BK160.out) hb); have n2_ := Qa.mk (Ql (by repeat (first | (with_reducible first | exact HB.out | apply Qg | apply Qh | apply Qf | refine Qe ?_ GE159.out | refine Qe ?_ GE160.out) | exact HB.out)) hb); have n3_ := Qa.mk (hbox); have n4_ := Qa.mk ((by rw [hg]; exact (Qn (by repeat (first | (with_reducible first | exact HB.out | apply Qg | apply Qh | apply Qf | refine Qe ?_ GE159.out | refine Qe ?_ GE160.out) | exact HB.out))) : w.heap.size ≤ gb164)); have n5_ := Qa.mk ((by rw [hg]; exact (Qn (by repeat (first | (with_reducible first | exact HB.out | apply Qg | apply Qh | apply Qf | refine Qe ?_ GE159.out | refine Qe ?_ GE160.out) | exact HB.out))) : w.heap.size ≤ gb164)); have n6_ := Qa.mk ((by rw [hg]; exact Nat.ne_of_lt (blk_lt (g := gb159) (o := .cells #[.int .i64 a0_0, .int .i64 a0_1] 29 (0, 0)) (by (with_reducible repeat (first | refine Qc ?_ _ | refine Qb ?_ | refine Qd ?_ _)); exact BK159.out)) : gb159 ≠ gb164)); have n7_ := Qa.mk ((by rw [hg]; exact Nat.ne_of_gt (blk_lt (g := gb159) (o := .cells #[.int .i64 a0_0, .int .i64 a0_1] 29 (0, 0)) (by (with_reducible repeat (first | refine Qc ?_ _ | refine Qb ?_ | refine Qd ?_ _)); exact BK159.out)) : gb164 ≠ gb159)); have n8_ := Qa.mk ((by rw [hg]; exact Nat.ne_of_lt (blk_lt (g := gb160) (o := .cells #[.int .i64 a1_0, .int .i64 a1_1] 29 (0, 0)) (by (with_reducible repeat (first | refine Qc ?_ _ | refine Qb ?_ | refine Qd ?_ _)); exact BK160.out)) : gb160 ≠ gb164)); have n9_ := Qa.mk ((by rw [hg]; exact Nat.ne_of_gt (blk_lt (g := gb160) (o := .cells #[.int .i64 a1_0, .int .i64 a1_1] 29 (0, 0)) (by (with_reducible repeat (first | refine Qc ?_ _ | refine Qb ?_ | refine Qd ?_ _)); exact BK160.out)) : gb164 ≠ gb160)); clear BK159; clear BK160; clear HB; have BK159 := n0_; have BK160 := n1_; have HB := n2_; have BK164 := n3_; have GW164 := n4_; have GE164 := n5_; have NB159_164 := n6_; have NB164_159 := n7_; have NB160_164 := n8_; have NB164_160 := n9_; clear n0_ n1_ n2_ n3_ n4_ n5_ n6_ n7_ n8_ n9_; clear hb hbox hg; have hnb38 := NB164_159.out; have hnc38 := NB159_164.out; have hnb39 := NB164_160.out; have hnc39 := NB160_164.out; have hcz40_0 : w37.cell? ⟨gb164, 0, none⟩ = some (.int .i64 0) := (Qi BK164.out 0).trans rfl; have hcz40_1 : w37.cell? ⟨gb164, 1, none⟩ = some (.int .i64 0) := (Qi BK164.out 1).trans rfl; have hfz40_0 := Qm BK164.out 0; have hfz40_1 := Qm BK164.out 1))
     have n0_ : Qa (((w37.setCell ⟨gb164, 0, none⟩ (.int .i64 t162)).setCell ⟨gb164, 1, none⟩ (.int .i64 t163)).heap[gb159]? = some (.cells #[.int .i64 a0_0, .int .i64 a0_1] 29 (0, 0))) := ⟨by (with_reducible repeat (first | refine Qc ?_ _ | refine Qb ?_ | refine Qd ?_ _)); refine blk_far ?_ NB159_164.out _; (with_reducible repeat (first | refine Qc ?_ _ | refine Qb ?_ | refine Qd ?_ _)); refine blk_far ?_ NB159_164.out _; (with_reducible repeat (first | refine Qc ?_ _ | refine Qb ?_ | refine Qd ?_ _)); exact BK159.out⟩
     have n1_ : Qa (((w37.setCell ⟨gb164, 0, none⟩ (.int .i64 t162)).setCell ⟨gb164, 1, none⟩ (.int .i64 t163)).heap[gb160]? = some (.cells #[.int .i64 a1_0, .int .i64 a1_1] 29 (0, 0))) := ⟨by (with_reducible repeat (first | refine Qc ?_ _ | refine Qb ?_ | refine Qd ?_ _)); refine blk_far ?_ NB160_164.out _; (with_reducible repeat (first | refine Qc ?_ _ | refine Qb ?_ | refine Qd ?_ _)); refine blk_far ?_ NB160_164.out _; (with_reducible repeat (first | refine Qc ?_ _ | refine Qb ?_ | refine Qd ?_ _)); exact BK160.out⟩
     have n2_ : Qa (((w37.setCell ⟨gb164, 0, none⟩ (.int .i64 t162)).setCell ⟨gb164, 1, none⟩ (.int .i64 t163)).heap[gb164]? = some (.cells #[.int .i64 t162, .int .i64 t163] 29 (0, 0))) := ⟨by (with_reducible repeat (first | refine Qc ?_ _ | refine Qb ?_ | refine Qd ?_ _)); refine Qu (cs := #[.int .i64 t162, .int .i64 0]) ?_ 1 _ rfl; (with_reducible repeat (first | refine Qc ?_ _ | refine Qb ?_ | refine Qd ?_ _)); refine Qu (cs := #[.int .i64 0, .int .i64 0]) ?_ 0 _ rfl; (with_reducible repeat (first | refine Qc ?_ _ | refine Qb ?_ | refine Qd ?_ _)); exact BK164.out⟩
     have n3_ : Qa (Below w.heap.size w ((w37.setCell ⟨gb164, 0, none⟩ (.int .i64 t162)).setCell ⟨gb164, 1, none⟩ (.int .i64 t163))) := ⟨by repeat (first | (with_reducible first | exact HB.out | apply Qg | apply Qh | apply Qf | refine Qe ?_ GE159.out | refine Qe ?_ GE160.out | refine Qe ?_ GE164.out) | exact HB.out)⟩
     (try clear BK159)
     (try clear BK160)
     (try clear BK164)
     (try clear HB)
     generalize ((w37.setCell ⟨gb164, 0, none⟩ (.int .i64 t162)).setCell ⟨gb164, 1, none⟩ (.int .i64 t163)) = w41 at n0_ n1_ n2_ n3_ ⊢
     have BK159 := n0_
     have BK160 := n1_
     have BK164 := n2_
     have HB := n3_
     clear n0_ n1_ n2_ n3_
     have n0_ := Qa.mk (Qb BK159.out)
     have n1_ := Qa.mk (Qb BK160.out)
     have n2_ := Qa.mk (Qb BK164.out)
     have n3_ := Qa.mk (Qf HB.out)
     clear BK159
     clear BK160
     clear BK164
     clear HB
     have BK159 := n0_
     have BK160 := n1_
     have BK164 := n2_
     have HB := n3_
     clear n0_ n1_ n2_ n3_
     refine start_ (n := 26) (S := fun w' => w'.cell? ⟨gb159, 0, none⟩ = some (.int .i64 a0_0) ∧ w'.cell? ⟨gb159, 1, none⟩ = some (.int .i64 a0_1) ∧ w'.cell? ⟨gb160, 0, none⟩ = some (.int .i64 a1_0) ∧ w'.cell? ⟨gb160, 1, none⟩ = some (.int .i64 a1_1) ∧ w'.cell? ⟨gb164, 0, none⟩ = some (.int .i64 t162) ∧ w'.cell? ⟨gb164, 1, none⟩ = some (.int .i64 t163)) (ds := []) QB16_32 (by kernel_rfl) rfl rfl ⟨(Qi BK159.out 0).trans rfl, (Qi BK159.out 1).trans rfl, (Qi BK160.out 0).trans rfl, (Qi BK160.out 1).trans rfl, (Qi BK164.out 0).trans rfl, (Qi BK164.out 1).trans rfl⟩ (fun hHeld => ?_); refine with_tabW Qy.tab4 Qy.bits4 (fun HT_ HW_ => ?_)
     generalize w41.drew = w42 at BK159 BK160 BK164 HB hHeld ⊢
     refine take_ (i := 0) (N := some 11) (v := ?_) (a' := ?_) QB16_33 rfl rfl (Qs HT_.out HW_.out (by kernel_rfl)) (fun _ _ _ h => h) (Or.inl ⟨by rfl, ?_⟩) hHeld ?_ ?_
     rotate_left
     ·
      rintro w' ⟨s0, s1, s2, s3, s4, s5⟩
      go_simp
      with_reducible rfl
     rotate_left
     ·
      simp only [Act.put, List.setIfInBounds_toArray, List.set_cons_zero, List.set_cons_succ, i64_w, i32_w]
      rfl
     refine take_ (i := 1) (N := some 12) (v := ?_) (a' := ?_) QB16_34 rfl rfl (Qs HT_.out HW_.out (by kernel_rfl)) (fun _ _ _ h => h) (Or.inl ⟨by rfl, ?_⟩) hHeld ?_ ?_
     rotate_left
     ·
      rintro w' ⟨s0, s1, s2, s3, s4, s5⟩
      go_simp
      with_reducible rfl
     rotate_left
     ·
      simp only [Act.put, List.setIfInBounds_toArray, List.set_cons_zero, List.set_cons_succ, i64_w, i32_w]
      rfl
     refine take_ (i := 3) (N := some 14) (v := ?_) (a' := ?_) QB16_35 rfl rfl (Qs HT_.out HW_.out (by kernel_rfl)) (fun _ _ _ h => h) (Or.inl ⟨by rfl, ?_⟩) hHeld ?_ ?_
     rotate_left
     ·
      rintro w' ⟨s0, s1, s2, s3, s4, s5⟩
      go_simp
      with_reducible rfl
     rotate_left
     ·
      simp only [Act.put, List.setIfInBounds_toArray, List.set_cons_zero, List.set_cons_succ, i64_w, i32_w]
      rfl
     refine take_ (i := 4) (N := some 15) (v := ?_) (a' := ?_) QB16_36 rfl rfl (Qs HT_.out HW_.out (by kernel_rfl)) (fun _ _ _ h => h) (Or.inl ⟨by rfl, ?_⟩) hHeld ?_ ?_
     rotate_left
     ·
      rintro w' ⟨s0, s1, s2, s3, s4, s5⟩
      go_simp
      with_reducible rfl
     rotate_left
     ·
      simp only [Act.put, List.setIfInBounds_toArray, List.set_cons_zero, List.set_cons_succ, i64_w, i32_w]
      rfl
     refine one_ (i := 2) (N := some 13) QB16_37 rfl rfl (one_of HT_.out (by kernel_rfl)) (by decide) (fun K hK => ?_)
     refine goes_ Try.func11 (by kernel_rfl) rfl #[.agg #[.int .i64 a0_0, .int .i64 a0_1], .agg #[.int .i64 a1_0, .int .i64 a1_1]] (by rfl) rfl rfl (by (try simp only [List.map_toArray, List.map_cons, List.map_nil]); first | done | rfl | (simp only [List.length_drop, List.length_take]; rfl)) ?_
     with_reducible refine (Qt.calls a0_0 a0_1 a1_0 a1_1 t165 _ A6.out).mono ?_
     rintro e w43 ⟨rfl, hb⟩
     refine ⟨_, rfl, ?_⟩
     have n0_ := Qa.mk (Qk (g := gb159) (o := .cells #[.int .i64 a0_0, .int .i64 a0_1] 29 (0, 0)) (by (with_reducible repeat (first | refine Qc ?_ _ | refine Qb ?_ | refine Qd ?_ _)); exact BK159.out) hb)
     have n1_ := Qa.mk (Qk (g := gb160) (o := .cells #[.int .i64 a1_0, .int .i64 a1_1] 29 (0, 0)) (by (with_reducible repeat (first | refine Qc ?_ _ | refine Qb ?_ | refine Qd ?_ _)); exact BK160.out) hb)
     have n2_ := Qa.mk (Qk (g := gb164) (o := .cells #[.int .i64 t162, .int .i64 t163] 29 (0, 0)) (by (with_reducible repeat (first | refine Qc ?_ _ | refine Qb ?_ | refine Qd ?_ _)); exact BK164.out) hb)
     have n3_ := Qa.mk (Ql (by repeat (first | (with_reducible first | exact HB.out | apply Qg | apply Qh | apply Qf | refine Qe ?_ GE159.out | refine Qe ?_ GE160.out | refine Qe ?_ GE164.out) | exact HB.out)) hb)
     clear BK159
     clear BK160
     clear BK164
     clear HB
     have BK159 := n0_
     have BK160 := n1_
     have BK164 := n2_
     have HB := n3_
     clear n0_ n1_ n2_ n3_
     (try clear hb)
     (try clear hb2)
     (try clear hk)
     (try clear hi)
     refine hK.out _ _ ⟨(Qi BK159.out 0).trans rfl, (Qi BK159.out 1).trans rfl, (Qi BK160.out 0).trans rfl, (Qi BK160.out 1).trans rfl, (Qi BK164.out 0).trans rfl, (Qi BK164.out 1).trans rfl⟩ (fun hHeld => ?_)
     clear hK K
     refine norm_ (a' := ?_) ?_ ?_
     rotate_left
     ·
      show Act.put _ (some 13) _ = _
      simp only [Act.put, List.setIfInBounds_toArray, List.set_cons_zero, List.set_cons_succ, i64_w, i32_w]
      rfl
     refine one_ (i := 5) (N := some 16) QB16_38 rfl rfl (one_of HT_.out (by kernel_rfl)) (by decide) (fun K hK => ?_)
     refine goes_ Try.func12 (by kernel_rfl) rfl #[.agg #[.int .i64 a0_0, .int .i64 a0_1], .agg #[.int .i64 a1_0, .int .i64 a1_1]] (by rfl) rfl rfl (by (try simp only [List.map_toArray, List.map_cons, List.map_nil]); first | done | rfl | (simp only [List.length_drop, List.length_take]; rfl)) ?_
     with_reducible refine (Qa1.calls a0_0 a0_1 a1_0 a1_1 t166 _ A7.out).mono ?_
     rintro e w44 ⟨rfl, hb⟩
     refine ⟨_, rfl, ?_⟩
     have n0_ := Qa.mk (Qk (g := gb159) (o := .cells #[.int .i64 a0_0, .int .i64 a0_1] 29 (0, 0)) (by (with_reducible repeat (first | refine Qc ?_ _ | refine Qb ?_ | refine Qd ?_ _)); exact BK159.out) hb)
     have n1_ := Qa.mk (Qk (g := gb160) (o := .cells #[.int .i64 a1_0, .int .i64 a1_1] 29 (0, 0)) (by (with_reducible repeat (first | refine Qc ?_ _ | refine Qb ?_ | refine Qd ?_ _)); exact BK160.out) hb)
     have n2_ := Qa.mk (Qk (g := gb164) (o := .cells #[.int .i64 t162, .int .i64 t163] 29 (0, 0)) (by (with_reducible repeat (first | refine Qc ?_ _ | refine Qb ?_ | refine Qd ?_ _)); exact BK164.out) hb)
     have n3_ := Qa.mk (Ql (by repeat (first | (with_reducible first | exact HB.out | apply Qg | apply Qh | apply Qf | refine Qe ?_ GE159.out | refine Qe ?_ GE160.out | refine Qe ?_ GE164.out) | exact HB.out)) hb)
     clear BK159
     clear BK160
     clear BK164
     clear HB
     have BK159 := n0_
     have BK160 := n1_
     have BK164 := n2_
     have HB := n3_
     clear n0_ n1_ n2_ n3_
     (try clear hb)
     (try clear hb2)
     (try clear hk)
     (try clear hi)
     refine hK.out _ _ ⟨(Qi BK159.out 0).trans rfl, (Qi BK159.out 1).trans rfl, (Qi BK160.out 0).trans rfl, (Qi BK160.out 1).trans rfl, (Qi BK164.out 0).trans rfl, (Qi BK164.out 1).trans rfl⟩ (fun hHeld => ?_)
     clear hK K
     refine norm_ (a' := ?_) ?_ ?_
     rotate_left
     ·
      show Act.put _ (some 16) _ = _
      simp only [Act.put, List.setIfInBounds_toArray, List.set_cons_zero, List.set_cons_succ, i64_w, i32_w]
      rfl
     refine pure_ (i := 6) (N := some 17) (v := ?_) (a' := ?_) QB16_39 rfl rfl (Qj HT_.out (by kernel_rfl)) (fun _ _ _ h => h) (Or.inl ⟨by rfl, ?_⟩) ?_ ?_
     rotate_left
     ·
      intro w'
      go_simp
      with_reducible rfl
     rotate_left
     ·
      simp only [Act.put, List.setIfInBounds_toArray, List.set_cons_zero, List.set_cons_succ, i64_w, i32_w]
      rfl
     refine pure_ (i := 7) (N := some 18) (v := ?_) (a' := ?_) QB16_40 rfl rfl (Qj HT_.out (by kernel_rfl)) (fun _ _ _ h => h) (Or.inl ⟨by rfl, ?_⟩) ?_ ?_
     rotate_left
     ·
      intro w'
      go_simp
      with_reducible rfl
     rotate_left
     ·
      simp only [Act.put, List.setIfInBounds_toArray, List.set_cons_zero, List.set_cons_succ, i64_w, i32_w]
      rfl
     refine take_ (i := 8) (N := some 19) (v := ?_) (a' := ?_) QB16_41 rfl rfl (Qs HT_.out HW_.out (by kernel_rfl)) (fun _ _ _ h => h) (Or.inl ⟨by rfl, ?_⟩) hHeld ?_ ?_
     rotate_left
     ·
      rintro w' ⟨s0, s1, s2, s3, s4, s5⟩
      go_simp
      with_reducible rfl
     rotate_left
     ·
      simp only [Act.put, List.setIfInBounds_toArray, List.set_cons_zero, List.set_cons_succ, i64_w, i32_w]
      rfl
     refine take_ (i := 9) (N := some 20) (v := ?_) (a' := ?_) QB16_42 rfl rfl (Qs HT_.out HW_.out (by kernel_rfl)) (fun _ _ _ h => h) (Or.inl ⟨by rfl, ?_⟩) hHeld ?_ ?_
     rotate_left
     ·
      rintro w' ⟨s0, s1, s2, s3, s4, s5⟩
      go_simp
      with_reducible rfl
     rotate_left
     ·
      simp only [Act.put, List.setIfInBounds_toArray, List.set_cons_zero, List.set_cons_succ, i64_w, i32_w]
      rfl
     refine one_ (i := 10) (N := some 21) QB16_43 rfl rfl (one_of HT_.out (by kernel_rfl)) (by decide) (fun K hK => ?_)
     refine goes_ Try.func12 (by kernel_rfl) rfl #[.agg #[.int .i64 a0_0, .int .i64 a0_1], .agg #[.int .i64 t162, .int .i64 t163]] (by rfl) rfl rfl (by (try simp only [List.map_toArray, List.map_cons, List.map_nil]); first | done | rfl | (simp only [List.length_drop, List.length_take]; rfl)) ?_
     with_reducible refine (Qa1.calls a0_0 a0_1 t162 t163 true _ A24.out).mono ?_
     rintro e w45 ⟨rfl, hb⟩
     refine ⟨_, rfl, ?_⟩
     have n0_ := Qa.mk (Qk (g := gb159) (o := .cells #[.int .i64 a0_0, .int .i64 a0_1] 29 (0, 0)) (by (with_reducible repeat (first | refine Qc ?_ _ | refine Qb ?_ | refine Qd ?_ _)); exact BK159.out) hb)
     have n1_ := Qa.mk (Qk (g := gb160) (o := .cells #[.int .i64 a1_0, .int .i64 a1_1] 29 (0, 0)) (by (with_reducible repeat (first | refine Qc ?_ _ | refine Qb ?_ | refine Qd ?_ _)); exact BK160.out) hb)
     have n2_ := Qa.mk (Qk (g := gb164) (o := .cells #[.int .i64 t162, .int .i64 t163] 29 (0, 0)) (by (with_reducible repeat (first | refine Qc ?_ _ | refine Qb ?_ | refine Qd ?_ _)); exact BK164.out) hb)
     have n3_ := Qa.mk (Ql (by repeat (first | (with_reducible first | exact HB.out | apply Qg | apply Qh | apply Qf | refine Qe ?_ GE159.out | refine Qe ?_ GE160.out | refine Qe ?_ GE164.out) | exact HB.out)) hb)
     clear BK159
     clear BK160
     clear BK164
     clear HB
     have BK159 := n0_
     have BK160 := n1_
     have BK164 := n2_
     have HB := n3_
     clear n0_ n1_ n2_ n3_
     (try clear hb)
     (try clear hb2)
     (try clear hk)
     (try clear hi)
     refine hK.out _ _ ⟨(Qi BK159.out 0).trans rfl, (Qi BK159.out 1).trans rfl, (Qi BK160.out 0).trans rfl, (Qi BK160.out 1).trans rfl, (Qi BK164.out 0).trans rfl, (Qi BK164.out 1).trans rfl⟩ (fun hHeld => ?_)
     clear hK K
     refine norm_ (a' := ?_) ?_ ?_
     rotate_left
     ·
      show Act.put _ (some 21) _ = _
      simp only [Act.put, List.setIfInBounds_toArray, List.set_cons_zero, List.set_cons_succ, i64_w, i32_w]
      rfl
     refine pure_ (i := 11) (N := some 22) (v := ?_) (a' := ?_) QB16_44 rfl rfl (Qj HT_.out (by kernel_rfl)) (fun _ _ _ h => h) (Or.inl ⟨by rfl, ?_⟩) ?_ ?_
     rotate_left
     ·
      intro w'
      go_simp
      with_reducible rfl
     rotate_left
     ·
      simp only [Act.put, List.setIfInBounds_toArray, List.set_cons_zero, List.set_cons_succ, i64_w, i32_w]
      rfl
     refine pure_ (i := 12) (N := some 23) (v := ?_) (a' := ?_) QB16_45 rfl rfl (Qj HT_.out (by kernel_rfl)) (fun _ _ _ h => h) (Or.inl ⟨by rfl, ?_⟩) ?_ ?_
     rotate_left
     ·
      intro w'
      go_simp
      with_reducible rfl
     rotate_left
     ·
      simp only [Act.put, List.setIfInBounds_toArray, List.set_cons_zero, List.set_cons_succ, i64_w, i32_w]
      rfl
     refine pure_ (i := 13) (N := some 24) (v := ?_) (a' := ?_) QB16_46 rfl rfl (Qj HT_.out (by kernel_rfl)) (fun _ _ _ h => h) (Or.inl ⟨by rfl, ?_⟩) ?_ ?_
     rotate_left
     ·
      intro w'
      go_simp
      with_reducible rfl
     rotate_left
     ·
      simp only [Act.put, List.setIfInBounds_toArray, List.set_cons_zero, List.set_cons_succ, i64_w, i32_w]
      rfl
     refine take_ (i := 14) (N := some 25) (v := ?_) (a' := ?_) QB16_47 rfl rfl (Qs HT_.out HW_.out (by kernel_rfl)) (fun _ _ _ h => h) (Or.inl ⟨by rfl, ?_⟩) hHeld ?_ ?_
     rotate_left
     ·
      rintro w' ⟨s0, s1, s2, s3, s4, s5⟩
      go_simp
      with_reducible rfl
     rotate_left
     ·
      simp only [Act.put, List.setIfInBounds_toArray, List.set_cons_zero, List.set_cons_succ, i64_w, i32_w]
      rfl
     refine take_ (i := 15) (N := some 26) (v := ?_) (a' := ?_) QB16_48 rfl rfl (Qs HT_.out HW_.out (by kernel_rfl)) (fun _ _ _ h => h) (Or.inl ⟨by rfl, ?_⟩) hHeld ?_ ?_
     rotate_left
     ·
      rintro w' ⟨s0, s1, s2, s3, s4, s5⟩
      go_simp
      with_reducible rfl
     rotate_left
     ·
      simp only [Act.put, List.setIfInBounds_toArray, List.set_cons_zero, List.set_cons_succ, i64_w, i32_w]
      rfl
     refine one_ (i := 16) (N := some 27) QB16_49 rfl rfl (one_of HT_.out (by kernel_rfl)) (by decide) (fun K hK => ?_)
     refine goes_ Try.func12 (by kernel_rfl) rfl #[.agg #[.int .i64 a1_0, .int .i64 a1_1], .agg #[.int .i64 t162, .int .i64 t163]] (by rfl) rfl rfl (by (try simp only [List.map_toArray, List.map_cons, List.map_nil]); first | done | rfl | (simp only [List.length_drop, List.length_take]; rfl)) ?_
     with_reducible refine (Qa1.calls a1_0 a1_1 t162 t163 true _ A26.out).mono ?_
     rintro e w46 ⟨rfl, hb⟩
     refine ⟨_, rfl, ?_⟩
     have n0_ := Qa.mk (Qk (g := gb159) (o := .cells #[.int .i64 a0_0, .int .i64 a0_1] 29 (0, 0)) (by (with_reducible repeat (first | refine Qc ?_ _ | refine Qb ?_ | refine Qd ?_ _)); exact BK159.out) hb)
     have n1_ := Qa.mk (Qk (g := gb160) (o := .cells #[.int .i64 a1_0, .int .i64 a1_1] 29 (0, 0)) (by (with_reducible repeat (first | refine Qc ?_ _ | refine Qb ?_ | refine Qd ?_ _)); exact BK160.out) hb)
     have n2_ := Qa.mk (Qk (g := gb164) (o := .cells #[.int .i64 t162, .int .i64 t163] 29 (0, 0)) (by (with_reducible repeat (first | refine Qc ?_ _ | refine Qb ?_ | refine Qd ?_ _)); exact BK164.out) hb)
     have n3_ := Qa.mk (Ql (by repeat (first | (with_reducible first | exact HB.out | apply Qg | apply Qh | apply Qf | refine Qe ?_ GE159.out | refine Qe ?_ GE160.out | refine Qe ?_ GE164.out) | exact HB.out)) hb)
     clear BK159
     clear BK160
     clear BK164
     clear HB
     have BK159 := n0_
     have BK160 := n1_
     have BK164 := n2_
     have HB := n3_
     clear n0_ n1_ n2_ n3_
     (try clear hb)
     (try clear hb2)
     (try clear hk)
     (try clear hi)
     refine hK.out _ _ ⟨(Qi BK159.out 0).trans rfl, (Qi BK159.out 1).trans rfl, (Qi BK160.out 0).trans rfl, (Qi BK160.out 1).trans rfl, (Qi BK164.out 0).trans rfl, (Qi BK164.out 1).trans rfl⟩ (fun hHeld => ?_)
     clear hK K
     refine norm_ (a' := ?_) ?_ ?_
     rotate_left
     ·
      show Act.put _ (some 27) _ = _
      simp only [Act.put, List.setIfInBounds_toArray, List.set_cons_zero, List.set_cons_succ, i64_w, i32_w]
      rfl
     refine pure_ (i := 17) (N := some 28) (v := ?_) (a' := ?_) QB16_50 rfl rfl (Qj HT_.out (by kernel_rfl)) (fun _ _ _ h => h) (Or.inl ⟨by rfl, ?_⟩) ?_ ?_
     rotate_left
     ·
      intro w'
      go_simp
      with_reducible rfl
     rotate_left
     ·
      simp only [Act.put, List.setIfInBounds_toArray, List.set_cons_zero, List.set_cons_succ, i64_w, i32_w]
      rfl
     refine pure_ (i := 18) (N := some 29) (v := ?_) (a' := ?_) QB16_51 rfl rfl (Qj HT_.out (by kernel_rfl)) (fun _ _ _ h => h) (Or.inl ⟨by rfl, ?_⟩) ?_ ?_
     rotate_left
     ·
      intro w'
      go_simp
      with_reducible rfl
     rotate_left
     ·
      simp only [Act.put, List.setIfInBounds_toArray, List.set_cons_zero, List.set_cons_succ, i64_w, i32_w]
      rfl
     refine pure_ (i := 19) (N := some 30) (v := ?_) (a' := ?_) QB16_52 rfl rfl (Qj HT_.out (by kernel_rfl)) (fun _ _ _ h => h) (Or.inl ⟨by rfl, ?_⟩) ?_ ?_
     rotate_left
     ·
      intro w'
      go_simp
      with_reducible rfl
     rotate_left
     ·
      simp only [Act.put, List.setIfInBounds_toArray, List.set_cons_zero, List.set_cons_succ, i64_w, i32_w]
      rfl
     refine take_ (i := 20) (N := some 31) (v := ?_) (a' := ?_) QB16_53 rfl rfl (Qs HT_.out HW_.out (by kernel_rfl)) (fun _ _ _ h => h) (Or.inl ⟨by rfl, ?_⟩) hHeld ?_ ?_
     rotate_left
     ·
      rintro w' ⟨s0, s1, s2, s3, s4, s5⟩
      go_simp
      with_reducible rfl
     rotate_left
     ·
      simp only [Act.put, List.setIfInBounds_toArray, List.set_cons_zero, List.set_cons_succ, i64_w, i32_w]
      rfl
     refine take_ (i := 21) (N := some 32) (v := ?_) (a' := ?_) QB16_54 rfl rfl (Qs HT_.out HW_.out (by kernel_rfl)) (fun _ _ _ h => h) (Or.inl ⟨by rfl, ?_⟩) hHeld ?_ ?_
     rotate_left
     ·
      rintro w' ⟨s0, s1, s2, s3, s4, s5⟩
      go_simp
      with_reducible rfl
     rotate_left
     ·
      simp only [Act.put, List.setIfInBounds_toArray, List.set_cons_zero, List.set_cons_succ, i64_w, i32_w]
      rfl
     refine take_ (i := 22) (N := some 33) (v := ?_) (a' := ?_) QB16_55 rfl rfl (Qs HT_.out HW_.out (by kernel_rfl)) (fun _ _ _ h => h) (Or.inl ⟨by rfl, ?_⟩) hHeld ?_ ?_
     rotate_left
     ·
      rintro w' ⟨s0, s1, s2, s3, s4, s5⟩
      go_simp
      with_reducible rfl
     rotate_left
     ·
      simp only [Act.put, List.setIfInBounds_toArray, List.set_cons_zero, List.set_cons_succ, i64_w, i32_w]
      rfl
     refine one_ (i := 23) (N := some 34) QB16_56 rfl rfl (one_of HT_.out (by kernel_rfl)) (by decide) (fun K hK => ?_)
     refine goes_ Try.func10 (by kernel_rfl) rfl #[.agg #[.int .i64 a1_0, .int .i64 a1_1], .agg #[.int .i64 a0_0, .int .i64 a0_1]] (by rfl) rfl rfl (by (try simp only [List.map_toArray, List.map_cons, List.map_nil]); first | done | rfl | (simp only [List.length_drop, List.length_take]; rfl)) ?_
     with_reducible refine (Qz.calls a1_0 a1_1 a0_0 a0_1 t169 t170 _ A28.out).mono ?_
     rintro e w47 ⟨rfl, hb⟩
     refine ⟨_, rfl, ?_⟩
     have n0_ := Qa.mk (Qk (g := gb159) (o := .cells #[.int .i64 a0_0, .int .i64 a0_1] 29 (0, 0)) (by (with_reducible repeat (first | refine Qc ?_ _ | refine Qb ?_ | refine Qd ?_ _)); exact BK159.out) hb)
     have n1_ := Qa.mk (Qk (g := gb160) (o := .cells #[.int .i64 a1_0, .int .i64 a1_1] 29 (0, 0)) (by (with_reducible repeat (first | refine Qc ?_ _ | refine Qb ?_ | refine Qd ?_ _)); exact BK160.out) hb)
     have n2_ := Qa.mk (Qk (g := gb164) (o := .cells #[.int .i64 t162, .int .i64 t163] 29 (0, 0)) (by (with_reducible repeat (first | refine Qc ?_ _ | refine Qb ?_ | refine Qd ?_ _)); exact BK164.out) hb)
     have n3_ := Qa.mk (Ql (by repeat (first | (with_reducible first | exact HB.out | apply Qg | apply Qh | apply Qf | refine Qe ?_ GE159.out | refine Qe ?_ GE160.out | refine Qe ?_ GE164.out) | exact HB.out)) hb)
     clear BK159
     clear BK160
     clear BK164
     clear HB
     have BK159 := n0_
     have BK160 := n1_
     have BK164 := n2_
     have HB := n3_
     clear n0_ n1_ n2_ n3_
     (try clear hb)
     (try clear hb2)
     (try clear hk)
     (try clear hi)
     refine hK.out _ _ ⟨(Qi BK159.out 0).trans rfl, (Qi BK159.out 1).trans rfl, (Qi BK160.out 0).trans rfl, (Qi BK160.out 1).trans rfl, (Qi BK164.out 0).trans rfl, (Qi BK164.out 1).trans rfl⟩ (fun hHeld => ?_)
     clear hK K
     refine norm_ (a' := ?_) ?_ ?_
     rotate_left
     ·
      show Act.put _ (some 34) _ = _
      simp only [Act.put, List.setIfInBounds_toArray, List.set_cons_zero, List.set_cons_succ, i64_w, i32_w]
      rfl
     refine pure_ (i := 24) (N := some 35) (v := ?_) (a' := ?_) QB16_57 rfl rfl (Qj HT_.out (by kernel_rfl)) (fun _ _ _ h => h) (Or.inl ⟨by rfl, ?_⟩) ?_ ?_
     rotate_left
     ·
      intro w'
      go_simp
      with_reducible rfl
     rotate_left
     ·
      simp only [Act.put, List.setIfInBounds_toArray, List.set_cons_zero, List.set_cons_succ, i64_w, i32_w]
      rfl
     refine pure_ (i := 25) (N := some 36) (v := ?_) (a' := ?_) QB16_58 rfl rfl (Qj HT_.out (by kernel_rfl)) (fun _ _ _ h => h) (Or.inl ⟨by rfl, ?_⟩) ?_ ?_
     rotate_left
     ·
      intro w'
      go_simp
      with_reducible rfl
     rotate_left
     ·
      simp only [Act.put, List.setIfInBounds_toArray, List.set_cons_zero, List.set_cons_succ, i64_w, i32_w]
      rfl
     refine done_ (done_of HT_.out (by kernel_rfl)) ?_
     go_upto_if 36 with (fail)
     have H := HC29.out
     clear HC29
     by_cases c48 : (!(t162 == t169) || (!(t163 == t170))) = true
     ·
      rw [if_pos c48] at H
      have c48b0 : (!(t162 == t169) || (!(t163 == t170))) = true := c48
      clear c48
      (first | rw [c48b0] | (simp only [i64_w, i32_w]; rw [c48b0]) | skip)
      obtain rfl := Option.some.inj H
      go_wp2
      go_ret
      exact ⟨by first | rfl | (simp [Qp, Qq] <;> rfl) | (simp [*, Qp, Qq] <;> rfl), by repeat (first | (with_reducible first | exact HB.out | apply Qg | apply Qh | apply Qf | refine Qe ?_ GE159.out | refine Qe ?_ GE160.out | refine Qe ?_ GE164.out) | exact HB.out)⟩
     ·
      rw [if_neg c48] at H
      have c48b0 : (!(t162 == t169) || (!(t163 == t170))) = false := by simpa using c48
      clear c48
      (first | rw [c48b0] | (simp only [i64_w, i32_w]; rw [c48b0]) | skip)
      by_cases c49 : t162 = a0_0
      ·
       rw [if_pos c49] at H
       have c49b0 : (t162 == a0_0) = true := beq_iff_eq.mpr c49
       have c49b1 : (t162 != a0_0) = false := bne_eq_false_iff_eq.mpr c49
       clear c49
       by_cases c50 : t163 = a0_1
       ·
        rw [if_pos c50] at H
        have c50b0 : (t163 == a0_1) = true := beq_iff_eq.mpr c50
        have c50b1 : (t163 != a0_1) = false := bne_eq_false_iff_eq.mpr c50
        clear c50
        replace H := Option.bind_eq_some_iff.mp H
        obtain ⟨t171, A510, H⟩ := H
        replace H : (some (t171 == (t162 == a1_0 && (t163 == a1_1)))) = some r := H
        have A51 := Qa.mk A510
        clear A510
        obtain rfl := Option.some.inj H
        try go_wp2
        have n0_ := Qa.mk (Qb BK159.out)
        have n1_ := Qa.mk (Qb BK160.out)
        have n2_ := Qa.mk (Qb BK164.out)
        have n3_ := Qa.mk (Qf HB.out)
        clear BK159
        clear BK160
        clear BK164
        clear HB
        have BK159 := n0_
        have BK160 := n1_
        have BK164 := n2_
        have HB := n3_
        clear n0_ n1_ n2_ n3_
        refine start_ (n := 36) (S := fun w' => w'.cell? ⟨gb164, 0, none⟩ = some (.int .i64 t162) ∧ w'.cell? ⟨gb164, 1, none⟩ = some (.int .i64 t163) ∧ w'.cell? ⟨gb159, 0, none⟩ = some (.int .i64 a0_0) ∧ w'.cell? ⟨gb159, 1, none⟩ = some (.int .i64 a0_1) ∧ w'.cell? ⟨gb160, 0, none⟩ = some (.int .i64 a1_0) ∧ w'.cell? ⟨gb160, 1, none⟩ = some (.int .i64 a1_1)) (ds := []) QB16_0 (by kernel_rfl) rfl rfl ⟨(Qi BK164.out 0).trans rfl, (Qi BK164.out 1).trans rfl, (Qi BK159.out 0).trans rfl, (Qi BK159.out 1).trans rfl, (Qi BK160.out 0).trans rfl, (Qi BK160.out 1).trans rfl⟩ (fun hHeld => ?_); refine with_tabW Qy.tab6 Qy.bits6 (fun HT_ HW_ => ?_)
        generalize w47.drew = w52 at BK159 BK160 BK164 HB hHeld ⊢
        refine pure_ (i := 0) (N := some 37) (v := ?_) (a' := ?_) QB16_1 rfl rfl (Qj HT_.out (by kernel_rfl)) (fun _ _ _ h => h) (Or.inl ⟨by rfl, ?_⟩) ?_ ?_
        rotate_left
        ·
         intro w'
         go_simp
         with_reducible rfl
        rotate_left
        ·
         simp only [Act.put, List.setIfInBounds_toArray, List.set_cons_zero, List.set_cons_succ, i64_w, i32_w]
         rfl
        refine pure_ (i := 2) (N := some 39) (v := ?_) (a' := ?_) QB16_2 rfl rfl (Qj HT_.out (by kernel_rfl)) (fun _ _ _ h => h) (Or.inl ⟨by rfl, ?_⟩) ?_ ?_
        rotate_left
        ·
         intro w'
         go_simp
         with_reducible rfl
        rotate_left
        ·
         simp only [Act.put, List.setIfInBounds_toArray, List.set_cons_zero, List.set_cons_succ, i64_w, i32_w]
         rfl
        refine take_ (i := 1) (N := some 38) (v := ?_) (a' := ?_) QB16_3 rfl rfl (Qs HT_.out HW_.out (by kernel_rfl)) (fun _ _ _ h => h) (Or.inl ⟨by rfl, ?_⟩) hHeld ?_ ?_
        rotate_left
        ·
         rintro w' ⟨s0, s1, s2, s3, s4, s5⟩
         go_simp
         with_reducible rfl
        rotate_left
        ·
         simp only [Act.put, List.setIfInBounds_toArray, List.set_cons_zero, List.set_cons_succ, i64_w, i32_w]
         rfl
        refine take_ (i := 3) (N := some 40) (v := ?_) (a' := ?_) QB16_4 rfl rfl (Qs HT_.out HW_.out (by kernel_rfl)) (fun _ _ _ h => h) (Or.inl ⟨by rfl, ?_⟩) hHeld ?_ ?_
        rotate_left
        ·
         rintro w' ⟨s0, s1, s2, s3, s4, s5⟩
         go_simp
         with_reducible rfl
        rotate_left
        ·
         simp only [Act.put, List.setIfInBounds_toArray, List.set_cons_zero, List.set_cons_succ, i64_w, i32_w]
         rfl
        refine pure_ (i := 4) (N := some 41) (v := ?_) (a' := ?_) QB16_5 rfl rfl (Qj HT_.out (by kernel_rfl)) (fun _ _ _ h => h) (Or.inl ⟨by rfl, ?_⟩) ?_ ?_
        rotate_left
        ·
         intro w'
         go_simp
         with_reducible rfl
        rotate_left
        ·
         simp only [Act.put, List.setIfInBounds_toArray, List.set_cons_zero, List.set_cons_succ, i64_w, i32_w]
         rfl
        refine pure_ (i := 5) (N := some 42) (v := ?_) (a' := ?_) QB16_6 rfl rfl (Qj HT_.out (by kernel_rfl)) (fun _ _ _ h => h) (Or.inl ⟨by rfl, ?_⟩) ?_ ?_
        rotate_left
        ·
         intro w'
         go_simp
         with_reducible rfl
        rotate_left
        ·
         simp only [Act.put, List.setIfInBounds_toArray, List.set_cons_zero, List.set_cons_succ, i64_w, i32_w]
         rfl
        refine pure_ (i := 6) (N := some 43) (v := undef) (a' := ?_) QB16_7 rfl rfl (Qj HT_.out (by kernel_rfl)) (fun _ _ _ h => h) (Or.inr ⟨by rfl, rfl⟩) ?_ ?_
        rotate_left
        ·
         simp only [Act.put, List.setIfInBounds_toArray, List.set_cons_zero, List.set_cons_succ, i64_w, i32_w]
         rfl
        refine pure_ (i := 7) (N := some 44) (v := undef) (a' := ?_) QB16_64 rfl rfl (Qj HT_.out (by kernel_rfl)) (fun _ _ _ h => h) (Or.inr ⟨by rfl, rfl⟩) ?_ ?_
        rotate_left
        ·
         simp only [Act.put, List.setIfInBounds_toArray, List.set_cons_zero, List.set_cons_succ, i64_w, i32_w]
         rfl
        refine pure_ (i := 8) (N := some 45) (v := undef) (a' := ?_) QB16_8 rfl rfl (Qj HT_.out (by kernel_rfl)) (fun _ _ _ h => h) (Or.inr ⟨by rfl, rfl⟩) ?_ ?_
        rotate_left
        ·
         simp only [Act.put, List.setIfInBounds_toArray, List.set_cons_zero, List.set_cons_succ, i64_w, i32_w]
         rfl
        refine pure_ (i := 9) (N := some 46) (v := undef) (a' := ?_) QB16_9 rfl rfl (Qj HT_.out (by kernel_rfl)) (fun _ _ _ h => h) (Or.inr ⟨by rfl, rfl⟩) ?_ ?_
        rotate_left
        ·
         simp only [Act.put, List.setIfInBounds_toArray, List.set_cons_zero, List.set_cons_succ, i64_w, i32_w]
         rfl
        refine pure_ (i := 10) (N := some 47) (v := undef) (a' := ?_) QB16_10 rfl rfl (Qj HT_.out (by kernel_rfl)) (fun _ _ _ h => h) (Or.inr ⟨by rfl, rfl⟩) ?_ ?_
        rotate_left
        ·
         simp only [Act.put, List.setIfInBounds_toArray, List.set_cons_zero, List.set_cons_succ, i64_w, i32_w]
         rfl
        refine pure_ (i := 11) (N := some 48) (v := ?_) (a' := ?_) QB16_11 rfl rfl (Qj HT_.out (by kernel_rfl)) (fun _ _ _ h => h) (Or.inl ⟨by rfl, ?_⟩) ?_ ?_
        rotate_left
        ·
         intro w'
         go_simp
         with_reducible rfl
        rotate_left
        ·
         simp only [Act.put, List.setIfInBounds_toArray, List.set_cons_zero, List.set_cons_succ, i64_w, i32_w]
         rfl
        refine pure_ (i := 12) (N := some 49) (v := ?_) (a' := ?_) QB16_12 rfl rfl (Qj HT_.out (by kernel_rfl)) (fun _ _ _ h => h) (Or.inl ⟨by rfl, ?_⟩) ?_ ?_
        rotate_left
        ·
         intro w'
         go_simp
         with_reducible rfl
        rotate_left
        ·
         simp only [Act.put, List.setIfInBounds_toArray, List.set_cons_zero, List.set_cons_succ, i64_w, i32_w]
         rfl
        refine pure_ (i := 13) (N := some 50) (v := ?_) (a' := ?_) QB16_13 rfl rfl (Qj HT_.out (by kernel_rfl)) (fun _ _ _ h => h) (Or.inl ⟨by rfl, ?_⟩) ?_ ?_
        rotate_left
        ·
         intro w'
         go_simp
         with_reducible rfl
        rotate_left
        ·
         simp only [Act.put, List.setIfInBounds_toArray, List.set_cons_zero, List.set_cons_succ, i64_w, i32_w]
         rfl
        refine pure_ (i := 15) (N := some 52) (v := ?_) (a' := ?_) QB16_31 rfl rfl (Qj HT_.out (by kernel_rfl)) (fun _ _ _ h => h) (Or.inl ⟨by rfl, ?_⟩) ?_ ?_
        rotate_left
        ·
         intro w'
         go_simp
         with_reducible rfl
        rotate_left
        ·
         simp only [Act.put, List.setIfInBounds_toArray, List.set_cons_zero, List.set_cons_succ, i64_w, i32_w]
         rfl
        refine take_ (i := 14) (N := some 51) (v := ?_) (a' := ?_) QB16_14 rfl rfl (Qs HT_.out HW_.out (by kernel_rfl)) (fun _ _ _ h => h) (Or.inl ⟨by rfl, ?_⟩) hHeld ?_ ?_
        rotate_left
        ·
         rintro w' ⟨s0, s1, s2, s3, s4, s5⟩
         go_simp
         with_reducible rfl
        rotate_left
        ·
         simp only [Act.put, List.setIfInBounds_toArray, List.set_cons_zero, List.set_cons_succ, i64_w, i32_w]
         rfl
        refine take_ (i := 16) (N := some 53) (v := ?_) (a' := ?_) QB16_15 rfl rfl (Qs HT_.out HW_.out (by kernel_rfl)) (fun _ _ _ h => h) (Or.inl ⟨by rfl, ?_⟩) hHeld ?_ ?_
        rotate_left
        ·
         rintro w' ⟨s0, s1, s2, s3, s4, s5⟩
         go_simp
         with_reducible rfl
        rotate_left
        ·
         simp only [Act.put, List.setIfInBounds_toArray, List.set_cons_zero, List.set_cons_succ, i64_w, i32_w]
         rfl
        refine pure_ (i := 17) (N := some 54) (v := ?_) (a' := ?_) QB16_16 rfl rfl (Qj HT_.out (by kernel_rfl)) (fun _ _ _ h => h) (Or.inl ⟨by rfl, ?_⟩) ?_ ?_
        rotate_left
        ·
         intro w'
         go_simp
         with_reducible rfl
        rotate_left
        ·
         simp only [Act.put, List.setIfInBounds_toArray, List.set_cons_zero, List.set_cons_succ, i64_w, i32_w]
         rfl
        refine pure_ (i := 18) (N := some 55) (v := ?_) (a' := ?_) QB16_17 rfl rfl (Qj HT_.out (by kernel_rfl)) (fun _ _ _ h => h) (Or.inl ⟨by rfl, ?_⟩) ?_ ?_
        rotate_left
        ·
         intro w'
         go_simp
         with_reducible rfl
        rotate_left
        ·
         simp only [Act.put, List.setIfInBounds_toArray, List.set_cons_zero, List.set_cons_succ, i64_w, i32_w]
         rfl
        refine pure_ (i := 19) (N := some 56) (v := undef) (a' := ?_) QB16_18 rfl rfl (Qj HT_.out (by kernel_rfl)) (fun _ _ _ h => h) (Or.inr ⟨by rfl, rfl⟩) ?_ ?_
        rotate_left
        ·
         simp only [Act.put, List.setIfInBounds_toArray, List.set_cons_zero, List.set_cons_succ, i64_w, i32_w]
         rfl
        refine pure_ (i := 20) (N := some 57) (v := undef) (a' := ?_) QB16_65 rfl rfl (Qj HT_.out (by kernel_rfl)) (fun _ _ _ h => h) (Or.inr ⟨by rfl, rfl⟩) ?_ ?_
        rotate_left
        ·
         simp only [Act.put, List.setIfInBounds_toArray, List.set_cons_zero, List.set_cons_succ, i64_w, i32_w]
         rfl
        refine pure_ (i := 21) (N := some 58) (v := undef) (a' := ?_) QB16_19 rfl rfl (Qj HT_.out (by kernel_rfl)) (fun _ _ _ h => h) (Or.inr ⟨by rfl, rfl⟩) ?_ ?_
        rotate_left
        ·
         simp only [Act.put, List.setIfInBounds_toArray, List.set_cons_zero, List.set_cons_succ, i64_w, i32_w]
         rfl
        refine pure_ (i := 22) (N := some 59) (v := undef) (a' := ?_) QB16_20 rfl rfl (Qj HT_.out (by kernel_rfl)) (fun _ _ _ h => h) (Or.inr ⟨by rfl, rfl⟩) ?_ ?_
        rotate_left
        ·
         simp only [Act.put, List.setIfInBounds_toArray, List.set_cons_zero, List.set_cons_succ, i64_w, i32_w]
         rfl
        refine pure_ (i := 23) (N := some 60) (v := undef) (a' := ?_) QB16_21 rfl rfl (Qj HT_.out (by kernel_rfl)) (fun _ _ _ h => h) (Or.inr ⟨by rfl, rfl⟩) ?_ ?_
        rotate_left
        ·
         simp only [Act.put, List.setIfInBounds_toArray, List.set_cons_zero, List.set_cons_succ, i64_w, i32_w]
         rfl
        refine pure_ (i := 24) (N := some 61) (v := ?_) (a' := ?_) QB16_22 rfl rfl (Qj HT_.out (by kernel_rfl)) (fun _ _ _ h => h) (Or.inl ⟨by rfl, ?_⟩) ?_ ?_
        rotate_left
        ·
         intro w'
         go_simp
         with_reducible rfl
        rotate_left
        ·
         simp only [Act.put, List.setIfInBounds_toArray, List.set_cons_zero, List.set_cons_succ, i64_w, i32_w]
         rfl
        refine pure_ (i := 25) (N := some 62) (v := ?_) (a' := ?_) QB16_23 rfl rfl (Qj HT_.out (by kernel_rfl)) (fun _ _ _ h => h) (Or.inl ⟨by rfl, ?_⟩) ?_ ?_
        rotate_left
        ·
         intro w'
         go_simp
         with_reducible rfl
        rotate_left
        ·
         simp only [Act.put, List.setIfInBounds_toArray, List.set_cons_zero, List.set_cons_succ, i64_w, i32_w]
         rfl
        refine pure_ (i := 26) (N := some 63) (v := ?_) (a' := ?_) QB16_24 rfl rfl (Qj HT_.out (by kernel_rfl)) (fun _ _ _ h => h) (Or.inl ⟨by rfl, ?_⟩) ?_ ?_
        rotate_left
        ·
         intro w'
         go_simp
         with_reducible rfl
        rotate_left
        ·
         simp only [Act.put, List.setIfInBounds_toArray, List.set_cons_zero, List.set_cons_succ, i64_w, i32_w]
         rfl
        refine take_ (i := 27) (N := some 64) (v := ?_) (a' := ?_) QB16_25 rfl rfl (Qs HT_.out HW_.out (by kernel_rfl)) (fun _ _ _ h => h) (Or.inl ⟨by rfl, ?_⟩) hHeld ?_ ?_
        rotate_left
        ·
         rintro w' ⟨s0, s1, s2, s3, s4, s5⟩
         go_simp
         with_reducible rfl
        rotate_left
        ·
         simp only [Act.put, List.setIfInBounds_toArray, List.set_cons_zero, List.set_cons_succ, i64_w, i32_w]
         rfl
        refine take_ (i := 28) (N := some 65) (v := ?_) (a' := ?_) QB16_26 rfl rfl (Qs HT_.out HW_.out (by kernel_rfl)) (fun _ _ _ h => h) (Or.inl ⟨by rfl, ?_⟩) hHeld ?_ ?_
        rotate_left
        ·
         rintro w' ⟨s0, s1, s2, s3, s4, s5⟩
         go_simp
         with_reducible rfl
        rotate_left
        ·
         simp only [Act.put, List.setIfInBounds_toArray, List.set_cons_zero, List.set_cons_succ, i64_w, i32_w]
         rfl
        refine take_ (i := 30) (N := some 67) (v := ?_) (a' := ?_) QB16_59 rfl rfl (Qs HT_.out HW_.out (by kernel_rfl)) (fun _ _ _ h => h) (Or.inl ⟨by rfl, ?_⟩) hHeld ?_ ?_
        rotate_left
        ·
         rintro w' ⟨s0, s1, s2, s3, s4, s5⟩
         go_simp
         with_reducible rfl
        rotate_left
        ·
         simp only [Act.put, List.setIfInBounds_toArray, List.set_cons_zero, List.set_cons_succ, i64_w, i32_w]
         rfl
        refine take_ (i := 31) (N := some 68) (v := ?_) (a' := ?_) QB16_60 rfl rfl (Qs HT_.out HW_.out (by kernel_rfl)) (fun _ _ _ h => h) (Or.inl ⟨by rfl, ?_⟩) hHeld ?_ ?_
        rotate_left
        ·
         rintro w' ⟨s0, s1, s2, s3, s4, s5⟩
         go_simp
         with_reducible rfl
        rotate_left
        ·
         simp only [Act.put, List.setIfInBounds_toArray, List.set_cons_zero, List.set_cons_succ, i64_w, i32_w]
         rfl
        refine pure_ (i := 32) (N := some 69) (v := ?_) (a' := ?_) QB16_61 rfl rfl (Qj HT_.out (by kernel_rfl)) (fun _ _ _ h => h) (Or.inl ⟨by rfl, ?_⟩) ?_ ?_
        rotate_left
        ·
         intro w'
         go_simp
         with_reducible rfl
        rotate_left
        ·
         simp only [Act.put, List.setIfInBounds_toArray, List.set_cons_zero, List.set_cons_succ, i64_w, i32_w]
         rfl
        refine one_ (i := 29) (N := some 66) QB16_27 rfl rfl (one_of HT_.out (by kernel_rfl)) (by decide) (fun K hK => ?_)
        refine goes_ Try.func11 (by kernel_rfl) rfl #[.agg #[.int .i64 a0_0, .int .i64 a0_1], .agg #[.int .i64 a1_0, .int .i64 a1_1]] (by rfl) rfl rfl (by (try simp only [List.map_toArray, List.map_cons, List.map_nil]); first | done | rfl | (simp only [List.length_drop, List.length_take]; rfl)) ?_
        with_reducible refine (Qt.calls a0_0 a0_1 a1_0 a1_1 t171 _ A51.out).mono ?_
        rintro e w53 ⟨rfl, hb⟩
        refine ⟨_, rfl, ?_⟩
        have n0_ := Qa.mk (Qk (g := gb159) (o := .cells #[.int .i64 a0_0, .int .i64 a0_1] 29 (0, 0)) (by (with_reducible repeat (first | refine Qc ?_ _ | refine Qb ?_ | refine Qd ?_ _)); exact BK159.out) hb)
        have n1_ := Qa.mk (Qk (g := gb160) (o := .cells #[.int .i64 a1_0, .int .i64 a1_1] 29 (0, 0)) (by (with_reducible repeat (first | refine Qc ?_ _ | refine Qb ?_ | refine Qd ?_ _)); exact BK160.out) hb)
        have n2_ := Qa.mk (Qk (g := gb164) (o := .cells #[.int .i64 t162, .int .i64 t163] 29 (0, 0)) (by (with_reducible repeat (first | refine Qc ?_ _ | refine Qb ?_ | refine Qd ?_ _)); exact BK164.out) hb)
        have n3_ := Qa.mk (Ql (by repeat (first | (with_reducible first | exact HB.out | apply Qg | apply Qh | apply Qf | refine Qe ?_ GE159.out | refine Qe ?_ GE160.out | refine Qe ?_ GE164.out) | exact HB.out)) hb)
        clear BK159
        clear BK160
        clear BK164
        clear HB
        have BK159 := n0_
        have BK160 := n1_
        have BK164 := n2_
        have HB := n3_
        clear n0_ n1_ n2_ n3_
        (try clear hb)
        (try clear hb2)
        (try clear hk)
        (try clear hi)
        refine hK.out _ _ ⟨(Qi BK164.out 0).trans rfl, (Qi BK164.out 1).trans rfl, (Qi BK159.out 0).trans rfl, (Qi BK159.out 1).trans rfl, (Qi BK160.out 0).trans rfl, (Qi BK160.out 1).trans rfl⟩ (fun hHeld => ?_)
        clear hK K
        refine norm_ (a' := ?_) ?_ ?_
        rotate_left
        ·
         show Act.put _ (some 66) _ = _
         simp only [Act.put, List.setIfInBounds_toArray, List.set_cons_zero, List.set_cons_succ, i64_w, i32_w]
         rfl
        refine pure_ (i := 33) (N := some 70) (v := ?_) (a' := ?_) QB16_28 rfl rfl (Qj HT_.out (by kernel_rfl)) (fun _ _ _ h => h) (Or.inl ⟨by rfl, ?_⟩) ?_ ?_
        rotate_left
        ·
         intro w'
         go_simp
         with_reducible rfl
        rotate_left
        ·
         simp only [Act.put, List.setIfInBounds_toArray, List.set_cons_zero, List.set_cons_succ, i64_w, i32_w]
         rfl
        refine pure_ (i := 34) (N := some 71) (v := ?_) (a' := ?_) QB16_29 rfl rfl (Qj HT_.out (by kernel_rfl)) (fun _ _ _ h => h) (Or.inl ⟨by rfl, ?_⟩) ?_ ?_
        rotate_left
        ·
         intro w'
         go_simp
         with_reducible rfl
        rotate_left
        ·
         simp only [Act.put, List.setIfInBounds_toArray, List.set_cons_zero, List.set_cons_succ, i64_w, i32_w]
         rfl
        refine pure_ (i := 35) (N := some 4) (v := ?_) (a' := ?_) QB16_30 rfl rfl (Qj HT_.out (by kernel_rfl)) (fun _ _ _ h => h) (Or.inl ⟨by rfl, ?_⟩) ?_ ?_
        rotate_left
        ·
         intro w'
         go_simp
         with_reducible rfl
        rotate_left
        ·
         simp only [Act.put, List.setIfInBounds_toArray, List.set_cons_zero, List.set_cons_succ, i64_w, i32_w]
         rfl
        refine done_ (done_of HT_.out (by kernel_rfl)) ?_
        try go_wp2
        go_ret
        exact ⟨by first | rfl | (simp [Qp, Qq] <;> rfl) | (simp [*, Qp, Qq] <;> rfl), by repeat (first | (with_reducible first | exact HB.out | apply Qg | apply Qh | apply Qf | refine Qe ?_ GE159.out | refine Qe ?_ GE160.out | refine Qe ?_ GE164.out) | exact HB.out)⟩
       ·
        rw [if_neg c50] at H
        have c50b0 : (t163 == a0_1) = false := beq_eq_false_iff_ne.mpr c50
        have c50b1 : (t163 != a0_1) = true := bne_iff_ne.mpr c50
        by_cases c54 : t163 = a1_1
        ·
         rw [if_pos c54] at H
         have c54b0 : (t163 == a1_1) = true := beq_iff_eq.mpr c54
         have c54b1 : (t163 != a1_1) = false := bne_eq_false_iff_eq.mpr c54
         clear c54
         replace H := Option.bind_eq_some_iff.mp H
         obtain ⟨t172, A550, H⟩ := H
         replace H : (some (t172 == (t162 == a1_0 && (t163 == a1_1)))) = some r := H
         have A55 := Qa.mk A550
         clear A550
         obtain rfl := Option.some.inj H
         try go_wp2
         have n0_ := Qa.mk (Qb BK159.out)
         have n1_ := Qa.mk (Qb BK160.out)
         have n2_ := Qa.mk (Qb BK164.out)
         have n3_ := Qa.mk (Qf HB.out)
         clear BK159
         clear BK160
         clear BK164
         clear HB
         have BK159 := n0_
         have BK160 := n1_
         have BK164 := n2_
         have HB := n3_
         clear n0_ n1_ n2_ n3_
         refine start_ (n := 36) (S := fun w' => w'.cell? ⟨gb164, 0, none⟩ = some (.int .i64 t162) ∧ w'.cell? ⟨gb164, 1, none⟩ = some (.int .i64 t163) ∧ w'.cell? ⟨gb159, 0, none⟩ = some (.int .i64 a0_0) ∧ w'.cell? ⟨gb159, 1, none⟩ = some (.int .i64 a0_1) ∧ w'.cell? ⟨gb160, 0, none⟩ = some (.int .i64 a1_0) ∧ w'.cell? ⟨gb160, 1, none⟩ = some (.int .i64 a1_1)) (ds := []) QB16_0 (by kernel_rfl) rfl rfl ⟨(Qi BK164.out 0).trans rfl, (Qi BK164.out 1).trans rfl, (Qi BK159.out 0).trans rfl, (Qi BK159.out 1).trans rfl, (Qi BK160.out 0).trans rfl, (Qi BK160.out 1).trans rfl⟩ (fun hHeld => ?_); refine with_tabW Qy.tab6 Qy.bits6 (fun HT_ HW_ => ?_)
         generalize w47.drew = w56 at BK159 BK160 BK164 HB hHeld ⊢
         refine pure_ (i := 0) (N := some 37) (v := ?_) (a' := ?_) QB16_1 rfl rfl (Qj HT_.out (by kernel_rfl)) (fun _ _ _ h => h) (Or.inl ⟨by rfl, ?_⟩) ?_ ?_
         rotate_left
         ·
          intro w'
          go_simp
          with_reducible rfl
         rotate_left
         ·
          simp only [Act.put, List.setIfInBounds_toArray, List.set_cons_zero, List.set_cons_succ, i64_w, i32_w]
          rfl
         refine pure_ (i := 2) (N := some 39) (v := ?_) (a' := ?_) QB16_2 rfl rfl (Qj HT_.out (by kernel_rfl)) (fun _ _ _ h => h) (Or.inl ⟨by rfl, ?_⟩) ?_ ?_
         rotate_left
         ·
          intro w'
          go_simp
          with_reducible rfl
         rotate_left
         ·
          simp only [Act.put, List.setIfInBounds_toArray, List.set_cons_zero, List.set_cons_succ, i64_w, i32_w]
          rfl
         refine take_ (i := 1) (N := some 38) (v := ?_) (a' := ?_) QB16_3 rfl rfl (Qs HT_.out HW_.out (by kernel_rfl)) (fun _ _ _ h => h) (Or.inl ⟨by rfl, ?_⟩) hHeld ?_ ?_
         rotate_left
         ·
          rintro w' ⟨s0, s1, s2, s3, s4, s5⟩
          go_simp
          with_reducible rfl
         rotate_left
         ·
          simp only [Act.put, List.setIfInBounds_toArray, List.set_cons_zero, List.set_cons_succ, i64_w, i32_w]
          rfl
         refine take_ (i := 3) (N := some 40) (v := ?_) (a' := ?_) QB16_4 rfl rfl (Qs HT_.out HW_.out (by kernel_rfl)) (fun _ _ _ h => h) (Or.inl ⟨by rfl, ?_⟩) hHeld ?_ ?_
         rotate_left
         ·
          rintro w' ⟨s0, s1, s2, s3, s4, s5⟩
          go_simp
          with_reducible rfl
         rotate_left
         ·
          simp only [Act.put, List.setIfInBounds_toArray, List.set_cons_zero, List.set_cons_succ, i64_w, i32_w]
          rfl
         refine pure_ (i := 4) (N := some 41) (v := ?_) (a' := ?_) QB16_5 rfl rfl (Qj HT_.out (by kernel_rfl)) (fun _ _ _ h => h) (Or.inl ⟨by rfl, ?_⟩) ?_ ?_
         rotate_left
         ·
          intro w'
          go_simp
          with_reducible rfl
         rotate_left
         ·
          simp only [Act.put, List.setIfInBounds_toArray, List.set_cons_zero, List.set_cons_succ, i64_w, i32_w]
          rfl
         refine pure_ (i := 5) (N := some 42) (v := ?_) (a' := ?_) QB16_6 rfl rfl (Qj HT_.out (by kernel_rfl)) (fun _ _ _ h => h) (Or.inl ⟨by rfl, ?_⟩) ?_ ?_
         rotate_left
         ·
          intro w'
          go_simp
          with_reducible rfl
         rotate_left
         ·
          simp only [Act.put, List.setIfInBounds_toArray, List.set_cons_zero, List.set_cons_succ, i64_w, i32_w]
          rfl
         refine pure_ (i := 6) (N := some 43) (v := undef) (a' := ?_) QB16_7 rfl rfl (Qj HT_.out (by kernel_rfl)) (fun _ _ _ h => h) (Or.inr ⟨by rfl, rfl⟩) ?_ ?_
         rotate_left
         ·
          simp only [Act.put, List.setIfInBounds_toArray, List.set_cons_zero, List.set_cons_succ, i64_w, i32_w]
          rfl
         refine pure_ (i := 7) (N := some 44) (v := undef) (a' := ?_) QB16_64 rfl rfl (Qj HT_.out (by kernel_rfl)) (fun _ _ _ h => h) (Or.inr ⟨by rfl, rfl⟩) ?_ ?_
         rotate_left
         ·
          simp only [Act.put, List.setIfInBounds_toArray, List.set_cons_zero, List.set_cons_succ, i64_w, i32_w]
          rfl
         refine pure_ (i := 8) (N := some 45) (v := undef) (a' := ?_) QB16_8 rfl rfl (Qj HT_.out (by kernel_rfl)) (fun _ _ _ h => h) (Or.inr ⟨by rfl, rfl⟩) ?_ ?_
         rotate_left
         ·
          simp only [Act.put, List.setIfInBounds_toArray, List.set_cons_zero, List.set_cons_succ, i64_w, i32_w]
          rfl
         refine pure_ (i := 9) (N := some 46) (v := undef) (a' := ?_) QB16_9 rfl rfl (Qj HT_.out (by kernel_rfl)) (fun _ _ _ h => h) (Or.inr ⟨by rfl, rfl⟩) ?_ ?_
         rotate_left
         ·
          simp only [Act.put, List.setIfInBounds_toArray, List.set_cons_zero, List.set_cons_succ, i64_w, i32_w]
          rfl
         refine pure_ (i := 10) (N := some 47) (v := undef) (a' := ?_) QB16_10 rfl rfl (Qj HT_.out (by kernel_rfl)) (fun _ _ _ h => h) (Or.inr ⟨by rfl, rfl⟩) ?_ ?_
         rotate_left
         ·
          simp only [Act.put, List.setIfInBounds_toArray, List.set_cons_zero, List.set_cons_succ, i64_w, i32_w]
          rfl
         refine pure_ (i := 11) (N := some 48) (v := ?_) (a' := ?_) QB16_11 rfl rfl (Qj HT_.out (by kernel_rfl)) (fun _ _ _ h => h) (Or.inl ⟨by rfl, ?_⟩) ?_ ?_
         rotate_left
         ·
          intro w'
          go_simp
          with_reducible rfl
         rotate_left
         ·
          simp only [Act.put, List.setIfInBounds_toArray, List.set_cons_zero, List.set_cons_succ, i64_w, i32_w]
          rfl
         refine pure_ (i := 12) (N := some 49) (v := ?_) (a' := ?_) QB16_12 rfl rfl (Qj HT_.out (by kernel_rfl)) (fun _ _ _ h => h) (Or.inl ⟨by rfl, ?_⟩) ?_ ?_
         rotate_left
         ·
          intro w'
          go_simp
          with_reducible rfl
         rotate_left
         ·
          simp only [Act.put, List.setIfInBounds_toArray, List.set_cons_zero, List.set_cons_succ, i64_w, i32_w]
          rfl
         refine pure_ (i := 13) (N := some 50) (v := ?_) (a' := ?_) QB16_13 rfl rfl (Qj HT_.out (by kernel_rfl)) (fun _ _ _ h => h) (Or.inl ⟨by rfl, ?_⟩) ?_ ?_
         rotate_left
         ·
          intro w'
          go_simp
          with_reducible rfl
         rotate_left
         ·
          simp only [Act.put, List.setIfInBounds_toArray, List.set_cons_zero, List.set_cons_succ, i64_w, i32_w]
          rfl
         refine pure_ (i := 15) (N := some 52) (v := ?_) (a' := ?_) QB16_31 rfl rfl (Qj HT_.out (by kernel_rfl)) (fun _ _ _ h => h) (Or.inl ⟨by rfl, ?_⟩) ?_ ?_
         rotate_left
         ·
          intro w'
          go_simp
          with_reducible rfl
         rotate_left
         ·
          simp only [Act.put, List.setIfInBounds_toArray, List.set_cons_zero, List.set_cons_succ, i64_w, i32_w]
          rfl
         refine take_ (i := 14) (N := some 51) (v := ?_) (a' := ?_) QB16_14 rfl rfl (Qs HT_.out HW_.out (by kernel_rfl)) (fun _ _ _ h => h) (Or.inl ⟨by rfl, ?_⟩) hHeld ?_ ?_
         rotate_left
         ·
          rintro w' ⟨s0, s1, s2, s3, s4, s5⟩
          go_simp
          with_reducible rfl
         rotate_left
         ·
          simp only [Act.put, List.setIfInBounds_toArray, List.set_cons_zero, List.set_cons_succ, i64_w, i32_w]
          rfl
         refine take_ (i := 16) (N := some 53) (v := ?_) (a' := ?_) QB16_15 rfl rfl (Qs HT_.out HW_.out (by kernel_rfl)) (fun _ _ _ h => h) (Or.inl ⟨by rfl, ?_⟩) hHeld ?_ ?_
         rotate_left
         ·
          rintro w' ⟨s0, s1, s2, s3, s4, s5⟩
          go_simp
          with_reducible rfl
         rotate_left
         ·
          simp only [Act.put, List.setIfInBounds_toArray, List.set_cons_zero, List.set_cons_succ, i64_w, i32_w]
          rfl
         refine pure_ (i := 17) (N := some 54) (v := ?_) (a' := ?_) QB16_16 rfl rfl (Qj HT_.out (by kernel_rfl)) (fun _ _ _ h => h) (Or.inl ⟨by rfl, ?_⟩) ?_ ?_
         rotate_left
         ·
          intro w'
          go_simp
          with_reducible rfl
         rotate_left
         ·
          simp only [Act.put, List.setIfInBounds_toArray, List.set_cons_zero, List.set_cons_succ, i64_w, i32_w]
          rfl
         refine pure_ (i := 18) (N := some 55) (v := ?_) (a' := ?_) QB16_17 rfl rfl (Qj HT_.out (by kernel_rfl)) (fun _ _ _ h => h) (Or.inl ⟨by rfl, ?_⟩) ?_ ?_
         rotate_left
         ·
          intro w'
          go_simp
          with_reducible rfl
         rotate_left
         ·
          simp only [Act.put, List.setIfInBounds_toArray, List.set_cons_zero, List.set_cons_succ, i64_w, i32_w]
          rfl
         refine pure_ (i := 19) (N := some 56) (v := ?_) (a' := ?_) QB16_18 rfl rfl (Qj HT_.out (by kernel_rfl)) (fun _ _ _ h => h) (Or.inl ⟨by rfl, ?_⟩) ?_ ?_
         rotate_left
         ·
          intro w'
          go_simp
          with_reducible rfl
         rotate_left
         ·
          simp only [Act.put, List.setIfInBounds_toArray, List.set_cons_zero, List.set_cons_succ, i64_w, i32_w]
          rfl
         refine pure_ (i := 21) (N := some 58) (v := ?_) (a' := ?_) QB16_62 rfl rfl (Qj HT_.out (by kernel_rfl)) (fun _ _ _ h => h) (Or.inl ⟨by rfl, ?_⟩) ?_ ?_
         rotate_left
         ·
          intro w'
          go_simp
          with_reducible rfl
         rotate_left
         ·
          simp only [Act.put, List.setIfInBounds_toArray, List.set_cons_zero, List.set_cons_succ, i64_w, i32_w]
          rfl
         refine take_ (i := 20) (N := some 57) (v := ?_) (a' := ?_) QB16_19 rfl rfl (Qs HT_.out HW_.out (by kernel_rfl)) (fun _ _ _ h => h) (Or.inl ⟨by rfl, ?_⟩) hHeld ?_ ?_
         rotate_left
         ·
          rintro w' ⟨s0, s1, s2, s3, s4, s5⟩
          go_simp
          with_reducible rfl
         rotate_left
         ·
          simp only [Act.put, List.setIfInBounds_toArray, List.set_cons_zero, List.set_cons_succ, i64_w, i32_w]
          rfl
         refine take_ (i := 22) (N := some 59) (v := ?_) (a' := ?_) QB16_20 rfl rfl (Qs HT_.out HW_.out (by kernel_rfl)) (fun _ _ _ h => h) (Or.inl ⟨by rfl, ?_⟩) hHeld ?_ ?_
         rotate_left
         ·
          rintro w' ⟨s0, s1, s2, s3, s4, s5⟩
          go_simp
          with_reducible rfl
         rotate_left
         ·
          simp only [Act.put, List.setIfInBounds_toArray, List.set_cons_zero, List.set_cons_succ, i64_w, i32_w]
          rfl
         refine pure_ (i := 23) (N := some 60) (v := ?_) (a' := ?_) QB16_21 rfl rfl (Qj HT_.out (by kernel_rfl)) (fun _ _ _ h => h) (Or.inl ⟨by rfl, ?_⟩) ?_ ?_
         rotate_left
         ·
          intro w'
          go_simp
          with_reducible rfl
         rotate_left
         ·
          simp only [Act.put, List.setIfInBounds_toArray, List.set_cons_zero, List.set_cons_succ, i64_w, i32_w]
          rfl
         refine pure_ (i := 24) (N := some 61) (v := ?_) (a' := ?_) QB16_22 rfl rfl (Qj HT_.out (by kernel_rfl)) (fun _ _ _ h => h) (Or.inl ⟨by rfl, ?_⟩) ?_ ?_
         rotate_left
         ·
          intro w'
          go_simp
          with_reducible rfl
         rotate_left
         ·
          simp only [Act.put, List.setIfInBounds_toArray, List.set_cons_zero, List.set_cons_succ, i64_w, i32_w]
          rfl
         refine pure_ (i := 25) (N := some 62) (v := ?_) (a' := ?_) QB16_23 rfl rfl (Qj HT_.out (by kernel_rfl)) (fun _ _ _ h => h) (Or.inl ⟨by rfl, ?_⟩) ?_ ?_
         rotate_left
         ·
          intro w'
          go_simp
          with_reducible rfl
         rotate_left
         ·
          simp only [Act.put, List.setIfInBounds_toArray, List.set_cons_zero, List.set_cons_succ, i64_w, i32_w]
          rfl
         refine pure_ (i := 26) (N := some 63) (v := ?_) (a' := ?_) QB16_24 rfl rfl (Qj HT_.out (by kernel_rfl)) (fun _ _ _ h => h) (Or.inl ⟨by rfl, ?_⟩) ?_ ?_
         rotate_left
         ·
          intro w'
          go_simp
          with_reducible rfl
         rotate_left
         ·
          simp only [Act.put, List.setIfInBounds_toArray, List.set_cons_zero, List.set_cons_succ, i64_w, i32_w]
          rfl
         refine take_ (i := 27) (N := some 64) (v := ?_) (a' := ?_) QB16_25 rfl rfl (Qs HT_.out HW_.out (by kernel_rfl)) (fun _ _ _ h => h) (Or.inl ⟨by rfl, ?_⟩) hHeld ?_ ?_
         rotate_left
         ·
          rintro w' ⟨s0, s1, s2, s3, s4, s5⟩
          go_simp
          with_reducible rfl
         rotate_left
         ·
          simp only [Act.put, List.setIfInBounds_toArray, List.set_cons_zero, List.set_cons_succ, i64_w, i32_w]
          rfl
         refine take_ (i := 28) (N := some 65) (v := ?_) (a' := ?_) QB16_26 rfl rfl (Qs HT_.out HW_.out (by kernel_rfl)) (fun _ _ _ h => h) (Or.inl ⟨by rfl, ?_⟩) hHeld ?_ ?_
         rotate_left
         ·
          rintro w' ⟨s0, s1, s2, s3, s4, s5⟩
          go_simp
          with_reducible rfl
         rotate_left
         ·
          simp only [Act.put, List.setIfInBounds_toArray, List.set_cons_zero, List.set_cons_succ, i64_w, i32_w]
          rfl
         refine take_ (i := 30) (N := some 67) (v := ?_) (a' := ?_) QB16_59 rfl rfl (Qs HT_.out HW_.out (by kernel_rfl)) (fun _ _ _ h => h) (Or.inl ⟨by rfl, ?_⟩) hHeld ?_ ?_
         rotate_left
         ·
          rintro w' ⟨s0, s1, s2, s3, s4, s5⟩
          go_simp
          with_reducible rfl
         rotate_left
         ·
          simp only [Act.put, List.setIfInBounds_toArray, List.set_cons_zero, List.set_cons_succ, i64_w, i32_w]
          rfl
         refine take_ (i := 31) (N := some 68) (v := ?_) (a' := ?_) QB16_60 rfl rfl (Qs HT_.out HW_.out (by kernel_rfl)) (fun _ _ _ h => h) (Or.inl ⟨by rfl, ?_⟩) hHeld ?_ ?_
         rotate_left
         ·
          rintro w' ⟨s0, s1, s2, s3, s4, s5⟩
          go_simp
          with_reducible rfl
         rotate_left
         ·
          simp only [Act.put, List.setIfInBounds_toArray, List.set_cons_zero, List.set_cons_succ, i64_w, i32_w]
          rfl
         refine pure_ (i := 32) (N := some 69) (v := ?_) (a' := ?_) QB16_61 rfl rfl (Qj HT_.out (by kernel_rfl)) (fun _ _ _ h => h) (Or.inl ⟨by rfl, ?_⟩) ?_ ?_
         rotate_left
         ·
          intro w'
          go_simp
          with_reducible rfl
         rotate_left
         ·
          simp only [Act.put, List.setIfInBounds_toArray, List.set_cons_zero, List.set_cons_succ, i64_w, i32_w]
          rfl
         refine one_ (i := 29) (N := some 66) QB16_27 rfl rfl (one_of HT_.out (by kernel_rfl)) (by decide) (fun K hK => ?_)
         refine goes_ Try.func11 (by kernel_rfl) rfl #[.agg #[.int .i64 a0_0, .int .i64 a0_1], .agg #[.int .i64 a1_0, .int .i64 a1_1]] (by rfl) rfl rfl (by (try simp only [List.map_toArray, List.map_cons, List.map_nil]); first | done | rfl | (simp only [List.length_drop, List.length_take]; rfl)) ?_
         with_reducible refine (Qt.calls a0_0 a0_1 a1_0 a1_1 t172 _ A55.out).mono ?_
         rintro e w57 ⟨rfl, hb⟩
         refine ⟨_, rfl, ?_⟩
         have n0_ := Qa.mk (Qk (g := gb159) (o := .cells #[.int .i64 a0_0, .int .i64 a0_1] 29 (0, 0)) (by (with_reducible repeat (first | refine Qc ?_ _ | refine Qb ?_ | refine Qd ?_ _)); exact BK159.out) hb)
         have n1_ := Qa.mk (Qk (g := gb160) (o := .cells #[.int .i64 a1_0, .int .i64 a1_1] 29 (0, 0)) (by (with_reducible repeat (first | refine Qc ?_ _ | refine Qb ?_ | refine Qd ?_ _)); exact BK160.out) hb)
         have n2_ := Qa.mk (Qk (g := gb164) (o := .cells #[.int .i64 t162, .int .i64 t163] 29 (0, 0)) (by (with_reducible repeat (first | refine Qc ?_ _ | refine Qb ?_ | refine Qd ?_ _)); exact BK164.out) hb)
         have n3_ := Qa.mk (Ql (by repeat (first | (with_reducible first | exact HB.out | apply Qg | apply Qh | apply Qf | refine Qe ?_ GE159.out | refine Qe ?_ GE160.out | refine Qe ?_ GE164.out) | exact HB.out)) hb)
         clear BK159
         clear BK160
         clear BK164
         clear HB
         have BK159 := n0_
         have BK160 := n1_
         have BK164 := n2_
         have HB := n3_
         clear n0_ n1_ n2_ n3_
         (try clear hb)
         (try clear hb2)
         (try clear hk)
         (try clear hi)
         refine hK.out _ _ ⟨(Qi BK164.out 0).trans rfl, (Qi BK164.out 1).trans rfl, (Qi BK159.out 0).trans rfl, (Qi BK159.out 1).trans rfl, (Qi BK160.out 0).trans rfl, (Qi BK160.out 1).trans rfl⟩ (fun hHeld => ?_)
         clear hK K
         refine norm_ (a' := ?_) ?_ ?_
         rotate_left
         ·
          show Act.put _ (some 66) _ = _
          simp only [Act.put, List.setIfInBounds_toArray, List.set_cons_zero, List.set_cons_succ, i64_w, i32_w]
          rfl
         refine pure_ (i := 33) (N := some 70) (v := ?_) (a' := ?_) QB16_28 rfl rfl (Qj HT_.out (by kernel_rfl)) (fun _ _ _ h => h) (Or.inl ⟨by rfl, ?_⟩) ?_ ?_
         rotate_left
         ·
          intro w'
          go_simp
          with_reducible rfl
         rotate_left
         ·
          simp only [Act.put, List.setIfInBounds_toArray, List.set_cons_zero, List.set_cons_succ, i64_w, i32_w]
          rfl
         refine pure_ (i := 34) (N := some 71) (v := ?_) (a' := ?_) QB16_29 rfl rfl (Qj HT_.out (by kernel_rfl)) (fun _ _ _ h => h) (Or.inl ⟨by rfl, ?_⟩) ?_ ?_
         rotate_left
         ·
          intro w'
          go_simp
          with_reducible rfl
         rotate_left
         ·
          simp only [Act.put, List.setIfInBounds_toArray, List.set_cons_zero, List.set_cons_succ, i64_w, i32_w]
          rfl
         refine pure_ (i := 35) (N := some 4) (v := ?_) (a' := ?_) QB16_30 rfl rfl (Qj HT_.out (by kernel_rfl)) (fun _ _ _ h => h) (Or.inl ⟨by rfl, ?_⟩) ?_ ?_
         rotate_left
         ·
          intro w'
          go_simp
          with_reducible rfl
         rotate_left
         ·
          simp only [Act.put, List.setIfInBounds_toArray, List.set_cons_zero, List.set_cons_succ, i64_w, i32_w]
          rfl
         refine done_ (done_of HT_.out (by kernel_rfl)) ?_
         try go_wp2
         go_ret
         exact ⟨by first | rfl | (simp [Qp, Qq] <;> rfl) | (simp [*, Qp, Qq] <;> rfl), by repeat (first | (with_reducible first | exact HB.out | apply Qg | apply Qh | apply Qf | refine Qe ?_ GE159.out | refine Qe ?_ GE160.out | refine Qe ?_ GE164.out) | exact HB.out)⟩
        ·
         rw [if_neg c54] at H
         have c54b0 : (t163 == a1_1) = false := beq_eq_false_iff_ne.mpr c54
         have c54b1 : (t163 != a1_1) = true := bne_iff_ne.mpr c54
         obtain rfl := Option.some.inj H
         try go_wp2
         have n0_ := Qa.mk (Qb BK159.out)
         have n1_ := Qa.mk (Qb BK160.out)
         have n2_ := Qa.mk (Qb BK164.out)
         have n3_ := Qa.mk (Qf HB.out)
         clear BK159
         clear BK160
         clear BK164
         clear HB
         have BK159 := n0_
         have BK160 := n1_
         have BK164 := n2_
         have HB := n3_
         clear n0_ n1_ n2_ n3_
         refine start_ (n := 36) (S := fun w' => w'.cell? ⟨gb164, 0, none⟩ = some (.int .i64 t162) ∧ w'.cell? ⟨gb164, 1, none⟩ = some (.int .i64 t163) ∧ w'.cell? ⟨gb159, 0, none⟩ = some (.int .i64 a0_0) ∧ w'.cell? ⟨gb159, 1, none⟩ = some (.int .i64 a0_1) ∧ w'.cell? ⟨gb160, 0, none⟩ = some (.int .i64 a1_0) ∧ w'.cell? ⟨gb160, 1, none⟩ = some (.int .i64 a1_1)) (ds := []) QB16_0 (by kernel_rfl) rfl rfl ⟨(Qi BK164.out 0).trans rfl, (Qi BK164.out 1).trans rfl, (Qi BK159.out 0).trans rfl, (Qi BK159.out 1).trans rfl, (Qi BK160.out 0).trans rfl, (Qi BK160.out 1).trans rfl⟩ (fun hHeld => ?_); refine with_tabW Qy.tab6 Qy.bits6 (fun HT_ HW_ => ?_)
         generalize w47.drew = w58 at BK159 BK160 BK164 HB hHeld ⊢
         refine pure_ (i := 0) (N := some 37) (v := ?_) (a' := ?_) QB16_1 rfl rfl (Qj HT_.out (by kernel_rfl)) (fun _ _ _ h => h) (Or.inl ⟨by rfl, ?_⟩) ?_ ?_
         rotate_left
         ·
          intro w'
          go_simp
          with_reducible rfl
         rotate_left
         ·
          simp only [Act.put, List.setIfInBounds_toArray, List.set_cons_zero, List.set_cons_succ, i64_w, i32_w]
          rfl
         refine pure_ (i := 2) (N := some 39) (v := ?_) (a' := ?_) QB16_2 rfl rfl (Qj HT_.out (by kernel_rfl)) (fun _ _ _ h => h) (Or.inl ⟨by rfl, ?_⟩) ?_ ?_
         rotate_left
         ·
          intro w'
          go_simp
          with_reducible rfl
         rotate_left
         ·
          simp only [Act.put, List.setIfInBounds_toArray, List.set_cons_zero, List.set_cons_succ, i64_w, i32_w]
          rfl
         refine take_ (i := 1) (N := some 38) (v := ?_) (a' := ?_) QB16_3 rfl rfl (Qs HT_.out HW_.out (by kernel_rfl)) (fun _ _ _ h => h) (Or.inl ⟨by rfl, ?_⟩) hHeld ?_ ?_
         rotate_left
         ·
          rintro w' ⟨s0, s1, s2, s3, s4, s5⟩
          go_simp
          with_reducible rfl
         rotate_left
         ·
          simp only [Act.put, List.setIfInBounds_toArray, List.set_cons_zero, List.set_cons_succ, i64_w, i32_w]
          rfl
         refine take_ (i := 3) (N := some 40) (v := ?_) (a' := ?_) QB16_4 rfl rfl (Qs HT_.out HW_.out (by kernel_rfl)) (fun _ _ _ h => h) (Or.inl ⟨by rfl, ?_⟩) hHeld ?_ ?_
         rotate_left
         ·
          rintro w' ⟨s0, s1, s2, s3, s4, s5⟩
          go_simp
          with_reducible rfl
         rotate_left
         ·
          simp only [Act.put, List.setIfInBounds_toArray, List.set_cons_zero, List.set_cons_succ, i64_w, i32_w]
          rfl
         refine pure_ (i := 4) (N := some 41) (v := ?_) (a' := ?_) QB16_5 rfl rfl (Qj HT_.out (by kernel_rfl)) (fun _ _ _ h => h) (Or.inl ⟨by rfl, ?_⟩) ?_ ?_
         rotate_left
         ·
          intro w'
          go_simp
          with_reducible rfl
         rotate_left
         ·
          simp only [Act.put, List.setIfInBounds_toArray, List.set_cons_zero, List.set_cons_succ, i64_w, i32_w]
          rfl
         refine pure_ (i := 5) (N := some 42) (v := ?_) (a' := ?_) QB16_6 rfl rfl (Qj HT_.out (by kernel_rfl)) (fun _ _ _ h => h) (Or.inl ⟨by rfl, ?_⟩) ?_ ?_
         rotate_left
         ·
          intro w'
          go_simp
          with_reducible rfl
         rotate_left
         ·
          simp only [Act.put, List.setIfInBounds_toArray, List.set_cons_zero, List.set_cons_succ, i64_w, i32_w]
          rfl
         refine pure_ (i := 6) (N := some 43) (v := undef) (a' := ?_) QB16_7 rfl rfl (Qj HT_.out (by kernel_rfl)) (fun _ _ _ h => h) (Or.inr ⟨by rfl, rfl⟩) ?_ ?_
         rotate_left
         ·
          simp only [Act.put, List.setIfInBounds_toArray, List.set_cons_zero, List.set_cons_succ, i64_w, i32_w]
          rfl
         refine pure_ (i := 7) (N := some 44) (v := undef) (a' := ?_) QB16_64 rfl rfl (Qj HT_.out (by kernel_rfl)) (fun _ _ _ h => h) (Or.inr ⟨by rfl, rfl⟩) ?_ ?_
         rotate_left
         ·
          simp only [Act.put, List.setIfInBounds_toArray, List.set_cons_zero, List.set_cons_succ, i64_w, i32_w]
          rfl
         refine pure_ (i := 8) (N := some 45) (v := undef) (a' := ?_) QB16_8 rfl rfl (Qj HT_.out (by kernel_rfl)) (fun _ _ _ h => h) (Or.inr ⟨by rfl, rfl⟩) ?_ ?_
         rotate_left
         ·
          simp only [Act.put, List.setIfInBounds_toArray, List.set_cons_zero, List.set_cons_succ, i64_w, i32_w]
          rfl
         refine pure_ (i := 9) (N := some 46) (v := undef) (a' := ?_) QB16_9 rfl rfl (Qj HT_.out (by kernel_rfl)) (fun _ _ _ h => h) (Or.inr ⟨by rfl, rfl⟩) ?_ ?_
         rotate_left
         ·
          simp only [Act.put, List.setIfInBounds_toArray, List.set_cons_zero, List.set_cons_succ, i64_w, i32_w]
          rfl
         refine pure_ (i := 10) (N := some 47) (v := undef) (a' := ?_) QB16_10 rfl rfl (Qj HT_.out (by kernel_rfl)) (fun _ _ _ h => h) (Or.inr ⟨by rfl, rfl⟩) ?_ ?_
         rotate_left
         ·
          simp only [Act.put, List.setIfInBounds_toArray, List.set_cons_zero, List.set_cons_succ, i64_w, i32_w]
          rfl
         refine pure_ (i := 11) (N := some 48) (v := ?_) (a' := ?_) QB16_11 rfl rfl (Qj HT_.out (by kernel_rfl)) (fun _ _ _ h => h) (Or.inl ⟨by rfl, ?_⟩) ?_ ?_
         rotate_left
         ·
          intro w'
          go_simp
          with_reducible rfl
         rotate_left
         ·
          simp only [Act.put, List.setIfInBounds_toArray, List.set_cons_zero, List.set_cons_succ, i64_w, i32_w]
          rfl
         refine pure_ (i := 12) (N := some 49) (v := ?_) (a' := ?_) QB16_12 rfl rfl (Qj HT_.out (by kernel_rfl)) (fun _ _ _ h => h) (Or.inl ⟨by rfl, ?_⟩) ?_ ?_
         rotate_left
         ·
          intro w'
          go_simp
          with_reducible rfl
         rotate_left
         ·
          simp only [Act.put, List.setIfInBounds_toArray, List.set_cons_zero, List.set_cons_succ, i64_w, i32_w]
          rfl
         refine pure_ (i := 13) (N := some 50) (v := ?_) (a' := ?_) QB16_13 rfl rfl (Qj HT_.out (by kernel_rfl)) (fun _ _ _ h => h) (Or.inl ⟨by rfl, ?_⟩) ?_ ?_
         rotate_left
         ·
          intro w'
          go_simp
          with_reducible rfl
         rotate_left
         ·
          simp only [Act.put, List.setIfInBounds_toArray, List.set_cons_zero, List.set_cons_succ, i64_w, i32_w]
          rfl
         refine pure_ (i := 15) (N := some 52) (v := ?_) (a' := ?_) QB16_31 rfl rfl (Qj HT_.out (by kernel_rfl)) (fun _ _ _ h => h) (Or.inl ⟨by rfl, ?_⟩) ?_ ?_
         rotate_left
         ·
          intro w'
          go_simp
          with_reducible rfl
         rotate_left
         ·
          simp only [Act.put, List.setIfInBounds_toArray, List.set_cons_zero, List.set_cons_succ, i64_w, i32_w]
          rfl
         refine take_ (i := 14) (N := some 51) (v := ?_) (a' := ?_) QB16_14 rfl rfl (Qs HT_.out HW_.out (by kernel_rfl)) (fun _ _ _ h => h) (Or.inl ⟨by rfl, ?_⟩) hHeld ?_ ?_
         rotate_left
         ·
          rintro w' ⟨s0, s1, s2, s3, s4, s5⟩
          go_simp
          with_reducible rfl
         rotate_left
         ·
          simp only [Act.put, List.setIfInBounds_toArray, List.set_cons_zero, List.set_cons_succ, i64_w, i32_w]
          rfl
         refine take_ (i := 16) (N := some 53) (v := ?_) (a' := ?_) QB16_15 rfl rfl (Qs HT_.out HW_.out (by kernel_rfl)) (fun _ _ _ h => h) (Or.inl ⟨by rfl, ?_⟩) hHeld ?_ ?_
         rotate_left
         ·
          rintro w' ⟨s0, s1, s2, s3, s4, s5⟩
          go_simp
          with_reducible rfl
         rotate_left
         ·
          simp only [Act.put, List.setIfInBounds_toArray, List.set_cons_zero, List.set_cons_succ, i64_w, i32_w]
          rfl
         refine pure_ (i := 17) (N := some 54) (v := ?_) (a' := ?_) QB16_16 rfl rfl (Qj HT_.out (by kernel_rfl)) (fun _ _ _ h => h) (Or.inl ⟨by rfl, ?_⟩) ?_ ?_
         rotate_left
         ·
          intro w'
          go_simp
          with_reducible rfl
         rotate_left
         ·
          simp only [Act.put, List.setIfInBounds_toArray, List.set_cons_zero, List.set_cons_succ, i64_w, i32_w]
          rfl
         refine pure_ (i := 18) (N := some 55) (v := ?_) (a' := ?_) QB16_17 rfl rfl (Qj HT_.out (by kernel_rfl)) (fun _ _ _ h => h) (Or.inl ⟨by rfl, ?_⟩) ?_ ?_
         rotate_left
         ·
          intro w'
          go_simp
          with_reducible rfl
         rotate_left
         ·
          simp only [Act.put, List.setIfInBounds_toArray, List.set_cons_zero, List.set_cons_succ, i64_w, i32_w]
          rfl
         refine pure_ (i := 19) (N := some 56) (v := ?_) (a' := ?_) QB16_18 rfl rfl (Qj HT_.out (by kernel_rfl)) (fun _ _ _ h => h) (Or.inl ⟨by rfl, ?_⟩) ?_ ?_
         rotate_left
         ·
          intro w'
          go_simp
          with_reducible rfl
         rotate_left
         ·
          simp only [Act.put, List.setIfInBounds_toArray, List.set_cons_zero, List.set_cons_succ, i64_w, i32_w]
          rfl
         refine pure_ (i := 21) (N := some 58) (v := ?_) (a' := ?_) QB16_62 rfl rfl (Qj HT_.out (by kernel_rfl)) (fun _ _ _ h => h) (Or.inl ⟨by rfl, ?_⟩) ?_ ?_
         rotate_left
         ·
          intro w'
          go_simp
          with_reducible rfl
         rotate_left
         ·
          simp only [Act.put, List.setIfInBounds_toArray, List.set_cons_zero, List.set_cons_succ, i64_w, i32_w]
          rfl
         refine take_ (i := 20) (N := some 57) (v := ?_) (a' := ?_) QB16_19 rfl rfl (Qs HT_.out HW_.out (by kernel_rfl)) (fun _ _ _ h => h) (Or.inl ⟨by rfl, ?_⟩) hHeld ?_ ?_
         rotate_left
         ·
          rintro w' ⟨s0, s1, s2, s3, s4, s5⟩
          go_simp
          with_reducible rfl
         rotate_left
         ·
          simp only [Act.put, List.setIfInBounds_toArray, List.set_cons_zero, List.set_cons_succ, i64_w, i32_w]
          rfl
         refine take_ (i := 22) (N := some 59) (v := ?_) (a' := ?_) QB16_20 rfl rfl (Qs HT_.out HW_.out (by kernel_rfl)) (fun _ _ _ h => h) (Or.inl ⟨by rfl, ?_⟩) hHeld ?_ ?_
         rotate_left
         ·
          rintro w' ⟨s0, s1, s2, s3, s4, s5⟩
          go_simp
          with_reducible rfl
         rotate_left
         ·
          simp only [Act.put, List.setIfInBounds_toArray, List.set_cons_zero, List.set_cons_succ, i64_w, i32_w]
          rfl
         refine pure_ (i := 23) (N := some 60) (v := ?_) (a' := ?_) QB16_21 rfl rfl (Qj HT_.out (by kernel_rfl)) (fun _ _ _ h => h) (Or.inl ⟨by rfl, ?_⟩) ?_ ?_
         rotate_left
         ·
          intro w'
          go_simp
          with_reducible rfl
         rotate_left
         ·
          simp only [Act.put, List.setIfInBounds_toArray, List.set_cons_zero, List.set_cons_succ, i64_w, i32_w]
          rfl
         refine pure_ (i := 24) (N := some 61) (v := ?_) (a' := ?_) QB16_22 rfl rfl (Qj HT_.out (by kernel_rfl)) (fun _ _ _ h => h) (Or.inl ⟨by rfl, ?_⟩) ?_ ?_
         rotate_left
         ·
          intro w'
          go_simp
          with_reducible rfl
         rotate_left
         ·
          simp only [Act.put, List.setIfInBounds_toArray, List.set_cons_zero, List.set_cons_succ, i64_w, i32_w]
          rfl
         refine pure_ (i := 25) (N := some 62) (v := ?_) (a' := ?_) QB16_23 rfl rfl (Qj HT_.out (by kernel_rfl)) (fun _ _ _ h => h) (Or.inl ⟨by rfl, ?_⟩) ?_ ?_
         rotate_left
         ·
          intro w'
          go_simp
          with_reducible rfl
         rotate_left
         ·
          simp only [Act.put, List.setIfInBounds_toArray, List.set_cons_zero, List.set_cons_succ, i64_w, i32_w]
          rfl
         refine pure_ (i := 26) (N := some 63) (v := ?_) (a' := ?_) QB16_24 rfl rfl (Qj HT_.out (by kernel_rfl)) (fun _ _ _ h => h) (Or.inl ⟨by rfl, ?_⟩) ?_ ?_
         rotate_left
         ·
          intro w'
          go_simp
          with_reducible rfl
         rotate_left
         ·
          simp only [Act.put, List.setIfInBounds_toArray, List.set_cons_zero, List.set_cons_succ, i64_w, i32_w]
          rfl
         refine pure_ (i := 27) (N := some 64) (v := undef) (a' := ?_) QB16_25 rfl rfl (Qj HT_.out (by kernel_rfl)) (fun _ _ _ h => h) (Or.inr ⟨by rfl, rfl⟩) ?_ ?_
         rotate_left
         ·
          simp only [Act.put, List.setIfInBounds_toArray, List.set_cons_zero, List.set_cons_succ, i64_w, i32_w]
          rfl
         refine pure_ (i := 28) (N := some 65) (v := undef) (a' := ?_) QB16_26 rfl rfl (Qj HT_.out (by kernel_rfl)) (fun _ _ _ h => h) (Or.inr ⟨by rfl, rfl⟩) ?_ ?_
         rotate_left
         ·
          simp only [Act.put, List.setIfInBounds_toArray, List.set_cons_zero, List.set_cons_succ, i64_w, i32_w]
          rfl
         refine pure_ (i := 29) (N := some 66) (v := undef) (a' := ?_) QB16_66 rfl rfl (Qj HT_.out (by kernel_rfl)) (fun _ _ _ h => h) (Or.inr ⟨by rfl, rfl⟩) ?_ ?_
         rotate_left
         ·
          simp only [Act.put, List.setIfInBounds_toArray, List.set_cons_zero, List.set_cons_succ, i64_w, i32_w]
          rfl
         refine pure_ (i := 30) (N := some 67) (v := undef) (a' := ?_) QB16_67 rfl rfl (Qj HT_.out (by kernel_rfl)) (fun _ _ _ h => h) (Or.inr ⟨by rfl, rfl⟩) ?_ ?_
         rotate_left
         ·
          simp only [Act.put, List.setIfInBounds_toArray, List.set_cons_zero, List.set_cons_succ, i64_w, i32_w]
          rfl
         refine pure_ (i := 31) (N := some 68) (v := undef) (a' := ?_) QB16_68 rfl rfl (Qj HT_.out (by kernel_rfl)) (fun _ _ _ h => h) (Or.inr ⟨by rfl, rfl⟩) ?_ ?_
         rotate_left
         ·
          simp only [Act.put, List.setIfInBounds_toArray, List.set_cons_zero, List.set_cons_succ, i64_w, i32_w]
          rfl
         refine pure_ (i := 32) (N := some 69) (v := undef) (a' := ?_) QB16_27 rfl rfl (Qj HT_.out (by kernel_rfl)) (fun _ _ _ h => h) (Or.inr ⟨by rfl, rfl⟩) ?_ ?_
         rotate_left
         ·
          simp only [Act.put, List.setIfInBounds_toArray, List.set_cons_zero, List.set_cons_succ, i64_w, i32_w]
          rfl
         refine pure_ (i := 33) (N := some 70) (v := undef) (a' := ?_) QB16_28 rfl rfl (Qj HT_.out (by kernel_rfl)) (fun _ _ _ h => h) (Or.inr ⟨by rfl, rfl⟩) ?_ ?_
         rotate_left
         ·
          simp only [Act.put, List.setIfInBounds_toArray, List.set_cons_zero, List.set_cons_succ, i64_w, i32_w]
          rfl
         refine pure_ (i := 34) (N := some 71) (v := ?_) (a' := ?_) QB16_29 rfl rfl (Qj HT_.out (by kernel_rfl)) (fun _ _ _ h => h) (Or.inl ⟨by rfl, ?_⟩) ?_ ?_
         rotate_left
         ·
          intro w'
          go_simp
          with_reducible rfl
         rotate_left
         ·
          simp only [Act.put, List.setIfInBounds_toArray, List.set_cons_zero, List.set_cons_succ, i64_w, i32_w]
          rfl
         refine pure_ (i := 35) (N := some 4) (v := ?_) (a' := ?_) QB16_30 rfl rfl (Qj HT_.out (by kernel_rfl)) (fun _ _ _ h => h) (Or.inl ⟨by rfl, ?_⟩) ?_ ?_
         rotate_left
         ·
          intro w'
          go_simp
          with_reducible rfl
         rotate_left
         ·
          simp only [Act.put, List.setIfInBounds_toArray, List.set_cons_zero, List.set_cons_succ, i64_w, i32_w]
          rfl
         refine done_ (done_of HT_.out (by kernel_rfl)) ?_
         try go_wp2
         go_ret
         exact ⟨by first | rfl | (simp [Qp, Qq] <;> rfl) | (simp [*, Qp, Qq] <;> rfl), by repeat (first | (with_reducible first | exact HB.out | apply Qg | apply Qh | apply Qf | refine Qe ?_ GE159.out | refine Qe ?_ GE160.out | refine Qe ?_ GE164.out) | exact HB.out)⟩
      ·
       rw [if_neg c49] at H
       have c49b0 : (t162 == a0_0) = false := beq_eq_false_iff_ne.mpr c49
       have c49b1 : (t162 != a0_0) = true := bne_iff_ne.mpr c49
       by_cases c59 : t162 = a1_0
       ·
        rw [if_pos c59] at H
        have c59b0 : (t162 == a1_0) = true := beq_iff_eq.mpr c59
        have c59b1 : (t162 != a1_0) = false := bne_eq_false_iff_eq.mpr c59
        clear c59
        by_cases c60 : t163 = a0_1
        ·
         rw [if_pos c60] at H
         have c60b0 : (t163 == a0_1) = true := beq_iff_eq.mpr c60
         have c60b1 : (t163 != a0_1) = false := bne_eq_false_iff_eq.mpr c60
         clear c60
         replace H := Option.bind_eq_some_iff.mp H
         obtain ⟨t173, A610, H⟩ := H
         replace H : (some (t173 == (t162 == a1_0 && (t163 == a1_1)))) = some r := H
         have A61 := Qa.mk A610
         clear A610
         obtain rfl := Option.some.inj H
         try go_wp2
         have n0_ := Qa.mk (Qb BK159.out)
         have n1_ := Qa.mk (Qb BK160.out)
         have n2_ := Qa.mk (Qb BK164.out)
         have n3_ := Qa.mk (Qf HB.out)
         clear BK159
         clear BK160
         clear BK164
         clear HB
         have BK159 := n0_
         have BK160 := n1_
         have BK164 := n2_
         have HB := n3_
         clear n0_ n1_ n2_ n3_
         refine start_ (n := 36) (S := fun w' => w'.cell? ⟨gb164, 0, none⟩ = some (.int .i64 t162) ∧ w'.cell? ⟨gb164, 1, none⟩ = some (.int .i64 t163) ∧ w'.cell? ⟨gb159, 0, none⟩ = some (.int .i64 a0_0) ∧ w'.cell? ⟨gb159, 1, none⟩ = some (.int .i64 a0_1) ∧ w'.cell? ⟨gb160, 0, none⟩ = some (.int .i64 a1_0) ∧ w'.cell? ⟨gb160, 1, none⟩ = some (.int .i64 a1_1)) (ds := []) QB16_0 (by kernel_rfl) rfl rfl ⟨(Qi BK164.out 0).trans rfl, (Qi BK164.out 1).trans rfl, (Qi BK159.out 0).trans rfl, (Qi BK159.out 1).trans rfl, (Qi BK160.out 0).trans rfl, (Qi BK160.out 1).trans rfl⟩ (fun hHeld => ?_); refine with_tabW Qy.tab6 Qy.bits6 (fun HT_ HW_ => ?_)
         generalize w47.drew = w62 at BK159 BK160 BK164 HB hHeld ⊢
         refine pure_ (i := 0) (N := some 37) (v := ?_) (a' := ?_) QB16_1 rfl rfl (Qj HT_.out (by kernel_rfl)) (fun _ _ _ h => h) (Or.inl ⟨by rfl, ?_⟩) ?_ ?_
         rotate_left
         ·
          intro w'
          go_simp
          with_reducible rfl
         rotate_left
         ·
          simp only [Act.put, List.setIfInBounds_toArray, List.set_cons_zero, List.set_cons_succ, i64_w, i32_w]
          rfl
         refine pure_ (i := 2) (N := some 39) (v := ?_) (a' := ?_) QB16_2 rfl rfl (Qj HT_.out (by kernel_rfl)) (fun _ _ _ h => h) (Or.inl ⟨by rfl, ?_⟩) ?_ ?_
         rotate_left
         ·
          intro w'
          go_simp
          with_reducible rfl
         rotate_left
         ·
          simp only [Act.put, List.setIfInBounds_toArray, List.set_cons_zero, List.set_cons_succ, i64_w, i32_w]
          rfl
         refine take_ (i := 1) (N := some 38) (v := ?_) (a' := ?_) QB16_3 rfl rfl (Qs HT_.out HW_.out (by kernel_rfl)) (fun _ _ _ h => h) (Or.inl ⟨by rfl, ?_⟩) hHeld ?_ ?_
         rotate_left
         ·
          rintro w' ⟨s0, s1, s2, s3, s4, s5⟩
          go_simp
          with_reducible rfl
         rotate_left
         ·
          simp only [Act.put, List.setIfInBounds_toArray, List.set_cons_zero, List.set_cons_succ, i64_w, i32_w]
          rfl
         refine take_ (i := 3) (N := some 40) (v := ?_) (a' := ?_) QB16_4 rfl rfl (Qs HT_.out HW_.out (by kernel_rfl)) (fun _ _ _ h => h) (Or.inl ⟨by rfl, ?_⟩) hHeld ?_ ?_
         rotate_left
         ·
          rintro w' ⟨s0, s1, s2, s3, s4, s5⟩
          go_simp
          with_reducible rfl
         rotate_left
         ·
          simp only [Act.put, List.setIfInBounds_toArray, List.set_cons_zero, List.set_cons_succ, i64_w, i32_w]
          rfl
         refine pure_ (i := 4) (N := some 41) (v := ?_) (a' := ?_) QB16_5 rfl rfl (Qj HT_.out (by kernel_rfl)) (fun _ _ _ h => h) (Or.inl ⟨by rfl, ?_⟩) ?_ ?_
         rotate_left
         ·
          intro w'
          go_simp
          with_reducible rfl
         rotate_left
         ·
          simp only [Act.put, List.setIfInBounds_toArray, List.set_cons_zero, List.set_cons_succ, i64_w, i32_w]
          rfl
         refine pure_ (i := 5) (N := some 42) (v := ?_) (a' := ?_) QB16_6 rfl rfl (Qj HT_.out (by kernel_rfl)) (fun _ _ _ h => h) (Or.inl ⟨by rfl, ?_⟩) ?_ ?_
         rotate_left
         ·
          intro w'
          go_simp
          with_reducible rfl
         rotate_left
         ·
          simp only [Act.put, List.setIfInBounds_toArray, List.set_cons_zero, List.set_cons_succ, i64_w, i32_w]
          rfl
         refine pure_ (i := 6) (N := some 43) (v := ?_) (a' := ?_) QB16_7 rfl rfl (Qj HT_.out (by kernel_rfl)) (fun _ _ _ h => h) (Or.inl ⟨by rfl, ?_⟩) ?_ ?_
         rotate_left
         ·
          intro w'
          go_simp
          with_reducible rfl
         rotate_left
         ·
          simp only [Act.put, List.setIfInBounds_toArray, List.set_cons_zero, List.set_cons_succ, i64_w, i32_w]
          rfl
         refine pure_ (i := 8) (N := some 45) (v := ?_) (a' := ?_) QB16_63 rfl rfl (Qj HT_.out (by kernel_rfl)) (fun _ _ _ h => h) (Or.inl ⟨by rfl, ?_⟩) ?_ ?_
         rotate_left
         ·
          intro w'
          go_simp
          with_reducible rfl
         rotate_left
         ·
          simp only [Act.put, List.setIfInBounds_toArray, List.set_cons_zero, List.set_cons_succ, i64_w, i32_w]
          rfl
         refine take_ (i := 7) (N := some 44) (v := ?_) (a' := ?_) QB16_8 rfl rfl (Qs HT_.out HW_.out (by kernel_rfl)) (fun _ _ _ h => h) (Or.inl ⟨by rfl, ?_⟩) hHeld ?_ ?_
         rotate_left
         ·
          rintro w' ⟨s0, s1, s2, s3, s4, s5⟩
          go_simp
          with_reducible rfl
         rotate_left
         ·
          simp only [Act.put, List.setIfInBounds_toArray, List.set_cons_zero, List.set_cons_succ, i64_w, i32_w]
          rfl
         refine take_ (i := 9) (N := some 46) (v := ?_) (a' := ?_) QB16_9 rfl rfl (Qs HT_.out HW_.out (by kernel_rfl)) (fun _ _ _ h => h) (Or.inl ⟨by rfl, ?_⟩) hHeld ?_ ?_
         rotate_left
         ·
          rintro w' ⟨s0, s1, s2, s3, s4, s5⟩
          go_simp
          with_reducible rfl
         rotate_left
         ·
          simp only [Act.put, List.setIfInBounds_toArray, List.set_cons_zero, List.set_cons_succ, i64_w, i32_w]
          rfl
         refine pure_ (i := 10) (N := some 47) (v := ?_) (a' := ?_) QB16_10 rfl rfl (Qj HT_.out (by kernel_rfl)) (fun _ _ _ h => h) (Or.inl ⟨by rfl, ?_⟩) ?_ ?_
         rotate_left
         ·
          intro w'
          go_simp
          with_reducible rfl
         rotate_left
         ·
          simp only [Act.put, List.setIfInBounds_toArray, List.set_cons_zero, List.set_cons_succ, i64_w, i32_w]
          rfl
         refine pure_ (i := 11) (N := some 48) (v := ?_) (a' := ?_) QB16_11 rfl rfl (Qj HT_.out (by kernel_rfl)) (fun _ _ _ h => h) (Or.inl ⟨by rfl, ?_⟩) ?_ ?_
         rotate_left
         ·
          intro w'
          go_simp
          with_reducible rfl
         rotate_left
         ·
          simp only [Act.put, List.setIfInBounds_toArray, List.set_cons_zero, List.set_cons_succ, i64_w, i32_w]
          rfl
         refine pure_ (i := 12) (N := some 49) (v := ?_) (a' := ?_) QB16_12 rfl rfl (Qj HT_.out (by kernel_rfl)) (fun _ _ _ h => h) (Or.inl ⟨by rfl, ?_⟩) ?_ ?_
         rotate_left
         ·
          intro w'
          go_simp
          with_reducible rfl
         rotate_left
         ·
          simp only [Act.put, List.setIfInBounds_toArray, List.set_cons_zero, List.set_cons_succ, i64_w, i32_w]
          rfl
         refine pure_ (i := 13) (N := some 50) (v := ?_) (a' := ?_) QB16_13 rfl rfl (Qj HT_.out (by kernel_rfl)) (fun _ _ _ h => h) (Or.inl ⟨by rfl, ?_⟩) ?_ ?_
         rotate_left
         ·
          intro w'
          go_simp
          with_reducible rfl
         rotate_left
         ·
          simp only [Act.put, List.setIfInBounds_toArray, List.set_cons_zero, List.set_cons_succ, i64_w, i32_w]
          rfl
         refine pure_ (i := 15) (N := some 52) (v := ?_) (a' := ?_) QB16_31 rfl rfl (Qj HT_.out (by kernel_rfl)) (fun _ _ _ h => h) (Or.inl ⟨by rfl, ?_⟩) ?_ ?_
         rotate_left
         ·
          intro w'
          go_simp
          with_reducible rfl
         rotate_left
         ·
          simp only [Act.put, List.setIfInBounds_toArray, List.set_cons_zero, List.set_cons_succ, i64_w, i32_w]
          rfl
         refine take_ (i := 14) (N := some 51) (v := ?_) (a' := ?_) QB16_14 rfl rfl (Qs HT_.out HW_.out (by kernel_rfl)) (fun _ _ _ h => h) (Or.inl ⟨by rfl, ?_⟩) hHeld ?_ ?_
         rotate_left
         ·
          rintro w' ⟨s0, s1, s2, s3, s4, s5⟩
          go_simp
          with_reducible rfl
         rotate_left
         ·
          simp only [Act.put, List.setIfInBounds_toArray, List.set_cons_zero, List.set_cons_succ, i64_w, i32_w]
          rfl
         refine take_ (i := 16) (N := some 53) (v := ?_) (a' := ?_) QB16_15 rfl rfl (Qs HT_.out HW_.out (by kernel_rfl)) (fun _ _ _ h => h) (Or.inl ⟨by rfl, ?_⟩) hHeld ?_ ?_
         rotate_left
         ·
          rintro w' ⟨s0, s1, s2, s3, s4, s5⟩
          go_simp
          with_reducible rfl
         rotate_left
         ·
          simp only [Act.put, List.setIfInBounds_toArray, List.set_cons_zero, List.set_cons_succ, i64_w, i32_w]
          rfl
         refine pure_ (i := 17) (N := some 54) (v := ?_) (a' := ?_) QB16_16 rfl rfl (Qj HT_.out (by kernel_rfl)) (fun _ _ _ h => h) (Or.inl ⟨by rfl, ?_⟩) ?_ ?_
         rotate_left
         ·
          intro w'
          go_simp
          with_reducible rfl
         rotate_left
         ·
          simp only [Act.put, List.setIfInBounds_toArray, List.set_cons_zero, List.set_cons_succ, i64_w, i32_w]
          rfl
         refine pure_ (i := 18) (N := some 55) (v := ?_) (a' := ?_) QB16_17 rfl rfl (Qj HT_.out (by kernel_rfl)) (fun _ _ _ h => h) (Or.inl ⟨by rfl, ?_⟩) ?_ ?_
         rotate_left
         ·
          intro w'
          go_simp
          with_reducible rfl
         rotate_left
         ·
          simp only [Act.put, List.setIfInBounds_toArray, List.set_cons_zero, List.set_cons_succ, i64_w, i32_w]
          rfl
         refine pure_ (i := 19) (N := some 56) (v := undef) (a' := ?_) QB16_18 rfl rfl (Qj HT_.out (by kernel_rfl)) (fun _ _ _ h => h) (Or.inr ⟨by rfl, rfl⟩) ?_ ?_
         rotate_left
         ·
          simp only [Act.put, List.setIfInBounds_toArray, List.set_cons_zero, List.set_cons_succ, i64_w, i32_w]
          rfl
         refine pure_ (i := 20) (N := some 57) (v := undef) (a' := ?_) QB16_65 rfl rfl (Qj HT_.out (by kernel_rfl)) (fun _ _ _ h => h) (Or.inr ⟨by rfl, rfl⟩) ?_ ?_
         rotate_left
         ·
          simp only [Act.put, List.setIfInBounds_toArray, List.set_cons_zero, List.set_cons_succ, i64_w, i32_w]
          rfl
         refine pure_ (i := 21) (N := some 58) (v := undef) (a' := ?_) QB16_19 rfl rfl (Qj HT_.out (by kernel_rfl)) (fun _ _ _ h => h) (Or.inr ⟨by rfl, rfl⟩) ?_ ?_
         rotate_left
         ·
          simp only [Act.put, List.setIfInBounds_toArray, List.set_cons_zero, List.set_cons_succ, i64_w, i32_w]
          rfl
         refine pure_ (i := 22) (N := some 59) (v := undef) (a' := ?_) QB16_20 rfl rfl (Qj HT_.out (by kernel_rfl)) (fun _ _ _ h => h) (Or.inr ⟨by rfl, rfl⟩) ?_ ?_
         rotate_left
         ·
          simp only [Act.put, List.setIfInBounds_toArray, List.set_cons_zero, List.set_cons_succ, i64_w, i32_w]
          rfl
         refine pure_ (i := 23) (N := some 60) (v := undef) (a' := ?_) QB16_21 rfl rfl (Qj HT_.out (by kernel_rfl)) (fun _ _ _ h => h) (Or.inr ⟨by rfl, rfl⟩) ?_ ?_
         rotate_left
         ·
          simp only [Act.put, List.setIfInBounds_toArray, List.set_cons_zero, List.set_cons_succ, i64_w, i32_w]
          rfl
         refine pure_ (i := 24) (N := some 61) (v := ?_) (a' := ?_) QB16_22 rfl rfl (Qj HT_.out (by kernel_rfl)) (fun _ _ _ h => h) (Or.inl ⟨by rfl, ?_⟩) ?_ ?_
         rotate_left
         ·
          intro w'
          go_simp
          with_reducible rfl
         rotate_left
         ·
          simp only [Act.put, List.setIfInBounds_toArray, List.set_cons_zero, List.set_cons_succ, i64_w, i32_w]
          rfl
         refine pure_ (i := 25) (N := some 62) (v := ?_) (a' := ?_) QB16_23 rfl rfl (Qj HT_.out (by kernel_rfl)) (fun _ _ _ h => h) (Or.inl ⟨by rfl, ?_⟩) ?_ ?_
         rotate_left
         ·
          intro w'
          go_simp
          with_reducible rfl
         rotate_left
         ·
          simp only [Act.put, List.setIfInBounds_toArray, List.set_cons_zero, List.set_cons_succ, i64_w, i32_w]
          rfl
         refine pure_ (i := 26) (N := some 63) (v := ?_) (a' := ?_) QB16_24 rfl rfl (Qj HT_.out (by kernel_rfl)) (fun _ _ _ h => h) (Or.inl ⟨by rfl, ?_⟩) ?_ ?_
         rotate_left
         ·
          intro w'
          go_simp
          with_reducible rfl
         rotate_left
         ·
          simp only [Act.put, List.setIfInBounds_toArray, List.set_cons_zero, List.set_cons_succ, i64_w, i32_w]
          rfl
         refine take_ (i := 27) (N := some 64) (v := ?_) (a' := ?_) QB16_25 rfl rfl (Qs HT_.out HW_.out (by kernel_rfl)) (fun _ _ _ h => h) (Or.inl ⟨by rfl, ?_⟩) hHeld ?_ ?_
         rotate_left
         ·
          rintro w' ⟨s0, s1, s2, s3, s4, s5⟩
          go_simp
          with_reducible rfl
         rotate_left
         ·
          simp only [Act.put, List.setIfInBounds_toArray, List.set_cons_zero, List.set_cons_succ, i64_w, i32_w]
          rfl
         refine take_ (i := 28) (N := some 65) (v := ?_) (a' := ?_) QB16_26 rfl rfl (Qs HT_.out HW_.out (by kernel_rfl)) (fun _ _ _ h => h) (Or.inl ⟨by rfl, ?_⟩) hHeld ?_ ?_
         rotate_left
         ·
          rintro w' ⟨s0, s1, s2, s3, s4, s5⟩
          go_simp
          with_reducible rfl
         rotate_left
         ·
          simp only [Act.put, List.setIfInBounds_toArray, List.set_cons_zero, List.set_cons_succ, i64_w, i32_w]
          rfl
         refine take_ (i := 30) (N := some 67) (v := ?_) (a' := ?_) QB16_59 rfl rfl (Qs HT_.out HW_.out (by kernel_rfl)) (fun _ _ _ h => h) (Or.inl ⟨by rfl, ?_⟩) hHeld ?_ ?_
         rotate_left
         ·
          rintro w' ⟨s0, s1, s2, s3, s4, s5⟩
          go_simp
          with_reducible rfl
         rotate_left
         ·
          simp only [Act.put, List.setIfInBounds_toArray, List.set_cons_zero, List.set_cons_succ, i64_w, i32_w]
          rfl
         refine take_ (i := 31) (N := some 68) (v := ?_) (a' := ?_) QB16_60 rfl rfl (Qs HT_.out HW_.out (by kernel_rfl)) (fun _ _ _ h => h) (Or.inl ⟨by rfl, ?_⟩) hHeld ?_ ?_
         rotate_left
         ·
          rintro w' ⟨s0, s1, s2, s3, s4, s5⟩
          go_simp
          with_reducible rfl
         rotate_left
         ·
          simp only [Act.put, List.setIfInBounds_toArray, List.set_cons_zero, List.set_cons_succ, i64_w, i32_w]
          rfl
         refine pure_ (i := 32) (N := some 69) (v := ?_) (a' := ?_) QB16_61 rfl rfl (Qj HT_.out (by kernel_rfl)) (fun _ _ _ h => h) (Or.inl ⟨by rfl, ?_⟩) ?_ ?_
         rotate_left
         ·
          intro w'
          go_simp
          with_reducible rfl
         rotate_left
         ·
          simp only [Act.put, List.setIfInBounds_toArray, List.set_cons_zero, List.set_cons_succ, i64_w, i32_w]
          rfl
         refine one_ (i := 29) (N := some 66) QB16_27 rfl rfl (one_of HT_.out (by kernel_rfl)) (by decide) (fun K hK => ?_)
         refine goes_ Try.func11 (by kernel_rfl) rfl #[.agg #[.int .i64 a0_0, .int .i64 a0_1], .agg #[.int .i64 a1_0, .int .i64 a1_1]] (by rfl) rfl rfl (by (try simp only [List.map_toArray, List.map_cons, List.map_nil]); first | done | rfl | (simp only [List.length_drop, List.length_take]; rfl)) ?_
         with_reducible refine (Qt.calls a0_0 a0_1 a1_0 a1_1 t173 _ A61.out).mono ?_
         rintro e w63 ⟨rfl, hb⟩
         refine ⟨_, rfl, ?_⟩
         have n0_ := Qa.mk (Qk (g := gb159) (o := .cells #[.int .i64 a0_0, .int .i64 a0_1] 29 (0, 0)) (by (with_reducible repeat (first | refine Qc ?_ _ | refine Qb ?_ | refine Qd ?_ _)); exact BK159.out) hb)
         have n1_ := Qa.mk (Qk (g := gb160) (o := .cells #[.int .i64 a1_0, .int .i64 a1_1] 29 (0, 0)) (by (with_reducible repeat (first | refine Qc ?_ _ | refine Qb ?_ | refine Qd ?_ _)); exact BK160.out) hb)
         have n2_ := Qa.mk (Qk (g := gb164) (o := .cells #[.int .i64 t162, .int .i64 t163] 29 (0, 0)) (by (with_reducible repeat (first | refine Qc ?_ _ | refine Qb ?_ | refine Qd ?_ _)); exact BK164.out) hb)
         have n3_ := Qa.mk (Ql (by repeat (first | (with_reducible first | exact HB.out | apply Qg | apply Qh | apply Qf | refine Qe ?_ GE159.out | refine Qe ?_ GE160.out | refine Qe ?_ GE164.out) | exact HB.out)) hb)
         clear BK159
         clear BK160
         clear BK164
         clear HB
         have BK159 := n0_
         have BK160 := n1_
         have BK164 := n2_
         have HB := n3_
         clear n0_ n1_ n2_ n3_
         (try clear hb)
         (try clear hb2)
         (try clear hk)
         (try clear hi)
         refine hK.out _ _ ⟨(Qi BK164.out 0).trans rfl, (Qi BK164.out 1).trans rfl, (Qi BK159.out 0).trans rfl, (Qi BK159.out 1).trans rfl, (Qi BK160.out 0).trans rfl, (Qi BK160.out 1).trans rfl⟩ (fun hHeld => ?_)
         clear hK K
         refine norm_ (a' := ?_) ?_ ?_
         rotate_left
         ·
          show Act.put _ (some 66) _ = _
          simp only [Act.put, List.setIfInBounds_toArray, List.set_cons_zero, List.set_cons_succ, i64_w, i32_w]
          rfl
         refine pure_ (i := 33) (N := some 70) (v := ?_) (a' := ?_) QB16_28 rfl rfl (Qj HT_.out (by kernel_rfl)) (fun _ _ _ h => h) (Or.inl ⟨by rfl, ?_⟩) ?_ ?_
         rotate_left
         ·
          intro w'
          go_simp
          with_reducible rfl
         rotate_left
         ·
          simp only [Act.put, List.setIfInBounds_toArray, List.set_cons_zero, List.set_cons_succ, i64_w, i32_w]
          rfl
         refine pure_ (i := 34) (N := some 71) (v := ?_) (a' := ?_) QB16_29 rfl rfl (Qj HT_.out (by kernel_rfl)) (fun _ _ _ h => h) (Or.inl ⟨by rfl, ?_⟩) ?_ ?_
         rotate_left
         ·
          intro w'
          go_simp
          with_reducible rfl
         rotate_left
         ·
          simp only [Act.put, List.setIfInBounds_toArray, List.set_cons_zero, List.set_cons_succ, i64_w, i32_w]
          rfl
         refine pure_ (i := 35) (N := some 4) (v := ?_) (a' := ?_) QB16_30 rfl rfl (Qj HT_.out (by kernel_rfl)) (fun _ _ _ h => h) (Or.inl ⟨by rfl, ?_⟩) ?_ ?_
         rotate_left
         ·
          intro w'
          go_simp
          with_reducible rfl
         rotate_left
         ·
          simp only [Act.put, List.setIfInBounds_toArray, List.set_cons_zero, List.set_cons_succ, i64_w, i32_w]
          rfl
         refine done_ (done_of HT_.out (by kernel_rfl)) ?_
         try go_wp2
         go_ret
         exact ⟨by first | rfl | (simp [Qp, Qq] <;> rfl) | (simp [*, Qp, Qq] <;> rfl), by repeat (first | (with_reducible first | exact HB.out | apply Qg | apply Qh | apply Qf | refine Qe ?_ GE159.out | refine Qe ?_ GE160.out | refine Qe ?_ GE164.out) | exact HB.out)⟩
        ·
         rw [if_neg c60] at H
         have c60b0 : (t163 == a0_1) = false := beq_eq_false_iff_ne.mpr c60
         have c60b1 : (t163 != a0_1) = true := bne_iff_ne.mpr c60
         by_cases c64 : t163 = a1_1
         ·
          rw [if_pos c64] at H
          have c64b0 : (t163 == a1_1) = true := beq_iff_eq.mpr c64
          have c64b1 : (t163 != a1_1) = false := bne_eq_false_iff_eq.mpr c64
          clear c64
          replace H := Option.bind_eq_some_iff.mp H
          obtain ⟨t174, A650, H⟩ := H
          replace H : (some (t174 == (t162 == a1_0 && (t163 == a1_1)))) = some r := H
          have A65 := Qa.mk A650
          clear A650
          obtain rfl := Option.some.inj H
          try go_wp2
          have n0_ := Qa.mk (Qb BK159.out)
          have n1_ := Qa.mk (Qb BK160.out)
          have n2_ := Qa.mk (Qb BK164.out)
          have n3_ := Qa.mk (Qf HB.out)
          clear BK159
          clear BK160
          clear BK164
          clear HB
          have BK159 := n0_
          have BK160 := n1_
          have BK164 := n2_
          have HB := n3_
          clear n0_ n1_ n2_ n3_
          refine start_ (n := 36) (S := fun w' => w'.cell? ⟨gb164, 0, none⟩ = some (.int .i64 t162) ∧ w'.cell? ⟨gb164, 1, none⟩ = some (.int .i64 t163) ∧ w'.cell? ⟨gb159, 0, none⟩ = some (.int .i64 a0_0) ∧ w'.cell? ⟨gb159, 1, none⟩ = some (.int .i64 a0_1) ∧ w'.cell? ⟨gb160, 0, none⟩ = some (.int .i64 a1_0) ∧ w'.cell? ⟨gb160, 1, none⟩ = some (.int .i64 a1_1)) (ds := []) QB16_0 (by kernel_rfl) rfl rfl ⟨(Qi BK164.out 0).trans rfl, (Qi BK164.out 1).trans rfl, (Qi BK159.out 0).trans rfl, (Qi BK159.out 1).trans rfl, (Qi BK160.out 0).trans rfl, (Qi BK160.out 1).trans rfl⟩ (fun hHeld => ?_); refine with_tabW Qy.tab6 Qy.bits6 (fun HT_ HW_ => ?_)
          generalize w47.drew = w66 at BK159 BK160 BK164 HB hHeld ⊢
          refine pure_ (i := 0) (N := some 37) (v := ?_) (a' := ?_) QB16_1 rfl rfl (Qj HT_.out (by kernel_rfl)) (fun _ _ _ h => h) (Or.inl ⟨by rfl, ?_⟩) ?_ ?_
          rotate_left
          ·
           intro w'
           go_simp
           with_reducible rfl
          rotate_left
          ·
           simp only [Act.put, List.setIfInBounds_toArray, List.set_cons_zero, List.set_cons_succ, i64_w, i32_w]
           rfl
          refine pure_ (i := 2) (N := some 39) (v := ?_) (a' := ?_) QB16_2 rfl rfl (Qj HT_.out (by kernel_rfl)) (fun _ _ _ h => h) (Or.inl ⟨by rfl, ?_⟩) ?_ ?_
          rotate_left
          ·
           intro w'
           go_simp
           with_reducible rfl
          rotate_left
          ·
           simp only [Act.put, List.setIfInBounds_toArray, List.set_cons_zero, List.set_cons_succ, i64_w, i32_w]
           rfl
          refine take_ (i := 1) (N := some 38) (v := ?_) (a' := ?_) QB16_3 rfl rfl (Qs HT_.out HW_.out (by kernel_rfl)) (fun _ _ _ h => h) (Or.inl ⟨by rfl, ?_⟩) hHeld ?_ ?_
          rotate_left
          ·
           rintro w' ⟨s0, s1, s2, s3, s4, s5⟩
           go_simp
           with_reducible rfl
          rotate_left
          ·
           simp only [Act.put, List.setIfInBounds_toArray, List.set_cons_zero, List.set_cons_succ, i64_w, i32_w]
           rfl
          refine take_ (i := 3) (N := some 40) (v := ?_) (a' := ?_) QB16_4 rfl rfl (Qs HT_.out HW_.out (by kernel_rfl)) (fun _ _ _ h => h) (Or.inl ⟨by rfl, ?_⟩) hHeld ?_ ?_
          rotate_left
          ·
           rintro w' ⟨s0, s1, s2, s3, s4, s5⟩
           go_simp
           with_reducible rfl
          rotate_left
          ·
           simp only [Act.put, List.setIfInBounds_toArray, List.set_cons_zero, List.set_cons_succ, i64_w, i32_w]
           rfl
          refine pure_ (i := 4) (N := some 41) (v := ?_) (a' := ?_) QB16_5 rfl rfl (Qj HT_.out (by kernel_rfl)) (fun _ _ _ h => h) (Or.inl ⟨by rfl, ?_⟩) ?_ ?_
          rotate_left
          ·
           intro w'
           go_simp
           with_reducible rfl
          rotate_left
          ·
           simp only [Act.put, List.setIfInBounds_toArray, List.set_cons_zero, List.set_cons_succ, i64_w, i32_w]
           rfl
          refine pure_ (i := 5) (N := some 42) (v := ?_) (a' := ?_) QB16_6 rfl rfl (Qj HT_.out (by kernel_rfl)) (fun _ _ _ h => h) (Or.inl ⟨by rfl, ?_⟩) ?_ ?_
          rotate_left
          ·
           intro w'
           go_simp
           with_reducible rfl
          rotate_left
          ·
           simp only [Act.put, List.setIfInBounds_toArray, List.set_cons_zero, List.set_cons_succ, i64_w, i32_w]
           rfl
          refine pure_ (i := 6) (N := some 43) (v := ?_) (a' := ?_) QB16_7 rfl rfl (Qj HT_.out (by kernel_rfl)) (fun _ _ _ h => h) (Or.inl ⟨by rfl, ?_⟩) ?_ ?_
          rotate_left
          ·
           intro w'
           go_simp
           with_reducible rfl
          rotate_left
          ·
           simp only [Act.put, List.setIfInBounds_toArray, List.set_cons_zero, List.set_cons_succ, i64_w, i32_w]
           rfl
          refine pure_ (i := 8) (N := some 45) (v := ?_) (a' := ?_) QB16_63 rfl rfl (Qj HT_.out (by kernel_rfl)) (fun _ _ _ h => h) (Or.inl ⟨by rfl, ?_⟩) ?_ ?_
          rotate_left
          ·
           intro w'
           go_simp
           with_reducible rfl
          rotate_left
          ·
           simp only [Act.put, List.setIfInBounds_toArray, List.set_cons_zero, List.set_cons_succ, i64_w, i32_w]
           rfl
          refine take_ (i := 7) (N := some 44) (v := ?_) (a' := ?_) QB16_8 rfl rfl (Qs HT_.out HW_.out (by kernel_rfl)) (fun _ _ _ h => h) (Or.inl ⟨by rfl, ?_⟩) hHeld ?_ ?_
          rotate_left
          ·
           rintro w' ⟨s0, s1, s2, s3, s4, s5⟩
           go_simp
           with_reducible rfl
          rotate_left
          ·
           simp only [Act.put, List.setIfInBounds_toArray, List.set_cons_zero, List.set_cons_succ, i64_w, i32_w]
           rfl
          refine take_ (i := 9) (N := some 46) (v := ?_) (a' := ?_) QB16_9 rfl rfl (Qs HT_.out HW_.out (by kernel_rfl)) (fun _ _ _ h => h) (Or.inl ⟨by rfl, ?_⟩) hHeld ?_ ?_
          rotate_left
          ·
           rintro w' ⟨s0, s1, s2, s3, s4, s5⟩
           go_simp
           with_reducible rfl
          rotate_left
          ·
           simp only [Act.put, List.setIfInBounds_toArray, List.set_cons_zero, List.set_cons_succ, i64_w, i32_w]
           rfl
          refine pure_ (i := 10) (N := some 47) (v := ?_) (a' := ?_) QB16_10 rfl rfl (Qj HT_.out (by kernel_rfl)) (fun _ _ _ h => h) (Or.inl ⟨by rfl, ?_⟩) ?_ ?_
          rotate_left
          ·
           intro w'
           go_simp
           with_reducible rfl
          rotate_left
          ·
           simp only [Act.put, List.setIfInBounds_toArray, List.set_cons_zero, List.set_cons_succ, i64_w, i32_w]
           rfl
          refine pure_ (i := 11) (N := some 48) (v := ?_) (a' := ?_) QB16_11 rfl rfl (Qj HT_.out (by kernel_rfl)) (fun _ _ _ h => h) (Or.inl ⟨by rfl, ?_⟩) ?_ ?_
          rotate_left
          ·
           intro w'
           go_simp
           with_reducible rfl
          rotate_left
          ·
           simp only [Act.put, List.setIfInBounds_toArray, List.set_cons_zero, List.set_cons_succ, i64_w, i32_w]
           rfl
          refine pure_ (i := 12) (N := some 49) (v := ?_) (a' := ?_) QB16_12 rfl rfl (Qj HT_.out (by kernel_rfl)) (fun _ _ _ h => h) (Or.inl ⟨by rfl, ?_⟩) ?_ ?_
          rotate_left
          ·
           intro w'
           go_simp
           with_reducible rfl
          rotate_left
          ·
           simp only [Act.put, List.setIfInBounds_toArray, List.set_cons_zero, List.set_cons_succ, i64_w, i32_w]
           rfl
          refine pure_ (i := 13) (N := some 50) (v := ?_) (a' := ?_) QB16_13 rfl rfl (Qj HT_.out (by kernel_rfl)) (fun _ _ _ h => h) (Or.inl ⟨by rfl, ?_⟩) ?_ ?_
          rotate_left
          ·
           intro w'
           go_simp
           with_reducible rfl
          rotate_left
          ·
           simp only [Act.put, List.setIfInBounds_toArray, List.set_cons_zero, List.set_cons_succ, i64_w, i32_w]
           rfl
          refine pure_ (i := 15) (N := some 52) (v := ?_) (a' := ?_) QB16_31 rfl rfl (Qj HT_.out (by kernel_rfl)) (fun _ _ _ h => h) (Or.inl ⟨by rfl, ?_⟩) ?_ ?_
          rotate_left
          ·
           intro w'
           go_simp
           with_reducible rfl
          rotate_left
          ·
           simp only [Act.put, List.setIfInBounds_toArray, List.set_cons_zero, List.set_cons_succ, i64_w, i32_w]
           rfl
          refine take_ (i := 14) (N := some 51) (v := ?_) (a' := ?_) QB16_14 rfl rfl (Qs HT_.out HW_.out (by kernel_rfl)) (fun _ _ _ h => h) (Or.inl ⟨by rfl, ?_⟩) hHeld ?_ ?_
          rotate_left
          ·
           rintro w' ⟨s0, s1, s2, s3, s4, s5⟩
           go_simp
           with_reducible rfl
          rotate_left
          ·
           simp only [Act.put, List.setIfInBounds_toArray, List.set_cons_zero, List.set_cons_succ, i64_w, i32_w]
           rfl
          refine take_ (i := 16) (N := some 53) (v := ?_) (a' := ?_) QB16_15 rfl rfl (Qs HT_.out HW_.out (by kernel_rfl)) (fun _ _ _ h => h) (Or.inl ⟨by rfl, ?_⟩) hHeld ?_ ?_
          rotate_left
          ·
           rintro w' ⟨s0, s1, s2, s3, s4, s5⟩
           go_simp
           with_reducible rfl
          rotate_left
          ·
           simp only [Act.put, List.setIfInBounds_toArray, List.set_cons_zero, List.set_cons_succ, i64_w, i32_w]
           rfl
          refine pure_ (i := 17) (N := some 54) (v := ?_) (a' := ?_) QB16_16 rfl rfl (Qj HT_.out (by kernel_rfl)) (fun _ _ _ h => h) (Or.inl ⟨by rfl, ?_⟩) ?_ ?_
          rotate_left
          ·
           intro w'
           go_simp
           with_reducible rfl
          rotate_left
          ·
           simp only [Act.put, List.setIfInBounds_toArray, List.set_cons_zero, List.set_cons_succ, i64_w, i32_w]
           rfl
          refine pure_ (i := 18) (N := some 55) (v := ?_) (a' := ?_) QB16_17 rfl rfl (Qj HT_.out (by kernel_rfl)) (fun _ _ _ h => h) (Or.inl ⟨by rfl, ?_⟩) ?_ ?_
          rotate_left
          ·
           intro w'
           go_simp
           with_reducible rfl
          rotate_left
          ·
           simp only [Act.put, List.setIfInBounds_toArray, List.set_cons_zero, List.set_cons_succ, i64_w, i32_w]
           rfl
          refine pure_ (i := 19) (N := some 56) (v := ?_) (a' := ?_) QB16_18 rfl rfl (Qj HT_.out (by kernel_rfl)) (fun _ _ _ h => h) (Or.inl ⟨by rfl, ?_⟩) ?_ ?_
          rotate_left
          ·
           intro w'
           go_simp
           with_reducible rfl
          rotate_left
          ·
           simp only [Act.put, List.setIfInBounds_toArray, List.set_cons_zero, List.set_cons_succ, i64_w, i32_w]
           rfl
          refine pure_ (i := 21) (N := some 58) (v := ?_) (a' := ?_) QB16_62 rfl rfl (Qj HT_.out (by kernel_rfl)) (fun _ _ _ h => h) (Or.inl ⟨by rfl, ?_⟩) ?_ ?_
          rotate_left
          ·
           intro w'
           go_simp
           with_reducible rfl
          rotate_left
          ·
           simp only [Act.put, List.setIfInBounds_toArray, List.set_cons_zero, List.set_cons_succ, i64_w, i32_w]
           rfl
          refine take_ (i := 20) (N := some 57) (v := ?_) (a' := ?_) QB16_19 rfl rfl (Qs HT_.out HW_.out (by kernel_rfl)) (fun _ _ _ h => h) (Or.inl ⟨by rfl, ?_⟩) hHeld ?_ ?_
          rotate_left
          ·
           rintro w' ⟨s0, s1, s2, s3, s4, s5⟩
           go_simp
           with_reducible rfl
          rotate_left
          ·
           simp only [Act.put, List.setIfInBounds_toArray, List.set_cons_zero, List.set_cons_succ, i64_w, i32_w]
           rfl
          refine take_ (i := 22) (N := some 59) (v := ?_) (a' := ?_) QB16_20 rfl rfl (Qs HT_.out HW_.out (by kernel_rfl)) (fun _ _ _ h => h) (Or.inl ⟨by rfl, ?_⟩) hHeld ?_ ?_
          rotate_left
          ·
           rintro w' ⟨s0, s1, s2, s3, s4, s5⟩
           go_simp
           with_reducible rfl
          rotate_left
          ·
           simp only [Act.put, List.setIfInBounds_toArray, List.set_cons_zero, List.set_cons_succ, i64_w, i32_w]
           rfl
          refine pure_ (i := 23) (N := some 60) (v := ?_) (a' := ?_) QB16_21 rfl rfl (Qj HT_.out (by kernel_rfl)) (fun _ _ _ h => h) (Or.inl ⟨by rfl, ?_⟩) ?_ ?_
          rotate_left
          ·
           intro w'
           go_simp
           with_reducible rfl
          rotate_left
          ·
           simp only [Act.put, List.setIfInBounds_toArray, List.set_cons_zero, List.set_cons_succ, i64_w, i32_w]
           rfl
          refine pure_ (i := 24) (N := some 61) (v := ?_) (a' := ?_) QB16_22 rfl rfl (Qj HT_.out (by kernel_rfl)) (fun _ _ _ h => h) (Or.inl ⟨by rfl, ?_⟩) ?_ ?_
          rotate_left
          ·
           intro w'
           go_simp
           with_reducible rfl
          rotate_left
          ·
           simp only [Act.put, List.setIfInBounds_toArray, List.set_cons_zero, List.set_cons_succ, i64_w, i32_w]
           rfl
          refine pure_ (i := 25) (N := some 62) (v := ?_) (a' := ?_) QB16_23 rfl rfl (Qj HT_.out (by kernel_rfl)) (fun _ _ _ h => h) (Or.inl ⟨by rfl, ?_⟩) ?_ ?_
          rotate_left
          ·
           intro w'
           go_simp
           with_reducible rfl
          rotate_left
          ·
           simp only [Act.put, List.setIfInBounds_toArray, List.set_cons_zero, List.set_cons_succ, i64_w, i32_w]
           rfl
          refine pure_ (i := 26) (N := some 63) (v := ?_) (a' := ?_) QB16_24 rfl rfl (Qj HT_.out (by kernel_rfl)) (fun _ _ _ h => h) (Or.inl ⟨by rfl, ?_⟩) ?_ ?_
          rotate_left
          ·
           intro w'
           go_simp
           with_reducible rfl
          rotate_left
          ·
           simp only [Act.put, List.setIfInBounds_toArray, List.set_cons_zero, List.set_cons_succ, i64_w, i32_w]
           rfl
          refine take_ (i := 27) (N := some 64) (v := ?_) (a' := ?_) QB16_25 rfl rfl (Qs HT_.out HW_.out (by kernel_rfl)) (fun _ _ _ h => h) (Or.inl ⟨by rfl, ?_⟩) hHeld ?_ ?_
          rotate_left
          ·
           rintro w' ⟨s0, s1, s2, s3, s4, s5⟩
           go_simp
           with_reducible rfl
          rotate_left
          ·
           simp only [Act.put, List.setIfInBounds_toArray, List.set_cons_zero, List.set_cons_succ, i64_w, i32_w]
           rfl
          refine take_ (i := 28) (N := some 65) (v := ?_) (a' := ?_) QB16_26 rfl rfl (Qs HT_.out HW_.out (by kernel_rfl)) (fun _ _ _ h => h) (Or.inl ⟨by rfl, ?_⟩) hHeld ?_ ?_
          rotate_left
          ·
           rintro w' ⟨s0, s1, s2, s3, s4, s5⟩
           go_simp
           with_reducible rfl
          rotate_left
          ·
           simp only [Act.put, List.setIfInBounds_toArray, List.set_cons_zero, List.set_cons_succ, i64_w, i32_w]
           rfl
          refine take_ (i := 30) (N := some 67) (v := ?_) (a' := ?_) QB16_59 rfl rfl (Qs HT_.out HW_.out (by kernel_rfl)) (fun _ _ _ h => h) (Or.inl ⟨by rfl, ?_⟩) hHeld ?_ ?_
          rotate_left
          ·
           rintro w' ⟨s0, s1, s2, s3, s4, s5⟩
           go_simp
           with_reducible rfl
          rotate_left
          ·
           simp only [Act.put, List.setIfInBounds_toArray, List.set_cons_zero, List.set_cons_succ, i64_w, i32_w]
           rfl
          refine take_ (i := 31) (N := some 68) (v := ?_) (a' := ?_) QB16_60 rfl rfl (Qs HT_.out HW_.out (by kernel_rfl)) (fun _ _ _ h => h) (Or.inl ⟨by rfl, ?_⟩) hHeld ?_ ?_
          rotate_left
          ·
           rintro w' ⟨s0, s1, s2, s3, s4, s5⟩
           go_simp
           with_reducible rfl
          rotate_left
          ·
           simp only [Act.put, List.setIfInBounds_toArray, List.set_cons_zero, List.set_cons_succ, i64_w, i32_w]
           rfl
          refine pure_ (i := 32) (N := some 69) (v := ?_) (a' := ?_) QB16_61 rfl rfl (Qj HT_.out (by kernel_rfl)) (fun _ _ _ h => h) (Or.inl ⟨by rfl, ?_⟩) ?_ ?_
          rotate_left
          ·
           intro w'
           go_simp
           with_reducible rfl
          rotate_left
          ·
           simp only [Act.put, List.setIfInBounds_toArray, List.set_cons_zero, List.set_cons_succ, i64_w, i32_w]
           rfl
          refine one_ (i := 29) (N := some 66) QB16_27 rfl rfl (one_of HT_.out (by kernel_rfl)) (by decide) (fun K hK => ?_)
          refine goes_ Try.func11 (by kernel_rfl) rfl #[.agg #[.int .i64 a0_0, .int .i64 a0_1], .agg #[.int .i64 a1_0, .int .i64 a1_1]] (by rfl) rfl rfl (by (try simp only [List.map_toArray, List.map_cons, List.map_nil]); first | done | rfl | (simp only [List.length_drop, List.length_take]; rfl)) ?_
          with_reducible refine (Qt.calls a0_0 a0_1 a1_0 a1_1 t174 _ A65.out).mono ?_
          rintro e w67 ⟨rfl, hb⟩
          refine ⟨_, rfl, ?_⟩
          have n0_ := Qa.mk (Qk (g := gb159) (o := .cells #[.int .i64 a0_0, .int .i64 a0_1] 29 (0, 0)) (by (with_reducible repeat (first | refine Qc ?_ _ | refine Qb ?_ | refine Qd ?_ _)); exact BK159.out) hb)
          have n1_ := Qa.mk (Qk (g := gb160) (o := .cells #[.int .i64 a1_0, .int .i64 a1_1] 29 (0, 0)) (by (with_reducible repeat (first | refine Qc ?_ _ | refine Qb ?_ | refine Qd ?_ _)); exact BK160.out) hb)
          have n2_ := Qa.mk (Qk (g := gb164) (o := .cells #[.int .i64 t162, .int .i64 t163] 29 (0, 0)) (by (with_reducible repeat (first | refine Qc ?_ _ | refine Qb ?_ | refine Qd ?_ _)); exact BK164.out) hb)
          have n3_ := Qa.mk (Ql (by repeat (first | (with_reducible first | exact HB.out | apply Qg | apply Qh | apply Qf | refine Qe ?_ GE159.out | refine Qe ?_ GE160.out | refine Qe ?_ GE164.out) | exact HB.out)) hb)
          clear BK159
          clear BK160
          clear BK164
          clear HB
          have BK159 := n0_
          have BK160 := n1_
          have BK164 := n2_
          have HB := n3_
          clear n0_ n1_ n2_ n3_
          (try clear hb)
          (try clear hb2)
          (try clear hk)
          (try clear hi)
          refine hK.out _ _ ⟨(Qi BK164.out 0).trans rfl, (Qi BK164.out 1).trans rfl, (Qi BK159.out 0).trans rfl, (Qi BK159.out 1).trans rfl, (Qi BK160.out 0).trans rfl, (Qi BK160.out 1).trans rfl⟩ (fun hHeld => ?_)
          clear hK K
          refine norm_ (a' := ?_) ?_ ?_
          rotate_left
          ·
           show Act.put _ (some 66) _ = _
           simp only [Act.put, List.setIfInBounds_toArray, List.set_cons_zero, List.set_cons_succ, i64_w, i32_w]
           rfl
          refine pure_ (i := 33) (N := some 70) (v := ?_) (a' := ?_) QB16_28 rfl rfl (Qj HT_.out (by kernel_rfl)) (fun _ _ _ h => h) (Or.inl ⟨by rfl, ?_⟩) ?_ ?_
          rotate_left
          ·
           intro w'
           go_simp
           with_reducible rfl
          rotate_left
          ·
           simp only [Act.put, List.setIfInBounds_toArray, List.set_cons_zero, List.set_cons_succ, i64_w, i32_w]
           rfl
          refine pure_ (i := 34) (N := some 71) (v := ?_) (a' := ?_) QB16_29 rfl rfl (Qj HT_.out (by kernel_rfl)) (fun _ _ _ h => h) (Or.inl ⟨by rfl, ?_⟩) ?_ ?_
          rotate_left
          ·
           intro w'
           go_simp
           with_reducible rfl
          rotate_left
          ·
           simp only [Act.put, List.setIfInBounds_toArray, List.set_cons_zero, List.set_cons_succ, i64_w, i32_w]
           rfl
          refine pure_ (i := 35) (N := some 4) (v := ?_) (a' := ?_) QB16_30 rfl rfl (Qj HT_.out (by kernel_rfl)) (fun _ _ _ h => h) (Or.inl ⟨by rfl, ?_⟩) ?_ ?_
          rotate_left
          ·
           intro w'
           go_simp
           with_reducible rfl
          rotate_left
          ·
           simp only [Act.put, List.setIfInBounds_toArray, List.set_cons_zero, List.set_cons_succ, i64_w, i32_w]
           rfl
          refine done_ (done_of HT_.out (by kernel_rfl)) ?_
          try go_wp2
          go_ret
          exact ⟨by first | rfl | (simp [Qp, Qq] <;> rfl) | (simp [*, Qp, Qq] <;> rfl), by repeat (first | (with_reducible first | exact HB.out | apply Qg | apply Qh | apply Qf | refine Qe ?_ GE159.out | refine Qe ?_ GE160.out | refine Qe ?_ GE164.out) | exact HB.out)⟩
         ·
          rw [if_neg c64] at H
          have c64b0 : (t163 == a1_1) = false := beq_eq_false_iff_ne.mpr c64
          have c64b1 : (t163 != a1_1) = true := bne_iff_ne.mpr c64
          obtain rfl := Option.some.inj H
          try go_wp2
          have n0_ := Qa.mk (Qb BK159.out)
          have n1_ := Qa.mk (Qb BK160.out)
          have n2_ := Qa.mk (Qb BK164.out)
          have n3_ := Qa.mk (Qf HB.out)
          clear BK159
          clear BK160
          clear BK164
          clear HB
          have BK159 := n0_
          have BK160 := n1_
          have BK164 := n2_
          have HB := n3_
          clear n0_ n1_ n2_ n3_
          refine start_ (n := 36) (S := fun w' => w'.cell? ⟨gb164, 0, none⟩ = some (.int .i64 t162) ∧ w'.cell? ⟨gb164, 1, none⟩ = some (.int .i64 t163) ∧ w'.cell? ⟨gb159, 0, none⟩ = some (.int .i64 a0_0) ∧ w'.cell? ⟨gb159, 1, none⟩ = some (.int .i64 a0_1) ∧ w'.cell? ⟨gb160, 0, none⟩ = some (.int .i64 a1_0) ∧ w'.cell? ⟨gb160, 1, none⟩ = some (.int .i64 a1_1)) (ds := []) QB16_0 (by kernel_rfl) rfl rfl ⟨(Qi BK164.out 0).trans rfl, (Qi BK164.out 1).trans rfl, (Qi BK159.out 0).trans rfl, (Qi BK159.out 1).trans rfl, (Qi BK160.out 0).trans rfl, (Qi BK160.out 1).trans rfl⟩ (fun hHeld => ?_); refine with_tabW Qy.tab6 Qy.bits6 (fun HT_ HW_ => ?_)
          generalize w47.drew = w68 at BK159 BK160 BK164 HB hHeld ⊢
          refine pure_ (i := 0) (N := some 37) (v := ?_) (a' := ?_) QB16_1 rfl rfl (Qj HT_.out (by kernel_rfl)) (fun _ _ _ h => h) (Or.inl ⟨by rfl, ?_⟩) ?_ ?_
          rotate_left
          ·
           intro w'
           go_simp
           with_reducible rfl
          rotate_left
          ·
           simp only [Act.put, List.setIfInBounds_toArray, List.set_cons_zero, List.set_cons_succ, i64_w, i32_w]
           rfl
          refine pure_ (i := 2) (N := some 39) (v := ?_) (a' := ?_) QB16_2 rfl rfl (Qj HT_.out (by kernel_rfl)) (fun _ _ _ h => h) (Or.inl ⟨by rfl, ?_⟩) ?_ ?_
          rotate_left
          ·
           intro w'
           go_simp
           with_reducible rfl
          rotate_left
          ·
           simp only [Act.put, List.setIfInBounds_toArray, List.set_cons_zero, List.set_cons_succ, i64_w, i32_w]
           rfl
          refine take_ (i := 1) (N := some 38) (v := ?_) (a' := ?_) QB16_3 rfl rfl (Qs HT_.out HW_.out (by kernel_rfl)) (fun _ _ _ h => h) (Or.inl ⟨by rfl, ?_⟩) hHeld ?_ ?_
          rotate_left
          ·
           rintro w' ⟨s0, s1, s2, s3, s4, s5⟩
           go_simp
           with_reducible rfl
          rotate_left
          ·
           simp only [Act.put, List.setIfInBounds_toArray, List.set_cons_zero, List.set_cons_succ, i64_w, i32_w]
           rfl
          refine take_ (i := 3) (N := some 40) (v := ?_) (a' := ?_) QB16_4 rfl rfl (Qs HT_.out HW_.out (by kernel_rfl)) (fun _ _ _ h => h) (Or.inl ⟨by rfl, ?_⟩) hHeld ?_ ?_
          rotate_left
          ·
           rintro w' ⟨s0, s1, s2, s3, s4, s5⟩
           go_simp
           with_reducible rfl
          rotate_left
          ·
           simp only [Act.put, List.setIfInBounds_toArray, List.set_cons_zero, List.set_cons_succ, i64_w, i32_w]
           rfl
          refine pure_ (i := 4) (N := some 41) (v := ?_) (a' := ?_) QB16_5 rfl rfl (Qj HT_.out (by kernel_rfl)) (fun _ _ _ h => h) (Or.inl ⟨by rfl, ?_⟩) ?_ ?_
          rotate_left
          ·
           intro w'
           go_simp
           with_reducible rfl
          rotate_left
          ·
           simp only [Act.put, List.setIfInBounds_toArray, List.set_cons_zero, List.set_cons_succ, i64_w, i32_w]
           rfl
          refine pure_ (i := 5) (N := some 42) (v := ?_) (a' := ?_) QB16_6 rfl rfl (Qj HT_.out (by kernel_rfl)) (fun _ _ _ h => h) (Or.inl ⟨by rfl, ?_⟩) ?_ ?_
          rotate_left
          ·
           intro w'
           go_simp
           with_reducible rfl
          rotate_left
          ·
           simp only [Act.put, List.setIfInBounds_toArray, List.set_cons_zero, List.set_cons_succ, i64_w, i32_w]
           rfl
          refine pure_ (i := 6) (N := some 43) (v := ?_) (a' := ?_) QB16_7 rfl rfl (Qj HT_.out (by kernel_rfl)) (fun _ _ _ h => h) (Or.inl ⟨by rfl, ?_⟩) ?_ ?_
          rotate_left
          ·
           intro w'
           go_simp
           with_reducible rfl
          rotate_left
          ·
           simp only [Act.put, List.setIfInBounds_toArray, List.set_cons_zero, List.set_cons_succ, i64_w, i32_w]
           rfl
          refine pure_ (i := 8) (N := some 45) (v := ?_) (a' := ?_) QB16_63 rfl rfl (Qj HT_.out (by kernel_rfl)) (fun _ _ _ h => h) (Or.inl ⟨by rfl, ?_⟩) ?_ ?_
          rotate_left
          ·
           intro w'
           go_simp
           with_reducible rfl
          rotate_left
          ·
           simp only [Act.put, List.setIfInBounds_toArray, List.set_cons_zero, List.set_cons_succ, i64_w, i32_w]
           rfl
          refine take_ (i := 7) (N := some 44) (v := ?_) (a' := ?_) QB16_8 rfl rfl (Qs HT_.out HW_.out (by kernel_rfl)) (fun _ _ _ h => h) (Or.inl ⟨by rfl, ?_⟩) hHeld ?_ ?_
          rotate_left
          ·
           rintro w' ⟨s0, s1, s2, s3, s4, s5⟩
           go_simp
           with_reducible rfl
          rotate_left
          ·
           simp only [Act.put, List.setIfInBounds_toArray, List.set_cons_zero, List.set_cons_succ, i64_w, i32_w]
           rfl
          refine take_ (i := 9) (N := some 46) (v := ?_) (a' := ?_) QB16_9 rfl rfl (Qs HT_.out HW_.out (by kernel_rfl)) (fun _ _ _ h => h) (Or.inl ⟨by rfl, ?_⟩) hHeld ?_ ?_
          rotate_left
          ·
           rintro w' ⟨s0, s1, s2, s3, s4, s5⟩
           go_simp
           with_reducible rfl
          rotate_left
          ·
           simp only [Act.put, List.setIfInBounds_toArray, List.set_cons_zero, List.set_cons_succ, i64_w, i32_w]
           rfl
          refine pure_ (i := 10) (N := some 47) (v := ?_) (a' := ?_) QB16_10 rfl rfl (Qj HT_.out (by kernel_rfl)) (fun _ _ _ h => h) (Or.inl ⟨by rfl, ?_⟩) ?_ ?_
          rotate_left
          ·
           intro w'
           go_simp
           with_reducible rfl
          rotate_left
          ·
           simp only [Act.put, List.setIfInBounds_toArray, List.set_cons_zero, List.set_cons_succ, i64_w, i32_w]
           rfl
          refine pure_ (i := 11) (N := some 48) (v := ?_) (a' := ?_) QB16_11 rfl rfl (Qj HT_.out (by kernel_rfl)) (fun _ _ _ h => h) (Or.inl ⟨by rfl, ?_⟩) ?_ ?_
          rotate_left
          ·
           intro w'
           go_simp
           with_reducible rfl
          rotate_left
          ·
           simp only [Act.put, List.setIfInBounds_toArray, List.set_cons_zero, List.set_cons_succ, i64_w, i32_w]
           rfl
          refine pure_ (i := 12) (N := some 49) (v := ?_) (a' := ?_) QB16_12 rfl rfl (Qj HT_.out (by kernel_rfl)) (fun _ _ _ h => h) (Or.inl ⟨by rfl, ?_⟩) ?_ ?_
          rotate_left
          ·
           intro w'
           go_simp
           with_reducible rfl
          rotate_left
          ·
           simp only [Act.put, List.setIfInBounds_toArray, List.set_cons_zero, List.set_cons_succ, i64_w, i32_w]
           rfl
          refine pure_ (i := 13) (N := some 50) (v := ?_) (a' := ?_) QB16_13 rfl rfl (Qj HT_.out (by kernel_rfl)) (fun _ _ _ h => h) (Or.inl ⟨by rfl, ?_⟩) ?_ ?_
          rotate_left
          ·
           intro w'
           go_simp
           with_reducible rfl
          rotate_left
          ·
           simp only [Act.put, List.setIfInBounds_toArray, List.set_cons_zero, List.set_cons_succ, i64_w, i32_w]
           rfl
          refine pure_ (i := 15) (N := some 52) (v := ?_) (a' := ?_) QB16_31 rfl rfl (Qj HT_.out (by kernel_rfl)) (fun _ _ _ h => h) (Or.inl ⟨by rfl, ?_⟩) ?_ ?_
          rotate_left
          ·
           intro w'
           go_simp
           with_reducible rfl
          rotate_left
          ·
           simp only [Act.put, List.setIfInBounds_toArray, List.set_cons_zero, List.set_cons_succ, i64_w, i32_w]
           rfl
          refine take_ (i := 14) (N := some 51) (v := ?_) (a' := ?_) QB16_14 rfl rfl (Qs HT_.out HW_.out (by kernel_rfl)) (fun _ _ _ h => h) (Or.inl ⟨by rfl, ?_⟩) hHeld ?_ ?_
          rotate_left
          ·
           rintro w' ⟨s0, s1, s2, s3, s4, s5⟩
           go_simp
           with_reducible rfl
          rotate_left
          ·
           simp only [Act.put, List.setIfInBounds_toArray, List.set_cons_zero, List.set_cons_succ, i64_w, i32_w]
           rfl
          refine take_ (i := 16) (N := some 53) (v := ?_) (a' := ?_) QB16_15 rfl rfl (Qs HT_.out HW_.out (by kernel_rfl)) (fun _ _ _ h => h) (Or.inl ⟨by rfl, ?_⟩) hHeld ?_ ?_
          rotate_left
          ·
           rintro w' ⟨s0, s1, s2, s3, s4, s5⟩
           go_simp
           with_reducible rfl
          rotate_left
          ·
           simp only [Act.put, List.setIfInBounds_toArray, List.set_cons_zero, List.set_cons_succ, i64_w, i32_w]
           rfl
          refine pure_ (i := 17) (N := some 54) (v := ?_) (a' := ?_) QB16_16 rfl rfl (Qj HT_.out (by kernel_rfl)) (fun _ _ _ h => h) (Or.inl ⟨by rfl, ?_⟩) ?_ ?_
          rotate_left
          ·
           intro w'
           go_simp
           with_reducible rfl
          rotate_left
          ·
           simp only [Act.put, List.setIfInBounds_toArray, List.set_cons_zero, List.set_cons_succ, i64_w, i32_w]
           rfl
          refine pure_ (i := 18) (N := some 55) (v := ?_) (a' := ?_) QB16_17 rfl rfl (Qj HT_.out (by kernel_rfl)) (fun _ _ _ h => h) (Or.inl ⟨by rfl, ?_⟩) ?_ ?_
          rotate_left
          ·
           intro w'
           go_simp
           with_reducible rfl
          rotate_left
          ·
           simp only [Act.put, List.setIfInBounds_toArray, List.set_cons_zero, List.set_cons_succ, i64_w, i32_w]
           rfl
          refine pure_ (i := 19) (N := some 56) (v := ?_) (a' := ?_) QB16_18 rfl rfl (Qj HT_.out (by kernel_rfl)) (fun _ _ _ h => h) (Or.inl ⟨by rfl, ?_⟩) ?_ ?_
          rotate_left
          ·
           intro w'
           go_simp
           with_reducible rfl
          rotate_left
          ·
           simp only [Act.put, List.setIfInBounds_toArray, List.set_cons_zero, List.set_cons_succ, i64_w, i32_w]
           rfl
          refine pure_ (i := 21) (N := some 58) (v := ?_) (a' := ?_) QB16_62 rfl rfl (Qj HT_.out (by kernel_rfl)) (fun _ _ _ h => h) (Or.inl ⟨by rfl, ?_⟩) ?_ ?_
          rotate_left
          ·
           intro w'
           go_simp
           with_reducible rfl
          rotate_left
          ·
           simp only [Act.put, List.setIfInBounds_toArray, List.set_cons_zero, List.set_cons_succ, i64_w, i32_w]
           rfl
          refine take_ (i := 20) (N := some 57) (v := ?_) (a' := ?_) QB16_19 rfl rfl (Qs HT_.out HW_.out (by kernel_rfl)) (fun _ _ _ h => h) (Or.inl ⟨by rfl, ?_⟩) hHeld ?_ ?_
          rotate_left
          ·
           rintro w' ⟨s0, s1, s2, s3, s4, s5⟩
           go_simp
           with_reducible rfl
          rotate_left
          ·
           simp only [Act.put, List.setIfInBounds_toArray, List.set_cons_zero, List.set_cons_succ, i64_w, i32_w]
           rfl
          refine take_ (i := 22) (N := some 59) (v := ?_) (a' := ?_) QB16_20 rfl rfl (Qs HT_.out HW_.out (by kernel_rfl)) (fun _ _ _ h => h) (Or.inl ⟨by rfl, ?_⟩) hHeld ?_ ?_
          rotate_left
          ·
           rintro w' ⟨s0, s1, s2, s3, s4, s5⟩
           go_simp
           with_reducible rfl
          rotate_left
          ·
           simp only [Act.put, List.setIfInBounds_toArray, List.set_cons_zero, List.set_cons_succ, i64_w, i32_w]
           rfl
          refine pure_ (i := 23) (N := some 60) (v := ?_) (a' := ?_) QB16_21 rfl rfl (Qj HT_.out (by kernel_rfl)) (fun _ _ _ h => h) (Or.inl ⟨by rfl, ?_⟩) ?_ ?_
          rotate_left
          ·
           intro w'
           go_simp
           with_reducible rfl
          rotate_left
          ·
           simp only [Act.put, List.setIfInBounds_toArray, List.set_cons_zero, List.set_cons_succ, i64_w, i32_w]
           rfl
          refine pure_ (i := 24) (N := some 61) (v := ?_) (a' := ?_) QB16_22 rfl rfl (Qj HT_.out (by kernel_rfl)) (fun _ _ _ h => h) (Or.inl ⟨by rfl, ?_⟩) ?_ ?_
          rotate_left
          ·
           intro w'
           go_simp
           with_reducible rfl
          rotate_left
          ·
           simp only [Act.put, List.setIfInBounds_toArray, List.set_cons_zero, List.set_cons_succ, i64_w, i32_w]
           rfl
          refine pure_ (i := 25) (N := some 62) (v := ?_) (a' := ?_) QB16_23 rfl rfl (Qj HT_.out (by kernel_rfl)) (fun _ _ _ h => h) (Or.inl ⟨by rfl, ?_⟩) ?_ ?_
          rotate_left
          ·
           intro w'
           go_simp
           with_reducible rfl
          rotate_left
          ·
           simp only [Act.put, List.setIfInBounds_toArray, List.set_cons_zero, List.set_cons_succ, i64_w, i32_w]
           rfl
          refine pure_ (i := 26) (N := some 63) (v := ?_) (a' := ?_) QB16_24 rfl rfl (Qj HT_.out (by kernel_rfl)) (fun _ _ _ h => h) (Or.inl ⟨by rfl, ?_⟩) ?_ ?_
          rotate_left
          ·
           intro w'
           go_simp
           with_reducible rfl
          rotate_left
          ·
           simp only [Act.put, List.setIfInBounds_toArray, List.set_cons_zero, List.set_cons_succ, i64_w, i32_w]
           rfl
          refine pure_ (i := 27) (N := some 64) (v := undef) (a' := ?_) QB16_25 rfl rfl (Qj HT_.out (by kernel_rfl)) (fun _ _ _ h => h) (Or.inr ⟨by rfl, rfl⟩) ?_ ?_
          rotate_left
          ·
           simp only [Act.put, List.setIfInBounds_toArray, List.set_cons_zero, List.set_cons_succ, i64_w, i32_w]
           rfl
          refine pure_ (i := 28) (N := some 65) (v := undef) (a' := ?_) QB16_26 rfl rfl (Qj HT_.out (by kernel_rfl)) (fun _ _ _ h => h) (Or.inr ⟨by rfl, rfl⟩) ?_ ?_
          rotate_left
          ·
           simp only [Act.put, List.setIfInBounds_toArray, List.set_cons_zero, List.set_cons_succ, i64_w, i32_w]
           rfl
          refine pure_ (i := 29) (N := some 66) (v := undef) (a' := ?_) QB16_66 rfl rfl (Qj HT_.out (by kernel_rfl)) (fun _ _ _ h => h) (Or.inr ⟨by rfl, rfl⟩) ?_ ?_
          rotate_left
          ·
           simp only [Act.put, List.setIfInBounds_toArray, List.set_cons_zero, List.set_cons_succ, i64_w, i32_w]
           rfl
          refine pure_ (i := 30) (N := some 67) (v := undef) (a' := ?_) QB16_67 rfl rfl (Qj HT_.out (by kernel_rfl)) (fun _ _ _ h => h) (Or.inr ⟨by rfl, rfl⟩) ?_ ?_
          rotate_left
          ·
           simp only [Act.put, List.setIfInBounds_toArray, List.set_cons_zero, List.set_cons_succ, i64_w, i32_w]
           rfl
          refine pure_ (i := 31) (N := some 68) (v := undef) (a' := ?_) QB16_68 rfl rfl (Qj HT_.out (by kernel_rfl)) (fun _ _ _ h => h) (Or.inr ⟨by rfl, rfl⟩) ?_ ?_
          rotate_left
          ·
           simp only [Act.put, List.setIfInBounds_toArray, List.set_cons_zero, List.set_cons_succ, i64_w, i32_w]
           rfl
          refine pure_ (i := 32) (N := some 69) (v := undef) (a' := ?_) QB16_27 rfl rfl (Qj HT_.out (by kernel_rfl)) (fun _ _ _ h => h) (Or.inr ⟨by rfl, rfl⟩) ?_ ?_
          rotate_left
          ·
           simp only [Act.put, List.setIfInBounds_toArray, List.set_cons_zero, List.set_cons_succ, i64_w, i32_w]
           rfl
          refine pure_ (i := 33) (N := some 70) (v := undef) (a' := ?_) QB16_28 rfl rfl (Qj HT_.out (by kernel_rfl)) (fun _ _ _ h => h) (Or.inr ⟨by rfl, rfl⟩) ?_ ?_
          rotate_left
          ·
           simp only [Act.put, List.setIfInBounds_toArray, List.set_cons_zero, List.set_cons_succ, i64_w, i32_w]
           rfl
          refine pure_ (i := 34) (N := some 71) (v := ?_) (a' := ?_) QB16_29 rfl rfl (Qj HT_.out (by kernel_rfl)) (fun _ _ _ h => h) (Or.inl ⟨by rfl, ?_⟩) ?_ ?_
          rotate_left
          ·
           intro w'
           go_simp
           with_reducible rfl
          rotate_left
          ·
           simp only [Act.put, List.setIfInBounds_toArray, List.set_cons_zero, List.set_cons_succ, i64_w, i32_w]
           rfl
          refine pure_ (i := 35) (N := some 4) (v := ?_) (a' := ?_) QB16_30 rfl rfl (Qj HT_.out (by kernel_rfl)) (fun _ _ _ h => h) (Or.inl ⟨by rfl, ?_⟩) ?_ ?_
          rotate_left
          ·
           intro w'
           go_simp
           with_reducible rfl
          rotate_left
          ·
           simp only [Act.put, List.setIfInBounds_toArray, List.set_cons_zero, List.set_cons_succ, i64_w, i32_w]
           rfl
          refine done_ (done_of HT_.out (by kernel_rfl)) ?_
          try go_wp2
          go_ret
          exact ⟨by first | rfl | (simp [Qp, Qq] <;> rfl) | (simp [*, Qp, Qq] <;> rfl), by repeat (first | (with_reducible first | exact HB.out | apply Qg | apply Qh | apply Qf | refine Qe ?_ GE159.out | refine Qe ?_ GE160.out | refine Qe ?_ GE164.out) | exact HB.out)⟩
       ·
        rw [if_neg c59] at H
        have c59b0 : (t162 == a1_0) = false := beq_eq_false_iff_ne.mpr c59
        have c59b1 : (t162 != a1_0) = true := bne_iff_ne.mpr c59
        obtain rfl := Option.some.inj H
        try go_wp2
        have n0_ := Qa.mk (Qb BK159.out)
        have n1_ := Qa.mk (Qb BK160.out)
        have n2_ := Qa.mk (Qb BK164.out)
        have n3_ := Qa.mk (Qf HB.out)
        clear BK159
        clear BK160
        clear BK164
        clear HB
        have BK159 := n0_
        have BK160 := n1_
        have BK164 := n2_
        have HB := n3_
        clear n0_ n1_ n2_ n3_
        refine start_ (n := 36) (S := fun w' => w'.cell? ⟨gb164, 0, none⟩ = some (.int .i64 t162) ∧ w'.cell? ⟨gb164, 1, none⟩ = some (.int .i64 t163) ∧ w'.cell? ⟨gb159, 0, none⟩ = some (.int .i64 a0_0) ∧ w'.cell? ⟨gb159, 1, none⟩ = some (.int .i64 a0_1) ∧ w'.cell? ⟨gb160, 0, none⟩ = some (.int .i64 a1_0) ∧ w'.cell? ⟨gb160, 1, none⟩ = some (.int .i64 a1_1)) (ds := []) QB16_0 (by kernel_rfl) rfl rfl ⟨(Qi BK164.out 0).trans rfl, (Qi BK164.out 1).trans rfl, (Qi BK159.out 0).trans rfl, (Qi BK159.out 1).trans rfl, (Qi BK160.out 0).trans rfl, (Qi BK160.out 1).trans rfl⟩ (fun hHeld => ?_); refine with_tabW Qy.tab6 Qy.bits6 (fun HT_ HW_ => ?_)
        generalize w47.drew = w69 at BK159 BK160 BK164 HB hHeld ⊢
        refine pure_ (i := 0) (N := some 37) (v := ?_) (a' := ?_) QB16_1 rfl rfl (Qj HT_.out (by kernel_rfl)) (fun _ _ _ h => h) (Or.inl ⟨by rfl, ?_⟩) ?_ ?_
        rotate_left
        ·
         intro w'
         go_simp
         with_reducible rfl
        rotate_left
        ·
         simp only [Act.put, List.setIfInBounds_toArray, List.set_cons_zero, List.set_cons_succ, i64_w, i32_w]
         rfl
        refine pure_ (i := 2) (N := some 39) (v := ?_) (a' := ?_) QB16_2 rfl rfl (Qj HT_.out (by kernel_rfl)) (fun _ _ _ h => h) (Or.inl ⟨by rfl, ?_⟩) ?_ ?_
        rotate_left
        ·
         intro w'
         go_simp
         with_reducible rfl
        rotate_left
        ·
         simp only [Act.put, List.setIfInBounds_toArray, List.set_cons_zero, List.set_cons_succ, i64_w, i32_w]
         rfl
        refine take_ (i := 1) (N := some 38) (v := ?_) (a' := ?_) QB16_3 rfl rfl (Qs HT_.out HW_.out (by kernel_rfl)) (fun _ _ _ h => h) (Or.inl ⟨by rfl, ?_⟩) hHeld ?_ ?_
        rotate_left
        ·
         rintro w' ⟨s0, s1, s2, s3, s4, s5⟩
         go_simp
         with_reducible rfl
        rotate_left
        ·
         simp only [Act.put, List.setIfInBounds_toArray, List.set_cons_zero, List.set_cons_succ, i64_w, i32_w]
         rfl
        refine take_ (i := 3) (N := some 40) (v := ?_) (a' := ?_) QB16_4 rfl rfl (Qs HT_.out HW_.out (by kernel_rfl)) (fun _ _ _ h => h) (Or.inl ⟨by rfl, ?_⟩) hHeld ?_ ?_
        rotate_left
        ·
         rintro w' ⟨s0, s1, s2, s3, s4, s5⟩
         go_simp
         with_reducible rfl
        rotate_left
        ·
         simp only [Act.put, List.setIfInBounds_toArray, List.set_cons_zero, List.set_cons_succ, i64_w, i32_w]
         rfl
        refine pure_ (i := 4) (N := some 41) (v := ?_) (a' := ?_) QB16_5 rfl rfl (Qj HT_.out (by kernel_rfl)) (fun _ _ _ h => h) (Or.inl ⟨by rfl, ?_⟩) ?_ ?_
        rotate_left
        ·
         intro w'
         go_simp
         with_reducible rfl
        rotate_left
        ·
         simp only [Act.put, List.setIfInBounds_toArray, List.set_cons_zero, List.set_cons_succ, i64_w, i32_w]
         rfl
        refine pure_ (i := 5) (N := some 42) (v := ?_) (a' := ?_) QB16_6 rfl rfl (Qj HT_.out (by kernel_rfl)) (fun _ _ _ h => h) (Or.inl ⟨by rfl, ?_⟩) ?_ ?_
        rotate_left
        ·
         intro w'
         go_simp
         with_reducible rfl
        rotate_left
        ·
         simp only [Act.put, List.setIfInBounds_toArray, List.set_cons_zero, List.set_cons_succ, i64_w, i32_w]
         rfl
        refine pure_ (i := 6) (N := some 43) (v := ?_) (a' := ?_) QB16_7 rfl rfl (Qj HT_.out (by kernel_rfl)) (fun _ _ _ h => h) (Or.inl ⟨by rfl, ?_⟩) ?_ ?_
        rotate_left
        ·
         intro w'
         go_simp
         with_reducible rfl
        rotate_left
        ·
         simp only [Act.put, List.setIfInBounds_toArray, List.set_cons_zero, List.set_cons_succ, i64_w, i32_w]
         rfl
        refine pure_ (i := 8) (N := some 45) (v := ?_) (a' := ?_) QB16_63 rfl rfl (Qj HT_.out (by kernel_rfl)) (fun _ _ _ h => h) (Or.inl ⟨by rfl, ?_⟩) ?_ ?_
        rotate_left
        ·
         intro w'
         go_simp
         with_reducible rfl
        rotate_left
        ·
         simp only [Act.put, List.setIfInBounds_toArray, List.set_cons_zero, List.set_cons_succ, i64_w, i32_w]
         rfl
        refine take_ (i := 7) (N := some 44) (v := ?_) (a' := ?_) QB16_8 rfl rfl (Qs HT_.out HW_.out (by kernel_rfl)) (fun _ _ _ h => h) (Or.inl ⟨by rfl, ?_⟩) hHeld ?_ ?_
        rotate_left
        ·
         rintro w' ⟨s0, s1, s2, s3, s4, s5⟩
         go_simp
         with_reducible rfl
        rotate_left
        ·
         simp only [Act.put, List.setIfInBounds_toArray, List.set_cons_zero, List.set_cons_succ, i64_w, i32_w]
         rfl
        refine take_ (i := 9) (N := some 46) (v := ?_) (a' := ?_) QB16_9 rfl rfl (Qs HT_.out HW_.out (by kernel_rfl)) (fun _ _ _ h => h) (Or.inl ⟨by rfl, ?_⟩) hHeld ?_ ?_
        rotate_left
        ·
         rintro w' ⟨s0, s1, s2, s3, s4, s5⟩
         go_simp
         with_reducible rfl
        rotate_left
        ·
         simp only [Act.put, List.setIfInBounds_toArray, List.set_cons_zero, List.set_cons_succ, i64_w, i32_w]
         rfl
        refine pure_ (i := 10) (N := some 47) (v := ?_) (a' := ?_) QB16_10 rfl rfl (Qj HT_.out (by kernel_rfl)) (fun _ _ _ h => h) (Or.inl ⟨by rfl, ?_⟩) ?_ ?_
        rotate_left
        ·
         intro w'
         go_simp
         with_reducible rfl
        rotate_left
        ·
         simp only [Act.put, List.setIfInBounds_toArray, List.set_cons_zero, List.set_cons_succ, i64_w, i32_w]
         rfl
        refine pure_ (i := 11) (N := some 48) (v := ?_) (a' := ?_) QB16_11 rfl rfl (Qj HT_.out (by kernel_rfl)) (fun _ _ _ h => h) (Or.inl ⟨by rfl, ?_⟩) ?_ ?_
        rotate_left
        ·
         intro w'
         go_simp
         with_reducible rfl
        rotate_left
        ·
         simp only [Act.put, List.setIfInBounds_toArray, List.set_cons_zero, List.set_cons_succ, i64_w, i32_w]
         rfl
        refine pure_ (i := 12) (N := some 49) (v := ?_) (a' := ?_) QB16_12 rfl rfl (Qj HT_.out (by kernel_rfl)) (fun _ _ _ h => h) (Or.inl ⟨by rfl, ?_⟩) ?_ ?_
        rotate_left
        ·
         intro w'
         go_simp
         with_reducible rfl
        rotate_left
        ·
         simp only [Act.put, List.setIfInBounds_toArray, List.set_cons_zero, List.set_cons_succ, i64_w, i32_w]
         rfl
        refine pure_ (i := 13) (N := some 50) (v := undef) (a' := ?_) QB16_13 rfl rfl (Qj HT_.out (by kernel_rfl)) (fun _ _ _ h => h) (Or.inr ⟨by rfl, rfl⟩) ?_ ?_
        rotate_left
        ·
         simp only [Act.put, List.setIfInBounds_toArray, List.set_cons_zero, List.set_cons_succ, i64_w, i32_w]
         rfl
        refine pure_ (i := 14) (N := some 51) (v := undef) (a' := ?_) #[true, true, true, true, true, true, true, true, true, true, true, true, true, true, true, false, false, false, false, false, false, false, false, false, false, false, false, false, false, false, false, false, false, false, false, false] rfl rfl (Qj HT_.out (by kernel_rfl)) (fun _ _ _ h => h) (Or.inr ⟨by rfl, rfl⟩) ?_ ?_
        rotate_left
        ·
         simp only [Act.put, List.setIfInBounds_toArray, List.set_cons_zero, List.set_cons_succ, i64_w, i32_w]
         rfl
        refine pure_ (i := 15) (N := some 52) (v := undef) (a' := ?_) QB16_14 rfl rfl (Qj HT_.out (by kernel_rfl)) (fun _ _ _ h => h) (Or.inr ⟨by rfl, rfl⟩) ?_ ?_
        rotate_left
        ·
         simp only [Act.put, List.setIfInBounds_toArray, List.set_cons_zero, List.set_cons_succ, i64_w, i32_w]
         rfl
        refine pure_ (i := 16) (N := some 53) (v := undef) (a' := ?_) QB16_15 rfl rfl (Qj HT_.out (by kernel_rfl)) (fun _ _ _ h => h) (Or.inr ⟨by rfl, rfl⟩) ?_ ?_
        rotate_left
        ·
         simp only [Act.put, List.setIfInBounds_toArray, List.set_cons_zero, List.set_cons_succ, i64_w, i32_w]
         rfl
        refine pure_ (i := 17) (N := some 54) (v := undef) (a' := ?_) QB16_16 rfl rfl (Qj HT_.out (by kernel_rfl)) (fun _ _ _ h => h) (Or.inr ⟨by rfl, rfl⟩) ?_ ?_
        rotate_left
        ·
         simp only [Act.put, List.setIfInBounds_toArray, List.set_cons_zero, List.set_cons_succ, i64_w, i32_w]
         rfl
        refine pure_ (i := 18) (N := some 55) (v := undef) (a' := ?_) QB16_17 rfl rfl (Qj HT_.out (by kernel_rfl)) (fun _ _ _ h => h) (Or.inr ⟨by rfl, rfl⟩) ?_ ?_
        rotate_left
        ·
         simp only [Act.put, List.setIfInBounds_toArray, List.set_cons_zero, List.set_cons_succ, i64_w, i32_w]
         rfl
        refine pure_ (i := 19) (N := some 56) (v := undef) (a' := ?_) QB16_18 rfl rfl (Qj HT_.out (by kernel_rfl)) (fun _ _ _ h => h) (Or.inr ⟨by rfl, rfl⟩) ?_ ?_
        rotate_left
        ·
         simp only [Act.put, List.setIfInBounds_toArray, List.set_cons_zero, List.set_cons_succ, i64_w, i32_w]
         rfl
        refine pure_ (i := 20) (N := some 57) (v := undef) (a' := ?_) QB16_65 rfl rfl (Qj HT_.out (by kernel_rfl)) (fun _ _ _ h => h) (Or.inr ⟨by rfl, rfl⟩) ?_ ?_
        rotate_left
        ·
         simp only [Act.put, List.setIfInBounds_toArray, List.set_cons_zero, List.set_cons_succ, i64_w, i32_w]
         rfl
        refine pure_ (i := 21) (N := some 58) (v := undef) (a' := ?_) QB16_19 rfl rfl (Qj HT_.out (by kernel_rfl)) (fun _ _ _ h => h) (Or.inr ⟨by rfl, rfl⟩) ?_ ?_
        rotate_left
        ·
         simp only [Act.put, List.setIfInBounds_toArray, List.set_cons_zero, List.set_cons_succ, i64_w, i32_w]
         rfl
        refine pure_ (i := 22) (N := some 59) (v := undef) (a' := ?_) QB16_20 rfl rfl (Qj HT_.out (by kernel_rfl)) (fun _ _ _ h => h) (Or.inr ⟨by rfl, rfl⟩) ?_ ?_
        rotate_left
        ·
         simp only [Act.put, List.setIfInBounds_toArray, List.set_cons_zero, List.set_cons_succ, i64_w, i32_w]
         rfl
        refine pure_ (i := 23) (N := some 60) (v := undef) (a' := ?_) QB16_21 rfl rfl (Qj HT_.out (by kernel_rfl)) (fun _ _ _ h => h) (Or.inr ⟨by rfl, rfl⟩) ?_ ?_
        rotate_left
        ·
         simp only [Act.put, List.setIfInBounds_toArray, List.set_cons_zero, List.set_cons_succ, i64_w, i32_w]
         rfl
        refine pure_ (i := 24) (N := some 61) (v := undef) (a' := ?_) QB16_22 rfl rfl (Qj HT_.out (by kernel_rfl)) (fun _ _ _ h => h) (Or.inr ⟨by rfl, rfl⟩) ?_ ?_
        rotate_left
        ·
         simp only [Act.put, List.setIfInBounds_toArray, List.set_cons_zero, List.set_cons_succ, i64_w, i32_w]
         rfl
        refine pure_ (i := 25) (N := some 62) (v := ?_) (a' := ?_) QB16_23 rfl rfl (Qj HT_.out (by kernel_rfl)) (fun _ _ _ h => h) (Or.inl ⟨by rfl, ?_⟩) ?_ ?_
        rotate_left
        ·
         intro w'
         go_simp
         with_reducible rfl
        rotate_left
        ·
         simp only [Act.put, List.setIfInBounds_toArray, List.set_cons_zero, List.set_cons_succ, i64_w, i32_w]
         rfl
        refine pure_ (i := 26) (N := some 63) (v := ?_) (a' := ?_) QB16_24 rfl rfl (Qj HT_.out (by kernel_rfl)) (fun _ _ _ h => h) (Or.inl ⟨by rfl, ?_⟩) ?_ ?_
        rotate_left
        ·
         intro w'
         go_simp
         with_reducible rfl
        rotate_left
        ·
         simp only [Act.put, List.setIfInBounds_toArray, List.set_cons_zero, List.set_cons_succ, i64_w, i32_w]
         rfl
        refine pure_ (i := 27) (N := some 64) (v := undef) (a' := ?_) QB16_25 rfl rfl (Qj HT_.out (by kernel_rfl)) (fun _ _ _ h => h) (Or.inr ⟨by rfl, rfl⟩) ?_ ?_
        rotate_left
        ·
         simp only [Act.put, List.setIfInBounds_toArray, List.set_cons_zero, List.set_cons_succ, i64_w, i32_w]
         rfl
        refine pure_ (i := 28) (N := some 65) (v := undef) (a' := ?_) QB16_26 rfl rfl (Qj HT_.out (by kernel_rfl)) (fun _ _ _ h => h) (Or.inr ⟨by rfl, rfl⟩) ?_ ?_
        rotate_left
        ·
         simp only [Act.put, List.setIfInBounds_toArray, List.set_cons_zero, List.set_cons_succ, i64_w, i32_w]
         rfl
        refine pure_ (i := 29) (N := some 66) (v := undef) (a' := ?_) QB16_66 rfl rfl (Qj HT_.out (by kernel_rfl)) (fun _ _ _ h => h) (Or.inr ⟨by rfl, rfl⟩) ?_ ?_
        rotate_left
        ·
         simp only [Act.put, List.setIfInBounds_toArray, List.set_cons_zero, List.set_cons_succ, i64_w, i32_w]
         rfl
        refine pure_ (i := 30) (N := some 67) (v := undef) (a' := ?_) QB16_67 rfl rfl (Qj HT_.out (by kernel_rfl)) (fun _ _ _ h => h) (Or.inr ⟨by rfl, rfl⟩) ?_ ?_
        rotate_left
        ·
         simp only [Act.put, List.setIfInBounds_toArray, List.set_cons_zero, List.set_cons_succ, i64_w, i32_w]
         rfl
        refine pure_ (i := 31) (N := some 68) (v := undef) (a' := ?_) QB16_68 rfl rfl (Qj HT_.out (by kernel_rfl)) (fun _ _ _ h => h) (Or.inr ⟨by rfl, rfl⟩) ?_ ?_
        rotate_left
        ·
         simp only [Act.put, List.setIfInBounds_toArray, List.set_cons_zero, List.set_cons_succ, i64_w, i32_w]
         rfl
        refine pure_ (i := 32) (N := some 69) (v := undef) (a' := ?_) QB16_27 rfl rfl (Qj HT_.out (by kernel_rfl)) (fun _ _ _ h => h) (Or.inr ⟨by rfl, rfl⟩) ?_ ?_
        rotate_left
        ·
         simp only [Act.put, List.setIfInBounds_toArray, List.set_cons_zero, List.set_cons_succ, i64_w, i32_w]
         rfl
        refine pure_ (i := 33) (N := some 70) (v := undef) (a' := ?_) QB16_28 rfl rfl (Qj HT_.out (by kernel_rfl)) (fun _ _ _ h => h) (Or.inr ⟨by rfl, rfl⟩) ?_ ?_
        rotate_left
        ·
         simp only [Act.put, List.setIfInBounds_toArray, List.set_cons_zero, List.set_cons_succ, i64_w, i32_w]
         rfl
        refine pure_ (i := 34) (N := some 71) (v := ?_) (a' := ?_) QB16_29 rfl rfl (Qj HT_.out (by kernel_rfl)) (fun _ _ _ h => h) (Or.inl ⟨by rfl, ?_⟩) ?_ ?_
        rotate_left
        ·
         intro w'
         go_simp
         with_reducible rfl
        rotate_left
        ·
         simp only [Act.put, List.setIfInBounds_toArray, List.set_cons_zero, List.set_cons_succ, i64_w, i32_w]
         rfl
        refine pure_ (i := 35) (N := some 4) (v := ?_) (a' := ?_) QB16_30 rfl rfl (Qj HT_.out (by kernel_rfl)) (fun _ _ _ h => h) (Or.inl ⟨by rfl, ?_⟩) ?_ ?_
        rotate_left
        ·
         intro w'
         go_simp
         with_reducible rfl
        rotate_left
        ·
         simp only [Act.put, List.setIfInBounds_toArray, List.set_cons_zero, List.set_cons_succ, i64_w, i32_w]
         rfl
        refine done_ (done_of HT_.out (by kernel_rfl)) ?_
        try go_wp2
        go_ret
        exact ⟨by first | rfl | (simp [Qp, Qq] <;> rfl) | (simp [*, Qp, Qq] <;> rfl), by repeat (first | (with_reducible first | exact HB.out | apply Qg | apply Qh | apply Qf | refine Qe ?_ GE159.out | refine Qe ?_ GE160.out | refine Qe ?_ GE164.out) | exact HB.out)⟩
    ·
     replace c27 := Bool.eq_false_iff.mpr c27
     subst c27
     have H1 : (some false) = some r := by rw [if_neg (show ¬ (false = true) by decide)] at H; exact H
     clear H
     have H := H1
     clear H1
     obtain rfl := Option.some.inj H
     go_enter Try.func4, Try.ntmps4
     try go_wp2_with (first | ((with_reducible refine Qv (N := 2) rfl ?_); refine Qx ?hg (N := 2) ?hd (cs := #[.int .i64 a0_0, .int .i64 a0_1]) (t := 29) ?hr ?_; (case hd => rfl); (case hg => rfl); (case hr => first | (go_simp; done) | (go_simp; rfl)); intro gb159 hg w70 hbox hb; have n0_ := Qa.mk (Ql (by repeat (first | (with_reducible first | exact HB.out | apply Qg | apply Qh | apply Qf) | exact HB.out)) hb); have n1_ := Qa.mk (hbox); have n2_ := Qa.mk ((by rw [hg]; exact (Qn (by repeat (first | (with_reducible first | exact HB.out | apply Qg | apply Qh | apply Qf) | exact HB.out))) : w.heap.size ≤ gb159)); have n3_ := Qa.mk ((by rw [hg]; exact (Qn (by repeat (first | (with_reducible first | exact HB.out | apply Qg | apply Qh | apply Qf) | exact HB.out))) : w.heap.size ≤ gb159)); clear HB; have HB := n0_; have BK159 := n1_; have GW159 := n2_; have GE159 := n3_; clear n0_ n1_ n2_ n3_; clear hb hbox hg) | ((with_reducible refine Qv (N := 3) rfl ?_); refine Qx ?hg (N := 3) ?hd (cs := #[.int .i64 a1_0, .int .i64 a1_1]) (t := 29) ?hr ?_; (case hd => rfl); (case hg => rfl); (case hr => first | (go_simp; done) | (go_simp; rfl)); intro gb160 hg w71 hbox hb; have n0_ := Qa.mk (Qk (g := gb159) (o := .cells #[.int .i64 a0_0, .int .i64 a0_1] 29 (0, 0)) (by (with_reducible repeat (first | refine Qc ?_ _ | refine Qb ?_ | refine Qd ?_ _)); exact BK159.out) hb); have n1_ := Qa.mk (Ql (by repeat (first | (with_reducible first | exact HB.out | apply Qg | apply Qh | apply Qf | refine Qe ?_ GE159.out) | exact HB.out)) hb); have n2_ := Qa.mk (hbox); have n3_ := Qa.mk ((by rw [hg]; exact (Qn (by repeat (first | (with_reducible first | exact HB.out | apply Qg | apply Qh | apply Qf | refine Qe ?_ GE159.out) | exact HB.out))) : w.heap.size ≤ gb160)); have n4_ := Qa.mk ((by rw [hg]; exact (Qn (by repeat (first | (with_reducible first | exact HB.out | apply Qg | apply Qh | apply Qf | refine Qe ?_ GE159.out) | exact HB.out))) : w.heap.size ≤ gb160)); have n5_ := Qa.mk ((by rw [hg]; exact Nat.ne_of_lt (blk_lt (g := gb159) (o := .cells #[.int .i64 a0_0, .int .i64 a0_1] 29 (0, 0)) (by (with_reducible repeat (first | refine Qc ?_ _ | refine Qb ?_ | refine Qd ?_ _)); exact BK159.out)) : gb159 ≠ gb160)); have n6_ := Qa.mk ((by rw [hg]; exact Nat.ne_of_gt (blk_lt (g := gb159) (o := .cells #[.int .i64 a0_0, .int .i64 a0_1] 29 (0, 0)) (by (with_reducible repeat (first | refine Qc ?_ _ | refine Qb ?_ | refine Qd ?_ _)); exact BK159.out)) : gb160 ≠ gb159)); clear BK159; clear HB; have BK159 := n0_; have HB := n1_; have BK160 := n2_; have GW160 := n3_; have GE160 := n4_; have NB159_160 := n5_; have NB160_159 := n6_; clear n0_ n1_ n2_ n3_ n4_ n5_ n6_; clear hb hbox hg) | ((with_reducible refine Qr (f := 7) rfl ?_); refine goesL_ (some 6) rfl rfl Try.func7 (by kernel_rfl) rfl #[] rfl (by (try simp only [List.map_toArray, List.map_cons, List.map_nil]); first | done | rfl | (simp only [List.length_drop, List.length_take]; rfl)) ?_; (with_reducible refine (Qb1.calls k  true _ A3.out).mono ?_); rintro e w72 ⟨rfl, hb⟩; refine ⟨_, rfl, ?_⟩; have n0_ := Qa.mk (Qk (g := gb159) (o := .cells #[.int .i64 a0_0, .int .i64 a0_1] 29 (0, 0)) (by (with_reducible repeat (first | refine Qc ?_ _ | refine Qb ?_ | refine Qd ?_ _)); exact BK159.out) hb); have n1_ := Qa.mk (Qk (g := gb160) (o := .cells #[.int .i64 a1_0, .int .i64 a1_1] 29 (0, 0)) (by (with_reducible repeat (first | refine Qc ?_ _ | refine Qb ?_ | refine Qd ?_ _)); exact BK160.out) hb); have n2_ := Qa.mk (Ql (by repeat (first | (with_reducible first | exact HB.out | apply Qg | apply Qh | apply Qf | refine Qe ?_ GE159.out | refine Qe ?_ GE160.out) | exact HB.out)) hb); clear BK159; clear BK160; clear HB; have BK159 := n0_; have BK160 := n1_; have HB := n2_; clear n0_ n1_ n2_; (try clear hb); (try clear hb2); (try clear hk); (try clear hi); have hnb73 := NB159_160.out; have hnc73 := NB160_159.out; have hcz74_0 : w72.cell? ⟨gb159, 0, none⟩ = some (.int .i64 a0_0) := (Qi BK159.out 0).trans rfl; have hcz74_1 : w72.cell? ⟨gb159, 1, none⟩ = some (.int .i64 a0_1) := (Qi BK159.out 1).trans rfl; have hfz74_0 := Qm BK159.out 0; have hfz74_1 := Qm BK159.out 1; have hcz75_0 : w72.cell? ⟨gb160, 0, none⟩ = some (.int .i64 a1_0) := (Qi BK160.out 0).trans rfl; have hcz75_1 : w72.cell? ⟨gb160, 1, none⟩ = some (.int .i64 a1_1) := (Qi BK160.out 1).trans rfl; have hfz75_0 := Qm BK160.out 0; have hfz75_1 := Qm BK160.out 1) | ((with_reducible refine Qr (f := 10) rfl ?_); refine goesL_ (some 10) rfl rfl Try.func10 (by kernel_rfl) rfl #[.agg #[.int .i64 a0_0, .int .i64 a0_1], .agg #[.int .i64 a1_0, .int .i64 a1_1]] rfl (by (try simp only [List.map_toArray, List.map_cons, List.map_nil]); first | done | rfl | (simp only [List.length_drop, List.length_take]; rfl)) ?_; (with_reducible refine (Qz.calls a0_0 a0_1 a1_0 a1_1 t162 t163 _ A5.out).mono ?_); rintro e w76 ⟨rfl, hb⟩; refine ⟨_, rfl, ?_⟩; have n0_ := Qa.mk (Qk (g := gb159) (o := .cells #[.int .i64 a0_0, .int .i64 a0_1] 29 (0, 0)) (by (with_reducible repeat (first | refine Qc ?_ _ | refine Qb ?_ | refine Qd ?_ _)); exact BK159.out) hb); have n1_ := Qa.mk (Qk (g := gb160) (o := .cells #[.int .i64 a1_0, .int .i64 a1_1] 29 (0, 0)) (by (with_reducible repeat (first | refine Qc ?_ _ | refine Qb ?_ | refine Qd ?_ _)); exact BK160.out) hb); have n2_ := Qa.mk (Ql (by repeat (first | (with_reducible first | exact HB.out | apply Qg | apply Qh | apply Qf | refine Qe ?_ GE159.out | refine Qe ?_ GE160.out) | exact HB.out)) hb); clear BK159; clear BK160; clear HB; have BK159 := n0_; have BK160 := n1_; have HB := n2_; clear n0_ n1_ n2_; (try clear hb); (try clear hb2); (try clear hk); (try clear hi)) | ((with_reducible refine Qv (N := 5) rfl ?_); refine Qx ?hg (N := 5) ?hd (cs := #[.int .i64 0, .int .i64 0]) (t := 29) ?hr ?_; (case hd => rfl); (case hg => rfl); (case hr => first | (go_simp; done) | (go_simp; rfl)); intro gb164 hg w77 hbox hb; have n0_ := Qa.mk (Qk (g := gb159) (o := .cells #[.int .i64 a0_0, .int .i64 a0_1] 29 (0, 0)) (by (with_reducible repeat (first | refine Qc ?_ _ | refine Qb ?_ | refine Qd ?_ _)); exact BK159.out) hb); have n1_ := Qa.mk (Qk (g := gb160) (o := .cells #[.int .i64 a1_0, .int .i64 a1_1] 29 (0, 0)) (by (with_reducible repeat (first | refine Qc ?_ _ | refine Qb ?_ | refine Qd ?_ _)); exact BK160.out) hb); have n2_ := Qa.mk (Ql (by repeat (first | (with_reducible first | exact HB.out | apply Qg | apply Qh | apply Qf | refine Qe ?_ GE159.out | refine Qe ?_ GE160.out) | exact HB.out)) hb); have n3_ := Qa.mk (hbox); have n4_ := Qa.mk ((by rw [hg]; exact (Qn (by repeat (first | (with_reducible first | exact HB.out | apply Qg | apply Qh | apply Qf | refine Qe ?_ GE159.out | refine Qe ?_ GE160.out) | exact HB.out))) : w.heap.size ≤ gb164)); have n5_ := Qa.mk ((by rw [hg]; exact (Qn (by repeat (first | (with_reducible first | exact HB.out | apply Qg | apply Qh | apply Qf | refine Qe ?_ GE159.out | refine Qe ?_ GE160.out) | exact HB.out))) : w.heap.size ≤ gb164)); have n6_ := Qa.mk ((by rw [hg]; exact Nat.ne_of_lt (blk_lt (g := gb159) (o := .cells #[.int .i64 a0_0, .int .i64 a0_1] 29 (0, 0)) (by (with_reducible repeat (first | refine Qc ?_ _ | refine Qb ?_ | refine Qd ?_ _)); exact BK159.out)) : gb159 ≠ gb164)); have n7_ := Qa.mk ((by rw [hg]; exact Nat.ne_of_gt (blk_lt (g := gb159) (o := .cells #[.int .i64 a0_0, .int .i64 a0_1] 29 (0, 0)) (by (with_reducible repeat (first | refine Qc ?_ _ | refine Qb ?_ | refine Qd ?_ _)); exact BK159.out)) : gb164 ≠ gb159)); have n8_ := Qa.mk ((by rw [hg]; exact Nat.ne_of_lt (blk_lt (g := gb160) (o := .cells #[.int .i64 a1_0, .int .i64 a1_1] 29 (0, 0)) (by (with_reducible repeat (first | refine Qc ?_ _ | refine Qb ?_ | refine Qd ?_ _)); exact BK160.out)) : gb160 ≠ gb164)); have n9_ := Qa.mk ((by rw [hg]; exact Nat.ne_of_gt (blk_lt (g := gb160) (o := .cells #[.int .i64 a1_0, .int .i64 a1_1] 29 (0, 0)) (by (with_reducible repeat (first | refine Qc ?_ _ | refine Qb ?_ | refine Qd ?_ _)); exact BK160.out)) : gb164 ≠ gb160)); clear BK159; clear BK160; clear HB; have BK159 := n0_; have BK160 := n1_; have HB := n2_; have BK164 := n3_; have GW164 := n4_; have GE164 := n5_; have NB159_164 := n6_; have NB164_159 := n7_; have NB160_164 := n8_; have NB164_160 := n9_; clear n0_ n1_ n2_ n3_ n4_ n5_ n6_ n7_ n8_ n9_; clear hb hbox hg; have hnb78 := NB164_159.out; have hnc78 := NB159_164.out; have hnb79 := NB164_160.out; have hnc79 := NB160_164.out; have hcz80_0 : w77.cell? ⟨gb164, 0, none⟩ = some (.int .i64 0) := (Qi BK164.out 0).trans rfl; have hcz80_1 : w77.cell? ⟨gb164, 1, none⟩ = some (.int .i64 0) := (Qi BK164.out 1).trans rfl; have hfz80_0 := Qm BK164.out 0; have hfz80_1 := Qm BK164.out 1))
     have n0_ : Qa (((w77.setCell ⟨gb164, 0, none⟩ (.int .i64 t162)).setCell ⟨gb164, 1, none⟩ (.int .i64 t163)).heap[gb159]? = some (.cells #[.int .i64 a0_0, .int .i64 a0_1] 29 (0, 0))) := ⟨by (with_reducible repeat (first | refine Qc ?_ _ | refine Qb ?_ | refine Qd ?_ _)); refine blk_far ?_ NB159_164.out _; (with_reducible repeat (first | refine Qc ?_ _ | refine Qb ?_ | refine Qd ?_ _)); refine blk_far ?_ NB159_164.out _; (with_reducible repeat (first | refine Qc ?_ _ | refine Qb ?_ | refine Qd ?_ _)); exact BK159.out⟩
     have n1_ : Qa (((w77.setCell ⟨gb164, 0, none⟩ (.int .i64 t162)).setCell ⟨gb164, 1, none⟩ (.int .i64 t163)).heap[gb160]? = some (.cells #[.int .i64 a1_0, .int .i64 a1_1] 29 (0, 0))) := ⟨by (with_reducible repeat (first | refine Qc ?_ _ | refine Qb ?_ | refine Qd ?_ _)); refine blk_far ?_ NB160_164.out _; (with_reducible repeat (first | refine Qc ?_ _ | refine Qb ?_ | refine Qd ?_ _)); refine blk_far ?_ NB160_164.out _; (with_reducible repeat (first | refine Qc ?_ _ | refine Qb ?_ | refine Qd ?_ _)); exact BK160.out⟩
     have n2_ : Qa (((w77.setCell ⟨gb164, 0, none⟩ (.int .i64 t162)).setCell ⟨gb164, 1, none⟩ (.int .i64 t163)).heap[gb164]? = some (.cells #[.int .i64 t162, .int .i64 t163] 29 (0, 0))) := ⟨by (with_reducible repeat (first | refine Qc ?_ _ | refine Qb ?_ | refine Qd ?_ _)); refine Qu (cs := #[.int .i64 t162, .int .i64 0]) ?_ 1 _ rfl; (with_reducible repeat (first | refine Qc ?_ _ | refine Qb ?_ | refine Qd ?_ _)); refine Qu (cs := #[.int .i64 0, .int .i64 0]) ?_ 0 _ rfl; (with_reducible repeat (first | refine Qc ?_ _ | refine Qb ?_ | refine Qd ?_ _)); exact BK164.out⟩
     have n3_ : Qa (Below w.heap.size w ((w77.setCell ⟨gb164, 0, none⟩ (.int .i64 t162)).setCell ⟨gb164, 1, none⟩ (.int .i64 t163))) := ⟨by repeat (first | (with_reducible first | exact HB.out | apply Qg | apply Qh | apply Qf | refine Qe ?_ GE159.out | refine Qe ?_ GE160.out | refine Qe ?_ GE164.out) | exact HB.out)⟩
     (try clear BK159)
     (try clear BK160)
     (try clear BK164)
     (try clear HB)
     generalize ((w77.setCell ⟨gb164, 0, none⟩ (.int .i64 t162)).setCell ⟨gb164, 1, none⟩ (.int .i64 t163)) = w81 at n0_ n1_ n2_ n3_ ⊢
     have BK159 := n0_
     have BK160 := n1_
     have BK164 := n2_
     have HB := n3_
     clear n0_ n1_ n2_ n3_
     have n0_ := Qa.mk (Qb BK159.out)
     have n1_ := Qa.mk (Qb BK160.out)
     have n2_ := Qa.mk (Qb BK164.out)
     have n3_ := Qa.mk (Qf HB.out)
     clear BK159
     clear BK160
     clear BK164
     clear HB
     have BK159 := n0_
     have BK160 := n1_
     have BK164 := n2_
     have HB := n3_
     clear n0_ n1_ n2_ n3_
     refine start_ (n := 26) (S := fun w' => w'.cell? ⟨gb159, 0, none⟩ = some (.int .i64 a0_0) ∧ w'.cell? ⟨gb159, 1, none⟩ = some (.int .i64 a0_1) ∧ w'.cell? ⟨gb160, 0, none⟩ = some (.int .i64 a1_0) ∧ w'.cell? ⟨gb160, 1, none⟩ = some (.int .i64 a1_1) ∧ w'.cell? ⟨gb164, 0, none⟩ = some (.int .i64 t162) ∧ w'.cell? ⟨gb164, 1, none⟩ = some (.int .i64 t163)) (ds := []) QB16_32 (by kernel_rfl) rfl rfl ⟨(Qi BK159.out 0).trans rfl, (Qi BK159.out 1).trans rfl, (Qi BK160.out 0).trans rfl, (Qi BK160.out 1).trans rfl, (Qi BK164.out 0).trans rfl, (Qi BK164.out 1).trans rfl⟩ (fun hHeld => ?_); refine with_tabW Qy.tab4 Qy.bits4 (fun HT_ HW_ => ?_)
     generalize w81.drew = w82 at BK159 BK160 BK164 HB hHeld ⊢
     refine take_ (i := 0) (N := some 11) (v := ?_) (a' := ?_) QB16_33 rfl rfl (Qs HT_.out HW_.out (by kernel_rfl)) (fun _ _ _ h => h) (Or.inl ⟨by rfl, ?_⟩) hHeld ?_ ?_
     rotate_left
     ·
      rintro w' ⟨s0, s1, s2, s3, s4, s5⟩
      go_simp
      with_reducible rfl
     rotate_left
     ·
      simp only [Act.put, List.setIfInBounds_toArray, List.set_cons_zero, List.set_cons_succ, i64_w, i32_w]
      rfl
     refine take_ (i := 1) (N := some 12) (v := ?_) (a' := ?_) QB16_34 rfl rfl (Qs HT_.out HW_.out (by kernel_rfl)) (fun _ _ _ h => h) (Or.inl ⟨by rfl, ?_⟩) hHeld ?_ ?_
     rotate_left
     ·
      rintro w' ⟨s0, s1, s2, s3, s4, s5⟩
      go_simp
      with_reducible rfl
     rotate_left
     ·
      simp only [Act.put, List.setIfInBounds_toArray, List.set_cons_zero, List.set_cons_succ, i64_w, i32_w]
      rfl
     refine take_ (i := 3) (N := some 14) (v := ?_) (a' := ?_) QB16_35 rfl rfl (Qs HT_.out HW_.out (by kernel_rfl)) (fun _ _ _ h => h) (Or.inl ⟨by rfl, ?_⟩) hHeld ?_ ?_
     rotate_left
     ·
      rintro w' ⟨s0, s1, s2, s3, s4, s5⟩
      go_simp
      with_reducible rfl
     rotate_left
     ·
      simp only [Act.put, List.setIfInBounds_toArray, List.set_cons_zero, List.set_cons_succ, i64_w, i32_w]
      rfl
     refine take_ (i := 4) (N := some 15) (v := ?_) (a' := ?_) QB16_36 rfl rfl (Qs HT_.out HW_.out (by kernel_rfl)) (fun _ _ _ h => h) (Or.inl ⟨by rfl, ?_⟩) hHeld ?_ ?_
     rotate_left
     ·
      rintro w' ⟨s0, s1, s2, s3, s4, s5⟩
      go_simp
      with_reducible rfl
     rotate_left
     ·
      simp only [Act.put, List.setIfInBounds_toArray, List.set_cons_zero, List.set_cons_succ, i64_w, i32_w]
      rfl
     refine one_ (i := 2) (N := some 13) QB16_37 rfl rfl (one_of HT_.out (by kernel_rfl)) (by decide) (fun K hK => ?_)
     refine goes_ Try.func11 (by kernel_rfl) rfl #[.agg #[.int .i64 a0_0, .int .i64 a0_1], .agg #[.int .i64 a1_0, .int .i64 a1_1]] (by rfl) rfl rfl (by (try simp only [List.map_toArray, List.map_cons, List.map_nil]); first | done | rfl | (simp only [List.length_drop, List.length_take]; rfl)) ?_
     with_reducible refine (Qt.calls a0_0 a0_1 a1_0 a1_1 t165 _ A6.out).mono ?_
     rintro e w83 ⟨rfl, hb⟩
     refine ⟨_, rfl, ?_⟩
     have n0_ := Qa.mk (Qk (g := gb159) (o := .cells #[.int .i64 a0_0, .int .i64 a0_1] 29 (0, 0)) (by (with_reducible repeat (first | refine Qc ?_ _ | refine Qb ?_ | refine Qd ?_ _)); exact BK159.out) hb)
     have n1_ := Qa.mk (Qk (g := gb160) (o := .cells #[.int .i64 a1_0, .int .i64 a1_1] 29 (0, 0)) (by (with_reducible repeat (first | refine Qc ?_ _ | refine Qb ?_ | refine Qd ?_ _)); exact BK160.out) hb)
     have n2_ := Qa.mk (Qk (g := gb164) (o := .cells #[.int .i64 t162, .int .i64 t163] 29 (0, 0)) (by (with_reducible repeat (first | refine Qc ?_ _ | refine Qb ?_ | refine Qd ?_ _)); exact BK164.out) hb)
     have n3_ := Qa.mk (Ql (by repeat (first | (with_reducible first | exact HB.out | apply Qg | apply Qh | apply Qf | refine Qe ?_ GE159.out | refine Qe ?_ GE160.out | refine Qe ?_ GE164.out) | exact HB.out)) hb)
     clear BK159
     clear BK160
     clear BK164
     clear HB
     have BK159 := n0_
     have BK160 := n1_
     have BK164 := n2_
     have HB := n3_
     clear n0_ n1_ n2_ n3_
     (try clear hb)
     (try clear hb2)
     (try clear hk)
     (try clear hi)
     refine hK.out _ _ ⟨(Qi BK159.out 0).trans rfl, (Qi BK159.out 1).trans rfl, (Qi BK160.out 0).trans rfl, (Qi BK160.out 1).trans rfl, (Qi BK164.out 0).trans rfl, (Qi BK164.out 1).trans rfl⟩ (fun hHeld => ?_)
     clear hK K
     refine norm_ (a' := ?_) ?_ ?_
     rotate_left
     ·
      show Act.put _ (some 13) _ = _
      simp only [Act.put, List.setIfInBounds_toArray, List.set_cons_zero, List.set_cons_succ, i64_w, i32_w]
      rfl
     refine one_ (i := 5) (N := some 16) QB16_38 rfl rfl (one_of HT_.out (by kernel_rfl)) (by decide) (fun K hK => ?_)
     refine goes_ Try.func12 (by kernel_rfl) rfl #[.agg #[.int .i64 a0_0, .int .i64 a0_1], .agg #[.int .i64 a1_0, .int .i64 a1_1]] (by rfl) rfl rfl (by (try simp only [List.map_toArray, List.map_cons, List.map_nil]); first | done | rfl | (simp only [List.length_drop, List.length_take]; rfl)) ?_
     with_reducible refine (Qa1.calls a0_0 a0_1 a1_0 a1_1 t166 _ A7.out).mono ?_
     rintro e w84 ⟨rfl, hb⟩
     refine ⟨_, rfl, ?_⟩
     have n0_ := Qa.mk (Qk (g := gb159) (o := .cells #[.int .i64 a0_0, .int .i64 a0_1] 29 (0, 0)) (by (with_reducible repeat (first | refine Qc ?_ _ | refine Qb ?_ | refine Qd ?_ _)); exact BK159.out) hb)
     have n1_ := Qa.mk (Qk (g := gb160) (o := .cells #[.int .i64 a1_0, .int .i64 a1_1] 29 (0, 0)) (by (with_reducible repeat (first | refine Qc ?_ _ | refine Qb ?_ | refine Qd ?_ _)); exact BK160.out) hb)
     have n2_ := Qa.mk (Qk (g := gb164) (o := .cells #[.int .i64 t162, .int .i64 t163] 29 (0, 0)) (by (with_reducible repeat (first | refine Qc ?_ _ | refine Qb ?_ | refine Qd ?_ _)); exact BK164.out) hb)
     have n3_ := Qa.mk (Ql (by repeat (first | (with_reducible first | exact HB.out | apply Qg | apply Qh | apply Qf | refine Qe ?_ GE159.out | refine Qe ?_ GE160.out | refine Qe ?_ GE164.out) | exact HB.out)) hb)
     clear BK159
     clear BK160
     clear BK164
     clear HB
     have BK159 := n0_
     have BK160 := n1_
     have BK164 := n2_
     have HB := n3_
     clear n0_ n1_ n2_ n3_
     (try clear hb)
     (try clear hb2)
     (try clear hk)
     (try clear hi)
     refine hK.out _ _ ⟨(Qi BK159.out 0).trans rfl, (Qi BK159.out 1).trans rfl, (Qi BK160.out 0).trans rfl, (Qi BK160.out 1).trans rfl, (Qi BK164.out 0).trans rfl, (Qi BK164.out 1).trans rfl⟩ (fun hHeld => ?_)
     clear hK K
     refine norm_ (a' := ?_) ?_ ?_
     rotate_left
     ·
      show Act.put _ (some 16) _ = _
      simp only [Act.put, List.setIfInBounds_toArray, List.set_cons_zero, List.set_cons_succ, i64_w, i32_w]
      rfl
     refine pure_ (i := 6) (N := some 17) (v := ?_) (a' := ?_) QB16_39 rfl rfl (Qj HT_.out (by kernel_rfl)) (fun _ _ _ h => h) (Or.inl ⟨by rfl, ?_⟩) ?_ ?_
     rotate_left
     ·
      intro w'
      go_simp
      with_reducible rfl
     rotate_left
     ·
      simp only [Act.put, List.setIfInBounds_toArray, List.set_cons_zero, List.set_cons_succ, i64_w, i32_w]
      rfl
     refine pure_ (i := 7) (N := some 18) (v := ?_) (a' := ?_) QB16_40 rfl rfl (Qj HT_.out (by kernel_rfl)) (fun _ _ _ h => h) (Or.inl ⟨by rfl, ?_⟩) ?_ ?_
     rotate_left
     ·
      intro w'
      go_simp
      with_reducible rfl
     rotate_left
     ·
      simp only [Act.put, List.setIfInBounds_toArray, List.set_cons_zero, List.set_cons_succ, i64_w, i32_w]
      rfl
     refine take_ (i := 8) (N := some 19) (v := ?_) (a' := ?_) QB16_41 rfl rfl (Qs HT_.out HW_.out (by kernel_rfl)) (fun _ _ _ h => h) (Or.inl ⟨by rfl, ?_⟩) hHeld ?_ ?_
     rotate_left
     ·
      rintro w' ⟨s0, s1, s2, s3, s4, s5⟩
      go_simp
      with_reducible rfl
     rotate_left
     ·
      simp only [Act.put, List.setIfInBounds_toArray, List.set_cons_zero, List.set_cons_succ, i64_w, i32_w]
      rfl
     refine take_ (i := 9) (N := some 20) (v := ?_) (a' := ?_) QB16_42 rfl rfl (Qs HT_.out HW_.out (by kernel_rfl)) (fun _ _ _ h => h) (Or.inl ⟨by rfl, ?_⟩) hHeld ?_ ?_
     rotate_left
     ·
      rintro w' ⟨s0, s1, s2, s3, s4, s5⟩
      go_simp
      with_reducible rfl
     rotate_left
     ·
      simp only [Act.put, List.setIfInBounds_toArray, List.set_cons_zero, List.set_cons_succ, i64_w, i32_w]
      rfl
     refine one_ (i := 10) (N := some 21) QB16_43 rfl rfl (one_of HT_.out (by kernel_rfl)) (by decide) (fun K hK => ?_)
     refine goes_ Try.func12 (by kernel_rfl) rfl #[.agg #[.int .i64 a0_0, .int .i64 a0_1], .agg #[.int .i64 t162, .int .i64 t163]] (by rfl) rfl rfl (by (try simp only [List.map_toArray, List.map_cons, List.map_nil]); first | done | rfl | (simp only [List.length_drop, List.length_take]; rfl)) ?_
     with_reducible refine (Qa1.calls a0_0 a0_1 t162 t163 true _ A24.out).mono ?_
     rintro e w85 ⟨rfl, hb⟩
     refine ⟨_, rfl, ?_⟩
     have n0_ := Qa.mk (Qk (g := gb159) (o := .cells #[.int .i64 a0_0, .int .i64 a0_1] 29 (0, 0)) (by (with_reducible repeat (first | refine Qc ?_ _ | refine Qb ?_ | refine Qd ?_ _)); exact BK159.out) hb)
     have n1_ := Qa.mk (Qk (g := gb160) (o := .cells #[.int .i64 a1_0, .int .i64 a1_1] 29 (0, 0)) (by (with_reducible repeat (first | refine Qc ?_ _ | refine Qb ?_ | refine Qd ?_ _)); exact BK160.out) hb)
     have n2_ := Qa.mk (Qk (g := gb164) (o := .cells #[.int .i64 t162, .int .i64 t163] 29 (0, 0)) (by (with_reducible repeat (first | refine Qc ?_ _ | refine Qb ?_ | refine Qd ?_ _)); exact BK164.out) hb)
     have n3_ := Qa.mk (Ql (by repeat (first | (with_reducible first | exact HB.out | apply Qg | apply Qh | apply Qf | refine Qe ?_ GE159.out | refine Qe ?_ GE160.out | refine Qe ?_ GE164.out) | exact HB.out)) hb)
     clear BK159
     clear BK160
     clear BK164
     clear HB
     have BK159 := n0_
     have BK160 := n1_
     have BK164 := n2_
     have HB := n3_
     clear n0_ n1_ n2_ n3_
     (try clear hb)
     (try clear hb2)
     (try clear hk)
     (try clear hi)
     refine hK.out _ _ ⟨(Qi BK159.out 0).trans rfl, (Qi BK159.out 1).trans rfl, (Qi BK160.out 0).trans rfl, (Qi BK160.out 1).trans rfl, (Qi BK164.out 0).trans rfl, (Qi BK164.out 1).trans rfl⟩ (fun hHeld => ?_)
     clear hK K
     refine norm_ (a' := ?_) ?_ ?_
     rotate_left
     ·
      show Act.put _ (some 21) _ = _
      simp only [Act.put, List.setIfInBounds_toArray, List.set_cons_zero, List.set_cons_succ, i64_w, i32_w]
      rfl
     refine pure_ (i := 11) (N := some 22) (v := ?_) (a' := ?_) QB16_44 rfl rfl (Qj HT_.out (by kernel_rfl)) (fun _ _ _ h => h) (Or.inl ⟨by rfl, ?_⟩) ?_ ?_
     rotate_left
     ·
      intro w'
      go_simp
      with_reducible rfl
     rotate_left
     ·
      simp only [Act.put, List.setIfInBounds_toArray, List.set_cons_zero, List.set_cons_succ, i64_w, i32_w]
      rfl
     refine pure_ (i := 12) (N := some 23) (v := ?_) (a' := ?_) QB16_45 rfl rfl (Qj HT_.out (by kernel_rfl)) (fun _ _ _ h => h) (Or.inl ⟨by rfl, ?_⟩) ?_ ?_
     rotate_left
     ·
      intro w'
      go_simp
      with_reducible rfl
     rotate_left
     ·
      simp only [Act.put, List.setIfInBounds_toArray, List.set_cons_zero, List.set_cons_succ, i64_w, i32_w]
      rfl
     refine pure_ (i := 13) (N := some 24) (v := ?_) (a' := ?_) QB16_46 rfl rfl (Qj HT_.out (by kernel_rfl)) (fun _ _ _ h => h) (Or.inl ⟨by rfl, ?_⟩) ?_ ?_
     rotate_left
     ·
      intro w'
      go_simp
      with_reducible rfl
     rotate_left
     ·
      simp only [Act.put, List.setIfInBounds_toArray, List.set_cons_zero, List.set_cons_succ, i64_w, i32_w]
      rfl
     refine take_ (i := 14) (N := some 25) (v := ?_) (a' := ?_) QB16_47 rfl rfl (Qs HT_.out HW_.out (by kernel_rfl)) (fun _ _ _ h => h) (Or.inl ⟨by rfl, ?_⟩) hHeld ?_ ?_
     rotate_left
     ·
      rintro w' ⟨s0, s1, s2, s3, s4, s5⟩
      go_simp
      with_reducible rfl
     rotate_left
     ·
      simp only [Act.put, List.setIfInBounds_toArray, List.set_cons_zero, List.set_cons_succ, i64_w, i32_w]
      rfl
     refine take_ (i := 15) (N := some 26) (v := ?_) (a' := ?_) QB16_48 rfl rfl (Qs HT_.out HW_.out (by kernel_rfl)) (fun _ _ _ h => h) (Or.inl ⟨by rfl, ?_⟩) hHeld ?_ ?_
     rotate_left
     ·
      rintro w' ⟨s0, s1, s2, s3, s4, s5⟩
      go_simp
      with_reducible rfl
     rotate_left
     ·
      simp only [Act.put, List.setIfInBounds_toArray, List.set_cons_zero, List.set_cons_succ, i64_w, i32_w]
      rfl
     refine one_ (i := 16) (N := some 27) QB16_49 rfl rfl (one_of HT_.out (by kernel_rfl)) (by decide) (fun K hK => ?_)
     refine goes_ Try.func12 (by kernel_rfl) rfl #[.agg #[.int .i64 a1_0, .int .i64 a1_1], .agg #[.int .i64 t162, .int .i64 t163]] (by rfl) rfl rfl (by (try simp only [List.map_toArray, List.map_cons, List.map_nil]); first | done | rfl | (simp only [List.length_drop, List.length_take]; rfl)) ?_
     with_reducible refine (Qa1.calls a1_0 a1_1 t162 t163 false _ A26.out).mono ?_
     rintro e w86 ⟨rfl, hb⟩
     refine ⟨_, rfl, ?_⟩
     have n0_ := Qa.mk (Qk (g := gb159) (o := .cells #[.int .i64 a0_0, .int .i64 a0_1] 29 (0, 0)) (by (with_reducible repeat (first | refine Qc ?_ _ | refine Qb ?_ | refine Qd ?_ _)); exact BK159.out) hb)
     have n1_ := Qa.mk (Qk (g := gb160) (o := .cells #[.int .i64 a1_0, .int .i64 a1_1] 29 (0, 0)) (by (with_reducible repeat (first | refine Qc ?_ _ | refine Qb ?_ | refine Qd ?_ _)); exact BK160.out) hb)
     have n2_ := Qa.mk (Qk (g := gb164) (o := .cells #[.int .i64 t162, .int .i64 t163] 29 (0, 0)) (by (with_reducible repeat (first | refine Qc ?_ _ | refine Qb ?_ | refine Qd ?_ _)); exact BK164.out) hb)
     have n3_ := Qa.mk (Ql (by repeat (first | (with_reducible first | exact HB.out | apply Qg | apply Qh | apply Qf | refine Qe ?_ GE159.out | refine Qe ?_ GE160.out | refine Qe ?_ GE164.out) | exact HB.out)) hb)
     clear BK159
     clear BK160
     clear BK164
     clear HB
     have BK159 := n0_
     have BK160 := n1_
     have BK164 := n2_
     have HB := n3_
     clear n0_ n1_ n2_ n3_
     (try clear hb)
     (try clear hb2)
     (try clear hk)
     (try clear hi)
     refine hK.out _ _ ⟨(Qi BK159.out 0).trans rfl, (Qi BK159.out 1).trans rfl, (Qi BK160.out 0).trans rfl, (Qi BK160.out 1).trans rfl, (Qi BK164.out 0).trans rfl, (Qi BK164.out 1).trans rfl⟩ (fun hHeld => ?_)
     clear hK K
     refine norm_ (a' := ?_) ?_ ?_
     rotate_left
     ·
      show Act.put _ (some 27) _ = _
      simp only [Act.put, List.setIfInBounds_toArray, List.set_cons_zero, List.set_cons_succ, i64_w, i32_w]
      rfl
     refine pure_ (i := 17) (N := some 28) (v := ?_) (a' := ?_) QB16_50 rfl rfl (Qj HT_.out (by kernel_rfl)) (fun _ _ _ h => h) (Or.inl ⟨by rfl, ?_⟩) ?_ ?_
     rotate_left
     ·
      intro w'
      go_simp
      with_reducible rfl
     rotate_left
     ·
      simp only [Act.put, List.setIfInBounds_toArray, List.set_cons_zero, List.set_cons_succ, i64_w, i32_w]
      rfl
     refine pure_ (i := 18) (N := some 29) (v := ?_) (a' := ?_) QB16_51 rfl rfl (Qj HT_.out (by kernel_rfl)) (fun _ _ _ h => h) (Or.inl ⟨by rfl, ?_⟩) ?_ ?_
     rotate_left
     ·
      intro w'
      go_simp
      with_reducible rfl
     rotate_left
     ·
      simp only [Act.put, List.setIfInBounds_toArray, List.set_cons_zero, List.set_cons_succ, i64_w, i32_w]
      rfl
     refine pure_ (i := 19) (N := some 30) (v := ?_) (a' := ?_) QB16_52 rfl rfl (Qj HT_.out (by kernel_rfl)) (fun _ _ _ h => h) (Or.inl ⟨by rfl, ?_⟩) ?_ ?_
     rotate_left
     ·
      intro w'
      go_simp
      with_reducible rfl
     rotate_left
     ·
      simp only [Act.put, List.setIfInBounds_toArray, List.set_cons_zero, List.set_cons_succ, i64_w, i32_w]
      rfl
     refine pure_ (i := 20) (N := some 31) (v := undef) (a' := ?_) QB16_53 rfl rfl (Qj HT_.out (by kernel_rfl)) (fun _ _ _ h => h) (Or.inr ⟨by rfl, rfl⟩) ?_ ?_
     rotate_left
     ·
      simp only [Act.put, List.setIfInBounds_toArray, List.set_cons_zero, List.set_cons_succ, i64_w, i32_w]
      rfl
     refine pure_ (i := 21) (N := some 32) (v := undef) (a' := ?_) QB16_54 rfl rfl (Qj HT_.out (by kernel_rfl)) (fun _ _ _ h => h) (Or.inr ⟨by rfl, rfl⟩) ?_ ?_
     rotate_left
     ·
      simp only [Act.put, List.setIfInBounds_toArray, List.set_cons_zero, List.set_cons_succ, i64_w, i32_w]
      rfl
     refine pure_ (i := 22) (N := some 33) (v := undef) (a' := ?_) QB16_55 rfl rfl (Qj HT_.out (by kernel_rfl)) (fun _ _ _ h => h) (Or.inr ⟨by rfl, rfl⟩) ?_ ?_
     rotate_left
     ·
      simp only [Act.put, List.setIfInBounds_toArray, List.set_cons_zero, List.set_cons_succ, i64_w, i32_w]
      rfl
     refine pure_ (i := 23) (N := some 34) (v := undef) (a' := ?_) QB16_56 rfl rfl (Qj HT_.out (by kernel_rfl)) (fun _ _ _ h => h) (Or.inr ⟨by rfl, rfl⟩) ?_ ?_
     rotate_left
     ·
      simp only [Act.put, List.setIfInBounds_toArray, List.set_cons_zero, List.set_cons_succ, i64_w, i32_w]
      rfl
     refine pure_ (i := 24) (N := some 35) (v := undef) (a' := ?_) QB16_57 rfl rfl (Qj HT_.out (by kernel_rfl)) (fun _ _ _ h => h) (Or.inr ⟨by rfl, rfl⟩) ?_ ?_
     rotate_left
     ·
      simp only [Act.put, List.setIfInBounds_toArray, List.set_cons_zero, List.set_cons_succ, i64_w, i32_w]
      rfl
     refine pure_ (i := 25) (N := some 36) (v := ?_) (a' := ?_) QB16_58 rfl rfl (Qj HT_.out (by kernel_rfl)) (fun _ _ _ h => h) (Or.inl ⟨by rfl, ?_⟩) ?_ ?_
     rotate_left
     ·
      intro w'
      go_simp
      with_reducible rfl
     rotate_left
     ·
      simp only [Act.put, List.setIfInBounds_toArray, List.set_cons_zero, List.set_cons_succ, i64_w, i32_w]
      rfl
     refine done_ (done_of HT_.out (by kernel_rfl)) ?_
     try go_wp2
     go_ret
     exact ⟨by first | rfl | (simp [Qp, Qq] <;> rfl) | (simp [*, Qp, Qq] <;> rfl), by repeat (first | (with_reducible first | exact HB.out | apply Qg | apply Qh | apply Qf | refine Qe ?_ GE159.out | refine Qe ?_ GE160.out | refine Qe ?_ GE164.out) | exact HB.out)⟩
   ·
    replace c25 := Bool.eq_false_iff.mpr c25
    subst c25
    have H1 : (some false) = some r := by rw [if_neg (show ¬ (false = true) by decide)] at H; exact H
    clear H
    have H := H1
    clear H1
    obtain rfl := Option.some.inj H
    go_enter Try.func4, Try.ntmps4
    try go_wp2_with (first | ((with_reducible refine Qv (N := 2) rfl ?_); refine Qx ?hg (N := 2) ?hd (cs := #[.int .i64 a0_0, .int .i64 a0_1]) (t := 29) ?hr ?_; (case hd => rfl); (case hg => rfl); (case hr => first | (go_simp; done) | (go_simp; rfl)); intro gb159 hg w87 hbox hb; have n0_ := Qa.mk (Ql (by repeat (first | (with_reducible first | exact HB.out | apply Qg | apply Qh | apply Qf) | exact HB.out)) hb); have n1_ := Qa.mk (hbox); have n2_ := Qa.mk ((by rw [hg]; exact (Qn (by repeat (first | (with_reducible first | exact HB.out | apply Qg | apply Qh | apply Qf) | exact HB.out))) : w.heap.size ≤ gb159)); have n3_ := Qa.mk ((by rw [hg]; exact (Qn (by repeat (first | (with_reducible first | exact HB.out | apply Qg | apply Qh | apply Qf) | exact HB.out))) : w.heap.size ≤ gb159)); clear HB; have HB := n0_; have BK159 := n1_; have GW159 := n2_; have GE159 := n3_; clear n0_ n1_ n2_ n3_; clear hb hbox hg) | ((with_reducible refine Qv (N := 3) rfl ?_); refine Qx ?hg (N := 3) ?hd (cs := #[.int .i64 a1_0, .int .i64 a1_1]) (t := 29) ?hr ?_; (case hd => rfl); (case hg => rfl); (case hr => first | (go_simp; done) | (go_simp; rfl)); intro gb160 hg w88 hbox hb; have n0_ := Qa.mk (Qk (g := gb159) (o := .cells #[.int .i64 a0_0, .int .i64 a0_1] 29 (0, 0)) (by (with_reducible repeat (first | refine Qc ?_ _ | refine Qb ?_ | refine Qd ?_ _)); exact BK159.out) hb); have n1_ := Qa.mk (Ql (by repeat (first | (with_reducible first | exact HB.out | apply Qg | apply Qh | apply Qf | refine Qe ?_ GE159.out) | exact HB.out)) hb); have n2_ := Qa.mk (hbox); have n3_ := Qa.mk ((by rw [hg]; exact (Qn (by repeat (first | (with_reducible first | exact HB.out | apply Qg | apply Qh | apply Qf | refine Qe ?_ GE159.out) | exact HB.out))) : w.heap.size ≤ gb160)); have n4_ := Qa.mk ((by rw [hg]; exact (Qn (by repeat (first | (with_reducible first | exact HB.out | apply Qg | apply Qh | apply Qf | refine Qe ?_ GE159.out) | exact HB.out))) : w.heap.size ≤ gb160)); have n5_ := Qa.mk ((by rw [hg]; exact Nat.ne_of_lt (blk_lt (g := gb159) (o := .cells #[.int .i64 a0_0, .int .i64 a0_1] 29 (0, 0)) (by (with_reducible repeat (first | refine Qc ?_ _ | refine Qb ?_ | refine Qd ?_ _)); exact BK159.out)) : gb159 ≠ gb160)); have n6_ := Qa.mk ((by rw [hg]; exact Nat.ne_of_gt (blk_lt (g := gb159) (o := .cells #[.int .i64 a0_0, .int .i64 a0_1] 29 (0, 0)) (by (with_reducible repeat (first | refine Qc ?_ _ | refine Qb ?_ | refine Qd ?_ _)); exact BK159.out)) : gb160 ≠ gb159)); clear BK159; clear HB; have BK159 := n0_; have HB := n1_; have BK160 := n2_; have GW160 := n3_; have GE160 := n4_; have NB159_160 := n5_; have NB160_159 := n6_; clear n0_ n1_ n2_ n3_ n4_ n5_ n6_; clear hb hbox hg) | ((with_reducible refine Qr (f := 7) rfl ?_); refine goesL_ (some 6) rfl rfl Try.func7 (by kernel_rfl) rfl #[] rfl (by (try simp only [List.map_toArray, List.map_cons, List.map_nil]); first | done | rfl | (simp only [List.length_drop, List.length_take]; rfl)) ?_; (with_reducible refine (Qb1.calls k  true _ A3.out).mono ?_); rintro e w89 ⟨rfl, hb⟩; refine ⟨_, rfl, ?_⟩; have n0_ := Qa.mk (Qk (g := gb159) (o := .cells #[.int .i64 a0_0, .int .i64 a0_1] 29 (0, 0)) (by (with_reducible repeat (first | refine Qc ?_ _ | refine Qb ?_ | refine Qd ?_ _)); exact BK159.out) hb); have n1_ := Qa.mk (Qk (g := gb160) (o := .cells #[.int .i64 a1_0, .int .i64 a1_1] 29 (0, 0)) (by (with_reducible repeat (first | refine Qc ?_ _ | refine Qb ?_ | refine Qd ?_ _)); exact BK160.out) hb); have n2_ := Qa.mk (Ql (by repeat (first | (with_reducible first | exact HB.out | apply Qg | apply Qh | apply Qf | refine Qe ?_ GE159.out | refine Qe ?_ GE160.out) | exact HB.out)) hb); clear BK159; clear BK160; clear HB; have BK159 := n0_; have BK160 := n1_; have HB := n2_; clear n0_ n1_ n2_; (try clear hb); (try clear hb2); (try clear hk); (try clear hi); have hnb90 := NB159_160.out; have hnc90 := NB160_159.out; have hcz91_0 : w89.cell? ⟨gb159, 0, none⟩ = some (.int .i64 a0_0) := (Qi BK159.out 0).trans rfl; have hcz91_1 : w89.cell? ⟨gb159, 1, none⟩ = some (.int .i64 a0_1) := (Qi BK159.out 1).trans rfl; have hfz91_0 := Qm BK159.out 0; have hfz91_1 := Qm BK159.out 1; have hcz92_0 : w89.cell? ⟨gb160, 0, none⟩ = some (.int .i64 a1_0) := (Qi BK160.out 0).trans rfl; have hcz92_1 : w89.cell? ⟨gb160, 1, none⟩ = some (.int .i64 a1_1) := (Qi BK160.out 1).trans rfl; have hfz92_0 := Qm BK160.out 0; have hfz92_1 := Qm BK160.out 1) | ((with_reducible refine Qr (f := 10) rfl ?_); refine goesL_ (some 10) rfl rfl Try.func10 (by kernel_rfl) rfl #[.agg #[.int .i64 a0_0, .int .i64 a0_1], .agg #[.int .i64 a1_0, .int .i64 a1_1]] rfl (by (try simp only [List.map_toArray, List.map_cons, List.map_nil]); first | done | rfl | (simp only [List.length_drop, List.length_take]; rfl)) ?_; (with_reducible refine (Qz.calls a0_0 a0_1 a1_0 a1_1 t162 t163 _ A5.out).mono ?_); rintro e w93 ⟨rfl, hb⟩; refine ⟨_, rfl, ?_⟩; have n0_ := Qa.mk (Qk (g := gb159) (o := .cells #[.int .i64 a0_0, .int .i64 a0_1] 29 (0, 0)) (by (with_reducible repeat (first | refine Qc ?_ _ | refine Qb ?_ | refine Qd ?_ _)); exact BK159.out) hb); have n1_ := Qa.mk (Qk (g := gb160) (o := .cells #[.int .i64 a1_0, .int .i64 a1_1] 29 (0, 0)) (by (with_reducible repeat (first | refine Qc ?_ _ | refine Qb ?_ | refine Qd ?_ _)); exact BK160.out) hb); have n2_ := Qa.mk (Ql (by repeat (first | (with_reducible first | exact HB.out | apply Qg | apply Qh | apply Qf | refine Qe ?_ GE159.out | refine Qe ?_ GE160.out) | exact HB.out)) hb); clear BK159; clear BK160; clear HB; have BK159 := n0_; have BK160 := n1_; have HB := n2_; clear n0_ n1_ n2_; (try clear hb); (try clear hb2); (try clear hk); (try clear hi)) | ((with_reducible refine Qv (N := 5) rfl ?_); refine Qx ?hg (N := 5) ?hd (cs := #[.int .i64 0, .int .i64 0]) (t := 29) ?hr ?_; (case hd => rfl); (case hg => rfl); (case hr => first | (go_simp; done) | (go_simp; rfl)); intro gb164 hg w94 hbox hb; have n0_ := Qa.mk (Qk (g := gb159) (o := .cells #[.int .i64 a0_0, .int .i64 a0_1] 29 (0, 0)) (by (with_reducible repeat (first | refine Qc ?_ _ | refine Qb ?_ | refine Qd ?_ _)); exact BK159.out) hb); have n1_ := Qa.mk (Qk (g := gb160) (o := .cells #[.int .i64 a1_0, .int .i64 a1_1] 29 (0, 0)) (by (with_reducible repeat (first | refine Qc ?_ _ | refine Qb ?_ | refine Qd ?_ _)); exact BK160.out) hb); have n2_ := Qa.mk (Ql (by repeat (first | (with_reducible first | exact HB.out | apply Qg | apply Qh | apply Qf | refine Qe ?_ GE159.out | refine Qe ?_ GE160.out) | exact HB.out)) hb); have n3_ := Qa.mk (hbox); have n4_ := Qa.mk ((by rw [hg]; exact (Qn (by repeat (first | (with_reducible first | exact HB.out | apply Qg | apply Qh | apply Qf | refine Qe ?_ GE159.out | refine Qe ?_ GE160.out) | exact HB.out))) : w.heap.size ≤ gb164)); have n5_ := Qa.mk ((by rw [hg]; exact (Qn (by repeat (first | (with_reducible first | exact HB.out | apply Qg | apply Qh | apply Qf | refine Qe ?_ GE159.out | refine Qe ?_ GE160.out) | exact HB.out))) : w.heap.size ≤ gb164)); have n6_ := Qa.mk ((by rw [hg]; exact Nat.ne_of_lt (blk_lt (g := gb159) (o := .cells #[.int .i64 a0_0, .int .i64 a0_1] 29 (0, 0)) (by (with_reducible repeat (first | refine Qc ?_ _ | refine Qb ?_ | refine Qd ?_ _)); exact BK159.out)) : gb159 ≠ gb164)); have n7_ := Qa.mk ((by rw [hg]; exact Nat.ne_of_gt (blk_lt (g := gb159) (o := .cells #[.int .i64 a0_0, .int .i64 a0_1] 29 (0, 0)) (by (with_reducible repeat (first | refine Qc ?_ _ | refine Qb ?_ | refine Qd ?_ _)); exact BK159.out)) : gb164 ≠ gb159)); have n8_ := Qa.mk ((by rw [hg]; exact Nat.ne_of_lt (blk_lt (g := gb160) (o := .cells #[.int .i64 a1_0, .int .i64 a1_1] 29 (0, 0)) (by (with_reducible repeat (first | refine Qc ?_ _ | refine Qb ?_ | refine Qd ?_ _)); exact BK160.out)) : gb160 ≠ gb164)); have n9_ := Qa.mk ((by rw [hg]; exact Nat.ne_of_gt (blk_lt (g := gb160) (o := .cells #[.int .i64 a1_0, .int .i64 a1_1] 29 (0, 0)) (by (with_reducible repeat (first | refine Qc ?_ _ | refine Qb ?_ | refine Qd ?_ _)); exact BK160.out)) : gb164 ≠ gb160)); clear BK159; clear BK160; clear HB; have BK159 := n0_; have BK160 := n1_; have HB := n2_; have BK164 := n3_; have GW164 := n4_; have GE164 := n5_; have NB159_164 := n6_; have NB164_159 := n7_; have NB160_164 := n8_; have NB164_160 := n9_; clear n0_ n1_ n2_ n3_ n4_ n5_ n6_ n7_ n8_ n9_; clear hb hbox hg; have hnb95 := NB164_159.out; have hnc95 := NB159_164.out; have hnb96 := NB164_160.out; have hnc96 := NB160_164.out; have hcz97_0 : w94.cell? ⟨gb164, 0, none⟩ = some (.int .i64 0) := (Qi BK164.out 0).trans rfl; have hcz97_1 : w94.cell? ⟨gb164, 1, none⟩ = some (.int .i64 0) := (Qi BK164.out 1).trans rfl; have hfz97_0 := Qm BK164.out 0; have hfz97_1 := Qm BK164.out 1))
    have n0_ : Qa (((w94.setCell ⟨gb164, 0, none⟩ (.int .i64 t162)).setCell ⟨gb164, 1, none⟩ (.int .i64 t163)).heap[gb159]? = some (.cells #[.int .i64 a0_0, .int .i64 a0_1] 29 (0, 0))) := ⟨by (with_reducible repeat (first | refine Qc ?_ _ | refine Qb ?_ | refine Qd ?_ _)); refine blk_far ?_ NB159_164.out _; (with_reducible repeat (first | refine Qc ?_ _ | refine Qb ?_ | refine Qd ?_ _)); refine blk_far ?_ NB159_164.out _; (with_reducible repeat (first | refine Qc ?_ _ | refine Qb ?_ | refine Qd ?_ _)); exact BK159.out⟩
    have n1_ : Qa (((w94.setCell ⟨gb164, 0, none⟩ (.int .i64 t162)).setCell ⟨gb164, 1, none⟩ (.int .i64 t163)).heap[gb160]? = some (.cells #[.int .i64 a1_0, .int .i64 a1_1] 29 (0, 0))) := ⟨by (with_reducible repeat (first | refine Qc ?_ _ | refine Qb ?_ | refine Qd ?_ _)); refine blk_far ?_ NB160_164.out _; (with_reducible repeat (first | refine Qc ?_ _ | refine Qb ?_ | refine Qd ?_ _)); refine blk_far ?_ NB160_164.out _; (with_reducible repeat (first | refine Qc ?_ _ | refine Qb ?_ | refine Qd ?_ _)); exact BK160.out⟩
    have n2_ : Qa (((w94.setCell ⟨gb164, 0, none⟩ (.int .i64 t162)).setCell ⟨gb164, 1, none⟩ (.int .i64 t163)).heap[gb164]? = some (.cells #[.int .i64 t162, .int .i64 t163] 29 (0, 0))) := ⟨by (with_reducible repeat (first | refine Qc ?_ _ | refine Qb ?_ | refine Qd ?_ _)); refine Qu (cs := #[.int .i64 t162, .int .i64 0]) ?_ 1 _ rfl; (with_reducible repeat (first | refine Qc ?_ _ | refine Qb ?_ | refine Qd ?_ _)); refine Qu (cs := #[.int .i64 0, .int .i64 0]) ?_ 0 _ rfl; (with_reducible repeat (first | refine Qc ?_ _ | refine Qb ?_ | refine Qd ?_ _)); exact BK164.out⟩
    have n3_ : Qa (Below w.heap.size w ((w94.setCell ⟨gb164, 0, none⟩ (.int .i64 t162)).setCell ⟨gb164, 1, none⟩ (.int .i64 t163))) := ⟨by repeat (first | (with_reducible first | exact HB.out | apply Qg | apply Qh | apply Qf | refine Qe ?_ GE159.out | refine Qe ?_ GE160.out | refine Qe ?_ GE164.out) | exact HB.out)⟩
    (try clear BK159)
    (try clear BK160)
    (try clear BK164)
    (try clear HB)
    generalize ((w94.setCell ⟨gb164, 0, none⟩ (.int .i64 t162)).setCell ⟨gb164, 1, none⟩ (.int .i64 t163)) = w98 at n0_ n1_ n2_ n3_ ⊢
    have BK159 := n0_
    have BK160 := n1_
    have BK164 := n2_
    have HB := n3_
    clear n0_ n1_ n2_ n3_
    have n0_ := Qa.mk (Qb BK159.out)
    have n1_ := Qa.mk (Qb BK160.out)
    have n2_ := Qa.mk (Qb BK164.out)
    have n3_ := Qa.mk (Qf HB.out)
    clear BK159
    clear BK160
    clear BK164
    clear HB
    have BK159 := n0_
    have BK160 := n1_
    have BK164 := n2_
    have HB := n3_
    clear n0_ n1_ n2_ n3_
    refine start_ (n := 26) (S := fun w' => w'.cell? ⟨gb159, 0, none⟩ = some (.int .i64 a0_0) ∧ w'.cell? ⟨gb159, 1, none⟩ = some (.int .i64 a0_1) ∧ w'.cell? ⟨gb160, 0, none⟩ = some (.int .i64 a1_0) ∧ w'.cell? ⟨gb160, 1, none⟩ = some (.int .i64 a1_1) ∧ w'.cell? ⟨gb164, 0, none⟩ = some (.int .i64 t162) ∧ w'.cell? ⟨gb164, 1, none⟩ = some (.int .i64 t163)) (ds := []) QB16_32 (by kernel_rfl) rfl rfl ⟨(Qi BK159.out 0).trans rfl, (Qi BK159.out 1).trans rfl, (Qi BK160.out 0).trans rfl, (Qi BK160.out 1).trans rfl, (Qi BK164.out 0).trans rfl, (Qi BK164.out 1).trans rfl⟩ (fun hHeld => ?_); refine with_tabW Qy.tab4 Qy.bits4 (fun HT_ HW_ => ?_)
    generalize w98.drew = w99 at BK159 BK160 BK164 HB hHeld ⊢
    refine take_ (i := 0) (N := some 11) (v := ?_) (a' := ?_) QB16_33 rfl rfl (Qs HT_.out HW_.out (by kernel_rfl)) (fun _ _ _ h => h) (Or.inl ⟨by rfl, ?_⟩) hHeld ?_ ?_
    rotate_left
    ·
     rintro w' ⟨s0, s1, s2, s3, s4, s5⟩
     go_simp
     with_reducible rfl
    rotate_left
    ·
     simp only [Act.put, List.setIfInBounds_toArray, List.set_cons_zero, List.set_cons_succ, i64_w, i32_w]
     rfl
    refine take_ (i := 1) (N := some 12) (v := ?_) (a' := ?_) QB16_34 rfl rfl (Qs HT_.out HW_.out (by kernel_rfl)) (fun _ _ _ h => h) (Or.inl ⟨by rfl, ?_⟩) hHeld ?_ ?_
    rotate_left
    ·
     rintro w' ⟨s0, s1, s2, s3, s4, s5⟩
     go_simp
     with_reducible rfl
    rotate_left
    ·
     simp only [Act.put, List.setIfInBounds_toArray, List.set_cons_zero, List.set_cons_succ, i64_w, i32_w]
     rfl
    refine take_ (i := 3) (N := some 14) (v := ?_) (a' := ?_) QB16_35 rfl rfl (Qs HT_.out HW_.out (by kernel_rfl)) (fun _ _ _ h => h) (Or.inl ⟨by rfl, ?_⟩) hHeld ?_ ?_
    rotate_left
    ·
     rintro w' ⟨s0, s1, s2, s3, s4, s5⟩
     go_simp
     with_reducible rfl
    rotate_left
    ·
     simp only [Act.put, List.setIfInBounds_toArray, List.set_cons_zero, List.set_cons_succ, i64_w, i32_w]
     rfl
    refine take_ (i := 4) (N := some 15) (v := ?_) (a' := ?_) QB16_36 rfl rfl (Qs HT_.out HW_.out (by kernel_rfl)) (fun _ _ _ h => h) (Or.inl ⟨by rfl, ?_⟩) hHeld ?_ ?_
    rotate_left
    ·
     rintro w' ⟨s0, s1, s2, s3, s4, s5⟩
     go_simp
     with_reducible rfl
    rotate_left
    ·
     simp only [Act.put, List.setIfInBounds_toArray, List.set_cons_zero, List.set_cons_succ, i64_w, i32_w]
     rfl
    refine one_ (i := 2) (N := some 13) QB16_37 rfl rfl (one_of HT_.out (by kernel_rfl)) (by decide) (fun K hK => ?_)
    refine goes_ Try.func11 (by kernel_rfl) rfl #[.agg #[.int .i64 a0_0, .int .i64 a0_1], .agg #[.int .i64 a1_0, .int .i64 a1_1]] (by rfl) rfl rfl (by (try simp only [List.map_toArray, List.map_cons, List.map_nil]); first | done | rfl | (simp only [List.length_drop, List.length_take]; rfl)) ?_
    with_reducible refine (Qt.calls a0_0 a0_1 a1_0 a1_1 t165 _ A6.out).mono ?_
    rintro e w100 ⟨rfl, hb⟩
    refine ⟨_, rfl, ?_⟩
    have n0_ := Qa.mk (Qk (g := gb159) (o := .cells #[.int .i64 a0_0, .int .i64 a0_1] 29 (0, 0)) (by (with_reducible repeat (first | refine Qc ?_ _ | refine Qb ?_ | refine Qd ?_ _)); exact BK159.out) hb)
    have n1_ := Qa.mk (Qk (g := gb160) (o := .cells #[.int .i64 a1_0, .int .i64 a1_1] 29 (0, 0)) (by (with_reducible repeat (first | refine Qc ?_ _ | refine Qb ?_ | refine Qd ?_ _)); exact BK160.out) hb)
    have n2_ := Qa.mk (Qk (g := gb164) (o := .cells #[.int .i64 t162, .int .i64 t163] 29 (0, 0)) (by (with_reducible repeat (first | refine Qc ?_ _ | refine Qb ?_ | refine Qd ?_ _)); exact BK164.out) hb)
    have n3_ := Qa.mk (Ql (by repeat (first | (with_reducible first | exact HB.out | apply Qg | apply Qh | apply Qf | refine Qe ?_ GE159.out | refine Qe ?_ GE160.out | refine Qe ?_ GE164.out) | exact HB.out)) hb)
    clear BK159
    clear BK160
    clear BK164
    clear HB
    have BK159 := n0_
    have BK160 := n1_
    have BK164 := n2_
    have HB := n3_
    clear n0_ n1_ n2_ n3_
    (try clear hb)
    (try clear hb2)
    (try clear hk)
    (try clear hi)
    refine hK.out _ _ ⟨(Qi BK159.out 0).trans rfl, (Qi BK159.out 1).trans rfl, (Qi BK160.out 0).trans rfl, (Qi BK160.out 1).trans rfl, (Qi BK164.out 0).trans rfl, (Qi BK164.out 1).trans rfl⟩ (fun hHeld => ?_)
    clear hK K
    refine norm_ (a' := ?_) ?_ ?_
    rotate_left
    ·
     show Act.put _ (some 13) _ = _
     simp only [Act.put, List.setIfInBounds_toArray, List.set_cons_zero, List.set_cons_succ, i64_w, i32_w]
     rfl
    refine one_ (i := 5) (N := some 16) QB16_38 rfl rfl (one_of HT_.out (by kernel_rfl)) (by decide) (fun K hK => ?_)
    refine goes_ Try.func12 (by kernel_rfl) rfl #[.agg #[.int .i64 a0_0, .int .i64 a0_1], .agg #[.int .i64 a1_0, .int .i64 a1_1]] (by rfl) rfl rfl (by (try simp only [List.map_toArray, List.map_cons, List.map_nil]); first | done | rfl | (simp only [List.length_drop, List.length_take]; rfl)) ?_
    with_reducible refine (Qa1.calls a0_0 a0_1 a1_0 a1_1 t166 _ A7.out).mono ?_
    rintro e w101 ⟨rfl, hb⟩
    refine ⟨_, rfl, ?_⟩
    have n0_ := Qa.mk (Qk (g := gb159) (o := .cells #[.int .i64 a0_0, .int .i64 a0_1] 29 (0, 0)) (by (with_reducible repeat (first | refine Qc ?_ _ | refine Qb ?_ | refine Qd ?_ _)); exact BK159.out) hb)
    have n1_ := Qa.mk (Qk (g := gb160) (o := .cells #[.int .i64 a1_0, .int .i64 a1_1] 29 (0, 0)) (by (with_reducible repeat (first | refine Qc ?_ _ | refine Qb ?_ | refine Qd ?_ _)); exact BK160.out) hb)
    have n2_ := Qa.mk (Qk (g := gb164) (o := .cells #[.int .i64 t162, .int .i64 t163] 29 (0, 0)) (by (with_reducible repeat (first | refine Qc ?_ _ | refine Qb ?_ | refine Qd ?_ _)); exact BK164.out) hb)
    have n3_ := Qa.mk (Ql (by repeat (first | (with_reducible first | exact HB.out | apply Qg | apply Qh | apply Qf | refine Qe ?_ GE159.out | refine Qe ?_ GE160.out | refine Qe ?_ GE164.out) | exact HB.out)) hb)
    clear BK159
    clear BK160
    clear BK164
    clear HB
    have BK159 := n0_
    have BK160 := n1_
    have BK164 := n2_
    have HB := n3_
    clear n0_ n1_ n2_ n3_
    (try clear hb)
    (try clear hb2)
    (try clear hk)
    (try clear hi)
    refine hK.out _ _ ⟨(Qi BK159.out 0).trans rfl, (Qi BK159.out 1).trans rfl, (Qi BK160.out 0).trans rfl, (Qi BK160.out 1).trans rfl, (Qi BK164.out 0).trans rfl, (Qi BK164.out 1).trans rfl⟩ (fun hHeld => ?_)
    clear hK K
    refine norm_ (a' := ?_) ?_ ?_
    rotate_left
    ·
     show Act.put _ (some 16) _ = _
     simp only [Act.put, List.setIfInBounds_toArray, List.set_cons_zero, List.set_cons_succ, i64_w, i32_w]
     rfl
    refine pure_ (i := 6) (N := some 17) (v := ?_) (a' := ?_) QB16_39 rfl rfl (Qj HT_.out (by kernel_rfl)) (fun _ _ _ h => h) (Or.inl ⟨by rfl, ?_⟩) ?_ ?_
    rotate_left
    ·
     intro w'
     go_simp
     with_reducible rfl
    rotate_left
    ·
     simp only [Act.put, List.setIfInBounds_toArray, List.set_cons_zero, List.set_cons_succ, i64_w, i32_w]
     rfl
    refine pure_ (i := 7) (N := some 18) (v := ?_) (a' := ?_) QB16_40 rfl rfl (Qj HT_.out (by kernel_rfl)) (fun _ _ _ h => h) (Or.inl ⟨by rfl, ?_⟩) ?_ ?_
    rotate_left
    ·
     intro w'
     go_simp
     with_reducible rfl
    rotate_left
    ·
     simp only [Act.put, List.setIfInBounds_toArray, List.set_cons_zero, List.set_cons_succ, i64_w, i32_w]
     rfl
    refine take_ (i := 8) (N := some 19) (v := ?_) (a' := ?_) QB16_41 rfl rfl (Qs HT_.out HW_.out (by kernel_rfl)) (fun _ _ _ h => h) (Or.inl ⟨by rfl, ?_⟩) hHeld ?_ ?_
    rotate_left
    ·
     rintro w' ⟨s0, s1, s2, s3, s4, s5⟩
     go_simp
     with_reducible rfl
    rotate_left
    ·
     simp only [Act.put, List.setIfInBounds_toArray, List.set_cons_zero, List.set_cons_succ, i64_w, i32_w]
     rfl
    refine take_ (i := 9) (N := some 20) (v := ?_) (a' := ?_) QB16_42 rfl rfl (Qs HT_.out HW_.out (by kernel_rfl)) (fun _ _ _ h => h) (Or.inl ⟨by rfl, ?_⟩) hHeld ?_ ?_
    rotate_left
    ·
     rintro w' ⟨s0, s1, s2, s3, s4, s5⟩
     go_simp
     with_reducible rfl
    rotate_left
    ·
     simp only [Act.put, List.setIfInBounds_toArray, List.set_cons_zero, List.set_cons_succ, i64_w, i32_w]
     rfl
    refine one_ (i := 10) (N := some 21) QB16_43 rfl rfl (one_of HT_.out (by kernel_rfl)) (by decide) (fun K hK => ?_)
    refine goes_ Try.func12 (by kernel_rfl) rfl #[.agg #[.int .i64 a0_0, .int .i64 a0_1], .agg #[.int .i64 t162, .int .i64 t163]] (by rfl) rfl rfl (by (try simp only [List.map_toArray, List.map_cons, List.map_nil]); first | done | rfl | (simp only [List.length_drop, List.length_take]; rfl)) ?_
    with_reducible refine (Qa1.calls a0_0 a0_1 t162 t163 false _ A24.out).mono ?_
    rintro e w102 ⟨rfl, hb⟩
    refine ⟨_, rfl, ?_⟩
    have n0_ := Qa.mk (Qk (g := gb159) (o := .cells #[.int .i64 a0_0, .int .i64 a0_1] 29 (0, 0)) (by (with_reducible repeat (first | refine Qc ?_ _ | refine Qb ?_ | refine Qd ?_ _)); exact BK159.out) hb)
    have n1_ := Qa.mk (Qk (g := gb160) (o := .cells #[.int .i64 a1_0, .int .i64 a1_1] 29 (0, 0)) (by (with_reducible repeat (first | refine Qc ?_ _ | refine Qb ?_ | refine Qd ?_ _)); exact BK160.out) hb)
    have n2_ := Qa.mk (Qk (g := gb164) (o := .cells #[.int .i64 t162, .int .i64 t163] 29 (0, 0)) (by (with_reducible repeat (first | refine Qc ?_ _ | refine Qb ?_ | refine Qd ?_ _)); exact BK164.out) hb)
    have n3_ := Qa.mk (Ql (by repeat (first | (with_reducible first | exact HB.out | apply Qg | apply Qh | apply Qf | refine Qe ?_ GE159.out | refine Qe ?_ GE160.out | refine Qe ?_ GE164.out) | exact HB.out)) hb)
    clear BK159
    clear BK160
    clear BK164
    clear HB
    have BK159 := n0_
    have BK160 := n1_
    have BK164 := n2_
    have HB := n3_
    clear n0_ n1_ n2_ n3_
    (try clear hb)
    (try clear hb2)
    (try clear hk)
    (try clear hi)
    refine hK.out _ _ ⟨(Qi BK159.out 0).trans rfl, (Qi BK159.out 1).trans rfl, (Qi BK160.out 0).trans rfl, (Qi BK160.out 1).trans rfl, (Qi BK164.out 0).trans rfl, (Qi BK164.out 1).trans rfl⟩ (fun hHeld => ?_)
    clear hK K
    refine norm_ (a' := ?_) ?_ ?_
    rotate_left
    ·
     show Act.put _ (some 21) _ = _
     simp only [Act.put, List.setIfInBounds_toArray, List.set_cons_zero, List.set_cons_succ, i64_w, i32_w]
     rfl
    refine pure_ (i := 11) (N := some 22) (v := ?_) (a' := ?_) QB16_44 rfl rfl (Qj HT_.out (by kernel_rfl)) (fun _ _ _ h => h) (Or.inl ⟨by rfl, ?_⟩) ?_ ?_
    rotate_left
    ·
     intro w'
     go_simp
     with_reducible rfl
    rotate_left
    ·
     simp only [Act.put, List.setIfInBounds_toArray, List.set_cons_zero, List.set_cons_succ, i64_w, i32_w]
     rfl
    refine pure_ (i := 12) (N := some 23) (v := ?_) (a' := ?_) QB16_45 rfl rfl (Qj HT_.out (by kernel_rfl)) (fun _ _ _ h => h) (Or.inl ⟨by rfl, ?_⟩) ?_ ?_
    rotate_left
    ·
     intro w'
     go_simp
     with_reducible rfl
    rotate_left
    ·
     simp only [Act.put, List.setIfInBounds_toArray, List.set_cons_zero, List.set_cons_succ, i64_w, i32_w]
     rfl
    refine pure_ (i := 13) (N := some 24) (v := ?_) (a' := ?_) QB16_46 rfl rfl (Qj HT_.out (by kernel_rfl)) (fun _ _ _ h => h) (Or.inl ⟨by rfl, ?_⟩) ?_ ?_
    rotate_left
    ·
     intro w'
     go_simp
     with_reducible rfl
    rotate_left
    ·
     simp only [Act.put, List.setIfInBounds_toArray, List.set_cons_zero, List.set_cons_succ, i64_w, i32_w]
     rfl
    refine pure_ (i := 14) (N := some 25) (v := undef) (a' := ?_) QB16_47 rfl rfl (Qj HT_.out (by kernel_rfl)) (fun _ _ _ h => h) (Or.inr ⟨by rfl, rfl⟩) ?_ ?_
    rotate_left
    ·
     simp only [Act.put, List.setIfInBounds_toArray, List.set_cons_zero, List.set_cons_succ, i64_w, i32_w]
     rfl
    refine pure_ (i := 15) (N := some 26) (v := undef) (a' := ?_) QB16_48 rfl rfl (Qj HT_.out (by kernel_rfl)) (fun _ _ _ h => h) (Or.inr ⟨by rfl, rfl⟩) ?_ ?_
    rotate_left
    ·
     simp only [Act.put, List.setIfInBounds_toArray, List.set_cons_zero, List.set_cons_succ, i64_w, i32_w]
     rfl
    refine pure_ (i := 16) (N := some 27) (v := undef) (a' := ?_) QB16_49 rfl rfl (Qj HT_.out (by kernel_rfl)) (fun _ _ _ h => h) (Or.inr ⟨by rfl, rfl⟩) ?_ ?_
    rotate_left
    ·
     simp only [Act.put, List.setIfInBounds_toArray, List.set_cons_zero, List.set_cons_succ, i64_w, i32_w]
     rfl
    refine pure_ (i := 17) (N := some 28) (v := undef) (a' := ?_) QB16_50 rfl rfl (Qj HT_.out (by kernel_rfl)) (fun _ _ _ h => h) (Or.inr ⟨by rfl, rfl⟩) ?_ ?_
    rotate_left
    ·
     simp only [Act.put, List.setIfInBounds_toArray, List.set_cons_zero, List.set_cons_succ, i64_w, i32_w]
     rfl
    refine pure_ (i := 18) (N := some 29) (v := ?_) (a' := ?_) QB16_51 rfl rfl (Qj HT_.out (by kernel_rfl)) (fun _ _ _ h => h) (Or.inl ⟨by rfl, ?_⟩) ?_ ?_
    rotate_left
    ·
     intro w'
     go_simp
     with_reducible rfl
    rotate_left
    ·
     simp only [Act.put, List.setIfInBounds_toArray, List.set_cons_zero, List.set_cons_succ, i64_w, i32_w]
     rfl
    refine pure_ (i := 19) (N := some 30) (v := ?_) (a' := ?_) QB16_52 rfl rfl (Qj HT_.out (by kernel_rfl)) (fun _ _ _ h => h) (Or.inl ⟨by rfl, ?_⟩) ?_ ?_
    rotate_left
    ·
     intro w'
     go_simp
     with_reducible rfl
    rotate_left
    ·
     simp only [Act.put, List.setIfInBounds_toArray, List.set_cons_zero, List.set_cons_succ, i64_w, i32_w]
     rfl
    refine pure_ (i := 20) (N := some 31) (v := undef) (a' := ?_) QB16_53 rfl rfl (Qj HT_.out (by kernel_rfl)) (fun _ _ _ h => h) (Or.inr ⟨by rfl, rfl⟩) ?_ ?_
    rotate_left
    ·
     simp only [Act.put, List.setIfInBounds_toArray, List.set_cons_zero, List.set_cons_succ, i64_w, i32_w]
     rfl
    refine pure_ (i := 21) (N := some 32) (v := undef) (a' := ?_) QB16_54 rfl rfl (Qj HT_.out (by kernel_rfl)) (fun _ _ _ h => h) (Or.inr ⟨by rfl, rfl⟩) ?_ ?_
    rotate_left
    ·
     simp only [Act.put, List.setIfInBounds_toArray, List.set_cons_zero, List.set_cons_succ, i64_w, i32_w]
     rfl
    refine pure_ (i := 22) (N := some 33) (v := undef) (a' := ?_) QB16_55 rfl rfl (Qj HT_.out (by kernel_rfl)) (fun _ _ _ h => h) (Or.inr ⟨by rfl, rfl⟩) ?_ ?_
    rotate_left
    ·
     simp only [Act.put, List.setIfInBounds_toArray, List.set_cons_zero, List.set_cons_succ, i64_w, i32_w]
     rfl
    refine pure_ (i := 23) (N := some 34) (v := undef) (a' := ?_) QB16_56 rfl rfl (Qj HT_.out (by kernel_rfl)) (fun _ _ _ h => h) (Or.inr ⟨by rfl, rfl⟩) ?_ ?_
    rotate_left
    ·
     simp only [Act.put, List.setIfInBounds_toArray, List.set_cons_zero, List.set_cons_succ, i64_w, i32_w]
     rfl
    refine pure_ (i := 24) (N := some 35) (v := undef) (a' := ?_) QB16_57 rfl rfl (Qj HT_.out (by kernel_rfl)) (fun _ _ _ h => h) (Or.inr ⟨by rfl, rfl⟩) ?_ ?_
    rotate_left
    ·
     simp only [Act.put, List.setIfInBounds_toArray, List.set_cons_zero, List.set_cons_succ, i64_w, i32_w]
     rfl
    refine pure_ (i := 25) (N := some 36) (v := ?_) (a' := ?_) QB16_58 rfl rfl (Qj HT_.out (by kernel_rfl)) (fun _ _ _ h => h) (Or.inl ⟨by rfl, ?_⟩) ?_ ?_
    rotate_left
    ·
     intro w'
     go_simp
     with_reducible rfl
    rotate_left
    ·
     simp only [Act.put, List.setIfInBounds_toArray, List.set_cons_zero, List.set_cons_succ, i64_w, i32_w]
     rfl
    refine done_ (done_of HT_.out (by kernel_rfl)) ?_
    try go_wp2
    go_ret
    exact ⟨by first | rfl | (simp [Qp, Qq] <;> rfl) | (simp [*, Qp, Qq] <;> rfl), by repeat (first | (with_reducible first | exact HB.out | apply Qg | apply Qh | apply Qf | refine Qe ?_ GE159.out | refine Qe ?_ GE160.out | refine Qe ?_ GE164.out) | exact HB.out)⟩
 ·
  replace c4 := Bool.eq_false_iff.mpr c4
  subst c4
  have H1 : (some false) = some r := by rw [if_neg (show ¬ (false = true) by decide)] at H; exact H
  clear H
  have H := H1
  clear H1
  obtain rfl := Option.some.inj H
  go_enter Try.func4, Try.ntmps4
  go_wp2_with (first | ((with_reducible refine Qv (N := 2) rfl ?_); refine Qx ?hg (N := 2) ?hd (cs := #[.int .i64 a0_0, .int .i64 a0_1]) (t := 29) ?hr ?_; (case hd => rfl); (case hg => rfl); (case hr => first | (go_simp; done) | (go_simp; rfl)); intro gb159 hg w103 hbox hb; have n0_ := Qa.mk (Ql (by repeat (first | (with_reducible first | exact HB.out | apply Qg | apply Qh | apply Qf) | exact HB.out)) hb); have n1_ := Qa.mk (hbox); have n2_ := Qa.mk ((by rw [hg]; exact (Qn (by repeat (first | (with_reducible first | exact HB.out | apply Qg | apply Qh | apply Qf) | exact HB.out))) : w.heap.size ≤ gb159)); have n3_ := Qa.mk ((by rw [hg]; exact (Qn (by repeat (first | (with_reducible first | exact HB.out | apply Qg | apply Qh | apply Qf) | exact HB.out))) : w.heap.size ≤ gb159)); clear HB; have HB := n0_; have BK159 := n1_; have GW159 := n2_; have GE159 := n3_; clear n0_ n1_ n2_ n3_; clear hb hbox hg) | ((with_reducible refine Qv (N := 3) rfl ?_); refine Qx ?hg (N := 3) ?hd (cs := #[.int .i64 a1_0, .int .i64 a1_1]) (t := 29) ?hr ?_; (case hd => rfl); (case hg => rfl); (case hr => first | (go_simp; done) | (go_simp; rfl)); intro gb160 hg w104 hbox hb; have n0_ := Qa.mk (Qk (g := gb159) (o := .cells #[.int .i64 a0_0, .int .i64 a0_1] 29 (0, 0)) (by (with_reducible repeat (first | refine Qc ?_ _ | refine Qb ?_ | refine Qd ?_ _)); exact BK159.out) hb); have n1_ := Qa.mk (Ql (by repeat (first | (with_reducible first | exact HB.out | apply Qg | apply Qh | apply Qf | refine Qe ?_ GE159.out) | exact HB.out)) hb); have n2_ := Qa.mk (hbox); have n3_ := Qa.mk ((by rw [hg]; exact (Qn (by repeat (first | (with_reducible first | exact HB.out | apply Qg | apply Qh | apply Qf | refine Qe ?_ GE159.out) | exact HB.out))) : w.heap.size ≤ gb160)); have n4_ := Qa.mk ((by rw [hg]; exact (Qn (by repeat (first | (with_reducible first | exact HB.out | apply Qg | apply Qh | apply Qf | refine Qe ?_ GE159.out) | exact HB.out))) : w.heap.size ≤ gb160)); have n5_ := Qa.mk ((by rw [hg]; exact Nat.ne_of_lt (blk_lt (g := gb159) (o := .cells #[.int .i64 a0_0, .int .i64 a0_1] 29 (0, 0)) (by (with_reducible repeat (first | refine Qc ?_ _ | refine Qb ?_ | refine Qd ?_ _)); exact BK159.out)) : gb159 ≠ gb160)); have n6_ := Qa.mk ((by rw [hg]; exact Nat.ne_of_gt (blk_lt (g := gb159) (o := .cells #[.int .i64 a0_0, .int .i64 a0_1] 29 (0, 0)) (by (with_reducible repeat (first | refine Qc ?_ _ | refine Qb ?_ | refine Qd ?_ _)); exact BK159.out)) : gb160 ≠ gb159)); clear BK159; clear HB; have BK159 := n0_; have HB := n1_; have BK160 := n2_; have GW160 := n3_; have GE160 := n4_; have NB159_160 := n5_; have NB160_159 := n6_; clear n0_ n1_ n2_ n3_ n4_ n5_ n6_; clear hb hbox hg) | ((with_reducible refine Qr (f := 7) rfl ?_); refine goesL_ (some 6) rfl rfl Try.func7 (by kernel_rfl) rfl #[] rfl (by (try simp only [List.map_toArray, List.map_cons, List.map_nil]); first | done | rfl | (simp only [List.length_drop, List.length_take]; rfl)) ?_; (with_reducible refine (Qb1.calls k  false _ A3.out).mono ?_); rintro e w105 ⟨rfl, hb⟩; refine ⟨_, rfl, ?_⟩; have n0_ := Qa.mk (Qk (g := gb159) (o := .cells #[.int .i64 a0_0, .int .i64 a0_1] 29 (0, 0)) (by (with_reducible repeat (first | refine Qc ?_ _ | refine Qb ?_ | refine Qd ?_ _)); exact BK159.out) hb); have n1_ := Qa.mk (Qk (g := gb160) (o := .cells #[.int .i64 a1_0, .int .i64 a1_1] 29 (0, 0)) (by (with_reducible repeat (first | refine Qc ?_ _ | refine Qb ?_ | refine Qd ?_ _)); exact BK160.out) hb); have n2_ := Qa.mk (Ql (by repeat (first | (with_reducible first | exact HB.out | apply Qg | apply Qh | apply Qf | refine Qe ?_ GE159.out | refine Qe ?_ GE160.out) | exact HB.out)) hb); clear BK159; clear BK160; clear HB; have BK159 := n0_; have BK160 := n1_; have HB := n2_; clear n0_ n1_ n2_; (try clear hb); (try clear hb2); (try clear hk); (try clear hi)))
  go_ret
  exact ⟨by first | rfl | (simp [Qp, Qq] <;> rfl) | (simp [*, Qp, Qq] <;> rfl), by repeat (first | (with_reducible first | exact HB.out | apply Qg | apply Qh | apply Qf | refine Qe ?_ GE159.out | refine Qe ?_ GE160.out) | exact HB.out)⟩
end Go.Proofs.Ythabnmnhmioheaa.C
namespace Go.Proofs.Ythabnmnhmioheaa.C
open Go.RowKit Go.Proofs.YthabnmnhmioheaaW.PrintWords Go.Proofs.YthabnmnhmioheaaW.PrintLast Go.Proofs.YthabnmnhmioheaaW.PrintMore
set_option linter.unusedVariables false
set_option linter.unusedSimpArgs false
theorem awake_20 : Qb1.f 20 = some true := by decide +kernel
theorem mn_le {a b : Int} (h : a ≤ b) : mn a b = a := by unfold mn; split <;> omega
theorem mn_ge {a b : Int} (h : b ≤ a) : mn a b = b := by unfold mn; split <;> omega
theorem Pure.PureLimitCovers : ∀ (a0_0 : Int) (a0_1 : Int) (a1_0 : Int) (a1_1 : Int), ((Lit.int .i64 a0_0).wf = true) → ((Lit.int .i64 a0_1).wf = true) → ((Lit.int .i64 a1_0).wf = true) → ((Lit.int .i64 a1_1).wf = true) → ∃ k, Qy.f k a0_0 a0_1 a1_0 a1_1 = some true := by
  intro a b c d _ _ _ _
  refine ⟨20, ?_⟩
  unfold Qy.f
  rw [awake_20, Option.bind_some, if_pos rfl]
  simp only [Qz.f, Qt.f, Qa1.f, Option.bind_some]
  rcases Int.lt_trichotomy a c with h | h | h <;> rcases Int.lt_trichotomy b d with g | g | g
  · rw [mn_le (Int.le_of_lt h), mn_le (Int.le_of_lt g), mn_ge (Int.le_of_lt h), mn_ge (Int.le_of_lt g)]
    simp [show ¬ a ≥ c by omega, show ¬ c ≤ a by omega, show ¬ a = c by omega, show a ≤ c by omega, show b ≤ d by omega]
  · subst g
    rw [mn_le (Int.le_of_lt h), mn_le (Int.le_refl b), mn_ge (Int.le_of_lt h)]
    simp [show ¬ a ≥ c by omega, show ¬ c ≤ a by omega, show ¬ a = c by omega, show a ≤ c by omega]
  · rw [mn_le (Int.le_of_lt h), mn_ge (Int.le_of_lt g), mn_ge (Int.le_of_lt h), mn_le (Int.le_of_lt g)]
    simp [show ¬ a ≥ c by omega, show ¬ c ≤ a by omega, show ¬ a = c by omega, show a ≤ c by omega, show d ≤ b by omega, show ¬ d = b by omega]
  · subst h
    rw [mn_le (Int.le_refl a), mn_le (Int.le_of_lt g), mn_ge (Int.le_of_lt g)]
    simp [show ¬ b ≥ d by omega, show ¬ d ≤ b by omega, show ¬ b = d by omega, show b ≤ d by omega]
  · subst h g
    rw [mn_le (Int.le_refl a), mn_le (Int.le_refl b)]
    simp
  · subst h
    rw [mn_le (Int.le_refl a), mn_ge (Int.le_of_lt g), mn_le (Int.le_of_lt g)]
    simp [show d ≤ b by omega, show ¬ d = b by omega, show ¬ b = d by omega]
  · rw [mn_ge (Int.le_of_lt h), mn_le (Int.le_of_lt g), mn_le (Int.le_of_lt h), mn_ge (Int.le_of_lt g)]
    simp [show c ≤ a by omega, show ¬ c = a by omega, show ¬ a = c by omega, show ¬ b = d by omega, show b ≤ d by omega, show ¬ d ≤ b by omega]
  · subst g
    rw [mn_ge (Int.le_of_lt h), mn_le (Int.le_refl b), mn_le (Int.le_of_lt h)]
    simp [show c ≤ a by omega, show ¬ c = a by omega, show ¬ a = c by omega]
  · rw [mn_ge (Int.le_of_lt h), mn_ge (Int.le_of_lt g), mn_le (Int.le_of_lt h), mn_le (Int.le_of_lt g)]
    simp [show c ≤ a by omega, show ¬ c = a by omega, show ¬ a = c by omega, show d ≤ b by omega, show ¬ d = b by omega, show ¬ b = d by omega]
end Go.Proofs.Ythabnmnhmioheaa.C
namespace Go.Proofs.Ythabnmnhmioheaa.Opens
open Go.RowKit Go.Proofs.YthabnmnhmioheaaW.PrintWords
set_option linter.unusedVariables false
def Opn {α : Type} (P : Program) (W : World) (d : Kd α) (t : TypeId) (ok : α → Prop) : Prop :=
  ∀ (H : Type) (enc : TypeId × Value → H) (fuel : Nat) (cs : List Value) (x : DataW H × List MemPlace), DataW.trod enc P W 0 (fun _ => true) true fuel t cs = some x → ∃ a, d.K W a cs ∧ ok a
section
variable {P : Program} {W : World} {t : TypeId}
theorem Opn.int {k : IntKind} (ht : P.underlying t = some (.int k)) : Opn P W (Kd.int k) t (fun n => (Lit.int k n).wf = true) := fun H enc fuel cs x h => by
  obtain ⟨n, rfl, _, hw⟩ := DataW.trod_int ht h
  exact ⟨n, rfl, hw⟩
theorem Opn.bool (ht : P.underlying t = some .bool) : Opn P W Kd.bool t (fun _ => True) := fun H enc fuel cs x h => by
  obtain ⟨n, rfl, _⟩ := DataW.trod_bool ht h
  exact ⟨n, rfl, trivial⟩
theorem Opn.imp {α : Type} {d : Kd α} {ok ok' : α → Prop} (h : Opn P W d t ok) (hi : ∀ a, ok a → ok' a) : Opn P W d t ok' := fun H enc fuel cs x hx => by
  obtain ⟨a, hk, ho⟩ := h H enc fuel cs x hx
  exact ⟨a, hk, hi a ho⟩
theorem lists_of {α : Type} (n : Nat) (R : Nat → α → Prop) (h : ∀ i, i < n → ∃ a, R i a) : ∃ l : List α, l.length = n ∧ ∀ i a, l[i]? = some a → R i a := by
  induction n with
  | zero => exact ⟨[], rfl, fun i a h => by simp at h⟩
  | succ n ih =>
    obtain ⟨l, hl, hr⟩ := ih (fun i hi => h i (by omega))
    obtain ⟨a, ha⟩ := h n (by omega)
    refine ⟨l ++ [a], by simp [hl], fun i b hb => ?_⟩
    by_cases hi : i < n
    · exact hr i b (by rwa [List.getElem?_append_left (by omega)] at hb)
    · have : i = n := by
        have := (List.getElem?_eq_some_iff.1 hb).1
        simp at this
        omega
      subst this
      rw [List.getElem?_append_right (by omega)] at hb
      simp [hl] at hb
      exact hb ▸ ha
theorem Opn.slice {α : Type} {e : TypeId} {d : Kd α} {ok : α → Prop} (e' : Nat) (ht : P.underlying t = some (.slice e)) (hc : P.cellsOf e = d.sz) (h : Opn P W d e ok) :
    Opn P W (Kd.slice e' d) t (fun l => l.length ≤ maxLen ∧ ∀ x ∈ l, ok x) := fun H enc fuel cs x hx => by
  rcases DataW.trod_slice ht hx with ⟨rfl, _⟩ | ⟨a, len, cap, elems, rest, n, _, rfl, _, _, hl, hm, hlen, hel, _, _⟩
  · exact ⟨[], ⟨none, 0, rfl, Nat.le_refl _, rfl, Nat.zero_le _, fun h => absurd h (by simp)⟩, Nat.zero_le _, fun x h => by simp at h⟩
  · have hm' : len ≤ maxLen := Nat.le_trans hl hm
    obtain ⟨l, hll, hlr⟩ := lists_of len (fun i b => ∃ cs', W.cells? 0 (a.add (i * P.cellsOf e)) (P.cellsOf e) = some cs' ∧ d.K W b cs' ∧ ok b) (fun i hi => by
      have h1 := hel i hi
      have h2 : i < elems.length := by omega
      rw [List.getElem?_eq_getElem h2, Option.bind_eq_some_iff] at h1
      obtain ⟨cs', h3, h4⟩ := h1
      obtain ⟨b, h5, h6⟩ := h H enc n cs' _ h4
      exact ⟨b, cs', h3, h5, h6⟩)
    subst hll
    refine ⟨l, ⟨some a, cap, rfl, hl, rfl, hm', fun _ => ⟨a, rfl, fun j p hp => ?_⟩⟩, hm', fun y hy => ?_⟩
    · obtain ⟨cs', h1, h2, _⟩ := hlr j p hp
      obtain ⟨_, hlen', hget⟩ := World.cells?_some h1
      rw [hc] at hlen' hget
      exact ⟨cs', hlen', h2, fun i u hu => by
        have := hget i (by have := (List.getElem?_eq_some_iff.1 hu).1; omega)
        rw [← hu, ← this]
        congr 1
        exact (Addr.add_add _ _ _).symm⟩
    · obtain ⟨i, hi⟩ := List.getElem?_of_mem hy
      exact (hlr i y hi).choose_spec.2.2
def Pieces {H : Type} (enc : TypeId × Value → H) (P : Program) (W : World) (n : Nat) : List TypeId → List Value → Prop
  | [], cs => cs = []
  | t :: ts, cs => ∃ c1 c2 x, cs = c1 ++ c2 ∧ DataW.trod enc P W 0 (fun _ => true) true n t c1 = some x ∧ Pieces enc P W n ts c2
def OpnS {α : Type} (P : Program) (W : World) (d : Kd α) (ts : List TypeId) (ok : α → Prop) : Prop :=
  ∀ (H : Type) (enc : TypeId × Value → H) (n : Nat) (cs : List Value), Pieces enc P W n ts cs → ∃ a, d.K W a cs ∧ ok a
theorem OpnS.one {α : Type} {d : Kd α} {ok : α → Prop} (h : Opn P W d t ok) : OpnS P W d [t] ok := fun H enc n cs hp => by
  obtain ⟨c1, c2, x, rfl, hx, rfl⟩ := hp
  rw [List.append_nil]
  exact h H enc n c1 x hx
theorem OpnS.cons {α β : Type} {d : Kd α} {e : Kd β} {ok : α → Prop} {ok' : β → Prop} {ts : List TypeId} (h : Opn P W d t ok) (hs : OpnS P W e ts ok') : OpnS P W (Kd.pair d e) (t :: ts) (fun x => ok x.1 ∧ ok' x.2) := fun H enc n cs hp => by
  obtain ⟨c1, c2, x, rfl, hx, hp⟩ := hp
  obtain ⟨a, ha, hoa⟩ := h H enc n c1 x hx
  obtain ⟨b, hb, hob⟩ := hs H enc n c2 hp
  exact ⟨(a, b), ⟨c1, c2, rfl, ha, hb⟩, hoa, hob⟩
def offsB (P : Program) (total : Nat) : Nat → List Field → Bool
  | o, [] => o == total
  | o, f :: r => f.offset == o && offsB P total (o + P.cellsOf f.type) r
theorem pieces_of {H : Type} {enc : TypeId × Value → H} {n total : Nat} {cs : List Value} (hl : cs.length = total) :
    ∀ (fs : List Field) (o : Nat), offsB P total o fs = true → (∀ f ∈ fs, ∃ x, DataW.trod enc P W 0 (fun _ => true) true n f.type ((cs.drop f.offset).take (P.cellsOf f.type)) = some x) → Pieces enc P W n (fs.map (·.type)) (cs.drop o)
  | [], o, ho, _ => by
    simp [offsB] at ho
    simp [Pieces, ho, hl]
  | f :: r, o, ho, hf => by
    simp [offsB] at ho
    obtain ⟨x, hx⟩ := hf f (by simp)
    refine ⟨(cs.drop o).take (P.cellsOf f.type), cs.drop (o + P.cellsOf f.type), x, ?_, by rw [← ho.1]; exact hx, pieces_of hl r _ ho.2 (fun g hg => hf g (List.mem_cons_of_mem _ hg))⟩
    rw [← List.drop_drop, List.take_append_drop]
theorem Opn.struct {α : Type} {d : Kd α} {ok : α → Prop} {fs : Array Field} {ts : List TypeId} (ht : P.underlying t = some (.struct fs)) (hts : fs.toList.map (·.type) = ts) (ho : offsB P (P.cellsOf t) 0 fs.toList = true) (h : OpnS P W d ts ok) : Opn P W d t ok := fun H enc fuel cs x hx => by
  obtain ⟨xs, n, _, _, hl, hxs, hf⟩ := DataW.trod_struct ht hx
  refine h H enc n cs (hts ▸ ?_)
  have := pieces_of (enc := enc) (W := W) (n := n) hl fs.toList 0 ho (fun f hm => by
    obtain ⟨i, hi⟩ := List.getElem?_of_mem hm
    have hi' : fs[i]? = some f := by simpa using hi
    have h1 := hf i f hi'
    have h2 : i < xs.length := by rw [hxs]; exact (Array.getElem?_eq_some_iff.1 hi').1
    exact ⟨xs[i], by rw [h1]; simp⟩)
  simpa using this
theorem pieces_same {H : Type} {enc : TypeId × Value → H} {n k s : Nat} {e : TypeId} {cs : List Value} (hs : P.cellsOf e = s) (hl : cs.length = k * s) :
    ∀ (m i : Nat), i + m = k → (∀ j, j < k → ∃ x, DataW.trod enc P W 0 (fun _ => true) true n e ((cs.drop (j * s)).take s) = some x) → Pieces enc P W n (List.replicate m e) (cs.drop (i * s))
  | 0, i, hi, _ => by
    have : i = k := by omega
    subst this
    simp [Pieces, hl]
  | m + 1, i, hi, hf => by
    obtain ⟨x, hx⟩ := hf i (by omega)
    refine ⟨(cs.drop (i * s)).take s, cs.drop ((i + 1) * s), x, ?_, hx, pieces_same hs hl m (i + 1) (by omega) hf⟩
    rw [Nat.succ_mul, ← List.drop_drop, List.take_append_drop]
theorem Opn.array {α : Type} {d : Kd α} {ok : α → Prop} {n : Nat} {e : TypeId} (ht : P.underlying t = some (.array n e)) (hc : P.cellsOf t = n * P.cellsOf e) (h : OpnS P W d (List.replicate n e) ok) : Opn P W d t ok := fun H enc fuel cs x hx => by
  obtain ⟨xs, m, _, _, hl, hxs, hf⟩ := DataW.trod_array ht hx
  refine h H enc m cs ?_
  have := pieces_same (enc := enc) (W := W) (n := m) (k := n) (e := e) rfl (hl.trans hc) n 0 (by omega) (fun j hj => by
    have h2 : j < xs.length := by omega
    exact ⟨xs[j], by rw [hf j hj]; simp⟩)
  simpa using this
theorem Opn.arg {α : Type} {d : Kd α} {ok : α → Prop} {H : Type} {enc : TypeId × Value → H} {v : Value} {x : DataW H} {ps : List MemPlace} (h : Opn P W d t ok) (hd : DataW.Trod enc P W 0 (fun _ => true) true t v x ps) : ∃ a, d.K W a v.cells.toList ∧ ok a := by
  obtain ⟨fuel, hf⟩ := hd
  exact h H enc fuel _ _ hf
theorem trod_lts {H : Type} {enc : TypeId × Value → H} {v : Value} {x : DataW H} {ps : List MemPlace} (hd : DataW.Trod enc P W 0 (fun _ => true) true t v x ps) : ∀ q ∈ ps, q.block < W.heap.size := by
  obtain ⟨m, hm⟩ := hd
  exact DataW.trod_lt m _ _ _ hm
end
end Go.Proofs.Ythabnmnhmioheaa.Opens
namespace Go.Proofs.Ythabnmnhmioheaa.C
open Go.RowKit Go.Proofs.Ythabnmnhmioheaa.Opens Go.Proofs.YthabnmnhmioheaaW.PrintWords
set_option linter.unusedVariables false
theorem opn29 (W : World) : Opn Try.prog W (Kd.pair (Kd.int .i64) (Kd.int .i64)) 29 (fun x => ((Lit.int .i64 x.1).wf = true ∧ (Lit.int .i64 x.2).wf = true)) := (Opn.struct Try.underlying29 rfl (by kernel_rfl) (OpnS.cons (Opn.int Try.underlying3) (OpnS.one (Opn.int Try.underlying3)))).imp (fun _ h => h)
end Go.Proofs.Ythabnmnhmioheaa.C
