/- The law FlowTexts returns true whatever comes in, and leaves its arguments as they were. No condition. -/
import Derived.Test.YtnaanamibfpbpaaKFt3
import Derived.Test.YtnaanamibfpbpaaRows
import Derived.WalkKit
import Derived.ProofKit
import Derived.OpenShut
import Derived.ShutString
import Derived.ChangeOld
import Derived.Below
import Derived.SizedLaws
import Derived.Carry
namespace Go.Proofs.Ytnaanamibfpbpaa.V
open Go.RowKit Go.Proofs.YtnaanamibfpbpaaW.PrintWords Go.Proofs.YtnaanamibfpbpaaW.PrintLast Go.Proofs.YtnaanamibfpbpaaW.PrintMore
abbrev QB55_0 : Array Bool := #[false, false, false, false, false, false, false, false, false, false, false, false, false, false, false, false, false, false, false, false, false, false, false, false, false, false, false, false, false, false, false, false, false, false, false]
abbrev QB55_1 : Array Bool := #[true, false, false, false, false, false, false, false, false, false, false, false, false, false, false, false, false, false, false, false, false, false, false, false, false, false, false, false, false, false, false, false, false, false, false]
abbrev QB55_2 : Array Bool := #[true, true, false, false, false, false, false, false, false, false, false, false, false, false, false, false, false, false, false, false, false, false, false, false, false, false, false, false, false, false, false, false, false, false, false]
abbrev QB55_3 : Array Bool := #[true, true, true, false, false, false, false, false, false, false, false, false, false, false, false, false, false, false, false, false, false, false, false, false, false, false, false, false, false, false, false, false, false, false, false]
abbrev QB55_4 : Array Bool := #[true, true, true, true, false, false, false, false, false, false, false, false, false, false, false, false, false, false, false, false, false, false, false, false, false, false, false, false, false, false, false, false, false, false, false]
abbrev QB55_5 : Array Bool := #[true, true, true, true, true, false, false, false, false, false, false, false, false, false, false, false, false, false, false, false, false, false, false, false, false, false, false, false, false, false, false, false, false, false, false]
abbrev QB55_6 : Array Bool := #[true, true, true, true, true, true, false, false, false, false, false, false, false, false, false, false, false, false, false, false, false, false, false, false, false, false, false, false, false, false, false, false, false, false, false]
abbrev QB55_7 : Array Bool := #[true, true, true, true, true, true, true, false, false, false, false, false, false, false, false, false, false, false, false, false, false, false, false, false, false, false, false, false, false, false, false, false, false, false, false]
abbrev QB55_8 : Array Bool := #[true, true, true, true, true, true, true, true, false, false, false, false, false, false, false, false, false, false, false, false, false, false, false, false, false, false, false, false, false, false, false, false, false, false, false]
abbrev QB55_9 : Array Bool := #[true, true, true, true, true, true, true, true, true, false, false, false, false, false, false, false, false, false, false, false, false, false, false, false, false, false, false, false, false, false, false, false, false, false, false]
abbrev QB55_10 : Array Bool := #[true, true, true, true, true, true, true, true, true, true, false, false, false, false, false, false, false, false, false, false, false, false, false, false, false, false, false, false, false, false, false, false, false, false, false]
abbrev QB55_11 : Array Bool := #[true, true, true, true, true, true, true, true, true, true, true, false, false, false, false, false, false, false, false, false, false, false, false, false, false, false, false, false, false, false, false, false, false, false, false]
abbrev QB55_12 : Array Bool := #[true, true, true, true, true, true, true, true, true, true, true, true, false, false, false, false, false, false, false, false, false, false, false, false, false, false, false, false, false, false, false, false, false, false, false]
abbrev QB55_13 : Array Bool := #[true, true, true, true, true, true, true, true, true, true, true, true, true, false, false, false, false, false, false, false, false, false, false, false, false, false, false, false, false, false, false, false, false, false, false]
abbrev QB55_14 : Array Bool := #[true, true, true, true, true, true, true, true, true, true, true, true, true, true, true, true, true, true, false, false, false, false, false, false, false, false, false, false, false, false, false, false, false, false, false]
abbrev QB55_15 : Array Bool := #[true, true, true, true, true, true, true, true, true, true, true, true, true, true, true, true, true, true, true, false, false, false, false, false, false, false, false, false, false, false, false, false, false, false, false]
abbrev QB55_16 : Array Bool := #[true, true, true, true, true, true, true, true, true, true, true, true, true, true, true, true, true, true, true, true, false, false, false, false, false, false, false, false, false, false, false, false, false, false, false]
abbrev QB55_17 : Array Bool := #[true, true, true, true, true, true, true, true, true, true, true, true, true, true, true, true, true, true, true, true, true, false, false, false, false, false, false, false, false, false, false, false, false, false, false]
abbrev QB55_18 : Array Bool := #[true, true, true, true, true, true, true, true, true, true, true, true, true, true, true, true, true, true, true, true, true, true, false, false, false, false, false, false, false, false, false, false, false, false, false]
abbrev QB55_19 : Array Bool := #[true, true, true, true, true, true, true, true, true, true, true, true, true, true, true, true, true, true, true, true, true, true, true, false, false, false, false, false, false, false, false, false, false, false, false]
abbrev QB55_20 : Array Bool := #[true, true, true, true, true, true, true, true, true, true, true, true, true, true, true, true, true, true, true, true, true, true, true, true, false, false, false, false, false, false, false, false, false, false, false]
abbrev QB55_21 : Array Bool := #[true, true, true, true, true, true, true, true, true, true, true, true, true, true, true, true, true, true, true, true, true, true, true, true, true, false, false, false, false, false, false, false, false, false, false]
abbrev QB55_22 : Array Bool := #[true, true, true, true, true, true, true, true, true, true, true, true, true, true, true, true, true, true, true, true, true, true, true, true, true, true, false, false, false, false, false, false, false, false, false]
abbrev QB55_23 : Array Bool := #[true, true, true, true, true, true, true, true, true, true, true, true, true, true, true, true, true, true, true, true, true, true, true, true, true, true, true, false, false, false, false, false, false, false, false]
abbrev QB55_24 : Array Bool := #[true, true, true, true, true, true, true, true, true, true, true, true, true, true, true, true, true, true, true, true, true, true, true, true, true, true, true, true, false, false, false, false, false, false, false]
abbrev QB55_25 : Array Bool := #[true, true, true, true, true, true, true, true, true, true, true, true, true, true, true, true, true, true, true, true, true, true, true, true, true, true, true, true, true, false, false, false, false, false, false]
abbrev QB55_26 : Array Bool := #[true, true, true, true, true, true, true, true, true, true, true, true, true, true, true, true, true, true, true, true, true, true, true, true, true, true, true, true, true, true, false, false, false, false, false]
abbrev QB55_27 : Array Bool := #[true, true, true, true, true, true, true, true, true, true, true, true, true, true, true, true, true, true, true, true, true, true, true, true, true, true, true, true, true, true, true, false, false, false, false]
abbrev QB55_28 : Array Bool := #[true, true, true, true, true, true, true, true, true, true, true, true, true, true, true, true, true, true, true, true, true, true, true, true, true, true, true, true, true, true, true, true, false, false, false]
abbrev QB55_29 : Array Bool := #[true, true, true, true, true, true, true, true, true, true, true, true, true, true, true, true, true, true, true, true, true, true, true, true, true, true, true, true, true, true, true, true, true, false, false]
abbrev QB55_30 : Array Bool := #[true, true, true, true, true, true, true, true, true, true, true, true, true, true, true, true, true, true, true, true, true, true, true, true, true, true, true, true, true, true, true, true, true, true, false]
abbrev QB55_31 : Array Bool := #[true, true, true, true, true, true, true, true, true, true, true, true, true, true, true, true, true, true, true, true, true, true, true, true, true, true, true, true, true, true, true, true, true, true, true]
abbrev QB55_32 : Array Bool := #[true, true, true, true, true, true, true, true, true, true, true, true, true, false, false, true, false, false, false, false, false, false, false, false, false, false, false, false, false, false, false, false, false, false, false]
abbrev QB55_33 : Array Bool := #[true, true, true, true, true, true, true, true, true, true, true, true, true, false, false, true, true, false, false, false, false, false, false, false, false, false, false, false, false, false, false, false, false, false, false]
abbrev QB55_34 : Array Bool := #[true, true, true, true, true, true, true, true, true, true, true, true, true, true, false, true, true, false, false, false, false, false, false, false, false, false, false, false, false, false, false, false, false, false, false]
abbrev QB55_35 : Array Bool := #[true, true, true, true, true, true, true, true, true, true, true, true, true, true, false, true, true, true, false, false, false, false, false, false, false, false, false, false, false, false, false, false, false, false, false]
abbrev QB55_36 : Array Bool := #[true, true, true, true, true, true, true, true, true, true, true, true, true, true, false, false, false, false, false, false, false, false, false, false, false, false, false, false, false, false, false, false, false, false, false]
abbrev QB55_37 : Array Bool := #[true, true, true, true, true, true, true, true, true, true, true, true, true, true, true, false, false, false, false, false, false, false, false, false, false, false, false, false, false, false, false, false, false, false, false]
abbrev QB55_38 : Array Bool := #[true, true, true, true, true, true, true, true, true, true, true, true, true, true, true, true, false, false, false, false, false, false, false, false, false, false, false, false, false, false, false, false, false, false, false]
abbrev QB55_39 : Array Bool := #[true, true, true, true, true, true, true, true, true, true, true, true, true, true, true, true, true, false, false, false, false, false, false, false, false, false, false, false, false, false, false, false, false, false, false]
attribute [local go_sem] max2_int min2_int max_two min_two max_three min_three max_four min_four tdiv_most
set_option linter.unusedVariables false
set_option linter.unusedSimpArgs false
attribute [local go_sem high] eqA36
def vetchlaw11_awake.j0 : Nat → List (S36) → List (S36) → Bool → List (S39) → List (S53) → Option (Bool)
 | 0, _, _, _, _, _ => none
 | k + 1, x2, x3, x28, x189000, x189001 => if x28 = true then (some false) else (if 2 < (x2.length : Int) then ((flow_Text.f k ((rd_T36 x2 2).f0) ((rd_T36 x2 2).f1) ((rd_T36 x2 2).f2)).bind fun t199 => (if t199.toList = ([101, 102] : List UInt8) then (if 4 < (x2.length : Int) then ((flow_Text.f k ((rd_T36 x2 4).f0) ((rd_T36 x2 4).f1) ((rd_T36 x2 4).f2)).bind fun t201 => (if t201.toList = ([110, 101] : List UInt8) then ((flow_Rule.f k x189000 x189001 0).bind fun bt202 => (if (bt202.1 == ((rd_T36 x2 4).f0) && (bt202.2.1 == ((rd_T36 x2 4).f1) && (bt202.2.2 == ((rd_T36 x2 4).f2)))) = true then (if 0 < (x3.length : Int) then ((flow_Text.f k ((rd_T36 x3 0).f0) ((rd_T36 x3 0).f1) ((rd_T36 x3 0).f2)).bind fun t207 => (if t207.toList = ([101, 102] : List UInt8) then (if 1 < (x3.length : Int) then ((flow_Text.f k ((rd_T36 x3 1).f0) ((rd_T36 x3 1).f1) ((rd_T36 x3 1).f2)).bind fun t209 => (some (t209.toList == ([45] : List UInt8)))) else (none)) else (some false))) else (none)) else (some false))) else (some false))) else (none)) else (some false))) else (none))
def vetchlaw11_awake.f (k : Nat)  : Option (Bool) := (some (([(⟨(⟨#[65]⟩ : ByteArray), 4⟩ : S39)] : List (S39)) : List (S39))).bind fun y176 => ((some (([(⟨1, ([] : List Int), 0, (⟨0, 8589934592, 0, 0⟩ : S50)⟩ : S53), (⟨2, ([] : List Int), 0, (⟨0, 0, 0, 0⟩ : S50)⟩ : S53), (⟨3, (([0, 1] : List Int)), 0, (⟨0, 0, 0, 0⟩ : S50)⟩ : S53), (⟨0, ([] : List Int), 0, (⟨0, 0, 0, 0⟩ : S50)⟩ : S53), (⟨4, (([2, 3] : List Int)), 0, (⟨0, 0, 0, 0⟩ : S50)⟩ : S53)] : List (S53)) : List (S53))).bind fun y185 => ((flow_Of.f k y176 y185).bind fun t189 => (if 5 ≤ 93824992236885 then ((flow_Step.f k y176 y185 (List.replicate 5 z36)).bind fun t195 => (if (t189.length : Int) = 5 then (vetchlaw11_awake.j0 k t189 t195 ((t195.length : Int) != 5) y176 y185) else (vetchlaw11_awake.j0 k t189 t195 true y176 y185))) else (none))))
theorem vetchlaw11_awake.mono_l : ∀ k, (∀ y0 y1 y2 y3 y4, LeO (vetchlaw11_awake.j0 k y0 y1 y2 y3 y4) (vetchlaw11_awake.j0 (k + 1) y0 y1 y2 y3 y4))
 | 0 => fun _ _ _ _ _ r h => by simp [vetchlaw11_awake.j0] at h
 | k + 1 => by
  have ih0 := vetchlaw11_awake.mono_l k
  ·
   intro y0 y1 y2 y3 y4
   unfold vetchlaw11_awake.j0
   repeat' first
   | (with_reducible exact ih0 _ _ _ _ _)
   | (with_reducible exact flow_Of.mono _ _ _)
   | (with_reducible exact flow_Rule.mono _ _ _ _)
   | (with_reducible exact flow_Step.mono _ _ _ _)
   | (with_reducible exact flow_Text.mono _ _ _ _)
   | (with_reducible exact LeO.refl _)
   | (with_reducible exact LeO.none _)
   | (with_reducible refine LeO.ite ?_ ?_)
   | (with_reducible refine LeO.bind ?_ (fun _ => ?_))
   | exact ih0 _ _ _ _ _
   | exact flow_Of.mono _ _ _
   | exact flow_Rule.mono _ _ _ _
   | exact flow_Step.mono _ _ _ _
   | exact flow_Text.mono _ _ _ _
   | exact LeO.none _
   | refine LeO.ite ?_ ?_
   | refine LeO.bind ?_ (fun _ => ?_)
theorem vetchlaw11_awake.mono : ∀ k, LeO (vetchlaw11_awake.f k ) (vetchlaw11_awake.f (k + 1) ) := by
 intro  k
 have ih0 := vetchlaw11_awake.mono_l k
 unfold vetchlaw11_awake.f
 repeat' first
  | (with_reducible exact ih0 _ _ _ _ _)
  | (with_reducible exact flow_Of.mono _ _ _)
  | (with_reducible exact flow_Rule.mono _ _ _ _)
  | (with_reducible exact flow_Step.mono _ _ _ _)
  | (with_reducible exact flow_Text.mono _ _ _ _)
  | (with_reducible exact LeO.refl _)
  | (with_reducible exact LeO.none _)
  | (with_reducible refine LeO.ite ?_ ?_)
  | (with_reducible refine LeO.bind ?_ (fun _ => ?_))
  | exact ih0 _ _ _ _ _
  | exact flow_Of.mono _ _ _
  | exact flow_Rule.mono _ _ _ _
  | exact flow_Step.mono _ _ _ _
  | exact flow_Text.mono _ _ _ _
  | exact LeO.none _
  | refine LeO.ite ?_ ?_
  | refine LeO.bind ?_ (fun _ => ?_)
def vetchlaw11_awake.T6 : Bool × List (List Nat × List Nat) := (true, [([], []), ([0], [0]), ([1], [1]), ([2], [2]), ([3], [3]), ([4, 3], [4]), ([5], [5]), ([6, 5], [5, 6]), ([7, 5], [5, 7]), ([8, 5, 5], [5, 8]), ([9, 5], [5, 9]), ([5, 10], [5, 10]), ([11, 9], [11]), ([12], [12]), ([13, 12, 12], [12, 13]), ([12], [12]), ([15, 12], [12, 15]), ([16, 12], [12, 16]), ([14, 17, 12], [12, 14, 17]), ([12, 18], [12, 18]), ([19, 14], [19]), ([20], [20]), ([21, 20], [20, 21]), ([22, 20], [20, 22]), ([23, 20, 20], [20, 23]), ([24, 20], [20, 24]), ([20, 25], [20, 25]), ([26, 24], [26]), ([27], [27]), ([28, 27], [27, 28]), ([29, 27], [27, 29]), ([30, 27, 27], [27, 30]), ([31, 27], [27, 31]), ([27, 32], [27, 32]), ([33, 31, 0, 1, 2, 3, 4, 5, 6, 7, 8, 9, 10, 11, 12, 13, 14, 15, 16, 17, 18, 19, 20, 21, 22, 23, 24, 25, 26, 27, 28, 29, 30, 31, 32, 33], [33])])
def vetchlaw11_awake.B6 : List Nat := [0, 1, 3, 7, 15, 31, 63, 127, 255, 511, 1023, 2047, 4095, 8191, 16383, 8191, 40959, 106495, 262143, 524287, 1048575, 2097151, 4194303, 8388607, 16777215, 33554431, 67108863, 134217727, 268435455, 536870911, 1073741823, 2147483647, 4294967295, 8589934591, 17179869183]
theorem vetchlaw11_awake.tab6 : rtab .any (opsOf Try.f8 6) = vetchlaw11_awake.T6 := by kernel_rfl
theorem vetchlaw11_awake.bits6 : waitsOk vetchlaw11_awake.T6.2 vetchlaw11_awake.B6 = true := by kernel_rfl
set_option maxHeartbeats 8000000 in
set_option maxRecDepth 100000 in
theorem vetchlaw11_awake.calls (k : Nat)  (r : Bool) (w : World) (h : vetchlaw11_awake.f k  = some r) :
 Calls Try.prog 8 #[] w fun e w' => e = .returned (.bool r) ∧ Below w.heap.size w w' := by
 have hu39 := Try.underlying39
 have hu50 := Try.underlying50
 have hu53 := Try.underlying53
 have hu25 := Try.underlying25
 have hu36 := Try.underlying36
 have HB := Aside0.mk (Below.refl w.heap.size w)
 have H : ((some (([(⟨(⟨#[65]⟩ : ByteArray), 4⟩ : S39)] : List (S39)) : List (S39))).bind fun y176 => ((some (([(⟨1, ([] : List Int), 0, (⟨0, 8589934592, 0, 0⟩ : S50)⟩ : S53), (⟨2, ([] : List Int), 0, (⟨0, 0, 0, 0⟩ : S50)⟩ : S53), (⟨3, (([0, 1] : List Int)), 0, (⟨0, 0, 0, 0⟩ : S50)⟩ : S53), (⟨0, ([] : List Int), 0, (⟨0, 0, 0, 0⟩ : S50)⟩ : S53), (⟨4, (([2, 3] : List Int)), 0, (⟨0, 0, 0, 0⟩ : S50)⟩ : S53)] : List (S53)) : List (S53))).bind fun y185 => ((flow_Of.f k y176 y185).bind fun t189 => (if 5 ≤ 93824992236885 then ((flow_Step.f k y176 y185 (List.replicate 5 z36)).bind fun t195 => (if (t189.length : Int) = 5 then (vetchlaw11_awake.j0 k t189 t195 ((t195.length : Int) != 5) y176 y185) else (vetchlaw11_awake.j0 k t189 t195 true y176 y185))) else (none))))) = some r := h
 clear h
 obtain ⟨y176, hy176⟩ : ∃ y_ : List (S39), y_ = (([(⟨(⟨#[65]⟩ : ByteArray), 4⟩ : S39)] : List (S39))) := ⟨_, rfl⟩
 replace H : ((some (([(⟨1, ([] : List Int), 0, (⟨0, 8589934592, 0, 0⟩ : S50)⟩ : S53), (⟨2, ([] : List Int), 0, (⟨0, 0, 0, 0⟩ : S50)⟩ : S53), (⟨3, (([0, 1] : List Int)), 0, (⟨0, 0, 0, 0⟩ : S50)⟩ : S53), (⟨0, ([] : List Int), 0, (⟨0, 0, 0, 0⟩ : S50)⟩ : S53), (⟨4, (([2, 3] : List Int)), 0, (⟨0, 0, 0, 0⟩ : S50)⟩ : S53)] : List (S53)) : List (S53))).bind fun y185 => ((flow_Of.f k y176 y185).bind fun t189 => (if 5 ≤ 93824992236885 then ((flow_Step.f k y176 y185 (List.replicate 5 z36)).bind fun t195 => (if (t189.length : Int) = 5 then (vetchlaw11_awake.j0 k t189 t195 ((t195.length : Int) != 5) y176 y185) else (vetchlaw11_awake.j0 k t189 t195 true y176 y185))) else (none)))) = some r := by first | (rw [hy176]; with_reducible exact H) | (have H2_ := (Option.bind_some _ _).symm.trans H; rw [hy176]; with_reducible exact H2_) | (have H2_ := (Option.bind_some _ _).symm.trans H; with_reducible exact H2_) | with_reducible exact H | (rw [hy176]; exact H) | exact H
 have Ny176 := Aside0.mk hy176
 clear hy176
 obtain ⟨y179, hy179⟩ : ∃ y_ : List Int, y_ = (([0, 1] : List Int)) := ⟨_, rfl⟩
 replace H : ((some (([(⟨1, ([] : List Int), 0, (⟨0, 8589934592, 0, 0⟩ : S50)⟩ : S53), (⟨2, ([] : List Int), 0, (⟨0, 0, 0, 0⟩ : S50)⟩ : S53), (⟨3, y179, 0, (⟨0, 0, 0, 0⟩ : S50)⟩ : S53), (⟨0, ([] : List Int), 0, (⟨0, 0, 0, 0⟩ : S50)⟩ : S53), (⟨4, (([2, 3] : List Int)), 0, (⟨0, 0, 0, 0⟩ : S50)⟩ : S53)] : List (S53)) : List (S53))).bind fun y185 => ((flow_Of.f k y176 y185).bind fun t189 => (if 5 ≤ 93824992236885 then ((flow_Step.f k y176 y185 (List.replicate 5 z36)).bind fun t195 => (if (t189.length : Int) = 5 then (vetchlaw11_awake.j0 k t189 t195 ((t195.length : Int) != 5) y176 y185) else (vetchlaw11_awake.j0 k t189 t195 true y176 y185))) else (none)))) = some r := by first | (rw [hy179]; with_reducible exact H) | (have H2_ := (Option.bind_some _ _).symm.trans H; rw [hy179]; with_reducible exact H2_) | (have H2_ := (Option.bind_some _ _).symm.trans H; with_reducible exact H2_) | with_reducible exact H | (rw [hy179]; exact H) | exact H
 have Ny179 := Aside0.mk hy179
 clear hy179
 obtain ⟨y182, hy182⟩ : ∃ y_ : List Int, y_ = (([2, 3] : List Int)) := ⟨_, rfl⟩
 replace H : ((some (([(⟨1, ([] : List Int), 0, (⟨0, 8589934592, 0, 0⟩ : S50)⟩ : S53), (⟨2, ([] : List Int), 0, (⟨0, 0, 0, 0⟩ : S50)⟩ : S53), (⟨3, y179, 0, (⟨0, 0, 0, 0⟩ : S50)⟩ : S53), (⟨0, ([] : List Int), 0, (⟨0, 0, 0, 0⟩ : S50)⟩ : S53), (⟨4, y182, 0, (⟨0, 0, 0, 0⟩ : S50)⟩ : S53)] : List (S53)) : List (S53))).bind fun y185 => ((flow_Of.f k y176 y185).bind fun t189 => (if 5 ≤ 93824992236885 then ((flow_Step.f k y176 y185 (List.replicate 5 z36)).bind fun t195 => (if (t189.length : Int) = 5 then (vetchlaw11_awake.j0 k t189 t195 ((t195.length : Int) != 5) y176 y185) else (vetchlaw11_awake.j0 k t189 t195 true y176 y185))) else (none)))) = some r := by first | (rw [hy182]; with_reducible exact H) | (have H2_ := (Option.bind_some _ _).symm.trans H; rw [hy182]; with_reducible exact H2_) | (have H2_ := (Option.bind_some _ _).symm.trans H; with_reducible exact H2_) | with_reducible exact H | (rw [hy182]; exact H) | exact H
 have Ny182 := Aside0.mk hy182
 clear hy182
 obtain ⟨y185, hy185⟩ : ∃ y_ : List (S53), y_ = (([(⟨1, ([] : List Int), 0, (⟨0, 8589934592, 0, 0⟩ : S50)⟩ : S53), (⟨2, ([] : List Int), 0, (⟨0, 0, 0, 0⟩ : S50)⟩ : S53), (⟨3, y179, 0, (⟨0, 0, 0, 0⟩ : S50)⟩ : S53), (⟨0, ([] : List Int), 0, (⟨0, 0, 0, 0⟩ : S50)⟩ : S53), (⟨4, y182, 0, (⟨0, 0, 0, 0⟩ : S50)⟩ : S53)] : List (S53))) := ⟨_, rfl⟩
 replace H : ((flow_Of.f k y176 y185).bind fun t189 => (if 5 ≤ 93824992236885 then ((flow_Step.f k y176 y185 (List.replicate 5 z36)).bind fun t195 => (if (t189.length : Int) = 5 then (vetchlaw11_awake.j0 k t189 t195 ((t195.length : Int) != 5) y176 y185) else (vetchlaw11_awake.j0 k t189 t195 true y176 y185))) else (none))) = some r := by first | (rw [hy185]; with_reducible exact H) | (have H2_ := (Option.bind_some _ _).symm.trans H; rw [hy185]; with_reducible exact H2_) | (have H2_ := (Option.bind_some _ _).symm.trans H; with_reducible exact H2_) | with_reducible exact H | (rw [hy185]; exact H) | exact H
 have Ny185 := Aside0.mk hy185
 clear hy185
 replace H := Option.bind_eq_some_iff.mp H
 obtain ⟨t189, A10, H⟩ := H
 replace H : (if 5 ≤ 93824992236885 then ((flow_Step.f k y176 y185 (List.replicate 5 z36)).bind fun t195 => (if (t189.length : Int) = 5 then (vetchlaw11_awake.j0 k t189 t195 ((t195.length : Int) != 5) y176 y185) else (vetchlaw11_awake.j0 k t189 t195 true y176 y185))) else (none)) = some r := H
 have A1 := Aside0.mk A10
 clear A10
 by_cases c2 : 5 ≤ 93824992236885
 ·
  rw [if_pos c2] at H
  have c2b0 := eq_true c2
  have c2b1 : decide (5 ≤ 93824992236885) = true := decide_eq_true c2
  clear c2
  obtain ⟨y192, hy192⟩ : ∃ y_ : List (S36), y_ = (List.replicate 5 z36) := ⟨_, rfl⟩
  replace H : ((flow_Step.f k y176 y185 y192).bind fun t195 => (if (t189.length : Int) = 5 then (vetchlaw11_awake.j0 k t189 t195 ((t195.length : Int) != 5) y176 y185) else (vetchlaw11_awake.j0 k t189 t195 true y176 y185))) = some r := by first | (rw [hy192]; with_reducible exact H) | (have H2_ := (Option.bind_some _ _).symm.trans H; rw [hy192]; with_reducible exact H2_) | (have H2_ := (Option.bind_some _ _).symm.trans H; with_reducible exact H2_) | with_reducible exact H | (rw [hy192]; exact H) | exact H
  have Ny192 := Aside0.mk hy192
  clear hy192
  replace H := Option.bind_eq_some_iff.mp H
  obtain ⟨t195, A30, H⟩ := H
  replace H : (if (t189.length : Int) = 5 then (vetchlaw11_awake.j0 k t189 t195 ((t195.length : Int) != 5) y176 y185) else (vetchlaw11_awake.j0 k t189 t195 true y176 y185)) = some r := H
  have A3 := Aside0.mk A30
  clear A30
  have HC4 := Aside0.mk H
  clear H
  go_enter Try.func8, Try.ntmps8
  try go_wp2_with (first | ((with_reducible refine gate_dst (N := 5) rfl ?_); (try (refine gate_guard (by rfl) ?_; dsimp only)); refine Kd.R_lit k39 _ 39 ?hg (N := 5) ?hd (xs := ([(⟨(⟨#[65]⟩ : ByteArray), 4⟩ : S39)] : List (S39))) (inner := [.string (⟨#[65]⟩ : ByteArray), .int .i64 4]) (ok := fun _ => True) (okp := fun _ => True) ?hr ?hp (fun _ hk => hk) trivial (Below.refl _ _) (Nat.le_refl _) (by simp) ?_; (case hd => rfl); (case hg => rfl); (case hr => first | (go_simp; done) | (go_simp; rfl)); (case hp => exact (Reps.c2 (show Kd.M k39 _ _ _ (⟨(⟨#[65]⟩ : ByteArray), 4⟩ : S39) [.string (⟨#[65]⟩ : ByteArray), .int .i64 4] from (k39_mkM _ _ _ (⟨(⟨#[65]⟩ : ByteArray), 4⟩ : S39) )) (Reps.none _ _))); intro v177 w5 ho6 hb hg_ hnew_; clear hg_ hnew_; (first | rw [← Ny176.out] at ho6 | (simp only [Int.reduceToNat] at ho6; rw [← Ny176.out] at ho6)); have n0_ := Aside0.mk (Kd.R_lower ho6 (below_size (by repeat (first | (with_reducible first | exact HB.out | apply below_alloc | apply pw_below_drewN | apply below_drew1) | exact HB.out)))); have n1_ := Aside0.mk (below_step (by repeat (first | (with_reducible first | exact HB.out | apply below_alloc | apply pw_below_drewN | apply below_drew1) | exact HB.out)) hb); clear HB; have HO178 := n0_; have HB := n1_; clear n0_ n1_; clear hb ho6) | ((with_reducible refine gate_dst (N := 9) rfl ?_); (try (refine gate_guard (by rfl) ?_; dsimp only)); refine Kd.R_lit (Kd.int .i64) _ 3 ?hg (N := 9) ?hd (xs := ([0, 1] : List Int)) (inner := [.int .i64 0, .int .i64 1]) (ok := fun _ => True) (okp := fun _ => True) ?hr ?hp (fun _ hk => hk) trivial (Below.refl _ _) (Nat.le_refl _) (by simp) ?_; (case hd => rfl); (case hg => rfl); (case hr => first | (go_simp; done) | (go_simp; rfl)); (case hp => exact (Reps.one (show Kd.M (Kd.int .i64) _ _ _ 0 [.int .i64 0] from rfl) (Reps.one (show Kd.M (Kd.int .i64) _ _ _ 1 [.int .i64 1] from rfl) (Reps.none _ _)))); intro v180 w7 ho8 hb hg_ hnew_; clear hg_ hnew_; (first | rw [← Ny179.out] at ho8 | (simp only [Int.reduceToNat] at ho8; rw [← Ny179.out] at ho8)); have n0_ := Aside0.mk (Kd.R_below (by (with_reducible repeat (first | apply Kd.R_alloc | apply Kd.R_drewN | apply Kd.R_drew)); exact HO178.out) hb); have n1_ := Aside0.mk (Kd.R_lower ho8 (below_size (by repeat (first | (with_reducible first | exact HB.out | apply below_alloc | apply pw_below_drewN | apply below_drew1) | exact HB.out)))); have n2_ := Aside0.mk (below_step (by repeat (first | (with_reducible first | exact HB.out | apply below_alloc | apply pw_below_drewN | apply below_drew1) | exact HB.out)) hb); clear HO178; clear HB; have HO178 := n0_; have HO181 := n1_; have HB := n2_; clear n0_ n1_ n2_; clear hb ho8; obtain ⟨Ao9, co9, eo9⟩ := Kd.R_slice HO181.out; subst eo9) | ((with_reducible refine gate_dst (N := 12) rfl ?_); (try (refine gate_guard (by rfl) ?_; dsimp only)); refine Kd.R_lit (Kd.int .i64) _ 3 ?hg (N := 12) ?hd (xs := ([2, 3] : List Int)) (inner := [.int .i64 2, .int .i64 3]) (ok := fun _ => True) (okp := fun _ => True) ?hr ?hp (fun _ hk => hk) trivial (Below.refl _ _) (Nat.le_refl _) (by simp) ?_; (case hd => rfl); (case hg => rfl); (case hr => first | (go_simp; done) | (go_simp; rfl)); (case hp => exact (Reps.one (show Kd.M (Kd.int .i64) _ _ _ 2 [.int .i64 2] from rfl) (Reps.one (show Kd.M (Kd.int .i64) _ _ _ 3 [.int .i64 3] from rfl) (Reps.none _ _)))); intro v183 w10 ho11 hb hg_ hnew_; clear hg_ hnew_; (first | rw [← Ny182.out] at ho11 | (simp only [Int.reduceToNat] at ho11; rw [← Ny182.out] at ho11)); have n0_ := Aside0.mk (Kd.R_below (by (with_reducible repeat (first | apply Kd.R_alloc | apply Kd.R_drewN | apply Kd.R_drew)); exact HO178.out) hb); have n1_ := Aside0.mk (Kd.R_elder' (by (with_reducible repeat (first | apply Kd.R_alloc | apply Kd.R_drewN | apply Kd.R_drew)); exact HO181.out) (Kd.R_base ho11) hb); have n2_ := Aside0.mk (Kd.R_lower (Kd.R_new' ho11 (Kd.R_lt (by (with_reducible repeat (first | apply Kd.R_alloc | apply Kd.R_drewN | apply Kd.R_drew)); exact HO181.out))) (below_size (by repeat (first | (with_reducible first | exact HB.out | apply below_alloc | apply pw_below_drewN | apply below_drew1) | exact HB.out)))); have n3_ := Aside0.mk (below_step (by repeat (first | (with_reducible first | exact HB.out | apply below_alloc | apply pw_below_drewN | apply below_drew1) | exact HB.out)) hb); clear HO178; clear HO181; clear HB; have HO178 := n0_; have HO181 := n1_; have HO184 := n2_; have HB := n3_; clear n0_ n1_ n2_ n3_; clear hb ho11; obtain ⟨Ao12, co12, eo12⟩ := Kd.R_slice HO184.out; subst eo12) | ((with_reducible refine gate_dst (N := 14) rfl ?_); (try (refine gate_guard (by rfl) ?_; dsimp only)); refine Kd.N_lit k53 _ 53 ?hg (N' := 14) ?hd (xs := ([(⟨1, ([] : List Int), 0, (⟨0, 8589934592, 0, 0⟩ : S50)⟩ : S53), (⟨2, ([] : List Int), 0, (⟨0, 0, 0, 0⟩ : S50)⟩ : S53), (⟨3, y179, 0, (⟨0, 0, 0, 0⟩ : S50)⟩ : S53), (⟨0, ([] : List Int), 0, (⟨0, 0, 0, 0⟩ : S50)⟩ : S53), (⟨4, y182, 0, (⟨0, 0, 0, 0⟩ : S50)⟩ : S53)] : List (S53))) (inner := [.int .i64 1, .slice none 0 0, .int .i64 0, .int .u64 0, .int .u64 8589934592, .int .u64 0, .int .u64 0, .int .i64 2, .slice none 0 0, .int .i64 0, .int .u64 0, .int .u64 0, .int .u64 0, .int .u64 0, .int .i64 3, .slice Ao9 y179.length co9, .int .i64 0, .int .u64 0, .int .u64 0, .int .u64 0, .int .u64 0, .int .i64 0, .slice none 0 0, .int .i64 0, .int .u64 0, .int .u64 0, .int .u64 0, .int .u64 0, .int .i64 4, .slice Ao12 y182.length co12, .int .i64 0, .int .u64 0, .int .u64 0, .int .u64 0, .int .u64 0]) (ok := (fun k_ => some k_ ≠ (v177 : Value).ownBlock)) (okp := (fun k_ => some k_ ≠ (v177 : Value).ownBlock)) ?hr ?hp (fun _ hk => hk) ((show ∀ k_, w10.heap.size ≤ k_ → (fun k_ => some k_ ≠ (v177 : Value).ownBlock) k_ from fun k_ hk => Kd.fresh' (Kd.R_lt (by (with_reducible repeat (first | apply Kd.R_alloc | apply Kd.R_drewN | apply Kd.R_drew)); exact HO178.out)) k_ hk) _ (Nat.le_refl _)) (Below.refl _ _) (Nat.le_refl _) (by simp) ?_; (case hd => rfl); (case hg => rfl); (case hr => first | (go_simp; done) | (go_simp; rfl)); (case hp => exact (Reps.c7 (show Kd.FK k53 _ _ (⟨1, ([] : List Int), 0, (⟨0, 8589934592, 0, 0⟩ : S50)⟩ : S53) [.int .i64 1, .slice none 0 0, .int .i64 0, .int .u64 0, .int .u64 8589934592, .int .u64 0, .int .u64 0] from (k53_mkF _ _ (⟨1, ([] : List Int), 0, (⟨0, 8589934592, 0, 0⟩ : S50)⟩ : S53) (Nat.le_refl _) (Kd.F_nil _ _ _))) (Reps.c7 (show Kd.FK k53 _ _ (⟨2, ([] : List Int), 0, (⟨0, 0, 0, 0⟩ : S50)⟩ : S53) [.int .i64 2, .slice none 0 0, .int .i64 0, .int .u64 0, .int .u64 0, .int .u64 0, .int .u64 0] from (k53_mkF _ _ (⟨2, ([] : List Int), 0, (⟨0, 0, 0, 0⟩ : S50)⟩ : S53) (Nat.le_refl _) (Kd.F_nil _ _ _))) (Reps.c7 (show Kd.FK k53 _ _ (⟨3, y179, 0, (⟨0, 0, 0, 0⟩ : S50)⟩ : S53) [.int .i64 3, .slice Ao9 y179.length co9, .int .i64 0, .int .u64 0, .int .u64 0, .int .u64 0, .int .u64 0] from (k53_mkF _ _ (⟨3, y179, 0, (⟨0, 0, 0, 0⟩ : S50)⟩ : S53) (Kd.R_reads' (Kd.R_mono (ok' := (fun k_ => some k_ ≠ (v177 : Value).ownBlock)) (Kd.R_apart' (HO181.out) (Kd.R_typed HO178.out) (by decide)) (fun k_ hk => hk.2))).2.1 (Kd.R_F (Kd.R_mono (ok' := (fun k_ => some k_ ≠ (v177 : Value).ownBlock)) (Kd.R_apart' (HO181.out) (Kd.R_typed HO178.out) (by decide)) (fun k_ hk => hk.2))))) (Reps.c7 (show Kd.FK k53 _ _ (⟨0, ([] : List Int), 0, (⟨0, 0, 0, 0⟩ : S50)⟩ : S53) [.int .i64 0, .slice none 0 0, .int .i64 0, .int .u64 0, .int .u64 0, .int .u64 0, .int .u64 0] from (k53_mkF _ _ (⟨0, ([] : List Int), 0, (⟨0, 0, 0, 0⟩ : S50)⟩ : S53) (Nat.le_refl _) (Kd.F_nil _ _ _))) (Reps.c7 (show Kd.FK k53 _ _ (⟨4, y182, 0, (⟨0, 0, 0, 0⟩ : S50)⟩ : S53) [.int .i64 4, .slice Ao12 y182.length co12, .int .i64 0, .int .u64 0, .int .u64 0, .int .u64 0, .int .u64 0] from (k53_mkF _ _ (⟨4, y182, 0, (⟨0, 0, 0, 0⟩ : S50)⟩ : S53) (Kd.R_reads' (Kd.R_mono (ok' := (fun k_ => some k_ ≠ (v177 : Value).ownBlock)) (Kd.R_apart' (HO184.out) (Kd.R_typed HO178.out) (by decide)) (fun k_ hk => hk.2))).2.1 (Kd.R_F (Kd.R_mono (ok' := (fun k_ => some k_ ≠ (v177 : Value).ownBlock)) (Kd.R_apart' (HO184.out) (Kd.R_typed HO178.out) (by decide)) (fun k_ hk => hk.2))))) (Reps.none _ _))))))); intro v186 w13 ho14 hb hg_ hnew_; clear hg_ hnew_; (first | rw [← Ny185.out] at ho14 | (simp only [Int.reduceToNat] at ho14; rw [← Ny185.out] at ho14)); have n0_ := Aside0.mk (Kd.R_below (by (with_reducible repeat (first | apply Kd.R_alloc | apply Kd.R_drewN | apply Kd.R_drew)); exact HO178.out) hb); have n1_ := Aside0.mk (Kd.N_lower ho14 (below_size (by repeat (first | (with_reducible first | exact HB.out | apply below_alloc | apply pw_below_drewN | apply below_drew1) | exact HB.out)))); have n2_ := Aside0.mk (below_step (by repeat (first | (with_reducible first | exact HB.out | apply below_alloc | apply pw_below_drewN | apply below_drew1) | exact HB.out)) hb); clear HO178; clear HB; clear HO181; clear HO184; have HO178 := n0_; have HO187 := n1_; have HB := n2_; clear n0_ n1_ n2_; clear hb ho14; obtain ⟨Ao15, co15, eo15⟩ := Kd.N_slice HO187.out; subst eo15; obtain ⟨Ao16, co16, eo16⟩ := Kd.R_slice HO178.out; subst eo16) | ((with_reducible refine gate_dst (N := 1) rfl ?_); (try (refine gate_guard (by rfl) ?_; dsimp only)); refine box_event ?hg (N := 1) ?hd (cs := #[.slice none 0 0, .slice none 0 0]) (t := 25) ?hr ?_; (case hd => rfl); (case hg => rfl); (case hr => first | (go_simp; done) | (go_simp; rfl)); intro gb188 hg w17 hbox hb; have n0_ := Aside0.mk (Kd.R_below (by (with_reducible repeat (first | apply Kd.R_alloc | apply Kd.R_drewN | apply Kd.R_drew)); exact HO178.out) hb); have n1_ := Aside0.mk (Kd.N_below (Kd.N_elderB (by (with_reducible repeat (first | apply Kd.N_alloc | apply Kd.N_drewN | apply Kd.N_drew)); exact HO187.out) gb188 (Nat.le_of_eq hg.symm)) hb); have n2_ := Aside0.mk (below_step (by repeat (first | (with_reducible first | exact HB.out | apply below_alloc | apply pw_below_drewN | apply below_drew1) | exact HB.out)) hb); have n3_ := Aside0.mk (hbox); have n4_ := Aside0.mk ((by rw [hg]; exact (below_size (by repeat (first | (with_reducible first | exact HB.out | apply below_alloc | apply pw_below_drewN | apply below_drew1) | exact HB.out))) : w.heap.size ≤ gb188)); have n5_ := Aside0.mk ((by rw [hg]; exact (below_size (by repeat (first | (with_reducible first | exact HB.out | apply below_alloc | apply pw_below_drewN | apply below_drew1) | exact HB.out))) : w.heap.size ≤ gb188)); clear HO178; clear HO187; clear HB; have HO178 := n0_; have HO187 := n1_; have HB := n2_; have BK188 := n3_; have GW188 := n4_; have GE188 := n5_; clear n0_ n1_ n2_ n3_ n4_ n5_; clear hb hbox hg; have hcz18_0 : w17.cell? ⟨gb188, 0, none⟩ = some (.slice none 0 0) := (blk_cell BK188.out 0).trans rfl; have hcz18_1 : w17.cell? ⟨gb188, 1, none⟩ = some (.slice none 0 0) := (blk_cell BK188.out 1).trans rfl; have hfz18_0 := blk_frozen BK188.out 0; have hfz18_1 := blk_frozen BK188.out 1) | ((with_reducible refine gate_callee (f := 13) rfl ?_); refine goesL_ (some 17) rfl rfl Try.func13 (by kernel_rfl) rfl #[.agg #[.slice Ao16 y176.length co16, .slice Ao15 y185.length co15]] rfl (by (try simp only [List.map_toArray, List.map_cons, List.map_nil]); first | done | rfl | (simp only [List.length_drop, List.length_take]; rfl)) ?_; (with_reducible refine (flow_Of.calls k _ _ y176 _ _ y185 t189 _ ?side1 ?side2 ?side3 ?side4 A1.out).mono ?_); (case side1 => refine (Kd.R_reads' (e := 39) (base := w.heap.size) (ok := fun k_ => True) (n := y176.length) (c := co16) ?_).2.2; exact (by (with_reducible repeat (first | apply Kd.R_alloc | apply Kd.R_drewN | apply Kd.R_drew)); exact (Kd.R_mono (Kd.R_far (p := ⟨gb188, 1, none⟩) (Kd.R_far (p := ⟨gb188, 0, none⟩) (Kd.R_types HO178.out BK188.out (by decide)) (fun _ hk => hk.2) (.slice Ao16 y176.length co16)) (fun _ hk => hk.2) (.slice Ao15 y185.length co15)) (fun _ h_ => h_.1)))); (case side2 => exact (Kd.R_reads' HO178.out).2.1); (case side3 => refine (Kd.N_reads' (e := 53) (base := w.heap.size) (ok := fun k_ => (some k_ ≠ (.slice Ao16 y176.length co16 : Value).ownBlock ∧ k_ ≠ gb188)) (n := y185.length) (c := co15) ?_).2.2; exact (by (with_reducible repeat (first | apply Kd.N_alloc | apply Kd.N_drewN | apply Kd.N_drew)); exact (Kd.N_mono (Kd.N_far (p := ⟨gb188, 1, none⟩) (Kd.N_far (p := ⟨gb188, 0, none⟩) (Kd.N_mono HO187.out (fun k_ hk => (⟨hk, hk.2⟩ : _ ∧ k_ ≠ gb188))) (fun _ hk => hk.2) (.slice Ao16 y176.length co16)) (fun _ hk => hk.2) (.slice Ao15 y185.length co15)) (fun _ h_ => h_.1)))); (case side4 => exact (Kd.N_reads' HO187.out).2.1); rintro e w19 ⟨v190, rfl, ho0, hb⟩; refine ⟨_, rfl, ?_⟩; have n0_ := Aside0.mk (Kd.R_below (by (with_reducible repeat (first | apply Kd.R_alloc | apply Kd.R_drewN | apply Kd.R_drew)); exact (Kd.R_mono (Kd.R_far (p := ⟨gb188, 1, none⟩) (Kd.R_far (p := ⟨gb188, 0, none⟩) (Kd.R_types HO178.out BK188.out (by decide)) (fun _ hk => hk.2) (.slice Ao16 y176.length co16)) (fun _ hk => hk.2) (.slice Ao15 y185.length co15)) (fun _ h_ => h_.1))) hb); have n1_ := Aside0.mk (Kd.N_elder' (by (with_reducible repeat (first | apply Kd.N_alloc | apply Kd.N_drewN | apply Kd.N_drew)); exact (Kd.N_mono (Kd.N_far (p := ⟨gb188, 1, none⟩) (Kd.N_far (p := ⟨gb188, 0, none⟩) (Kd.N_mono HO187.out (fun k_ hk => (⟨hk, hk.2⟩ : _ ∧ k_ ≠ gb188))) (fun _ hk => hk.2) (.slice Ao16 y176.length co16)) (fun _ hk => hk.2) (.slice Ao15 y185.length co15)) (fun _ h_ => h_.1))) (Kd.R_base ho0) hb); have n2_ := Aside0.mk (Kd.R_lower ho0 (below_size (by repeat (first | (with_reducible first | exact HB.out | apply below_alloc | apply pw_below_drewN | apply below_drew1 | refine below_set ?_ GE188.out) | exact HB.out)))); have n3_ := Aside0.mk (blk_below (g := gb188) (o := .cells #[.slice Ao16 y176.length co16, .slice Ao15 y185.length co15] 25 (0, 0)) (by (with_reducible repeat (first | refine blk_drewN ?_ _ | refine blk_drew ?_ | refine blk_alloc ?_ _)); refine blk_put (cs := #[.slice Ao16 y176.length co16, .slice none 0 0]) ?_ 1 _ rfl; (with_reducible repeat (first | refine blk_drewN ?_ _ | refine blk_drew ?_ | refine blk_alloc ?_ _)); refine blk_put (cs := #[.slice none 0 0, .slice none 0 0]) ?_ 0 _ rfl; (with_reducible repeat (first | refine blk_drewN ?_ _ | refine blk_drew ?_ | refine blk_alloc ?_ _)); exact BK188.out) hb); have n4_ := Aside0.mk (below_step (by repeat (first | (with_reducible first | exact HB.out | apply below_alloc | apply pw_below_drewN | apply below_drew1 | refine below_set ?_ GE188.out) | exact HB.out)) hb); clear HO178; clear HO187; clear BK188; clear HB; have HO178 := n0_; have HO187 := n1_; have HO191 := n2_; have BK188 := n3_; have HB := n4_; clear n0_ n1_ n2_ n3_ n4_; (try clear hb); (try clear hb2); (try clear hk); (try clear hi); (try clear ho0)))
  have n0_ := Aside0.mk (Kd.R_drew HO178.out)
  have n1_ := Aside0.mk (Kd.N_drew HO187.out)
  have n2_ := Aside0.mk (Kd.R_drew HO191.out)
  have n3_ := Aside0.mk (blk_drew BK188.out)
  have n4_ := Aside0.mk (below_drew1 HB.out)
  clear HO178
  clear HO187
  clear HO191
  clear BK188
  clear HB
  have HO178 := n0_
  have HO187 := n1_
  have HO191 := n2_
  have BK188 := n3_
  have HB := n4_
  clear n0_ n1_ n2_ n3_ n4_
  refine start_ (n := 4) (S := fun w' => w'.cell? ⟨gb188, 0, none⟩ = some (.slice Ao16 y176.length co16) ∧ w'.cell? ⟨gb188, 1, none⟩ = some (.slice Ao15 y185.length co15)) (ds := []) #[false, false, false, false] (by kernel_rfl) rfl rfl ⟨(blk_cell BK188.out 0).trans rfl, (blk_cell BK188.out 1).trans rfl⟩ (fun hHeld => ?_)
  generalize w19.drew = w20 at HO178 HO187 HO191 BK188 HB hHeld ⊢
  refine take_ (i := 0) (N := some 18) (v := ?_) (a' := ?_) #[true, false, false, false] rfl rfl (by kernel_rfl) (fun _ _ _ h => h) (Or.inl ⟨by rfl, ?_⟩) hHeld ?_ ?_
  rotate_left
  ·
   rintro w' ⟨s0, s1⟩
   go_simp
   with_reducible rfl
  rotate_left
  ·
   simp only [Act.put, List.setIfInBounds_toArray, List.set_cons_zero, List.set_cons_succ, i64_w, i32_w]
   rfl
  refine one_ (i := 1) (N := some 19) #[true, true, false, false] rfl rfl (by kernel_rfl) (by decide) (fun K hK => ?_)
  refine Kd.R_make_step k36 _ 36 (by rfl) (N := 19) rfl 32 _ _ rfl 5 rfl rfl Try.underlying32 (.agg #[(.bool false), (.bool false), (.bool false)]) 3 info36 rfl (by decide) (by omega) z36 (ok := fun _ => True) (okp := fun _ => True) (k36_mkM _ _ _ z36 ) (fun _ hk => hk) trivial (by omega) (by omega) (Below.refl _ _) (Nat.le_refl _) ?_
  intro v193 w21 ho22 hb hg_ hnew_
  clear hg_ hnew_
  (first | rw [← Ny192.out] at ho22 | (simp only [Int.reduceToNat] at ho22; rw [← Ny192.out] at ho22))
  have n0_ := Aside0.mk (Kd.R_below (by (with_reducible repeat (first | apply Kd.R_alloc | apply Kd.R_drewN | apply Kd.R_drew)); exact HO178.out) hb)
  have n1_ := Aside0.mk (Kd.N_elder' (by (with_reducible repeat (first | apply Kd.N_alloc | apply Kd.N_drewN | apply Kd.N_drew)); exact HO187.out) (Kd.R_base ho22) hb)
  have n2_ := Aside0.mk (Kd.R_elder' (by (with_reducible repeat (first | apply Kd.R_alloc | apply Kd.R_drewN | apply Kd.R_drew)); exact HO191.out) (Kd.R_base ho22) hb)
  have n3_ := Aside0.mk (Kd.R_lower (Kd.R_new' ho22 (Kd.R_lt (by (with_reducible repeat (first | apply Kd.R_alloc | apply Kd.R_drewN | apply Kd.R_drew)); exact HO191.out))) (below_size (by repeat (first | (with_reducible first | exact HB.out | apply below_alloc | apply pw_below_drewN | apply below_drew1 | refine below_set ?_ GE188.out) | exact HB.out))))
  have n4_ := Aside0.mk (blk_below (g := gb188) (o := .cells #[.slice Ao16 y176.length co16, .slice Ao15 y185.length co15] 25 (0, 0)) (by (with_reducible repeat (first | refine blk_drewN ?_ _ | refine blk_drew ?_ | refine blk_alloc ?_ _)); exact BK188.out) hb)
  have n5_ := Aside0.mk (below_step (by repeat (first | (with_reducible first | exact HB.out | apply below_alloc | apply pw_below_drewN | apply below_drew1 | refine below_set ?_ GE188.out) | exact HB.out)) hb)
  clear HO178
  clear HO187
  clear HO191
  clear BK188
  clear HB
  have HO178 := n0_
  have HO187 := n1_
  have HO191 := n2_
  have HO194 := n3_
  have BK188 := n4_
  have HB := n5_
  clear n0_ n1_ n2_ n3_ n4_ n5_
  clear hb ho22
  obtain ⟨Ao23, co23, eo23⟩ := Kd.R_slice HO194.out
  (first | subst eo23 | (injection eo23 with f1_ f2_ f3_; have f4_ := f1_.symm; have f5_ := f3_.symm; clear f1_ f2_ f3_; subst f4_; subst f5_))
  refine hK.out _ _ ⟨(blk_cell BK188.out 0).trans rfl, (blk_cell BK188.out 1).trans rfl⟩ (fun hHeld => ?_)
  clear hK K
  refine norm_ (a' := ?_) ?_ ?_
  rotate_left
  ·
   show Act.put _ (some 19) _ = _
   simp only [Act.put, List.setIfInBounds_toArray, List.set_cons_zero, List.set_cons_succ, i64_w, i32_w]
   rfl
  refine one_ (i := 2) (N := some 20) #[true, true, true, false] rfl rfl (by kernel_rfl) (by decide) (fun K hK => ?_)
  refine goes_ Try.func15 (by kernel_rfl) rfl #[.agg #[.slice Ao16 y176.length co16, .slice Ao15 y185.length co15], .slice Ao23 y192.length co23] (by rfl) rfl rfl (by (try simp only [List.map_toArray, List.map_cons, List.map_nil]); first | done | rfl | (simp only [List.length_drop, List.length_take]; rfl)) ?_
  with_reducible refine (flow_Step.calls k _ _ y176 _ _ y185 _ _ y192 t195 _ ?side1 ?side2 ?side3 ?side4 ?side5 ?side6 A3.out).mono ?_
  (case side1 => repeat (first | exact (Kd.R_reads' HO178.out).2.2 | (with_reducible refine Kd.C_alloc ?_ _) | (with_reducible refine Kd.C_drewN ?_ _) | (with_reducible refine Kd.C_drew ?_)))
  (case side2 => exact (Kd.R_reads' HO178.out).2.1)
  (case side3 => repeat (first | exact (Kd.N_reads' HO187.out).2.2 | (with_reducible refine Kd.C_alloc ?_ _) | (with_reducible refine Kd.C_drewN ?_ _) | (with_reducible refine Kd.C_drew ?_)))
  (case side4 => exact (Kd.N_reads' HO187.out).2.1)
  (case side5 => repeat (first | exact (Kd.R_reads' HO194.out).2.2 | (with_reducible refine Kd.C_alloc ?_ _) | (with_reducible refine Kd.C_drewN ?_ _) | (with_reducible refine Kd.C_drew ?_)))
  (case side6 => exact (Kd.R_reads' HO194.out).2.1)
  rintro e w24 ⟨v196, rfl, ho0, hb⟩
  refine ⟨_, rfl, ?_⟩
  have n0_ := Aside0.mk (Kd.R_below (by (with_reducible repeat (first | apply Kd.R_alloc | apply Kd.R_drewN | apply Kd.R_drew)); exact HO178.out) hb)
  have n1_ := Aside0.mk (Kd.N_elder' (by (with_reducible repeat (first | apply Kd.N_alloc | apply Kd.N_drewN | apply Kd.N_drew)); exact HO187.out) (Kd.R_base ho0) hb)
  have n2_ := Aside0.mk (Kd.R_elder' (by (with_reducible repeat (first | apply Kd.R_alloc | apply Kd.R_drewN | apply Kd.R_drew)); exact HO191.out) (Kd.R_base ho0) hb)
  have n3_ := Aside0.mk (Kd.R_elder' (by (with_reducible repeat (first | apply Kd.R_alloc | apply Kd.R_drewN | apply Kd.R_drew)); exact HO194.out) (Kd.R_base ho0) hb)
  have n4_ := Aside0.mk (Kd.R_lower (Kd.R_new' (Kd.R_new' ho0 (Kd.R_lt (by (with_reducible repeat (first | apply Kd.R_alloc | apply Kd.R_drewN | apply Kd.R_drew)); exact HO191.out))) (Kd.R_lt (by (with_reducible repeat (first | apply Kd.R_alloc | apply Kd.R_drewN | apply Kd.R_drew)); exact HO194.out))) (below_size (by repeat (first | (with_reducible first | exact HB.out | apply below_alloc | apply pw_below_drewN | apply below_drew1 | refine below_set ?_ GE188.out) | exact HB.out))))
  have n5_ := Aside0.mk (blk_below (g := gb188) (o := .cells #[.slice Ao16 y176.length co16, .slice Ao15 y185.length co15] 25 (0, 0)) (by (with_reducible repeat (first | refine blk_drewN ?_ _ | refine blk_drew ?_ | refine blk_alloc ?_ _)); exact BK188.out) hb)
  have n6_ := Aside0.mk (below_step (by repeat (first | (with_reducible first | exact HB.out | apply below_alloc | apply pw_below_drewN | apply below_drew1 | refine below_set ?_ GE188.out) | exact HB.out)) hb)
  clear HO178
  clear HO187
  clear HO191
  clear HO194
  clear BK188
  clear HB
  have HO178 := n0_
  have HO187 := n1_
  have HO191 := n2_
  have HO194 := n3_
  have HO197 := n4_
  have BK188 := n5_
  have HB := n6_
  clear n0_ n1_ n2_ n3_ n4_ n5_ n6_
  (try clear hb)
  (try clear hb2)
  (try clear hk)
  (try clear hi)
  (try clear ho0)
  refine hK.out _ _ ⟨(blk_cell BK188.out 0).trans rfl, (blk_cell BK188.out 1).trans rfl⟩ (fun hHeld => ?_)
  clear hK K
  refine norm_ (a' := ?_) ?_ ?_
  rotate_left
  ·
   show Act.put _ (some 20) _ = _
   simp only [Act.put, List.setIfInBounds_toArray, List.set_cons_zero, List.set_cons_succ, i64_w, i32_w]
   rfl
  refine pure_ (i := 3) (N := some 3) (v := ?_) (a' := ?_) #[true, true, true, true] rfl rfl (by kernel_rfl) (fun _ _ _ h => h) (Or.inl ⟨by rfl, ?_⟩) ?_ ?_
  rotate_left
  ·
   intro w'
   go_simp
   with_reducible rfl
  rotate_left
  ·
   simp only [Act.put, List.setIfInBounds_toArray, List.set_cons_zero, List.set_cons_succ, i64_w, i32_w]
   rfl
  refine done_ (by kernel_rfl) ?_
  go_upto_region 4 with (fail)
  go_cut [28] (fun v28 wc => ∃ (kq : Nat) (x28_3 : Bool), v28 = .bool x28_3 ∧ Aside0 (vetchlaw11_awake.j0 kq t189 t195 x28_3 y176 y185 = some r) ∧ Aside0 (kq ≤ k) ∧ Aside0 (Kd.R k36 36 wc w.heap.size (fun k_ => some k_ ≠ (v196 : Value).ownBlock) v190 t189) ∧ Aside0 (Kd.R k36 36 wc w.heap.size (fun k_ => some k_ ≠ (v190 : Value).ownBlock) v196 t195) ∧ Aside0 (Kd.R k39 39 wc w.heap.size (fun _ => True) (.slice Ao16 y176.length co16) y176) ∧ Aside0 (Kd.N k53 53 wc w.heap.size (fun k_ => some k_ ≠ (v190 : Value).ownBlock ∧ some k_ ≠ (v196 : Value).ownBlock ∧ some k_ ≠ ((.slice Ao16 y176.length co16) : Value).ownBlock ∧ k_ ≠ gb188) (.slice Ao15 y185.length co15) y185) ∧ Aside0 (wc.heap[gb188]? = some (.cells #[(.slice Ao16 y176.length co16), (.slice Ao15 y185.length co15)] 25 (0, 0))) ∧ Aside0 (Below w.heap.size w wc))
  case first =>
   have H := HC4.out
   clear HC4
   by_cases c25 : (t189.length : Int) = 5
   ·
    rw [if_pos c25] at H
    have c25b0 : ((t189.length : Int) == 5) = true := beq_iff_eq.mpr c25
    have c25b1 : ((t189.length : Int) != 5) = false := bne_eq_false_iff_eq.mpr c25
    clear c25
    (first | rw [c25b0] | (simp only [i64_w, i32_w]; rw [c25b0]) | skip)
    have H' := Aside0.mk H
    clear H
    obtain ⟨Ao26, co26, eo26⟩ := Kd.R_slice HO191.out
    subst eo26
    obtain ⟨Ao27, co27, eo27⟩ := Kd.R_slice HO197.out
    subst eo27
    go_wp2
    go_meet
    case rel => exact ⟨_, (((t195.length : Int) != 5)), (by first | rfl | (simp; done) | (simp [*]; done)), H', ⟨by first | omega | exact Nat.le_refl _⟩, ⟨by (with_reducible repeat (first | apply Kd.R_alloc | apply Kd.R_drewN | apply Kd.R_drew)); exact Kd.R_mono HO191.out (fun _ hk => hk.2)⟩, ⟨by (with_reducible repeat (first | apply Kd.R_alloc | apply Kd.R_drewN | apply Kd.R_drew)); exact Kd.R_mono HO197.out (fun _ hk => hk.1.2)⟩, ⟨by (with_reducible repeat (first | apply Kd.R_alloc | apply Kd.R_drewN | apply Kd.R_drew)); exact HO178.out⟩, ⟨by (with_reducible repeat (first | apply Kd.N_alloc | apply Kd.N_drewN | apply Kd.N_drew)); exact Kd.N_mono HO187.out (fun _ hk => ⟨hk.1.1.2, ⟨hk.2, ⟨hk.1.1.1.1, hk.1.1.1.2⟩⟩⟩)⟩, ⟨by (with_reducible repeat (first | refine blk_drewN ?_ _ | refine blk_drew ?_ | refine blk_alloc ?_ _)); exact BK188.out⟩, ⟨by repeat (first | (with_reducible first | exact HB.out | apply below_alloc | apply pw_below_drewN | apply below_drew1 | refine below_set ?_ GE188.out) | exact HB.out)⟩⟩
   ·
    rw [if_neg c25] at H
    have c25b0 : ((t189.length : Int) == 5) = false := beq_eq_false_iff_ne.mpr c25
    have c25b1 : ((t189.length : Int) != 5) = true := bne_iff_ne.mpr c25
    (first | rw [c25b0] | (simp only [i64_w, i32_w]; rw [c25b0]) | skip)
    have H' := Aside0.mk H
    clear H
    obtain ⟨Ao28, co28, eo28⟩ := Kd.R_slice HO191.out
    subst eo28
    go_wp2
    go_meet
    case rel => exact ⟨_, (true), (by first | rfl | (simp; done) | (simp [*]; done)), H', ⟨by first | omega | exact Nat.le_refl _⟩, ⟨by (with_reducible repeat (first | apply Kd.R_alloc | apply Kd.R_drewN | apply Kd.R_drew)); exact Kd.R_mono HO191.out (fun _ hk => hk.2)⟩, ⟨by (with_reducible repeat (first | apply Kd.R_alloc | apply Kd.R_drewN | apply Kd.R_drew)); exact Kd.R_mono HO197.out (fun _ hk => hk.1.2)⟩, ⟨by (with_reducible repeat (first | apply Kd.R_alloc | apply Kd.R_drewN | apply Kd.R_drew)); exact HO178.out⟩, ⟨by (with_reducible repeat (first | apply Kd.N_alloc | apply Kd.N_drewN | apply Kd.N_drew)); exact Kd.N_mono HO187.out (fun _ hk => ⟨hk.1.1.2, ⟨hk.2, ⟨hk.1.1.1.1, hk.1.1.1.2⟩⟩⟩)⟩, ⟨by (with_reducible repeat (first | refine blk_drewN ?_ _ | refine blk_drew ?_ | refine blk_alloc ?_ _)); exact BK188.out⟩, ⟨by repeat (first | (with_reducible first | exact HB.out | apply below_alloc | apply pw_below_drewN | apply below_drew1 | refine below_set ?_ GE188.out) | exact HB.out)⟩⟩
  case rest =>
   clear HC4
   try clear c1
   try clear c2
   try clear c2b0
   try clear c2b1
   try clear p2
   try clear c7
   try clear c8
   try clear c13
   try clear c15
   try clear c25
   try clear c25b0
   try clear c25b1
   try clear hcz18_0
   try clear hcz18_1
   try clear hfz18_0
   try clear hfz18_1
   obtain ⟨kq, x28_3, rfl, HA, HJ3, HO_2, HO_3, HO_189000, HO_189001, BK188, HB⟩ := hcut
   cases kq with
   | zero => exact absurd HA.out (by simp [vetchlaw11_awake.j0])
   | succ kj3 =>
    have H := HA.out
    clear HA
    simp only [vetchlaw11_awake.j0] at H
    by_cases c29 : x28_3 = true
    ·
     subst c29
     have H1 : (some false) = some r := by rw [if_pos rfl] at H; exact H
     clear H
     have H := H1
     clear H1
     obtain rfl := Option.some.inj H
     go_wp2
     go_ret
     exact ⟨by first | rfl | (simp [errW_none, errW_some] <;> rfl) | (simp [*, errW_none, errW_some] <;> rfl), by repeat (first | (with_reducible first | exact HB.out | apply below_alloc | apply pw_below_drewN | apply below_drew1 | refine below_set ?_ GE188.out) | exact HB.out)⟩
    ·
     replace c29 := Bool.eq_false_iff.mpr c29
     subst c29
     have H1 : (if 2 < (t189.length : Int) then ((flow_Text.f kj3 ((rd_T36 t189 2).f0) ((rd_T36 t189 2).f1) ((rd_T36 t189 2).f2)).bind fun t199 => (if t199.toList = ([101, 102] : List UInt8) then (if 4 < (t189.length : Int) then ((flow_Text.f kj3 ((rd_T36 t189 4).f0) ((rd_T36 t189 4).f1) ((rd_T36 t189 4).f2)).bind fun t201 => (if t201.toList = ([110, 101] : List UInt8) then ((flow_Rule.f kj3 y176 y185 0).bind fun bt202 => (if (bt202.1 == ((rd_T36 t189 4).f0) && (bt202.2.1 == ((rd_T36 t189 4).f1) && (bt202.2.2 == ((rd_T36 t189 4).f2)))) = true then (if 0 < (t195.length : Int) then ((flow_Text.f kj3 ((rd_T36 t195 0).f0) ((rd_T36 t195 0).f1) ((rd_T36 t195 0).f2)).bind fun t207 => (if t207.toList = ([101, 102] : List UInt8) then (if 1 < (t195.length : Int) then ((flow_Text.f kj3 ((rd_T36 t195 1).f0) ((rd_T36 t195 1).f1) ((rd_T36 t195 1).f2)).bind fun t209 => (some (t209.toList == ([45] : List UInt8)))) else (none)) else (some false))) else (none)) else (some false))) else (some false))) else (none)) else (some false))) else (none)) = some r := by rw [if_neg (show ¬ (false = true) by decide)] at H; exact H
     clear H
     have H := H1
     clear H1
     have HC30 := Aside0.mk H
     clear H
     go_upto_region 6 with (fail)
     have H := HC30.out
     clear HC30
     by_cases c31 : 2 < (t189.length : Int)
     ·
      rw [if_pos c31] at H
      have c31b0 : decide (2 < (t189.length : Int)) = true := decide_eq_true c31
      have c31b1 : decide (2 < t189.length) = true := decide_eq_true (by omega)
      clear c31
      (first | rw [c31b0] | (simp only [i64_w, i32_w]; rw [c31b0]) | skip)
      replace H := Option.bind_eq_some_iff.mp H
      obtain ⟨t199, A320, H⟩ := H
      replace H : (if t199.toList = ([101, 102] : List UInt8) then (if 4 < (t189.length : Int) then ((flow_Text.f kj3 ((rd_T36 t189 4).f0) ((rd_T36 t189 4).f1) ((rd_T36 t189 4).f2)).bind fun t201 => (if t201.toList = ([110, 101] : List UInt8) then ((flow_Rule.f kj3 y176 y185 0).bind fun bt202 => (if (bt202.1 == ((rd_T36 t189 4).f0) && (bt202.2.1 == ((rd_T36 t189 4).f1) && (bt202.2.2 == ((rd_T36 t189 4).f2)))) = true then (if 0 < (t195.length : Int) then ((flow_Text.f kj3 ((rd_T36 t195 0).f0) ((rd_T36 t195 0).f1) ((rd_T36 t195 0).f2)).bind fun t207 => (if t207.toList = ([101, 102] : List UInt8) then (if 1 < (t195.length : Int) then ((flow_Text.f kj3 ((rd_T36 t195 1).f0) ((rd_T36 t195 1).f1) ((rd_T36 t195 1).f2)).bind fun t209 => (some (t209.toList == ([45] : List UInt8)))) else (none)) else (some false))) else (none)) else (some false))) else (some false))) else (none)) else (some false)) = some r := H
      have A32 := Aside0.mk A320
      clear A320
      by_cases c33 : t199.toList = ([101, 102] : List UInt8)
      ·
       rw [if_pos c33] at H
       have c33b0 : (t199.toList == ([101, 102] : List UInt8)) = true := beq_iff_eq.mpr c33
       have c33b1 : (t199.toList != ([101, 102] : List UInt8)) = false := bne_eq_false_iff_eq.mpr c33
       clear c33
       by_cases c34 : 4 < (t189.length : Int)
       ·
        rw [if_pos c34] at H
        have c34b0 : decide (4 < (t189.length : Int)) = true := decide_eq_true c34
        have c34b1 : decide (4 < t189.length) = true := decide_eq_true (by omega)
        clear c34
        replace H := Option.bind_eq_some_iff.mp H
        obtain ⟨t201, A350, H⟩ := H
        replace H : (if t201.toList = ([110, 101] : List UInt8) then ((flow_Rule.f kj3 y176 y185 0).bind fun bt202 => (if (bt202.1 == ((rd_T36 t189 4).f0) && (bt202.2.1 == ((rd_T36 t189 4).f1) && (bt202.2.2 == ((rd_T36 t189 4).f2)))) = true then (if 0 < (t195.length : Int) then ((flow_Text.f kj3 ((rd_T36 t195 0).f0) ((rd_T36 t195 0).f1) ((rd_T36 t195 0).f2)).bind fun t207 => (if t207.toList = ([101, 102] : List UInt8) then (if 1 < (t195.length : Int) then ((flow_Text.f kj3 ((rd_T36 t195 1).f0) ((rd_T36 t195 1).f1) ((rd_T36 t195 1).f2)).bind fun t209 => (some (t209.toList == ([45] : List UInt8)))) else (none)) else (some false))) else (none)) else (some false))) else (some false)) = some r := H
        have A35 := Aside0.mk A350
        clear A350
        by_cases c36 : t201.toList = ([110, 101] : List UInt8)
        ·
         rw [if_pos c36] at H
         have c36b0 : (t201.toList == ([110, 101] : List UInt8)) = true := beq_iff_eq.mpr c36
         have c36b1 : (t201.toList != ([110, 101] : List UInt8)) = false := bne_eq_false_iff_eq.mpr c36
         clear c36
         replace H := Option.bind_eq_some_iff.mp H
         obtain ⟨⟨t202, t203, t204⟩, A370, H⟩ := H
         replace H : (if (t202 == ((rd_T36 t189 4).f0) && (t203 == ((rd_T36 t189 4).f1) && (t204 == ((rd_T36 t189 4).f2)))) = true then (if 0 < (t195.length : Int) then ((flow_Text.f kj3 ((rd_T36 t195 0).f0) ((rd_T36 t195 0).f1) ((rd_T36 t195 0).f2)).bind fun t207 => (if t207.toList = ([101, 102] : List UInt8) then (if 1 < (t195.length : Int) then ((flow_Text.f kj3 ((rd_T36 t195 1).f0) ((rd_T36 t195 1).f1) ((rd_T36 t195 1).f2)).bind fun t209 => (some (t209.toList == ([45] : List UInt8)))) else (none)) else (some false))) else (none)) else (some false)) = some r := H
         have A37 := Aside0.mk A370
         clear A370
         by_cases c38 : (t202 == ((rd_T36 t189 4).f0) && (t203 == ((rd_T36 t189 4).f1) && (t204 == ((rd_T36 t189 4).f2)))) = true
         ·
          rw [if_pos c38] at H
          have c38b0 : (t202 == ((rd_T36 t189 4).f0) && (t203 == ((rd_T36 t189 4).f1) && (t204 == ((rd_T36 t189 4).f2)))) = true := c38
          (try (have c38b1 : decide (t202 = ((rd_T36 t189 4).f0) && (t203 == ((rd_T36 t189 4).f1) && (t204 == ((rd_T36 t189 4).f2)))) = true := by simpa using c38))
          (try (have c38b2 : (t202 == ((rd_T36 t189 4).f0) && (t203 == ((rd_T36 t189 4).f1) && (t204 == ((rd_T36 t189 4).f2)))) = true := by simpa using c38))
          clear c38
          by_cases c39 : 0 < (t195.length : Int)
          ·
           rw [if_pos c39] at H
           have c39b0 : decide (0 < (t195.length : Int)) = true := decide_eq_true c39
           have c39b1 : decide (0 < t195.length) = true := decide_eq_true (by omega)
           clear c39
           replace H := Option.bind_eq_some_iff.mp H
           obtain ⟨t207, A400, H⟩ := H
           replace H : (if t207.toList = ([101, 102] : List UInt8) then (if 1 < (t195.length : Int) then ((flow_Text.f kj3 ((rd_T36 t195 1).f0) ((rd_T36 t195 1).f1) ((rd_T36 t195 1).f2)).bind fun t209 => (some (t209.toList == ([45] : List UInt8)))) else (none)) else (some false)) = some r := H
           have A40 := Aside0.mk A400
           clear A400
           by_cases c41 : t207.toList = ([101, 102] : List UInt8)
           ·
            rw [if_pos c41] at H
            have c41b0 : (t207.toList == ([101, 102] : List UInt8)) = true := beq_iff_eq.mpr c41
            have c41b1 : (t207.toList != ([101, 102] : List UInt8)) = false := bne_eq_false_iff_eq.mpr c41
            clear c41
            by_cases c42 : 1 < (t195.length : Int)
            ·
             rw [if_pos c42] at H
             have c42b0 : decide (1 < (t195.length : Int)) = true := decide_eq_true c42
             have c42b1 : decide (1 < t195.length) = true := decide_eq_true (by omega)
             clear c42
             replace H := Option.bind_eq_some_iff.mp H
             obtain ⟨t209, A430, H⟩ := H
             replace H : (some (t209.toList == ([45] : List UInt8))) = some r := H
             have A43 := Aside0.mk A430
             clear A430
             obtain rfl := Option.some.inj H
             try go_wp2
             have n0_ := Aside0.mk (Kd.R_drew HO_2.out)
             have n1_ := Aside0.mk (Kd.R_drew HO_3.out)
             have n2_ := Aside0.mk (Kd.R_drew HO_189000.out)
             have n3_ := Aside0.mk (Kd.N_drew HO_189001.out)
             have n4_ := Aside0.mk (blk_drew BK188.out)
             have n5_ := Aside0.mk (below_drew1 HB.out)
             clear HO_2
             clear HO_3
             clear HO_189000
             clear HO_189001
             clear BK188
             clear HB
             have HO_2 := n0_
             have HO_3 := n1_
             have HO_189000 := n2_
             have HO_189001 := n3_
             have BK188 := n4_
             have HB := n5_
             clear n0_ n1_ n2_ n3_ n4_ n5_
             obtain ⟨Ao45, co45, eo45⟩ := Kd.R_slice HO_2.out
             (first | subst eo45 | (injection eo45 with f1_ f2_ f3_; have f4_ := f1_.symm; have f5_ := f3_.symm; clear f1_ f2_ f3_; subst f4_; subst f5_))
             have p198 : 0 ≤ (2 : Int) := (by omega)
             have q198 : 2 < (t189.length : Int) := of_decide_eq_true (by first | (with_reducible assumption) | assumption)
             obtain ⟨ad198, e198, hx198_0, hx198_1, hx198_2⟩ := at_T36 (Kd.R_reads' HO_2.out).2.2 2 p198 q198
             cases e198
             (try simp only [show (2 : Int).toNat = 2 from rfl, Nat.reduceMul, Nat.reduceEqDiff, Go.Addr.add, ↓reduceIte] at hx198_0)
             (try simp only [show (2 : Int).toNat = 2 from rfl, Nat.reduceMul, Nat.reduceEqDiff, Go.Addr.add, ↓reduceIte] at hx198_1)
             (try simp only [show (2 : Int).toNat = 2 from rfl, Nat.reduceMul, Nat.reduceEqDiff, Go.Addr.add, ↓reduceIte] at hx198_2)
             have qi198 : (2 < t189.length) = True := eq_true (by omega)
             (try rw [show ((2 : Int)).toNat = 2 from rfl] at hx198_0)
             (try rw [show 2 * 3 = 6 from rfl] at hx198_0)
             (try rw [show ((2 : Int)).toNat = 2 from rfl] at hx198_1)
             (try rw [show 2 * 3 = 6 from rfl] at hx198_1)
             (try rw [show ((2 : Int)).toNat = 2 from rfl] at hx198_2)
             (try rw [show 2 * 3 = 6 from rfl] at hx198_2)
             replace p198 := eq_true p198
             replace q198 := eq_true q198
             have p200 : 0 ≤ (4 : Int) := (by omega)
             have q200 : 4 < (t189.length : Int) := of_decide_eq_true (by first | (with_reducible assumption) | assumption)
             obtain ⟨ad200, e200, hx200_0, hx200_1, hx200_2⟩ := at_T36 (Kd.R_reads' HO_2.out).2.2 4 p200 q200
             obtain rfl : ad198 = ad200 := (by injection e200)
             (try simp only [show (4 : Int).toNat = 4 from rfl, Nat.reduceMul, Nat.reduceEqDiff, Go.Addr.add, ↓reduceIte] at hx200_0)
             (try simp only [show (4 : Int).toNat = 4 from rfl, Nat.reduceMul, Nat.reduceEqDiff, Go.Addr.add, ↓reduceIte] at hx200_1)
             (try simp only [show (4 : Int).toNat = 4 from rfl, Nat.reduceMul, Nat.reduceEqDiff, Go.Addr.add, ↓reduceIte] at hx200_2)
             have qi200 : (4 < t189.length) = True := eq_true (by omega)
             (try rw [show ((4 : Int)).toNat = 4 from rfl] at hx200_0)
             (try rw [show 4 * 3 = 12 from rfl] at hx200_0)
             (try rw [show ((4 : Int)).toNat = 4 from rfl] at hx200_1)
             (try rw [show 4 * 3 = 12 from rfl] at hx200_1)
             (try rw [show ((4 : Int)).toNat = 4 from rfl] at hx200_2)
             (try rw [show 4 * 3 = 12 from rfl] at hx200_2)
             replace p200 := eq_true p200
             replace q200 := eq_true q200
             have p205 : 0 ≤ (4 : Int) := (by omega)
             have q205 : 4 < (t189.length : Int) := of_decide_eq_true (by first | (with_reducible assumption) | assumption)
             obtain ⟨ad205, e205, hx205_0, hx205_1, hx205_2⟩ := at_T36 (Kd.R_reads' HO_2.out).2.2 4 p205 q205
             obtain rfl : ad198 = ad205 := (by injection e205)
             (try simp only [show (4 : Int).toNat = 4 from rfl, Nat.reduceMul, Nat.reduceEqDiff, Go.Addr.add, ↓reduceIte] at hx205_0)
             (try simp only [show (4 : Int).toNat = 4 from rfl, Nat.reduceMul, Nat.reduceEqDiff, Go.Addr.add, ↓reduceIte] at hx205_1)
             (try simp only [show (4 : Int).toNat = 4 from rfl, Nat.reduceMul, Nat.reduceEqDiff, Go.Addr.add, ↓reduceIte] at hx205_2)
             have qi205 : (4 < t189.length) = True := eq_true (by omega)
             (try rw [show ((4 : Int)).toNat = 4 from rfl] at hx205_0)
             (try rw [show 4 * 3 = 12 from rfl] at hx205_0)
             (try rw [show ((4 : Int)).toNat = 4 from rfl] at hx205_1)
             (try rw [show 4 * 3 = 12 from rfl] at hx205_1)
             (try rw [show ((4 : Int)).toNat = 4 from rfl] at hx205_2)
             (try rw [show 4 * 3 = 12 from rfl] at hx205_2)
             replace p205 := eq_true p205
             replace q205 := eq_true q205
             (obtain ⟨Ao_, co_, eo_⟩ := Kd.R_slice HO_3.out; first | subst eo_ | skip)
             have p206 : 0 ≤ (0 : Int) := (by omega)
             have q206 : 0 < (t195.length : Int) := of_decide_eq_true (by first | (with_reducible assumption) | assumption)
             obtain ⟨ad206, e206, hx206_0, hx206_1, hx206_2⟩ := at_T36 (Kd.R_reads' HO_3.out).2.2 0 p206 q206
             cases e206
             have qi206 : (0 < t195.length) = True := eq_true (by omega)
             (try rw [show ((0 : Int)).toNat = 0 from rfl] at hx206_0)
             (try rw [show 0 * 3 = 0 from rfl] at hx206_0)
             (try rw [Addr.add_zero'] at hx206_0)
             (try rw [show ((0 : Int)).toNat = 0 from rfl] at hx206_1)
             (try rw [show 0 * 3 = 0 from rfl] at hx206_1)
             (try rw [Addr.add_zero'] at hx206_1)
             (try rw [show ((0 : Int)).toNat = 0 from rfl] at hx206_2)
             (try rw [show 0 * 3 = 0 from rfl] at hx206_2)
             (try rw [Addr.add_zero'] at hx206_2)
             replace p206 := eq_true p206
             replace q206 := eq_true q206
             have p208 : 0 ≤ (1 : Int) := (by omega)
             have q208 : 1 < (t195.length : Int) := of_decide_eq_true (by first | (with_reducible assumption) | assumption)
             obtain ⟨ad208, e208, hx208_0, hx208_1, hx208_2⟩ := at_T36 (Kd.R_reads' HO_3.out).2.2 1 p208 q208
             obtain rfl : ad206 = ad208 := (by injection e208)
             (try simp only [show (1 : Int).toNat = 1 from rfl, Nat.reduceMul, Nat.reduceEqDiff, Go.Addr.add, ↓reduceIte] at hx208_0)
             (try simp only [show (1 : Int).toNat = 1 from rfl, Nat.reduceMul, Nat.reduceEqDiff, Go.Addr.add, ↓reduceIte] at hx208_1)
             (try simp only [show (1 : Int).toNat = 1 from rfl, Nat.reduceMul, Nat.reduceEqDiff, Go.Addr.add, ↓reduceIte] at hx208_2)
             have qi208 : (1 < t195.length) = True := eq_true (by omega)
             (try rw [show ((1 : Int)).toNat = 1 from rfl] at hx208_0)
             (try rw [show 1 * 3 = 3 from rfl] at hx208_0)
             (try rw [show ((1 : Int)).toNat = 1 from rfl] at hx208_1)
             (try rw [show 1 * 3 = 3 from rfl] at hx208_1)
             (try rw [show ((1 : Int)).toNat = 1 from rfl] at hx208_2)
             (try rw [show 1 * 3 = 3 from rfl] at hx208_2)
             replace p208 := eq_true p208
             replace q208 := eq_true q208
             refine start_ (n := 35) (S := fun w' => w'.cell? ⟨gb188, 0, none⟩ = some (.slice Ao16 y176.length co16) ∧ w'.cell? ⟨gb188, 1, none⟩ = some (.slice Ao15 y185.length co15) ∧ w'.cell? ⟨ad198.block, ad198.off + 6, none⟩ = some (.bool ((rd_T36 t189 2).f0)) ∧ w'.cell? ⟨ad198.block, ad198.off + 6 + 1, none⟩ = some (.bool ((rd_T36 t189 2).f1)) ∧ w'.cell? ⟨ad198.block, ad198.off + 6 + 2, none⟩ = some (.bool ((rd_T36 t189 2).f2)) ∧ w'.cell? ⟨ad198.block, ad198.off + 12, none⟩ = some (.bool ((rd_T36 t189 4).f0)) ∧ w'.cell? ⟨ad198.block, ad198.off + 12 + 1, none⟩ = some (.bool ((rd_T36 t189 4).f1)) ∧ w'.cell? ⟨ad198.block, ad198.off + 12 + 2, none⟩ = some (.bool ((rd_T36 t189 4).f2)) ∧ w'.cell? ⟨ad198.block, ad198.off + 12, none⟩ = some (.bool ((rd_T36 t189 4).f0)) ∧ w'.cell? ⟨ad198.block, ad198.off + 12 + 1, none⟩ = some (.bool ((rd_T36 t189 4).f1)) ∧ w'.cell? ⟨ad198.block, ad198.off + 12 + 2, none⟩ = some (.bool ((rd_T36 t189 4).f2)) ∧ w'.cell? ad206 = some (.bool ((rd_T36 t195 0).f0)) ∧ w'.cell? ⟨ad206.block, ad206.off + 1, none⟩ = some (.bool ((rd_T36 t195 0).f1)) ∧ w'.cell? ⟨ad206.block, ad206.off + 2, none⟩ = some (.bool ((rd_T36 t195 0).f2)) ∧ w'.cell? ⟨ad206.block, ad206.off + 3, none⟩ = some (.bool ((rd_T36 t195 1).f0)) ∧ w'.cell? ⟨ad206.block, ad206.off + 3 + 1, none⟩ = some (.bool ((rd_T36 t195 1).f1)) ∧ w'.cell? ⟨ad206.block, ad206.off + 3 + 2, none⟩ = some (.bool ((rd_T36 t195 1).f2))) (ds := []) QB55_0 (by kernel_rfl) rfl rfl ⟨(blk_cell BK188.out 0).trans rfl, (blk_cell BK188.out 1).trans rfl, hx198_0, hx198_1, hx198_2, hx200_0, hx200_1, hx200_2, hx205_0, hx205_1, hx205_2, hx206_0, hx206_1, hx206_2, hx208_0, hx208_1, hx208_2⟩ (fun hHeld => ?_); refine with_tabW vetchlaw11_awake.tab6 vetchlaw11_awake.bits6 (fun HT_ HW_ => ?_)
             generalize wc.drew = w44 at HO_2 HO_3 HO_189000 HO_189001 BK188 HB hx198_0 hx198_1 hx198_2 hx200_0 hx200_1 hx200_2 hx205_0 hx205_1 hx205_2 hx206_0 hx206_1 hx206_2 hx208_0 hx208_1 hx208_2 hHeld ⊢
             refine pure_ (i := 0) (N := some 29) (v := ?_) (a' := ?_) QB55_1 rfl rfl (any_of HT_.out (by kernel_rfl)) (fun _ _ _ h => h) (Or.inl ⟨by rfl, ?_⟩) ?_ ?_
             rotate_left
             ·
              intro w'
              go_simp
              with_reducible rfl
             rotate_left
             ·
              simp only [Act.put, List.setIfInBounds_toArray, List.set_cons_zero, List.set_cons_succ, i64_w, i32_w]
              rfl
             refine pure_ (i := 1) (N := some 30) (v := ?_) (a' := ?_) QB55_2 rfl rfl (any_of HT_.out (by kernel_rfl)) (fun _ _ _ h => h) (Or.inl ⟨by rfl, ?_⟩) ?_ ?_
             rotate_left
             ·
              intro w'
              go_simp
              with_reducible rfl
             rotate_left
             ·
              simp only [Act.put, List.setIfInBounds_toArray, List.set_cons_zero, List.set_cons_succ, i64_w, i32_w]
              rfl
             refine take_ (i := 2) (N := some 31) (v := ?_) (a' := ?_) QB55_3 rfl rfl (take_ofW HT_.out HW_.out (by kernel_rfl)) (fun _ _ _ h => h) (Or.inl ⟨by rfl, ?_⟩) hHeld ?_ ?_
             rotate_left
             ·
              rintro w' ⟨s0, s1, s2, s3, s4, s5, s6, s7, s8, s9, s10, s11, s12, s13, s14, s15, s16⟩
              go_simp
              with_reducible rfl
             rotate_left
             ·
              simp only [Act.put, List.setIfInBounds_toArray, List.set_cons_zero, List.set_cons_succ, i64_w, i32_w]
              rfl
             refine one_ (i := 3) (N := some 32) QB55_4 rfl rfl (one_of HT_.out (by kernel_rfl)) (by decide) (fun K hK => ?_)
             refine goes_ Try.func19 (by kernel_rfl) rfl #[.agg #[.bool ((rd_T36 t189 2).f0), .bool ((rd_T36 t189 2).f1), .bool ((rd_T36 t189 2).f2)]] (by rfl) rfl rfl (by (try simp only [List.map_toArray, List.map_cons, List.map_nil]); first | done | rfl | (simp only [List.length_drop, List.length_take]; rfl)) ?_
             with_reducible refine (flow_Text.calls kj3 ((rd_T36 t189 2).f0) ((rd_T36 t189 2).f1) ((rd_T36 t189 2).f2) t199 _ A32.out).mono ?_
             rintro e w46 ⟨rfl, hb⟩
             have HS2_ := (hb.cell (World.block_lt_of_cell? _ _ (hHeld.2.2.1))).trans (hHeld.2.2.1)
             have HS3_ := (hb.cell (World.block_lt_of_cell? _ _ (hHeld.2.2.2.1))).trans (hHeld.2.2.2.1)
             have HS4_ := (hb.cell (World.block_lt_of_cell? _ _ (hHeld.2.2.2.2.1))).trans (hHeld.2.2.2.2.1)
             have HS5_ := (hb.cell (World.block_lt_of_cell? _ _ (hHeld.2.2.2.2.2.1))).trans (hHeld.2.2.2.2.2.1)
             have HS6_ := (hb.cell (World.block_lt_of_cell? _ _ (hHeld.2.2.2.2.2.2.1))).trans (hHeld.2.2.2.2.2.2.1)
             have HS7_ := (hb.cell (World.block_lt_of_cell? _ _ (hHeld.2.2.2.2.2.2.2.1))).trans (hHeld.2.2.2.2.2.2.2.1)
             have HS8_ := (hb.cell (World.block_lt_of_cell? _ _ (hHeld.2.2.2.2.2.2.2.2.1))).trans (hHeld.2.2.2.2.2.2.2.2.1)
             have HS9_ := (hb.cell (World.block_lt_of_cell? _ _ (hHeld.2.2.2.2.2.2.2.2.2.1))).trans (hHeld.2.2.2.2.2.2.2.2.2.1)
             have HS10_ := (hb.cell (World.block_lt_of_cell? _ _ (hHeld.2.2.2.2.2.2.2.2.2.2.1))).trans (hHeld.2.2.2.2.2.2.2.2.2.2.1)
             have HS11_ := (hb.cell (World.block_lt_of_cell? _ _ (hHeld.2.2.2.2.2.2.2.2.2.2.2.1))).trans (hHeld.2.2.2.2.2.2.2.2.2.2.2.1)
             have HS12_ := (hb.cell (World.block_lt_of_cell? _ _ (hHeld.2.2.2.2.2.2.2.2.2.2.2.2.1))).trans (hHeld.2.2.2.2.2.2.2.2.2.2.2.2.1)
             have HS13_ := (hb.cell (World.block_lt_of_cell? _ _ (hHeld.2.2.2.2.2.2.2.2.2.2.2.2.2.1))).trans (hHeld.2.2.2.2.2.2.2.2.2.2.2.2.2.1)
             have HS14_ := (hb.cell (World.block_lt_of_cell? _ _ (hHeld.2.2.2.2.2.2.2.2.2.2.2.2.2.2.1))).trans (hHeld.2.2.2.2.2.2.2.2.2.2.2.2.2.2.1)
             have HS15_ := (hb.cell (World.block_lt_of_cell? _ _ (hHeld.2.2.2.2.2.2.2.2.2.2.2.2.2.2.2.1))).trans (hHeld.2.2.2.2.2.2.2.2.2.2.2.2.2.2.2.1)
             have HS16_ := (hb.cell (World.block_lt_of_cell? _ _ (hHeld.2.2.2.2.2.2.2.2.2.2.2.2.2.2.2.2))).trans (hHeld.2.2.2.2.2.2.2.2.2.2.2.2.2.2.2.2)
             refine ⟨_, rfl, ?_⟩
             have n0_ := Aside0.mk (Kd.R_below (by (with_reducible repeat (first | apply Kd.R_alloc | apply Kd.R_drewN | apply Kd.R_drew)); exact HO_2.out) hb)
             have n1_ := Aside0.mk (Kd.R_below (by (with_reducible repeat (first | apply Kd.R_alloc | apply Kd.R_drewN | apply Kd.R_drew)); exact HO_3.out) hb)
             have n2_ := Aside0.mk (Kd.R_below (by (with_reducible repeat (first | apply Kd.R_alloc | apply Kd.R_drewN | apply Kd.R_drew)); exact HO_189000.out) hb)
             have n3_ := Aside0.mk (Kd.N_below (by (with_reducible repeat (first | apply Kd.N_alloc | apply Kd.N_drewN | apply Kd.N_drew)); exact HO_189001.out) hb)
             have n4_ := Aside0.mk (blk_below (g := gb188) (o := .cells #[.slice Ao16 y176.length co16, .slice Ao15 y185.length co15] 25 (0, 0)) (by (with_reducible repeat (first | refine blk_drewN ?_ _ | refine blk_drew ?_ | refine blk_alloc ?_ _)); exact BK188.out) hb)
             have n5_ := Aside0.mk (below_step (by repeat (first | (with_reducible first | exact HB.out | apply below_alloc | apply pw_below_drewN | apply below_drew1 | refine below_set ?_ GE188.out) | exact HB.out)) hb)
             clear HO_2
             clear HO_3
             clear HO_189000
             clear HO_189001
             clear BK188
             clear HB
             have HO_2 := n0_
             have HO_3 := n1_
             have HO_189000 := n2_
             have HO_189001 := n3_
             have BK188 := n4_
             have HB := n5_
             clear n0_ n1_ n2_ n3_ n4_ n5_
             (try clear hb)
             (try clear hb2)
             (try clear hk)
             (try clear hi)
             refine hK.out _ _ ⟨(blk_cell BK188.out 0).trans rfl, (blk_cell BK188.out 1).trans rfl, HS2_, HS3_, HS4_, HS5_, HS6_, HS7_, HS8_, HS9_, HS10_, HS11_, HS12_, HS13_, HS14_, HS15_, HS16_⟩ (fun hHeld => ?_)
             clear hK K
             refine norm_ (a' := ?_) ?_ ?_
             rotate_left
             ·
              show Act.put _ (some 32) _ = _
              simp only [Act.put, List.setIfInBounds_toArray, List.set_cons_zero, List.set_cons_succ, i64_w, i32_w]
              rfl
             refine pure_ (i := 4) (N := some 33) (v := ?_) (a' := ?_) QB55_5 rfl rfl (any_of HT_.out (by kernel_rfl)) (fun _ _ _ h => h) (Or.inl ⟨by rfl, ?_⟩) ?_ ?_
             rotate_left
             ·
              intro w'
              go_simp
              with_reducible rfl
             rotate_left
             ·
              simp only [Act.put, List.setIfInBounds_toArray, List.set_cons_zero, List.set_cons_succ, i64_w, i32_w]
              rfl
             refine pure_ (i := 5) (N := some 34) (v := ?_) (a' := ?_) QB55_6 rfl rfl (any_of HT_.out (by kernel_rfl)) (fun _ _ _ h => h) (Or.inl ⟨by rfl, ?_⟩) ?_ ?_
             rotate_left
             ·
              intro w'
              go_simp
              with_reducible rfl
             rotate_left
             ·
              simp only [Act.put, List.setIfInBounds_toArray, List.set_cons_zero, List.set_cons_succ, i64_w, i32_w]
              rfl
             refine pure_ (i := 6) (N := some 35) (v := ?_) (a' := ?_) QB55_7 rfl rfl (any_of HT_.out (by kernel_rfl)) (fun _ _ _ h => h) (Or.inl ⟨by rfl, ?_⟩) ?_ ?_
             rotate_left
             ·
              intro w'
              go_simp
              with_reducible rfl
             rotate_left
             ·
              simp only [Act.put, List.setIfInBounds_toArray, List.set_cons_zero, List.set_cons_succ, i64_w, i32_w]
              rfl
             refine pure_ (i := 7) (N := some 36) (v := ?_) (a' := ?_) QB55_8 rfl rfl (any_of HT_.out (by kernel_rfl)) (fun _ _ _ h => h) (Or.inl ⟨by rfl, ?_⟩) ?_ ?_
             rotate_left
             ·
              intro w'
              go_simp
              with_reducible rfl
             rotate_left
             ·
              simp only [Act.put, List.setIfInBounds_toArray, List.set_cons_zero, List.set_cons_succ, i64_w, i32_w]
              rfl
             refine take_ (i := 8) (N := some 37) (v := ?_) (a' := ?_) QB55_9 rfl rfl (take_ofW HT_.out HW_.out (by kernel_rfl)) (fun _ _ _ h => h) (Or.inl ⟨by rfl, ?_⟩) hHeld ?_ ?_
             rotate_left
             ·
              rintro w' ⟨s0, s1, s2, s3, s4, s5, s6, s7, s8, s9, s10, s11, s12, s13, s14, s15, s16⟩
              go_simp
              with_reducible rfl
             rotate_left
             ·
              simp only [Act.put, List.setIfInBounds_toArray, List.set_cons_zero, List.set_cons_succ, i64_w, i32_w]
              rfl
             refine one_ (i := 9) (N := some 38) QB55_10 rfl rfl (one_of HT_.out (by kernel_rfl)) (by decide) (fun K hK => ?_)
             refine goes_ Try.func19 (by kernel_rfl) rfl #[.agg #[.bool ((rd_T36 t189 4).f0), .bool ((rd_T36 t189 4).f1), .bool ((rd_T36 t189 4).f2)]] (by rfl) rfl rfl (by (try simp only [List.map_toArray, List.map_cons, List.map_nil]); first | done | rfl | (simp only [List.length_drop, List.length_take]; rfl)) ?_
             with_reducible refine (flow_Text.calls kj3 ((rd_T36 t189 4).f0) ((rd_T36 t189 4).f1) ((rd_T36 t189 4).f2) t201 _ A35.out).mono ?_
             rintro e w47 ⟨rfl, hb⟩
             have HS2_ := (hb.cell (World.block_lt_of_cell? _ _ (hHeld.2.2.1))).trans (hHeld.2.2.1)
             have HS3_ := (hb.cell (World.block_lt_of_cell? _ _ (hHeld.2.2.2.1))).trans (hHeld.2.2.2.1)
             have HS4_ := (hb.cell (World.block_lt_of_cell? _ _ (hHeld.2.2.2.2.1))).trans (hHeld.2.2.2.2.1)
             have HS5_ := (hb.cell (World.block_lt_of_cell? _ _ (hHeld.2.2.2.2.2.1))).trans (hHeld.2.2.2.2.2.1)
             have HS6_ := (hb.cell (World.block_lt_of_cell? _ _ (hHeld.2.2.2.2.2.2.1))).trans (hHeld.2.2.2.2.2.2.1)
             have HS7_ := (hb.cell (World.block_lt_of_cell? _ _ (hHeld.2.2.2.2.2.2.2.1))).trans (hHeld.2.2.2.2.2.2.2.1)
             have HS8_ := (hb.cell (World.block_lt_of_cell? _ _ (hHeld.2.2.2.2.2.2.2.2.1))).trans (hHeld.2.2.2.2.2.2.2.2.1)
             have HS9_ := (hb.cell (World.block_lt_of_cell? _ _ (hHeld.2.2.2.2.2.2.2.2.2.1))).trans (hHeld.2.2.2.2.2.2.2.2.2.1)
             have HS10_ := (hb.cell (World.block_lt_of_cell? _ _ (hHeld.2.2.2.2.2.2.2.2.2.2.1))).trans (hHeld.2.2.2.2.2.2.2.2.2.2.1)
             have HS11_ := (hb.cell (World.block_lt_of_cell? _ _ (hHeld.2.2.2.2.2.2.2.2.2.2.2.1))).trans (hHeld.2.2.2.2.2.2.2.2.2.2.2.1)
             have HS12_ := (hb.cell (World.block_lt_of_cell? _ _ (hHeld.2.2.2.2.2.2.2.2.2.2.2.2.1))).trans (hHeld.2.2.2.2.2.2.2.2.2.2.2.2.1)
             have HS13_ := (hb.cell (World.block_lt_of_cell? _ _ (hHeld.2.2.2.2.2.2.2.2.2.2.2.2.2.1))).trans (hHeld.2.2.2.2.2.2.2.2.2.2.2.2.2.1)
             have HS14_ := (hb.cell (World.block_lt_of_cell? _ _ (hHeld.2.2.2.2.2.2.2.2.2.2.2.2.2.2.1))).trans (hHeld.2.2.2.2.2.2.2.2.2.2.2.2.2.2.1)
             have HS15_ := (hb.cell (World.block_lt_of_cell? _ _ (hHeld.2.2.2.2.2.2.2.2.2.2.2.2.2.2.2.1))).trans (hHeld.2.2.2.2.2.2.2.2.2.2.2.2.2.2.2.1)
             have HS16_ := (hb.cell (World.block_lt_of_cell? _ _ (hHeld.2.2.2.2.2.2.2.2.2.2.2.2.2.2.2.2))).trans (hHeld.2.2.2.2.2.2.2.2.2.2.2.2.2.2.2.2)
             refine ⟨_, rfl, ?_⟩
             have n0_ := Aside0.mk (Kd.R_below (by (with_reducible repeat (first | apply Kd.R_alloc | apply Kd.R_drewN | apply Kd.R_drew)); exact HO_2.out) hb)
             have n1_ := Aside0.mk (Kd.R_below (by (with_reducible repeat (first | apply Kd.R_alloc | apply Kd.R_drewN | apply Kd.R_drew)); exact HO_3.out) hb)
             have n2_ := Aside0.mk (Kd.R_below (by (with_reducible repeat (first | apply Kd.R_alloc | apply Kd.R_drewN | apply Kd.R_drew)); exact HO_189000.out) hb)
             have n3_ := Aside0.mk (Kd.N_below (by (with_reducible repeat (first | apply Kd.N_alloc | apply Kd.N_drewN | apply Kd.N_drew)); exact HO_189001.out) hb)
             have n4_ := Aside0.mk (blk_below (g := gb188) (o := .cells #[.slice Ao16 y176.length co16, .slice Ao15 y185.length co15] 25 (0, 0)) (by (with_reducible repeat (first | refine blk_drewN ?_ _ | refine blk_drew ?_ | refine blk_alloc ?_ _)); exact BK188.out) hb)
             have n5_ := Aside0.mk (below_step (by repeat (first | (with_reducible first | exact HB.out | apply below_alloc | apply pw_below_drewN | apply below_drew1 | refine below_set ?_ GE188.out) | exact HB.out)) hb)
             clear HO_2
             clear HO_3
             clear HO_189000
             clear HO_189001
             clear BK188
             clear HB
             have HO_2 := n0_
             have HO_3 := n1_
             have HO_189000 := n2_
             have HO_189001 := n3_
             have BK188 := n4_
             have HB := n5_
             clear n0_ n1_ n2_ n3_ n4_ n5_
             (try clear hb)
             (try clear hb2)
             (try clear hk)
             (try clear hi)
             refine hK.out _ _ ⟨(blk_cell BK188.out 0).trans rfl, (blk_cell BK188.out 1).trans rfl, HS2_, HS3_, HS4_, HS5_, HS6_, HS7_, HS8_, HS9_, HS10_, HS11_, HS12_, HS13_, HS14_, HS15_, HS16_⟩ (fun hHeld => ?_)
             clear hK K
             refine norm_ (a' := ?_) ?_ ?_
             rotate_left
             ·
              show Act.put _ (some 38) _ = _
              simp only [Act.put, List.setIfInBounds_toArray, List.set_cons_zero, List.set_cons_succ, i64_w, i32_w]
              rfl
             refine pure_ (i := 10) (N := some 39) (v := ?_) (a' := ?_) QB55_11 rfl rfl (any_of HT_.out (by kernel_rfl)) (fun _ _ _ h => h) (Or.inl ⟨by rfl, ?_⟩) ?_ ?_
             rotate_left
             ·
              intro w'
              go_simp
              with_reducible rfl
             rotate_left
             ·
              simp only [Act.put, List.setIfInBounds_toArray, List.set_cons_zero, List.set_cons_succ, i64_w, i32_w]
              rfl
             refine pure_ (i := 11) (N := some 40) (v := ?_) (a' := ?_) QB55_12 rfl rfl (any_of HT_.out (by kernel_rfl)) (fun _ _ _ h => h) (Or.inl ⟨by rfl, ?_⟩) ?_ ?_
             rotate_left
             ·
              intro w'
              go_simp
              with_reducible rfl
             rotate_left
             ·
              simp only [Act.put, List.setIfInBounds_toArray, List.set_cons_zero, List.set_cons_succ, i64_w, i32_w]
              rfl
             refine pure_ (i := 12) (N := some 41) (v := ?_) (a' := ?_) QB55_13 rfl rfl (any_of HT_.out (by kernel_rfl)) (fun _ _ _ h => h) (Or.inl ⟨by rfl, ?_⟩) ?_ ?_
             rotate_left
             ·
              intro w'
              go_simp
              with_reducible rfl
             rotate_left
             ·
              simp only [Act.put, List.setIfInBounds_toArray, List.set_cons_zero, List.set_cons_succ, i64_w, i32_w]
              rfl
             refine pure_ (i := 15) (N := some 44) (v := ?_) (a' := ?_) QB55_32 rfl rfl (any_of HT_.out (by kernel_rfl)) (fun _ _ _ h => h) (Or.inl ⟨by rfl, ?_⟩) ?_ ?_
             rotate_left
             ·
              intro w'
              go_simp
              with_reducible rfl
             rotate_left
             ·
              simp only [Act.put, List.setIfInBounds_toArray, List.set_cons_zero, List.set_cons_succ, i64_w, i32_w]
              rfl
             refine pure_ (i := 16) (N := some 45) (v := ?_) (a' := ?_) QB55_33 rfl rfl (any_of HT_.out (by kernel_rfl)) (fun _ _ _ h => h) (Or.inl ⟨by rfl, ?_⟩) ?_ ?_
             rotate_left
             ·
              intro w'
              go_simp
              with_reducible rfl
             rotate_left
             ·
              simp only [Act.put, List.setIfInBounds_toArray, List.set_cons_zero, List.set_cons_succ, i64_w, i32_w]
              rfl
             refine take_ (i := 13) (N := some 42) (v := ?_) (a' := ?_) QB55_34 rfl rfl (take_ofW HT_.out HW_.out (by kernel_rfl)) (fun _ _ _ h => h) (Or.inl ⟨by rfl, ?_⟩) hHeld ?_ ?_
             rotate_left
             ·
              rintro w' ⟨s0, s1, s2, s3, s4, s5, s6, s7, s8, s9, s10, s11, s12, s13, s14, s15, s16⟩
              go_simp
              with_reducible rfl
             rotate_left
             ·
              simp only [Act.put, List.setIfInBounds_toArray, List.set_cons_zero, List.set_cons_succ, i64_w, i32_w]
              rfl
             refine take_ (i := 17) (N := some 46) (v := ?_) (a' := ?_) QB55_35 rfl rfl (take_ofW HT_.out HW_.out (by kernel_rfl)) (fun _ _ _ h => h) (Or.inl ⟨by rfl, ?_⟩) hHeld ?_ ?_
             rotate_left
             ·
              rintro w' ⟨s0, s1, s2, s3, s4, s5, s6, s7, s8, s9, s10, s11, s12, s13, s14, s15, s16⟩
              go_simp
              with_reducible rfl
             rotate_left
             ·
              simp only [Act.put, List.setIfInBounds_toArray, List.set_cons_zero, List.set_cons_succ, i64_w, i32_w]
              rfl
             refine one_ (i := 14) (N := some 43) QB55_14 rfl rfl (one_of HT_.out (by kernel_rfl)) (by decide) (fun K hK => ?_)
             refine goes_ Try.func14 (by kernel_rfl) rfl #[.agg #[.slice Ao16 y176.length co16, .slice Ao15 y185.length co15], .int .i64 0] (by rfl) rfl rfl (by (try simp only [List.map_toArray, List.map_cons, List.map_nil]); first | done | rfl | (simp only [List.length_drop, List.length_take]; rfl)) ?_
             with_reducible refine (flow_Rule.calls kj3 _ _ y176 _ _ y185 0 t202 t203 t204 _ ?side1 ?side2 ?side3 ?side4 A37.out).mono ?_
             (case side1 => repeat (first | exact (Kd.R_reads' HO_189000.out).2.2 | (with_reducible refine Kd.C_alloc ?_ _) | (with_reducible refine Kd.C_drewN ?_ _) | (with_reducible refine Kd.C_drew ?_)))
             (case side2 => exact (Kd.R_reads' HO_189000.out).2.1)
             (case side3 => repeat (first | exact (Kd.N_reads' HO_189001.out).2.2 | (with_reducible refine Kd.C_alloc ?_ _) | (with_reducible refine Kd.C_drewN ?_ _) | (with_reducible refine Kd.C_drew ?_)))
             (case side4 => exact (Kd.N_reads' HO_189001.out).2.1)
             rintro e w48 ⟨rfl, hb⟩
             have HS2_ := (hb.cell (World.block_lt_of_cell? _ _ (hHeld.2.2.1))).trans (hHeld.2.2.1)
             have HS3_ := (hb.cell (World.block_lt_of_cell? _ _ (hHeld.2.2.2.1))).trans (hHeld.2.2.2.1)
             have HS4_ := (hb.cell (World.block_lt_of_cell? _ _ (hHeld.2.2.2.2.1))).trans (hHeld.2.2.2.2.1)
             have HS5_ := (hb.cell (World.block_lt_of_cell? _ _ (hHeld.2.2.2.2.2.1))).trans (hHeld.2.2.2.2.2.1)
             have HS6_ := (hb.cell (World.block_lt_of_cell? _ _ (hHeld.2.2.2.2.2.2.1))).trans (hHeld.2.2.2.2.2.2.1)
             have HS7_ := (hb.cell (World.block_lt_of_cell? _ _ (hHeld.2.2.2.2.2.2.2.1))).trans (hHeld.2.2.2.2.2.2.2.1)
             have HS8_ := (hb.cell (World.block_lt_of_cell? _ _ (hHeld.2.2.2.2.2.2.2.2.1))).trans (hHeld.2.2.2.2.2.2.2.2.1)
             have HS9_ := (hb.cell (World.block_lt_of_cell? _ _ (hHeld.2.2.2.2.2.2.2.2.2.1))).trans (hHeld.2.2.2.2.2.2.2.2.2.1)
             have HS10_ := (hb.cell (World.block_lt_of_cell? _ _ (hHeld.2.2.2.2.2.2.2.2.2.2.1))).trans (hHeld.2.2.2.2.2.2.2.2.2.2.1)
             have HS11_ := (hb.cell (World.block_lt_of_cell? _ _ (hHeld.2.2.2.2.2.2.2.2.2.2.2.1))).trans (hHeld.2.2.2.2.2.2.2.2.2.2.2.1)
             have HS12_ := (hb.cell (World.block_lt_of_cell? _ _ (hHeld.2.2.2.2.2.2.2.2.2.2.2.2.1))).trans (hHeld.2.2.2.2.2.2.2.2.2.2.2.2.1)
             have HS13_ := (hb.cell (World.block_lt_of_cell? _ _ (hHeld.2.2.2.2.2.2.2.2.2.2.2.2.2.1))).trans (hHeld.2.2.2.2.2.2.2.2.2.2.2.2.2.1)
             have HS14_ := (hb.cell (World.block_lt_of_cell? _ _ (hHeld.2.2.2.2.2.2.2.2.2.2.2.2.2.2.1))).trans (hHeld.2.2.2.2.2.2.2.2.2.2.2.2.2.2.1)
             have HS15_ := (hb.cell (World.block_lt_of_cell? _ _ (hHeld.2.2.2.2.2.2.2.2.2.2.2.2.2.2.2.1))).trans (hHeld.2.2.2.2.2.2.2.2.2.2.2.2.2.2.2.1)
             have HS16_ := (hb.cell (World.block_lt_of_cell? _ _ (hHeld.2.2.2.2.2.2.2.2.2.2.2.2.2.2.2.2))).trans (hHeld.2.2.2.2.2.2.2.2.2.2.2.2.2.2.2.2)
             refine ⟨_, rfl, ?_⟩
             have n0_ := Aside0.mk (Kd.R_below (by (with_reducible repeat (first | apply Kd.R_alloc | apply Kd.R_drewN | apply Kd.R_drew)); exact HO_2.out) hb)
             have n1_ := Aside0.mk (Kd.R_below (by (with_reducible repeat (first | apply Kd.R_alloc | apply Kd.R_drewN | apply Kd.R_drew)); exact HO_3.out) hb)
             have n2_ := Aside0.mk (Kd.R_below (by (with_reducible repeat (first | apply Kd.R_alloc | apply Kd.R_drewN | apply Kd.R_drew)); exact HO_189000.out) hb)
             have n3_ := Aside0.mk (Kd.N_below (by (with_reducible repeat (first | apply Kd.N_alloc | apply Kd.N_drewN | apply Kd.N_drew)); exact HO_189001.out) hb)
             have n4_ := Aside0.mk (blk_below (g := gb188) (o := .cells #[.slice Ao16 y176.length co16, .slice Ao15 y185.length co15] 25 (0, 0)) (by (with_reducible repeat (first | refine blk_drewN ?_ _ | refine blk_drew ?_ | refine blk_alloc ?_ _)); exact BK188.out) hb)
             have n5_ := Aside0.mk (below_step (by repeat (first | (with_reducible first | exact HB.out | apply below_alloc | apply pw_below_drewN | apply below_drew1 | refine below_set ?_ GE188.out) | exact HB.out)) hb)
             clear HO_2
             clear HO_3
             clear HO_189000
             clear HO_189001
             clear BK188
             clear HB
             have HO_2 := n0_
             have HO_3 := n1_
             have HO_189000 := n2_
             have HO_189001 := n3_
             have BK188 := n4_
             have HB := n5_
             clear n0_ n1_ n2_ n3_ n4_ n5_
             (try clear hb)
             (try clear hb2)
             (try clear hk)
             (try clear hi)
             obtain ⟨Ao49, co49, eo49⟩ := Kd.R_slice HO_3.out
             (first | subst eo49 | (injection eo49 with f1_ f2_ f3_; have f4_ := f1_.symm; have f5_ := f3_.symm; clear f1_ f2_ f3_; subst f4_; subst f5_))
             refine hK.out _ _ ⟨(blk_cell BK188.out 0).trans rfl, (blk_cell BK188.out 1).trans rfl, HS2_, HS3_, HS4_, HS5_, HS6_, HS7_, HS8_, HS9_, HS10_, HS11_, HS12_, HS13_, HS14_, HS15_, HS16_⟩ (fun hHeld => ?_)
             clear hK K
             refine norm_ (a' := ?_) ?_ ?_
             rotate_left
             ·
              show Act.put _ (some 43) _ = _
              simp only [Act.put, List.setIfInBounds_toArray, List.set_cons_zero, List.set_cons_succ, i64_w, i32_w]
              rfl
             refine pure_ (i := 18) (N := some 47) (v := ?_) (a' := ?_) QB55_15 rfl rfl (any_of HT_.out (by kernel_rfl)) (fun _ _ _ h => h) (Or.inl ⟨by rfl, ?_⟩) ?_ ?_
             rotate_left
             ·
              intro w'
              go_simp
              with_reducible rfl
             rotate_left
             ·
              simp only [Act.put, List.setIfInBounds_toArray, List.set_cons_zero, List.set_cons_succ, i64_w, i32_w]
              rfl
             refine pure_ (i := 19) (N := some 48) (v := ?_) (a' := ?_) QB55_16 rfl rfl (any_of HT_.out (by kernel_rfl)) (fun _ _ _ h => h) (Or.inl ⟨by rfl, ?_⟩) ?_ ?_
             rotate_left
             ·
              intro w'
              go_simp
              with_reducible rfl
             rotate_left
             ·
              simp only [Act.put, List.setIfInBounds_toArray, List.set_cons_zero, List.set_cons_succ, i64_w, i32_w]
              rfl
             refine pure_ (i := 20) (N := some 49) (v := ?_) (a' := ?_) QB55_17 rfl rfl (any_of HT_.out (by kernel_rfl)) (fun _ _ _ h => h) (Or.inl ⟨by rfl, ?_⟩) ?_ ?_
             rotate_left
             ·
              intro w'
              go_simp
              with_reducible rfl
             rotate_left
             ·
              simp only [Act.put, List.setIfInBounds_toArray, List.set_cons_zero, List.set_cons_succ, i64_w, i32_w]
              rfl
             refine pure_ (i := 21) (N := some 50) (v := ?_) (a' := ?_) QB55_18 rfl rfl (any_of HT_.out (by kernel_rfl)) (fun _ _ _ h => h) (Or.inl ⟨by rfl, ?_⟩) ?_ ?_
             rotate_left
             ·
              intro w'
              go_simp
              with_reducible rfl
             rotate_left
             ·
              simp only [Act.put, List.setIfInBounds_toArray, List.set_cons_zero, List.set_cons_succ, i64_w, i32_w]
              rfl
             refine pure_ (i := 22) (N := some 51) (v := ?_) (a' := ?_) QB55_19 rfl rfl (any_of HT_.out (by kernel_rfl)) (fun _ _ _ h => h) (Or.inl ⟨by rfl, ?_⟩) ?_ ?_
             rotate_left
             ·
              intro w'
              go_simp
              with_reducible rfl
             rotate_left
             ·
              simp only [Act.put, List.setIfInBounds_toArray, List.set_cons_zero, List.set_cons_succ, i64_w, i32_w]
              rfl
             refine take_ (i := 23) (N := some 52) (v := ?_) (a' := ?_) QB55_20 rfl rfl (take_ofW HT_.out HW_.out (by kernel_rfl)) (fun _ _ _ h => h) (Or.inl ⟨by rfl, ?_⟩) hHeld ?_ ?_
             rotate_left
             ·
              rintro w' ⟨s0, s1, s2, s3, s4, s5, s6, s7, s8, s9, s10, s11, s12, s13, s14, s15, s16⟩
              go_simp
              with_reducible rfl
             rotate_left
             ·
              simp only [Act.put, List.setIfInBounds_toArray, List.set_cons_zero, List.set_cons_succ, i64_w, i32_w]
              rfl
             refine one_ (i := 24) (N := some 53) QB55_21 rfl rfl (one_of HT_.out (by kernel_rfl)) (by decide) (fun K hK => ?_)
             refine goes_ Try.func19 (by kernel_rfl) rfl #[.agg #[.bool ((rd_T36 t195 0).f0), .bool ((rd_T36 t195 0).f1), .bool ((rd_T36 t195 0).f2)]] (by rfl) rfl rfl (by (try simp only [List.map_toArray, List.map_cons, List.map_nil]); first | done | rfl | (simp only [List.length_drop, List.length_take]; rfl)) ?_
             with_reducible refine (flow_Text.calls kj3 ((rd_T36 t195 0).f0) ((rd_T36 t195 0).f1) ((rd_T36 t195 0).f2) t207 _ A40.out).mono ?_
             rintro e w50 ⟨rfl, hb⟩
             have HS2_ := (hb.cell (World.block_lt_of_cell? _ _ (hHeld.2.2.1))).trans (hHeld.2.2.1)
             have HS3_ := (hb.cell (World.block_lt_of_cell? _ _ (hHeld.2.2.2.1))).trans (hHeld.2.2.2.1)
             have HS4_ := (hb.cell (World.block_lt_of_cell? _ _ (hHeld.2.2.2.2.1))).trans (hHeld.2.2.2.2.1)
             have HS5_ := (hb.cell (World.block_lt_of_cell? _ _ (hHeld.2.2.2.2.2.1))).trans (hHeld.2.2.2.2.2.1)
             have HS6_ := (hb.cell (World.block_lt_of_cell? _ _ (hHeld.2.2.2.2.2.2.1))).trans (hHeld.2.2.2.2.2.2.1)
             have HS7_ := (hb.cell (World.block_lt_of_cell? _ _ (hHeld.2.2.2.2.2.2.2.1))).trans (hHeld.2.2.2.2.2.2.2.1)
             have HS8_ := (hb.cell (World.block_lt_of_cell? _ _ (hHeld.2.2.2.2.2.2.2.2.1))).trans (hHeld.2.2.2.2.2.2.2.2.1)
             have HS9_ := (hb.cell (World.block_lt_of_cell? _ _ (hHeld.2.2.2.2.2.2.2.2.2.1))).trans (hHeld.2.2.2.2.2.2.2.2.2.1)
             have HS10_ := (hb.cell (World.block_lt_of_cell? _ _ (hHeld.2.2.2.2.2.2.2.2.2.2.1))).trans (hHeld.2.2.2.2.2.2.2.2.2.2.1)
             have HS11_ := (hb.cell (World.block_lt_of_cell? _ _ (hHeld.2.2.2.2.2.2.2.2.2.2.2.1))).trans (hHeld.2.2.2.2.2.2.2.2.2.2.2.1)
             have HS12_ := (hb.cell (World.block_lt_of_cell? _ _ (hHeld.2.2.2.2.2.2.2.2.2.2.2.2.1))).trans (hHeld.2.2.2.2.2.2.2.2.2.2.2.2.1)
             have HS13_ := (hb.cell (World.block_lt_of_cell? _ _ (hHeld.2.2.2.2.2.2.2.2.2.2.2.2.2.1))).trans (hHeld.2.2.2.2.2.2.2.2.2.2.2.2.2.1)
             have HS14_ := (hb.cell (World.block_lt_of_cell? _ _ (hHeld.2.2.2.2.2.2.2.2.2.2.2.2.2.2.1))).trans (hHeld.2.2.2.2.2.2.2.2.2.2.2.2.2.2.1)
             have HS15_ := (hb.cell (World.block_lt_of_cell? _ _ (hHeld.2.2.2.2.2.2.2.2.2.2.2.2.2.2.2.1))).trans (hHeld.2.2.2.2.2.2.2.2.2.2.2.2.2.2.2.1)
             have HS16_ := (hb.cell (World.block_lt_of_cell? _ _ (hHeld.2.2.2.2.2.2.2.2.2.2.2.2.2.2.2.2))).trans (hHeld.2.2.2.2.2.2.2.2.2.2.2.2.2.2.2.2)
             refine ⟨_, rfl, ?_⟩
             have n0_ := Aside0.mk (Kd.R_below (by (with_reducible repeat (first | apply Kd.R_alloc | apply Kd.R_drewN | apply Kd.R_drew)); exact HO_2.out) hb)
             have n1_ := Aside0.mk (Kd.R_below (by (with_reducible repeat (first | apply Kd.R_alloc | apply Kd.R_drewN | apply Kd.R_drew)); exact HO_3.out) hb)
             have n2_ := Aside0.mk (Kd.R_below (by (with_reducible repeat (first | apply Kd.R_alloc | apply Kd.R_drewN | apply Kd.R_drew)); exact HO_189000.out) hb)
             have n3_ := Aside0.mk (Kd.N_below (by (with_reducible repeat (first | apply Kd.N_alloc | apply Kd.N_drewN | apply Kd.N_drew)); exact HO_189001.out) hb)
             have n4_ := Aside0.mk (blk_below (g := gb188) (o := .cells #[.slice Ao16 y176.length co16, .slice Ao15 y185.length co15] 25 (0, 0)) (by (with_reducible repeat (first | refine blk_drewN ?_ _ | refine blk_drew ?_ | refine blk_alloc ?_ _)); exact BK188.out) hb)
             have n5_ := Aside0.mk (below_step (by repeat (first | (with_reducible first | exact HB.out | apply below_alloc | apply pw_below_drewN | apply below_drew1 | refine below_set ?_ GE188.out) | exact HB.out)) hb)
             clear HO_2
             clear HO_3
             clear HO_189000
             clear HO_189001
             clear BK188
             clear HB
             have HO_2 := n0_
             have HO_3 := n1_
             have HO_189000 := n2_
             have HO_189001 := n3_
             have BK188 := n4_
             have HB := n5_
             clear n0_ n1_ n2_ n3_ n4_ n5_
             (try clear hb)
             (try clear hb2)
             (try clear hk)
             (try clear hi)
             refine hK.out _ _ ⟨(blk_cell BK188.out 0).trans rfl, (blk_cell BK188.out 1).trans rfl, HS2_, HS3_, HS4_, HS5_, HS6_, HS7_, HS8_, HS9_, HS10_, HS11_, HS12_, HS13_, HS14_, HS15_, HS16_⟩ (fun hHeld => ?_)
             clear hK K
             refine norm_ (a' := ?_) ?_ ?_
             rotate_left
             ·
              show Act.put _ (some 53) _ = _
              simp only [Act.put, List.setIfInBounds_toArray, List.set_cons_zero, List.set_cons_succ, i64_w, i32_w]
              rfl
             refine pure_ (i := 25) (N := some 54) (v := ?_) (a' := ?_) QB55_22 rfl rfl (any_of HT_.out (by kernel_rfl)) (fun _ _ _ h => h) (Or.inl ⟨by rfl, ?_⟩) ?_ ?_
             rotate_left
             ·
              intro w'
              go_simp
              with_reducible rfl
             rotate_left
             ·
              simp only [Act.put, List.setIfInBounds_toArray, List.set_cons_zero, List.set_cons_succ, i64_w, i32_w]
              rfl
             refine pure_ (i := 26) (N := some 55) (v := ?_) (a' := ?_) QB55_23 rfl rfl (any_of HT_.out (by kernel_rfl)) (fun _ _ _ h => h) (Or.inl ⟨by rfl, ?_⟩) ?_ ?_
             rotate_left
             ·
              intro w'
              go_simp
              with_reducible rfl
             rotate_left
             ·
              simp only [Act.put, List.setIfInBounds_toArray, List.set_cons_zero, List.set_cons_succ, i64_w, i32_w]
              rfl
             refine pure_ (i := 27) (N := some 56) (v := ?_) (a' := ?_) QB55_24 rfl rfl (any_of HT_.out (by kernel_rfl)) (fun _ _ _ h => h) (Or.inl ⟨by rfl, ?_⟩) ?_ ?_
             rotate_left
             ·
              intro w'
              go_simp
              with_reducible rfl
             rotate_left
             ·
              simp only [Act.put, List.setIfInBounds_toArray, List.set_cons_zero, List.set_cons_succ, i64_w, i32_w]
              rfl
             refine pure_ (i := 28) (N := some 57) (v := ?_) (a' := ?_) QB55_25 rfl rfl (any_of HT_.out (by kernel_rfl)) (fun _ _ _ h => h) (Or.inl ⟨by rfl, ?_⟩) ?_ ?_
             rotate_left
             ·
              intro w'
              go_simp
              with_reducible rfl
             rotate_left
             ·
              simp only [Act.put, List.setIfInBounds_toArray, List.set_cons_zero, List.set_cons_succ, i64_w, i32_w]
              rfl
             refine pure_ (i := 29) (N := some 58) (v := ?_) (a' := ?_) QB55_26 rfl rfl (any_of HT_.out (by kernel_rfl)) (fun _ _ _ h => h) (Or.inl ⟨by rfl, ?_⟩) ?_ ?_
             rotate_left
             ·
              intro w'
              go_simp
              with_reducible rfl
             rotate_left
             ·
              simp only [Act.put, List.setIfInBounds_toArray, List.set_cons_zero, List.set_cons_succ, i64_w, i32_w]
              rfl
             refine take_ (i := 30) (N := some 59) (v := ?_) (a' := ?_) QB55_27 rfl rfl (take_ofW HT_.out HW_.out (by kernel_rfl)) (fun _ _ _ h => h) (Or.inl ⟨by rfl, ?_⟩) hHeld ?_ ?_
             rotate_left
             ·
              rintro w' ⟨s0, s1, s2, s3, s4, s5, s6, s7, s8, s9, s10, s11, s12, s13, s14, s15, s16⟩
              go_simp
              with_reducible rfl
             rotate_left
             ·
              simp only [Act.put, List.setIfInBounds_toArray, List.set_cons_zero, List.set_cons_succ, i64_w, i32_w]
              rfl
             refine one_ (i := 31) (N := some 60) QB55_28 rfl rfl (one_of HT_.out (by kernel_rfl)) (by decide) (fun K hK => ?_)
             refine goes_ Try.func19 (by kernel_rfl) rfl #[.agg #[.bool ((rd_T36 t195 1).f0), .bool ((rd_T36 t195 1).f1), .bool ((rd_T36 t195 1).f2)]] (by rfl) rfl rfl (by (try simp only [List.map_toArray, List.map_cons, List.map_nil]); first | done | rfl | (simp only [List.length_drop, List.length_take]; rfl)) ?_
             with_reducible refine (flow_Text.calls kj3 ((rd_T36 t195 1).f0) ((rd_T36 t195 1).f1) ((rd_T36 t195 1).f2) t209 _ A43.out).mono ?_
             rintro e w51 ⟨rfl, hb⟩
             have HS2_ := (hb.cell (World.block_lt_of_cell? _ _ (hHeld.2.2.1))).trans (hHeld.2.2.1)
             have HS3_ := (hb.cell (World.block_lt_of_cell? _ _ (hHeld.2.2.2.1))).trans (hHeld.2.2.2.1)
             have HS4_ := (hb.cell (World.block_lt_of_cell? _ _ (hHeld.2.2.2.2.1))).trans (hHeld.2.2.2.2.1)
             have HS5_ := (hb.cell (World.block_lt_of_cell? _ _ (hHeld.2.2.2.2.2.1))).trans (hHeld.2.2.2.2.2.1)
             have HS6_ := (hb.cell (World.block_lt_of_cell? _ _ (hHeld.2.2.2.2.2.2.1))).trans (hHeld.2.2.2.2.2.2.1)
             have HS7_ := (hb.cell (World.block_lt_of_cell? _ _ (hHeld.2.2.2.2.2.2.2.1))).trans (hHeld.2.2.2.2.2.2.2.1)
             have HS8_ := (hb.cell (World.block_lt_of_cell? _ _ (hHeld.2.2.2.2.2.2.2.2.1))).trans (hHeld.2.2.2.2.2.2.2.2.1)
             have HS9_ := (hb.cell (World.block_lt_of_cell? _ _ (hHeld.2.2.2.2.2.2.2.2.2.1))).trans (hHeld.2.2.2.2.2.2.2.2.2.1)
             have HS10_ := (hb.cell (World.block_lt_of_cell? _ _ (hHeld.2.2.2.2.2.2.2.2.2.2.1))).trans (hHeld.2.2.2.2.2.2.2.2.2.2.1)
             have HS11_ := (hb.cell (World.block_lt_of_cell? _ _ (hHeld.2.2.2.2.2.2.2.2.2.2.2.1))).trans (hHeld.2.2.2.2.2.2.2.2.2.2.2.1)
             have HS12_ := (hb.cell (World.block_lt_of_cell? _ _ (hHeld.2.2.2.2.2.2.2.2.2.2.2.2.1))).trans (hHeld.2.2.2.2.2.2.2.2.2.2.2.2.1)
             have HS13_ := (hb.cell (World.block_lt_of_cell? _ _ (hHeld.2.2.2.2.2.2.2.2.2.2.2.2.2.1))).trans (hHeld.2.2.2.2.2.2.2.2.2.2.2.2.2.1)
             have HS14_ := (hb.cell (World.block_lt_of_cell? _ _ (hHeld.2.2.2.2.2.2.2.2.2.2.2.2.2.2.1))).trans (hHeld.2.2.2.2.2.2.2.2.2.2.2.2.2.2.1)
             have HS15_ := (hb.cell (World.block_lt_of_cell? _ _ (hHeld.2.2.2.2.2.2.2.2.2.2.2.2.2.2.2.1))).trans (hHeld.2.2.2.2.2.2.2.2.2.2.2.2.2.2.2.1)
             have HS16_ := (hb.cell (World.block_lt_of_cell? _ _ (hHeld.2.2.2.2.2.2.2.2.2.2.2.2.2.2.2.2))).trans (hHeld.2.2.2.2.2.2.2.2.2.2.2.2.2.2.2.2)
             refine ⟨_, rfl, ?_⟩
             have n0_ := Aside0.mk (Kd.R_below (by (with_reducible repeat (first | apply Kd.R_alloc | apply Kd.R_drewN | apply Kd.R_drew)); exact HO_2.out) hb)
             have n1_ := Aside0.mk (Kd.R_below (by (with_reducible repeat (first | apply Kd.R_alloc | apply Kd.R_drewN | apply Kd.R_drew)); exact HO_3.out) hb)
             have n2_ := Aside0.mk (Kd.R_below (by (with_reducible repeat (first | apply Kd.R_alloc | apply Kd.R_drewN | apply Kd.R_drew)); exact HO_189000.out) hb)
             have n3_ := Aside0.mk (Kd.N_below (by (with_reducible repeat (first | apply Kd.N_alloc | apply Kd.N_drewN | apply Kd.N_drew)); exact HO_189001.out) hb)
             have n4_ := Aside0.mk (blk_below (g := gb188) (o := .cells #[.slice Ao16 y176.length co16, .slice Ao15 y185.length co15] 25 (0, 0)) (by (with_reducible repeat (first | refine blk_drewN ?_ _ | refine blk_drew ?_ | refine blk_alloc ?_ _)); exact BK188.out) hb)
             have n5_ := Aside0.mk (below_step (by repeat (first | (with_reducible first | exact HB.out | apply below_alloc | apply pw_below_drewN | apply below_drew1 | refine below_set ?_ GE188.out) | exact HB.out)) hb)
             clear HO_2
             clear HO_3
             clear HO_189000
             clear HO_189001
             clear BK188
             clear HB
             have HO_2 := n0_
             have HO_3 := n1_
             have HO_189000 := n2_
             have HO_189001 := n3_
             have BK188 := n4_
             have HB := n5_
             clear n0_ n1_ n2_ n3_ n4_ n5_
             (try clear hb)
             (try clear hb2)
             (try clear hk)
             (try clear hi)
             refine hK.out _ _ ⟨(blk_cell BK188.out 0).trans rfl, (blk_cell BK188.out 1).trans rfl, HS2_, HS3_, HS4_, HS5_, HS6_, HS7_, HS8_, HS9_, HS10_, HS11_, HS12_, HS13_, HS14_, HS15_, HS16_⟩ (fun hHeld => ?_)
             clear hK K
             refine norm_ (a' := ?_) ?_ ?_
             rotate_left
             ·
              show Act.put _ (some 60) _ = _
              simp only [Act.put, List.setIfInBounds_toArray, List.set_cons_zero, List.set_cons_succ, i64_w, i32_w]
              rfl
             refine pure_ (i := 32) (N := some 61) (v := ?_) (a' := ?_) QB55_29 rfl rfl (any_of HT_.out (by kernel_rfl)) (fun _ _ _ h => h) (Or.inl ⟨by rfl, ?_⟩) ?_ ?_
             rotate_left
             ·
              intro w'
              go_simp
              with_reducible rfl
             rotate_left
             ·
              simp only [Act.put, List.setIfInBounds_toArray, List.set_cons_zero, List.set_cons_succ, i64_w, i32_w]
              rfl
             refine pure_ (i := 33) (N := some 62) (v := ?_) (a' := ?_) QB55_30 rfl rfl (any_of HT_.out (by kernel_rfl)) (fun _ _ _ h => h) (Or.inl ⟨by rfl, ?_⟩) ?_ ?_
             rotate_left
             ·
              intro w'
              go_simp
              with_reducible rfl
             rotate_left
             ·
              simp only [Act.put, List.setIfInBounds_toArray, List.set_cons_zero, List.set_cons_succ, i64_w, i32_w]
              rfl
             refine pure_ (i := 34) (N := some 0) (v := ?_) (a' := ?_) QB55_31 rfl rfl (any_of HT_.out (by kernel_rfl)) (fun _ _ _ h => h) (Or.inl ⟨by rfl, ?_⟩) ?_ ?_
             rotate_left
             ·
              intro w'
              go_simp
              with_reducible rfl
             rotate_left
             ·
              simp only [Act.put, List.setIfInBounds_toArray, List.set_cons_zero, List.set_cons_succ, i64_w, i32_w]
              rfl
             refine done_ (done_of HT_.out (by kernel_rfl)) ?_
             try go_wp2
             go_ret
             exact ⟨by first | rfl | (simp [errW_none, errW_some] <;> rfl) | (simp [*, errW_none, errW_some] <;> rfl), by repeat (first | (with_reducible first | exact HB.out | apply below_alloc | apply pw_below_drewN | apply below_drew1 | refine below_set ?_ GE188.out) | exact HB.out)⟩
            ·
             rw [if_neg c42] at H
             exact absurd H (by simp)
           ·
            rw [if_neg c41] at H
            have c41b0 : (t207.toList == ([101, 102] : List UInt8)) = false := beq_eq_false_iff_ne.mpr c41
            have c41b1 : (t207.toList != ([101, 102] : List UInt8)) = true := bne_iff_ne.mpr c41
            obtain rfl := Option.some.inj H
            try go_wp2
            have n0_ := Aside0.mk (Kd.R_drew HO_2.out)
            have n1_ := Aside0.mk (Kd.R_drew HO_3.out)
            have n2_ := Aside0.mk (Kd.R_drew HO_189000.out)
            have n3_ := Aside0.mk (Kd.N_drew HO_189001.out)
            have n4_ := Aside0.mk (blk_drew BK188.out)
            have n5_ := Aside0.mk (below_drew1 HB.out)
            clear HO_2
            clear HO_3
            clear HO_189000
            clear HO_189001
            clear BK188
            clear HB
            have HO_2 := n0_
            have HO_3 := n1_
            have HO_189000 := n2_
            have HO_189001 := n3_
            have BK188 := n4_
            have HB := n5_
            clear n0_ n1_ n2_ n3_ n4_ n5_
            obtain ⟨Ao53, co53, eo53⟩ := Kd.R_slice HO_2.out
            (first | subst eo53 | (injection eo53 with f1_ f2_ f3_; have f4_ := f1_.symm; have f5_ := f3_.symm; clear f1_ f2_ f3_; subst f4_; subst f5_))
            have p198 : 0 ≤ (2 : Int) := (by omega)
            have q198 : 2 < (t189.length : Int) := of_decide_eq_true (by first | (with_reducible assumption) | assumption)
            obtain ⟨ad198, e198, hx198_0, hx198_1, hx198_2⟩ := at_T36 (Kd.R_reads' HO_2.out).2.2 2 p198 q198
            cases e198
            (try simp only [show (2 : Int).toNat = 2 from rfl, Nat.reduceMul, Nat.reduceEqDiff, Go.Addr.add, ↓reduceIte] at hx198_0)
            (try simp only [show (2 : Int).toNat = 2 from rfl, Nat.reduceMul, Nat.reduceEqDiff, Go.Addr.add, ↓reduceIte] at hx198_1)
            (try simp only [show (2 : Int).toNat = 2 from rfl, Nat.reduceMul, Nat.reduceEqDiff, Go.Addr.add, ↓reduceIte] at hx198_2)
            have qi198 : (2 < t189.length) = True := eq_true (by omega)
            (try rw [show ((2 : Int)).toNat = 2 from rfl] at hx198_0)
            (try rw [show 2 * 3 = 6 from rfl] at hx198_0)
            (try rw [show ((2 : Int)).toNat = 2 from rfl] at hx198_1)
            (try rw [show 2 * 3 = 6 from rfl] at hx198_1)
            (try rw [show ((2 : Int)).toNat = 2 from rfl] at hx198_2)
            (try rw [show 2 * 3 = 6 from rfl] at hx198_2)
            replace p198 := eq_true p198
            replace q198 := eq_true q198
            have p200 : 0 ≤ (4 : Int) := (by omega)
            have q200 : 4 < (t189.length : Int) := of_decide_eq_true (by first | (with_reducible assumption) | assumption)
            obtain ⟨ad200, e200, hx200_0, hx200_1, hx200_2⟩ := at_T36 (Kd.R_reads' HO_2.out).2.2 4 p200 q200
            obtain rfl : ad198 = ad200 := (by injection e200)
            (try simp only [show (4 : Int).toNat = 4 from rfl, Nat.reduceMul, Nat.reduceEqDiff, Go.Addr.add, ↓reduceIte] at hx200_0)
            (try simp only [show (4 : Int).toNat = 4 from rfl, Nat.reduceMul, Nat.reduceEqDiff, Go.Addr.add, ↓reduceIte] at hx200_1)
            (try simp only [show (4 : Int).toNat = 4 from rfl, Nat.reduceMul, Nat.reduceEqDiff, Go.Addr.add, ↓reduceIte] at hx200_2)
            have qi200 : (4 < t189.length) = True := eq_true (by omega)
            (try rw [show ((4 : Int)).toNat = 4 from rfl] at hx200_0)
            (try rw [show 4 * 3 = 12 from rfl] at hx200_0)
            (try rw [show ((4 : Int)).toNat = 4 from rfl] at hx200_1)
            (try rw [show 4 * 3 = 12 from rfl] at hx200_1)
            (try rw [show ((4 : Int)).toNat = 4 from rfl] at hx200_2)
            (try rw [show 4 * 3 = 12 from rfl] at hx200_2)
            replace p200 := eq_true p200
            replace q200 := eq_true q200
            have p205 : 0 ≤ (4 : Int) := (by omega)
            have q205 : 4 < (t189.length : Int) := of_decide_eq_true (by first | (with_reducible assumption) | assumption)
            obtain ⟨ad205, e205, hx205_0, hx205_1, hx205_2⟩ := at_T36 (Kd.R_reads' HO_2.out).2.2 4 p205 q205
            obtain rfl : ad198 = ad205 := (by injection e205)
            (try simp only [show (4 : Int).toNat = 4 from rfl, Nat.reduceMul, Nat.reduceEqDiff, Go.Addr.add, ↓reduceIte] at hx205_0)
            (try simp only [show (4 : Int).toNat = 4 from rfl, Nat.reduceMul, Nat.reduceEqDiff, Go.Addr.add, ↓reduceIte] at hx205_1)
            (try simp only [show (4 : Int).toNat = 4 from rfl, Nat.reduceMul, Nat.reduceEqDiff, Go.Addr.add, ↓reduceIte] at hx205_2)
            have qi205 : (4 < t189.length) = True := eq_true (by omega)
            (try rw [show ((4 : Int)).toNat = 4 from rfl] at hx205_0)
            (try rw [show 4 * 3 = 12 from rfl] at hx205_0)
            (try rw [show ((4 : Int)).toNat = 4 from rfl] at hx205_1)
            (try rw [show 4 * 3 = 12 from rfl] at hx205_1)
            (try rw [show ((4 : Int)).toNat = 4 from rfl] at hx205_2)
            (try rw [show 4 * 3 = 12 from rfl] at hx205_2)
            replace p205 := eq_true p205
            replace q205 := eq_true q205
            (obtain ⟨Ao_, co_, eo_⟩ := Kd.R_slice HO_3.out; first | subst eo_ | skip)
            have p206 : 0 ≤ (0 : Int) := (by omega)
            have q206 : 0 < (t195.length : Int) := of_decide_eq_true (by first | (with_reducible assumption) | assumption)
            obtain ⟨ad206, e206, hx206_0, hx206_1, hx206_2⟩ := at_T36 (Kd.R_reads' HO_3.out).2.2 0 p206 q206
            cases e206
            have qi206 : (0 < t195.length) = True := eq_true (by omega)
            (try rw [show ((0 : Int)).toNat = 0 from rfl] at hx206_0)
            (try rw [show 0 * 3 = 0 from rfl] at hx206_0)
            (try rw [Addr.add_zero'] at hx206_0)
            (try rw [show ((0 : Int)).toNat = 0 from rfl] at hx206_1)
            (try rw [show 0 * 3 = 0 from rfl] at hx206_1)
            (try rw [Addr.add_zero'] at hx206_1)
            (try rw [show ((0 : Int)).toNat = 0 from rfl] at hx206_2)
            (try rw [show 0 * 3 = 0 from rfl] at hx206_2)
            (try rw [Addr.add_zero'] at hx206_2)
            replace p206 := eq_true p206
            replace q206 := eq_true q206
            refine start_ (n := 35) (S := fun w' => w'.cell? ⟨gb188, 0, none⟩ = some (.slice Ao16 y176.length co16) ∧ w'.cell? ⟨gb188, 1, none⟩ = some (.slice Ao15 y185.length co15) ∧ w'.cell? ⟨ad198.block, ad198.off + 6, none⟩ = some (.bool ((rd_T36 t189 2).f0)) ∧ w'.cell? ⟨ad198.block, ad198.off + 6 + 1, none⟩ = some (.bool ((rd_T36 t189 2).f1)) ∧ w'.cell? ⟨ad198.block, ad198.off + 6 + 2, none⟩ = some (.bool ((rd_T36 t189 2).f2)) ∧ w'.cell? ⟨ad198.block, ad198.off + 12, none⟩ = some (.bool ((rd_T36 t189 4).f0)) ∧ w'.cell? ⟨ad198.block, ad198.off + 12 + 1, none⟩ = some (.bool ((rd_T36 t189 4).f1)) ∧ w'.cell? ⟨ad198.block, ad198.off + 12 + 2, none⟩ = some (.bool ((rd_T36 t189 4).f2)) ∧ w'.cell? ⟨ad198.block, ad198.off + 12, none⟩ = some (.bool ((rd_T36 t189 4).f0)) ∧ w'.cell? ⟨ad198.block, ad198.off + 12 + 1, none⟩ = some (.bool ((rd_T36 t189 4).f1)) ∧ w'.cell? ⟨ad198.block, ad198.off + 12 + 2, none⟩ = some (.bool ((rd_T36 t189 4).f2)) ∧ w'.cell? ad206 = some (.bool ((rd_T36 t195 0).f0)) ∧ w'.cell? ⟨ad206.block, ad206.off + 1, none⟩ = some (.bool ((rd_T36 t195 0).f1)) ∧ w'.cell? ⟨ad206.block, ad206.off + 2, none⟩ = some (.bool ((rd_T36 t195 0).f2))) (ds := []) QB55_0 (by kernel_rfl) rfl rfl ⟨(blk_cell BK188.out 0).trans rfl, (blk_cell BK188.out 1).trans rfl, hx198_0, hx198_1, hx198_2, hx200_0, hx200_1, hx200_2, hx205_0, hx205_1, hx205_2, hx206_0, hx206_1, hx206_2⟩ (fun hHeld => ?_); refine with_tabW vetchlaw11_awake.tab6 vetchlaw11_awake.bits6 (fun HT_ HW_ => ?_)
            generalize wc.drew = w52 at HO_2 HO_3 HO_189000 HO_189001 BK188 HB hx198_0 hx198_1 hx198_2 hx200_0 hx200_1 hx200_2 hx205_0 hx205_1 hx205_2 hx206_0 hx206_1 hx206_2 hHeld ⊢
            refine pure_ (i := 0) (N := some 29) (v := ?_) (a' := ?_) QB55_1 rfl rfl (any_of HT_.out (by kernel_rfl)) (fun _ _ _ h => h) (Or.inl ⟨by rfl, ?_⟩) ?_ ?_
            rotate_left
            ·
             intro w'
             go_simp
             with_reducible rfl
            rotate_left
            ·
             simp only [Act.put, List.setIfInBounds_toArray, List.set_cons_zero, List.set_cons_succ, i64_w, i32_w]
             rfl
            refine pure_ (i := 1) (N := some 30) (v := ?_) (a' := ?_) QB55_2 rfl rfl (any_of HT_.out (by kernel_rfl)) (fun _ _ _ h => h) (Or.inl ⟨by rfl, ?_⟩) ?_ ?_
            rotate_left
            ·
             intro w'
             go_simp
             with_reducible rfl
            rotate_left
            ·
             simp only [Act.put, List.setIfInBounds_toArray, List.set_cons_zero, List.set_cons_succ, i64_w, i32_w]
             rfl
            refine take_ (i := 2) (N := some 31) (v := ?_) (a' := ?_) QB55_3 rfl rfl (take_ofW HT_.out HW_.out (by kernel_rfl)) (fun _ _ _ h => h) (Or.inl ⟨by rfl, ?_⟩) hHeld ?_ ?_
            rotate_left
            ·
             rintro w' ⟨s0, s1, s2, s3, s4, s5, s6, s7, s8, s9, s10, s11, s12, s13⟩
             go_simp
             with_reducible rfl
            rotate_left
            ·
             simp only [Act.put, List.setIfInBounds_toArray, List.set_cons_zero, List.set_cons_succ, i64_w, i32_w]
             rfl
            refine one_ (i := 3) (N := some 32) QB55_4 rfl rfl (one_of HT_.out (by kernel_rfl)) (by decide) (fun K hK => ?_)
            refine goes_ Try.func19 (by kernel_rfl) rfl #[.agg #[.bool ((rd_T36 t189 2).f0), .bool ((rd_T36 t189 2).f1), .bool ((rd_T36 t189 2).f2)]] (by rfl) rfl rfl (by (try simp only [List.map_toArray, List.map_cons, List.map_nil]); first | done | rfl | (simp only [List.length_drop, List.length_take]; rfl)) ?_
            with_reducible refine (flow_Text.calls kj3 ((rd_T36 t189 2).f0) ((rd_T36 t189 2).f1) ((rd_T36 t189 2).f2) t199 _ A32.out).mono ?_
            rintro e w54 ⟨rfl, hb⟩
            have HS2_ := (hb.cell (World.block_lt_of_cell? _ _ (hHeld.2.2.1))).trans (hHeld.2.2.1)
            have HS3_ := (hb.cell (World.block_lt_of_cell? _ _ (hHeld.2.2.2.1))).trans (hHeld.2.2.2.1)
            have HS4_ := (hb.cell (World.block_lt_of_cell? _ _ (hHeld.2.2.2.2.1))).trans (hHeld.2.2.2.2.1)
            have HS5_ := (hb.cell (World.block_lt_of_cell? _ _ (hHeld.2.2.2.2.2.1))).trans (hHeld.2.2.2.2.2.1)
            have HS6_ := (hb.cell (World.block_lt_of_cell? _ _ (hHeld.2.2.2.2.2.2.1))).trans (hHeld.2.2.2.2.2.2.1)
            have HS7_ := (hb.cell (World.block_lt_of_cell? _ _ (hHeld.2.2.2.2.2.2.2.1))).trans (hHeld.2.2.2.2.2.2.2.1)
            have HS8_ := (hb.cell (World.block_lt_of_cell? _ _ (hHeld.2.2.2.2.2.2.2.2.1))).trans (hHeld.2.2.2.2.2.2.2.2.1)
            have HS9_ := (hb.cell (World.block_lt_of_cell? _ _ (hHeld.2.2.2.2.2.2.2.2.2.1))).trans (hHeld.2.2.2.2.2.2.2.2.2.1)
            have HS10_ := (hb.cell (World.block_lt_of_cell? _ _ (hHeld.2.2.2.2.2.2.2.2.2.2.1))).trans (hHeld.2.2.2.2.2.2.2.2.2.2.1)
            have HS11_ := (hb.cell (World.block_lt_of_cell? _ _ (hHeld.2.2.2.2.2.2.2.2.2.2.2.1))).trans (hHeld.2.2.2.2.2.2.2.2.2.2.2.1)
            have HS12_ := (hb.cell (World.block_lt_of_cell? _ _ (hHeld.2.2.2.2.2.2.2.2.2.2.2.2.1))).trans (hHeld.2.2.2.2.2.2.2.2.2.2.2.2.1)
            have HS13_ := (hb.cell (World.block_lt_of_cell? _ _ (hHeld.2.2.2.2.2.2.2.2.2.2.2.2.2))).trans (hHeld.2.2.2.2.2.2.2.2.2.2.2.2.2)
            refine ⟨_, rfl, ?_⟩
            have n0_ := Aside0.mk (Kd.R_below (by (with_reducible repeat (first | apply Kd.R_alloc | apply Kd.R_drewN | apply Kd.R_drew)); exact HO_2.out) hb)
            have n1_ := Aside0.mk (Kd.R_below (by (with_reducible repeat (first | apply Kd.R_alloc | apply Kd.R_drewN | apply Kd.R_drew)); exact HO_3.out) hb)
            have n2_ := Aside0.mk (Kd.R_below (by (with_reducible repeat (first | apply Kd.R_alloc | apply Kd.R_drewN | apply Kd.R_drew)); exact HO_189000.out) hb)
            have n3_ := Aside0.mk (Kd.N_below (by (with_reducible repeat (first | apply Kd.N_alloc | apply Kd.N_drewN | apply Kd.N_drew)); exact HO_189001.out) hb)
            have n4_ := Aside0.mk (blk_below (g := gb188) (o := .cells #[.slice Ao16 y176.length co16, .slice Ao15 y185.length co15] 25 (0, 0)) (by (with_reducible repeat (first | refine blk_drewN ?_ _ | refine blk_drew ?_ | refine blk_alloc ?_ _)); exact BK188.out) hb)
            have n5_ := Aside0.mk (below_step (by repeat (first | (with_reducible first | exact HB.out | apply below_alloc | apply pw_below_drewN | apply below_drew1 | refine below_set ?_ GE188.out) | exact HB.out)) hb)
            clear HO_2
            clear HO_3
            clear HO_189000
            clear HO_189001
            clear BK188
            clear HB
            have HO_2 := n0_
            have HO_3 := n1_
            have HO_189000 := n2_
            have HO_189001 := n3_
            have BK188 := n4_
            have HB := n5_
            clear n0_ n1_ n2_ n3_ n4_ n5_
            (try clear hb)
            (try clear hb2)
            (try clear hk)
            (try clear hi)
            refine hK.out _ _ ⟨(blk_cell BK188.out 0).trans rfl, (blk_cell BK188.out 1).trans rfl, HS2_, HS3_, HS4_, HS5_, HS6_, HS7_, HS8_, HS9_, HS10_, HS11_, HS12_, HS13_⟩ (fun hHeld => ?_)
            clear hK K
            refine norm_ (a' := ?_) ?_ ?_
            rotate_left
            ·
             show Act.put _ (some 32) _ = _
             simp only [Act.put, List.setIfInBounds_toArray, List.set_cons_zero, List.set_cons_succ, i64_w, i32_w]
             rfl
            refine pure_ (i := 4) (N := some 33) (v := ?_) (a' := ?_) QB55_5 rfl rfl (any_of HT_.out (by kernel_rfl)) (fun _ _ _ h => h) (Or.inl ⟨by rfl, ?_⟩) ?_ ?_
            rotate_left
            ·
             intro w'
             go_simp
             with_reducible rfl
            rotate_left
            ·
             simp only [Act.put, List.setIfInBounds_toArray, List.set_cons_zero, List.set_cons_succ, i64_w, i32_w]
             rfl
            refine pure_ (i := 5) (N := some 34) (v := ?_) (a' := ?_) QB55_6 rfl rfl (any_of HT_.out (by kernel_rfl)) (fun _ _ _ h => h) (Or.inl ⟨by rfl, ?_⟩) ?_ ?_
            rotate_left
            ·
             intro w'
             go_simp
             with_reducible rfl
            rotate_left
            ·
             simp only [Act.put, List.setIfInBounds_toArray, List.set_cons_zero, List.set_cons_succ, i64_w, i32_w]
             rfl
            refine pure_ (i := 6) (N := some 35) (v := ?_) (a' := ?_) QB55_7 rfl rfl (any_of HT_.out (by kernel_rfl)) (fun _ _ _ h => h) (Or.inl ⟨by rfl, ?_⟩) ?_ ?_
            rotate_left
            ·
             intro w'
             go_simp
             with_reducible rfl
            rotate_left
            ·
             simp only [Act.put, List.setIfInBounds_toArray, List.set_cons_zero, List.set_cons_succ, i64_w, i32_w]
             rfl
            refine pure_ (i := 7) (N := some 36) (v := ?_) (a' := ?_) QB55_8 rfl rfl (any_of HT_.out (by kernel_rfl)) (fun _ _ _ h => h) (Or.inl ⟨by rfl, ?_⟩) ?_ ?_
            rotate_left
            ·
             intro w'
             go_simp
             with_reducible rfl
            rotate_left
            ·
             simp only [Act.put, List.setIfInBounds_toArray, List.set_cons_zero, List.set_cons_succ, i64_w, i32_w]
             rfl
            refine take_ (i := 8) (N := some 37) (v := ?_) (a' := ?_) QB55_9 rfl rfl (take_ofW HT_.out HW_.out (by kernel_rfl)) (fun _ _ _ h => h) (Or.inl ⟨by rfl, ?_⟩) hHeld ?_ ?_
            rotate_left
            ·
             rintro w' ⟨s0, s1, s2, s3, s4, s5, s6, s7, s8, s9, s10, s11, s12, s13⟩
             go_simp
             with_reducible rfl
            rotate_left
            ·
             simp only [Act.put, List.setIfInBounds_toArray, List.set_cons_zero, List.set_cons_succ, i64_w, i32_w]
             rfl
            refine one_ (i := 9) (N := some 38) QB55_10 rfl rfl (one_of HT_.out (by kernel_rfl)) (by decide) (fun K hK => ?_)
            refine goes_ Try.func19 (by kernel_rfl) rfl #[.agg #[.bool ((rd_T36 t189 4).f0), .bool ((rd_T36 t189 4).f1), .bool ((rd_T36 t189 4).f2)]] (by rfl) rfl rfl (by (try simp only [List.map_toArray, List.map_cons, List.map_nil]); first | done | rfl | (simp only [List.length_drop, List.length_take]; rfl)) ?_
            with_reducible refine (flow_Text.calls kj3 ((rd_T36 t189 4).f0) ((rd_T36 t189 4).f1) ((rd_T36 t189 4).f2) t201 _ A35.out).mono ?_
            rintro e w55 ⟨rfl, hb⟩
            have HS2_ := (hb.cell (World.block_lt_of_cell? _ _ (hHeld.2.2.1))).trans (hHeld.2.2.1)
            have HS3_ := (hb.cell (World.block_lt_of_cell? _ _ (hHeld.2.2.2.1))).trans (hHeld.2.2.2.1)
            have HS4_ := (hb.cell (World.block_lt_of_cell? _ _ (hHeld.2.2.2.2.1))).trans (hHeld.2.2.2.2.1)
            have HS5_ := (hb.cell (World.block_lt_of_cell? _ _ (hHeld.2.2.2.2.2.1))).trans (hHeld.2.2.2.2.2.1)
            have HS6_ := (hb.cell (World.block_lt_of_cell? _ _ (hHeld.2.2.2.2.2.2.1))).trans (hHeld.2.2.2.2.2.2.1)
            have HS7_ := (hb.cell (World.block_lt_of_cell? _ _ (hHeld.2.2.2.2.2.2.2.1))).trans (hHeld.2.2.2.2.2.2.2.1)
            have HS8_ := (hb.cell (World.block_lt_of_cell? _ _ (hHeld.2.2.2.2.2.2.2.2.1))).trans (hHeld.2.2.2.2.2.2.2.2.1)
            have HS9_ := (hb.cell (World.block_lt_of_cell? _ _ (hHeld.2.2.2.2.2.2.2.2.2.1))).trans (hHeld.2.2.2.2.2.2.2.2.2.1)
            have HS10_ := (hb.cell (World.block_lt_of_cell? _ _ (hHeld.2.2.2.2.2.2.2.2.2.2.1))).trans (hHeld.2.2.2.2.2.2.2.2.2.2.1)
            have HS11_ := (hb.cell (World.block_lt_of_cell? _ _ (hHeld.2.2.2.2.2.2.2.2.2.2.2.1))).trans (hHeld.2.2.2.2.2.2.2.2.2.2.2.1)
            have HS12_ := (hb.cell (World.block_lt_of_cell? _ _ (hHeld.2.2.2.2.2.2.2.2.2.2.2.2.1))).trans (hHeld.2.2.2.2.2.2.2.2.2.2.2.2.1)
            have HS13_ := (hb.cell (World.block_lt_of_cell? _ _ (hHeld.2.2.2.2.2.2.2.2.2.2.2.2.2))).trans (hHeld.2.2.2.2.2.2.2.2.2.2.2.2.2)
            refine ⟨_, rfl, ?_⟩
            have n0_ := Aside0.mk (Kd.R_below (by (with_reducible repeat (first | apply Kd.R_alloc | apply Kd.R_drewN | apply Kd.R_drew)); exact HO_2.out) hb)
            have n1_ := Aside0.mk (Kd.R_below (by (with_reducible repeat (first | apply Kd.R_alloc | apply Kd.R_drewN | apply Kd.R_drew)); exact HO_3.out) hb)
            have n2_ := Aside0.mk (Kd.R_below (by (with_reducible repeat (first | apply Kd.R_alloc | apply Kd.R_drewN | apply Kd.R_drew)); exact HO_189000.out) hb)
            have n3_ := Aside0.mk (Kd.N_below (by (with_reducible repeat (first | apply Kd.N_alloc | apply Kd.N_drewN | apply Kd.N_drew)); exact HO_189001.out) hb)
            have n4_ := Aside0.mk (blk_below (g := gb188) (o := .cells #[.slice Ao16 y176.length co16, .slice Ao15 y185.length co15] 25 (0, 0)) (by (with_reducible repeat (first | refine blk_drewN ?_ _ | refine blk_drew ?_ | refine blk_alloc ?_ _)); exact BK188.out) hb)
            have n5_ := Aside0.mk (below_step (by repeat (first | (with_reducible first | exact HB.out | apply below_alloc | apply pw_below_drewN | apply below_drew1 | refine below_set ?_ GE188.out) | exact HB.out)) hb)
            clear HO_2
            clear HO_3
            clear HO_189000
            clear HO_189001
            clear BK188
            clear HB
            have HO_2 := n0_
            have HO_3 := n1_
            have HO_189000 := n2_
            have HO_189001 := n3_
            have BK188 := n4_
            have HB := n5_
            clear n0_ n1_ n2_ n3_ n4_ n5_
            (try clear hb)
            (try clear hb2)
            (try clear hk)
            (try clear hi)
            refine hK.out _ _ ⟨(blk_cell BK188.out 0).trans rfl, (blk_cell BK188.out 1).trans rfl, HS2_, HS3_, HS4_, HS5_, HS6_, HS7_, HS8_, HS9_, HS10_, HS11_, HS12_, HS13_⟩ (fun hHeld => ?_)
            clear hK K
            refine norm_ (a' := ?_) ?_ ?_
            rotate_left
            ·
             show Act.put _ (some 38) _ = _
             simp only [Act.put, List.setIfInBounds_toArray, List.set_cons_zero, List.set_cons_succ, i64_w, i32_w]
             rfl
            refine pure_ (i := 10) (N := some 39) (v := ?_) (a' := ?_) QB55_11 rfl rfl (any_of HT_.out (by kernel_rfl)) (fun _ _ _ h => h) (Or.inl ⟨by rfl, ?_⟩) ?_ ?_
            rotate_left
            ·
             intro w'
             go_simp
             with_reducible rfl
            rotate_left
            ·
             simp only [Act.put, List.setIfInBounds_toArray, List.set_cons_zero, List.set_cons_succ, i64_w, i32_w]
             rfl
            refine pure_ (i := 11) (N := some 40) (v := ?_) (a' := ?_) QB55_12 rfl rfl (any_of HT_.out (by kernel_rfl)) (fun _ _ _ h => h) (Or.inl ⟨by rfl, ?_⟩) ?_ ?_
            rotate_left
            ·
             intro w'
             go_simp
             with_reducible rfl
            rotate_left
            ·
             simp only [Act.put, List.setIfInBounds_toArray, List.set_cons_zero, List.set_cons_succ, i64_w, i32_w]
             rfl
            refine pure_ (i := 12) (N := some 41) (v := ?_) (a' := ?_) QB55_13 rfl rfl (any_of HT_.out (by kernel_rfl)) (fun _ _ _ h => h) (Or.inl ⟨by rfl, ?_⟩) ?_ ?_
            rotate_left
            ·
             intro w'
             go_simp
             with_reducible rfl
            rotate_left
            ·
             simp only [Act.put, List.setIfInBounds_toArray, List.set_cons_zero, List.set_cons_succ, i64_w, i32_w]
             rfl
            refine pure_ (i := 15) (N := some 44) (v := ?_) (a' := ?_) QB55_32 rfl rfl (any_of HT_.out (by kernel_rfl)) (fun _ _ _ h => h) (Or.inl ⟨by rfl, ?_⟩) ?_ ?_
            rotate_left
            ·
             intro w'
             go_simp
             with_reducible rfl
            rotate_left
            ·
             simp only [Act.put, List.setIfInBounds_toArray, List.set_cons_zero, List.set_cons_succ, i64_w, i32_w]
             rfl
            refine pure_ (i := 16) (N := some 45) (v := ?_) (a' := ?_) QB55_33 rfl rfl (any_of HT_.out (by kernel_rfl)) (fun _ _ _ h => h) (Or.inl ⟨by rfl, ?_⟩) ?_ ?_
            rotate_left
            ·
             intro w'
             go_simp
             with_reducible rfl
            rotate_left
            ·
             simp only [Act.put, List.setIfInBounds_toArray, List.set_cons_zero, List.set_cons_succ, i64_w, i32_w]
             rfl
            refine take_ (i := 13) (N := some 42) (v := ?_) (a' := ?_) QB55_34 rfl rfl (take_ofW HT_.out HW_.out (by kernel_rfl)) (fun _ _ _ h => h) (Or.inl ⟨by rfl, ?_⟩) hHeld ?_ ?_
            rotate_left
            ·
             rintro w' ⟨s0, s1, s2, s3, s4, s5, s6, s7, s8, s9, s10, s11, s12, s13⟩
             go_simp
             with_reducible rfl
            rotate_left
            ·
             simp only [Act.put, List.setIfInBounds_toArray, List.set_cons_zero, List.set_cons_succ, i64_w, i32_w]
             rfl
            refine take_ (i := 17) (N := some 46) (v := ?_) (a' := ?_) QB55_35 rfl rfl (take_ofW HT_.out HW_.out (by kernel_rfl)) (fun _ _ _ h => h) (Or.inl ⟨by rfl, ?_⟩) hHeld ?_ ?_
            rotate_left
            ·
             rintro w' ⟨s0, s1, s2, s3, s4, s5, s6, s7, s8, s9, s10, s11, s12, s13⟩
             go_simp
             with_reducible rfl
            rotate_left
            ·
             simp only [Act.put, List.setIfInBounds_toArray, List.set_cons_zero, List.set_cons_succ, i64_w, i32_w]
             rfl
            refine one_ (i := 14) (N := some 43) QB55_14 rfl rfl (one_of HT_.out (by kernel_rfl)) (by decide) (fun K hK => ?_)
            refine goes_ Try.func14 (by kernel_rfl) rfl #[.agg #[.slice Ao16 y176.length co16, .slice Ao15 y185.length co15], .int .i64 0] (by rfl) rfl rfl (by (try simp only [List.map_toArray, List.map_cons, List.map_nil]); first | done | rfl | (simp only [List.length_drop, List.length_take]; rfl)) ?_
            with_reducible refine (flow_Rule.calls kj3 _ _ y176 _ _ y185 0 t202 t203 t204 _ ?side1 ?side2 ?side3 ?side4 A37.out).mono ?_
            (case side1 => repeat (first | exact (Kd.R_reads' HO_189000.out).2.2 | (with_reducible refine Kd.C_alloc ?_ _) | (with_reducible refine Kd.C_drewN ?_ _) | (with_reducible refine Kd.C_drew ?_)))
            (case side2 => exact (Kd.R_reads' HO_189000.out).2.1)
            (case side3 => repeat (first | exact (Kd.N_reads' HO_189001.out).2.2 | (with_reducible refine Kd.C_alloc ?_ _) | (with_reducible refine Kd.C_drewN ?_ _) | (with_reducible refine Kd.C_drew ?_)))
            (case side4 => exact (Kd.N_reads' HO_189001.out).2.1)
            rintro e w56 ⟨rfl, hb⟩
            have HS2_ := (hb.cell (World.block_lt_of_cell? _ _ (hHeld.2.2.1))).trans (hHeld.2.2.1)
            have HS3_ := (hb.cell (World.block_lt_of_cell? _ _ (hHeld.2.2.2.1))).trans (hHeld.2.2.2.1)
            have HS4_ := (hb.cell (World.block_lt_of_cell? _ _ (hHeld.2.2.2.2.1))).trans (hHeld.2.2.2.2.1)
            have HS5_ := (hb.cell (World.block_lt_of_cell? _ _ (hHeld.2.2.2.2.2.1))).trans (hHeld.2.2.2.2.2.1)
            have HS6_ := (hb.cell (World.block_lt_of_cell? _ _ (hHeld.2.2.2.2.2.2.1))).trans (hHeld.2.2.2.2.2.2.1)
            have HS7_ := (hb.cell (World.block_lt_of_cell? _ _ (hHeld.2.2.2.2.2.2.2.1))).trans (hHeld.2.2.2.2.2.2.2.1)
            have HS8_ := (hb.cell (World.block_lt_of_cell? _ _ (hHeld.2.2.2.2.2.2.2.2.1))).trans (hHeld.2.2.2.2.2.2.2.2.1)
            have HS9_ := (hb.cell (World.block_lt_of_cell? _ _ (hHeld.2.2.2.2.2.2.2.2.2.1))).trans (hHeld.2.2.2.2.2.2.2.2.2.1)
            have HS10_ := (hb.cell (World.block_lt_of_cell? _ _ (hHeld.2.2.2.2.2.2.2.2.2.2.1))).trans (hHeld.2.2.2.2.2.2.2.2.2.2.1)
            have HS11_ := (hb.cell (World.block_lt_of_cell? _ _ (hHeld.2.2.2.2.2.2.2.2.2.2.2.1))).trans (hHeld.2.2.2.2.2.2.2.2.2.2.2.1)
            have HS12_ := (hb.cell (World.block_lt_of_cell? _ _ (hHeld.2.2.2.2.2.2.2.2.2.2.2.2.1))).trans (hHeld.2.2.2.2.2.2.2.2.2.2.2.2.1)
            have HS13_ := (hb.cell (World.block_lt_of_cell? _ _ (hHeld.2.2.2.2.2.2.2.2.2.2.2.2.2))).trans (hHeld.2.2.2.2.2.2.2.2.2.2.2.2.2)
            refine ⟨_, rfl, ?_⟩
            have n0_ := Aside0.mk (Kd.R_below (by (with_reducible repeat (first | apply Kd.R_alloc | apply Kd.R_drewN | apply Kd.R_drew)); exact HO_2.out) hb)
            have n1_ := Aside0.mk (Kd.R_below (by (with_reducible repeat (first | apply Kd.R_alloc | apply Kd.R_drewN | apply Kd.R_drew)); exact HO_3.out) hb)
            have n2_ := Aside0.mk (Kd.R_below (by (with_reducible repeat (first | apply Kd.R_alloc | apply Kd.R_drewN | apply Kd.R_drew)); exact HO_189000.out) hb)
            have n3_ := Aside0.mk (Kd.N_below (by (with_reducible repeat (first | apply Kd.N_alloc | apply Kd.N_drewN | apply Kd.N_drew)); exact HO_189001.out) hb)
            have n4_ := Aside0.mk (blk_below (g := gb188) (o := .cells #[.slice Ao16 y176.length co16, .slice Ao15 y185.length co15] 25 (0, 0)) (by (with_reducible repeat (first | refine blk_drewN ?_ _ | refine blk_drew ?_ | refine blk_alloc ?_ _)); exact BK188.out) hb)
            have n5_ := Aside0.mk (below_step (by repeat (first | (with_reducible first | exact HB.out | apply below_alloc | apply pw_below_drewN | apply below_drew1 | refine below_set ?_ GE188.out) | exact HB.out)) hb)
            clear HO_2
            clear HO_3
            clear HO_189000
            clear HO_189001
            clear BK188
            clear HB
            have HO_2 := n0_
            have HO_3 := n1_
            have HO_189000 := n2_
            have HO_189001 := n3_
            have BK188 := n4_
            have HB := n5_
            clear n0_ n1_ n2_ n3_ n4_ n5_
            (try clear hb)
            (try clear hb2)
            (try clear hk)
            (try clear hi)
            obtain ⟨Ao57, co57, eo57⟩ := Kd.R_slice HO_3.out
            (first | subst eo57 | (injection eo57 with f1_ f2_ f3_; have f4_ := f1_.symm; have f5_ := f3_.symm; clear f1_ f2_ f3_; subst f4_; subst f5_))
            refine hK.out _ _ ⟨(blk_cell BK188.out 0).trans rfl, (blk_cell BK188.out 1).trans rfl, HS2_, HS3_, HS4_, HS5_, HS6_, HS7_, HS8_, HS9_, HS10_, HS11_, HS12_, HS13_⟩ (fun hHeld => ?_)
            clear hK K
            refine norm_ (a' := ?_) ?_ ?_
            rotate_left
            ·
             show Act.put _ (some 43) _ = _
             simp only [Act.put, List.setIfInBounds_toArray, List.set_cons_zero, List.set_cons_succ, i64_w, i32_w]
             rfl
            refine pure_ (i := 18) (N := some 47) (v := ?_) (a' := ?_) QB55_15 rfl rfl (any_of HT_.out (by kernel_rfl)) (fun _ _ _ h => h) (Or.inl ⟨by rfl, ?_⟩) ?_ ?_
            rotate_left
            ·
             intro w'
             go_simp
             with_reducible rfl
            rotate_left
            ·
             simp only [Act.put, List.setIfInBounds_toArray, List.set_cons_zero, List.set_cons_succ, i64_w, i32_w]
             rfl
            refine pure_ (i := 19) (N := some 48) (v := ?_) (a' := ?_) QB55_16 rfl rfl (any_of HT_.out (by kernel_rfl)) (fun _ _ _ h => h) (Or.inl ⟨by rfl, ?_⟩) ?_ ?_
            rotate_left
            ·
             intro w'
             go_simp
             with_reducible rfl
            rotate_left
            ·
             simp only [Act.put, List.setIfInBounds_toArray, List.set_cons_zero, List.set_cons_succ, i64_w, i32_w]
             rfl
            refine pure_ (i := 20) (N := some 49) (v := ?_) (a' := ?_) QB55_17 rfl rfl (any_of HT_.out (by kernel_rfl)) (fun _ _ _ h => h) (Or.inl ⟨by rfl, ?_⟩) ?_ ?_
            rotate_left
            ·
             intro w'
             go_simp
             with_reducible rfl
            rotate_left
            ·
             simp only [Act.put, List.setIfInBounds_toArray, List.set_cons_zero, List.set_cons_succ, i64_w, i32_w]
             rfl
            refine pure_ (i := 21) (N := some 50) (v := ?_) (a' := ?_) QB55_18 rfl rfl (any_of HT_.out (by kernel_rfl)) (fun _ _ _ h => h) (Or.inl ⟨by rfl, ?_⟩) ?_ ?_
            rotate_left
            ·
             intro w'
             go_simp
             with_reducible rfl
            rotate_left
            ·
             simp only [Act.put, List.setIfInBounds_toArray, List.set_cons_zero, List.set_cons_succ, i64_w, i32_w]
             rfl
            refine pure_ (i := 22) (N := some 51) (v := ?_) (a' := ?_) QB55_19 rfl rfl (any_of HT_.out (by kernel_rfl)) (fun _ _ _ h => h) (Or.inl ⟨by rfl, ?_⟩) ?_ ?_
            rotate_left
            ·
             intro w'
             go_simp
             with_reducible rfl
            rotate_left
            ·
             simp only [Act.put, List.setIfInBounds_toArray, List.set_cons_zero, List.set_cons_succ, i64_w, i32_w]
             rfl
            refine take_ (i := 23) (N := some 52) (v := ?_) (a' := ?_) QB55_20 rfl rfl (take_ofW HT_.out HW_.out (by kernel_rfl)) (fun _ _ _ h => h) (Or.inl ⟨by rfl, ?_⟩) hHeld ?_ ?_
            rotate_left
            ·
             rintro w' ⟨s0, s1, s2, s3, s4, s5, s6, s7, s8, s9, s10, s11, s12, s13⟩
             go_simp
             with_reducible rfl
            rotate_left
            ·
             simp only [Act.put, List.setIfInBounds_toArray, List.set_cons_zero, List.set_cons_succ, i64_w, i32_w]
             rfl
            refine one_ (i := 24) (N := some 53) QB55_21 rfl rfl (one_of HT_.out (by kernel_rfl)) (by decide) (fun K hK => ?_)
            refine goes_ Try.func19 (by kernel_rfl) rfl #[.agg #[.bool ((rd_T36 t195 0).f0), .bool ((rd_T36 t195 0).f1), .bool ((rd_T36 t195 0).f2)]] (by rfl) rfl rfl (by (try simp only [List.map_toArray, List.map_cons, List.map_nil]); first | done | rfl | (simp only [List.length_drop, List.length_take]; rfl)) ?_
            with_reducible refine (flow_Text.calls kj3 ((rd_T36 t195 0).f0) ((rd_T36 t195 0).f1) ((rd_T36 t195 0).f2) t207 _ A40.out).mono ?_
            rintro e w58 ⟨rfl, hb⟩
            have HS2_ := (hb.cell (World.block_lt_of_cell? _ _ (hHeld.2.2.1))).trans (hHeld.2.2.1)
            have HS3_ := (hb.cell (World.block_lt_of_cell? _ _ (hHeld.2.2.2.1))).trans (hHeld.2.2.2.1)
            have HS4_ := (hb.cell (World.block_lt_of_cell? _ _ (hHeld.2.2.2.2.1))).trans (hHeld.2.2.2.2.1)
            have HS5_ := (hb.cell (World.block_lt_of_cell? _ _ (hHeld.2.2.2.2.2.1))).trans (hHeld.2.2.2.2.2.1)
            have HS6_ := (hb.cell (World.block_lt_of_cell? _ _ (hHeld.2.2.2.2.2.2.1))).trans (hHeld.2.2.2.2.2.2.1)
            have HS7_ := (hb.cell (World.block_lt_of_cell? _ _ (hHeld.2.2.2.2.2.2.2.1))).trans (hHeld.2.2.2.2.2.2.2.1)
            have HS8_ := (hb.cell (World.block_lt_of_cell? _ _ (hHeld.2.2.2.2.2.2.2.2.1))).trans (hHeld.2.2.2.2.2.2.2.2.1)
            have HS9_ := (hb.cell (World.block_lt_of_cell? _ _ (hHeld.2.2.2.2.2.2.2.2.2.1))).trans (hHeld.2.2.2.2.2.2.2.2.2.1)
            have HS10_ := (hb.cell (World.block_lt_of_cell? _ _ (hHeld.2.2.2.2.2.2.2.2.2.2.1))).trans (hHeld.2.2.2.2.2.2.2.2.2.2.1)
            have HS11_ := (hb.cell (World.block_lt_of_cell? _ _ (hHeld.2.2.2.2.2.2.2.2.2.2.2.1))).trans (hHeld.2.2.2.2.2.2.2.2.2.2.2.1)
            have HS12_ := (hb.cell (World.block_lt_of_cell? _ _ (hHeld.2.2.2.2.2.2.2.2.2.2.2.2.1))).trans (hHeld.2.2.2.2.2.2.2.2.2.2.2.2.1)
            have HS13_ := (hb.cell (World.block_lt_of_cell? _ _ (hHeld.2.2.2.2.2.2.2.2.2.2.2.2.2))).trans (hHeld.2.2.2.2.2.2.2.2.2.2.2.2.2)
            refine ⟨_, rfl, ?_⟩
            have n0_ := Aside0.mk (Kd.R_below (by (with_reducible repeat (first | apply Kd.R_alloc | apply Kd.R_drewN | apply Kd.R_drew)); exact HO_2.out) hb)
            have n1_ := Aside0.mk (Kd.R_below (by (with_reducible repeat (first | apply Kd.R_alloc | apply Kd.R_drewN | apply Kd.R_drew)); exact HO_3.out) hb)
            have n2_ := Aside0.mk (Kd.R_below (by (with_reducible repeat (first | apply Kd.R_alloc | apply Kd.R_drewN | apply Kd.R_drew)); exact HO_189000.out) hb)
            have n3_ := Aside0.mk (Kd.N_below (by (with_reducible repeat (first | apply Kd.N_alloc | apply Kd.N_drewN | apply Kd.N_drew)); exact HO_189001.out) hb)
            have n4_ := Aside0.mk (blk_below (g := gb188) (o := .cells #[.slice Ao16 y176.length co16, .slice Ao15 y185.length co15] 25 (0, 0)) (by (with_reducible repeat (first | refine blk_drewN ?_ _ | refine blk_drew ?_ | refine blk_alloc ?_ _)); exact BK188.out) hb)
            have n5_ := Aside0.mk (below_step (by repeat (first | (with_reducible first | exact HB.out | apply below_alloc | apply pw_below_drewN | apply below_drew1 | refine below_set ?_ GE188.out) | exact HB.out)) hb)
            clear HO_2
            clear HO_3
            clear HO_189000
            clear HO_189001
            clear BK188
            clear HB
            have HO_2 := n0_
            have HO_3 := n1_
            have HO_189000 := n2_
            have HO_189001 := n3_
            have BK188 := n4_
            have HB := n5_
            clear n0_ n1_ n2_ n3_ n4_ n5_
            (try clear hb)
            (try clear hb2)
            (try clear hk)
            (try clear hi)
            refine hK.out _ _ ⟨(blk_cell BK188.out 0).trans rfl, (blk_cell BK188.out 1).trans rfl, HS2_, HS3_, HS4_, HS5_, HS6_, HS7_, HS8_, HS9_, HS10_, HS11_, HS12_, HS13_⟩ (fun hHeld => ?_)
            clear hK K
            refine norm_ (a' := ?_) ?_ ?_
            rotate_left
            ·
             show Act.put _ (some 53) _ = _
             simp only [Act.put, List.setIfInBounds_toArray, List.set_cons_zero, List.set_cons_succ, i64_w, i32_w]
             rfl
            refine pure_ (i := 25) (N := some 54) (v := ?_) (a' := ?_) QB55_22 rfl rfl (any_of HT_.out (by kernel_rfl)) (fun _ _ _ h => h) (Or.inl ⟨by rfl, ?_⟩) ?_ ?_
            rotate_left
            ·
             intro w'
             go_simp
             with_reducible rfl
            rotate_left
            ·
             simp only [Act.put, List.setIfInBounds_toArray, List.set_cons_zero, List.set_cons_succ, i64_w, i32_w]
             rfl
            refine pure_ (i := 26) (N := some 55) (v := ?_) (a' := ?_) QB55_23 rfl rfl (any_of HT_.out (by kernel_rfl)) (fun _ _ _ h => h) (Or.inl ⟨by rfl, ?_⟩) ?_ ?_
            rotate_left
            ·
             intro w'
             go_simp
             with_reducible rfl
            rotate_left
            ·
             simp only [Act.put, List.setIfInBounds_toArray, List.set_cons_zero, List.set_cons_succ, i64_w, i32_w]
             rfl
            refine pure_ (i := 27) (N := some 56) (v := ?_) (a' := ?_) QB55_24 rfl rfl (any_of HT_.out (by kernel_rfl)) (fun _ _ _ h => h) (Or.inl ⟨by rfl, ?_⟩) ?_ ?_
            rotate_left
            ·
             intro w'
             go_simp
             with_reducible rfl
            rotate_left
            ·
             simp only [Act.put, List.setIfInBounds_toArray, List.set_cons_zero, List.set_cons_succ, i64_w, i32_w]
             rfl
            refine pure_ (i := 28) (N := some 57) (v := undef) (a' := ?_) QB55_25 rfl rfl (any_of HT_.out (by kernel_rfl)) (fun _ _ _ h => h) (Or.inr ⟨by rfl, rfl⟩) ?_ ?_
            rotate_left
            ·
             simp only [Act.put, List.setIfInBounds_toArray, List.set_cons_zero, List.set_cons_succ, i64_w, i32_w]
             rfl
            refine pure_ (i := 29) (N := some 58) (v := undef) (a' := ?_) QB55_26 rfl rfl (any_of HT_.out (by kernel_rfl)) (fun _ _ _ h => h) (Or.inr ⟨by rfl, rfl⟩) ?_ ?_
            rotate_left
            ·
             simp only [Act.put, List.setIfInBounds_toArray, List.set_cons_zero, List.set_cons_succ, i64_w, i32_w]
             rfl
            refine pure_ (i := 30) (N := some 59) (v := undef) (a' := ?_) QB55_27 rfl rfl (any_of HT_.out (by kernel_rfl)) (fun _ _ _ h => h) (Or.inr ⟨by rfl, rfl⟩) ?_ ?_
            rotate_left
            ·
             simp only [Act.put, List.setIfInBounds_toArray, List.set_cons_zero, List.set_cons_succ, i64_w, i32_w]
             rfl
            refine pure_ (i := 31) (N := some 60) (v := undef) (a' := ?_) QB55_28 rfl rfl (any_of HT_.out (by kernel_rfl)) (fun _ _ _ h => h) (Or.inr ⟨by rfl, rfl⟩) ?_ ?_
            rotate_left
            ·
             simp only [Act.put, List.setIfInBounds_toArray, List.set_cons_zero, List.set_cons_succ, i64_w, i32_w]
             rfl
            refine pure_ (i := 32) (N := some 61) (v := undef) (a' := ?_) QB55_29 rfl rfl (any_of HT_.out (by kernel_rfl)) (fun _ _ _ h => h) (Or.inr ⟨by rfl, rfl⟩) ?_ ?_
            rotate_left
            ·
             simp only [Act.put, List.setIfInBounds_toArray, List.set_cons_zero, List.set_cons_succ, i64_w, i32_w]
             rfl
            refine pure_ (i := 33) (N := some 62) (v := ?_) (a' := ?_) QB55_30 rfl rfl (any_of HT_.out (by kernel_rfl)) (fun _ _ _ h => h) (Or.inl ⟨by rfl, ?_⟩) ?_ ?_
            rotate_left
            ·
             intro w'
             go_simp
             with_reducible rfl
            rotate_left
            ·
             simp only [Act.put, List.setIfInBounds_toArray, List.set_cons_zero, List.set_cons_succ, i64_w, i32_w]
             rfl
            refine pure_ (i := 34) (N := some 0) (v := ?_) (a' := ?_) QB55_31 rfl rfl (any_of HT_.out (by kernel_rfl)) (fun _ _ _ h => h) (Or.inl ⟨by rfl, ?_⟩) ?_ ?_
            rotate_left
            ·
             intro w'
             go_simp
             with_reducible rfl
            rotate_left
            ·
             simp only [Act.put, List.setIfInBounds_toArray, List.set_cons_zero, List.set_cons_succ, i64_w, i32_w]
             rfl
            refine done_ (done_of HT_.out (by kernel_rfl)) ?_
            try go_wp2
            go_ret
            exact ⟨by first | rfl | (simp [errW_none, errW_some] <;> rfl) | (simp [*, errW_none, errW_some] <;> rfl), by repeat (first | (with_reducible first | exact HB.out | apply below_alloc | apply pw_below_drewN | apply below_drew1 | refine below_set ?_ GE188.out) | exact HB.out)⟩
          ·
           rw [if_neg c39] at H
           exact absurd H (by simp)
         ·
          rw [if_neg c38] at H
          have c38b0 : (t202 == ((rd_T36 t189 4).f0) && (t203 == ((rd_T36 t189 4).f1) && (t204 == ((rd_T36 t189 4).f2)))) = false := by simpa using c38
          (try (have c38b1 : decide (t202 = ((rd_T36 t189 4).f0) && (t203 == ((rd_T36 t189 4).f1) && (t204 == ((rd_T36 t189 4).f2)))) = false := by simpa using c38))
          (try (have c38b2 : (t202 == ((rd_T36 t189 4).f0) && (t203 == ((rd_T36 t189 4).f1) && (t204 == ((rd_T36 t189 4).f2)))) = false := by simpa using c38))
          (try (have c38b3 : ¬ (t202 = ((rd_T36 t189 4).f0) && (t203 == ((rd_T36 t189 4).f1) && (t204 == ((rd_T36 t189 4).f2)))) := by simpa using c38))
          clear c38
          obtain rfl := Option.some.inj H
          try go_wp2
          have n0_ := Aside0.mk (Kd.R_drew HO_2.out)
          have n1_ := Aside0.mk (Kd.R_drew HO_3.out)
          have n2_ := Aside0.mk (Kd.R_drew HO_189000.out)
          have n3_ := Aside0.mk (Kd.N_drew HO_189001.out)
          have n4_ := Aside0.mk (blk_drew BK188.out)
          have n5_ := Aside0.mk (below_drew1 HB.out)
          clear HO_2
          clear HO_3
          clear HO_189000
          clear HO_189001
          clear BK188
          clear HB
          have HO_2 := n0_
          have HO_3 := n1_
          have HO_189000 := n2_
          have HO_189001 := n3_
          have BK188 := n4_
          have HB := n5_
          clear n0_ n1_ n2_ n3_ n4_ n5_
          obtain ⟨Ao60, co60, eo60⟩ := Kd.R_slice HO_2.out
          (first | subst eo60 | (injection eo60 with f1_ f2_ f3_; have f4_ := f1_.symm; have f5_ := f3_.symm; clear f1_ f2_ f3_; subst f4_; subst f5_))
          have p198 : 0 ≤ (2 : Int) := (by omega)
          have q198 : 2 < (t189.length : Int) := of_decide_eq_true (by first | (with_reducible assumption) | assumption)
          obtain ⟨ad198, e198, hx198_0, hx198_1, hx198_2⟩ := at_T36 (Kd.R_reads' HO_2.out).2.2 2 p198 q198
          cases e198
          (try simp only [show (2 : Int).toNat = 2 from rfl, Nat.reduceMul, Nat.reduceEqDiff, Go.Addr.add, ↓reduceIte] at hx198_0)
          (try simp only [show (2 : Int).toNat = 2 from rfl, Nat.reduceMul, Nat.reduceEqDiff, Go.Addr.add, ↓reduceIte] at hx198_1)
          (try simp only [show (2 : Int).toNat = 2 from rfl, Nat.reduceMul, Nat.reduceEqDiff, Go.Addr.add, ↓reduceIte] at hx198_2)
          have qi198 : (2 < t189.length) = True := eq_true (by omega)
          (try rw [show ((2 : Int)).toNat = 2 from rfl] at hx198_0)
          (try rw [show 2 * 3 = 6 from rfl] at hx198_0)
          (try rw [show ((2 : Int)).toNat = 2 from rfl] at hx198_1)
          (try rw [show 2 * 3 = 6 from rfl] at hx198_1)
          (try rw [show ((2 : Int)).toNat = 2 from rfl] at hx198_2)
          (try rw [show 2 * 3 = 6 from rfl] at hx198_2)
          replace p198 := eq_true p198
          replace q198 := eq_true q198
          have p200 : 0 ≤ (4 : Int) := (by omega)
          have q200 : 4 < (t189.length : Int) := of_decide_eq_true (by first | (with_reducible assumption) | assumption)
          obtain ⟨ad200, e200, hx200_0, hx200_1, hx200_2⟩ := at_T36 (Kd.R_reads' HO_2.out).2.2 4 p200 q200
          obtain rfl : ad198 = ad200 := (by injection e200)
          (try simp only [show (4 : Int).toNat = 4 from rfl, Nat.reduceMul, Nat.reduceEqDiff, Go.Addr.add, ↓reduceIte] at hx200_0)
          (try simp only [show (4 : Int).toNat = 4 from rfl, Nat.reduceMul, Nat.reduceEqDiff, Go.Addr.add, ↓reduceIte] at hx200_1)
          (try simp only [show (4 : Int).toNat = 4 from rfl, Nat.reduceMul, Nat.reduceEqDiff, Go.Addr.add, ↓reduceIte] at hx200_2)
          have qi200 : (4 < t189.length) = True := eq_true (by omega)
          (try rw [show ((4 : Int)).toNat = 4 from rfl] at hx200_0)
          (try rw [show 4 * 3 = 12 from rfl] at hx200_0)
          (try rw [show ((4 : Int)).toNat = 4 from rfl] at hx200_1)
          (try rw [show 4 * 3 = 12 from rfl] at hx200_1)
          (try rw [show ((4 : Int)).toNat = 4 from rfl] at hx200_2)
          (try rw [show 4 * 3 = 12 from rfl] at hx200_2)
          replace p200 := eq_true p200
          replace q200 := eq_true q200
          have p205 : 0 ≤ (4 : Int) := (by omega)
          have q205 : 4 < (t189.length : Int) := of_decide_eq_true (by first | (with_reducible assumption) | assumption)
          obtain ⟨ad205, e205, hx205_0, hx205_1, hx205_2⟩ := at_T36 (Kd.R_reads' HO_2.out).2.2 4 p205 q205
          obtain rfl : ad198 = ad205 := (by injection e205)
          (try simp only [show (4 : Int).toNat = 4 from rfl, Nat.reduceMul, Nat.reduceEqDiff, Go.Addr.add, ↓reduceIte] at hx205_0)
          (try simp only [show (4 : Int).toNat = 4 from rfl, Nat.reduceMul, Nat.reduceEqDiff, Go.Addr.add, ↓reduceIte] at hx205_1)
          (try simp only [show (4 : Int).toNat = 4 from rfl, Nat.reduceMul, Nat.reduceEqDiff, Go.Addr.add, ↓reduceIte] at hx205_2)
          have qi205 : (4 < t189.length) = True := eq_true (by omega)
          (try rw [show ((4 : Int)).toNat = 4 from rfl] at hx205_0)
          (try rw [show 4 * 3 = 12 from rfl] at hx205_0)
          (try rw [show ((4 : Int)).toNat = 4 from rfl] at hx205_1)
          (try rw [show 4 * 3 = 12 from rfl] at hx205_1)
          (try rw [show ((4 : Int)).toNat = 4 from rfl] at hx205_2)
          (try rw [show 4 * 3 = 12 from rfl] at hx205_2)
          replace p205 := eq_true p205
          replace q205 := eq_true q205
          refine start_ (n := 35) (S := fun w' => w'.cell? ⟨gb188, 0, none⟩ = some (.slice Ao16 y176.length co16) ∧ w'.cell? ⟨gb188, 1, none⟩ = some (.slice Ao15 y185.length co15) ∧ w'.cell? ⟨ad198.block, ad198.off + 6, none⟩ = some (.bool ((rd_T36 t189 2).f0)) ∧ w'.cell? ⟨ad198.block, ad198.off + 6 + 1, none⟩ = some (.bool ((rd_T36 t189 2).f1)) ∧ w'.cell? ⟨ad198.block, ad198.off + 6 + 2, none⟩ = some (.bool ((rd_T36 t189 2).f2)) ∧ w'.cell? ⟨ad198.block, ad198.off + 12, none⟩ = some (.bool ((rd_T36 t189 4).f0)) ∧ w'.cell? ⟨ad198.block, ad198.off + 12 + 1, none⟩ = some (.bool ((rd_T36 t189 4).f1)) ∧ w'.cell? ⟨ad198.block, ad198.off + 12 + 2, none⟩ = some (.bool ((rd_T36 t189 4).f2)) ∧ w'.cell? ⟨ad198.block, ad198.off + 12, none⟩ = some (.bool ((rd_T36 t189 4).f0)) ∧ w'.cell? ⟨ad198.block, ad198.off + 12 + 1, none⟩ = some (.bool ((rd_T36 t189 4).f1)) ∧ w'.cell? ⟨ad198.block, ad198.off + 12 + 2, none⟩ = some (.bool ((rd_T36 t189 4).f2))) (ds := []) QB55_0 (by kernel_rfl) rfl rfl ⟨(blk_cell BK188.out 0).trans rfl, (blk_cell BK188.out 1).trans rfl, hx198_0, hx198_1, hx198_2, hx200_0, hx200_1, hx200_2, hx205_0, hx205_1, hx205_2⟩ (fun hHeld => ?_); refine with_tabW vetchlaw11_awake.tab6 vetchlaw11_awake.bits6 (fun HT_ HW_ => ?_)
          generalize wc.drew = w59 at HO_2 HO_3 HO_189000 HO_189001 BK188 HB hx198_0 hx198_1 hx198_2 hx200_0 hx200_1 hx200_2 hx205_0 hx205_1 hx205_2 hHeld ⊢
          refine pure_ (i := 0) (N := some 29) (v := ?_) (a' := ?_) QB55_1 rfl rfl (any_of HT_.out (by kernel_rfl)) (fun _ _ _ h => h) (Or.inl ⟨by rfl, ?_⟩) ?_ ?_
          rotate_left
          ·
           intro w'
           go_simp
           with_reducible rfl
          rotate_left
          ·
           simp only [Act.put, List.setIfInBounds_toArray, List.set_cons_zero, List.set_cons_succ, i64_w, i32_w]
           rfl
          refine pure_ (i := 1) (N := some 30) (v := ?_) (a' := ?_) QB55_2 rfl rfl (any_of HT_.out (by kernel_rfl)) (fun _ _ _ h => h) (Or.inl ⟨by rfl, ?_⟩) ?_ ?_
          rotate_left
          ·
           intro w'
           go_simp
           with_reducible rfl
          rotate_left
          ·
           simp only [Act.put, List.setIfInBounds_toArray, List.set_cons_zero, List.set_cons_succ, i64_w, i32_w]
           rfl
          refine take_ (i := 2) (N := some 31) (v := ?_) (a' := ?_) QB55_3 rfl rfl (take_ofW HT_.out HW_.out (by kernel_rfl)) (fun _ _ _ h => h) (Or.inl ⟨by rfl, ?_⟩) hHeld ?_ ?_
          rotate_left
          ·
           rintro w' ⟨s0, s1, s2, s3, s4, s5, s6, s7, s8, s9, s10⟩
           go_simp
           with_reducible rfl
          rotate_left
          ·
           simp only [Act.put, List.setIfInBounds_toArray, List.set_cons_zero, List.set_cons_succ, i64_w, i32_w]
           rfl
          refine one_ (i := 3) (N := some 32) QB55_4 rfl rfl (one_of HT_.out (by kernel_rfl)) (by decide) (fun K hK => ?_)
          refine goes_ Try.func19 (by kernel_rfl) rfl #[.agg #[.bool ((rd_T36 t189 2).f0), .bool ((rd_T36 t189 2).f1), .bool ((rd_T36 t189 2).f2)]] (by rfl) rfl rfl (by (try simp only [List.map_toArray, List.map_cons, List.map_nil]); first | done | rfl | (simp only [List.length_drop, List.length_take]; rfl)) ?_
          with_reducible refine (flow_Text.calls kj3 ((rd_T36 t189 2).f0) ((rd_T36 t189 2).f1) ((rd_T36 t189 2).f2) t199 _ A32.out).mono ?_
          rintro e w61 ⟨rfl, hb⟩
          have HS2_ := (hb.cell (World.block_lt_of_cell? _ _ (hHeld.2.2.1))).trans (hHeld.2.2.1)
          have HS3_ := (hb.cell (World.block_lt_of_cell? _ _ (hHeld.2.2.2.1))).trans (hHeld.2.2.2.1)
          have HS4_ := (hb.cell (World.block_lt_of_cell? _ _ (hHeld.2.2.2.2.1))).trans (hHeld.2.2.2.2.1)
          have HS5_ := (hb.cell (World.block_lt_of_cell? _ _ (hHeld.2.2.2.2.2.1))).trans (hHeld.2.2.2.2.2.1)
          have HS6_ := (hb.cell (World.block_lt_of_cell? _ _ (hHeld.2.2.2.2.2.2.1))).trans (hHeld.2.2.2.2.2.2.1)
          have HS7_ := (hb.cell (World.block_lt_of_cell? _ _ (hHeld.2.2.2.2.2.2.2.1))).trans (hHeld.2.2.2.2.2.2.2.1)
          have HS8_ := (hb.cell (World.block_lt_of_cell? _ _ (hHeld.2.2.2.2.2.2.2.2.1))).trans (hHeld.2.2.2.2.2.2.2.2.1)
          have HS9_ := (hb.cell (World.block_lt_of_cell? _ _ (hHeld.2.2.2.2.2.2.2.2.2.1))).trans (hHeld.2.2.2.2.2.2.2.2.2.1)
          have HS10_ := (hb.cell (World.block_lt_of_cell? _ _ (hHeld.2.2.2.2.2.2.2.2.2.2))).trans (hHeld.2.2.2.2.2.2.2.2.2.2)
          refine ⟨_, rfl, ?_⟩
          have n0_ := Aside0.mk (Kd.R_below (by (with_reducible repeat (first | apply Kd.R_alloc | apply Kd.R_drewN | apply Kd.R_drew)); exact HO_2.out) hb)
          have n1_ := Aside0.mk (Kd.R_below (by (with_reducible repeat (first | apply Kd.R_alloc | apply Kd.R_drewN | apply Kd.R_drew)); exact HO_3.out) hb)
          have n2_ := Aside0.mk (Kd.R_below (by (with_reducible repeat (first | apply Kd.R_alloc | apply Kd.R_drewN | apply Kd.R_drew)); exact HO_189000.out) hb)
          have n3_ := Aside0.mk (Kd.N_below (by (with_reducible repeat (first | apply Kd.N_alloc | apply Kd.N_drewN | apply Kd.N_drew)); exact HO_189001.out) hb)
          have n4_ := Aside0.mk (blk_below (g := gb188) (o := .cells #[.slice Ao16 y176.length co16, .slice Ao15 y185.length co15] 25 (0, 0)) (by (with_reducible repeat (first | refine blk_drewN ?_ _ | refine blk_drew ?_ | refine blk_alloc ?_ _)); exact BK188.out) hb)
          have n5_ := Aside0.mk (below_step (by repeat (first | (with_reducible first | exact HB.out | apply below_alloc | apply pw_below_drewN | apply below_drew1 | refine below_set ?_ GE188.out) | exact HB.out)) hb)
          clear HO_2
          clear HO_3
          clear HO_189000
          clear HO_189001
          clear BK188
          clear HB
          have HO_2 := n0_
          have HO_3 := n1_
          have HO_189000 := n2_
          have HO_189001 := n3_
          have BK188 := n4_
          have HB := n5_
          clear n0_ n1_ n2_ n3_ n4_ n5_
          (try clear hb)
          (try clear hb2)
          (try clear hk)
          (try clear hi)
          refine hK.out _ _ ⟨(blk_cell BK188.out 0).trans rfl, (blk_cell BK188.out 1).trans rfl, HS2_, HS3_, HS4_, HS5_, HS6_, HS7_, HS8_, HS9_, HS10_⟩ (fun hHeld => ?_)
          clear hK K
          refine norm_ (a' := ?_) ?_ ?_
          rotate_left
          ·
           show Act.put _ (some 32) _ = _
           simp only [Act.put, List.setIfInBounds_toArray, List.set_cons_zero, List.set_cons_succ, i64_w, i32_w]
           rfl
          refine pure_ (i := 4) (N := some 33) (v := ?_) (a' := ?_) QB55_5 rfl rfl (any_of HT_.out (by kernel_rfl)) (fun _ _ _ h => h) (Or.inl ⟨by rfl, ?_⟩) ?_ ?_
          rotate_left
          ·
           intro w'
           go_simp
           with_reducible rfl
          rotate_left
          ·
           simp only [Act.put, List.setIfInBounds_toArray, List.set_cons_zero, List.set_cons_succ, i64_w, i32_w]
           rfl
          refine pure_ (i := 5) (N := some 34) (v := ?_) (a' := ?_) QB55_6 rfl rfl (any_of HT_.out (by kernel_rfl)) (fun _ _ _ h => h) (Or.inl ⟨by rfl, ?_⟩) ?_ ?_
          rotate_left
          ·
           intro w'
           go_simp
           with_reducible rfl
          rotate_left
          ·
           simp only [Act.put, List.setIfInBounds_toArray, List.set_cons_zero, List.set_cons_succ, i64_w, i32_w]
           rfl
          refine pure_ (i := 6) (N := some 35) (v := ?_) (a' := ?_) QB55_7 rfl rfl (any_of HT_.out (by kernel_rfl)) (fun _ _ _ h => h) (Or.inl ⟨by rfl, ?_⟩) ?_ ?_
          rotate_left
          ·
           intro w'
           go_simp
           with_reducible rfl
          rotate_left
          ·
           simp only [Act.put, List.setIfInBounds_toArray, List.set_cons_zero, List.set_cons_succ, i64_w, i32_w]
           rfl
          refine pure_ (i := 7) (N := some 36) (v := ?_) (a' := ?_) QB55_8 rfl rfl (any_of HT_.out (by kernel_rfl)) (fun _ _ _ h => h) (Or.inl ⟨by rfl, ?_⟩) ?_ ?_
          rotate_left
          ·
           intro w'
           go_simp
           with_reducible rfl
          rotate_left
          ·
           simp only [Act.put, List.setIfInBounds_toArray, List.set_cons_zero, List.set_cons_succ, i64_w, i32_w]
           rfl
          refine take_ (i := 8) (N := some 37) (v := ?_) (a' := ?_) QB55_9 rfl rfl (take_ofW HT_.out HW_.out (by kernel_rfl)) (fun _ _ _ h => h) (Or.inl ⟨by rfl, ?_⟩) hHeld ?_ ?_
          rotate_left
          ·
           rintro w' ⟨s0, s1, s2, s3, s4, s5, s6, s7, s8, s9, s10⟩
           go_simp
           with_reducible rfl
          rotate_left
          ·
           simp only [Act.put, List.setIfInBounds_toArray, List.set_cons_zero, List.set_cons_succ, i64_w, i32_w]
           rfl
          refine one_ (i := 9) (N := some 38) QB55_10 rfl rfl (one_of HT_.out (by kernel_rfl)) (by decide) (fun K hK => ?_)
          refine goes_ Try.func19 (by kernel_rfl) rfl #[.agg #[.bool ((rd_T36 t189 4).f0), .bool ((rd_T36 t189 4).f1), .bool ((rd_T36 t189 4).f2)]] (by rfl) rfl rfl (by (try simp only [List.map_toArray, List.map_cons, List.map_nil]); first | done | rfl | (simp only [List.length_drop, List.length_take]; rfl)) ?_
          with_reducible refine (flow_Text.calls kj3 ((rd_T36 t189 4).f0) ((rd_T36 t189 4).f1) ((rd_T36 t189 4).f2) t201 _ A35.out).mono ?_
          rintro e w62 ⟨rfl, hb⟩
          have HS2_ := (hb.cell (World.block_lt_of_cell? _ _ (hHeld.2.2.1))).trans (hHeld.2.2.1)
          have HS3_ := (hb.cell (World.block_lt_of_cell? _ _ (hHeld.2.2.2.1))).trans (hHeld.2.2.2.1)
          have HS4_ := (hb.cell (World.block_lt_of_cell? _ _ (hHeld.2.2.2.2.1))).trans (hHeld.2.2.2.2.1)
          have HS5_ := (hb.cell (World.block_lt_of_cell? _ _ (hHeld.2.2.2.2.2.1))).trans (hHeld.2.2.2.2.2.1)
          have HS6_ := (hb.cell (World.block_lt_of_cell? _ _ (hHeld.2.2.2.2.2.2.1))).trans (hHeld.2.2.2.2.2.2.1)
          have HS7_ := (hb.cell (World.block_lt_of_cell? _ _ (hHeld.2.2.2.2.2.2.2.1))).trans (hHeld.2.2.2.2.2.2.2.1)
          have HS8_ := (hb.cell (World.block_lt_of_cell? _ _ (hHeld.2.2.2.2.2.2.2.2.1))).trans (hHeld.2.2.2.2.2.2.2.2.1)
          have HS9_ := (hb.cell (World.block_lt_of_cell? _ _ (hHeld.2.2.2.2.2.2.2.2.2.1))).trans (hHeld.2.2.2.2.2.2.2.2.2.1)
          have HS10_ := (hb.cell (World.block_lt_of_cell? _ _ (hHeld.2.2.2.2.2.2.2.2.2.2))).trans (hHeld.2.2.2.2.2.2.2.2.2.2)
          refine ⟨_, rfl, ?_⟩
          have n0_ := Aside0.mk (Kd.R_below (by (with_reducible repeat (first | apply Kd.R_alloc | apply Kd.R_drewN | apply Kd.R_drew)); exact HO_2.out) hb)
          have n1_ := Aside0.mk (Kd.R_below (by (with_reducible repeat (first | apply Kd.R_alloc | apply Kd.R_drewN | apply Kd.R_drew)); exact HO_3.out) hb)
          have n2_ := Aside0.mk (Kd.R_below (by (with_reducible repeat (first | apply Kd.R_alloc | apply Kd.R_drewN | apply Kd.R_drew)); exact HO_189000.out) hb)
          have n3_ := Aside0.mk (Kd.N_below (by (with_reducible repeat (first | apply Kd.N_alloc | apply Kd.N_drewN | apply Kd.N_drew)); exact HO_189001.out) hb)
          have n4_ := Aside0.mk (blk_below (g := gb188) (o := .cells #[.slice Ao16 y176.length co16, .slice Ao15 y185.length co15] 25 (0, 0)) (by (with_reducible repeat (first | refine blk_drewN ?_ _ | refine blk_drew ?_ | refine blk_alloc ?_ _)); exact BK188.out) hb)
          have n5_ := Aside0.mk (below_step (by repeat (first | (with_reducible first | exact HB.out | apply below_alloc | apply pw_below_drewN | apply below_drew1 | refine below_set ?_ GE188.out) | exact HB.out)) hb)
          clear HO_2
          clear HO_3
          clear HO_189000
          clear HO_189001
          clear BK188
          clear HB
          have HO_2 := n0_
          have HO_3 := n1_
          have HO_189000 := n2_
          have HO_189001 := n3_
          have BK188 := n4_
          have HB := n5_
          clear n0_ n1_ n2_ n3_ n4_ n5_
          (try clear hb)
          (try clear hb2)
          (try clear hk)
          (try clear hi)
          refine hK.out _ _ ⟨(blk_cell BK188.out 0).trans rfl, (blk_cell BK188.out 1).trans rfl, HS2_, HS3_, HS4_, HS5_, HS6_, HS7_, HS8_, HS9_, HS10_⟩ (fun hHeld => ?_)
          clear hK K
          refine norm_ (a' := ?_) ?_ ?_
          rotate_left
          ·
           show Act.put _ (some 38) _ = _
           simp only [Act.put, List.setIfInBounds_toArray, List.set_cons_zero, List.set_cons_succ, i64_w, i32_w]
           rfl
          refine pure_ (i := 10) (N := some 39) (v := ?_) (a' := ?_) QB55_11 rfl rfl (any_of HT_.out (by kernel_rfl)) (fun _ _ _ h => h) (Or.inl ⟨by rfl, ?_⟩) ?_ ?_
          rotate_left
          ·
           intro w'
           go_simp
           with_reducible rfl
          rotate_left
          ·
           simp only [Act.put, List.setIfInBounds_toArray, List.set_cons_zero, List.set_cons_succ, i64_w, i32_w]
           rfl
          refine pure_ (i := 11) (N := some 40) (v := ?_) (a' := ?_) QB55_12 rfl rfl (any_of HT_.out (by kernel_rfl)) (fun _ _ _ h => h) (Or.inl ⟨by rfl, ?_⟩) ?_ ?_
          rotate_left
          ·
           intro w'
           go_simp
           with_reducible rfl
          rotate_left
          ·
           simp only [Act.put, List.setIfInBounds_toArray, List.set_cons_zero, List.set_cons_succ, i64_w, i32_w]
           rfl
          refine pure_ (i := 12) (N := some 41) (v := ?_) (a' := ?_) QB55_13 rfl rfl (any_of HT_.out (by kernel_rfl)) (fun _ _ _ h => h) (Or.inl ⟨by rfl, ?_⟩) ?_ ?_
          rotate_left
          ·
           intro w'
           go_simp
           with_reducible rfl
          rotate_left
          ·
           simp only [Act.put, List.setIfInBounds_toArray, List.set_cons_zero, List.set_cons_succ, i64_w, i32_w]
           rfl
          refine pure_ (i := 15) (N := some 44) (v := ?_) (a' := ?_) QB55_32 rfl rfl (any_of HT_.out (by kernel_rfl)) (fun _ _ _ h => h) (Or.inl ⟨by rfl, ?_⟩) ?_ ?_
          rotate_left
          ·
           intro w'
           go_simp
           with_reducible rfl
          rotate_left
          ·
           simp only [Act.put, List.setIfInBounds_toArray, List.set_cons_zero, List.set_cons_succ, i64_w, i32_w]
           rfl
          refine pure_ (i := 16) (N := some 45) (v := ?_) (a' := ?_) QB55_33 rfl rfl (any_of HT_.out (by kernel_rfl)) (fun _ _ _ h => h) (Or.inl ⟨by rfl, ?_⟩) ?_ ?_
          rotate_left
          ·
           intro w'
           go_simp
           with_reducible rfl
          rotate_left
          ·
           simp only [Act.put, List.setIfInBounds_toArray, List.set_cons_zero, List.set_cons_succ, i64_w, i32_w]
           rfl
          refine take_ (i := 13) (N := some 42) (v := ?_) (a' := ?_) QB55_34 rfl rfl (take_ofW HT_.out HW_.out (by kernel_rfl)) (fun _ _ _ h => h) (Or.inl ⟨by rfl, ?_⟩) hHeld ?_ ?_
          rotate_left
          ·
           rintro w' ⟨s0, s1, s2, s3, s4, s5, s6, s7, s8, s9, s10⟩
           go_simp
           with_reducible rfl
          rotate_left
          ·
           simp only [Act.put, List.setIfInBounds_toArray, List.set_cons_zero, List.set_cons_succ, i64_w, i32_w]
           rfl
          refine take_ (i := 17) (N := some 46) (v := ?_) (a' := ?_) QB55_35 rfl rfl (take_ofW HT_.out HW_.out (by kernel_rfl)) (fun _ _ _ h => h) (Or.inl ⟨by rfl, ?_⟩) hHeld ?_ ?_
          rotate_left
          ·
           rintro w' ⟨s0, s1, s2, s3, s4, s5, s6, s7, s8, s9, s10⟩
           go_simp
           with_reducible rfl
          rotate_left
          ·
           simp only [Act.put, List.setIfInBounds_toArray, List.set_cons_zero, List.set_cons_succ, i64_w, i32_w]
           rfl
          refine one_ (i := 14) (N := some 43) QB55_14 rfl rfl (one_of HT_.out (by kernel_rfl)) (by decide) (fun K hK => ?_)
          refine goes_ Try.func14 (by kernel_rfl) rfl #[.agg #[.slice Ao16 y176.length co16, .slice Ao15 y185.length co15], .int .i64 0] (by rfl) rfl rfl (by (try simp only [List.map_toArray, List.map_cons, List.map_nil]); first | done | rfl | (simp only [List.length_drop, List.length_take]; rfl)) ?_
          with_reducible refine (flow_Rule.calls kj3 _ _ y176 _ _ y185 0 t202 t203 t204 _ ?side1 ?side2 ?side3 ?side4 A37.out).mono ?_
          (case side1 => repeat (first | exact (Kd.R_reads' HO_189000.out).2.2 | (with_reducible refine Kd.C_alloc ?_ _) | (with_reducible refine Kd.C_drewN ?_ _) | (with_reducible refine Kd.C_drew ?_)))
          (case side2 => exact (Kd.R_reads' HO_189000.out).2.1)
          (case side3 => repeat (first | exact (Kd.N_reads' HO_189001.out).2.2 | (with_reducible refine Kd.C_alloc ?_ _) | (with_reducible refine Kd.C_drewN ?_ _) | (with_reducible refine Kd.C_drew ?_)))
          (case side4 => exact (Kd.N_reads' HO_189001.out).2.1)
          rintro e w63 ⟨rfl, hb⟩
          have HS2_ := (hb.cell (World.block_lt_of_cell? _ _ (hHeld.2.2.1))).trans (hHeld.2.2.1)
          have HS3_ := (hb.cell (World.block_lt_of_cell? _ _ (hHeld.2.2.2.1))).trans (hHeld.2.2.2.1)
          have HS4_ := (hb.cell (World.block_lt_of_cell? _ _ (hHeld.2.2.2.2.1))).trans (hHeld.2.2.2.2.1)
          have HS5_ := (hb.cell (World.block_lt_of_cell? _ _ (hHeld.2.2.2.2.2.1))).trans (hHeld.2.2.2.2.2.1)
          have HS6_ := (hb.cell (World.block_lt_of_cell? _ _ (hHeld.2.2.2.2.2.2.1))).trans (hHeld.2.2.2.2.2.2.1)
          have HS7_ := (hb.cell (World.block_lt_of_cell? _ _ (hHeld.2.2.2.2.2.2.2.1))).trans (hHeld.2.2.2.2.2.2.2.1)
          have HS8_ := (hb.cell (World.block_lt_of_cell? _ _ (hHeld.2.2.2.2.2.2.2.2.1))).trans (hHeld.2.2.2.2.2.2.2.2.1)
          have HS9_ := (hb.cell (World.block_lt_of_cell? _ _ (hHeld.2.2.2.2.2.2.2.2.2.1))).trans (hHeld.2.2.2.2.2.2.2.2.2.1)
          have HS10_ := (hb.cell (World.block_lt_of_cell? _ _ (hHeld.2.2.2.2.2.2.2.2.2.2))).trans (hHeld.2.2.2.2.2.2.2.2.2.2)
          refine ⟨_, rfl, ?_⟩
          have n0_ := Aside0.mk (Kd.R_below (by (with_reducible repeat (first | apply Kd.R_alloc | apply Kd.R_drewN | apply Kd.R_drew)); exact HO_2.out) hb)
          have n1_ := Aside0.mk (Kd.R_below (by (with_reducible repeat (first | apply Kd.R_alloc | apply Kd.R_drewN | apply Kd.R_drew)); exact HO_3.out) hb)
          have n2_ := Aside0.mk (Kd.R_below (by (with_reducible repeat (first | apply Kd.R_alloc | apply Kd.R_drewN | apply Kd.R_drew)); exact HO_189000.out) hb)
          have n3_ := Aside0.mk (Kd.N_below (by (with_reducible repeat (first | apply Kd.N_alloc | apply Kd.N_drewN | apply Kd.N_drew)); exact HO_189001.out) hb)
          have n4_ := Aside0.mk (blk_below (g := gb188) (o := .cells #[.slice Ao16 y176.length co16, .slice Ao15 y185.length co15] 25 (0, 0)) (by (with_reducible repeat (first | refine blk_drewN ?_ _ | refine blk_drew ?_ | refine blk_alloc ?_ _)); exact BK188.out) hb)
          have n5_ := Aside0.mk (below_step (by repeat (first | (with_reducible first | exact HB.out | apply below_alloc | apply pw_below_drewN | apply below_drew1 | refine below_set ?_ GE188.out) | exact HB.out)) hb)
          clear HO_2
          clear HO_3
          clear HO_189000
          clear HO_189001
          clear BK188
          clear HB
          have HO_2 := n0_
          have HO_3 := n1_
          have HO_189000 := n2_
          have HO_189001 := n3_
          have BK188 := n4_
          have HB := n5_
          clear n0_ n1_ n2_ n3_ n4_ n5_
          (try clear hb)
          (try clear hb2)
          (try clear hk)
          (try clear hi)
          refine hK.out _ _ ⟨(blk_cell BK188.out 0).trans rfl, (blk_cell BK188.out 1).trans rfl, HS2_, HS3_, HS4_, HS5_, HS6_, HS7_, HS8_, HS9_, HS10_⟩ (fun hHeld => ?_)
          clear hK K
          refine norm_ (a' := ?_) ?_ ?_
          rotate_left
          ·
           show Act.put _ (some 43) _ = _
           simp only [Act.put, List.setIfInBounds_toArray, List.set_cons_zero, List.set_cons_succ, i64_w, i32_w]
           rfl
          refine pure_ (i := 18) (N := some 47) (v := ?_) (a' := ?_) QB55_15 rfl rfl (any_of HT_.out (by kernel_rfl)) (fun _ _ _ h => h) (Or.inl ⟨by rfl, ?_⟩) ?_ ?_
          rotate_left
          ·
           intro w'
           go_simp
           with_reducible rfl
          rotate_left
          ·
           simp only [Act.put, List.setIfInBounds_toArray, List.set_cons_zero, List.set_cons_succ, i64_w, i32_w]
           rfl
          refine pure_ (i := 19) (N := some 48) (v := ?_) (a' := ?_) QB55_16 rfl rfl (any_of HT_.out (by kernel_rfl)) (fun _ _ _ h => h) (Or.inl ⟨by rfl, ?_⟩) ?_ ?_
          rotate_left
          ·
           intro w'
           go_simp
           with_reducible rfl
          rotate_left
          ·
           simp only [Act.put, List.setIfInBounds_toArray, List.set_cons_zero, List.set_cons_succ, i64_w, i32_w]
           rfl
          refine pure_ (i := 20) (N := some 49) (v := ?_) (a' := ?_) QB55_17 rfl rfl (any_of HT_.out (by kernel_rfl)) (fun _ _ _ h => h) (Or.inl ⟨by rfl, ?_⟩) ?_ ?_
          rotate_left
          ·
           intro w'
           go_simp
           with_reducible rfl
          rotate_left
          ·
           simp only [Act.put, List.setIfInBounds_toArray, List.set_cons_zero, List.set_cons_succ, i64_w, i32_w]
           rfl
          refine pure_ (i := 21) (N := some 50) (v := undef) (a' := ?_) QB55_18 rfl rfl (any_of HT_.out (by kernel_rfl)) (fun _ _ _ h => h) (Or.inr ⟨by rfl, rfl⟩) ?_ ?_
          rotate_left
          ·
           simp only [Act.put, List.setIfInBounds_toArray, List.set_cons_zero, List.set_cons_succ, i64_w, i32_w]
           rfl
          refine pure_ (i := 22) (N := some 51) (v := undef) (a' := ?_) QB55_19 rfl rfl (any_of HT_.out (by kernel_rfl)) (fun _ _ _ h => h) (Or.inr ⟨by rfl, rfl⟩) ?_ ?_
          rotate_left
          ·
           simp only [Act.put, List.setIfInBounds_toArray, List.set_cons_zero, List.set_cons_succ, i64_w, i32_w]
           rfl
          refine pure_ (i := 23) (N := some 52) (v := undef) (a' := ?_) QB55_20 rfl rfl (any_of HT_.out (by kernel_rfl)) (fun _ _ _ h => h) (Or.inr ⟨by rfl, rfl⟩) ?_ ?_
          rotate_left
          ·
           simp only [Act.put, List.setIfInBounds_toArray, List.set_cons_zero, List.set_cons_succ, i64_w, i32_w]
           rfl
          refine pure_ (i := 24) (N := some 53) (v := undef) (a' := ?_) QB55_21 rfl rfl (any_of HT_.out (by kernel_rfl)) (fun _ _ _ h => h) (Or.inr ⟨by rfl, rfl⟩) ?_ ?_
          rotate_left
          ·
           simp only [Act.put, List.setIfInBounds_toArray, List.set_cons_zero, List.set_cons_succ, i64_w, i32_w]
           rfl
          refine pure_ (i := 25) (N := some 54) (v := undef) (a' := ?_) QB55_22 rfl rfl (any_of HT_.out (by kernel_rfl)) (fun _ _ _ h => h) (Or.inr ⟨by rfl, rfl⟩) ?_ ?_
          rotate_left
          ·
           simp only [Act.put, List.setIfInBounds_toArray, List.set_cons_zero, List.set_cons_succ, i64_w, i32_w]
           rfl
          refine pure_ (i := 26) (N := some 55) (v := ?_) (a' := ?_) QB55_23 rfl rfl (any_of HT_.out (by kernel_rfl)) (fun _ _ _ h => h) (Or.inl ⟨by rfl, ?_⟩) ?_ ?_
          rotate_left
          ·
           intro w'
           go_simp
           with_reducible rfl
          rotate_left
          ·
           simp only [Act.put, List.setIfInBounds_toArray, List.set_cons_zero, List.set_cons_succ, i64_w, i32_w]
           rfl
          refine pure_ (i := 27) (N := some 56) (v := ?_) (a' := ?_) QB55_24 rfl rfl (any_of HT_.out (by kernel_rfl)) (fun _ _ _ h => h) (Or.inl ⟨by rfl, ?_⟩) ?_ ?_
          rotate_left
          ·
           intro w'
           go_simp
           with_reducible rfl
          rotate_left
          ·
           simp only [Act.put, List.setIfInBounds_toArray, List.set_cons_zero, List.set_cons_succ, i64_w, i32_w]
           rfl
          refine pure_ (i := 28) (N := some 57) (v := undef) (a' := ?_) QB55_25 rfl rfl (any_of HT_.out (by kernel_rfl)) (fun _ _ _ h => h) (Or.inr ⟨by rfl, rfl⟩) ?_ ?_
          rotate_left
          ·
           simp only [Act.put, List.setIfInBounds_toArray, List.set_cons_zero, List.set_cons_succ, i64_w, i32_w]
           rfl
          refine pure_ (i := 29) (N := some 58) (v := undef) (a' := ?_) QB55_26 rfl rfl (any_of HT_.out (by kernel_rfl)) (fun _ _ _ h => h) (Or.inr ⟨by rfl, rfl⟩) ?_ ?_
          rotate_left
          ·
           simp only [Act.put, List.setIfInBounds_toArray, List.set_cons_zero, List.set_cons_succ, i64_w, i32_w]
           rfl
          refine pure_ (i := 30) (N := some 59) (v := undef) (a' := ?_) QB55_27 rfl rfl (any_of HT_.out (by kernel_rfl)) (fun _ _ _ h => h) (Or.inr ⟨by rfl, rfl⟩) ?_ ?_
          rotate_left
          ·
           simp only [Act.put, List.setIfInBounds_toArray, List.set_cons_zero, List.set_cons_succ, i64_w, i32_w]
           rfl
          refine pure_ (i := 31) (N := some 60) (v := undef) (a' := ?_) QB55_28 rfl rfl (any_of HT_.out (by kernel_rfl)) (fun _ _ _ h => h) (Or.inr ⟨by rfl, rfl⟩) ?_ ?_
          rotate_left
          ·
           simp only [Act.put, List.setIfInBounds_toArray, List.set_cons_zero, List.set_cons_succ, i64_w, i32_w]
           rfl
          refine pure_ (i := 32) (N := some 61) (v := undef) (a' := ?_) QB55_29 rfl rfl (any_of HT_.out (by kernel_rfl)) (fun _ _ _ h => h) (Or.inr ⟨by rfl, rfl⟩) ?_ ?_
          rotate_left
          ·
           simp only [Act.put, List.setIfInBounds_toArray, List.set_cons_zero, List.set_cons_succ, i64_w, i32_w]
           rfl
          refine pure_ (i := 33) (N := some 62) (v := ?_) (a' := ?_) QB55_30 rfl rfl (any_of HT_.out (by kernel_rfl)) (fun _ _ _ h => h) (Or.inl ⟨by rfl, ?_⟩) ?_ ?_
          rotate_left
          ·
           intro w'
           go_simp
           with_reducible rfl
          rotate_left
          ·
           simp only [Act.put, List.setIfInBounds_toArray, List.set_cons_zero, List.set_cons_succ, i64_w, i32_w]
           rfl
          refine pure_ (i := 34) (N := some 0) (v := ?_) (a' := ?_) QB55_31 rfl rfl (any_of HT_.out (by kernel_rfl)) (fun _ _ _ h => h) (Or.inl ⟨by rfl, ?_⟩) ?_ ?_
          rotate_left
          ·
           intro w'
           go_simp
           with_reducible rfl
          rotate_left
          ·
           simp only [Act.put, List.setIfInBounds_toArray, List.set_cons_zero, List.set_cons_succ, i64_w, i32_w]
           rfl
          refine done_ (done_of HT_.out (by kernel_rfl)) ?_
          try go_wp2
          go_ret
          exact ⟨by first | rfl | (simp [errW_none, errW_some] <;> rfl) | (simp [*, errW_none, errW_some] <;> rfl), by repeat (first | (with_reducible first | exact HB.out | apply below_alloc | apply pw_below_drewN | apply below_drew1 | refine below_set ?_ GE188.out) | exact HB.out)⟩
        ·
         rw [if_neg c36] at H
         have c36b0 : (t201.toList == ([110, 101] : List UInt8)) = false := beq_eq_false_iff_ne.mpr c36
         have c36b1 : (t201.toList != ([110, 101] : List UInt8)) = true := bne_iff_ne.mpr c36
         obtain rfl := Option.some.inj H
         try go_wp2
         have n0_ := Aside0.mk (Kd.R_drew HO_2.out)
         have n1_ := Aside0.mk (Kd.R_drew HO_3.out)
         have n2_ := Aside0.mk (Kd.R_drew HO_189000.out)
         have n3_ := Aside0.mk (Kd.N_drew HO_189001.out)
         have n4_ := Aside0.mk (blk_drew BK188.out)
         have n5_ := Aside0.mk (below_drew1 HB.out)
         clear HO_2
         clear HO_3
         clear HO_189000
         clear HO_189001
         clear BK188
         clear HB
         have HO_2 := n0_
         have HO_3 := n1_
         have HO_189000 := n2_
         have HO_189001 := n3_
         have BK188 := n4_
         have HB := n5_
         clear n0_ n1_ n2_ n3_ n4_ n5_
         obtain ⟨Ao65, co65, eo65⟩ := Kd.R_slice HO_2.out
         (first | subst eo65 | (injection eo65 with f1_ f2_ f3_; have f4_ := f1_.symm; have f5_ := f3_.symm; clear f1_ f2_ f3_; subst f4_; subst f5_))
         have p198 : 0 ≤ (2 : Int) := (by omega)
         have q198 : 2 < (t189.length : Int) := of_decide_eq_true (by first | (with_reducible assumption) | assumption)
         obtain ⟨ad198, e198, hx198_0, hx198_1, hx198_2⟩ := at_T36 (Kd.R_reads' HO_2.out).2.2 2 p198 q198
         cases e198
         (try simp only [show (2 : Int).toNat = 2 from rfl, Nat.reduceMul, Nat.reduceEqDiff, Go.Addr.add, ↓reduceIte] at hx198_0)
         (try simp only [show (2 : Int).toNat = 2 from rfl, Nat.reduceMul, Nat.reduceEqDiff, Go.Addr.add, ↓reduceIte] at hx198_1)
         (try simp only [show (2 : Int).toNat = 2 from rfl, Nat.reduceMul, Nat.reduceEqDiff, Go.Addr.add, ↓reduceIte] at hx198_2)
         have qi198 : (2 < t189.length) = True := eq_true (by omega)
         (try rw [show ((2 : Int)).toNat = 2 from rfl] at hx198_0)
         (try rw [show 2 * 3 = 6 from rfl] at hx198_0)
         (try rw [show ((2 : Int)).toNat = 2 from rfl] at hx198_1)
         (try rw [show 2 * 3 = 6 from rfl] at hx198_1)
         (try rw [show ((2 : Int)).toNat = 2 from rfl] at hx198_2)
         (try rw [show 2 * 3 = 6 from rfl] at hx198_2)
         replace p198 := eq_true p198
         replace q198 := eq_true q198
         have p200 : 0 ≤ (4 : Int) := (by omega)
         have q200 : 4 < (t189.length : Int) := of_decide_eq_true (by first | (with_reducible assumption) | assumption)
         obtain ⟨ad200, e200, hx200_0, hx200_1, hx200_2⟩ := at_T36 (Kd.R_reads' HO_2.out).2.2 4 p200 q200
         obtain rfl : ad198 = ad200 := (by injection e200)
         (try simp only [show (4 : Int).toNat = 4 from rfl, Nat.reduceMul, Nat.reduceEqDiff, Go.Addr.add, ↓reduceIte] at hx200_0)
         (try simp only [show (4 : Int).toNat = 4 from rfl, Nat.reduceMul, Nat.reduceEqDiff, Go.Addr.add, ↓reduceIte] at hx200_1)
         (try simp only [show (4 : Int).toNat = 4 from rfl, Nat.reduceMul, Nat.reduceEqDiff, Go.Addr.add, ↓reduceIte] at hx200_2)
         have qi200 : (4 < t189.length) = True := eq_true (by omega)
         (try rw [show ((4 : Int)).toNat = 4 from rfl] at hx200_0)
         (try rw [show 4 * 3 = 12 from rfl] at hx200_0)
         (try rw [show ((4 : Int)).toNat = 4 from rfl] at hx200_1)
         (try rw [show 4 * 3 = 12 from rfl] at hx200_1)
         (try rw [show ((4 : Int)).toNat = 4 from rfl] at hx200_2)
         (try rw [show 4 * 3 = 12 from rfl] at hx200_2)
         replace p200 := eq_true p200
         replace q200 := eq_true q200
         refine start_ (n := 35) (S := fun w' => w'.cell? ⟨ad198.block, ad198.off + 6, none⟩ = some (.bool ((rd_T36 t189 2).f0)) ∧ w'.cell? ⟨ad198.block, ad198.off + 6 + 1, none⟩ = some (.bool ((rd_T36 t189 2).f1)) ∧ w'.cell? ⟨ad198.block, ad198.off + 6 + 2, none⟩ = some (.bool ((rd_T36 t189 2).f2)) ∧ w'.cell? ⟨ad198.block, ad198.off + 12, none⟩ = some (.bool ((rd_T36 t189 4).f0)) ∧ w'.cell? ⟨ad198.block, ad198.off + 12 + 1, none⟩ = some (.bool ((rd_T36 t189 4).f1)) ∧ w'.cell? ⟨ad198.block, ad198.off + 12 + 2, none⟩ = some (.bool ((rd_T36 t189 4).f2))) (ds := []) QB55_0 (by kernel_rfl) rfl rfl ⟨hx198_0, hx198_1, hx198_2, hx200_0, hx200_1, hx200_2⟩ (fun hHeld => ?_); refine with_tabW vetchlaw11_awake.tab6 vetchlaw11_awake.bits6 (fun HT_ HW_ => ?_)
         generalize wc.drew = w64 at HO_2 HO_3 HO_189000 HO_189001 BK188 HB hx198_0 hx198_1 hx198_2 hx200_0 hx200_1 hx200_2 hHeld ⊢
         refine pure_ (i := 0) (N := some 29) (v := ?_) (a' := ?_) QB55_1 rfl rfl (any_of HT_.out (by kernel_rfl)) (fun _ _ _ h => h) (Or.inl ⟨by rfl, ?_⟩) ?_ ?_
         rotate_left
         ·
          intro w'
          go_simp
          with_reducible rfl
         rotate_left
         ·
          simp only [Act.put, List.setIfInBounds_toArray, List.set_cons_zero, List.set_cons_succ, i64_w, i32_w]
          rfl
         refine pure_ (i := 1) (N := some 30) (v := ?_) (a' := ?_) QB55_2 rfl rfl (any_of HT_.out (by kernel_rfl)) (fun _ _ _ h => h) (Or.inl ⟨by rfl, ?_⟩) ?_ ?_
         rotate_left
         ·
          intro w'
          go_simp
          with_reducible rfl
         rotate_left
         ·
          simp only [Act.put, List.setIfInBounds_toArray, List.set_cons_zero, List.set_cons_succ, i64_w, i32_w]
          rfl
         refine take_ (i := 2) (N := some 31) (v := ?_) (a' := ?_) QB55_3 rfl rfl (take_ofW HT_.out HW_.out (by kernel_rfl)) (fun _ _ _ h => h) (Or.inl ⟨by rfl, ?_⟩) hHeld ?_ ?_
         rotate_left
         ·
          rintro w' ⟨s0, s1, s2, s3, s4, s5⟩
          go_simp
          with_reducible rfl
         rotate_left
         ·
          simp only [Act.put, List.setIfInBounds_toArray, List.set_cons_zero, List.set_cons_succ, i64_w, i32_w]
          rfl
         refine one_ (i := 3) (N := some 32) QB55_4 rfl rfl (one_of HT_.out (by kernel_rfl)) (by decide) (fun K hK => ?_)
         refine goes_ Try.func19 (by kernel_rfl) rfl #[.agg #[.bool ((rd_T36 t189 2).f0), .bool ((rd_T36 t189 2).f1), .bool ((rd_T36 t189 2).f2)]] (by rfl) rfl rfl (by (try simp only [List.map_toArray, List.map_cons, List.map_nil]); first | done | rfl | (simp only [List.length_drop, List.length_take]; rfl)) ?_
         with_reducible refine (flow_Text.calls kj3 ((rd_T36 t189 2).f0) ((rd_T36 t189 2).f1) ((rd_T36 t189 2).f2) t199 _ A32.out).mono ?_
         rintro e w66 ⟨rfl, hb⟩
         have HS0_ := (hb.cell (World.block_lt_of_cell? _ _ (hHeld.1))).trans (hHeld.1)
         have HS1_ := (hb.cell (World.block_lt_of_cell? _ _ (hHeld.2.1))).trans (hHeld.2.1)
         have HS2_ := (hb.cell (World.block_lt_of_cell? _ _ (hHeld.2.2.1))).trans (hHeld.2.2.1)
         have HS3_ := (hb.cell (World.block_lt_of_cell? _ _ (hHeld.2.2.2.1))).trans (hHeld.2.2.2.1)
         have HS4_ := (hb.cell (World.block_lt_of_cell? _ _ (hHeld.2.2.2.2.1))).trans (hHeld.2.2.2.2.1)
         have HS5_ := (hb.cell (World.block_lt_of_cell? _ _ (hHeld.2.2.2.2.2))).trans (hHeld.2.2.2.2.2)
         refine ⟨_, rfl, ?_⟩
         have n0_ := Aside0.mk (Kd.R_below (by (with_reducible repeat (first | apply Kd.R_alloc | apply Kd.R_drewN | apply Kd.R_drew)); exact HO_2.out) hb)
         have n1_ := Aside0.mk (Kd.R_below (by (with_reducible repeat (first | apply Kd.R_alloc | apply Kd.R_drewN | apply Kd.R_drew)); exact HO_3.out) hb)
         have n2_ := Aside0.mk (Kd.R_below (by (with_reducible repeat (first | apply Kd.R_alloc | apply Kd.R_drewN | apply Kd.R_drew)); exact HO_189000.out) hb)
         have n3_ := Aside0.mk (Kd.N_below (by (with_reducible repeat (first | apply Kd.N_alloc | apply Kd.N_drewN | apply Kd.N_drew)); exact HO_189001.out) hb)
         have n4_ := Aside0.mk (blk_below (g := gb188) (o := .cells #[.slice Ao16 y176.length co16, .slice Ao15 y185.length co15] 25 (0, 0)) (by (with_reducible repeat (first | refine blk_drewN ?_ _ | refine blk_drew ?_ | refine blk_alloc ?_ _)); exact BK188.out) hb)
         have n5_ := Aside0.mk (below_step (by repeat (first | (with_reducible first | exact HB.out | apply below_alloc | apply pw_below_drewN | apply below_drew1 | refine below_set ?_ GE188.out) | exact HB.out)) hb)
         clear HO_2
         clear HO_3
         clear HO_189000
         clear HO_189001
         clear BK188
         clear HB
         have HO_2 := n0_
         have HO_3 := n1_
         have HO_189000 := n2_
         have HO_189001 := n3_
         have BK188 := n4_
         have HB := n5_
         clear n0_ n1_ n2_ n3_ n4_ n5_
         (try clear hb)
         (try clear hb2)
         (try clear hk)
         (try clear hi)
         refine hK.out _ _ ⟨HS0_, HS1_, HS2_, HS3_, HS4_, HS5_⟩ (fun hHeld => ?_)
         clear hK K
         refine norm_ (a' := ?_) ?_ ?_
         rotate_left
         ·
          show Act.put _ (some 32) _ = _
          simp only [Act.put, List.setIfInBounds_toArray, List.set_cons_zero, List.set_cons_succ, i64_w, i32_w]
          rfl
         refine pure_ (i := 4) (N := some 33) (v := ?_) (a' := ?_) QB55_5 rfl rfl (any_of HT_.out (by kernel_rfl)) (fun _ _ _ h => h) (Or.inl ⟨by rfl, ?_⟩) ?_ ?_
         rotate_left
         ·
          intro w'
          go_simp
          with_reducible rfl
         rotate_left
         ·
          simp only [Act.put, List.setIfInBounds_toArray, List.set_cons_zero, List.set_cons_succ, i64_w, i32_w]
          rfl
         refine pure_ (i := 5) (N := some 34) (v := ?_) (a' := ?_) QB55_6 rfl rfl (any_of HT_.out (by kernel_rfl)) (fun _ _ _ h => h) (Or.inl ⟨by rfl, ?_⟩) ?_ ?_
         rotate_left
         ·
          intro w'
          go_simp
          with_reducible rfl
         rotate_left
         ·
          simp only [Act.put, List.setIfInBounds_toArray, List.set_cons_zero, List.set_cons_succ, i64_w, i32_w]
          rfl
         refine pure_ (i := 6) (N := some 35) (v := ?_) (a' := ?_) QB55_7 rfl rfl (any_of HT_.out (by kernel_rfl)) (fun _ _ _ h => h) (Or.inl ⟨by rfl, ?_⟩) ?_ ?_
         rotate_left
         ·
          intro w'
          go_simp
          with_reducible rfl
         rotate_left
         ·
          simp only [Act.put, List.setIfInBounds_toArray, List.set_cons_zero, List.set_cons_succ, i64_w, i32_w]
          rfl
         refine pure_ (i := 7) (N := some 36) (v := ?_) (a' := ?_) QB55_8 rfl rfl (any_of HT_.out (by kernel_rfl)) (fun _ _ _ h => h) (Or.inl ⟨by rfl, ?_⟩) ?_ ?_
         rotate_left
         ·
          intro w'
          go_simp
          with_reducible rfl
         rotate_left
         ·
          simp only [Act.put, List.setIfInBounds_toArray, List.set_cons_zero, List.set_cons_succ, i64_w, i32_w]
          rfl
         refine take_ (i := 8) (N := some 37) (v := ?_) (a' := ?_) QB55_9 rfl rfl (take_ofW HT_.out HW_.out (by kernel_rfl)) (fun _ _ _ h => h) (Or.inl ⟨by rfl, ?_⟩) hHeld ?_ ?_
         rotate_left
         ·
          rintro w' ⟨s0, s1, s2, s3, s4, s5⟩
          go_simp
          with_reducible rfl
         rotate_left
         ·
          simp only [Act.put, List.setIfInBounds_toArray, List.set_cons_zero, List.set_cons_succ, i64_w, i32_w]
          rfl
         refine one_ (i := 9) (N := some 38) QB55_10 rfl rfl (one_of HT_.out (by kernel_rfl)) (by decide) (fun K hK => ?_)
         refine goes_ Try.func19 (by kernel_rfl) rfl #[.agg #[.bool ((rd_T36 t189 4).f0), .bool ((rd_T36 t189 4).f1), .bool ((rd_T36 t189 4).f2)]] (by rfl) rfl rfl (by (try simp only [List.map_toArray, List.map_cons, List.map_nil]); first | done | rfl | (simp only [List.length_drop, List.length_take]; rfl)) ?_
         with_reducible refine (flow_Text.calls kj3 ((rd_T36 t189 4).f0) ((rd_T36 t189 4).f1) ((rd_T36 t189 4).f2) t201 _ A35.out).mono ?_
         rintro e w67 ⟨rfl, hb⟩
         have HS0_ := (hb.cell (World.block_lt_of_cell? _ _ (hHeld.1))).trans (hHeld.1)
         have HS1_ := (hb.cell (World.block_lt_of_cell? _ _ (hHeld.2.1))).trans (hHeld.2.1)
         have HS2_ := (hb.cell (World.block_lt_of_cell? _ _ (hHeld.2.2.1))).trans (hHeld.2.2.1)
         have HS3_ := (hb.cell (World.block_lt_of_cell? _ _ (hHeld.2.2.2.1))).trans (hHeld.2.2.2.1)
         have HS4_ := (hb.cell (World.block_lt_of_cell? _ _ (hHeld.2.2.2.2.1))).trans (hHeld.2.2.2.2.1)
         have HS5_ := (hb.cell (World.block_lt_of_cell? _ _ (hHeld.2.2.2.2.2))).trans (hHeld.2.2.2.2.2)
         refine ⟨_, rfl, ?_⟩
         have n0_ := Aside0.mk (Kd.R_below (by (with_reducible repeat (first | apply Kd.R_alloc | apply Kd.R_drewN | apply Kd.R_drew)); exact HO_2.out) hb)
         have n1_ := Aside0.mk (Kd.R_below (by (with_reducible repeat (first | apply Kd.R_alloc | apply Kd.R_drewN | apply Kd.R_drew)); exact HO_3.out) hb)
         have n2_ := Aside0.mk (Kd.R_below (by (with_reducible repeat (first | apply Kd.R_alloc | apply Kd.R_drewN | apply Kd.R_drew)); exact HO_189000.out) hb)
         have n3_ := Aside0.mk (Kd.N_below (by (with_reducible repeat (first | apply Kd.N_alloc | apply Kd.N_drewN | apply Kd.N_drew)); exact HO_189001.out) hb)
         have n4_ := Aside0.mk (blk_below (g := gb188) (o := .cells #[.slice Ao16 y176.length co16, .slice Ao15 y185.length co15] 25 (0, 0)) (by (with_reducible repeat (first | refine blk_drewN ?_ _ | refine blk_drew ?_ | refine blk_alloc ?_ _)); exact BK188.out) hb)
         have n5_ := Aside0.mk (below_step (by repeat (first | (with_reducible first | exact HB.out | apply below_alloc | apply pw_below_drewN | apply below_drew1 | refine below_set ?_ GE188.out) | exact HB.out)) hb)
         clear HO_2
         clear HO_3
         clear HO_189000
         clear HO_189001
         clear BK188
         clear HB
         have HO_2 := n0_
         have HO_3 := n1_
         have HO_189000 := n2_
         have HO_189001 := n3_
         have BK188 := n4_
         have HB := n5_
         clear n0_ n1_ n2_ n3_ n4_ n5_
         (try clear hb)
         (try clear hb2)
         (try clear hk)
         (try clear hi)
         refine hK.out _ _ ⟨HS0_, HS1_, HS2_, HS3_, HS4_, HS5_⟩ (fun hHeld => ?_)
         clear hK K
         refine norm_ (a' := ?_) ?_ ?_
         rotate_left
         ·
          show Act.put _ (some 38) _ = _
          simp only [Act.put, List.setIfInBounds_toArray, List.set_cons_zero, List.set_cons_succ, i64_w, i32_w]
          rfl
         refine pure_ (i := 10) (N := some 39) (v := ?_) (a' := ?_) QB55_11 rfl rfl (any_of HT_.out (by kernel_rfl)) (fun _ _ _ h => h) (Or.inl ⟨by rfl, ?_⟩) ?_ ?_
         rotate_left
         ·
          intro w'
          go_simp
          with_reducible rfl
         rotate_left
         ·
          simp only [Act.put, List.setIfInBounds_toArray, List.set_cons_zero, List.set_cons_succ, i64_w, i32_w]
          rfl
         refine pure_ (i := 11) (N := some 40) (v := ?_) (a' := ?_) QB55_12 rfl rfl (any_of HT_.out (by kernel_rfl)) (fun _ _ _ h => h) (Or.inl ⟨by rfl, ?_⟩) ?_ ?_
         rotate_left
         ·
          intro w'
          go_simp
          with_reducible rfl
         rotate_left
         ·
          simp only [Act.put, List.setIfInBounds_toArray, List.set_cons_zero, List.set_cons_succ, i64_w, i32_w]
          rfl
         refine pure_ (i := 12) (N := some 41) (v := ?_) (a' := ?_) QB55_13 rfl rfl (any_of HT_.out (by kernel_rfl)) (fun _ _ _ h => h) (Or.inl ⟨by rfl, ?_⟩) ?_ ?_
         rotate_left
         ·
          intro w'
          go_simp
          with_reducible rfl
         rotate_left
         ·
          simp only [Act.put, List.setIfInBounds_toArray, List.set_cons_zero, List.set_cons_succ, i64_w, i32_w]
          rfl
         refine pure_ (i := 13) (N := some 42) (v := undef) (a' := ?_) QB55_36 rfl rfl (any_of HT_.out (by kernel_rfl)) (fun _ _ _ h => h) (Or.inr ⟨by rfl, rfl⟩) ?_ ?_
         rotate_left
         ·
          simp only [Act.put, List.setIfInBounds_toArray, List.set_cons_zero, List.set_cons_succ, i64_w, i32_w]
          rfl
         refine pure_ (i := 14) (N := some 43) (v := undef) (a' := ?_) QB55_37 rfl rfl (any_of HT_.out (by kernel_rfl)) (fun _ _ _ h => h) (Or.inr ⟨by rfl, rfl⟩) ?_ ?_
         rotate_left
         ·
          simp only [Act.put, List.setIfInBounds_toArray, List.set_cons_zero, List.set_cons_succ, i64_w, i32_w]
          rfl
         refine pure_ (i := 15) (N := some 44) (v := undef) (a' := ?_) QB55_38 rfl rfl (any_of HT_.out (by kernel_rfl)) (fun _ _ _ h => h) (Or.inr ⟨by rfl, rfl⟩) ?_ ?_
         rotate_left
         ·
          simp only [Act.put, List.setIfInBounds_toArray, List.set_cons_zero, List.set_cons_succ, i64_w, i32_w]
          rfl
         refine pure_ (i := 16) (N := some 45) (v := undef) (a' := ?_) QB55_39 rfl rfl (any_of HT_.out (by kernel_rfl)) (fun _ _ _ h => h) (Or.inr ⟨by rfl, rfl⟩) ?_ ?_
         rotate_left
         ·
          simp only [Act.put, List.setIfInBounds_toArray, List.set_cons_zero, List.set_cons_succ, i64_w, i32_w]
          rfl
         refine pure_ (i := 17) (N := some 46) (v := undef) (a' := ?_) QB55_14 rfl rfl (any_of HT_.out (by kernel_rfl)) (fun _ _ _ h => h) (Or.inr ⟨by rfl, rfl⟩) ?_ ?_
         rotate_left
         ·
          simp only [Act.put, List.setIfInBounds_toArray, List.set_cons_zero, List.set_cons_succ, i64_w, i32_w]
          rfl
         refine pure_ (i := 18) (N := some 47) (v := undef) (a' := ?_) QB55_15 rfl rfl (any_of HT_.out (by kernel_rfl)) (fun _ _ _ h => h) (Or.inr ⟨by rfl, rfl⟩) ?_ ?_
         rotate_left
         ·
          simp only [Act.put, List.setIfInBounds_toArray, List.set_cons_zero, List.set_cons_succ, i64_w, i32_w]
          rfl
         refine pure_ (i := 19) (N := some 48) (v := ?_) (a' := ?_) QB55_16 rfl rfl (any_of HT_.out (by kernel_rfl)) (fun _ _ _ h => h) (Or.inl ⟨by rfl, ?_⟩) ?_ ?_
         rotate_left
         ·
          intro w'
          go_simp
          with_reducible rfl
         rotate_left
         ·
          simp only [Act.put, List.setIfInBounds_toArray, List.set_cons_zero, List.set_cons_succ, i64_w, i32_w]
          rfl
         refine pure_ (i := 20) (N := some 49) (v := ?_) (a' := ?_) QB55_17 rfl rfl (any_of HT_.out (by kernel_rfl)) (fun _ _ _ h => h) (Or.inl ⟨by rfl, ?_⟩) ?_ ?_
         rotate_left
         ·
          intro w'
          go_simp
          with_reducible rfl
         rotate_left
         ·
          simp only [Act.put, List.setIfInBounds_toArray, List.set_cons_zero, List.set_cons_succ, i64_w, i32_w]
          rfl
         refine pure_ (i := 21) (N := some 50) (v := undef) (a' := ?_) QB55_18 rfl rfl (any_of HT_.out (by kernel_rfl)) (fun _ _ _ h => h) (Or.inr ⟨by rfl, rfl⟩) ?_ ?_
         rotate_left
         ·
          simp only [Act.put, List.setIfInBounds_toArray, List.set_cons_zero, List.set_cons_succ, i64_w, i32_w]
          rfl
         refine pure_ (i := 22) (N := some 51) (v := undef) (a' := ?_) QB55_19 rfl rfl (any_of HT_.out (by kernel_rfl)) (fun _ _ _ h => h) (Or.inr ⟨by rfl, rfl⟩) ?_ ?_
         rotate_left
         ·
          simp only [Act.put, List.setIfInBounds_toArray, List.set_cons_zero, List.set_cons_succ, i64_w, i32_w]
          rfl
         refine pure_ (i := 23) (N := some 52) (v := undef) (a' := ?_) QB55_20 rfl rfl (any_of HT_.out (by kernel_rfl)) (fun _ _ _ h => h) (Or.inr ⟨by rfl, rfl⟩) ?_ ?_
         rotate_left
         ·
          simp only [Act.put, List.setIfInBounds_toArray, List.set_cons_zero, List.set_cons_succ, i64_w, i32_w]
          rfl
         refine pure_ (i := 24) (N := some 53) (v := undef) (a' := ?_) QB55_21 rfl rfl (any_of HT_.out (by kernel_rfl)) (fun _ _ _ h => h) (Or.inr ⟨by rfl, rfl⟩) ?_ ?_
         rotate_left
         ·
          simp only [Act.put, List.setIfInBounds_toArray, List.set_cons_zero, List.set_cons_succ, i64_w, i32_w]
          rfl
         refine pure_ (i := 25) (N := some 54) (v := undef) (a' := ?_) QB55_22 rfl rfl (any_of HT_.out (by kernel_rfl)) (fun _ _ _ h => h) (Or.inr ⟨by rfl, rfl⟩) ?_ ?_
         rotate_left
         ·
          simp only [Act.put, List.setIfInBounds_toArray, List.set_cons_zero, List.set_cons_succ, i64_w, i32_w]
          rfl
         refine pure_ (i := 26) (N := some 55) (v := ?_) (a' := ?_) QB55_23 rfl rfl (any_of HT_.out (by kernel_rfl)) (fun _ _ _ h => h) (Or.inl ⟨by rfl, ?_⟩) ?_ ?_
         rotate_left
         ·
          intro w'
          go_simp
          with_reducible rfl
         rotate_left
         ·
          simp only [Act.put, List.setIfInBounds_toArray, List.set_cons_zero, List.set_cons_succ, i64_w, i32_w]
          rfl
         refine pure_ (i := 27) (N := some 56) (v := ?_) (a' := ?_) QB55_24 rfl rfl (any_of HT_.out (by kernel_rfl)) (fun _ _ _ h => h) (Or.inl ⟨by rfl, ?_⟩) ?_ ?_
         rotate_left
         ·
          intro w'
          go_simp
          with_reducible rfl
         rotate_left
         ·
          simp only [Act.put, List.setIfInBounds_toArray, List.set_cons_zero, List.set_cons_succ, i64_w, i32_w]
          rfl
         refine pure_ (i := 28) (N := some 57) (v := undef) (a' := ?_) QB55_25 rfl rfl (any_of HT_.out (by kernel_rfl)) (fun _ _ _ h => h) (Or.inr ⟨by rfl, rfl⟩) ?_ ?_
         rotate_left
         ·
          simp only [Act.put, List.setIfInBounds_toArray, List.set_cons_zero, List.set_cons_succ, i64_w, i32_w]
          rfl
         refine pure_ (i := 29) (N := some 58) (v := undef) (a' := ?_) QB55_26 rfl rfl (any_of HT_.out (by kernel_rfl)) (fun _ _ _ h => h) (Or.inr ⟨by rfl, rfl⟩) ?_ ?_
         rotate_left
         ·
          simp only [Act.put, List.setIfInBounds_toArray, List.set_cons_zero, List.set_cons_succ, i64_w, i32_w]
          rfl
         refine pure_ (i := 30) (N := some 59) (v := undef) (a' := ?_) QB55_27 rfl rfl (any_of HT_.out (by kernel_rfl)) (fun _ _ _ h => h) (Or.inr ⟨by rfl, rfl⟩) ?_ ?_
         rotate_left
         ·
          simp only [Act.put, List.setIfInBounds_toArray, List.set_cons_zero, List.set_cons_succ, i64_w, i32_w]
          rfl
         refine pure_ (i := 31) (N := some 60) (v := undef) (a' := ?_) QB55_28 rfl rfl (any_of HT_.out (by kernel_rfl)) (fun _ _ _ h => h) (Or.inr ⟨by rfl, rfl⟩) ?_ ?_
         rotate_left
         ·
          simp only [Act.put, List.setIfInBounds_toArray, List.set_cons_zero, List.set_cons_succ, i64_w, i32_w]
          rfl
         refine pure_ (i := 32) (N := some 61) (v := undef) (a' := ?_) QB55_29 rfl rfl (any_of HT_.out (by kernel_rfl)) (fun _ _ _ h => h) (Or.inr ⟨by rfl, rfl⟩) ?_ ?_
         rotate_left
         ·
          simp only [Act.put, List.setIfInBounds_toArray, List.set_cons_zero, List.set_cons_succ, i64_w, i32_w]
          rfl
         refine pure_ (i := 33) (N := some 62) (v := ?_) (a' := ?_) QB55_30 rfl rfl (any_of HT_.out (by kernel_rfl)) (fun _ _ _ h => h) (Or.inl ⟨by rfl, ?_⟩) ?_ ?_
         rotate_left
         ·
          intro w'
          go_simp
          with_reducible rfl
         rotate_left
         ·
          simp only [Act.put, List.setIfInBounds_toArray, List.set_cons_zero, List.set_cons_succ, i64_w, i32_w]
          rfl
         refine pure_ (i := 34) (N := some 0) (v := ?_) (a' := ?_) QB55_31 rfl rfl (any_of HT_.out (by kernel_rfl)) (fun _ _ _ h => h) (Or.inl ⟨by rfl, ?_⟩) ?_ ?_
         rotate_left
         ·
          intro w'
          go_simp
          with_reducible rfl
         rotate_left
         ·
          simp only [Act.put, List.setIfInBounds_toArray, List.set_cons_zero, List.set_cons_succ, i64_w, i32_w]
          rfl
         refine done_ (done_of HT_.out (by kernel_rfl)) ?_
         try go_wp2
         go_ret
         exact ⟨by first | rfl | (simp [errW_none, errW_some] <;> rfl) | (simp [*, errW_none, errW_some] <;> rfl), by repeat (first | (with_reducible first | exact HB.out | apply below_alloc | apply pw_below_drewN | apply below_drew1 | refine below_set ?_ GE188.out) | exact HB.out)⟩
       ·
        rw [if_neg c34] at H
        exact absurd H (by simp)
      ·
       rw [if_neg c33] at H
       have c33b0 : (t199.toList == ([101, 102] : List UInt8)) = false := beq_eq_false_iff_ne.mpr c33
       have c33b1 : (t199.toList != ([101, 102] : List UInt8)) = true := bne_iff_ne.mpr c33
       obtain rfl := Option.some.inj H
       try go_wp2
       have n0_ := Aside0.mk (Kd.R_drew HO_2.out)
       have n1_ := Aside0.mk (Kd.R_drew HO_3.out)
       have n2_ := Aside0.mk (Kd.R_drew HO_189000.out)
       have n3_ := Aside0.mk (Kd.N_drew HO_189001.out)
       have n4_ := Aside0.mk (blk_drew BK188.out)
       have n5_ := Aside0.mk (below_drew1 HB.out)
       clear HO_2
       clear HO_3
       clear HO_189000
       clear HO_189001
       clear BK188
       clear HB
       have HO_2 := n0_
       have HO_3 := n1_
       have HO_189000 := n2_
       have HO_189001 := n3_
       have BK188 := n4_
       have HB := n5_
       clear n0_ n1_ n2_ n3_ n4_ n5_
       obtain ⟨Ao69, co69, eo69⟩ := Kd.R_slice HO_2.out
       (first | subst eo69 | (injection eo69 with f1_ f2_ f3_; have f4_ := f1_.symm; have f5_ := f3_.symm; clear f1_ f2_ f3_; subst f4_; subst f5_))
       have p198 : 0 ≤ (2 : Int) := (by omega)
       have q198 : 2 < (t189.length : Int) := of_decide_eq_true (by first | (with_reducible assumption) | assumption)
       obtain ⟨ad198, e198, hx198_0, hx198_1, hx198_2⟩ := at_T36 (Kd.R_reads' HO_2.out).2.2 2 p198 q198
       cases e198
       (try simp only [show (2 : Int).toNat = 2 from rfl, Nat.reduceMul, Nat.reduceEqDiff, Go.Addr.add, ↓reduceIte] at hx198_0)
       (try simp only [show (2 : Int).toNat = 2 from rfl, Nat.reduceMul, Nat.reduceEqDiff, Go.Addr.add, ↓reduceIte] at hx198_1)
       (try simp only [show (2 : Int).toNat = 2 from rfl, Nat.reduceMul, Nat.reduceEqDiff, Go.Addr.add, ↓reduceIte] at hx198_2)
       have qi198 : (2 < t189.length) = True := eq_true (by omega)
       (try rw [show ((2 : Int)).toNat = 2 from rfl] at hx198_0)
       (try rw [show 2 * 3 = 6 from rfl] at hx198_0)
       (try rw [show ((2 : Int)).toNat = 2 from rfl] at hx198_1)
       (try rw [show 2 * 3 = 6 from rfl] at hx198_1)
       (try rw [show ((2 : Int)).toNat = 2 from rfl] at hx198_2)
       (try rw [show 2 * 3 = 6 from rfl] at hx198_2)
       replace p198 := eq_true p198
       replace q198 := eq_true q198
       refine start_ (n := 35) (S := fun w' => w'.cell? ⟨ad198.block, ad198.off + 6, none⟩ = some (.bool ((rd_T36 t189 2).f0)) ∧ w'.cell? ⟨ad198.block, ad198.off + 6 + 1, none⟩ = some (.bool ((rd_T36 t189 2).f1)) ∧ w'.cell? ⟨ad198.block, ad198.off + 6 + 2, none⟩ = some (.bool ((rd_T36 t189 2).f2))) (ds := []) QB55_0 (by kernel_rfl) rfl rfl ⟨hx198_0, hx198_1, hx198_2⟩ (fun hHeld => ?_); refine with_tabW vetchlaw11_awake.tab6 vetchlaw11_awake.bits6 (fun HT_ HW_ => ?_)
       generalize wc.drew = w68 at HO_2 HO_3 HO_189000 HO_189001 BK188 HB hx198_0 hx198_1 hx198_2 hHeld ⊢
       refine pure_ (i := 0) (N := some 29) (v := ?_) (a' := ?_) QB55_1 rfl rfl (any_of HT_.out (by kernel_rfl)) (fun _ _ _ h => h) (Or.inl ⟨by rfl, ?_⟩) ?_ ?_
       rotate_left
       ·
        intro w'
        go_simp
        with_reducible rfl
       rotate_left
       ·
        simp only [Act.put, List.setIfInBounds_toArray, List.set_cons_zero, List.set_cons_succ, i64_w, i32_w]
        rfl
       refine pure_ (i := 1) (N := some 30) (v := ?_) (a' := ?_) QB55_2 rfl rfl (any_of HT_.out (by kernel_rfl)) (fun _ _ _ h => h) (Or.inl ⟨by rfl, ?_⟩) ?_ ?_
       rotate_left
       ·
        intro w'
        go_simp
        with_reducible rfl
       rotate_left
       ·
        simp only [Act.put, List.setIfInBounds_toArray, List.set_cons_zero, List.set_cons_succ, i64_w, i32_w]
        rfl
       refine take_ (i := 2) (N := some 31) (v := ?_) (a' := ?_) QB55_3 rfl rfl (take_ofW HT_.out HW_.out (by kernel_rfl)) (fun _ _ _ h => h) (Or.inl ⟨by rfl, ?_⟩) hHeld ?_ ?_
       rotate_left
       ·
        rintro w' ⟨s0, s1, s2⟩
        go_simp
        with_reducible rfl
       rotate_left
       ·
        simp only [Act.put, List.setIfInBounds_toArray, List.set_cons_zero, List.set_cons_succ, i64_w, i32_w]
        rfl
       refine one_ (i := 3) (N := some 32) QB55_4 rfl rfl (one_of HT_.out (by kernel_rfl)) (by decide) (fun K hK => ?_)
       refine goes_ Try.func19 (by kernel_rfl) rfl #[.agg #[.bool ((rd_T36 t189 2).f0), .bool ((rd_T36 t189 2).f1), .bool ((rd_T36 t189 2).f2)]] (by rfl) rfl rfl (by (try simp only [List.map_toArray, List.map_cons, List.map_nil]); first | done | rfl | (simp only [List.length_drop, List.length_take]; rfl)) ?_
       with_reducible refine (flow_Text.calls kj3 ((rd_T36 t189 2).f0) ((rd_T36 t189 2).f1) ((rd_T36 t189 2).f2) t199 _ A32.out).mono ?_
       rintro e w70 ⟨rfl, hb⟩
       have HS0_ := (hb.cell (World.block_lt_of_cell? _ _ (hHeld.1))).trans (hHeld.1)
       have HS1_ := (hb.cell (World.block_lt_of_cell? _ _ (hHeld.2.1))).trans (hHeld.2.1)
       have HS2_ := (hb.cell (World.block_lt_of_cell? _ _ (hHeld.2.2))).trans (hHeld.2.2)
       refine ⟨_, rfl, ?_⟩
       have n0_ := Aside0.mk (Kd.R_below (by (with_reducible repeat (first | apply Kd.R_alloc | apply Kd.R_drewN | apply Kd.R_drew)); exact HO_2.out) hb)
       have n1_ := Aside0.mk (Kd.R_below (by (with_reducible repeat (first | apply Kd.R_alloc | apply Kd.R_drewN | apply Kd.R_drew)); exact HO_3.out) hb)
       have n2_ := Aside0.mk (Kd.R_below (by (with_reducible repeat (first | apply Kd.R_alloc | apply Kd.R_drewN | apply Kd.R_drew)); exact HO_189000.out) hb)
       have n3_ := Aside0.mk (Kd.N_below (by (with_reducible repeat (first | apply Kd.N_alloc | apply Kd.N_drewN | apply Kd.N_drew)); exact HO_189001.out) hb)
       have n4_ := Aside0.mk (blk_below (g := gb188) (o := .cells #[.slice Ao16 y176.length co16, .slice Ao15 y185.length co15] 25 (0, 0)) (by (with_reducible repeat (first | refine blk_drewN ?_ _ | refine blk_drew ?_ | refine blk_alloc ?_ _)); exact BK188.out) hb)
       have n5_ := Aside0.mk (below_step (by repeat (first | (with_reducible first | exact HB.out | apply below_alloc | apply pw_below_drewN | apply below_drew1 | refine below_set ?_ GE188.out) | exact HB.out)) hb)
       clear HO_2
       clear HO_3
       clear HO_189000
       clear HO_189001
       clear BK188
       clear HB
       have HO_2 := n0_
       have HO_3 := n1_
       have HO_189000 := n2_
       have HO_189001 := n3_
       have BK188 := n4_
       have HB := n5_
       clear n0_ n1_ n2_ n3_ n4_ n5_
       (try clear hb)
       (try clear hb2)
       (try clear hk)
       (try clear hi)
       refine hK.out _ _ ⟨HS0_, HS1_, HS2_⟩ (fun hHeld => ?_)
       clear hK K
       refine norm_ (a' := ?_) ?_ ?_
       rotate_left
       ·
        show Act.put _ (some 32) _ = _
        simp only [Act.put, List.setIfInBounds_toArray, List.set_cons_zero, List.set_cons_succ, i64_w, i32_w]
        rfl
       refine pure_ (i := 4) (N := some 33) (v := ?_) (a' := ?_) QB55_5 rfl rfl (any_of HT_.out (by kernel_rfl)) (fun _ _ _ h => h) (Or.inl ⟨by rfl, ?_⟩) ?_ ?_
       rotate_left
       ·
        intro w'
        go_simp
        with_reducible rfl
       rotate_left
       ·
        simp only [Act.put, List.setIfInBounds_toArray, List.set_cons_zero, List.set_cons_succ, i64_w, i32_w]
        rfl
       refine pure_ (i := 5) (N := some 34) (v := ?_) (a' := ?_) QB55_6 rfl rfl (any_of HT_.out (by kernel_rfl)) (fun _ _ _ h => h) (Or.inl ⟨by rfl, ?_⟩) ?_ ?_
       rotate_left
       ·
        intro w'
        go_simp
        with_reducible rfl
       rotate_left
       ·
        simp only [Act.put, List.setIfInBounds_toArray, List.set_cons_zero, List.set_cons_succ, i64_w, i32_w]
        rfl
       refine pure_ (i := 6) (N := some 35) (v := undef) (a' := ?_) QB55_7 rfl rfl (any_of HT_.out (by kernel_rfl)) (fun _ _ _ h => h) (Or.inr ⟨by rfl, rfl⟩) ?_ ?_
       rotate_left
       ·
        simp only [Act.put, List.setIfInBounds_toArray, List.set_cons_zero, List.set_cons_succ, i64_w, i32_w]
        rfl
       refine pure_ (i := 7) (N := some 36) (v := undef) (a' := ?_) QB55_8 rfl rfl (any_of HT_.out (by kernel_rfl)) (fun _ _ _ h => h) (Or.inr ⟨by rfl, rfl⟩) ?_ ?_
       rotate_left
       ·
        simp only [Act.put, List.setIfInBounds_toArray, List.set_cons_zero, List.set_cons_succ, i64_w, i32_w]
        rfl
       refine pure_ (i := 8) (N := some 37) (v := undef) (a' := ?_) QB55_9 rfl rfl (any_of HT_.out (by kernel_rfl)) (fun _ _ _ h => h) (Or.inr ⟨by rfl, rfl⟩) ?_ ?_
       rotate_left
       ·
        simp only [Act.put, List.setIfInBounds_toArray, List.set_cons_zero, List.set_cons_succ, i64_w, i32_w]
        rfl
       refine pure_ (i := 9) (N := some 38) (v := undef) (a' := ?_) QB55_10 rfl rfl (any_of HT_.out (by kernel_rfl)) (fun _ _ _ h => h) (Or.inr ⟨by rfl, rfl⟩) ?_ ?_
       rotate_left
       ·
        simp only [Act.put, List.setIfInBounds_toArray, List.set_cons_zero, List.set_cons_succ, i64_w, i32_w]
        rfl
       refine pure_ (i := 10) (N := some 39) (v := undef) (a' := ?_) QB55_11 rfl rfl (any_of HT_.out (by kernel_rfl)) (fun _ _ _ h => h) (Or.inr ⟨by rfl, rfl⟩) ?_ ?_
       rotate_left
       ·
        simp only [Act.put, List.setIfInBounds_toArray, List.set_cons_zero, List.set_cons_succ, i64_w, i32_w]
        rfl
       refine pure_ (i := 11) (N := some 40) (v := ?_) (a' := ?_) QB55_12 rfl rfl (any_of HT_.out (by kernel_rfl)) (fun _ _ _ h => h) (Or.inl ⟨by rfl, ?_⟩) ?_ ?_
       rotate_left
       ·
        intro w'
        go_simp
        with_reducible rfl
       rotate_left
       ·
        simp only [Act.put, List.setIfInBounds_toArray, List.set_cons_zero, List.set_cons_succ, i64_w, i32_w]
        rfl
       refine pure_ (i := 12) (N := some 41) (v := ?_) (a' := ?_) QB55_13 rfl rfl (any_of HT_.out (by kernel_rfl)) (fun _ _ _ h => h) (Or.inl ⟨by rfl, ?_⟩) ?_ ?_
       rotate_left
       ·
        intro w'
        go_simp
        with_reducible rfl
       rotate_left
       ·
        simp only [Act.put, List.setIfInBounds_toArray, List.set_cons_zero, List.set_cons_succ, i64_w, i32_w]
        rfl
       refine pure_ (i := 13) (N := some 42) (v := undef) (a' := ?_) QB55_36 rfl rfl (any_of HT_.out (by kernel_rfl)) (fun _ _ _ h => h) (Or.inr ⟨by rfl, rfl⟩) ?_ ?_
       rotate_left
       ·
        simp only [Act.put, List.setIfInBounds_toArray, List.set_cons_zero, List.set_cons_succ, i64_w, i32_w]
        rfl
       refine pure_ (i := 14) (N := some 43) (v := undef) (a' := ?_) QB55_37 rfl rfl (any_of HT_.out (by kernel_rfl)) (fun _ _ _ h => h) (Or.inr ⟨by rfl, rfl⟩) ?_ ?_
       rotate_left
       ·
        simp only [Act.put, List.setIfInBounds_toArray, List.set_cons_zero, List.set_cons_succ, i64_w, i32_w]
        rfl
       refine pure_ (i := 15) (N := some 44) (v := undef) (a' := ?_) QB55_38 rfl rfl (any_of HT_.out (by kernel_rfl)) (fun _ _ _ h => h) (Or.inr ⟨by rfl, rfl⟩) ?_ ?_
       rotate_left
       ·
        simp only [Act.put, List.setIfInBounds_toArray, List.set_cons_zero, List.set_cons_succ, i64_w, i32_w]
        rfl
       refine pure_ (i := 16) (N := some 45) (v := undef) (a' := ?_) QB55_39 rfl rfl (any_of HT_.out (by kernel_rfl)) (fun _ _ _ h => h) (Or.inr ⟨by rfl, rfl⟩) ?_ ?_
       rotate_left
       ·
        simp only [Act.put, List.setIfInBounds_toArray, List.set_cons_zero, List.set_cons_succ, i64_w, i32_w]
        rfl
       refine pure_ (i := 17) (N := some 46) (v := undef) (a' := ?_) QB55_14 rfl rfl (any_of HT_.out (by kernel_rfl)) (fun _ _ _ h => h) (Or.inr ⟨by rfl, rfl⟩) ?_ ?_
       rotate_left
       ·
        simp only [Act.put, List.setIfInBounds_toArray, List.set_cons_zero, List.set_cons_succ, i64_w, i32_w]
        rfl
       refine pure_ (i := 18) (N := some 47) (v := undef) (a' := ?_) QB55_15 rfl rfl (any_of HT_.out (by kernel_rfl)) (fun _ _ _ h => h) (Or.inr ⟨by rfl, rfl⟩) ?_ ?_
       rotate_left
       ·
        simp only [Act.put, List.setIfInBounds_toArray, List.set_cons_zero, List.set_cons_succ, i64_w, i32_w]
        rfl
       refine pure_ (i := 19) (N := some 48) (v := ?_) (a' := ?_) QB55_16 rfl rfl (any_of HT_.out (by kernel_rfl)) (fun _ _ _ h => h) (Or.inl ⟨by rfl, ?_⟩) ?_ ?_
       rotate_left
       ·
        intro w'
        go_simp
        with_reducible rfl
       rotate_left
       ·
        simp only [Act.put, List.setIfInBounds_toArray, List.set_cons_zero, List.set_cons_succ, i64_w, i32_w]
        rfl
       refine pure_ (i := 20) (N := some 49) (v := ?_) (a' := ?_) QB55_17 rfl rfl (any_of HT_.out (by kernel_rfl)) (fun _ _ _ h => h) (Or.inl ⟨by rfl, ?_⟩) ?_ ?_
       rotate_left
       ·
        intro w'
        go_simp
        with_reducible rfl
       rotate_left
       ·
        simp only [Act.put, List.setIfInBounds_toArray, List.set_cons_zero, List.set_cons_succ, i64_w, i32_w]
        rfl
       refine pure_ (i := 21) (N := some 50) (v := undef) (a' := ?_) QB55_18 rfl rfl (any_of HT_.out (by kernel_rfl)) (fun _ _ _ h => h) (Or.inr ⟨by rfl, rfl⟩) ?_ ?_
       rotate_left
       ·
        simp only [Act.put, List.setIfInBounds_toArray, List.set_cons_zero, List.set_cons_succ, i64_w, i32_w]
        rfl
       refine pure_ (i := 22) (N := some 51) (v := undef) (a' := ?_) QB55_19 rfl rfl (any_of HT_.out (by kernel_rfl)) (fun _ _ _ h => h) (Or.inr ⟨by rfl, rfl⟩) ?_ ?_
       rotate_left
       ·
        simp only [Act.put, List.setIfInBounds_toArray, List.set_cons_zero, List.set_cons_succ, i64_w, i32_w]
        rfl
       refine pure_ (i := 23) (N := some 52) (v := undef) (a' := ?_) QB55_20 rfl rfl (any_of HT_.out (by kernel_rfl)) (fun _ _ _ h => h) (Or.inr ⟨by rfl, rfl⟩) ?_ ?_
       rotate_left
       ·
        simp only [Act.put, List.setIfInBounds_toArray, List.set_cons_zero, List.set_cons_succ, i64_w, i32_w]
        rfl
       refine pure_ (i := 24) (N := some 53) (v := undef) (a' := ?_) QB55_21 rfl rfl (any_of HT_.out (by kernel_rfl)) (fun _ _ _ h => h) (Or.inr ⟨by rfl, rfl⟩) ?_ ?_
       rotate_left
       ·
        simp only [Act.put, List.setIfInBounds_toArray, List.set_cons_zero, List.set_cons_succ, i64_w, i32_w]
        rfl
       refine pure_ (i := 25) (N := some 54) (v := undef) (a' := ?_) QB55_22 rfl rfl (any_of HT_.out (by kernel_rfl)) (fun _ _ _ h => h) (Or.inr ⟨by rfl, rfl⟩) ?_ ?_
       rotate_left
       ·
        simp only [Act.put, List.setIfInBounds_toArray, List.set_cons_zero, List.set_cons_succ, i64_w, i32_w]
        rfl
       refine pure_ (i := 26) (N := some 55) (v := ?_) (a' := ?_) QB55_23 rfl rfl (any_of HT_.out (by kernel_rfl)) (fun _ _ _ h => h) (Or.inl ⟨by rfl, ?_⟩) ?_ ?_
       rotate_left
       ·
        intro w'
        go_simp
        with_reducible rfl
       rotate_left
       ·
        simp only [Act.put, List.setIfInBounds_toArray, List.set_cons_zero, List.set_cons_succ, i64_w, i32_w]
        rfl
       refine pure_ (i := 27) (N := some 56) (v := ?_) (a' := ?_) QB55_24 rfl rfl (any_of HT_.out (by kernel_rfl)) (fun _ _ _ h => h) (Or.inl ⟨by rfl, ?_⟩) ?_ ?_
       rotate_left
       ·
        intro w'
        go_simp
        with_reducible rfl
       rotate_left
       ·
        simp only [Act.put, List.setIfInBounds_toArray, List.set_cons_zero, List.set_cons_succ, i64_w, i32_w]
        rfl
       refine pure_ (i := 28) (N := some 57) (v := undef) (a' := ?_) QB55_25 rfl rfl (any_of HT_.out (by kernel_rfl)) (fun _ _ _ h => h) (Or.inr ⟨by rfl, rfl⟩) ?_ ?_
       rotate_left
       ·
        simp only [Act.put, List.setIfInBounds_toArray, List.set_cons_zero, List.set_cons_succ, i64_w, i32_w]
        rfl
       refine pure_ (i := 29) (N := some 58) (v := undef) (a' := ?_) QB55_26 rfl rfl (any_of HT_.out (by kernel_rfl)) (fun _ _ _ h => h) (Or.inr ⟨by rfl, rfl⟩) ?_ ?_
       rotate_left
       ·
        simp only [Act.put, List.setIfInBounds_toArray, List.set_cons_zero, List.set_cons_succ, i64_w, i32_w]
        rfl
       refine pure_ (i := 30) (N := some 59) (v := undef) (a' := ?_) QB55_27 rfl rfl (any_of HT_.out (by kernel_rfl)) (fun _ _ _ h => h) (Or.inr ⟨by rfl, rfl⟩) ?_ ?_
       rotate_left
       ·
        simp only [Act.put, List.setIfInBounds_toArray, List.set_cons_zero, List.set_cons_succ, i64_w, i32_w]
        rfl
       refine pure_ (i := 31) (N := some 60) (v := undef) (a' := ?_) QB55_28 rfl rfl (any_of HT_.out (by kernel_rfl)) (fun _ _ _ h => h) (Or.inr ⟨by rfl, rfl⟩) ?_ ?_
       rotate_left
       ·
        simp only [Act.put, List.setIfInBounds_toArray, List.set_cons_zero, List.set_cons_succ, i64_w, i32_w]
        rfl
       refine pure_ (i := 32) (N := some 61) (v := undef) (a' := ?_) QB55_29 rfl rfl (any_of HT_.out (by kernel_rfl)) (fun _ _ _ h => h) (Or.inr ⟨by rfl, rfl⟩) ?_ ?_
       rotate_left
       ·
        simp only [Act.put, List.setIfInBounds_toArray, List.set_cons_zero, List.set_cons_succ, i64_w, i32_w]
        rfl
       refine pure_ (i := 33) (N := some 62) (v := ?_) (a' := ?_) QB55_30 rfl rfl (any_of HT_.out (by kernel_rfl)) (fun _ _ _ h => h) (Or.inl ⟨by rfl, ?_⟩) ?_ ?_
       rotate_left
       ·
        intro w'
        go_simp
        with_reducible rfl
       rotate_left
       ·
        simp only [Act.put, List.setIfInBounds_toArray, List.set_cons_zero, List.set_cons_succ, i64_w, i32_w]
        rfl
       refine pure_ (i := 34) (N := some 0) (v := ?_) (a' := ?_) QB55_31 rfl rfl (any_of HT_.out (by kernel_rfl)) (fun _ _ _ h => h) (Or.inl ⟨by rfl, ?_⟩) ?_ ?_
       rotate_left
       ·
        intro w'
        go_simp
        with_reducible rfl
       rotate_left
       ·
        simp only [Act.put, List.setIfInBounds_toArray, List.set_cons_zero, List.set_cons_succ, i64_w, i32_w]
        rfl
       refine done_ (done_of HT_.out (by kernel_rfl)) ?_
       try go_wp2
       go_ret
       exact ⟨by first | rfl | (simp [errW_none, errW_some] <;> rfl) | (simp [*, errW_none, errW_some] <;> rfl), by repeat (first | (with_reducible first | exact HB.out | apply below_alloc | apply pw_below_drewN | apply below_drew1 | refine below_set ?_ GE188.out) | exact HB.out)⟩
     ·
      rw [if_neg c31] at H
      exact absurd H (by simp)
 ·
  rw [if_neg c2] at H
  exact absurd H (by simp)
end Go.Proofs.Ytnaanamibfpbpaa.V
namespace Go.Proofs.Ytnaanamibfpbpaa.V
open Go.RowKit Go.Proofs.YtnaanamibfpbpaaW.PrintWords Go.Proofs.YtnaanamibfpbpaaW.PrintLast Go.Proofs.YtnaanamibfpbpaaW.PrintMore
attribute [local go_sem] max2_int min2_int max_two min_two max_three min_three max_four min_four tdiv_most
set_option linter.unusedVariables false
set_option linter.unusedSimpArgs false
attribute [local go_sem high] eqA35
mutual
def vetchlaw11_FlowTexts.j0 : Nat → ByteArray → ByteArray → ByteArray → Bool → Bool → Bool → Bool → Bool → Bool → Option (Bool)
 | 0, _, _, _, _, _, _, _, _, _ => none
 | k + 1, x5, x6, x7, x427000, x427001, x427002, x428000, x428001, x428002 => if x427001 = true then (if x7.size + 1 ≤ 9223372036854775807 then (vetchlaw11_FlowTexts.j1 k x5 x6 (x7 ++ (⟨#[101]⟩ : ByteArray)) x427000 x427001 x427002 x428000 x428001 x428002) else (none)) else (vetchlaw11_FlowTexts.j1 k x5 x6 x7 x427000 x427001 x427002 x428000 x428001 x428002)
def vetchlaw11_FlowTexts.j1 : Nat → ByteArray → ByteArray → ByteArray → Bool → Bool → Bool → Bool → Bool → Bool → Option (Bool)
 | 0, _, _, _, _, _, _, _, _, _ => none
 | k + 1, x5, x6, x7, x427000, x427001, x427002, x428000, x428001, x428002 => if x427002 = true then (if x7.size + 1 ≤ 9223372036854775807 then (if (x7 ++ (⟨#[102]⟩ : ByteArray)).toList = ([] : List UInt8) then (if x5.toList = ([45] : List UInt8) then (some ((x5.toList == x6.toList) == (x427000 == x428000 && (x427001 == x428001 && (x427002 == x428002))))) else (some false)) else (if x5.toList = (x7 ++ (⟨#[102]⟩ : ByteArray)).toList then (some ((x5.toList == x6.toList) == (x427000 == x428000 && (x427001 == x428001 && (x427002 == x428002))))) else (some false))) else (none)) else (if x7.toList = ([] : List UInt8) then (if x5.toList = ([45] : List UInt8) then (some ((x5.toList == x6.toList) == (x427000 == x428000 && (x427001 == x428001 && (x427002 == x428002))))) else (some false)) else (if x5.toList = x7.toList then (some ((x5.toList == x6.toList) == (x427000 == x428000 && (x427001 == x428001 && (x427002 == x428002))))) else (some false)))
end
def vetchlaw11_FlowTexts.f (k : Nat) (a0_0 : Bool) (a0_1 : Bool) (a0_2 : Bool) (a1_0 : Bool) (a1_1 : Bool) (a1_2 : Bool) : Option (Bool) := (vetchlaw11_awake.f k).bind fun t428 => (if t428 = true then ((flow_Text.f k a0_0 a0_1 a0_2).bind fun t429 => ((flow_Text.f k a1_0 a1_1 a1_2).bind fun t430 => (if a0_0 = true then (if 0 + 1 ≤ 9223372036854775807 then (vetchlaw11_FlowTexts.j0 k t429 t430 ((⟨#[]⟩ : ByteArray) ++ (⟨#[110]⟩ : ByteArray)) a0_0 a0_1 a0_2 a1_0 a1_1 a1_2) else (none)) else (vetchlaw11_FlowTexts.j0 k t429 t430 (⟨#[]⟩ : ByteArray) a0_0 a0_1 a0_2 a1_0 a1_1 a1_2)))) else (some false))
set_option maxHeartbeats 8000000 in
set_option maxRecDepth 100000 in
theorem vetchlaw11_FlowTexts.calls (k : Nat) (a0_0 : Bool) (a0_1 : Bool) (a0_2 : Bool) (a1_0 : Bool) (a1_1 : Bool) (a1_2 : Bool) (r : Bool) (w : World) (h : vetchlaw11_FlowTexts.f k a0_0 a0_1 a0_2 a1_0 a1_1 a1_2 = some r) :
 Calls Try.prog 7 #[.agg #[.bool a0_0, .bool a0_1, .bool a0_2], .agg #[.bool a1_0, .bool a1_1, .bool a1_2]] w fun e w' => e = .returned (.bool r) ∧ Below w.heap.size w w' := by
 have hu35 := Try.underlying35
 have HB := Aside0.mk (Below.refl w.heap.size w)
 have H : ((vetchlaw11_awake.f k).bind fun t428 => (if t428 = true then ((flow_Text.f k a0_0 a0_1 a0_2).bind fun t429 => ((flow_Text.f k a1_0 a1_1 a1_2).bind fun t430 => (if a0_0 = true then (if 0 + 1 ≤ 9223372036854775807 then (vetchlaw11_FlowTexts.j0 k t429 t430 ((⟨#[]⟩ : ByteArray) ++ (⟨#[110]⟩ : ByteArray)) a0_0 a0_1 a0_2 a1_0 a1_1 a1_2) else (none)) else (vetchlaw11_FlowTexts.j0 k t429 t430 (⟨#[]⟩ : ByteArray) a0_0 a0_1 a0_2 a1_0 a1_1 a1_2)))) else (some false))) = some r := h
 clear h
 replace H := Option.bind_eq_some_iff.mp H
 obtain ⟨t428, A30, H⟩ := H
 replace H : (if t428 = true then ((flow_Text.f k a0_0 a0_1 a0_2).bind fun t429 => ((flow_Text.f k a1_0 a1_1 a1_2).bind fun t430 => (if a0_0 = true then (if 0 + 1 ≤ 9223372036854775807 then (vetchlaw11_FlowTexts.j0 k t429 t430 ((⟨#[]⟩ : ByteArray) ++ (⟨#[110]⟩ : ByteArray)) a0_0 a0_1 a0_2 a1_0 a1_1 a1_2) else (none)) else (vetchlaw11_FlowTexts.j0 k t429 t430 (⟨#[]⟩ : ByteArray) a0_0 a0_1 a0_2 a1_0 a1_1 a1_2)))) else (some false)) = some r := H
 have A3 := Aside0.mk A30
 clear A30
 by_cases c4 : t428 = true
 ·
  subst c4
  have H1 : ((flow_Text.f k a0_0 a0_1 a0_2).bind fun t429 => ((flow_Text.f k a1_0 a1_1 a1_2).bind fun t430 => (if a0_0 = true then (if 0 + 1 ≤ 9223372036854775807 then (vetchlaw11_FlowTexts.j0 k t429 t430 ((⟨#[]⟩ : ByteArray) ++ (⟨#[110]⟩ : ByteArray)) a0_0 a0_1 a0_2 a1_0 a1_1 a1_2) else (none)) else (vetchlaw11_FlowTexts.j0 k t429 t430 (⟨#[]⟩ : ByteArray) a0_0 a0_1 a0_2 a1_0 a1_1 a1_2)))) = some r := by rw [if_pos rfl] at H; exact H
  clear H
  have H := H1
  clear H1
  replace H := Option.bind_eq_some_iff.mp H
  obtain ⟨t429, A50, H⟩ := H
  replace H : ((flow_Text.f k a1_0 a1_1 a1_2).bind fun t430 => (if a0_0 = true then (if 0 + 1 ≤ 9223372036854775807 then (vetchlaw11_FlowTexts.j0 k t429 t430 ((⟨#[]⟩ : ByteArray) ++ (⟨#[110]⟩ : ByteArray)) a0_0 a0_1 a0_2 a1_0 a1_1 a1_2) else (none)) else (vetchlaw11_FlowTexts.j0 k t429 t430 (⟨#[]⟩ : ByteArray) a0_0 a0_1 a0_2 a1_0 a1_1 a1_2))) = some r := H
  have A5 := Aside0.mk A50
  clear A50
  replace H := Option.bind_eq_some_iff.mp H
  obtain ⟨t430, A60, H⟩ := H
  replace H : (if a0_0 = true then (if 0 + 1 ≤ 9223372036854775807 then (vetchlaw11_FlowTexts.j0 k t429 t430 ((⟨#[]⟩ : ByteArray) ++ (⟨#[110]⟩ : ByteArray)) a0_0 a0_1 a0_2 a1_0 a1_1 a1_2) else (none)) else (vetchlaw11_FlowTexts.j0 k t429 t430 (⟨#[]⟩ : ByteArray) a0_0 a0_1 a0_2 a1_0 a1_1 a1_2)) = some r := H
  have A6 := Aside0.mk A60
  clear A60
  have HC7 := Aside0.mk H
  clear H
  go_enter Try.func7, Try.ntmps7
  go_upto_if 15 with (first | ((with_reducible refine gate_dst (N := 2) rfl ?_); refine box_event ?hg (N := 2) ?hd (cs := #[.bool a0_0, .bool a0_1, .bool a0_2]) (t := 35) ?hr ?_; (case hd => rfl); (case hg => rfl); (case hr => first | (go_simp; done) | (go_simp; rfl)); intro gb426 hg w8 hbox hb; have n0_ := Aside0.mk (below_step (by repeat (first | (with_reducible first | exact HB.out | apply below_alloc | apply pw_below_drewN | apply below_drew1) | exact HB.out)) hb); have n1_ := Aside0.mk (hbox); have n2_ := Aside0.mk ((by rw [hg]; exact (below_size (by repeat (first | (with_reducible first | exact HB.out | apply below_alloc | apply pw_below_drewN | apply below_drew1) | exact HB.out))) : w.heap.size ≤ gb426)); have n3_ := Aside0.mk ((by rw [hg]; exact (below_size (by repeat (first | (with_reducible first | exact HB.out | apply below_alloc | apply pw_below_drewN | apply below_drew1) | exact HB.out))) : w.heap.size ≤ gb426)); clear HB; have HB := n0_; have BK426 := n1_; have GW426 := n2_; have GE426 := n3_; clear n0_ n1_ n2_ n3_; clear hb hbox hg) | ((with_reducible refine gate_dst (N := 3) rfl ?_); refine box_event ?hg (N := 3) ?hd (cs := #[.bool a1_0, .bool a1_1, .bool a1_2]) (t := 35) ?hr ?_; (case hd => rfl); (case hg => rfl); (case hr => first | (go_simp; done) | (go_simp; rfl)); intro gb427 hg w9 hbox hb; have n0_ := Aside0.mk (blk_below (g := gb426) (o := .cells #[.bool a0_0, .bool a0_1, .bool a0_2] 35 (0, 0)) (by (with_reducible repeat (first | refine blk_drewN ?_ _ | refine blk_drew ?_ | refine blk_alloc ?_ _)); exact BK426.out) hb); have n1_ := Aside0.mk (below_step (by repeat (first | (with_reducible first | exact HB.out | apply below_alloc | apply pw_below_drewN | apply below_drew1 | refine below_set ?_ GE426.out) | exact HB.out)) hb); have n2_ := Aside0.mk (hbox); have n3_ := Aside0.mk ((by rw [hg]; exact (below_size (by repeat (first | (with_reducible first | exact HB.out | apply below_alloc | apply pw_below_drewN | apply below_drew1 | refine below_set ?_ GE426.out) | exact HB.out))) : w.heap.size ≤ gb427)); have n4_ := Aside0.mk ((by rw [hg]; exact (below_size (by repeat (first | (with_reducible first | exact HB.out | apply below_alloc | apply pw_below_drewN | apply below_drew1 | refine below_set ?_ GE426.out) | exact HB.out))) : w.heap.size ≤ gb427)); have n5_ := Aside0.mk ((by rw [hg]; exact Nat.ne_of_lt (blk_lt (g := gb426) (o := .cells #[.bool a0_0, .bool a0_1, .bool a0_2] 35 (0, 0)) (by (with_reducible repeat (first | refine blk_drewN ?_ _ | refine blk_drew ?_ | refine blk_alloc ?_ _)); exact BK426.out)) : gb426 ≠ gb427)); have n6_ := Aside0.mk ((by rw [hg]; exact Nat.ne_of_gt (blk_lt (g := gb426) (o := .cells #[.bool a0_0, .bool a0_1, .bool a0_2] 35 (0, 0)) (by (with_reducible repeat (first | refine blk_drewN ?_ _ | refine blk_drew ?_ | refine blk_alloc ?_ _)); exact BK426.out)) : gb427 ≠ gb426)); clear BK426; clear HB; have BK426 := n0_; have HB := n1_; have BK427 := n2_; have GW427 := n3_; have GE427 := n4_; have NB426_427 := n5_; have NB427_426 := n6_; clear n0_ n1_ n2_ n3_ n4_ n5_ n6_; clear hb hbox hg) | ((with_reducible refine gate_callee (f := 8) rfl ?_); refine goesL_ (some 8) rfl rfl Try.func8 (by kernel_rfl) rfl #[] rfl (by (try simp only [List.map_toArray, List.map_cons, List.map_nil]); first | done | rfl | (simp only [List.length_drop, List.length_take]; rfl)) ?_; (with_reducible refine (vetchlaw11_awake.calls k  true _ A3.out).mono ?_); rintro e w10 ⟨rfl, hb⟩; refine ⟨_, rfl, ?_⟩; have n0_ := Aside0.mk (blk_below (g := gb426) (o := .cells #[.bool a0_0, .bool a0_1, .bool a0_2] 35 (0, 0)) (by (with_reducible repeat (first | refine blk_drewN ?_ _ | refine blk_drew ?_ | refine blk_alloc ?_ _)); exact BK426.out) hb); have n1_ := Aside0.mk (blk_below (g := gb427) (o := .cells #[.bool a1_0, .bool a1_1, .bool a1_2] 35 (0, 0)) (by (with_reducible repeat (first | refine blk_drewN ?_ _ | refine blk_drew ?_ | refine blk_alloc ?_ _)); exact BK427.out) hb); have n2_ := Aside0.mk (below_step (by repeat (first | (with_reducible first | exact HB.out | apply below_alloc | apply pw_below_drewN | apply below_drew1 | refine below_set ?_ GE426.out | refine below_set ?_ GE427.out) | exact HB.out)) hb); clear BK426; clear BK427; clear HB; have BK426 := n0_; have BK427 := n1_; have HB := n2_; clear n0_ n1_ n2_; (try clear hb); (try clear hb2); (try clear hk); (try clear hi); have hnb11 := NB426_427.out; have hnc11 := NB427_426.out; have hcz12_0 : w10.cell? ⟨gb426, 0, none⟩ = some (.bool a0_0) := (blk_cell BK426.out 0).trans rfl; have hcz12_1 : w10.cell? ⟨gb426, 1, none⟩ = some (.bool a0_1) := (blk_cell BK426.out 1).trans rfl; have hcz12_2 : w10.cell? ⟨gb426, 2, none⟩ = some (.bool a0_2) := (blk_cell BK426.out 2).trans rfl; have hfz12_0 := blk_frozen BK426.out 0; have hfz12_1 := blk_frozen BK426.out 1; have hfz12_2 := blk_frozen BK426.out 2) | ((with_reducible refine gate_callee (f := 19) rfl ?_); refine goesL_ (some 11) rfl rfl Try.func19 (by kernel_rfl) rfl #[.agg #[.bool a0_0, .bool a0_1, .bool a0_2]] rfl (by (try simp only [List.map_toArray, List.map_cons, List.map_nil]); first | done | rfl | (simp only [List.length_drop, List.length_take]; rfl)) ?_; (with_reducible refine (flow_Text.calls k a0_0 a0_1 a0_2 t429 _ A5.out).mono ?_); rintro e w13 ⟨rfl, hb⟩; refine ⟨_, rfl, ?_⟩; have n0_ := Aside0.mk (blk_below (g := gb426) (o := .cells #[.bool a0_0, .bool a0_1, .bool a0_2] 35 (0, 0)) (by (with_reducible repeat (first | refine blk_drewN ?_ _ | refine blk_drew ?_ | refine blk_alloc ?_ _)); exact BK426.out) hb); have n1_ := Aside0.mk (blk_below (g := gb427) (o := .cells #[.bool a1_0, .bool a1_1, .bool a1_2] 35 (0, 0)) (by (with_reducible repeat (first | refine blk_drewN ?_ _ | refine blk_drew ?_ | refine blk_alloc ?_ _)); exact BK427.out) hb); have n2_ := Aside0.mk (below_step (by repeat (first | (with_reducible first | exact HB.out | apply below_alloc | apply pw_below_drewN | apply below_drew1 | refine below_set ?_ GE426.out | refine below_set ?_ GE427.out) | exact HB.out)) hb); clear BK426; clear BK427; clear HB; have BK426 := n0_; have BK427 := n1_; have HB := n2_; clear n0_ n1_ n2_; (try clear hb); (try clear hb2); (try clear hk); (try clear hi); have hcz14_0 : w13.cell? ⟨gb427, 0, none⟩ = some (.bool a1_0) := (blk_cell BK427.out 0).trans rfl; have hcz14_1 : w13.cell? ⟨gb427, 1, none⟩ = some (.bool a1_1) := (blk_cell BK427.out 1).trans rfl; have hcz14_2 : w13.cell? ⟨gb427, 2, none⟩ = some (.bool a1_2) := (blk_cell BK427.out 2).trans rfl; have hfz14_0 := blk_frozen BK427.out 0; have hfz14_1 := blk_frozen BK427.out 1; have hfz14_2 := blk_frozen BK427.out 2) | ((with_reducible refine gate_callee (f := 19) rfl ?_); refine goesL_ (some 13) rfl rfl Try.func19 (by kernel_rfl) rfl #[.agg #[.bool a1_0, .bool a1_1, .bool a1_2]] rfl (by (try simp only [List.map_toArray, List.map_cons, List.map_nil]); first | done | rfl | (simp only [List.length_drop, List.length_take]; rfl)) ?_; (with_reducible refine (flow_Text.calls k a1_0 a1_1 a1_2 t430 _ A6.out).mono ?_); rintro e w15 ⟨rfl, hb⟩; refine ⟨_, rfl, ?_⟩; have n0_ := Aside0.mk (blk_below (g := gb426) (o := .cells #[.bool a0_0, .bool a0_1, .bool a0_2] 35 (0, 0)) (by (with_reducible repeat (first | refine blk_drewN ?_ _ | refine blk_drew ?_ | refine blk_alloc ?_ _)); exact BK426.out) hb); have n1_ := Aside0.mk (blk_below (g := gb427) (o := .cells #[.bool a1_0, .bool a1_1, .bool a1_2] 35 (0, 0)) (by (with_reducible repeat (first | refine blk_drewN ?_ _ | refine blk_drew ?_ | refine blk_alloc ?_ _)); exact BK427.out) hb); have n2_ := Aside0.mk (below_step (by repeat (first | (with_reducible first | exact HB.out | apply below_alloc | apply pw_below_drewN | apply below_drew1 | refine below_set ?_ GE426.out | refine below_set ?_ GE427.out) | exact HB.out)) hb); clear BK426; clear BK427; clear HB; have BK426 := n0_; have BK427 := n1_; have HB := n2_; clear n0_ n1_ n2_; (try clear hb); (try clear hb2); (try clear hk); (try clear hi); have hcz16_0 : w15.cell? ⟨gb426, 0, none⟩ = some (.bool a0_0) := (blk_cell BK426.out 0).trans rfl; have hcz16_1 : w15.cell? ⟨gb426, 1, none⟩ = some (.bool a0_1) := (blk_cell BK426.out 1).trans rfl; have hcz16_2 : w15.cell? ⟨gb426, 2, none⟩ = some (.bool a0_2) := (blk_cell BK426.out 2).trans rfl; have hfz16_0 := blk_frozen BK426.out 0; have hfz16_1 := blk_frozen BK426.out 1; have hfz16_2 := blk_frozen BK426.out 2))
  (try simp only [Act.put, List.setIfInBounds_toArray, List.set_cons_zero, List.set_cons_succ])
  go_cut [7] (fun v7 wc => ∃ (kq : Nat) (x7_6 : ByteArray), v7 = .string x7_6 ∧ Aside0 (vetchlaw11_FlowTexts.j0 kq t429 t430 x7_6 a0_0 a0_1 a0_2 a1_0 a1_1 a1_2 = some r) ∧ Aside0 (kq ≤ k) ∧ Aside0 (wc.heap[gb426]? = some (.cells #[.bool a0_0, .bool a0_1, .bool a0_2] 35 (0, 0))) ∧ Aside0 (wc.heap[gb427]? = some (.cells #[.bool a1_0, .bool a1_1, .bool a1_2] 35 (0, 0))) ∧ Aside0 (Below w.heap.size w wc))
  case first =>
   have H := HC7.out
   clear HC7
   by_cases c17 : a0_0 = true
   ·
    subst c17
    have H1 : (if 0 + 1 ≤ 9223372036854775807 then (vetchlaw11_FlowTexts.j0 k t429 t430 ((⟨#[]⟩ : ByteArray) ++ (⟨#[110]⟩ : ByteArray)) true a0_1 a0_2 a1_0 a1_1 a1_2) else (none)) = some r := by rw [if_pos rfl] at H; exact H
    clear H
    have H := H1
    clear H1
    by_cases c18 : 0 + 1 ≤ 9223372036854775807
    ·
     rw [if_pos c18] at H
     have c18b0 := eq_true c18
     have c18b1 : decide (0 + 1 ≤ 9223372036854775807) = true := decide_eq_true c18
     try have c18b2 : (9223372036854775807 < 0 + 1) = False := eq_false (Nat.not_lt.2 c18)
     have H' := Aside0.mk H
     clear H
     go_wp2
     go_meet
     case rel => exact ⟨_, ((⟨#[]⟩ : ByteArray) ++ (⟨#[110]⟩ : ByteArray)), (by first | rfl | (simp; done) | (simp [*]; done)), H', ⟨by first | omega | exact Nat.le_refl _⟩, ⟨by (with_reducible repeat (first | refine blk_drewN ?_ _ | refine blk_drew ?_ | refine blk_alloc ?_ _)); exact BK426.out⟩, ⟨by (with_reducible repeat (first | refine blk_drewN ?_ _ | refine blk_drew ?_ | refine blk_alloc ?_ _)); exact BK427.out⟩, ⟨by repeat (first | (with_reducible first | exact HB.out | apply below_alloc | apply pw_below_drewN | apply below_drew1 | refine below_set ?_ GE426.out | refine below_set ?_ GE427.out) | exact HB.out)⟩⟩
    ·
     rw [if_neg c18] at H
     exact absurd H (by simp)
   ·
    replace c17 := Bool.eq_false_iff.mpr c17
    subst c17
    have H1 : (vetchlaw11_FlowTexts.j0 k t429 t430 (⟨#[]⟩ : ByteArray) false a0_1 a0_2 a1_0 a1_1 a1_2) = some r := by rw [if_neg (show ¬ (false = true) by decide)] at H; exact H
    clear H
    have H := H1
    clear H1
    have H' := Aside0.mk H
    clear H
    go_wp2
    go_meet
    case rel => exact ⟨_, ((⟨#[]⟩ : ByteArray)), (by first | rfl | (simp; done) | (simp [*]; done)), H', ⟨by first | omega | exact Nat.le_refl _⟩, ⟨by (with_reducible repeat (first | refine blk_drewN ?_ _ | refine blk_drew ?_ | refine blk_alloc ?_ _)); exact BK426.out⟩, ⟨by (with_reducible repeat (first | refine blk_drewN ?_ _ | refine blk_drew ?_ | refine blk_alloc ?_ _)); exact BK427.out⟩, ⟨by repeat (first | (with_reducible first | exact HB.out | apply below_alloc | apply pw_below_drewN | apply below_drew1 | refine below_set ?_ GE426.out | refine below_set ?_ GE427.out) | exact HB.out)⟩⟩
  case rest =>
   clear HC7
   try clear c1
   try clear p2
   try clear c4
   try clear c7
   try clear c8
   try clear c11
   try clear c17
   try clear c18
   try clear c18b0
   try clear c18b1
   try clear c18b2
   try clear hcz12_0
   try clear hcz12_1
   try clear hcz12_2
   try clear hcz14_0
   try clear hcz14_1
   try clear hcz14_2
   try clear hcz16_0
   try clear hcz16_1
   try clear hcz16_2
   try clear hfz12_0
   try clear hfz12_1
   try clear hfz12_2
   try clear hfz14_0
   try clear hfz14_1
   try clear hfz14_2
   try clear hfz16_0
   try clear hfz16_1
   try clear hfz16_2
   obtain ⟨kq, x7_6, rfl, HA, HJ6, BK426, BK427, HB⟩ := hcut
   cases kq with
   | zero => exact absurd HA.out (by simp [vetchlaw11_FlowTexts.j0])
   | succ kj6 =>
    have H := HA.out
    clear HA
    simp only [vetchlaw11_FlowTexts.j0] at H
    have HC19 := Aside0.mk H
    clear H
    have hnb20 := NB426_427.out
    have hnc20 := NB427_426.out
    have hcz21_0 : wc.cell? ⟨gb426, 0, none⟩ = some (.bool a0_0) := (blk_cell BK426.out 0).trans rfl
    have hcz21_1 : wc.cell? ⟨gb426, 1, none⟩ = some (.bool a0_1) := (blk_cell BK426.out 1).trans rfl
    have hcz21_2 : wc.cell? ⟨gb426, 2, none⟩ = some (.bool a0_2) := (blk_cell BK426.out 2).trans rfl
    have hfz21_0 := blk_frozen BK426.out 0
    have hfz21_1 := blk_frozen BK426.out 1
    have hfz21_2 := blk_frozen BK426.out 2
    go_upto_if 19 with (fail)
    go_cut [7] (fun v7 wc => ∃ (kq : Nat) (x7_18 : ByteArray), v7 = .string x7_18 ∧ Aside0 (vetchlaw11_FlowTexts.j1 kq t429 t430 x7_18 a0_0 a0_1 a0_2 a1_0 a1_1 a1_2 = some r) ∧ Aside0 (kq ≤ kj6) ∧ Aside0 (wc.heap[gb426]? = some (.cells #[.bool a0_0, .bool a0_1, .bool a0_2] 35 (0, 0))) ∧ Aside0 (wc.heap[gb427]? = some (.cells #[.bool a1_0, .bool a1_1, .bool a1_2] 35 (0, 0))) ∧ Aside0 (Below w.heap.size w wc))
    case first =>
     have H := HC19.out
     clear HC19
     by_cases c22 : a0_1 = true
     ·
      subst c22
      have H1 : (if x7_6.size + 1 ≤ 9223372036854775807 then (vetchlaw11_FlowTexts.j1 kj6 t429 t430 (x7_6 ++ (⟨#[101]⟩ : ByteArray)) a0_0 true a0_2 a1_0 a1_1 a1_2) else (none)) = some r := by rw [if_pos rfl] at H; exact H
      clear H
      have H := H1
      clear H1
      by_cases c23 : x7_6.size + 1 ≤ 9223372036854775807
      ·
       rw [if_pos c23] at H
       have c23b0 := eq_true c23
       have c23b1 : decide (x7_6.size + 1 ≤ 9223372036854775807) = true := decide_eq_true c23
       try have c23b2 : (9223372036854775807 < x7_6.size + 1) = False := eq_false (Nat.not_lt.2 c23)
       have H' := Aside0.mk H
       clear H
       go_wp2
       go_meet
       case rel => exact ⟨_, (x7_6 ++ (⟨#[101]⟩ : ByteArray)), (by first | rfl | (simp; done) | (simp [*]; done)), H', ⟨by have := HJ6.out; first | omega | exact Nat.le_refl _⟩, ⟨by (with_reducible repeat (first | refine blk_drewN ?_ _ | refine blk_drew ?_ | refine blk_alloc ?_ _)); exact BK426.out⟩, ⟨by (with_reducible repeat (first | refine blk_drewN ?_ _ | refine blk_drew ?_ | refine blk_alloc ?_ _)); exact BK427.out⟩, ⟨by repeat (first | (with_reducible first | exact HB.out | apply below_alloc | apply pw_below_drewN | apply below_drew1 | refine below_set ?_ GE426.out | refine below_set ?_ GE427.out) | exact HB.out)⟩⟩
      ·
       rw [if_neg c23] at H
       exact absurd H (by simp)
     ·
      replace c22 := Bool.eq_false_iff.mpr c22
      subst c22
      have H1 : (vetchlaw11_FlowTexts.j1 kj6 t429 t430 x7_6 a0_0 false a0_2 a1_0 a1_1 a1_2) = some r := by rw [if_neg (show ¬ (false = true) by decide)] at H; exact H
      clear H
      have H := H1
      clear H1
      have H' := Aside0.mk H
      clear H
      go_wp2
      go_meet
      case rel => exact ⟨_, (x7_6), (by first | rfl | (simp; done) | (simp [*]; done)), H', ⟨by have := HJ6.out; first | omega | exact Nat.le_refl _⟩, ⟨by (with_reducible repeat (first | refine blk_drewN ?_ _ | refine blk_drew ?_ | refine blk_alloc ?_ _)); exact BK426.out⟩, ⟨by (with_reducible repeat (first | refine blk_drewN ?_ _ | refine blk_drew ?_ | refine blk_alloc ?_ _)); exact BK427.out⟩, ⟨by repeat (first | (with_reducible first | exact HB.out | apply below_alloc | apply pw_below_drewN | apply below_drew1 | refine below_set ?_ GE426.out | refine below_set ?_ GE427.out) | exact HB.out)⟩⟩
    case rest =>
     clear HC19
     try clear c1
     try clear c2
     try clear p2
     try clear c4
     try clear c7
     try clear c8
     try clear c11
     try clear c17
     try clear c18
     try clear c18b0
     try clear c18b1
     try clear c18b2
     try clear c19
     try clear c20
     try clear c22
     try clear c23
     try clear c23b0
     try clear c23b1
     try clear c23b2
     try clear hcz12_0
     try clear hcz12_1
     try clear hcz12_2
     try clear hcz14_0
     try clear hcz14_1
     try clear hcz14_2
     try clear hcz16_0
     try clear hcz16_1
     try clear hcz16_2
     try clear hcz21_0
     try clear hcz21_1
     try clear hcz21_2
     try clear hfz12_0
     try clear hfz12_1
     try clear hfz12_2
     try clear hfz14_0
     try clear hfz14_1
     try clear hfz14_2
     try clear hfz16_0
     try clear hfz16_1
     try clear hfz16_2
     try clear hfz21_0
     try clear hfz21_1
     try clear hfz21_2
     try clear p2
     obtain ⟨kq, x7_18, rfl, HA, HJ18, BK426, BK427, HB⟩ := hcut
     cases kq with
     | zero => exact absurd HA.out (by simp [vetchlaw11_FlowTexts.j1])
     | succ kj18 =>
      have H := HA.out
      clear HA
      simp only [vetchlaw11_FlowTexts.j1] at H
      by_cases c24 : a0_2 = true
      ·
       subst c24
       have H1 : (if x7_18.size + 1 ≤ 9223372036854775807 then (if (x7_18 ++ (⟨#[102]⟩ : ByteArray)).toList = ([] : List UInt8) then (if t429.toList = ([45] : List UInt8) then (some ((t429.toList == t430.toList) == (a0_0 == a1_0 && (a0_1 == a1_1 && (true == a1_2))))) else (some false)) else (if t429.toList = (x7_18 ++ (⟨#[102]⟩ : ByteArray)).toList then (some ((t429.toList == t430.toList) == (a0_0 == a1_0 && (a0_1 == a1_1 && (true == a1_2))))) else (some false))) else (none)) = some r := by rw [if_pos rfl] at H; exact H
       clear H
       have H := H1
       clear H1
       by_cases c25 : x7_18.size + 1 ≤ 9223372036854775807
       ·
        rw [if_pos c25] at H
        have c25b0 := eq_true c25
        have c25b1 : decide (x7_18.size + 1 ≤ 9223372036854775807) = true := decide_eq_true c25
        try have c25b2 : (9223372036854775807 < x7_18.size + 1) = False := eq_false (Nat.not_lt.2 c25)
        by_cases c26 : (x7_18 ++ (⟨#[102]⟩ : ByteArray)).toList = ([] : List UInt8)
        ·
         rw [if_pos c26] at H
         have c26b0 : ((x7_18 ++ (⟨#[102]⟩ : ByteArray)).toList == ([] : List UInt8)) = true := beq_iff_eq.mpr c26
         have c26b1 : ((x7_18 ++ (⟨#[102]⟩ : ByteArray)).toList != ([] : List UInt8)) = false := bne_eq_false_iff_eq.mpr c26
         clear c26
         by_cases c27 : t429.toList = ([45] : List UInt8)
         ·
          rw [if_pos c27] at H
          have c27b0 : (t429.toList == ([45] : List UInt8)) = true := beq_iff_eq.mpr c27
          have c27b1 : (t429.toList != ([45] : List UInt8)) = false := bne_eq_false_iff_eq.mpr c27
          clear c27
          obtain rfl := Option.some.inj H
          have hnb28 := NB426_427.out
          have hnc28 := NB427_426.out
          have hcz29_0 : wc.cell? ⟨gb426, 0, none⟩ = some (.bool a0_0) := (blk_cell BK426.out 0).trans rfl
          have hcz29_1 : wc.cell? ⟨gb426, 1, none⟩ = some (.bool a0_1) := (blk_cell BK426.out 1).trans rfl
          have hcz29_2 : wc.cell? ⟨gb426, 2, none⟩ = some (.bool true) := (blk_cell BK426.out 2).trans rfl
          have hfz29_0 := blk_frozen BK426.out 0
          have hfz29_1 := blk_frozen BK426.out 1
          have hfz29_2 := blk_frozen BK426.out 2
          have hcz30_0 : wc.cell? ⟨gb427, 0, none⟩ = some (.bool a1_0) := (blk_cell BK427.out 0).trans rfl
          have hcz30_1 : wc.cell? ⟨gb427, 1, none⟩ = some (.bool a1_1) := (blk_cell BK427.out 1).trans rfl
          have hcz30_2 : wc.cell? ⟨gb427, 2, none⟩ = some (.bool a1_2) := (blk_cell BK427.out 2).trans rfl
          have hfz30_0 := blk_frozen BK427.out 0
          have hfz30_1 := blk_frozen BK427.out 1
          have hfz30_2 := blk_frozen BK427.out 2
          go_wp2
          go_ret
          exact ⟨by first | rfl | (simp [errW_none, errW_some] <;> rfl) | (simp [*, errW_none, errW_some] <;> rfl), by repeat (first | (with_reducible first | exact HB.out | apply below_alloc | apply pw_below_drewN | apply below_drew1 | refine below_set ?_ GE426.out | refine below_set ?_ GE427.out) | exact HB.out)⟩
         ·
          rw [if_neg c27] at H
          have c27b0 : (t429.toList == ([45] : List UInt8)) = false := beq_eq_false_iff_ne.mpr c27
          have c27b1 : (t429.toList != ([45] : List UInt8)) = true := bne_iff_ne.mpr c27
          obtain rfl := Option.some.inj H
          have hnb31 := NB426_427.out
          have hnc31 := NB427_426.out
          have hcz32_0 : wc.cell? ⟨gb426, 0, none⟩ = some (.bool a0_0) := (blk_cell BK426.out 0).trans rfl
          have hcz32_1 : wc.cell? ⟨gb426, 1, none⟩ = some (.bool a0_1) := (blk_cell BK426.out 1).trans rfl
          have hcz32_2 : wc.cell? ⟨gb426, 2, none⟩ = some (.bool true) := (blk_cell BK426.out 2).trans rfl
          have hfz32_0 := blk_frozen BK426.out 0
          have hfz32_1 := blk_frozen BK426.out 1
          have hfz32_2 := blk_frozen BK426.out 2
          go_wp2
          go_ret
          exact ⟨by first | rfl | (simp [errW_none, errW_some] <;> rfl) | (simp [*, errW_none, errW_some] <;> rfl), by repeat (first | (with_reducible first | exact HB.out | apply below_alloc | apply pw_below_drewN | apply below_drew1 | refine below_set ?_ GE426.out | refine below_set ?_ GE427.out) | exact HB.out)⟩
        ·
         rw [if_neg c26] at H
         have c26b0 : ((x7_18 ++ (⟨#[102]⟩ : ByteArray)).toList == ([] : List UInt8)) = false := beq_eq_false_iff_ne.mpr c26
         have c26b1 : ((x7_18 ++ (⟨#[102]⟩ : ByteArray)).toList != ([] : List UInt8)) = true := bne_iff_ne.mpr c26
         by_cases c33 : t429.toList = (x7_18 ++ (⟨#[102]⟩ : ByteArray)).toList
         ·
          rw [if_pos c33] at H
          have c33b0 : (t429.toList == (x7_18 ++ (⟨#[102]⟩ : ByteArray)).toList) = true := beq_iff_eq.mpr c33
          have c33b1 : (t429.toList != (x7_18 ++ (⟨#[102]⟩ : ByteArray)).toList) = false := bne_eq_false_iff_eq.mpr c33
          clear c33
          obtain rfl := Option.some.inj H
          have hnb34 := NB426_427.out
          have hnc34 := NB427_426.out
          have hcz35_0 : wc.cell? ⟨gb426, 0, none⟩ = some (.bool a0_0) := (blk_cell BK426.out 0).trans rfl
          have hcz35_1 : wc.cell? ⟨gb426, 1, none⟩ = some (.bool a0_1) := (blk_cell BK426.out 1).trans rfl
          have hcz35_2 : wc.cell? ⟨gb426, 2, none⟩ = some (.bool true) := (blk_cell BK426.out 2).trans rfl
          have hfz35_0 := blk_frozen BK426.out 0
          have hfz35_1 := blk_frozen BK426.out 1
          have hfz35_2 := blk_frozen BK426.out 2
          have hcz36_0 : wc.cell? ⟨gb427, 0, none⟩ = some (.bool a1_0) := (blk_cell BK427.out 0).trans rfl
          have hcz36_1 : wc.cell? ⟨gb427, 1, none⟩ = some (.bool a1_1) := (blk_cell BK427.out 1).trans rfl
          have hcz36_2 : wc.cell? ⟨gb427, 2, none⟩ = some (.bool a1_2) := (blk_cell BK427.out 2).trans rfl
          have hfz36_0 := blk_frozen BK427.out 0
          have hfz36_1 := blk_frozen BK427.out 1
          have hfz36_2 := blk_frozen BK427.out 2
          go_wp2
          go_ret
          exact ⟨by first | rfl | (simp [errW_none, errW_some] <;> rfl) | (simp [*, errW_none, errW_some] <;> rfl), by repeat (first | (with_reducible first | exact HB.out | apply below_alloc | apply pw_below_drewN | apply below_drew1 | refine below_set ?_ GE426.out | refine below_set ?_ GE427.out) | exact HB.out)⟩
         ·
          rw [if_neg c33] at H
          have c33b0 : (t429.toList == (x7_18 ++ (⟨#[102]⟩ : ByteArray)).toList) = false := beq_eq_false_iff_ne.mpr c33
          have c33b1 : (t429.toList != (x7_18 ++ (⟨#[102]⟩ : ByteArray)).toList) = true := bne_iff_ne.mpr c33
          obtain rfl := Option.some.inj H
          have hnb37 := NB426_427.out
          have hnc37 := NB427_426.out
          have hcz38_0 : wc.cell? ⟨gb426, 0, none⟩ = some (.bool a0_0) := (blk_cell BK426.out 0).trans rfl
          have hcz38_1 : wc.cell? ⟨gb426, 1, none⟩ = some (.bool a0_1) := (blk_cell BK426.out 1).trans rfl
          have hcz38_2 : wc.cell? ⟨gb426, 2, none⟩ = some (.bool true) := (blk_cell BK426.out 2).trans rfl
          have hfz38_0 := blk_frozen BK426.out 0
          have hfz38_1 := blk_frozen BK426.out 1
          have hfz38_2 := blk_frozen BK426.out 2
          go_wp2
          go_ret
          exact ⟨by first | rfl | (simp [errW_none, errW_some] <;> rfl) | (simp [*, errW_none, errW_some] <;> rfl), by repeat (first | (with_reducible first | exact HB.out | apply below_alloc | apply pw_below_drewN | apply below_drew1 | refine below_set ?_ GE426.out | refine below_set ?_ GE427.out) | exact HB.out)⟩
       ·
        rw [if_neg c25] at H
        exact absurd H (by simp)
      ·
       replace c24 := Bool.eq_false_iff.mpr c24
       subst c24
       have H1 : (if x7_18.toList = ([] : List UInt8) then (if t429.toList = ([45] : List UInt8) then (some ((t429.toList == t430.toList) == (a0_0 == a1_0 && (a0_1 == a1_1 && (false == a1_2))))) else (some false)) else (if t429.toList = x7_18.toList then (some ((t429.toList == t430.toList) == (a0_0 == a1_0 && (a0_1 == a1_1 && (false == a1_2))))) else (some false))) = some r := by rw [if_neg (show ¬ (false = true) by decide)] at H; exact H
       clear H
       have H := H1
       clear H1
       by_cases c39 : x7_18.toList = ([] : List UInt8)
       ·
        rw [if_pos c39] at H
        have c39b0 : (x7_18.toList == ([] : List UInt8)) = true := beq_iff_eq.mpr c39
        have c39b1 : (x7_18.toList != ([] : List UInt8)) = false := bne_eq_false_iff_eq.mpr c39
        clear c39
        by_cases c40 : t429.toList = ([45] : List UInt8)
        ·
         rw [if_pos c40] at H
         have c40b0 : (t429.toList == ([45] : List UInt8)) = true := beq_iff_eq.mpr c40
         have c40b1 : (t429.toList != ([45] : List UInt8)) = false := bne_eq_false_iff_eq.mpr c40
         clear c40
         obtain rfl := Option.some.inj H
         have hnb41 := NB426_427.out
         have hnc41 := NB427_426.out
         have hcz42_0 : wc.cell? ⟨gb426, 0, none⟩ = some (.bool a0_0) := (blk_cell BK426.out 0).trans rfl
         have hcz42_1 : wc.cell? ⟨gb426, 1, none⟩ = some (.bool a0_1) := (blk_cell BK426.out 1).trans rfl
         have hcz42_2 : wc.cell? ⟨gb426, 2, none⟩ = some (.bool false) := (blk_cell BK426.out 2).trans rfl
         have hfz42_0 := blk_frozen BK426.out 0
         have hfz42_1 := blk_frozen BK426.out 1
         have hfz42_2 := blk_frozen BK426.out 2
         have hcz43_0 : wc.cell? ⟨gb427, 0, none⟩ = some (.bool a1_0) := (blk_cell BK427.out 0).trans rfl
         have hcz43_1 : wc.cell? ⟨gb427, 1, none⟩ = some (.bool a1_1) := (blk_cell BK427.out 1).trans rfl
         have hcz43_2 : wc.cell? ⟨gb427, 2, none⟩ = some (.bool a1_2) := (blk_cell BK427.out 2).trans rfl
         have hfz43_0 := blk_frozen BK427.out 0
         have hfz43_1 := blk_frozen BK427.out 1
         have hfz43_2 := blk_frozen BK427.out 2
         go_wp2
         go_ret
         exact ⟨by first | rfl | (simp [errW_none, errW_some] <;> rfl) | (simp [*, errW_none, errW_some] <;> rfl), by repeat (first | (with_reducible first | exact HB.out | apply below_alloc | apply pw_below_drewN | apply below_drew1 | refine below_set ?_ GE426.out | refine below_set ?_ GE427.out) | exact HB.out)⟩
        ·
         rw [if_neg c40] at H
         have c40b0 : (t429.toList == ([45] : List UInt8)) = false := beq_eq_false_iff_ne.mpr c40
         have c40b1 : (t429.toList != ([45] : List UInt8)) = true := bne_iff_ne.mpr c40
         obtain rfl := Option.some.inj H
         have hnb44 := NB426_427.out
         have hnc44 := NB427_426.out
         have hcz45_0 : wc.cell? ⟨gb426, 0, none⟩ = some (.bool a0_0) := (blk_cell BK426.out 0).trans rfl
         have hcz45_1 : wc.cell? ⟨gb426, 1, none⟩ = some (.bool a0_1) := (blk_cell BK426.out 1).trans rfl
         have hcz45_2 : wc.cell? ⟨gb426, 2, none⟩ = some (.bool false) := (blk_cell BK426.out 2).trans rfl
         have hfz45_0 := blk_frozen BK426.out 0
         have hfz45_1 := blk_frozen BK426.out 1
         have hfz45_2 := blk_frozen BK426.out 2
         go_wp2
         go_ret
         exact ⟨by first | rfl | (simp [errW_none, errW_some] <;> rfl) | (simp [*, errW_none, errW_some] <;> rfl), by repeat (first | (with_reducible first | exact HB.out | apply below_alloc | apply pw_below_drewN | apply below_drew1 | refine below_set ?_ GE426.out | refine below_set ?_ GE427.out) | exact HB.out)⟩
       ·
        rw [if_neg c39] at H
        have c39b0 : (x7_18.toList == ([] : List UInt8)) = false := beq_eq_false_iff_ne.mpr c39
        have c39b1 : (x7_18.toList != ([] : List UInt8)) = true := bne_iff_ne.mpr c39
        by_cases c46 : t429.toList = x7_18.toList
        ·
         rw [if_pos c46] at H
         have c46b0 : (t429.toList == x7_18.toList) = true := beq_iff_eq.mpr c46
         have c46b1 : (t429.toList != x7_18.toList) = false := bne_eq_false_iff_eq.mpr c46
         clear c46
         obtain rfl := Option.some.inj H
         have hnb47 := NB426_427.out
         have hnc47 := NB427_426.out
         have hcz48_0 : wc.cell? ⟨gb426, 0, none⟩ = some (.bool a0_0) := (blk_cell BK426.out 0).trans rfl
         have hcz48_1 : wc.cell? ⟨gb426, 1, none⟩ = some (.bool a0_1) := (blk_cell BK426.out 1).trans rfl
         have hcz48_2 : wc.cell? ⟨gb426, 2, none⟩ = some (.bool false) := (blk_cell BK426.out 2).trans rfl
         have hfz48_0 := blk_frozen BK426.out 0
         have hfz48_1 := blk_frozen BK426.out 1
         have hfz48_2 := blk_frozen BK426.out 2
         have hcz49_0 : wc.cell? ⟨gb427, 0, none⟩ = some (.bool a1_0) := (blk_cell BK427.out 0).trans rfl
         have hcz49_1 : wc.cell? ⟨gb427, 1, none⟩ = some (.bool a1_1) := (blk_cell BK427.out 1).trans rfl
         have hcz49_2 : wc.cell? ⟨gb427, 2, none⟩ = some (.bool a1_2) := (blk_cell BK427.out 2).trans rfl
         have hfz49_0 := blk_frozen BK427.out 0
         have hfz49_1 := blk_frozen BK427.out 1
         have hfz49_2 := blk_frozen BK427.out 2
         go_wp2
         go_ret
         exact ⟨by first | rfl | (simp [errW_none, errW_some] <;> rfl) | (simp [*, errW_none, errW_some] <;> rfl), by repeat (first | (with_reducible first | exact HB.out | apply below_alloc | apply pw_below_drewN | apply below_drew1 | refine below_set ?_ GE426.out | refine below_set ?_ GE427.out) | exact HB.out)⟩
        ·
         rw [if_neg c46] at H
         have c46b0 : (t429.toList == x7_18.toList) = false := beq_eq_false_iff_ne.mpr c46
         have c46b1 : (t429.toList != x7_18.toList) = true := bne_iff_ne.mpr c46
         obtain rfl := Option.some.inj H
         have hnb50 := NB426_427.out
         have hnc50 := NB427_426.out
         have hcz51_0 : wc.cell? ⟨gb426, 0, none⟩ = some (.bool a0_0) := (blk_cell BK426.out 0).trans rfl
         have hcz51_1 : wc.cell? ⟨gb426, 1, none⟩ = some (.bool a0_1) := (blk_cell BK426.out 1).trans rfl
         have hcz51_2 : wc.cell? ⟨gb426, 2, none⟩ = some (.bool false) := (blk_cell BK426.out 2).trans rfl
         have hfz51_0 := blk_frozen BK426.out 0
         have hfz51_1 := blk_frozen BK426.out 1
         have hfz51_2 := blk_frozen BK426.out 2
         go_wp2
         go_ret
         exact ⟨by first | rfl | (simp [errW_none, errW_some] <;> rfl) | (simp [*, errW_none, errW_some] <;> rfl), by repeat (first | (with_reducible first | exact HB.out | apply below_alloc | apply pw_below_drewN | apply below_drew1 | refine below_set ?_ GE426.out | refine below_set ?_ GE427.out) | exact HB.out)⟩
 ·
  replace c4 := Bool.eq_false_iff.mpr c4
  subst c4
  have H1 : (some false) = some r := by rw [if_neg (show ¬ (false = true) by decide)] at H; exact H
  clear H
  have H := H1
  clear H1
  obtain rfl := Option.some.inj H
  go_enter Try.func7, Try.ntmps7
  go_wp2_with (first | ((with_reducible refine gate_dst (N := 2) rfl ?_); refine box_event ?hg (N := 2) ?hd (cs := #[.bool a0_0, .bool a0_1, .bool a0_2]) (t := 35) ?hr ?_; (case hd => rfl); (case hg => rfl); (case hr => first | (go_simp; done) | (go_simp; rfl)); intro gb426 hg w52 hbox hb; have n0_ := Aside0.mk (below_step (by repeat (first | (with_reducible first | exact HB.out | apply below_alloc | apply pw_below_drewN | apply below_drew1) | exact HB.out)) hb); have n1_ := Aside0.mk (hbox); have n2_ := Aside0.mk ((by rw [hg]; exact (below_size (by repeat (first | (with_reducible first | exact HB.out | apply below_alloc | apply pw_below_drewN | apply below_drew1) | exact HB.out))) : w.heap.size ≤ gb426)); have n3_ := Aside0.mk ((by rw [hg]; exact (below_size (by repeat (first | (with_reducible first | exact HB.out | apply below_alloc | apply pw_below_drewN | apply below_drew1) | exact HB.out))) : w.heap.size ≤ gb426)); clear HB; have HB := n0_; have BK426 := n1_; have GW426 := n2_; have GE426 := n3_; clear n0_ n1_ n2_ n3_; clear hb hbox hg) | ((with_reducible refine gate_dst (N := 3) rfl ?_); refine box_event ?hg (N := 3) ?hd (cs := #[.bool a1_0, .bool a1_1, .bool a1_2]) (t := 35) ?hr ?_; (case hd => rfl); (case hg => rfl); (case hr => first | (go_simp; done) | (go_simp; rfl)); intro gb427 hg w53 hbox hb; have n0_ := Aside0.mk (blk_below (g := gb426) (o := .cells #[.bool a0_0, .bool a0_1, .bool a0_2] 35 (0, 0)) (by (with_reducible repeat (first | refine blk_drewN ?_ _ | refine blk_drew ?_ | refine blk_alloc ?_ _)); exact BK426.out) hb); have n1_ := Aside0.mk (below_step (by repeat (first | (with_reducible first | exact HB.out | apply below_alloc | apply pw_below_drewN | apply below_drew1 | refine below_set ?_ GE426.out) | exact HB.out)) hb); have n2_ := Aside0.mk (hbox); have n3_ := Aside0.mk ((by rw [hg]; exact (below_size (by repeat (first | (with_reducible first | exact HB.out | apply below_alloc | apply pw_below_drewN | apply below_drew1 | refine below_set ?_ GE426.out) | exact HB.out))) : w.heap.size ≤ gb427)); have n4_ := Aside0.mk ((by rw [hg]; exact (below_size (by repeat (first | (with_reducible first | exact HB.out | apply below_alloc | apply pw_below_drewN | apply below_drew1 | refine below_set ?_ GE426.out) | exact HB.out))) : w.heap.size ≤ gb427)); have n5_ := Aside0.mk ((by rw [hg]; exact Nat.ne_of_lt (blk_lt (g := gb426) (o := .cells #[.bool a0_0, .bool a0_1, .bool a0_2] 35 (0, 0)) (by (with_reducible repeat (first | refine blk_drewN ?_ _ | refine blk_drew ?_ | refine blk_alloc ?_ _)); exact BK426.out)) : gb426 ≠ gb427)); have n6_ := Aside0.mk ((by rw [hg]; exact Nat.ne_of_gt (blk_lt (g := gb426) (o := .cells #[.bool a0_0, .bool a0_1, .bool a0_2] 35 (0, 0)) (by (with_reducible repeat (first | refine blk_drewN ?_ _ | refine blk_drew ?_ | refine blk_alloc ?_ _)); exact BK426.out)) : gb427 ≠ gb426)); clear BK426; clear HB; have BK426 := n0_; have HB := n1_; have BK427 := n2_; have GW427 := n3_; have GE427 := n4_; have NB426_427 := n5_; have NB427_426 := n6_; clear n0_ n1_ n2_ n3_ n4_ n5_ n6_; clear hb hbox hg) | ((with_reducible refine gate_callee (f := 8) rfl ?_); refine goesL_ (some 8) rfl rfl Try.func8 (by kernel_rfl) rfl #[] rfl (by (try simp only [List.map_toArray, List.map_cons, List.map_nil]); first | done | rfl | (simp only [List.length_drop, List.length_take]; rfl)) ?_; (with_reducible refine (vetchlaw11_awake.calls k  false _ A3.out).mono ?_); rintro e w54 ⟨rfl, hb⟩; refine ⟨_, rfl, ?_⟩; have n0_ := Aside0.mk (blk_below (g := gb426) (o := .cells #[.bool a0_0, .bool a0_1, .bool a0_2] 35 (0, 0)) (by (with_reducible repeat (first | refine blk_drewN ?_ _ | refine blk_drew ?_ | refine blk_alloc ?_ _)); exact BK426.out) hb); have n1_ := Aside0.mk (blk_below (g := gb427) (o := .cells #[.bool a1_0, .bool a1_1, .bool a1_2] 35 (0, 0)) (by (with_reducible repeat (first | refine blk_drewN ?_ _ | refine blk_drew ?_ | refine blk_alloc ?_ _)); exact BK427.out) hb); have n2_ := Aside0.mk (below_step (by repeat (first | (with_reducible first | exact HB.out | apply below_alloc | apply pw_below_drewN | apply below_drew1 | refine below_set ?_ GE426.out | refine below_set ?_ GE427.out) | exact HB.out)) hb); clear BK426; clear BK427; clear HB; have BK426 := n0_; have BK427 := n1_; have HB := n2_; clear n0_ n1_ n2_; (try clear hb); (try clear hb2); (try clear hk); (try clear hi)))
  go_ret
  exact ⟨by first | rfl | (simp [errW_none, errW_some] <;> rfl) | (simp [*, errW_none, errW_some] <;> rfl), by repeat (first | (with_reducible first | exact HB.out | apply below_alloc | apply pw_below_drewN | apply below_drew1 | refine below_set ?_ GE426.out | refine below_set ?_ GE427.out) | exact HB.out)⟩
end Go.Proofs.Ytnaanamibfpbpaa.V
namespace Go.Proofs.Ytnaanamibfpbpaa.V
open Go.RowKit Go.Proofs.YtnaanamibfpbpaaW.PrintWords
set_option linter.unusedVariables false
set_option linter.unusedSimpArgs false
set_option linter.unusedSectionVars false
structure Small (R : List RuleT) (G : List NodeT) : Prop where
  wf : WF R G
  rules : R.length ≤ 30
  nodes : G.length ≤ 300
  kids : ∀ i : Int, 0 ≤ i → i < (G.length : Int) → (nodeAt G i).f1.length ≤ 60
end Go.Proofs.Ytnaanamibfpbpaa.V
namespace Go.Proofs.Ytnaanamibfpbpaa.V
open Go.RowKit Go.Proofs.YtnaanamibfpbpaaW.PrintWords Go.Proofs.YtnaanamibfpbpaaW.PrintLast Go.Proofs.YtnaanamibfpbpaaW.PrintMore
attribute [local go_sem] max2_int min2_int max_two min_two max_three min_three max_four min_four tdiv_most
set_option linter.unusedVariables false
set_option linter.unusedSimpArgs false
end Go.Proofs.Ytnaanamibfpbpaa.V
namespace Go.Proofs.Ytnaanamibfpbpaa.V
open Go.RowKit Go.Proofs.YtnaanamibfpbpaaW.PrintWords Go.Proofs.YtnaanamibfpbpaaW.PrintLast Go.Proofs.YtnaanamibfpbpaaW.PrintMore
attribute [local go_sem] max2_int min2_int max_two min_two max_three min_three max_four min_four tdiv_most
set_option linter.unusedVariables false
set_option linter.unusedSimpArgs false
end Go.Proofs.Ytnaanamibfpbpaa.V
namespace Go.Proofs.Ytnaanamibfpbpaa.V
open Go.RowKit Go.Proofs.YtnaanamibfpbpaaW.PrintWords
set_option linter.unusedVariables false
set_option linter.unusedSimpArgs false
set_option linter.unusedSectionVars false
section
variable {R : List RuleT} {G : List NodeT} (hs : Small R G)
include hs
end
set_option maxRecDepth 100000 in
theorem awake_ev : Ev (fun k => vetchlaw11_awake.f k) true := Ev.of_mono (k := 20040) (fun k => vetchlaw11_awake.mono k) (by kernel_rfl)
end Go.Proofs.Ytnaanamibfpbpaa.V
namespace Go.Proofs.Ytnaanamibfpbpaa.V
open Go.RowKit Go.Proofs.YtnaanamibfpbpaaW.PrintWords
set_option linter.unusedVariables false
set_option maxRecDepth 100000 in
theorem Pure.PureFlowTexts : ∀ (a0_0 : Bool) (a0_1 : Bool) (a0_2 : Bool) (a1_0 : Bool) (a1_1 : Bool) (a1_2 : Bool), ∃ k, vetchlaw11_FlowTexts.f k a0_0 a0_1 a0_2 a1_0 a1_1 a1_2 = some true := by
  intro a b c x y z
  refine (Ev.bind awake_ev (Ev.congr (fun k => if_pos rfl) (v := true) ⟨20, fun j hj => ?_⟩)).out
  obtain ⟨m, rfl⟩ : ∃ m, j = m + 20 := ⟨j - 20, by omega⟩
  cases a <;> cases b <;> cases c <;> cases x <;> cases y <;> cases z <;> kernel_rfl
end Go.Proofs.Ytnaanamibfpbpaa.V
namespace Go.Proofs.Ytnaanamibfpbpaa.flowTexts
open Go.ChangeShapes Go.WideShapes Go.ChangeAt Go.RowKit Go.Proofs.Ytnaanamibfpbpaa.Opens Go.Proofs.Ytnaanamibfpbpaa.V Go.Proofs.YtnaanamibfpbpaaW.PrintWords
open Go.ChangeMaps (open_string shut_string)
set_option linter.unusedVariables false
theorem own : ownKnob Try.prog.godebug = none := by kernel_rfl
theorem laidOut : laidOutB Try.prog = true := by kernel_rfl
set_option maxRecDepth 100000 in
theorem lifted (os : Os) (started : os.Started) (H : Type) (enc : TypeId × Value → H) :
    ReturnsInHanded {} Try.checked os 7 .any (Rows.flowTextsSpec.pre6 enc Try.prog Try.f7 Rows.flowTextsRow.domain false) (Rows.flowTextsSpec.post enc Try.prog Try.f7 false true false false) := by
  refine returnsInHanded_of_change_sized (C := Try.checked) own started (by kernel_rfl) Try.func7
    (ChangeSpec.witness6 (enc := enc) (C := Try.checked) false ⟨#[], #[.agg #[.bool false, .bool false, .bool false], .agg #[.bool false, .bool false, .bool false]], []⟩ 8 (by kernel_rfl) (by kernel_rfl) (by kernel_rfl) (by kernel_rfl)) ?_
  intro W base args ds gs before hval0 hW hcnd hsz0 _
  have hval : ∀ (j : Nat) t v, Try.f7.params[j]? = some t → args[j]? = some v → Value.okWide Try.prog W .any base t v := hval0
  have hW' := hW
  obtain ⟨p, q, hA0, hV, rfl, hfz, hnd⟩ := hW
  have hA : DataW.TrodAll enc Try.prog W 0 (fun _ => true) true Try.f7.params.toList args.toList ds p := hA0
  rw [Try.params7] at hA hval
  obtain ⟨v0, vs0, d0, ds0, p0, q0, hargs, rfl, rfl, h0, r0⟩ := trodAll_cons hA
  obtain ⟨v1, vs1, d1, ds1, p1, q1, rfl, rfl, rfl, h1, r1⟩ := trodAll_cons r0
  obtain ⟨rfl, rfl, rfl⟩ := trodAll_nil r1
  obtain rfl : args = #[v0, v1] := by cases args; simp_all
  obtain ⟨rfl, rfl⟩ := trodVars_none hV
  have lt0 := trod_lts h0
  obtain ⟨cs0, rfl, _⟩ := okWide_struct Try.underlying35 (hval 0 35 v0 rfl rfl)
  obtain ⟨b0, hK0, ok0⟩ := Opn.arg (opn35 W) h0
  obtain ⟨L0, hL0⟩ : ∃ L, L = cs0.toList := ⟨_, rfl⟩
  replace hK0 : (k35).K W b0 L0 := by rw [hL0]; exact hK0
  obtain ⟨a0_0, a0_1, a0_2⟩ := b0
  obtain ⟨_, _, rfl, rfl, ⟨_, _, rfl, rfl, rfl⟩⟩ := hK0
  obtain ⟨w0_0, w0_1, w0_2⟩ := ok0
  obtain rfl : cs0 = #[.bool a0_0, .bool a0_1, .bool a0_2] := by cases cs0; simp_all
  have lt1 := trod_lts h1
  obtain ⟨cs1, rfl, _⟩ := okWide_struct Try.underlying35 (hval 1 35 v1 rfl rfl)
  obtain ⟨b1, hK1, ok1⟩ := Opn.arg (opn35 W) h1
  obtain ⟨L1, hL1⟩ : ∃ L, L = cs1.toList := ⟨_, rfl⟩
  replace hK1 : (k35).K W b1 L1 := by rw [hL1]; exact hK1
  obtain ⟨a1_0, a1_1, a1_2⟩ := b1
  obtain ⟨_, _, rfl, rfl, ⟨_, _, rfl, rfl, rfl⟩⟩ := hK1
  obtain ⟨w1_0, w1_1, w1_2⟩ := ok1
  obtain rfl : cs1 = #[.bool a1_0, .bool a1_1, .bool a1_2] := by cases cs1; simp_all
  clear hA0 hval0 hsz0
  obtain ⟨k, hk⟩ := Pure.PureFlowTexts a0_0 a0_1 a0_2 a1_0 a1_1 a1_2
  refine (vetchlaw11_FlowTexts.calls k a0_0 a0_1 a0_2 a1_0 a1_1 a1_2 true W hk).mono fun e W' ⟨he, bel⟩ => ?_
  subst he
  exact ⟨_, rfl, _, _, _, [], _, [], hW', trodAll_mk1 (shut_bool Try.underlying4 _), (trodAll_cons_mk (Below.trod laidOut (by kernel_rfl) (of_decide_eq_true (by kernel_rfl)) h0 bel lt0) (trodAll_cons_mk (Below.trod laidOut (by kernel_rfl) (of_decide_eq_true (by kernel_rfl)) h1 bel lt1) trodAll_mk0)), rfl, bel.frame _, fun h => by cases h⟩
theorem over : Rows.flowTextsRow.holds Try.pinned (OpenSpec.ofChange Rows.flowTextsSpec) :=
  OpenClaim.holds_of_wide 7 Try.f7 rfl rfl rfl rfl rfl rfl rfl ⟨rfl, rfl, rfl, rfl, rfl⟩ rfl rfl rfl rfl rfl (by kernel_rfl) Try.func7 (by kernel_rfl)
    (of_decide_eq_true (by kernel_rfl)) (by unfold Func.isWrapper; first | (rw [if_pos (by decide +kernel)]; kernel_rfl) | (rw [if_neg (by decide +kernel)]; exact ⟨rfl, rfl⟩))
    (fun os started H enc _ => lifted os started H enc)
end Go.Proofs.Ytnaanamibfpbpaa.flowTexts
namespace Go.Proofs.Ytnaanamibfpbpaa
theorem flowTexts_holds : Rows.FlowTextsSaid := flowTexts.over
#print axioms flowTexts_holds
end Go.Proofs.Ytnaanamibfpbpaa
