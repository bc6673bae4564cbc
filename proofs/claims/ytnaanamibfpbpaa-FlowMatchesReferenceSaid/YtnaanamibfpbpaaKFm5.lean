/- The law FlowMatchesReference returns true whatever comes in, and leaves its arguments as they were. No condition. -/
import Derived.Test.YtnaanamibfpbpaaKFm4
import Derived.Test.YtnaanamibfpbpaaRows
import Derived.WalkKit
import Derived.ProofKit
import Derived.OpenShut
import Derived.ShutString
import Derived.ChangeOld
import Derived.Below
import Derived.SizedLaws
import Derived.Carry
namespace Go.Proofs.Ytnaanamibfpbpaa.V
open Go.RowKit Go.Proofs.YtnaanamibfpbpaaW.PrintWords Go.Proofs.YtnaanamibfpbpaaW.PrintLast Go.Proofs.YtnaanamibfpbpaaW.PrintMore
abbrev QB56_0 : Array Bool := #[Y, Y, Y, Y, Y, Y, Y, Y, Y, Y, Y, Y, Y, Y, Y, Y, Y, Y, Y, Y, Y, Y, Y, Y, Y, Y, Y, Y, Y, Y, Y, Y, Y, Y, Y]
abbrev QB56_1 : Array Bool := #[J, Y, Y, Y, Y, Y, Y, Y, Y, Y, Y, Y, Y, Y, Y, Y, Y, Y, Y, Y, Y, Y, Y, Y, Y, Y, Y, Y, Y, Y, Y, Y, Y, Y, Y]
abbrev QB56_2 : Array Bool := #[J, J, Y, Y, Y, Y, Y, Y, Y, Y, Y, Y, Y, Y, Y, Y, Y, Y, Y, Y, Y, Y, Y, Y, Y, Y, Y, Y, Y, Y, Y, Y, Y, Y, Y]
abbrev QB56_3 : Array Bool := #[J, J, J, Y, Y, Y, Y, Y, Y, Y, Y, Y, Y, Y, Y, Y, Y, Y, Y, Y, Y, Y, Y, Y, Y, Y, Y, Y, Y, Y, Y, Y, Y, Y, Y]
abbrev QB56_4 : Array Bool := #[J, J, J, J, Y, Y, Y, Y, Y, Y, Y, Y, Y, Y, Y, Y, Y, Y, Y, Y, Y, Y, Y, Y, Y, Y, Y, Y, Y, Y, Y, Y, Y, Y, Y]
abbrev QB56_5 : Array Bool := #[J, J, J, J, J, Y, Y, Y, Y, Y, Y, Y, Y, Y, Y, Y, Y, Y, Y, Y, Y, Y, Y, Y, Y, Y, Y, Y, Y, Y, Y, Y, Y, Y, Y]
abbrev QB56_6 : Array Bool := #[J, J, J, J, J, J, Y, Y, Y, Y, Y, Y, Y, Y, Y, Y, Y, Y, Y, Y, Y, Y, Y, Y, Y, Y, Y, Y, Y, Y, Y, Y, Y, Y, Y]
abbrev QB56_7 : Array Bool := #[J, J, J, J, J, J, J, Y, Y, Y, Y, Y, Y, Y, Y, Y, Y, Y, Y, Y, Y, Y, Y, Y, Y, Y, Y, Y, Y, Y, Y, Y, Y, Y, Y]
abbrev QB56_8 : Array Bool := #[J, J, J, J, J, J, J, J, Y, Y, Y, Y, Y, Y, Y, Y, Y, Y, Y, Y, Y, Y, Y, Y, Y, Y, Y, Y, Y, Y, Y, Y, Y, Y, Y]
abbrev QB56_9 : Array Bool := #[J, J, J, J, J, J, J, J, J, Y, Y, Y, Y, Y, Y, Y, Y, Y, Y, Y, Y, Y, Y, Y, Y, Y, Y, Y, Y, Y, Y, Y, Y, Y, Y]
abbrev QB56_10 : Array Bool := #[J, J, J, J, J, J, J, J, J, J, Y, Y, Y, Y, Y, Y, Y, Y, Y, Y, Y, Y, Y, Y, Y, Y, Y, Y, Y, Y, Y, Y, Y, Y, Y]
abbrev QB56_11 : Array Bool := #[J, J, J, J, J, J, J, J, J, J, J, Y, Y, Y, Y, Y, Y, Y, Y, Y, Y, Y, Y, Y, Y, Y, Y, Y, Y, Y, Y, Y, Y, Y, Y]
abbrev QB56_12 : Array Bool := #[J, J, J, J, J, J, J, J, J, J, J, J, Y, Y, Y, Y, Y, Y, Y, Y, Y, Y, Y, Y, Y, Y, Y, Y, Y, Y, Y, Y, Y, Y, Y]
abbrev QB56_13 : Array Bool := #[J, J, J, J, J, J, J, J, J, J, J, J, J, Y, Y, Y, Y, Y, Y, Y, Y, Y, Y, Y, Y, Y, Y, Y, Y, Y, Y, Y, Y, Y, Y]
abbrev QB56_14 : Array Bool := #[J, J, J, J, J, J, J, J, J, J, J, J, J, J, J, J, J, J, Y, Y, Y, Y, Y, Y, Y, Y, Y, Y, Y, Y, Y, Y, Y, Y, Y]
abbrev QB56_15 : Array Bool := #[J, J, J, J, J, J, J, J, J, J, J, J, J, J, J, J, J, J, J, Y, Y, Y, Y, Y, Y, Y, Y, Y, Y, Y, Y, Y, Y, Y, Y]
abbrev QB56_16 : Array Bool := #[J, J, J, J, J, J, J, J, J, J, J, J, J, J, J, J, J, J, J, J, Y, Y, Y, Y, Y, Y, Y, Y, Y, Y, Y, Y, Y, Y, Y]
abbrev QB56_17 : Array Bool := #[J, J, J, J, J, J, J, J, J, J, J, J, J, J, J, J, J, J, J, J, J, Y, Y, Y, Y, Y, Y, Y, Y, Y, Y, Y, Y, Y, Y]
abbrev QB56_18 : Array Bool := #[J, J, J, J, J, J, J, J, J, J, J, J, J, J, J, J, J, J, J, J, J, J, Y, Y, Y, Y, Y, Y, Y, Y, Y, Y, Y, Y, Y]
abbrev QB56_19 : Array Bool := #[J, J, J, J, J, J, J, J, J, J, J, J, J, J, J, J, J, J, J, J, J, J, J, Y, Y, Y, Y, Y, Y, Y, Y, Y, Y, Y, Y]
abbrev QB56_20 : Array Bool := #[J, J, J, J, J, J, J, J, J, J, J, J, J, J, J, J, J, J, J, J, J, J, J, J, Y, Y, Y, Y, Y, Y, Y, Y, Y, Y, Y]
abbrev QB56_21 : Array Bool := #[J, J, J, J, J, J, J, J, J, J, J, J, J, J, J, J, J, J, J, J, J, J, J, J, J, Y, Y, Y, Y, Y, Y, Y, Y, Y, Y]
abbrev QB56_22 : Array Bool := #[J, J, J, J, J, J, J, J, J, J, J, J, J, J, J, J, J, J, J, J, J, J, J, J, J, J, Y, Y, Y, Y, Y, Y, Y, Y, Y]
abbrev QB56_23 : Array Bool := #[J, J, J, J, J, J, J, J, J, J, J, J, J, J, J, J, J, J, J, J, J, J, J, J, J, J, J, Y, Y, Y, Y, Y, Y, Y, Y]
abbrev QB56_24 : Array Bool := #[J, J, J, J, J, J, J, J, J, J, J, J, J, J, J, J, J, J, J, J, J, J, J, J, J, J, J, J, Y, Y, Y, Y, Y, Y, Y]
abbrev QB56_25 : Array Bool := #[J, J, J, J, J, J, J, J, J, J, J, J, J, J, J, J, J, J, J, J, J, J, J, J, J, J, J, J, J, Y, Y, Y, Y, Y, Y]
abbrev QB56_26 : Array Bool := #[J, J, J, J, J, J, J, J, J, J, J, J, J, J, J, J, J, J, J, J, J, J, J, J, J, J, J, J, J, J, Y, Y, Y, Y, Y]
abbrev QB56_27 : Array Bool := #[J, J, J, J, J, J, J, J, J, J, J, J, J, J, J, J, J, J, J, J, J, J, J, J, J, J, J, J, J, J, J, Y, Y, Y, Y]
abbrev QB56_28 : Array Bool := #[J, J, J, J, J, J, J, J, J, J, J, J, J, J, J, J, J, J, J, J, J, J, J, J, J, J, J, J, J, J, J, J, Y, Y, Y]
abbrev QB56_29 : Array Bool := #[J, J, J, J, J, J, J, J, J, J, J, J, J, J, J, J, J, J, J, J, J, J, J, J, J, J, J, J, J, J, J, J, J, Y, Y]
abbrev QB56_30 : Array Bool := #[J, J, J, J, J, J, J, J, J, J, J, J, J, J, J, J, J, J, J, J, J, J, J, J, J, J, J, J, J, J, J, J, J, J, Y]
abbrev QB56_31 : Array Bool := #[J, J, J, J, J, J, J, J, J, J, J, J, J, J, J, J, J, J, J, J, J, J, J, J, J, J, J, J, J, J, J, J, J, J, J]
abbrev QB56_32 : Array Bool := #[J, J, J, J, J, J, J, J, J, J, J, J, J, Y, Y, J, Y, Y, Y, Y, Y, Y, Y, Y, Y, Y, Y, Y, Y, Y, Y, Y, Y, Y, Y]
abbrev QB56_33 : Array Bool := #[J, J, J, J, J, J, J, J, J, J, J, J, J, Y, Y, J, J, Y, Y, Y, Y, Y, Y, Y, Y, Y, Y, Y, Y, Y, Y, Y, Y, Y, Y]
abbrev QB56_34 : Array Bool := #[J, J, J, J, J, J, J, J, J, J, J, J, J, J, Y, J, J, Y, Y, Y, Y, Y, Y, Y, Y, Y, Y, Y, Y, Y, Y, Y, Y, Y, Y]
abbrev QB56_35 : Array Bool := #[J, J, J, J, J, J, J, J, J, J, J, J, J, J, Y, J, J, J, Y, Y, Y, Y, Y, Y, Y, Y, Y, Y, Y, Y, Y, Y, Y, Y, Y]
abbrev QB56_36 : Array Bool := #[J, J, J, J, J, J, J, J, J, J, J, J, J, J, Y, Y, Y, Y, Y, Y, Y, Y, Y, Y, Y, Y, Y, Y, Y, Y, Y, Y, Y, Y, Y]
abbrev QB56_37 : Array Bool := #[J, J, J, J, J, J, J, J, J, J, J, J, J, J, J, Y, Y, Y, Y, Y, Y, Y, Y, Y, Y, Y, Y, Y, Y, Y, Y, Y, Y, Y, Y]
abbrev QB56_38 : Array Bool := #[J, J, J, J, J, J, J, J, J, J, J, J, J, J, J, J, Y, Y, Y, Y, Y, Y, Y, Y, Y, Y, Y, Y, Y, Y, Y, Y, Y, Y, Y]
abbrev QB56_39 : Array Bool := #[J, J, J, J, J, J, J, J, J, J, J, J, J, J, J, J, J, Y, Y, Y, Y, Y, Y, Y, Y, Y, Y, Y, Y, Y, Y, Y, Y, Y, Y]
attribute [local go_sem] max2_int min2_int max_two min_two max_three min_three max_four min_four tdiv_most
set_option linter.unusedVariables false
set_option linter.unusedSimpArgs false
attribute [local go_sem high] eqA36
def Qi1.j0 : Nat → List (S36) → List (S36) → Bool → List (S39) → List (S53) → Option (Bool)
 | 0, _, _, _, _, _ => none
 | k + 1, x2, x3, x28, x189000, x189001 => if x28 = true then (some false) else (if 2 < (x2.length : Int) then ((flow_Text.f k ((Qg x2 2).f0) ((Qg x2 2).f1) ((Qg x2 2).f2)).bind fun t199 => (if t199.toList = ([101, 102] : List UInt8) then (if 4 < (x2.length : Int) then ((flow_Text.f k ((Qg x2 4).f0) ((Qg x2 4).f1) ((Qg x2 4).f2)).bind fun t201 => (if t201.toList = ([110, 101] : List UInt8) then ((flow_Rule.f k x189000 x189001 0).bind fun bt202 => (if (bt202.1 == ((Qg x2 4).f0) && (bt202.2.1 == ((Qg x2 4).f1) && (bt202.2.2 == ((Qg x2 4).f2)))) = true then (if 0 < (x3.length : Int) then ((flow_Text.f k ((Qg x3 0).f0) ((Qg x3 0).f1) ((Qg x3 0).f2)).bind fun t207 => (if t207.toList = ([101, 102] : List UInt8) then (if 1 < (x3.length : Int) then ((flow_Text.f k ((Qg x3 1).f0) ((Qg x3 1).f1) ((Qg x3 1).f2)).bind fun t209 => (some (t209.toList == ([45] : List UInt8)))) else (none)) else (some false))) else (none)) else (some false))) else (some false))) else (none)) else (some false))) else (none))
def Qi1.f (k : Nat)  : Option (Bool) := (some (([(⟨(⟨#[65]⟩ : ByteArray), 4⟩ : S39)] : List (S39)) : List (S39))).bind fun y176 => ((some (([(⟨1, ([] : List Int), 0, (⟨0, 8589934592, 0, 0⟩ : S50)⟩ : S53), (⟨2, ([] : List Int), 0, (⟨0, 0, 0, 0⟩ : S50)⟩ : S53), (⟨3, (([0, 1] : List Int)), 0, (⟨0, 0, 0, 0⟩ : S50)⟩ : S53), (⟨0, ([] : List Int), 0, (⟨0, 0, 0, 0⟩ : S50)⟩ : S53), (⟨4, (([2, 3] : List Int)), 0, (⟨0, 0, 0, 0⟩ : S50)⟩ : S53)] : List (S53)) : List (S53))).bind fun y185 => ((flow_Of.f k y176 y185).bind fun t189 => (if 5 ≤ 93824992236885 then ((flow_Step.f k y176 y185 (List.replicate 5 z36)).bind fun t195 => (if (t189.length : Int) = 5 then (Qi1.j0 k t189 t195 ((t195.length : Int) != 5) y176 y185) else (Qi1.j0 k t189 t195 true y176 y185))) else (none))))
theorem Qi1.mono_l : ∀ k, (∀ y0 y1 y2 y3 y4, LeO (Qi1.j0 k y0 y1 y2 y3 y4) (Qi1.j0 (k + 1) y0 y1 y2 y3 y4))
 | 0 => fun _ _ _ _ _ r h => by simp [Qi1.j0] at h
 | k + 1 => by
  have ih0 := Qi1.mono_l k
  intro y0 y1 y2 y3 y4
  unfold Qi1.j0
  repeat' first
  | (with_reducible exact ih0 _ _ _ _ _)
  | (with_reducible exact flow_Of.mono _ _ _)
  | (with_reducible exact flow_Rule.mono _ _ _ _)
  | (with_reducible exact flow_Step.mono _ _ _ _)
  | (with_reducible exact flow_Text.mono _ _ _ _)
  | (with_reducible exact LeO.refl _)
  | (with_reducible exact LeO.none _)
  | (with_reducible refine LeO.ite ?_ ?_)
  | (with_reducible refine LeO.bind ?_ (fun _ => ?_))
  | exact LeO.none _
  | refine LeO.ite ?_ ?_
  | refine LeO.bind ?_ (fun _ => ?_)
theorem Qi1.mono : ∀ k, LeO (Qi1.f k ) (Qi1.f (k + 1) ) := by
 intro  k
 have ih0 := Qi1.mono_l k
 unfold Qi1.f
 repeat' first
  | (with_reducible exact ih0 _ _ _ _ _)
  | (with_reducible exact flow_Of.mono _ _ _)
  | (with_reducible exact flow_Rule.mono _ _ _ _)
  | (with_reducible exact flow_Step.mono _ _ _ _)
  | (with_reducible exact flow_Text.mono _ _ _ _)
  | (with_reducible exact LeO.refl _)
  | (with_reducible exact LeO.none _)
  | (with_reducible refine LeO.ite ?_ ?_)
  | (with_reducible refine LeO.bind ?_ (fun _ => ?_))
  | exact LeO.none _
  | refine LeO.ite ?_ ?_
  | refine LeO.bind ?_ (fun _ => ?_)
def Qi1.T6 : Bool × List (List Nat × List Nat) := (true, [([], []), ([0], [0]), ([1], [1]), ([2], [2]), ([3], [3]), ([4, 3], [4]), ([5], [5]), ([6, 5], [5, 6]), ([7, 5], [5, 7]), ([8, 5, 5], [5, 8]), ([9, 5], [5, 9]), ([5, 10], [5, 10]), ([11, 9], [11]), ([12], [12]), ([13, 12, 12], [12, 13]), ([12], [12]), ([15, 12], [12, 15]), ([16, 12], [12, 16]), ([14, 17, 12], [12, 14, 17]), ([12, 18], [12, 18]), ([19, 14], [19]), ([20], [20]), ([21, 20], [20, 21]), ([22, 20], [20, 22]), ([23, 20, 20], [20, 23]), ([24, 20], [20, 24]), ([20, 25], [20, 25]), ([26, 24], [26]), ([27], [27]), ([28, 27], [27, 28]), ([29, 27], [27, 29]), ([30, 27, 27], [27, 30]), ([31, 27], [27, 31]), ([27, 32], [27, 32]), ([33, 31, 0, 1, 2, 3, 4, 5, 6, 7, 8, 9, 10, 11, 12, 13, 14, 15, 16, 17, 18, 19, 20, 21, 22, 23, 24, 25, 26, 27, 28, 29, 30, 31, 32, 33], [33])])
def Qi1.B6 : List Nat := [0, 1, 3, 7, 15, 31, 63, 127, 255, 511, 1023, 2047, 4095, 8191, 16383, 8191, 40959, 106495, 262143, 524287, 1048575, 2097151, 4194303, 8388607, 16777215, 33554431, 67108863, 134217727, 268435455, 536870911, 1073741823, 2147483647, 4294967295, 8589934591, 17179869183]
theorem Qi1.tab6 : rtab .any (opsOf Try.f8 6) = Qi1.T6 := by kernel_rfl
theorem Qi1.bits6 : waitsOk Qi1.T6.2 Qi1.B6 = true := by kernel_rfl
set_option maxHeartbeats 8000000 in
set_option maxRecDepth 100000 in
theorem Qi1.calls (k : Nat)  (r : Bool) (w : World) (h : Qi1.f k  = some r) :
 Calls Try.prog 8 #[] w fun e w' => e = .returned (.bool r) ∧ Below w.heap.size w w' := by
 have hu39 := Try.underlying39
 have hu50 := Try.underlying50
 have hu53 := Try.underlying53
 have hu25 := Try.underlying25
 have hu36 := Try.underlying36
 have HB := Qa.mk (Below.refl w.heap.size w)
 have H : ((some (([(⟨(⟨#[65]⟩ : ByteArray), 4⟩ : S39)] : List (S39)) : List (S39))).bind fun y176 => ((some (([(⟨1, ([] : List Int), 0, (⟨0, 8589934592, 0, 0⟩ : S50)⟩ : S53), (⟨2, ([] : List Int), 0, (⟨0, 0, 0, 0⟩ : S50)⟩ : S53), (⟨3, (([0, 1] : List Int)), 0, (⟨0, 0, 0, 0⟩ : S50)⟩ : S53), (⟨0, ([] : List Int), 0, (⟨0, 0, 0, 0⟩ : S50)⟩ : S53), (⟨4, (([2, 3] : List Int)), 0, (⟨0, 0, 0, 0⟩ : S50)⟩ : S53)] : List (S53)) : List (S53))).bind fun y185 => ((flow_Of.f k y176 y185).bind fun t189 => (if 5 ≤ 93824992236885 then ((flow_Step.f k y176 y185 (List.replicate 5 z36)).bind fun t195 => (if (t189.length : Int) = 5 then (Qi1.j0 k t189 t195 ((t195.length : Int) != 5) y176 y185) else (Qi1.j0 k t189 t195 true y176 y185))) else (none))))) = some r := h
 clear h
 obtain ⟨y176, hy176⟩ : ∃ y_ : List (S39), y_ = (([(⟨(⟨#[65]⟩ : ByteArray), 4⟩ : S39)] : List (S39))) := ⟨_, rfl⟩
 replace H : ((some (([(⟨1, ([] : List Int), 0, (⟨0, 8589934592, 0, 0⟩ : S50)⟩ : S53), (⟨2, ([] : List Int), 0, (⟨0, 0, 0, 0⟩ : S50)⟩ : S53), (⟨3, (([0, 1] : List Int)), 0, (⟨0, 0, 0, 0⟩ : S50)⟩ : S53), (⟨0, ([] : List Int), 0, (⟨0, 0, 0, 0⟩ : S50)⟩ : S53), (⟨4, (([2, 3] : List Int)), 0, (⟨0, 0, 0, 0⟩ : S50)⟩ : S53)] : List (S53)) : List (S53))).bind fun y185 => ((flow_Of.f k y176 y185).bind fun t189 => (if 5 ≤ 93824992236885 then ((flow_Step.f k y176 y185 (List.replicate 5 z36)).bind fun t195 => (if (t189.length : Int) = 5 then (Qi1.j0 k t189 t195 ((t195.length : Int) != 5) y176 y185) else (Qi1.j0 k t189 t195 true y176 y185))) else (none)))) = some r := by first | (rw [hy176]; with_reducible exact H) | (have H2_ := (Option.bind_some _ _).symm.trans H; rw [hy176]; with_reducible exact H2_) | (have H2_ := (Option.bind_some _ _).symm.trans H; with_reducible exact H2_) | with_reducible exact H | (rw [hy176]; exact H) | exact H
 have Ny176 := Qa.mk hy176
 clear hy176
 obtain ⟨y179, hy179⟩ : ∃ y_ : List Int, y_ = (([0, 1] : List Int)) := ⟨_, rfl⟩
 replace H : ((some (([(⟨1, ([] : List Int), 0, (⟨0, 8589934592, 0, 0⟩ : S50)⟩ : S53), (⟨2, ([] : List Int), 0, (⟨0, 0, 0, 0⟩ : S50)⟩ : S53), (⟨3, y179, 0, (⟨0, 0, 0, 0⟩ : S50)⟩ : S53), (⟨0, ([] : List Int), 0, (⟨0, 0, 0, 0⟩ : S50)⟩ : S53), (⟨4, (([2, 3] : List Int)), 0, (⟨0, 0, 0, 0⟩ : S50)⟩ : S53)] : List (S53)) : List (S53))).bind fun y185 => ((flow_Of.f k y176 y185).bind fun t189 => (if 5 ≤ 93824992236885 then ((flow_Step.f k y176 y185 (List.replicate 5 z36)).bind fun t195 => (if (t189.length : Int) = 5 then (Qi1.j0 k t189 t195 ((t195.length : Int) != 5) y176 y185) else (Qi1.j0 k t189 t195 true y176 y185))) else (none)))) = some r := by first | (rw [hy179]; with_reducible exact H) | (have H2_ := (Option.bind_some _ _).symm.trans H; rw [hy179]; with_reducible exact H2_) | (have H2_ := (Option.bind_some _ _).symm.trans H; with_reducible exact H2_) | with_reducible exact H | (rw [hy179]; exact H) | exact H
 have Ny179 := Qa.mk hy179
 clear hy179
 obtain ⟨y182, hy182⟩ : ∃ y_ : List Int, y_ = (([2, 3] : List Int)) := ⟨_, rfl⟩
 replace H : ((some (([(⟨1, ([] : List Int), 0, (⟨0, 8589934592, 0, 0⟩ : S50)⟩ : S53), (⟨2, ([] : List Int), 0, (⟨0, 0, 0, 0⟩ : S50)⟩ : S53), (⟨3, y179, 0, (⟨0, 0, 0, 0⟩ : S50)⟩ : S53), (⟨0, ([] : List Int), 0, (⟨0, 0, 0, 0⟩ : S50)⟩ : S53), (⟨4, y182, 0, (⟨0, 0, 0, 0⟩ : S50)⟩ : S53)] : List (S53)) : List (S53))).bind fun y185 => ((flow_Of.f k y176 y185).bind fun t189 => (if 5 ≤ 93824992236885 then ((flow_Step.f k y176 y185 (List.replicate 5 z36)).bind fun t195 => (if (t189.length : Int) = 5 then (Qi1.j0 k t189 t195 ((t195.length : Int) != 5) y176 y185) else (Qi1.j0 k t189 t195 true y176 y185))) else (none)))) = some r := by first | (rw [hy182]; with_reducible exact H) | (have H2_ := (Option.bind_some _ _).symm.trans H; rw [hy182]; with_reducible exact H2_) | (have H2_ := (Option.bind_some _ _).symm.trans H; with_reducible exact H2_) | with_reducible exact H | (rw [hy182]; exact H) | exact H
 have Ny182 := Qa.mk hy182
 clear hy182
 obtain ⟨y185, hy185⟩ : ∃ y_ : List (S53), y_ = (([(⟨1, ([] : List Int), 0, (⟨0, 8589934592, 0, 0⟩ : S50)⟩ : S53), (⟨2, ([] : List Int), 0, (⟨0, 0, 0, 0⟩ : S50)⟩ : S53), (⟨3, y179, 0, (⟨0, 0, 0, 0⟩ : S50)⟩ : S53), (⟨0, ([] : List Int), 0, (⟨0, 0, 0, 0⟩ : S50)⟩ : S53), (⟨4, y182, 0, (⟨0, 0, 0, 0⟩ : S50)⟩ : S53)] : List (S53))) := ⟨_, rfl⟩
 replace H : ((flow_Of.f k y176 y185).bind fun t189 => (if 5 ≤ 93824992236885 then ((flow_Step.f k y176 y185 (List.replicate 5 z36)).bind fun t195 => (if (t189.length : Int) = 5 then (Qi1.j0 k t189 t195 ((t195.length : Int) != 5) y176 y185) else (Qi1.j0 k t189 t195 true y176 y185))) else (none))) = some r := by first | (rw [hy185]; with_reducible exact H) | (have H2_ := (Option.bind_some _ _).symm.trans H; rw [hy185]; with_reducible exact H2_) | (have H2_ := (Option.bind_some _ _).symm.trans H; with_reducible exact H2_) | with_reducible exact H | (rw [hy185]; exact H) | exact H
 have Ny185 := Qa.mk hy185
 clear hy185
 replace H := Option.bind_eq_some_iff.mp H
 obtain ⟨t189, A10, H⟩ := H
 replace H : (if 5 ≤ 93824992236885 then ((flow_Step.f k y176 y185 (List.replicate 5 z36)).bind fun t195 => (if (t189.length : Int) = 5 then (Qi1.j0 k t189 t195 ((t195.length : Int) != 5) y176 y185) else (Qi1.j0 k t189 t195 true y176 y185))) else (none)) = some r := H
 have A1 := Qa.mk A10
 clear A10
 by_cases c2 : 5 ≤ 93824992236885
 rotate_left
 ·
  rw [if_neg c2] at H
  exact absurd H (by simp)
 rw [if_pos c2] at H
 have c2b0 := eq_true c2
 have c2b1 : decide (5 ≤ 93824992236885) = true := decide_eq_true c2
 clear c2
 obtain ⟨y192, hy192⟩ : ∃ y_ : List (S36), y_ = (List.replicate 5 z36) := ⟨_, rfl⟩
 replace H : ((flow_Step.f k y176 y185 y192).bind fun t195 => (if (t189.length : Int) = 5 then (Qi1.j0 k t189 t195 ((t195.length : Int) != 5) y176 y185) else (Qi1.j0 k t189 t195 true y176 y185))) = some r := by first | (rw [hy192]; with_reducible exact H) | (have H2_ := (Option.bind_some _ _).symm.trans H; rw [hy192]; with_reducible exact H2_) | (have H2_ := (Option.bind_some _ _).symm.trans H; with_reducible exact H2_) | with_reducible exact H | (rw [hy192]; exact H) | exact H
 have Ny192 := Qa.mk hy192
 clear hy192
 replace H := Option.bind_eq_some_iff.mp H
 obtain ⟨t195, A30, H⟩ := H
 replace H : (if (t189.length : Int) = 5 then (Qi1.j0 k t189 t195 ((t195.length : Int) != 5) y176 y185) else (Qi1.j0 k t189 t195 true y176 y185)) = some r := H
 have A3 := Qa.mk A30
 clear A30
 have HC4 := Qa.mk H
 clear H
 go_enter Try.func8, Try.ntmps8
 try go_wp2_with (first | ((with_reducible refine Qd1 (N := 5) rfl ?_); (try (refine gate_guard (by rfl) ?_; dsimp only)); refine Kd.R_lit k39 _ 39 ?hg (N := 5) ?hd (xs := ([(⟨(⟨#[65]⟩ : ByteArray), 4⟩ : S39)] : List (S39))) (inner := [.string (⟨#[65]⟩ : ByteArray), .int .i64 4]) (ok := fun _ => True) (okp := fun _ => True) ?hr ?hp (fun _ hk => hk) trivial (Below.refl _ _) (Nat.le_refl _) (by simp) ?_; (case hd => rfl); (case hg => rfl); (case hr => first | (go_simp; done) | (go_simp; rfl)); (case hp => exact (Reps.c2 (show Kd.M k39 _ _ _ (⟨(⟨#[65]⟩ : ByteArray), 4⟩ : S39) [.string (⟨#[65]⟩ : ByteArray), .int .i64 4] from (k39_mkM _ _ _ (⟨(⟨#[65]⟩ : ByteArray), 4⟩ : S39) )) (Reps.none _ _))); intro v177 w5 ho6 hb hg_ hnew_; clear hg_ hnew_; (first | rw [← Ny176.out] at ho6 | (simp only [Int.reduceToNat] at ho6; rw [← Ny176.out] at ho6)); have n0_ := Qa.mk (Kd.R_lower ho6 (Qc1 (by with_reducible repeat (first | exact HB.out | apply Qj | apply Ql | apply Qk)))); have n1_ := Qa.mk (Qr (by with_reducible repeat (first | exact HB.out | apply Qj | apply Ql | apply Qk)) hb); clear HB; have HO178 := n0_; have HB := n1_; clear n0_ n1_; clear hb ho6) | ((with_reducible refine Qd1 (N := 9) rfl ?_); (try (refine gate_guard (by rfl) ?_; dsimp only)); refine Kd.R_lit (Kd.int .i64) _ 3 ?hg (N := 9) ?hd (xs := ([0, 1] : List Int)) (inner := [.int .i64 0, .int .i64 1]) (ok := fun _ => True) (okp := fun _ => True) ?hr ?hp (fun _ hk => hk) trivial (Below.refl _ _) (Nat.le_refl _) (by simp) ?_; (case hd => rfl); (case hg => rfl); (case hr => first | (go_simp; done) | (go_simp; rfl)); (case hp => exact (Reps.one (show Kd.M (Kd.int .i64) _ _ _ 0 [.int .i64 0] from rfl) (Reps.one (show Kd.M (Kd.int .i64) _ _ _ 1 [.int .i64 1] from rfl) (Reps.none _ _)))); intro v180 w7 ho8 hb hg_ hnew_; clear hg_ hnew_; (first | rw [← Ny179.out] at ho8 | (simp only [Int.reduceToNat] at ho8; rw [← Ny179.out] at ho8)); have n0_ := Qa.mk (Kd.Qh1 (by (with_reducible repeat (first | apply Kd.Qz | apply Kd.Qa1 | apply Kd.Qy)); exact HO178.out) hb); have n1_ := Qa.mk (Kd.R_lower ho8 (Qc1 (by with_reducible repeat (first | exact HB.out | apply Qj | apply Ql | apply Qk)))); have n2_ := Qa.mk (Qr (by with_reducible repeat (first | exact HB.out | apply Qj | apply Ql | apply Qk)) hb); clear HO178; clear HB; have HO178 := n0_; have HO181 := n1_; have HB := n2_; clear n0_ n1_ n2_; clear hb ho8; obtain ⟨Ao9, co9, eo9⟩ := Kd.R_slice HO181.out; subst eo9) | ((with_reducible refine Qd1 (N := 12) rfl ?_); (try (refine gate_guard (by rfl) ?_; dsimp only)); refine Kd.R_lit (Kd.int .i64) _ 3 ?hg (N := 12) ?hd (xs := ([2, 3] : List Int)) (inner := [.int .i64 2, .int .i64 3]) (ok := fun _ => True) (okp := fun _ => True) ?hr ?hp (fun _ hk => hk) trivial (Below.refl _ _) (Nat.le_refl _) (by simp) ?_; (case hd => rfl); (case hg => rfl); (case hr => first | (go_simp; done) | (go_simp; rfl)); (case hp => exact (Reps.one (show Kd.M (Kd.int .i64) _ _ _ 2 [.int .i64 2] from rfl) (Reps.one (show Kd.M (Kd.int .i64) _ _ _ 3 [.int .i64 3] from rfl) (Reps.none _ _)))); intro v183 w10 ho11 hb hg_ hnew_; clear hg_ hnew_; (first | rw [← Ny182.out] at ho11 | (simp only [Int.reduceToNat] at ho11; rw [← Ny182.out] at ho11)); have n0_ := Qa.mk (Kd.Qh1 (by (with_reducible repeat (first | apply Kd.Qz | apply Kd.Qa1 | apply Kd.Qy)); exact HO178.out) hb); have n1_ := Qa.mk (Kd.R_elder' (by (with_reducible repeat (first | apply Kd.Qz | apply Kd.Qa1 | apply Kd.Qy)); exact HO181.out) (Kd.R_base ho11) hb); have n2_ := Qa.mk (Kd.R_lower (Kd.R_new' ho11 (Kd.R_lt (by (with_reducible repeat (first | apply Kd.Qz | apply Kd.Qa1 | apply Kd.Qy)); exact HO181.out))) (Qc1 (by with_reducible repeat (first | exact HB.out | apply Qj | apply Ql | apply Qk)))); have n3_ := Qa.mk (Qr (by with_reducible repeat (first | exact HB.out | apply Qj | apply Ql | apply Qk)) hb); clear HO178; clear HO181; clear HB; have HO178 := n0_; have HO181 := n1_; have HO184 := n2_; have HB := n3_; clear n0_ n1_ n2_ n3_; clear hb ho11; obtain ⟨Ao12, co12, eo12⟩ := Kd.R_slice HO184.out; subst eo12) | ((with_reducible refine Qd1 (N := 14) rfl ?_); (try (refine gate_guard (by rfl) ?_; dsimp only)); refine Kd.N_lit k53 _ 53 ?hg (N' := 14) ?hd (xs := ([(⟨1, ([] : List Int), 0, (⟨0, 8589934592, 0, 0⟩ : S50)⟩ : S53), (⟨2, ([] : List Int), 0, (⟨0, 0, 0, 0⟩ : S50)⟩ : S53), (⟨3, y179, 0, (⟨0, 0, 0, 0⟩ : S50)⟩ : S53), (⟨0, ([] : List Int), 0, (⟨0, 0, 0, 0⟩ : S50)⟩ : S53), (⟨4, y182, 0, (⟨0, 0, 0, 0⟩ : S50)⟩ : S53)] : List (S53))) (inner := [.int .i64 1, .slice none 0 0, .int .i64 0, .int .u64 0, .int .u64 8589934592, .int .u64 0, .int .u64 0, .int .i64 2, .slice none 0 0, .int .i64 0, .int .u64 0, .int .u64 0, .int .u64 0, .int .u64 0, .int .i64 3, .slice Ao9 y179.length co9, .int .i64 0, .int .u64 0, .int .u64 0, .int .u64 0, .int .u64 0, .int .i64 0, .slice none 0 0, .int .i64 0, .int .u64 0, .int .u64 0, .int .u64 0, .int .u64 0, .int .i64 4, .slice Ao12 y182.length co12, .int .i64 0, .int .u64 0, .int .u64 0, .int .u64 0, .int .u64 0]) (ok := (fun k_ => some k_ ≠ (v177 : Value).ownBlock)) (okp := (fun k_ => some k_ ≠ (v177 : Value).ownBlock)) ?hr ?hp (fun _ hk => hk) ((show ∀ k_, w10.heap.size ≤ k_ → (fun k_ => some k_ ≠ (v177 : Value).ownBlock) k_ from fun k_ hk => Kd.fresh' (Kd.R_lt (by (with_reducible repeat (first | apply Kd.Qz | apply Kd.Qa1 | apply Kd.Qy)); exact HO178.out)) k_ hk) _ (Nat.le_refl _)) (Below.refl _ _) (Nat.le_refl _) (by simp) ?_; (case hd => rfl); (case hg => rfl); (case hr => first | (go_simp; done) | (go_simp; rfl)); (case hp => exact (Reps.c7 (show Kd.FK k53 _ _ (⟨1, ([] : List Int), 0, (⟨0, 8589934592, 0, 0⟩ : S50)⟩ : S53) [.int .i64 1, .slice none 0 0, .int .i64 0, .int .u64 0, .int .u64 8589934592, .int .u64 0, .int .u64 0] from (k53_mkF _ _ (⟨1, ([] : List Int), 0, (⟨0, 8589934592, 0, 0⟩ : S50)⟩ : S53) (Nat.le_refl _) (Kd.F_nil _ _ _))) (Reps.c7 (show Kd.FK k53 _ _ (⟨2, ([] : List Int), 0, (⟨0, 0, 0, 0⟩ : S50)⟩ : S53) [.int .i64 2, .slice none 0 0, .int .i64 0, .int .u64 0, .int .u64 0, .int .u64 0, .int .u64 0] from (k53_mkF _ _ (⟨2, ([] : List Int), 0, (⟨0, 0, 0, 0⟩ : S50)⟩ : S53) (Nat.le_refl _) (Kd.F_nil _ _ _))) (Reps.c7 (show Kd.FK k53 _ _ (⟨3, y179, 0, (⟨0, 0, 0, 0⟩ : S50)⟩ : S53) [.int .i64 3, .slice Ao9 y179.length co9, .int .i64 0, .int .u64 0, .int .u64 0, .int .u64 0, .int .u64 0] from (k53_mkF _ _ (⟨3, y179, 0, (⟨0, 0, 0, 0⟩ : S50)⟩ : S53) (Kd.R_reads' (Kd.R_mono (ok' := (fun k_ => some k_ ≠ (v177 : Value).ownBlock)) (Kd.R_apart' (HO181.out) (Kd.R_typed HO178.out) (by decide)) (fun k_ hk => hk.2))).2.1 (Kd.R_F (Kd.R_mono (ok' := (fun k_ => some k_ ≠ (v177 : Value).ownBlock)) (Kd.R_apart' (HO181.out) (Kd.R_typed HO178.out) (by decide)) (fun k_ hk => hk.2))))) (Reps.c7 (show Kd.FK k53 _ _ (⟨0, ([] : List Int), 0, (⟨0, 0, 0, 0⟩ : S50)⟩ : S53) [.int .i64 0, .slice none 0 0, .int .i64 0, .int .u64 0, .int .u64 0, .int .u64 0, .int .u64 0] from (k53_mkF _ _ (⟨0, ([] : List Int), 0, (⟨0, 0, 0, 0⟩ : S50)⟩ : S53) (Nat.le_refl _) (Kd.F_nil _ _ _))) (Reps.c7 (show Kd.FK k53 _ _ (⟨4, y182, 0, (⟨0, 0, 0, 0⟩ : S50)⟩ : S53) [.int .i64 4, .slice Ao12 y182.length co12, .int .i64 0, .int .u64 0, .int .u64 0, .int .u64 0, .int .u64 0] from (k53_mkF _ _ (⟨4, y182, 0, (⟨0, 0, 0, 0⟩ : S50)⟩ : S53) (Kd.R_reads' (Kd.R_mono (ok' := (fun k_ => some k_ ≠ (v177 : Value).ownBlock)) (Kd.R_apart' (HO184.out) (Kd.R_typed HO178.out) (by decide)) (fun k_ hk => hk.2))).2.1 (Kd.R_F (Kd.R_mono (ok' := (fun k_ => some k_ ≠ (v177 : Value).ownBlock)) (Kd.R_apart' (HO184.out) (Kd.R_typed HO178.out) (by decide)) (fun k_ hk => hk.2))))) (Reps.none _ _))))))); intro v186 w13 ho14 hb hg_ hnew_; clear hg_ hnew_; (first | rw [← Ny185.out] at ho14 | (simp only [Int.reduceToNat] at ho14; rw [← Ny185.out] at ho14)); have n0_ := Qa.mk (Kd.Qh1 (by (with_reducible repeat (first | apply Kd.Qz | apply Kd.Qa1 | apply Kd.Qy)); exact HO178.out) hb); have n1_ := Qa.mk (Kd.N_lower ho14 (Qc1 (by with_reducible repeat (first | exact HB.out | apply Qj | apply Ql | apply Qk)))); have n2_ := Qa.mk (Qr (by with_reducible repeat (first | exact HB.out | apply Qj | apply Ql | apply Qk)) hb); clear HO178; clear HB; clear HO181; clear HO184; have HO178 := n0_; have HO187 := n1_; have HB := n2_; clear n0_ n1_ n2_; clear hb ho14; obtain ⟨Ao15, co15, eo15⟩ := Kd.N_slice HO187.out; subst eo15; obtain ⟨Ao16, co16, eo16⟩ := Kd.R_slice HO178.out; subst eo16) | ((with_reducible refine Qd1 (N := 1) rfl ?_); (try (refine gate_guard (by rfl) ?_; dsimp only)); refine Qg1 ?hg (N := 1) ?hd (cs := #[.slice none 0 0, .slice none 0 0]) (t := 25) ?hr ?_; (case hd => rfl); (case hg => rfl); (case hr => first | (go_simp; done) | (go_simp; rfl)); intro gb188 hg w17 hbox hb; have n0_ := Qa.mk (Kd.Qh1 (by (with_reducible repeat (first | apply Kd.Qz | apply Kd.Qa1 | apply Kd.Qy)); exact HO178.out) hb); have n1_ := Qa.mk (Kd.N_below (Kd.N_elderB (by (with_reducible repeat (first | apply Kd.N_alloc | apply Kd.N_drewN | apply Kd.N_drew)); exact HO187.out) gb188 (Nat.le_of_eq hg.symm)) hb); have n2_ := Qa.mk (Qr (by with_reducible repeat (first | exact HB.out | apply Qj | apply Ql | apply Qk)) hb); have n3_ := Qa.mk (hbox); have n4_ := Qa.mk ((by rw [hg]; exact (Qc1 (by with_reducible repeat (first | exact HB.out | apply Qj | apply Ql | apply Qk))) : w.heap.size ≤ gb188)); have n5_ := n4_; clear HO178; clear HO187; clear HB; have HO178 := n0_; have HO187 := n1_; have HB := n2_; have BK188 := n3_; have GW188 := n4_; have GE188 := n5_; clear n0_ n1_ n2_ n3_ n4_ n5_; clear hb hbox hg; have hcz18_0 : w17.cell? ⟨gb188, 0, none⟩ = some (.slice none 0 0) := (Qb BK188.out 0).trans rfl; have hcz18_1 : w17.cell? ⟨gb188, 1, none⟩ = some (.slice none 0 0) := (Qb BK188.out 1).trans rfl; have hfz18_0 := Qf BK188.out 0; have hfz18_1 := Qf BK188.out 1) | ((with_reducible refine gate_callee (f := 13) rfl ?_); refine goesL_ (some 17) rfl rfl Try.func13 (by kernel_rfl) rfl #[.agg #[.slice Ao16 y176.length co16, .slice Ao15 y185.length co15]] rfl (by (try simp only [List.map_toArray, List.map_cons, List.map_nil]); first | done | rfl | (simp only [List.length_drop, List.length_take]; rfl)) ?_; (with_reducible refine (flow_Of.calls k _ _ y176 _ _ y185 t189 _ ?side1 ?side2 ?side3 ?side4 A1.out).mono ?_); (case side1 => refine (Kd.R_reads' (e := 39) (base := w.heap.size) (ok := fun k_ => True) (n := y176.length) (c := co16) ?_).2.2; exact (by (with_reducible repeat (first | apply Kd.Qz | apply Kd.Qa1 | apply Kd.Qy)); exact (Kd.R_mono (Kd.R_far (p := ⟨gb188, 1, none⟩) (Kd.R_far (p := ⟨gb188, 0, none⟩) (Kd.R_types HO178.out BK188.out (by decide)) (fun _ hk => hk.2) (.slice Ao16 y176.length co16)) (fun _ hk => hk.2) (.slice Ao15 y185.length co15)) (fun _ h_ => h_.1)))); (case side2 => exact (Kd.R_reads' HO178.out).2.1); (case side3 => refine (Kd.N_reads' (e := 53) (base := w.heap.size) (ok := fun k_ => (some k_ ≠ (.slice Ao16 y176.length co16 : Value).ownBlock ∧ k_ ≠ gb188)) (n := y185.length) (c := co15) ?_).2.2; exact (by (with_reducible repeat (first | apply Kd.N_alloc | apply Kd.N_drewN | apply Kd.N_drew)); exact (Kd.N_mono (Kd.N_far (p := ⟨gb188, 1, none⟩) (Kd.N_far (p := ⟨gb188, 0, none⟩) (Kd.N_mono HO187.out (fun k_ hk => (⟨hk, hk.2⟩ : _ ∧ k_ ≠ gb188))) (fun _ hk => hk.2) (.slice Ao16 y176.length co16)) (fun _ hk => hk.2) (.slice Ao15 y185.length co15)) (fun _ h_ => h_.1)))); (case side4 => exact (Kd.N_reads' HO187.out).2.1); rintro e w19 ⟨v190, rfl, ho0, hb⟩; refine ⟨_, rfl, ?_⟩; have n0_ := Qa.mk (Kd.Qh1 (by (with_reducible repeat (first | apply Kd.Qz | apply Kd.Qa1 | apply Kd.Qy)); exact (Kd.R_mono (Kd.R_far (p := ⟨gb188, 1, none⟩) (Kd.R_far (p := ⟨gb188, 0, none⟩) (Kd.R_types HO178.out BK188.out (by decide)) (fun _ hk => hk.2) (.slice Ao16 y176.length co16)) (fun _ hk => hk.2) (.slice Ao15 y185.length co15)) (fun _ h_ => h_.1))) hb); have n1_ := Qa.mk (Kd.N_elder' (by (with_reducible repeat (first | apply Kd.N_alloc | apply Kd.N_drewN | apply Kd.N_drew)); exact (Kd.N_mono (Kd.N_far (p := ⟨gb188, 1, none⟩) (Kd.N_far (p := ⟨gb188, 0, none⟩) (Kd.N_mono HO187.out (fun k_ hk => (⟨hk, hk.2⟩ : _ ∧ k_ ≠ gb188))) (fun _ hk => hk.2) (.slice Ao16 y176.length co16)) (fun _ hk => hk.2) (.slice Ao15 y185.length co15)) (fun _ h_ => h_.1))) (Kd.R_base ho0) hb); have n2_ := Qa.mk (Kd.R_lower ho0 (Qc1 (by with_reducible repeat (first | exact HB.out | apply Qj | apply Ql | apply Qk | refine Qi ?_ GE188.out)))); have n3_ := Qa.mk (Qo (g := gb188) (o := .cells #[.slice Ao16 y176.length co16, .slice Ao15 y185.length co15] 25 (0, 0)) (by (with_reducible repeat (first | refine Qe ?_ _ | refine Qc ?_ | refine Qd ?_ _)); refine Qq (cs := #[.slice Ao16 y176.length co16, .slice none 0 0]) ?_ 1 _ rfl; (with_reducible repeat (first | refine Qe ?_ _ | refine Qc ?_ | refine Qd ?_ _)); refine Qq (cs := #[.slice none 0 0, .slice none 0 0]) ?_ 0 _ rfl; (with_reducible repeat (first | refine Qe ?_ _ | refine Qc ?_ | refine Qd ?_ _)); exact BK188.out) hb); have n4_ := Qa.mk (Qr (by with_reducible repeat (first | exact HB.out | apply Qj | apply Ql | apply Qk | refine Qi ?_ GE188.out)) hb); clear HO178; clear HO187; clear BK188; clear HB; have HO178 := n0_; have HO187 := n1_; have HO191 := n2_; have BK188 := n3_; have HB := n4_; clear n0_ n1_ n2_ n3_ n4_; (try clear hb); (try clear hb2); (try clear hk); (try clear hi); (try clear ho0)))
 have n0_ := Qa.mk (Kd.Qy HO178.out)
 have n1_ := Qa.mk (Kd.N_drew HO187.out)
 have n2_ := Qa.mk (Kd.Qy HO191.out)
 have n3_ := Qa.mk (Qc BK188.out)
 have n4_ := Qa.mk (Qk HB.out)
 clear HO178
 clear HO187
 clear HO191
 clear BK188
 clear HB
 have HO178 := n0_
 have HO187 := n1_
 have HO191 := n2_
 have BK188 := n3_
 have HB := n4_
 clear n0_ n1_ n2_ n3_ n4_
 refine start_ (n := 4) (S := fun w' => w'.cell? ⟨gb188, 0, none⟩ = some (.slice Ao16 y176.length co16) ∧ w'.cell? ⟨gb188, 1, none⟩ = some (.slice Ao15 y185.length co15)) (ds := []) #[false, false, false, false] (by kernel_rfl) rfl rfl ⟨(Qb BK188.out 0).trans rfl, (Qb BK188.out 1).trans rfl⟩ (fun hHeld => ?_)
 generalize w19.drew = w20 at HO178 HO187 HO191 BK188 HB hHeld ⊢
 refine take_ (i := 0) (N := some 18) (v := ?_) (a' := ?_) #[true, false, false, false] rfl rfl (by kernel_rfl) (fun _ _ _ h => h) (Or.inl ⟨by rfl, ?_⟩) hHeld ?_ ?_
 rotate_left
 ·
  rintro w' ⟨s0, s1⟩
  go_simp
  with_reducible rfl
 rotate_left
 ·
  simp only [Act.put, List.setIfInBounds_toArray, List.set_cons_zero, List.set_cons_succ, i64_w, i32_w]
  rfl
 refine one_ (i := 1) (N := some 19) #[true, true, false, false] rfl rfl (by kernel_rfl) (by decide) (fun K hK => ?_)
 refine Kd.R_make_step k36 _ 36 (by rfl) (N := 19) rfl 32 _ _ rfl 5 rfl rfl Try.underlying32 (.agg #[(.bool false), (.bool false), (.bool false)]) 3 info36 rfl (by decide) (by omega) z36 (ok := fun _ => True) (okp := fun _ => True) (k36_mkM _ _ _ z36 ) (fun _ hk => hk) trivial (by omega) (by omega) (Below.refl _ _) (Nat.le_refl _) ?_
 intro v193 w21 ho22 hb hg_ hnew_
 clear hg_ hnew_
 (first | rw [← Ny192.out] at ho22 | (simp only [Int.reduceToNat] at ho22; rw [← Ny192.out] at ho22))
 have n0_ := Qa.mk (Kd.Qh1 (by (with_reducible repeat (first | apply Kd.Qz | apply Kd.Qa1 | apply Kd.Qy)); exact HO178.out) hb)
 have n1_ := Qa.mk (Kd.N_elder' (by (with_reducible repeat (first | apply Kd.N_alloc | apply Kd.N_drewN | apply Kd.N_drew)); exact HO187.out) (Kd.R_base ho22) hb)
 have n2_ := Qa.mk (Kd.R_elder' (by (with_reducible repeat (first | apply Kd.Qz | apply Kd.Qa1 | apply Kd.Qy)); exact HO191.out) (Kd.R_base ho22) hb)
 have n3_ := Qa.mk (Kd.R_lower (Kd.R_new' ho22 (Kd.R_lt (by (with_reducible repeat (first | apply Kd.Qz | apply Kd.Qa1 | apply Kd.Qy)); exact HO191.out))) (Qc1 (by with_reducible repeat (first | exact HB.out | apply Qj | apply Ql | apply Qk | refine Qi ?_ GE188.out))))
 have n4_ := Qa.mk (Qo (g := gb188) (o := .cells #[.slice Ao16 y176.length co16, .slice Ao15 y185.length co15] 25 (0, 0)) (by (with_reducible repeat (first | refine Qe ?_ _ | refine Qc ?_ | refine Qd ?_ _)); exact BK188.out) hb)
 have n5_ := Qa.mk (Qr (by with_reducible repeat (first | exact HB.out | apply Qj | apply Ql | apply Qk | refine Qi ?_ GE188.out)) hb)
 clear HO178
 clear HO187
 clear HO191
 clear BK188
 clear HB
 have HO178 := n0_
 have HO187 := n1_
 have HO191 := n2_
 have HO194 := n3_
 have BK188 := n4_
 have HB := n5_
 clear n0_ n1_ n2_ n3_ n4_ n5_
 clear hb ho22
 obtain ⟨Ao23, co23, eo23⟩ := Kd.R_slice HO194.out
 (first | subst eo23 | (injection eo23 with f1_ f2_ f3_; have f4_ := f1_.symm; have f5_ := f3_.symm; clear f1_ f2_ f3_; subst f4_; subst f5_))
 refine hK.out _ _ ⟨(Qb BK188.out 0).trans rfl, (Qb BK188.out 1).trans rfl⟩ (fun hHeld => ?_)
 clear hK K
 refine norm_ (a' := ?_) ?_ ?_
 rotate_left
 ·
  show Act.put _ (some 19) _ = _
  simp only [Act.put, List.setIfInBounds_toArray, List.set_cons_zero, List.set_cons_succ, i64_w, i32_w]
  rfl
 refine one_ (i := 2) (N := some 20) #[true, true, true, false] rfl rfl (by kernel_rfl) (by decide) (fun K hK => ?_)
 refine goes_ Try.func15 (by kernel_rfl) rfl #[.agg #[.slice Ao16 y176.length co16, .slice Ao15 y185.length co15], .slice Ao23 y192.length co23] (by rfl) rfl rfl (by (try simp only [List.map_toArray, List.map_cons, List.map_nil]); first | done | rfl | (simp only [List.length_drop, List.length_take]; rfl)) ?_
 with_reducible refine (flow_Step.calls k _ _ y176 _ _ y185 _ _ y192 t195 _ ?side1 ?side2 ?side3 ?side4 ?side5 ?side6 A3.out).mono ?_
 (case side1 => repeat (first | exact (Kd.R_reads' HO178.out).2.2 | (with_reducible refine Kd.Qf1 ?_ _) | (with_reducible refine Kd.Qe1 ?_ _) | (with_reducible refine Kd.C_drew ?_)))
 (case side2 => exact (Kd.R_reads' HO178.out).2.1)
 (case side3 => repeat (first | exact (Kd.N_reads' HO187.out).2.2 | (with_reducible refine Kd.Qf1 ?_ _) | (with_reducible refine Kd.Qe1 ?_ _) | (with_reducible refine Kd.C_drew ?_)))
 (case side4 => exact (Kd.N_reads' HO187.out).2.1)
 (case side5 => repeat (first | exact (Kd.R_reads' HO194.out).2.2 | (with_reducible refine Kd.Qf1 ?_ _) | (with_reducible refine Kd.Qe1 ?_ _) | (with_reducible refine Kd.C_drew ?_)))
 (case side6 => exact (Kd.R_reads' HO194.out).2.1)
 rintro e w24 ⟨v196, rfl, ho0, hb⟩
 refine ⟨_, rfl, ?_⟩
 have n0_ := Qa.mk (Kd.Qh1 (by (with_reducible repeat (first | apply Kd.Qz | apply Kd.Qa1 | apply Kd.Qy)); exact HO178.out) hb)
 have n1_ := Qa.mk (Kd.N_elder' (by (with_reducible repeat (first | apply Kd.N_alloc | apply Kd.N_drewN | apply Kd.N_drew)); exact HO187.out) (Kd.R_base ho0) hb)
 have n2_ := Qa.mk (Kd.R_elder' (by (with_reducible repeat (first | apply Kd.Qz | apply Kd.Qa1 | apply Kd.Qy)); exact HO191.out) (Kd.R_base ho0) hb)
 have n3_ := Qa.mk (Kd.R_elder' (by (with_reducible repeat (first | apply Kd.Qz | apply Kd.Qa1 | apply Kd.Qy)); exact HO194.out) (Kd.R_base ho0) hb)
 have n4_ := Qa.mk (Kd.R_lower (Kd.R_new' (Kd.R_new' ho0 (Kd.R_lt (by (with_reducible repeat (first | apply Kd.Qz | apply Kd.Qa1 | apply Kd.Qy)); exact HO191.out))) (Kd.R_lt (by (with_reducible repeat (first | apply Kd.Qz | apply Kd.Qa1 | apply Kd.Qy)); exact HO194.out))) (Qc1 (by with_reducible repeat (first | exact HB.out | apply Qj | apply Ql | apply Qk | refine Qi ?_ GE188.out))))
 have n5_ := Qa.mk (Qo (g := gb188) (o := .cells #[.slice Ao16 y176.length co16, .slice Ao15 y185.length co15] 25 (0, 0)) (by (with_reducible repeat (first | refine Qe ?_ _ | refine Qc ?_ | refine Qd ?_ _)); exact BK188.out) hb)
 have n6_ := Qa.mk (Qr (by with_reducible repeat (first | exact HB.out | apply Qj | apply Ql | apply Qk | refine Qi ?_ GE188.out)) hb)
 clear HO178
 clear HO187
 clear HO191
 clear HO194
 clear BK188
 clear HB
 have HO178 := n0_
 have HO187 := n1_
 have HO191 := n2_
 have HO194 := n3_
 have HO197 := n4_
 have BK188 := n5_
 have HB := n6_
 clear n0_ n1_ n2_ n3_ n4_ n5_ n6_
 (try clear hb; try clear hb2; try clear hk; try clear hi; try clear ho0)
 refine hK.out _ _ ⟨(Qb BK188.out 0).trans rfl, (Qb BK188.out 1).trans rfl⟩ (fun hHeld => ?_)
 clear hK K
 refine norm_ (a' := ?_) ?_ ?_
 rotate_left
 ·
  show Act.put _ (some 20) _ = _
  simp only [Act.put, List.setIfInBounds_toArray, List.set_cons_zero, List.set_cons_succ, i64_w, i32_w]
  rfl
 refine pure_ (i := 3) (N := some 3) (v := ?_) (a' := ?_) #[true, true, true, true] rfl rfl (by kernel_rfl) (fun _ _ _ h => h) (Or.inl ⟨by rfl, ?_⟩) ?_ ?_
 rotate_left
 ·
  intro w'
  go_simp
  with_reducible rfl
 rotate_left
 ·
  simp only [Act.put, List.setIfInBounds_toArray, List.set_cons_zero, List.set_cons_succ, i64_w, i32_w]
  rfl
 refine done_ (by kernel_rfl) ?_
 go_upto_region 4 with (fail)
 go_cut [28] (fun v28 wc => ∃ (kq : Nat) (x28_3 : Bool), v28 = .bool x28_3 ∧ Qa (Qi1.j0 kq t189 t195 x28_3 y176 y185 = some r) ∧ Qa (kq ≤ k) ∧ Qa (Kd.R k36 36 wc w.heap.size (fun k_ => some k_ ≠ (v196 : Value).ownBlock) v190 t189) ∧ Qa (Kd.R k36 36 wc w.heap.size (fun k_ => some k_ ≠ (v190 : Value).ownBlock) v196 t195) ∧ Qa (Kd.R k39 39 wc w.heap.size (fun _ => True) (.slice Ao16 y176.length co16) y176) ∧ Qa (Kd.N k53 53 wc w.heap.size (fun k_ => some k_ ≠ (v190 : Value).ownBlock ∧ some k_ ≠ (v196 : Value).ownBlock ∧ some k_ ≠ ((.slice Ao16 y176.length co16) : Value).ownBlock ∧ k_ ≠ gb188) (.slice Ao15 y185.length co15) y185) ∧ Qa (wc.heap[gb188]? = some (.cells #[(.slice Ao16 y176.length co16), (.slice Ao15 y185.length co15)] 25 (0, 0))) ∧ Qa (Below w.heap.size w wc))
 case first =>
  have H := HC4.out
  clear HC4
  by_cases c25 : (t189.length : Int) = 5
  ·
   rw [if_pos c25] at H
   have c25b0 : ((t189.length : Int) == 5) = true := beq_iff_eq.mpr c25
   have c25b1 : ((t189.length : Int) != 5) = false := bne_eq_false_iff_eq.mpr c25
   clear c25
   (first | rw [c25b0] | (simp only [i64_w, i32_w]; rw [c25b0]) | skip)
   have H' := Qa.mk H
   clear H
   obtain ⟨Ao26, co26, eo26⟩ := Kd.R_slice HO191.out
   subst eo26
   obtain ⟨Ao27, co27, eo27⟩ := Kd.R_slice HO197.out
   subst eo27
   go_wp2
   go_meet
   case rel => exact ⟨_, (((t195.length : Int) != 5)), (by first | rfl | (simp; done) | (simp [*]; done)), H', ⟨by first | omega | exact Nat.le_refl _⟩, ⟨by (with_reducible repeat (first | apply Kd.Qz | apply Kd.Qa1 | apply Kd.Qy)); exact Kd.R_mono HO191.out (fun _ hk => hk.2)⟩, ⟨by (with_reducible repeat (first | apply Kd.Qz | apply Kd.Qa1 | apply Kd.Qy)); exact Kd.R_mono HO197.out (fun _ hk => hk.1.2)⟩, ⟨by (with_reducible repeat (first | apply Kd.Qz | apply Kd.Qa1 | apply Kd.Qy)); exact HO178.out⟩, ⟨by (with_reducible repeat (first | apply Kd.N_alloc | apply Kd.N_drewN | apply Kd.N_drew)); exact Kd.N_mono HO187.out (fun _ hk => ⟨hk.1.1.2, ⟨hk.2, ⟨hk.1.1.1.1, hk.1.1.1.2⟩⟩⟩)⟩, ⟨by (with_reducible repeat (first | refine Qe ?_ _ | refine Qc ?_ | refine Qd ?_ _)); exact BK188.out⟩, ⟨by with_reducible repeat (first | exact HB.out | apply Qj | apply Ql | apply Qk | refine Qi ?_ GE188.out)⟩⟩
  rw [if_neg c25] at H
  have c25b0 : ((t189.length : Int) == 5) = false := beq_eq_false_iff_ne.mpr c25
  have c25b1 : ((t189.length : Int) != 5) = true := bne_iff_ne.mpr c25
  (first | rw [c25b0] | (simp only [i64_w, i32_w]; rw [c25b0]) | skip)
  have H' := Qa.mk H
  clear H
  obtain ⟨Ao28, co28, eo28⟩ := Kd.R_slice HO191.out
  subst eo28
  go_wp2
  go_meet
  case rel => exact ⟨_, (true), (by first | rfl | (simp; done) | (simp [*]; done)), H', ⟨by first | omega | exact Nat.le_refl _⟩, ⟨by (with_reducible repeat (first | apply Kd.Qz | apply Kd.Qa1 | apply Kd.Qy)); exact Kd.R_mono HO191.out (fun _ hk => hk.2)⟩, ⟨by (with_reducible repeat (first | apply Kd.Qz | apply Kd.Qa1 | apply Kd.Qy)); exact Kd.R_mono HO197.out (fun _ hk => hk.1.2)⟩, ⟨by (with_reducible repeat (first | apply Kd.Qz | apply Kd.Qa1 | apply Kd.Qy)); exact HO178.out⟩, ⟨by (with_reducible repeat (first | apply Kd.N_alloc | apply Kd.N_drewN | apply Kd.N_drew)); exact Kd.N_mono HO187.out (fun _ hk => ⟨hk.1.1.2, ⟨hk.2, ⟨hk.1.1.1.1, hk.1.1.1.2⟩⟩⟩)⟩, ⟨by (with_reducible repeat (first | refine Qe ?_ _ | refine Qc ?_ | refine Qd ?_ _)); exact BK188.out⟩, ⟨by with_reducible repeat (first | exact HB.out | apply Qj | apply Ql | apply Qk | refine Qi ?_ GE188.out)⟩⟩
 case rest =>
  clear HC4
  (try clear c1; try clear c2; try clear c2b0; try clear c2b1; try clear p2; try clear c7; try clear c8; try clear c13; try clear c15; try clear c25; try clear c25b0; try clear c25b1; try clear hcz18_0; try clear hcz18_1; try clear hfz18_0; try clear hfz18_1)
  obtain ⟨kq, x28_3, rfl, HA, HJ3, HO_2, HO_3, HO_189000, HO_189001, BK188, HB⟩ := hcut
  cases kq with
  | zero => exact absurd HA.out (by simp [Qi1.j0])
  | succ kj3 =>
   have H := HA.out
   clear HA
   simp only [Qi1.j0] at H
   by_cases c29 : x28_3 = true
   ·
    subst c29
    have H1 : (some false) = some r := by rw [if_pos rfl] at H; exact H
    clear H
    have H := H1
    clear H1
    obtain rfl := Option.some.inj H
    go_wp2
    go_ret
    exact ⟨by first | rfl | (simp [Qt, Qs] <;> rfl) | (simp [*, Qt, Qs] <;> rfl), by with_reducible repeat (first | exact HB.out | apply Qj | apply Ql | apply Qk | refine Qi ?_ GE188.out)⟩
   replace c29 := Bool.eq_false_iff.mpr c29
   subst c29
   have H1 : (if 2 < (t189.length : Int) then ((flow_Text.f kj3 ((Qg t189 2).f0) ((Qg t189 2).f1) ((Qg t189 2).f2)).bind fun t199 => (if t199.toList = ([101, 102] : List UInt8) then (if 4 < (t189.length : Int) then ((flow_Text.f kj3 ((Qg t189 4).f0) ((Qg t189 4).f1) ((Qg t189 4).f2)).bind fun t201 => (if t201.toList = ([110, 101] : List UInt8) then ((flow_Rule.f kj3 y176 y185 0).bind fun bt202 => (if (bt202.1 == ((Qg t189 4).f0) && (bt202.2.1 == ((Qg t189 4).f1) && (bt202.2.2 == ((Qg t189 4).f2)))) = true then (if 0 < (t195.length : Int) then ((flow_Text.f kj3 ((Qg t195 0).f0) ((Qg t195 0).f1) ((Qg t195 0).f2)).bind fun t207 => (if t207.toList = ([101, 102] : List UInt8) then (if 1 < (t195.length : Int) then ((flow_Text.f kj3 ((Qg t195 1).f0) ((Qg t195 1).f1) ((Qg t195 1).f2)).bind fun t209 => (some (t209.toList == ([45] : List UInt8)))) else (none)) else (some false))) else (none)) else (some false))) else (some false))) else (none)) else (some false))) else (none)) = some r := by rw [if_neg (show ¬ (false = true) by decide)] at H; exact H
   clear H
   have H := H1
   clear H1
   have HC30 := Qa.mk H
   clear H
   go_upto_region 6 with (fail)
   have H := HC30.out
   clear HC30
   by_cases c31 : 2 < (t189.length : Int)
   rotate_left
   ·
    rw [if_neg c31] at H
    exact absurd H (by simp)
   rw [if_pos c31] at H
   have c31b0 : decide (2 < (t189.length : Int)) = true := decide_eq_true c31
   have c31b1 : decide (2 < t189.length) = true := decide_eq_true (by omega)
   clear c31
   (first | rw [c31b0] | (simp only [i64_w, i32_w]; rw [c31b0]) | skip)
   replace H := Option.bind_eq_some_iff.mp H
   obtain ⟨t199, A320, H⟩ := H
   replace H : (if t199.toList = ([101, 102] : List UInt8) then (if 4 < (t189.length : Int) then ((flow_Text.f kj3 ((Qg t189 4).f0) ((Qg t189 4).f1) ((Qg t189 4).f2)).bind fun t201 => (if t201.toList = ([110, 101] : List UInt8) then ((flow_Rule.f kj3 y176 y185 0).bind fun bt202 => (if (bt202.1 == ((Qg t189 4).f0) && (bt202.2.1 == ((Qg t189 4).f1) && (bt202.2.2 == ((Qg t189 4).f2)))) = true then (if 0 < (t195.length : Int) then ((flow_Text.f kj3 ((Qg t195 0).f0) ((Qg t195 0).f1) ((Qg t195 0).f2)).bind fun t207 => (if t207.toList = ([101, 102] : List UInt8) then (if 1 < (t195.length : Int) then ((flow_Text.f kj3 ((Qg t195 1).f0) ((Qg t195 1).f1) ((Qg t195 1).f2)).bind fun t209 => (some (t209.toList == ([45] : List UInt8)))) else (none)) else (some false))) else (none)) else (some false))) else (some false))) else (none)) else (some false)) = some r := H
   have A32 := Qa.mk A320
   clear A320
   by_cases c33 : t199.toList = ([101, 102] : List UInt8)
   rotate_left
   ·
    rw [if_neg c33] at H
    have c33b0 : (t199.toList == ([101, 102] : List UInt8)) = false := beq_eq_false_iff_ne.mpr c33
    have c33b1 : (t199.toList != ([101, 102] : List UInt8)) = true := bne_iff_ne.mpr c33
    obtain rfl := Option.some.inj H
    try go_wp2
    have n0_ := Qa.mk (Kd.Qy HO_2.out)
    have n1_ := Qa.mk (Kd.Qy HO_3.out)
    have n2_ := Qa.mk (Kd.Qy HO_189000.out)
    have n3_ := Qa.mk (Kd.N_drew HO_189001.out)
    have n4_ := Qa.mk (Qc BK188.out)
    have n5_ := Qa.mk (Qk HB.out)
    clear HO_2
    clear HO_3
    clear HO_189000
    clear HO_189001
    clear BK188
    clear HB
    have HO_2 := n0_
    have HO_3 := n1_
    have HO_189000 := n2_
    have HO_189001 := n3_
    have BK188 := n4_
    have HB := n5_
    clear n0_ n1_ n2_ n3_ n4_ n5_
    obtain ⟨Ao69, co69, eo69⟩ := Kd.R_slice HO_2.out
    (first | subst eo69 | (injection eo69 with f1_ f2_ f3_; have f4_ := f1_.symm; have f5_ := f3_.symm; clear f1_ f2_ f3_; subst f4_; subst f5_))
    have p198 : 0 ≤ (2 : Int) := (by omega)
    have q198 : 2 < (t189.length : Int) := of_decide_eq_true (by assumption)
    obtain ⟨ad198, e198, hx198_0, hx198_1, hx198_2⟩ := at_T36 (Kd.R_reads' HO_2.out).2.2 2 p198 q198
    cases e198
    (try simp only [show (2 : Int).toNat = 2 from rfl, Nat.reduceMul, Nat.reduceEqDiff, Go.Addr.add, ↓reduceIte] at hx198_0)
    (try simp only [show (2 : Int).toNat = 2 from rfl, Nat.reduceMul, Nat.reduceEqDiff, Go.Addr.add, ↓reduceIte] at hx198_1)
    (try simp only [show (2 : Int).toNat = 2 from rfl, Nat.reduceMul, Nat.reduceEqDiff, Go.Addr.add, ↓reduceIte] at hx198_2)
    have qi198 : (2 < t189.length) = True := eq_true (by omega)
    (try rw [show ((2 : Int)).toNat = 2 from rfl] at hx198_0)
    (try rw [show 2 * 3 = 6 from rfl] at hx198_0)
    (try rw [show ((2 : Int)).toNat = 2 from rfl] at hx198_1)
    (try rw [show 2 * 3 = 6 from rfl] at hx198_1)
    (try rw [show ((2 : Int)).toNat = 2 from rfl] at hx198_2)
    (try rw [show 2 * 3 = 6 from rfl] at hx198_2)
    replace p198 := eq_true p198
    replace q198 := eq_true q198
    refine start_ (n := 35) (S := fun w' => w'.cell? ⟨ad198.block, ad198.off + 6, none⟩ = some (.bool ((Qg t189 2).f0)) ∧ w'.cell? ⟨ad198.block, ad198.off + 6 + 1, none⟩ = some (.bool ((Qg t189 2).f1)) ∧ w'.cell? ⟨ad198.block, ad198.off + 6 + 2, none⟩ = some (.bool ((Qg t189 2).f2))) (ds := []) QB56_0 (by kernel_rfl) rfl rfl ⟨hx198_0, hx198_1, hx198_2⟩ (fun hHeld => ?_); refine with_tabW Qi1.tab6 Qi1.bits6 (fun HT_ HW_ => ?_)
    generalize wc.drew = w68 at HO_2 HO_3 HO_189000 HO_189001 BK188 HB hx198_0 hx198_1 hx198_2 hHeld ⊢
    refine pure_ (i := 0) (N := some 29) (v := ?_) (a' := ?_) QB56_1 rfl rfl (Qm HT_.out (by kernel_rfl)) (fun _ _ _ h => h) (Or.inl ⟨by rfl, ?_⟩) ?_ ?_
    rotate_left
    ·
     intro w'
     go_simp
     with_reducible rfl
    rotate_left
    ·
     simp only [Act.put, List.setIfInBounds_toArray, List.set_cons_zero, List.set_cons_succ, i64_w, i32_w]
     rfl
    refine pure_ (i := 1) (N := some 30) (v := ?_) (a' := ?_) QB56_2 rfl rfl (Qm HT_.out (by kernel_rfl)) (fun _ _ _ h => h) (Or.inl ⟨by rfl, ?_⟩) ?_ ?_
    rotate_left
    ·
     intro w'
     go_simp
     with_reducible rfl
    rotate_left
    ·
     simp only [Act.put, List.setIfInBounds_toArray, List.set_cons_zero, List.set_cons_succ, i64_w, i32_w]
     rfl
    refine take_ (i := 2) (N := some 31) (v := ?_) (a' := ?_) QB56_3 rfl rfl (Qk1 HT_.out HW_.out (by kernel_rfl)) (fun _ _ _ h => h) (Or.inl ⟨by rfl, ?_⟩) hHeld ?_ ?_
    rotate_left
    ·
     rintro w' ⟨s0, s1, s2⟩
     go_simp
     with_reducible rfl
    rotate_left
    ·
     simp only [Act.put, List.setIfInBounds_toArray, List.set_cons_zero, List.set_cons_succ, i64_w, i32_w]
     rfl
    refine one_ (i := 3) (N := some 32) QB56_4 rfl rfl (one_of HT_.out (by kernel_rfl)) (by decide) (fun K hK => ?_)
    refine goes_ Try.func19 (by kernel_rfl) rfl #[.agg #[.bool ((Qg t189 2).f0), .bool ((Qg t189 2).f1), .bool ((Qg t189 2).f2)]] (by rfl) rfl rfl (by (try simp only [List.map_toArray, List.map_cons, List.map_nil]); first | done | rfl | (simp only [List.length_drop, List.length_take]; rfl)) ?_
    with_reducible refine (flow_Text.calls kj3 ((Qg t189 2).f0) ((Qg t189 2).f1) ((Qg t189 2).f2) t199 _ A32.out).mono ?_
    rintro e w70 ⟨rfl, hb⟩
    have HS0_ := (hb.cell (World.block_lt_of_cell? _ _ (hHeld.1))).trans (hHeld.1)
    have HS1_ := (hb.cell (World.block_lt_of_cell? _ _ (hHeld.2.1))).trans (hHeld.2.1)
    have HS2_ := (hb.cell (World.block_lt_of_cell? _ _ (hHeld.2.2))).trans (hHeld.2.2)
    refine ⟨_, rfl, ?_⟩
    have n0_ := Qa.mk (Kd.Qh1 (by (with_reducible repeat (first | apply Kd.Qz | apply Kd.Qa1 | apply Kd.Qy)); exact HO_2.out) hb)
    have n1_ := Qa.mk (Kd.Qh1 (by (with_reducible repeat (first | apply Kd.Qz | apply Kd.Qa1 | apply Kd.Qy)); exact HO_3.out) hb)
    have n2_ := Qa.mk (Kd.Qh1 (by (with_reducible repeat (first | apply Kd.Qz | apply Kd.Qa1 | apply Kd.Qy)); exact HO_189000.out) hb)
    have n3_ := Qa.mk (Kd.N_below (by (with_reducible repeat (first | apply Kd.N_alloc | apply Kd.N_drewN | apply Kd.N_drew)); exact HO_189001.out) hb)
    have n4_ := Qa.mk (Qo (g := gb188) (o := .cells #[.slice Ao16 y176.length co16, .slice Ao15 y185.length co15] 25 (0, 0)) (by (with_reducible repeat (first | refine Qe ?_ _ | refine Qc ?_ | refine Qd ?_ _)); exact BK188.out) hb)
    have n5_ := Qa.mk (Qr (by with_reducible repeat (first | exact HB.out | apply Qj | apply Ql | apply Qk | refine Qi ?_ GE188.out)) hb)
    clear HO_2
    clear HO_3
    clear HO_189000
    clear HO_189001
    clear BK188
    clear HB
    have HO_2 := n0_
    have HO_3 := n1_
    have HO_189000 := n2_
    have HO_189001 := n3_
    have BK188 := n4_
    have HB := n5_
    clear n0_ n1_ n2_ n3_ n4_ n5_
    (try clear hb; try clear hb2; try clear hk; try clear hi)
    refine hK.out _ _ ⟨HS0_, HS1_, HS2_⟩ (fun hHeld => ?_)
    clear hK K
    refine norm_ (a' := ?_) ?_ ?_
    rotate_left
    ·
     show Act.put _ (some 32) _ = _
     simp only [Act.put, List.setIfInBounds_toArray, List.set_cons_zero, List.set_cons_succ, i64_w, i32_w]
     rfl
    refine pure_ (i := 4) (N := some 33) (v := ?_) (a' := ?_) QB56_5 rfl rfl (Qm HT_.out (by kernel_rfl)) (fun _ _ _ h => h) (Or.inl ⟨by rfl, ?_⟩) ?_ ?_
    rotate_left
    ·
     intro w'
     go_simp
     with_reducible rfl
    rotate_left
    ·
     simp only [Act.put, List.setIfInBounds_toArray, List.set_cons_zero, List.set_cons_succ, i64_w, i32_w]
     rfl
    refine pure_ (i := 5) (N := some 34) (v := ?_) (a' := ?_) QB56_6 rfl rfl (Qm HT_.out (by kernel_rfl)) (fun _ _ _ h => h) (Or.inl ⟨by rfl, ?_⟩) ?_ ?_
    rotate_left
    ·
     intro w'
     go_simp
     with_reducible rfl
    rotate_left
    ·
     simp only [Act.put, List.setIfInBounds_toArray, List.set_cons_zero, List.set_cons_succ, i64_w, i32_w]
     rfl
    refine pure_ (i := 6) (N := some 35) (v := undef) (a' := ?_) QB56_7 rfl rfl (Qm HT_.out (by kernel_rfl)) (fun _ _ _ h => h) (Or.inr ⟨by rfl, rfl⟩) ?_ ?_
    rotate_left
    ·
     simp only [Act.put, List.setIfInBounds_toArray, List.set_cons_zero, List.set_cons_succ, i64_w, i32_w]
     rfl
    refine pure_ (i := 7) (N := some 36) (v := undef) (a' := ?_) QB56_8 rfl rfl (Qm HT_.out (by kernel_rfl)) (fun _ _ _ h => h) (Or.inr ⟨by rfl, rfl⟩) ?_ ?_
    rotate_left
    ·
     simp only [Act.put, List.setIfInBounds_toArray, List.set_cons_zero, List.set_cons_succ, i64_w, i32_w]
     rfl
    refine pure_ (i := 8) (N := some 37) (v := undef) (a' := ?_) QB56_9 rfl rfl (Qm HT_.out (by kernel_rfl)) (fun _ _ _ h => h) (Or.inr ⟨by rfl, rfl⟩) ?_ ?_
    rotate_left
    ·
     simp only [Act.put, List.setIfInBounds_toArray, List.set_cons_zero, List.set_cons_succ, i64_w, i32_w]
     rfl
    refine pure_ (i := 9) (N := some 38) (v := undef) (a' := ?_) QB56_10 rfl rfl (Qm HT_.out (by kernel_rfl)) (fun _ _ _ h => h) (Or.inr ⟨by rfl, rfl⟩) ?_ ?_
    rotate_left
    ·
     simp only [Act.put, List.setIfInBounds_toArray, List.set_cons_zero, List.set_cons_succ, i64_w, i32_w]
     rfl
    refine pure_ (i := 10) (N := some 39) (v := undef) (a' := ?_) QB56_11 rfl rfl (Qm HT_.out (by kernel_rfl)) (fun _ _ _ h => h) (Or.inr ⟨by rfl, rfl⟩) ?_ ?_
    rotate_left
    ·
     simp only [Act.put, List.setIfInBounds_toArray, List.set_cons_zero, List.set_cons_succ, i64_w, i32_w]
     rfl
    refine pure_ (i := 11) (N := some 40) (v := ?_) (a' := ?_) QB56_12 rfl rfl (Qm HT_.out (by kernel_rfl)) (fun _ _ _ h => h) (Or.inl ⟨by rfl, ?_⟩) ?_ ?_
    rotate_left
    ·
     intro w'
     go_simp
     with_reducible rfl
    rotate_left
    ·
     simp only [Act.put, List.setIfInBounds_toArray, List.set_cons_zero, List.set_cons_succ, i64_w, i32_w]
     rfl
    refine pure_ (i := 12) (N := some 41) (v := ?_) (a' := ?_) QB56_13 rfl rfl (Qm HT_.out (by kernel_rfl)) (fun _ _ _ h => h) (Or.inl ⟨by rfl, ?_⟩) ?_ ?_
    rotate_left
    ·
     intro w'
     go_simp
     with_reducible rfl
    rotate_left
    ·
     simp only [Act.put, List.setIfInBounds_toArray, List.set_cons_zero, List.set_cons_succ, i64_w, i32_w]
     rfl
    refine pure_ (i := 13) (N := some 42) (v := undef) (a' := ?_) QB56_36 rfl rfl (Qm HT_.out (by kernel_rfl)) (fun _ _ _ h => h) (Or.inr ⟨by rfl, rfl⟩) ?_ ?_
    rotate_left
    ·
     simp only [Act.put, List.setIfInBounds_toArray, List.set_cons_zero, List.set_cons_succ, i64_w, i32_w]
     rfl
    refine pure_ (i := 14) (N := some 43) (v := undef) (a' := ?_) QB56_37 rfl rfl (Qm HT_.out (by kernel_rfl)) (fun _ _ _ h => h) (Or.inr ⟨by rfl, rfl⟩) ?_ ?_
    rotate_left
    ·
     simp only [Act.put, List.setIfInBounds_toArray, List.set_cons_zero, List.set_cons_succ, i64_w, i32_w]
     rfl
    refine pure_ (i := 15) (N := some 44) (v := undef) (a' := ?_) QB56_38 rfl rfl (Qm HT_.out (by kernel_rfl)) (fun _ _ _ h => h) (Or.inr ⟨by rfl, rfl⟩) ?_ ?_
    rotate_left
    ·
     simp only [Act.put, List.setIfInBounds_toArray, List.set_cons_zero, List.set_cons_succ, i64_w, i32_w]
     rfl
    refine pure_ (i := 16) (N := some 45) (v := undef) (a' := ?_) QB56_39 rfl rfl (Qm HT_.out (by kernel_rfl)) (fun _ _ _ h => h) (Or.inr ⟨by rfl, rfl⟩) ?_ ?_
    rotate_left
    ·
     simp only [Act.put, List.setIfInBounds_toArray, List.set_cons_zero, List.set_cons_succ, i64_w, i32_w]
     rfl
    refine pure_ (i := 17) (N := some 46) (v := undef) (a' := ?_) QB56_14 rfl rfl (Qm HT_.out (by kernel_rfl)) (fun _ _ _ h => h) (Or.inr ⟨by rfl, rfl⟩) ?_ ?_
    rotate_left
    ·
     simp only [Act.put, List.setIfInBounds_toArray, List.set_cons_zero, List.set_cons_succ, i64_w, i32_w]
     rfl
    refine pure_ (i := 18) (N := some 47) (v := undef) (a' := ?_) QB56_15 rfl rfl (Qm HT_.out (by kernel_rfl)) (fun _ _ _ h => h) (Or.inr ⟨by rfl, rfl⟩) ?_ ?_
    rotate_left
    ·
     simp only [Act.put, List.setIfInBounds_toArray, List.set_cons_zero, List.set_cons_succ, i64_w, i32_w]
     rfl
    refine pure_ (i := 19) (N := some 48) (v := ?_) (a' := ?_) QB56_16 rfl rfl (Qm HT_.out (by kernel_rfl)) (fun _ _ _ h => h) (Or.inl ⟨by rfl, ?_⟩) ?_ ?_
    rotate_left
    ·
     intro w'
     go_simp
     with_reducible rfl
    rotate_left
    ·
     simp only [Act.put, List.setIfInBounds_toArray, List.set_cons_zero, List.set_cons_succ, i64_w, i32_w]
     rfl
    refine pure_ (i := 20) (N := some 49) (v := ?_) (a' := ?_) QB56_17 rfl rfl (Qm HT_.out (by kernel_rfl)) (fun _ _ _ h => h) (Or.inl ⟨by rfl, ?_⟩) ?_ ?_
    rotate_left
    ·
     intro w'
     go_simp
     with_reducible rfl
    rotate_left
    ·
     simp only [Act.put, List.setIfInBounds_toArray, List.set_cons_zero, List.set_cons_succ, i64_w, i32_w]
     rfl
    refine pure_ (i := 21) (N := some 50) (v := undef) (a' := ?_) QB56_18 rfl rfl (Qm HT_.out (by kernel_rfl)) (fun _ _ _ h => h) (Or.inr ⟨by rfl, rfl⟩) ?_ ?_
    rotate_left
    ·
     simp only [Act.put, List.setIfInBounds_toArray, List.set_cons_zero, List.set_cons_succ, i64_w, i32_w]
     rfl
    refine pure_ (i := 22) (N := some 51) (v := undef) (a' := ?_) QB56_19 rfl rfl (Qm HT_.out (by kernel_rfl)) (fun _ _ _ h => h) (Or.inr ⟨by rfl, rfl⟩) ?_ ?_
    rotate_left
    ·
     simp only [Act.put, List.setIfInBounds_toArray, List.set_cons_zero, List.set_cons_succ, i64_w, i32_w]
     rfl
    refine pure_ (i := 23) (N := some 52) (v := undef) (a' := ?_) QB56_20 rfl rfl (Qm HT_.out (by kernel_rfl)) (fun _ _ _ h => h) (Or.inr ⟨by rfl, rfl⟩) ?_ ?_
    rotate_left
    ·
     simp only [Act.put, List.setIfInBounds_toArray, List.set_cons_zero, List.set_cons_succ, i64_w, i32_w]
     rfl
    refine pure_ (i := 24) (N := some 53) (v := undef) (a' := ?_) QB56_21 rfl rfl (Qm HT_.out (by kernel_rfl)) (fun _ _ _ h => h) (Or.inr ⟨by rfl, rfl⟩) ?_ ?_
    rotate_left
    ·
     simp only [Act.put, List.setIfInBounds_toArray, List.set_cons_zero, List.set_cons_succ, i64_w, i32_w]
     rfl
    refine pure_ (i := 25) (N := some 54) (v := undef) (a' := ?_) QB56_22 rfl rfl (Qm HT_.out (by kernel_rfl)) (fun _ _ _ h => h) (Or.inr ⟨by rfl, rfl⟩) ?_ ?_
    rotate_left
    ·
     simp only [Act.put, List.setIfInBounds_toArray, List.set_cons_zero, List.set_cons_succ, i64_w, i32_w]
     rfl
    refine pure_ (i := 26) (N := some 55) (v := ?_) (a' := ?_) QB56_23 rfl rfl (Qm HT_.out (by kernel_rfl)) (fun _ _ _ h => h) (Or.inl ⟨by rfl, ?_⟩) ?_ ?_
    rotate_left
    ·
     intro w'
     go_simp
     with_reducible rfl
    rotate_left
    ·
     simp only [Act.put, List.setIfInBounds_toArray, List.set_cons_zero, List.set_cons_succ, i64_w, i32_w]
     rfl
    refine pure_ (i := 27) (N := some 56) (v := ?_) (a' := ?_) QB56_24 rfl rfl (Qm HT_.out (by kernel_rfl)) (fun _ _ _ h => h) (Or.inl ⟨by rfl, ?_⟩) ?_ ?_
    rotate_left
    ·
     intro w'
     go_simp
     with_reducible rfl
    rotate_left
    ·
     simp only [Act.put, List.setIfInBounds_toArray, List.set_cons_zero, List.set_cons_succ, i64_w, i32_w]
     rfl
    refine pure_ (i := 28) (N := some 57) (v := undef) (a' := ?_) QB56_25 rfl rfl (Qm HT_.out (by kernel_rfl)) (fun _ _ _ h => h) (Or.inr ⟨by rfl, rfl⟩) ?_ ?_
    rotate_left
    ·
     simp only [Act.put, List.setIfInBounds_toArray, List.set_cons_zero, List.set_cons_succ, i64_w, i32_w]
     rfl
    refine pure_ (i := 29) (N := some 58) (v := undef) (a' := ?_) QB56_26 rfl rfl (Qm HT_.out (by kernel_rfl)) (fun _ _ _ h => h) (Or.inr ⟨by rfl, rfl⟩) ?_ ?_
    rotate_left
    ·
     simp only [Act.put, List.setIfInBounds_toArray, List.set_cons_zero, List.set_cons_succ, i64_w, i32_w]
     rfl
    refine pure_ (i := 30) (N := some 59) (v := undef) (a' := ?_) QB56_27 rfl rfl (Qm HT_.out (by kernel_rfl)) (fun _ _ _ h => h) (Or.inr ⟨by rfl, rfl⟩) ?_ ?_
    rotate_left
    ·
     simp only [Act.put, List.setIfInBounds_toArray, List.set_cons_zero, List.set_cons_succ, i64_w, i32_w]
     rfl
    refine pure_ (i := 31) (N := some 60) (v := undef) (a' := ?_) QB56_28 rfl rfl (Qm HT_.out (by kernel_rfl)) (fun _ _ _ h => h) (Or.inr ⟨by rfl, rfl⟩) ?_ ?_
    rotate_left
    ·
     simp only [Act.put, List.setIfInBounds_toArray, List.set_cons_zero, List.set_cons_succ, i64_w, i32_w]
     rfl
    refine pure_ (i := 32) (N := some 61) (v := undef) (a' := ?_) QB56_29 rfl rfl (Qm HT_.out (by kernel_rfl)) (fun _ _ _ h => h) (Or.inr ⟨by rfl, rfl⟩) ?_ ?_
    rotate_left
    ·
     simp only [Act.put, List.setIfInBounds_toArray, List.set_cons_zero, List.set_cons_succ, i64_w, i32_w]
     rfl
    refine pure_ (i := 33) (N := some 62) (v := ?_) (a' := ?_) QB56_30 rfl rfl (Qm HT_.out (by kernel_rfl)) (fun _ _ _ h => h) (Or.inl ⟨by rfl, ?_⟩) ?_ ?_
    rotate_left
    ·
     intro w'
     go_simp
     with_reducible rfl
    rotate_left
    ·
     simp only [Act.put, List.setIfInBounds_toArray, List.set_cons_zero, List.set_cons_succ, i64_w, i32_w]
     rfl
    refine pure_ (i := 34) (N := some 0) (v := ?_) (a' := ?_) QB56_31 rfl rfl (Qm HT_.out (by kernel_rfl)) (fun _ _ _ h => h) (Or.inl ⟨by rfl, ?_⟩) ?_ ?_
    rotate_left
    ·
     intro w'
     go_simp
     with_reducible rfl
    rotate_left
    ·
     simp only [Act.put, List.setIfInBounds_toArray, List.set_cons_zero, List.set_cons_succ, i64_w, i32_w]
     rfl
    refine done_ (done_of HT_.out (by kernel_rfl)) ?_
    try go_wp2
    go_ret
    exact ⟨by first | rfl | (simp [Qt, Qs] <;> rfl) | (simp [*, Qt, Qs] <;> rfl), by with_reducible repeat (first | exact HB.out | apply Qj | apply Ql | apply Qk | refine Qi ?_ GE188.out)⟩
   rw [if_pos c33] at H
   have c33b0 : (t199.toList == ([101, 102] : List UInt8)) = true := beq_iff_eq.mpr c33
   have c33b1 : (t199.toList != ([101, 102] : List UInt8)) = false := bne_eq_false_iff_eq.mpr c33
   clear c33
   by_cases c34 : 4 < (t189.length : Int)
   rotate_left
   ·
    rw [if_neg c34] at H
    exact absurd H (by simp)
   rw [if_pos c34] at H
   have c34b0 : decide (4 < (t189.length : Int)) = true := decide_eq_true c34
   have c34b1 : decide (4 < t189.length) = true := decide_eq_true (by omega)
   clear c34
   replace H := Option.bind_eq_some_iff.mp H
   obtain ⟨t201, A350, H⟩ := H
   replace H : (if t201.toList = ([110, 101] : List UInt8) then ((flow_Rule.f kj3 y176 y185 0).bind fun bt202 => (if (bt202.1 == ((Qg t189 4).f0) && (bt202.2.1 == ((Qg t189 4).f1) && (bt202.2.2 == ((Qg t189 4).f2)))) = true then (if 0 < (t195.length : Int) then ((flow_Text.f kj3 ((Qg t195 0).f0) ((Qg t195 0).f1) ((Qg t195 0).f2)).bind fun t207 => (if t207.toList = ([101, 102] : List UInt8) then (if 1 < (t195.length : Int) then ((flow_Text.f kj3 ((Qg t195 1).f0) ((Qg t195 1).f1) ((Qg t195 1).f2)).bind fun t209 => (some (t209.toList == ([45] : List UInt8)))) else (none)) else (some false))) else (none)) else (some false))) else (some false)) = some r := H
   have A35 := Qa.mk A350
   clear A350
   by_cases c36 : t201.toList = ([110, 101] : List UInt8)
   rotate_left
   ·
    rw [if_neg c36] at H
    have c36b0 : (t201.toList == ([110, 101] : List UInt8)) = false := beq_eq_false_iff_ne.mpr c36
    have c36b1 : (t201.toList != ([110, 101] : List UInt8)) = true := bne_iff_ne.mpr c36
    obtain rfl := Option.some.inj H
    try go_wp2
    have n0_ := Qa.mk (Kd.Qy HO_2.out)
    have n1_ := Qa.mk (Kd.Qy HO_3.out)
    have n2_ := Qa.mk (Kd.Qy HO_189000.out)
    have n3_ := Qa.mk (Kd.N_drew HO_189001.out)
    have n4_ := Qa.mk (Qc BK188.out)
    have n5_ := Qa.mk (Qk HB.out)
    clear HO_2
    clear HO_3
    clear HO_189000
    clear HO_189001
    clear BK188
    clear HB
    have HO_2 := n0_
    have HO_3 := n1_
    have HO_189000 := n2_
    have HO_189001 := n3_
    have BK188 := n4_
    have HB := n5_
    clear n0_ n1_ n2_ n3_ n4_ n5_
    obtain ⟨Ao65, co65, eo65⟩ := Kd.R_slice HO_2.out
    (first | subst eo65 | (injection eo65 with f1_ f2_ f3_; have f4_ := f1_.symm; have f5_ := f3_.symm; clear f1_ f2_ f3_; subst f4_; subst f5_))
    have p198 : 0 ≤ (2 : Int) := (by omega)
    have q198 : 2 < (t189.length : Int) := of_decide_eq_true (by assumption)
    obtain ⟨ad198, e198, hx198_0, hx198_1, hx198_2⟩ := at_T36 (Kd.R_reads' HO_2.out).2.2 2 p198 q198
    cases e198
    (try simp only [show (2 : Int).toNat = 2 from rfl, Nat.reduceMul, Nat.reduceEqDiff, Go.Addr.add, ↓reduceIte] at hx198_0)
    (try simp only [show (2 : Int).toNat = 2 from rfl, Nat.reduceMul, Nat.reduceEqDiff, Go.Addr.add, ↓reduceIte] at hx198_1)
    (try simp only [show (2 : Int).toNat = 2 from rfl, Nat.reduceMul, Nat.reduceEqDiff, Go.Addr.add, ↓reduceIte] at hx198_2)
    have qi198 : (2 < t189.length) = True := eq_true (by omega)
    (try rw [show ((2 : Int)).toNat = 2 from rfl] at hx198_0)
    (try rw [show 2 * 3 = 6 from rfl] at hx198_0)
    (try rw [show ((2 : Int)).toNat = 2 from rfl] at hx198_1)
    (try rw [show 2 * 3 = 6 from rfl] at hx198_1)
    (try rw [show ((2 : Int)).toNat = 2 from rfl] at hx198_2)
    (try rw [show 2 * 3 = 6 from rfl] at hx198_2)
    replace p198 := eq_true p198
    replace q198 := eq_true q198
    have p200 : 0 ≤ (4 : Int) := (by omega)
    have q200 : 4 < (t189.length : Int) := of_decide_eq_true (by assumption)
    obtain ⟨ad200, e200, hx200_0, hx200_1, hx200_2⟩ := at_T36 (Kd.R_reads' HO_2.out).2.2 4 p200 q200
    obtain rfl : ad198 = ad200 := (by injection e200)
    (try simp only [show (4 : Int).toNat = 4 from rfl, Nat.reduceMul, Nat.reduceEqDiff, Go.Addr.add, ↓reduceIte] at hx200_0)
    (try simp only [show (4 : Int).toNat = 4 from rfl, Nat.reduceMul, Nat.reduceEqDiff, Go.Addr.add, ↓reduceIte] at hx200_1)
    (try simp only [show (4 : Int).toNat = 4 from rfl, Nat.reduceMul, Nat.reduceEqDiff, Go.Addr.add, ↓reduceIte] at hx200_2)
    have qi200 : (4 < t189.length) = True := eq_true (by omega)
    (try rw [show ((4 : Int)).toNat = 4 from rfl] at hx200_0)
    (try rw [show 4 * 3 = 12 from rfl] at hx200_0)
    (try rw [show ((4 : Int)).toNat = 4 from rfl] at hx200_1)
    (try rw [show 4 * 3 = 12 from rfl] at hx200_1)
    (try rw [show ((4 : Int)).toNat = 4 from rfl] at hx200_2)
    (try rw [show 4 * 3 = 12 from rfl] at hx200_2)
    replace p200 := eq_true p200
    replace q200 := eq_true q200
    refine start_ (n := 35) (S := fun w' => w'.cell? ⟨ad198.block, ad198.off + 6, none⟩ = some (.bool ((Qg t189 2).f0)) ∧ w'.cell? ⟨ad198.block, ad198.off + 6 + 1, none⟩ = some (.bool ((Qg t189 2).f1)) ∧ w'.cell? ⟨ad198.block, ad198.off + 6 + 2, none⟩ = some (.bool ((Qg t189 2).f2)) ∧ w'.cell? ⟨ad198.block, ad198.off + 12, none⟩ = some (.bool ((Qg t189 4).f0)) ∧ w'.cell? ⟨ad198.block, ad198.off + 12 + 1, none⟩ = some (.bool ((Qg t189 4).f1)) ∧ w'.cell? ⟨ad198.block, ad198.off + 12 + 2, none⟩ = some (.bool ((Qg t189 4).f2))) (ds := []) QB56_0 (by kernel_rfl) rfl rfl ⟨hx198_0, hx198_1, hx198_2, hx200_0, hx200_1, hx200_2⟩ (fun hHeld => ?_); refine with_tabW Qi1.tab6 Qi1.bits6 (fun HT_ HW_ => ?_)
    generalize wc.drew = w64 at HO_2 HO_3 HO_189000 HO_189001 BK188 HB hx198_0 hx198_1 hx198_2 hx200_0 hx200_1 hx200_2 hHeld ⊢
    refine pure_ (i := 0) (N := some 29) (v := ?_) (a' := ?_) QB56_1 rfl rfl (Qm HT_.out (by kernel_rfl)) (fun _ _ _ h => h) (Or.inl ⟨by rfl, ?_⟩) ?_ ?_
    rotate_left
    ·
     intro w'
     go_simp
     with_reducible rfl
    rotate_left
    ·
     simp only [Act.put, List.setIfInBounds_toArray, List.set_cons_zero, List.set_cons_succ, i64_w, i32_w]
     rfl
    refine pure_ (i := 1) (N := some 30) (v := ?_) (a' := ?_) QB56_2 rfl rfl (Qm HT_.out (by kernel_rfl)) (fun _ _ _ h => h) (Or.inl ⟨by rfl, ?_⟩) ?_ ?_
    rotate_left
    ·
     intro w'
     go_simp
     with_reducible rfl
    rotate_left
    ·
     simp only [Act.put, List.setIfInBounds_toArray, List.set_cons_zero, List.set_cons_succ, i64_w, i32_w]
     rfl
    refine take_ (i := 2) (N := some 31) (v := ?_) (a' := ?_) QB56_3 rfl rfl (Qk1 HT_.out HW_.out (by kernel_rfl)) (fun _ _ _ h => h) (Or.inl ⟨by rfl, ?_⟩) hHeld ?_ ?_
    rotate_left
    ·
     rintro w' ⟨s0, s1, s2, s3, s4, s5⟩
     go_simp
     with_reducible rfl
    rotate_left
    ·
     simp only [Act.put, List.setIfInBounds_toArray, List.set_cons_zero, List.set_cons_succ, i64_w, i32_w]
     rfl
    refine one_ (i := 3) (N := some 32) QB56_4 rfl rfl (one_of HT_.out (by kernel_rfl)) (by decide) (fun K hK => ?_)
    refine goes_ Try.func19 (by kernel_rfl) rfl #[.agg #[.bool ((Qg t189 2).f0), .bool ((Qg t189 2).f1), .bool ((Qg t189 2).f2)]] (by rfl) rfl rfl (by (try simp only [List.map_toArray, List.map_cons, List.map_nil]); first | done | rfl | (simp only [List.length_drop, List.length_take]; rfl)) ?_
    with_reducible refine (flow_Text.calls kj3 ((Qg t189 2).f0) ((Qg t189 2).f1) ((Qg t189 2).f2) t199 _ A32.out).mono ?_
    rintro e w66 ⟨rfl, hb⟩
    have HS0_ := (hb.cell (World.block_lt_of_cell? _ _ (hHeld.1))).trans (hHeld.1)
    have HS1_ := (hb.cell (World.block_lt_of_cell? _ _ (hHeld.2.1))).trans (hHeld.2.1)
    have HS2_ := (hb.cell (World.block_lt_of_cell? _ _ (hHeld.2.2.1))).trans (hHeld.2.2.1)
    have HS3_ := (hb.cell (World.block_lt_of_cell? _ _ (hHeld.2.2.2.1))).trans (hHeld.2.2.2.1)
    have HS4_ := (hb.cell (World.block_lt_of_cell? _ _ (hHeld.2.2.2.2.1))).trans (hHeld.2.2.2.2.1)
    have HS5_ := (hb.cell (World.block_lt_of_cell? _ _ (hHeld.2.2.2.2.2))).trans (hHeld.2.2.2.2.2)
    refine ⟨_, rfl, ?_⟩
    have n0_ := Qa.mk (Kd.Qh1 (by (with_reducible repeat (first | apply Kd.Qz | apply Kd.Qa1 | apply Kd.Qy)); exact HO_2.out) hb)
    have n1_ := Qa.mk (Kd.Qh1 (by (with_reducible repeat (first | apply Kd.Qz | apply Kd.Qa1 | apply Kd.Qy)); exact HO_3.out) hb)
    have n2_ := Qa.mk (Kd.Qh1 (by (with_reducible repeat (first | apply Kd.Qz | apply Kd.Qa1 | apply Kd.Qy)); exact HO_189000.out) hb)
    have n3_ := Qa.mk (Kd.N_below (by (with_reducible repeat (first | apply Kd.N_alloc | apply Kd.N_drewN | apply Kd.N_drew)); exact HO_189001.out) hb)
    have n4_ := Qa.mk (Qo (g := gb188) (o := .cells #[.slice Ao16 y176.length co16, .slice Ao15 y185.length co15] 25 (0, 0)) (by (with_reducible repeat (first | refine Qe ?_ _ | refine Qc ?_ | refine Qd ?_ _)); exact BK188.out) hb)
    have n5_ := Qa.mk (Qr (by with_reducible repeat (first | exact HB.out | apply Qj | apply Ql | apply Qk | refine Qi ?_ GE188.out)) hb)
    clear HO_2
    clear HO_3
    clear HO_189000
    clear HO_189001
    clear BK188
    clear HB
    have HO_2 := n0_
    have HO_3 := n1_
    have HO_189000 := n2_
    have HO_189001 := n3_
    have BK188 := n4_
    have HB := n5_
    clear n0_ n1_ n2_ n3_ n4_ n5_
    (try clear hb; try clear hb2; try clear hk; try clear hi)
    refine hK.out _ _ ⟨HS0_, HS1_, HS2_, HS3_, HS4_, HS5_⟩ (fun hHeld => ?_)
    clear hK K
    refine norm_ (a' := ?_) ?_ ?_
    rotate_left
    ·
     show Act.put _ (some 32) _ = _
     simp only [Act.put, List.setIfInBounds_toArray, List.set_cons_zero, List.set_cons_succ, i64_w, i32_w]
     rfl
    refine pure_ (i := 4) (N := some 33) (v := ?_) (a' := ?_) QB56_5 rfl rfl (Qm HT_.out (by kernel_rfl)) (fun _ _ _ h => h) (Or.inl ⟨by rfl, ?_⟩) ?_ ?_
    rotate_left
    ·
     intro w'
     go_simp
     with_reducible rfl
    rotate_left
    ·
     simp only [Act.put, List.setIfInBounds_toArray, List.set_cons_zero, List.set_cons_succ, i64_w, i32_w]
     rfl
    refine pure_ (i := 5) (N := some 34) (v := ?_) (a' := ?_) QB56_6 rfl rfl (Qm HT_.out (by kernel_rfl)) (fun _ _ _ h => h) (Or.inl ⟨by rfl, ?_⟩) ?_ ?_
    rotate_left
    ·
     intro w'
     go_simp
     with_reducible rfl
    rotate_left
    ·
     simp only [Act.put, List.setIfInBounds_toArray, List.set_cons_zero, List.set_cons_succ, i64_w, i32_w]
     rfl
    refine pure_ (i := 6) (N := some 35) (v := ?_) (a' := ?_) QB56_7 rfl rfl (Qm HT_.out (by kernel_rfl)) (fun _ _ _ h => h) (Or.inl ⟨by rfl, ?_⟩) ?_ ?_
    rotate_left
    ·
     intro w'
     go_simp
     with_reducible rfl
    rotate_left
    ·
     simp only [Act.put, List.setIfInBounds_toArray, List.set_cons_zero, List.set_cons_succ, i64_w, i32_w]
     rfl
    refine pure_ (i := 7) (N := some 36) (v := ?_) (a' := ?_) QB56_8 rfl rfl (Qm HT_.out (by kernel_rfl)) (fun _ _ _ h => h) (Or.inl ⟨by rfl, ?_⟩) ?_ ?_
    rotate_left
    ·
     intro w'
     go_simp
     with_reducible rfl
    rotate_left
    ·
     simp only [Act.put, List.setIfInBounds_toArray, List.set_cons_zero, List.set_cons_succ, i64_w, i32_w]
     rfl
    refine take_ (i := 8) (N := some 37) (v := ?_) (a' := ?_) QB56_9 rfl rfl (Qk1 HT_.out HW_.out (by kernel_rfl)) (fun _ _ _ h => h) (Or.inl ⟨by rfl, ?_⟩) hHeld ?_ ?_
    rotate_left
    ·
     rintro w' ⟨s0, s1, s2, s3, s4, s5⟩
     go_simp
     with_reducible rfl
    rotate_left
    ·
     simp only [Act.put, List.setIfInBounds_toArray, List.set_cons_zero, List.set_cons_succ, i64_w, i32_w]
     rfl
    refine one_ (i := 9) (N := some 38) QB56_10 rfl rfl (one_of HT_.out (by kernel_rfl)) (by decide) (fun K hK => ?_)
    refine goes_ Try.func19 (by kernel_rfl) rfl #[.agg #[.bool ((Qg t189 4).f0), .bool ((Qg t189 4).f1), .bool ((Qg t189 4).f2)]] (by rfl) rfl rfl (by (try simp only [List.map_toArray, List.map_cons, List.map_nil]); first | done | rfl | (simp only [List.length_drop, List.length_take]; rfl)) ?_
    with_reducible refine (flow_Text.calls kj3 ((Qg t189 4).f0) ((Qg t189 4).f1) ((Qg t189 4).f2) t201 _ A35.out).mono ?_
    rintro e w67 ⟨rfl, hb⟩
    have HS0_ := (hb.cell (World.block_lt_of_cell? _ _ (hHeld.1))).trans (hHeld.1)
    have HS1_ := (hb.cell (World.block_lt_of_cell? _ _ (hHeld.2.1))).trans (hHeld.2.1)
    have HS2_ := (hb.cell (World.block_lt_of_cell? _ _ (hHeld.2.2.1))).trans (hHeld.2.2.1)
    have HS3_ := (hb.cell (World.block_lt_of_cell? _ _ (hHeld.2.2.2.1))).trans (hHeld.2.2.2.1)
    have HS4_ := (hb.cell (World.block_lt_of_cell? _ _ (hHeld.2.2.2.2.1))).trans (hHeld.2.2.2.2.1)
    have HS5_ := (hb.cell (World.block_lt_of_cell? _ _ (hHeld.2.2.2.2.2))).trans (hHeld.2.2.2.2.2)
    refine ⟨_, rfl, ?_⟩
    have n0_ := Qa.mk (Kd.Qh1 (by (with_reducible repeat (first | apply Kd.Qz | apply Kd.Qa1 | apply Kd.Qy)); exact HO_2.out) hb)
    have n1_ := Qa.mk (Kd.Qh1 (by (with_reducible repeat (first | apply Kd.Qz | apply Kd.Qa1 | apply Kd.Qy)); exact HO_3.out) hb)
    have n2_ := Qa.mk (Kd.Qh1 (by (with_reducible repeat (first | apply Kd.Qz | apply Kd.Qa1 | apply Kd.Qy)); exact HO_189000.out) hb)
    have n3_ := Qa.mk (Kd.N_below (by (with_reducible repeat (first | apply Kd.N_alloc | apply Kd.N_drewN | apply Kd.N_drew)); exact HO_189001.out) hb)
    have n4_ := Qa.mk (Qo (g := gb188) (o := .cells #[.slice Ao16 y176.length co16, .slice Ao15 y185.length co15] 25 (0, 0)) (by (with_reducible repeat (first | refine Qe ?_ _ | refine Qc ?_ | refine Qd ?_ _)); exact BK188.out) hb)
    have n5_ := Qa.mk (Qr (by with_reducible repeat (first | exact HB.out | apply Qj | apply Ql | apply Qk | refine Qi ?_ GE188.out)) hb)
    clear HO_2
    clear HO_3
    clear HO_189000
    clear HO_189001
    clear BK188
    clear HB
    have HO_2 := n0_
    have HO_3 := n1_
    have HO_189000 := n2_
    have HO_189001 := n3_
    have BK188 := n4_
    have HB := n5_
    clear n0_ n1_ n2_ n3_ n4_ n5_
    (try clear hb; try clear hb2; try clear hk; try clear hi)
    refine hK.out _ _ ⟨HS0_, HS1_, HS2_, HS3_, HS4_, HS5_⟩ (fun hHeld => ?_)
    clear hK K
    refine norm_ (a' := ?_) ?_ ?_
    rotate_left
    ·
     show Act.put _ (some 38) _ = _
     simp only [Act.put, List.setIfInBounds_toArray, List.set_cons_zero, List.set_cons_succ, i64_w, i32_w]
     rfl
    refine pure_ (i := 10) (N := some 39) (v := ?_) (a' := ?_) QB56_11 rfl rfl (Qm HT_.out (by kernel_rfl)) (fun _ _ _ h => h) (Or.inl ⟨by rfl, ?_⟩) ?_ ?_
    rotate_left
    ·
     intro w'
     go_simp
     with_reducible rfl
    rotate_left
    ·
     simp only [Act.put, List.setIfInBounds_toArray, List.set_cons_zero, List.set_cons_succ, i64_w, i32_w]
     rfl
    refine pure_ (i := 11) (N := some 40) (v := ?_) (a' := ?_) QB56_12 rfl rfl (Qm HT_.out (by kernel_rfl)) (fun _ _ _ h => h) (Or.inl ⟨by rfl, ?_⟩) ?_ ?_
    rotate_left
    ·
     intro w'
     go_simp
     with_reducible rfl
    rotate_left
    ·
     simp only [Act.put, List.setIfInBounds_toArray, List.set_cons_zero, List.set_cons_succ, i64_w, i32_w]
     rfl
    refine pure_ (i := 12) (N := some 41) (v := ?_) (a' := ?_) QB56_13 rfl rfl (Qm HT_.out (by kernel_rfl)) (fun _ _ _ h => h) (Or.inl ⟨by rfl, ?_⟩) ?_ ?_
    rotate_left
    ·
     intro w'
     go_simp
     with_reducible rfl
    rotate_left
    ·
     simp only [Act.put, List.setIfInBounds_toArray, List.set_cons_zero, List.set_cons_succ, i64_w, i32_w]
     rfl
    refine pure_ (i := 13) (N := some 42) (v := undef) (a' := ?_) QB56_36 rfl rfl (Qm HT_.out (by kernel_rfl)) (fun _ _ _ h => h) (Or.inr ⟨by rfl, rfl⟩) ?_ ?_
    rotate_left
    ·
     simp only [Act.put, List.setIfInBounds_toArray, List.set_cons_zero, List.set_cons_succ, i64_w, i32_w]
     rfl
    refine pure_ (i := 14) (N := some 43) (v := undef) (a' := ?_) QB56_37 rfl rfl (Qm HT_.out (by kernel_rfl)) (fun _ _ _ h => h) (Or.inr ⟨by rfl, rfl⟩) ?_ ?_
    rotate_left
    ·
     simp only [Act.put, List.setIfInBounds_toArray, List.set_cons_zero, List.set_cons_succ, i64_w, i32_w]
     rfl
    refine pure_ (i := 15) (N := some 44) (v := undef) (a' := ?_) QB56_38 rfl rfl (Qm HT_.out (by kernel_rfl)) (fun _ _ _ h => h) (Or.inr ⟨by rfl, rfl⟩) ?_ ?_
    rotate_left
    ·
     simp only [Act.put, List.setIfInBounds_toArray, List.set_cons_zero, List.set_cons_succ, i64_w, i32_w]
     rfl
    refine pure_ (i := 16) (N := some 45) (v := undef) (a' := ?_) QB56_39 rfl rfl (Qm HT_.out (by kernel_rfl)) (fun _ _ _ h => h) (Or.inr ⟨by rfl, rfl⟩) ?_ ?_
    rotate_left
    ·
     simp only [Act.put, List.setIfInBounds_toArray, List.set_cons_zero, List.set_cons_succ, i64_w, i32_w]
     rfl
    refine pure_ (i := 17) (N := some 46) (v := undef) (a' := ?_) QB56_14 rfl rfl (Qm HT_.out (by kernel_rfl)) (fun _ _ _ h => h) (Or.inr ⟨by rfl, rfl⟩) ?_ ?_
    rotate_left
    ·
     simp only [Act.put, List.setIfInBounds_toArray, List.set_cons_zero, List.set_cons_succ, i64_w, i32_w]
     rfl
    refine pure_ (i := 18) (N := some 47) (v := undef) (a' := ?_) QB56_15 rfl rfl (Qm HT_.out (by kernel_rfl)) (fun _ _ _ h => h) (Or.inr ⟨by rfl, rfl⟩) ?_ ?_
    rotate_left
    ·
     simp only [Act.put, List.setIfInBounds_toArray, List.set_cons_zero, List.set_cons_succ, i64_w, i32_w]
     rfl
    refine pure_ (i := 19) (N := some 48) (v := ?_) (a' := ?_) QB56_16 rfl rfl (Qm HT_.out (by kernel_rfl)) (fun _ _ _ h => h) (Or.inl ⟨by rfl, ?_⟩) ?_ ?_
    rotate_left
    ·
     intro w'
     go_simp
     with_reducible rfl
    rotate_left
    ·
     simp only [Act.put, List.setIfInBounds_toArray, List.set_cons_zero, List.set_cons_succ, i64_w, i32_w]
     rfl
    refine pure_ (i := 20) (N := some 49) (v := ?_) (a' := ?_) QB56_17 rfl rfl (Qm HT_.out (by kernel_rfl)) (fun _ _ _ h => h) (Or.inl ⟨by rfl, ?_⟩) ?_ ?_
    rotate_left
    ·
     intro w'
     go_simp
     with_reducible rfl
    rotate_left
    ·
     simp only [Act.put, List.setIfInBounds_toArray, List.set_cons_zero, List.set_cons_succ, i64_w, i32_w]
     rfl
    refine pure_ (i := 21) (N := some 50) (v := undef) (a' := ?_) QB56_18 rfl rfl (Qm HT_.out (by kernel_rfl)) (fun _ _ _ h => h) (Or.inr ⟨by rfl, rfl⟩) ?_ ?_
    rotate_left
    ·
     simp only [Act.put, List.setIfInBounds_toArray, List.set_cons_zero, List.set_cons_succ, i64_w, i32_w]
     rfl
    refine pure_ (i := 22) (N := some 51) (v := undef) (a' := ?_) QB56_19 rfl rfl (Qm HT_.out (by kernel_rfl)) (fun _ _ _ h => h) (Or.inr ⟨by rfl, rfl⟩) ?_ ?_
    rotate_left
    ·
     simp only [Act.put, List.setIfInBounds_toArray, List.set_cons_zero, List.set_cons_succ, i64_w, i32_w]
     rfl
    refine pure_ (i := 23) (N := some 52) (v := undef) (a' := ?_) QB56_20 rfl rfl (Qm HT_.out (by kernel_rfl)) (fun _ _ _ h => h) (Or.inr ⟨by rfl, rfl⟩) ?_ ?_
    rotate_left
    ·
     simp only [Act.put, List.setIfInBounds_toArray, List.set_cons_zero, List.set_cons_succ, i64_w, i32_w]
     rfl
    refine pure_ (i := 24) (N := some 53) (v := undef) (a' := ?_) QB56_21 rfl rfl (Qm HT_.out (by kernel_rfl)) (fun _ _ _ h => h) (Or.inr ⟨by rfl, rfl⟩) ?_ ?_
    rotate_left
    ·
     simp only [Act.put, List.setIfInBounds_toArray, List.set_cons_zero, List.set_cons_succ, i64_w, i32_w]
     rfl
    refine pure_ (i := 25) (N := some 54) (v := undef) (a' := ?_) QB56_22 rfl rfl (Qm HT_.out (by kernel_rfl)) (fun _ _ _ h => h) (Or.inr ⟨by rfl, rfl⟩) ?_ ?_
    rotate_left
    ·
     simp only [Act.put, List.setIfInBounds_toArray, List.set_cons_zero, List.set_cons_succ, i64_w, i32_w]
     rfl
    refine pure_ (i := 26) (N := some 55) (v := ?_) (a' := ?_) QB56_23 rfl rfl (Qm HT_.out (by kernel_rfl)) (fun _ _ _ h => h) (Or.inl ⟨by rfl, ?_⟩) ?_ ?_
    rotate_left
    ·
     intro w'
     go_simp
     with_reducible rfl
    rotate_left
    ·
     simp only [Act.put, List.setIfInBounds_toArray, List.set_cons_zero, List.set_cons_succ, i64_w, i32_w]
     rfl
    refine pure_ (i := 27) (N := some 56) (v := ?_) (a' := ?_) QB56_24 rfl rfl (Qm HT_.out (by kernel_rfl)) (fun _ _ _ h => h) (Or.inl ⟨by rfl, ?_⟩) ?_ ?_
    rotate_left
    ·
     intro w'
     go_simp
     with_reducible rfl
    rotate_left
    ·
     simp only [Act.put, List.setIfInBounds_toArray, List.set_cons_zero, List.set_cons_succ, i64_w, i32_w]
     rfl
    refine pure_ (i := 28) (N := some 57) (v := undef) (a' := ?_) QB56_25 rfl rfl (Qm HT_.out (by kernel_rfl)) (fun _ _ _ h => h) (Or.inr ⟨by rfl, rfl⟩) ?_ ?_
    rotate_left
    ·
     simp only [Act.put, List.setIfInBounds_toArray, List.set_cons_zero, List.set_cons_succ, i64_w, i32_w]
     rfl
    refine pure_ (i := 29) (N := some 58) (v := undef) (a' := ?_) QB56_26 rfl rfl (Qm HT_.out (by kernel_rfl)) (fun _ _ _ h => h) (Or.inr ⟨by rfl, rfl⟩) ?_ ?_
    rotate_left
    ·
     simp only [Act.put, List.setIfInBounds_toArray, List.set_cons_zero, List.set_cons_succ, i64_w, i32_w]
     rfl
    refine pure_ (i := 30) (N := some 59) (v := undef) (a' := ?_) QB56_27 rfl rfl (Qm HT_.out (by kernel_rfl)) (fun _ _ _ h => h) (Or.inr ⟨by rfl, rfl⟩) ?_ ?_
    rotate_left
    ·
     simp only [Act.put, List.setIfInBounds_toArray, List.set_cons_zero, List.set_cons_succ, i64_w, i32_w]
     rfl
    refine pure_ (i := 31) (N := some 60) (v := undef) (a' := ?_) QB56_28 rfl rfl (Qm HT_.out (by kernel_rfl)) (fun _ _ _ h => h) (Or.inr ⟨by rfl, rfl⟩) ?_ ?_
    rotate_left
    ·
     simp only [Act.put, List.setIfInBounds_toArray, List.set_cons_zero, List.set_cons_succ, i64_w, i32_w]
     rfl
    refine pure_ (i := 32) (N := some 61) (v := undef) (a' := ?_) QB56_29 rfl rfl (Qm HT_.out (by kernel_rfl)) (fun _ _ _ h => h) (Or.inr ⟨by rfl, rfl⟩) ?_ ?_
    rotate_left
    ·
     simp only [Act.put, List.setIfInBounds_toArray, List.set_cons_zero, List.set_cons_succ, i64_w, i32_w]
     rfl
    refine pure_ (i := 33) (N := some 62) (v := ?_) (a' := ?_) QB56_30 rfl rfl (Qm HT_.out (by kernel_rfl)) (fun _ _ _ h => h) (Or.inl ⟨by rfl, ?_⟩) ?_ ?_
    rotate_left
    ·
     intro w'
     go_simp
     with_reducible rfl
    rotate_left
    ·
     simp only [Act.put, List.setIfInBounds_toArray, List.set_cons_zero, List.set_cons_succ, i64_w, i32_w]
     rfl
    refine pure_ (i := 34) (N := some 0) (v := ?_) (a' := ?_) QB56_31 rfl rfl (Qm HT_.out (by kernel_rfl)) (fun _ _ _ h => h) (Or.inl ⟨by rfl, ?_⟩) ?_ ?_
    rotate_left
    ·
     intro w'
     go_simp
     with_reducible rfl
    rotate_left
    ·
     simp only [Act.put, List.setIfInBounds_toArray, List.set_cons_zero, List.set_cons_succ, i64_w, i32_w]
     rfl
    refine done_ (done_of HT_.out (by kernel_rfl)) ?_
    try go_wp2
    go_ret
    exact ⟨by first | rfl | (simp [Qt, Qs] <;> rfl) | (simp [*, Qt, Qs] <;> rfl), by with_reducible repeat (first | exact HB.out | apply Qj | apply Ql | apply Qk | refine Qi ?_ GE188.out)⟩
   rw [if_pos c36] at H
   have c36b0 : (t201.toList == ([110, 101] : List UInt8)) = true := beq_iff_eq.mpr c36
   have c36b1 : (t201.toList != ([110, 101] : List UInt8)) = false := bne_eq_false_iff_eq.mpr c36
   clear c36
   replace H := Option.bind_eq_some_iff.mp H
   obtain ⟨⟨t202, t203, t204⟩, A370, H⟩ := H
   replace H : (if (t202 == ((Qg t189 4).f0) && (t203 == ((Qg t189 4).f1) && (t204 == ((Qg t189 4).f2)))) = true then (if 0 < (t195.length : Int) then ((flow_Text.f kj3 ((Qg t195 0).f0) ((Qg t195 0).f1) ((Qg t195 0).f2)).bind fun t207 => (if t207.toList = ([101, 102] : List UInt8) then (if 1 < (t195.length : Int) then ((flow_Text.f kj3 ((Qg t195 1).f0) ((Qg t195 1).f1) ((Qg t195 1).f2)).bind fun t209 => (some (t209.toList == ([45] : List UInt8)))) else (none)) else (some false))) else (none)) else (some false)) = some r := H
   have A37 := Qa.mk A370
   clear A370
   by_cases c38 : (t202 == ((Qg t189 4).f0) && (t203 == ((Qg t189 4).f1) && (t204 == ((Qg t189 4).f2)))) = true
   rotate_left
   ·
    rw [if_neg c38] at H
    have c38b0 : (t202 == ((Qg t189 4).f0) && (t203 == ((Qg t189 4).f1) && (t204 == ((Qg t189 4).f2)))) = false := by simpa using c38
    (try (have c38b1 : decide (t202 = ((Qg t189 4).f0) && (t203 == ((Qg t189 4).f1) && (t204 == ((Qg t189 4).f2)))) = false := by simpa using c38))
    (try (have c38b2 : (t202 == ((Qg t189 4).f0) && (t203 == ((Qg t189 4).f1) && (t204 == ((Qg t189 4).f2)))) = false := by simpa using c38))
    (try (have c38b3 : ¬ (t202 = ((Qg t189 4).f0) && (t203 == ((Qg t189 4).f1) && (t204 == ((Qg t189 4).f2)))) := by simpa using c38))
    clear c38
    obtain rfl := Option.some.inj H
    try go_wp2
    have n0_ := Qa.mk (Kd.Qy HO_2.out)
    have n1_ := Qa.mk (Kd.Qy HO_3.out)
    have n2_ := Qa.mk (Kd.Qy HO_189000.out)
    have n3_ := Qa.mk (Kd.N_drew HO_189001.out)
    have n4_ := Qa.mk (Qc BK188.out)
    have n5_ := Qa.mk (Qk HB.out)
    clear HO_2
    clear HO_3
    clear HO_189000
    clear HO_189001
    clear BK188
    clear HB
    have HO_2 := n0_
    have HO_3 := n1_
    have HO_189000 := n2_
    have HO_189001 := n3_
    have BK188 := n4_
    have HB := n5_
    clear n0_ n1_ n2_ n3_ n4_ n5_
    obtain ⟨Ao60, co60, eo60⟩ := Kd.R_slice HO_2.out
    (first | subst eo60 | (injection eo60 with f1_ f2_ f3_; have f4_ := f1_.symm; have f5_ := f3_.symm; clear f1_ f2_ f3_; subst f4_; subst f5_))
    have p198 : 0 ≤ (2 : Int) := (by omega)
    have q198 : 2 < (t189.length : Int) := of_decide_eq_true (by assumption)
    obtain ⟨ad198, e198, hx198_0, hx198_1, hx198_2⟩ := at_T36 (Kd.R_reads' HO_2.out).2.2 2 p198 q198
    cases e198
    (try simp only [show (2 : Int).toNat = 2 from rfl, Nat.reduceMul, Nat.reduceEqDiff, Go.Addr.add, ↓reduceIte] at hx198_0)
    (try simp only [show (2 : Int).toNat = 2 from rfl, Nat.reduceMul, Nat.reduceEqDiff, Go.Addr.add, ↓reduceIte] at hx198_1)
    (try simp only [show (2 : Int).toNat = 2 from rfl, Nat.reduceMul, Nat.reduceEqDiff, Go.Addr.add, ↓reduceIte] at hx198_2)
    have qi198 : (2 < t189.length) = True := eq_true (by omega)
    (try rw [show ((2 : Int)).toNat = 2 from rfl] at hx198_0)
    (try rw [show 2 * 3 = 6 from rfl] at hx198_0)
    (try rw [show ((2 : Int)).toNat = 2 from rfl] at hx198_1)
    (try rw [show 2 * 3 = 6 from rfl] at hx198_1)
    (try rw [show ((2 : Int)).toNat = 2 from rfl] at hx198_2)
    (try rw [show 2 * 3 = 6 from rfl] at hx198_2)
    replace p198 := eq_true p198
    replace q198 := eq_true q198
    have p200 : 0 ≤ (4 : Int) := (by omega)
    have q200 : 4 < (t189.length : Int) := of_decide_eq_true (by assumption)
    obtain ⟨ad200, e200, hx200_0, hx200_1, hx200_2⟩ := at_T36 (Kd.R_reads' HO_2.out).2.2 4 p200 q200
    obtain rfl : ad198 = ad200 := (by injection e200)
    (try simp only [show (4 : Int).toNat = 4 from rfl, Nat.reduceMul, Nat.reduceEqDiff, Go.Addr.add, ↓reduceIte] at hx200_0)
    (try simp only [show (4 : Int).toNat = 4 from rfl, Nat.reduceMul, Nat.reduceEqDiff, Go.Addr.add, ↓reduceIte] at hx200_1)
    (try simp only [show (4 : Int).toNat = 4 from rfl, Nat.reduceMul, Nat.reduceEqDiff, Go.Addr.add, ↓reduceIte] at hx200_2)
    have qi200 : (4 < t189.length) = True := eq_true (by omega)
    (try rw [show ((4 : Int)).toNat = 4 from rfl] at hx200_0)
    (try rw [show 4 * 3 = 12 from rfl] at hx200_0)
    (try rw [show ((4 : Int)).toNat = 4 from rfl] at hx200_1)
    (try rw [show 4 * 3 = 12 from rfl] at hx200_1)
    (try rw [show ((4 : Int)).toNat = 4 from rfl] at hx200_2)
    (try rw [show 4 * 3 = 12 from rfl] at hx200_2)
    replace p200 := eq_true p200
    replace q200 := eq_true q200
    have p205 : 0 ≤ (4 : Int) := (by omega)
    have q205 : 4 < (t189.length : Int) := of_decide_eq_true (by assumption)
    obtain ⟨ad205, e205, hx205_0, hx205_1, hx205_2⟩ := at_T36 (Kd.R_reads' HO_2.out).2.2 4 p205 q205
    obtain rfl : ad198 = ad205 := (by injection e205)
    (try simp only [show (4 : Int).toNat = 4 from rfl, Nat.reduceMul, Nat.reduceEqDiff, Go.Addr.add, ↓reduceIte] at hx205_0)
    (try simp only [show (4 : Int).toNat = 4 from rfl, Nat.reduceMul, Nat.reduceEqDiff, Go.Addr.add, ↓reduceIte] at hx205_1)
    (try simp only [show (4 : Int).toNat = 4 from rfl, Nat.reduceMul, Nat.reduceEqDiff, Go.Addr.add, ↓reduceIte] at hx205_2)
    have qi205 : (4 < t189.length) = True := eq_true (by omega)
    (try rw [show ((4 : Int)).toNat = 4 from rfl] at hx205_0)
    (try rw [show 4 * 3 = 12 from rfl] at hx205_0)
    (try rw [show ((4 : Int)).toNat = 4 from rfl] at hx205_1)
    (try rw [show 4 * 3 = 12 from rfl] at hx205_1)
    (try rw [show ((4 : Int)).toNat = 4 from rfl] at hx205_2)
    (try rw [show 4 * 3 = 12 from rfl] at hx205_2)
    replace p205 := eq_true p205
    replace q205 := eq_true q205
    refine start_ (n := 35) (S := fun w' => w'.cell? ⟨gb188, 0, none⟩ = some (.slice Ao16 y176.length co16) ∧ w'.cell? ⟨gb188, 1, none⟩ = some (.slice Ao15 y185.length co15) ∧ w'.cell? ⟨ad198.block, ad198.off + 6, none⟩ = some (.bool ((Qg t189 2).f0)) ∧ w'.cell? ⟨ad198.block, ad198.off + 6 + 1, none⟩ = some (.bool ((Qg t189 2).f1)) ∧ w'.cell? ⟨ad198.block, ad198.off + 6 + 2, none⟩ = some (.bool ((Qg t189 2).f2)) ∧ w'.cell? ⟨ad198.block, ad198.off + 12, none⟩ = some (.bool ((Qg t189 4).f0)) ∧ w'.cell? ⟨ad198.block, ad198.off + 12 + 1, none⟩ = some (.bool ((Qg t189 4).f1)) ∧ w'.cell? ⟨ad198.block, ad198.off + 12 + 2, none⟩ = some (.bool ((Qg t189 4).f2)) ∧ w'.cell? ⟨ad198.block, ad198.off + 12, none⟩ = some (.bool ((Qg t189 4).f0)) ∧ w'.cell? ⟨ad198.block, ad198.off + 12 + 1, none⟩ = some (.bool ((Qg t189 4).f1)) ∧ w'.cell? ⟨ad198.block, ad198.off + 12 + 2, none⟩ = some (.bool ((Qg t189 4).f2))) (ds := []) QB56_0 (by kernel_rfl) rfl rfl ⟨(Qb BK188.out 0).trans rfl, (Qb BK188.out 1).trans rfl, hx198_0, hx198_1, hx198_2, hx200_0, hx200_1, hx200_2, hx205_0, hx205_1, hx205_2⟩ (fun hHeld => ?_); refine with_tabW Qi1.tab6 Qi1.bits6 (fun HT_ HW_ => ?_)
    generalize wc.drew = w59 at HO_2 HO_3 HO_189000 HO_189001 BK188 HB hx198_0 hx198_1 hx198_2 hx200_0 hx200_1 hx200_2 hx205_0 hx205_1 hx205_2 hHeld ⊢
    refine pure_ (i := 0) (N := some 29) (v := ?_) (a' := ?_) QB56_1 rfl rfl (Qm HT_.out (by kernel_rfl)) (fun _ _ _ h => h) (Or.inl ⟨by rfl, ?_⟩) ?_ ?_
    rotate_left
    ·
     intro w'
     go_simp
     with_reducible rfl
    rotate_left
    ·
     simp only [Act.put, List.setIfInBounds_toArray, List.set_cons_zero, List.set_cons_succ, i64_w, i32_w]
     rfl
    refine pure_ (i := 1) (N := some 30) (v := ?_) (a' := ?_) QB56_2 rfl rfl (Qm HT_.out (by kernel_rfl)) (fun _ _ _ h => h) (Or.inl ⟨by rfl, ?_⟩) ?_ ?_
    rotate_left
    ·
     intro w'
     go_simp
     with_reducible rfl
    rotate_left
    ·
     simp only [Act.put, List.setIfInBounds_toArray, List.set_cons_zero, List.set_cons_succ, i64_w, i32_w]
     rfl
    refine take_ (i := 2) (N := some 31) (v := ?_) (a' := ?_) QB56_3 rfl rfl (Qk1 HT_.out HW_.out (by kernel_rfl)) (fun _ _ _ h => h) (Or.inl ⟨by rfl, ?_⟩) hHeld ?_ ?_
    rotate_left
    ·
     rintro w' ⟨s0, s1, s2, s3, s4, s5, s6, s7, s8, s9, s10⟩
     go_simp
     with_reducible rfl
    rotate_left
    ·
     simp only [Act.put, List.setIfInBounds_toArray, List.set_cons_zero, List.set_cons_succ, i64_w, i32_w]
     rfl
    refine one_ (i := 3) (N := some 32) QB56_4 rfl rfl (one_of HT_.out (by kernel_rfl)) (by decide) (fun K hK => ?_)
    refine goes_ Try.func19 (by kernel_rfl) rfl #[.agg #[.bool ((Qg t189 2).f0), .bool ((Qg t189 2).f1), .bool ((Qg t189 2).f2)]] (by rfl) rfl rfl (by (try simp only [List.map_toArray, List.map_cons, List.map_nil]); first | done | rfl | (simp only [List.length_drop, List.length_take]; rfl)) ?_
    with_reducible refine (flow_Text.calls kj3 ((Qg t189 2).f0) ((Qg t189 2).f1) ((Qg t189 2).f2) t199 _ A32.out).mono ?_
    rintro e w61 ⟨rfl, hb⟩
    have HS2_ := (hb.cell (World.block_lt_of_cell? _ _ (hHeld.2.2.1))).trans (hHeld.2.2.1)
    have HS3_ := (hb.cell (World.block_lt_of_cell? _ _ (hHeld.2.2.2.1))).trans (hHeld.2.2.2.1)
    have HS4_ := (hb.cell (World.block_lt_of_cell? _ _ (hHeld.2.2.2.2.1))).trans (hHeld.2.2.2.2.1)
    have HS5_ := (hb.cell (World.block_lt_of_cell? _ _ (hHeld.2.2.2.2.2.1))).trans (hHeld.2.2.2.2.2.1)
    have HS6_ := (hb.cell (World.block_lt_of_cell? _ _ (hHeld.2.2.2.2.2.2.1))).trans (hHeld.2.2.2.2.2.2.1)
    have HS7_ := (hb.cell (World.block_lt_of_cell? _ _ (hHeld.2.2.2.2.2.2.2.1))).trans (hHeld.2.2.2.2.2.2.2.1)
    have HS8_ := (hb.cell (World.block_lt_of_cell? _ _ (hHeld.2.2.2.2.2.2.2.2.1))).trans (hHeld.2.2.2.2.2.2.2.2.1)
    have HS9_ := (hb.cell (World.block_lt_of_cell? _ _ (hHeld.2.2.2.2.2.2.2.2.2.1))).trans (hHeld.2.2.2.2.2.2.2.2.2.1)
    have HS10_ := (hb.cell (World.block_lt_of_cell? _ _ (hHeld.2.2.2.2.2.2.2.2.2.2))).trans (hHeld.2.2.2.2.2.2.2.2.2.2)
    refine ⟨_, rfl, ?_⟩
    have n0_ := Qa.mk (Kd.Qh1 (by (with_reducible repeat (first | apply Kd.Qz | apply Kd.Qa1 | apply Kd.Qy)); exact HO_2.out) hb)
    have n1_ := Qa.mk (Kd.Qh1 (by (with_reducible repeat (first | apply Kd.Qz | apply Kd.Qa1 | apply Kd.Qy)); exact HO_3.out) hb)
    have n2_ := Qa.mk (Kd.Qh1 (by (with_reducible repeat (first | apply Kd.Qz | apply Kd.Qa1 | apply Kd.Qy)); exact HO_189000.out) hb)
    have n3_ := Qa.mk (Kd.N_below (by (with_reducible repeat (first | apply Kd.N_alloc | apply Kd.N_drewN | apply Kd.N_drew)); exact HO_189001.out) hb)
    have n4_ := Qa.mk (Qo (g := gb188) (o := .cells #[.slice Ao16 y176.length co16, .slice Ao15 y185.length co15] 25 (0, 0)) (by (with_reducible repeat (first | refine Qe ?_ _ | refine Qc ?_ | refine Qd ?_ _)); exact BK188.out) hb)
    have n5_ := Qa.mk (Qr (by with_reducible repeat (first | exact HB.out | apply Qj | apply Ql | apply Qk | refine Qi ?_ GE188.out)) hb)
    clear HO_2
    clear HO_3
    clear HO_189000
    clear HO_189001
    clear BK188
    clear HB
    have HO_2 := n0_
    have HO_3 := n1_
    have HO_189000 := n2_
    have HO_189001 := n3_
    have BK188 := n4_
    have HB := n5_
    clear n0_ n1_ n2_ n3_ n4_ n5_
    (try clear hb; try clear hb2; try clear hk; try clear hi)
    refine hK.out _ _ ⟨(Qb BK188.out 0).trans rfl, (Qb BK188.out 1).trans rfl, HS2_, HS3_, HS4_, HS5_, HS6_, HS7_, HS8_, HS9_, HS10_⟩ (fun hHeld => ?_)
    clear hK K
    refine norm_ (a' := ?_) ?_ ?_
    rotate_left
    ·
     show Act.put _ (some 32) _ = _
     simp only [Act.put, List.setIfInBounds_toArray, List.set_cons_zero, List.set_cons_succ, i64_w, i32_w]
     rfl
    refine pure_ (i := 4) (N := some 33) (v := ?_) (a' := ?_) QB56_5 rfl rfl (Qm HT_.out (by kernel_rfl)) (fun _ _ _ h => h) (Or.inl ⟨by rfl, ?_⟩) ?_ ?_
    rotate_left
    ·
     intro w'
     go_simp
     with_reducible rfl
    rotate_left
    ·
     simp only [Act.put, List.setIfInBounds_toArray, List.set_cons_zero, List.set_cons_succ, i64_w, i32_w]
     rfl
    refine pure_ (i := 5) (N := some 34) (v := ?_) (a' := ?_) QB56_6 rfl rfl (Qm HT_.out (by kernel_rfl)) (fun _ _ _ h => h) (Or.inl ⟨by rfl, ?_⟩) ?_ ?_
    rotate_left
    ·
     intro w'
     go_simp
     with_reducible rfl
    rotate_left
    ·
     simp only [Act.put, List.setIfInBounds_toArray, List.set_cons_zero, List.set_cons_succ, i64_w, i32_w]
     rfl
    refine pure_ (i := 6) (N := some 35) (v := ?_) (a' := ?_) QB56_7 rfl rfl (Qm HT_.out (by kernel_rfl)) (fun _ _ _ h => h) (Or.inl ⟨by rfl, ?_⟩) ?_ ?_
    rotate_left
    ·
     intro w'
     go_simp
     with_reducible rfl
    rotate_left
    ·
     simp only [Act.put, List.setIfInBounds_toArray, List.set_cons_zero, List.set_cons_succ, i64_w, i32_w]
     rfl
    refine pure_ (i := 7) (N := some 36) (v := ?_) (a' := ?_) QB56_8 rfl rfl (Qm HT_.out (by kernel_rfl)) (fun _ _ _ h => h) (Or.inl ⟨by rfl, ?_⟩) ?_ ?_
    rotate_left
    ·
     intro w'
     go_simp
     with_reducible rfl
    rotate_left
    ·
     simp only [Act.put, List.setIfInBounds_toArray, List.set_cons_zero, List.set_cons_succ, i64_w, i32_w]
     rfl
    refine take_ (i := 8) (N := some 37) (v := ?_) (a' := ?_) QB56_9 rfl rfl (Qk1 HT_.out HW_.out (by kernel_rfl)) (fun _ _ _ h => h) (Or.inl ⟨by rfl, ?_⟩) hHeld ?_ ?_
    rotate_left
    ·
     rintro w' ⟨s0, s1, s2, s3, s4, s5, s6, s7, s8, s9, s10⟩
     go_simp
     with_reducible rfl
    rotate_left
    ·
     simp only [Act.put, List.setIfInBounds_toArray, List.set_cons_zero, List.set_cons_succ, i64_w, i32_w]
     rfl
    refine one_ (i := 9) (N := some 38) QB56_10 rfl rfl (one_of HT_.out (by kernel_rfl)) (by decide) (fun K hK => ?_)
    refine goes_ Try.func19 (by kernel_rfl) rfl #[.agg #[.bool ((Qg t189 4).f0), .bool ((Qg t189 4).f1), .bool ((Qg t189 4).f2)]] (by rfl) rfl rfl (by (try simp only [List.map_toArray, List.map_cons, List.map_nil]); first | done | rfl | (simp only [List.length_drop, List.length_take]; rfl)) ?_
    with_reducible refine (flow_Text.calls kj3 ((Qg t189 4).f0) ((Qg t189 4).f1) ((Qg t189 4).f2) t201 _ A35.out).mono ?_
    rintro e w62 ⟨rfl, hb⟩
    have HS2_ := (hb.cell (World.block_lt_of_cell? _ _ (hHeld.2.2.1))).trans (hHeld.2.2.1)
    have HS3_ := (hb.cell (World.block_lt_of_cell? _ _ (hHeld.2.2.2.1))).trans (hHeld.2.2.2.1)
    have HS4_ := (hb.cell (World.block_lt_of_cell? _ _ (hHeld.2.2.2.2.1))).trans (hHeld.2.2.2.2.1)
    have HS5_ := (hb.cell (World.block_lt_of_cell? _ _ (hHeld.2.2.2.2.2.1))).trans (hHeld.2.2.2.2.2.1)
    have HS6_ := (hb.cell (World.block_lt_of_cell? _ _ (hHeld.2.2.2.2.2.2.1))).trans (hHeld.2.2.2.2.2.2.1)
    have HS7_ := (hb.cell (World.block_lt_of_cell? _ _ (hHeld.2.2.2.2.2.2.2.1))).trans (hHeld.2.2.2.2.2.2.2.1)
    have HS8_ := (hb.cell (World.block_lt_of_cell? _ _ (hHeld.2.2.2.2.2.2.2.2.1))).trans (hHeld.2.2.2.2.2.2.2.2.1)
    have HS9_ := (hb.cell (World.block_lt_of_cell? _ _ (hHeld.2.2.2.2.2.2.2.2.2.1))).trans (hHeld.2.2.2.2.2.2.2.2.2.1)
    have HS10_ := (hb.cell (World.block_lt_of_cell? _ _ (hHeld.2.2.2.2.2.2.2.2.2.2))).trans (hHeld.2.2.2.2.2.2.2.2.2.2)
    refine ⟨_, rfl, ?_⟩
    have n0_ := Qa.mk (Kd.Qh1 (by (with_reducible repeat (first | apply Kd.Qz | apply Kd.Qa1 | apply Kd.Qy)); exact HO_2.out) hb)
    have n1_ := Qa.mk (Kd.Qh1 (by (with_reducible repeat (first | apply Kd.Qz | apply Kd.Qa1 | apply Kd.Qy)); exact HO_3.out) hb)
    have n2_ := Qa.mk (Kd.Qh1 (by (with_reducible repeat (first | apply Kd.Qz | apply Kd.Qa1 | apply Kd.Qy)); exact HO_189000.out) hb)
    have n3_ := Qa.mk (Kd.N_below (by (with_reducible repeat (first | apply Kd.N_alloc | apply Kd.N_drewN | apply Kd.N_drew)); exact HO_189001.out) hb)
    have n4_ := Qa.mk (Qo (g := gb188) (o := .cells #[.slice Ao16 y176.length co16, .slice Ao15 y185.length co15] 25 (0, 0)) (by (with_reducible repeat (first | refine Qe ?_ _ | refine Qc ?_ | refine Qd ?_ _)); exact BK188.out) hb)
    have n5_ := Qa.mk (Qr (by with_reducible repeat (first | exact HB.out | apply Qj | apply Ql | apply Qk | refine Qi ?_ GE188.out)) hb)
    clear HO_2
    clear HO_3
    clear HO_189000
    clear HO_189001
    clear BK188
    clear HB
    have HO_2 := n0_
    have HO_3 := n1_
    have HO_189000 := n2_
    have HO_189001 := n3_
    have BK188 := n4_
    have HB := n5_
    clear n0_ n1_ n2_ n3_ n4_ n5_
    (try clear hb; try clear hb2; try clear hk; try clear hi)
    refine hK.out _ _ ⟨(Qb BK188.out 0).trans rfl, (Qb BK188.out 1).trans rfl, HS2_, HS3_, HS4_, HS5_, HS6_, HS7_, HS8_, HS9_, HS10_⟩ (fun hHeld => ?_)
    clear hK K
    refine norm_ (a' := ?_) ?_ ?_
    rotate_left
    ·
     show Act.put _ (some 38) _ = _
     simp only [Act.put, List.setIfInBounds_toArray, List.set_cons_zero, List.set_cons_succ, i64_w, i32_w]
     rfl
    refine pure_ (i := 10) (N := some 39) (v := ?_) (a' := ?_) QB56_11 rfl rfl (Qm HT_.out (by kernel_rfl)) (fun _ _ _ h => h) (Or.inl ⟨by rfl, ?_⟩) ?_ ?_
    rotate_left
    ·
     intro w'
     go_simp
     with_reducible rfl
    rotate_left
    ·
     simp only [Act.put, List.setIfInBounds_toArray, List.set_cons_zero, List.set_cons_succ, i64_w, i32_w]
     rfl
    refine pure_ (i := 11) (N := some 40) (v := ?_) (a' := ?_) QB56_12 rfl rfl (Qm HT_.out (by kernel_rfl)) (fun _ _ _ h => h) (Or.inl ⟨by rfl, ?_⟩) ?_ ?_
    rotate_left
    ·
     intro w'
     go_simp
     with_reducible rfl
    rotate_left
    ·
     simp only [Act.put, List.setIfInBounds_toArray, List.set_cons_zero, List.set_cons_succ, i64_w, i32_w]
     rfl
    refine pure_ (i := 12) (N := some 41) (v := ?_) (a' := ?_) QB56_13 rfl rfl (Qm HT_.out (by kernel_rfl)) (fun _ _ _ h => h) (Or.inl ⟨by rfl, ?_⟩) ?_ ?_
    rotate_left
    ·
     intro w'
     go_simp
     with_reducible rfl
    rotate_left
    ·
     simp only [Act.put, List.setIfInBounds_toArray, List.set_cons_zero, List.set_cons_succ, i64_w, i32_w]
     rfl
    refine pure_ (i := 15) (N := some 44) (v := ?_) (a' := ?_) QB56_32 rfl rfl (Qm HT_.out (by kernel_rfl)) (fun _ _ _ h => h) (Or.inl ⟨by rfl, ?_⟩) ?_ ?_
    rotate_left
    ·
     intro w'
     go_simp
     with_reducible rfl
    rotate_left
    ·
     simp only [Act.put, List.setIfInBounds_toArray, List.set_cons_zero, List.set_cons_succ, i64_w, i32_w]
     rfl
    refine pure_ (i := 16) (N := some 45) (v := ?_) (a' := ?_) QB56_33 rfl rfl (Qm HT_.out (by kernel_rfl)) (fun _ _ _ h => h) (Or.inl ⟨by rfl, ?_⟩) ?_ ?_
    rotate_left
    ·
     intro w'
     go_simp
     with_reducible rfl
    rotate_left
    ·
     simp only [Act.put, List.setIfInBounds_toArray, List.set_cons_zero, List.set_cons_succ, i64_w, i32_w]
     rfl
    refine take_ (i := 13) (N := some 42) (v := ?_) (a' := ?_) QB56_34 rfl rfl (Qk1 HT_.out HW_.out (by kernel_rfl)) (fun _ _ _ h => h) (Or.inl ⟨by rfl, ?_⟩) hHeld ?_ ?_
    rotate_left
    ·
     rintro w' ⟨s0, s1, s2, s3, s4, s5, s6, s7, s8, s9, s10⟩
     go_simp
     with_reducible rfl
    rotate_left
    ·
     simp only [Act.put, List.setIfInBounds_toArray, List.set_cons_zero, List.set_cons_succ, i64_w, i32_w]
     rfl
    refine take_ (i := 17) (N := some 46) (v := ?_) (a' := ?_) QB56_35 rfl rfl (Qk1 HT_.out HW_.out (by kernel_rfl)) (fun _ _ _ h => h) (Or.inl ⟨by rfl, ?_⟩) hHeld ?_ ?_
    rotate_left
    ·
     rintro w' ⟨s0, s1, s2, s3, s4, s5, s6, s7, s8, s9, s10⟩
     go_simp
     with_reducible rfl
    rotate_left
    ·
     simp only [Act.put, List.setIfInBounds_toArray, List.set_cons_zero, List.set_cons_succ, i64_w, i32_w]
     rfl
    refine one_ (i := 14) (N := some 43) QB56_14 rfl rfl (one_of HT_.out (by kernel_rfl)) (by decide) (fun K hK => ?_)
    refine goes_ Try.func14 (by kernel_rfl) rfl #[.agg #[.slice Ao16 y176.length co16, .slice Ao15 y185.length co15], .int .i64 0] (by rfl) rfl rfl (by (try simp only [List.map_toArray, List.map_cons, List.map_nil]); first | done | rfl | (simp only [List.length_drop, List.length_take]; rfl)) ?_
    with_reducible refine (flow_Rule.calls kj3 _ _ y176 _ _ y185 0 t202 t203 t204 _ ?side1 ?side2 ?side3 ?side4 A37.out).mono ?_
    (case side1 => repeat (first | exact (Kd.R_reads' HO_189000.out).2.2 | (with_reducible refine Kd.Qf1 ?_ _) | (with_reducible refine Kd.Qe1 ?_ _) | (with_reducible refine Kd.C_drew ?_)))
    (case side2 => exact (Kd.R_reads' HO_189000.out).2.1)
    (case side3 => repeat (first | exact (Kd.N_reads' HO_189001.out).2.2 | (with_reducible refine Kd.Qf1 ?_ _) | (with_reducible refine Kd.Qe1 ?_ _) | (with_reducible refine Kd.C_drew ?_)))
    (case side4 => exact (Kd.N_reads' HO_189001.out).2.1)
    rintro e w63 ⟨rfl, hb⟩
    have HS2_ := (hb.cell (World.block_lt_of_cell? _ _ (hHeld.2.2.1))).trans (hHeld.2.2.1)
    have HS3_ := (hb.cell (World.block_lt_of_cell? _ _ (hHeld.2.2.2.1))).trans (hHeld.2.2.2.1)
    have HS4_ := (hb.cell (World.block_lt_of_cell? _ _ (hHeld.2.2.2.2.1))).trans (hHeld.2.2.2.2.1)
    have HS5_ := (hb.cell (World.block_lt_of_cell? _ _ (hHeld.2.2.2.2.2.1))).trans (hHeld.2.2.2.2.2.1)
    have HS6_ := (hb.cell (World.block_lt_of_cell? _ _ (hHeld.2.2.2.2.2.2.1))).trans (hHeld.2.2.2.2.2.2.1)
    have HS7_ := (hb.cell (World.block_lt_of_cell? _ _ (hHeld.2.2.2.2.2.2.2.1))).trans (hHeld.2.2.2.2.2.2.2.1)
    have HS8_ := (hb.cell (World.block_lt_of_cell? _ _ (hHeld.2.2.2.2.2.2.2.2.1))).trans (hHeld.2.2.2.2.2.2.2.2.1)
    have HS9_ := (hb.cell (World.block_lt_of_cell? _ _ (hHeld.2.2.2.2.2.2.2.2.2.1))).trans (hHeld.2.2.2.2.2.2.2.2.2.1)
    have HS10_ := (hb.cell (World.block_lt_of_cell? _ _ (hHeld.2.2.2.2.2.2.2.2.2.2))).trans (hHeld.2.2.2.2.2.2.2.2.2.2)
    refine ⟨_, rfl, ?_⟩
    have n0_ := Qa.mk (Kd.Qh1 (by (with_reducible repeat (first | apply Kd.Qz | apply Kd.Qa1 | apply Kd.Qy)); exact HO_2.out) hb)
    have n1_ := Qa.mk (Kd.Qh1 (by (with_reducible repeat (first | apply Kd.Qz | apply Kd.Qa1 | apply Kd.Qy)); exact HO_3.out) hb)
    have n2_ := Qa.mk (Kd.Qh1 (by (with_reducible repeat (first | apply Kd.Qz | apply Kd.Qa1 | apply Kd.Qy)); exact HO_189000.out) hb)
    have n3_ := Qa.mk (Kd.N_below (by (with_reducible repeat (first | apply Kd.N_alloc | apply Kd.N_drewN | apply Kd.N_drew)); exact HO_189001.out) hb)
    have n4_ := Qa.mk (Qo (g := gb188) (o := .cells #[.slice Ao16 y176.length co16, .slice Ao15 y185.length co15] 25 (0, 0)) (by (with_reducible repeat (first | refine Qe ?_ _ | refine Qc ?_ | refine Qd ?_ _)); exact BK188.out) hb)
    have n5_ := Qa.mk (Qr (by with_reducible repeat (first | exact HB.out | apply Qj | apply Ql | apply Qk | refine Qi ?_ GE188.out)) hb)
    clear HO_2
    clear HO_3
    clear HO_189000
    clear HO_189001
    clear BK188
    clear HB
    have HO_2 := n0_
    have HO_3 := n1_
    have HO_189000 := n2_
    have HO_189001 := n3_
    have BK188 := n4_
    have HB := n5_
    clear n0_ n1_ n2_ n3_ n4_ n5_
    (try clear hb; try clear hb2; try clear hk; try clear hi)
    refine hK.out _ _ ⟨(Qb BK188.out 0).trans rfl, (Qb BK188.out 1).trans rfl, HS2_, HS3_, HS4_, HS5_, HS6_, HS7_, HS8_, HS9_, HS10_⟩ (fun hHeld => ?_)
    clear hK K
    refine norm_ (a' := ?_) ?_ ?_
    rotate_left
    ·
     show Act.put _ (some 43) _ = _
     simp only [Act.put, List.setIfInBounds_toArray, List.set_cons_zero, List.set_cons_succ, i64_w, i32_w]
     rfl
    refine pure_ (i := 18) (N := some 47) (v := ?_) (a' := ?_) QB56_15 rfl rfl (Qm HT_.out (by kernel_rfl)) (fun _ _ _ h => h) (Or.inl ⟨by rfl, ?_⟩) ?_ ?_
    rotate_left
    ·
     intro w'
     go_simp
     with_reducible rfl
    rotate_left
    ·
     simp only [Act.put, List.setIfInBounds_toArray, List.set_cons_zero, List.set_cons_succ, i64_w, i32_w]
     rfl
    refine pure_ (i := 19) (N := some 48) (v := ?_) (a' := ?_) QB56_16 rfl rfl (Qm HT_.out (by kernel_rfl)) (fun _ _ _ h => h) (Or.inl ⟨by rfl, ?_⟩) ?_ ?_
    rotate_left
    ·
     intro w'
     go_simp
     with_reducible rfl
    rotate_left
    ·
     simp only [Act.put, List.setIfInBounds_toArray, List.set_cons_zero, List.set_cons_succ, i64_w, i32_w]
     rfl
    refine pure_ (i := 20) (N := some 49) (v := ?_) (a' := ?_) QB56_17 rfl rfl (Qm HT_.out (by kernel_rfl)) (fun _ _ _ h => h) (Or.inl ⟨by rfl, ?_⟩) ?_ ?_
    rotate_left
    ·
     intro w'
     go_simp
     with_reducible rfl
    rotate_left
    ·
     simp only [Act.put, List.setIfInBounds_toArray, List.set_cons_zero, List.set_cons_succ, i64_w, i32_w]
     rfl
    refine pure_ (i := 21) (N := some 50) (v := undef) (a' := ?_) QB56_18 rfl rfl (Qm HT_.out (by kernel_rfl)) (fun _ _ _ h => h) (Or.inr ⟨by rfl, rfl⟩) ?_ ?_
    rotate_left
    ·
     simp only [Act.put, List.setIfInBounds_toArray, List.set_cons_zero, List.set_cons_succ, i64_w, i32_w]
     rfl
    refine pure_ (i := 22) (N := some 51) (v := undef) (a' := ?_) QB56_19 rfl rfl (Qm HT_.out (by kernel_rfl)) (fun _ _ _ h => h) (Or.inr ⟨by rfl, rfl⟩) ?_ ?_
    rotate_left
    ·
     simp only [Act.put, List.setIfInBounds_toArray, List.set_cons_zero, List.set_cons_succ, i64_w, i32_w]
     rfl
    refine pure_ (i := 23) (N := some 52) (v := undef) (a' := ?_) QB56_20 rfl rfl (Qm HT_.out (by kernel_rfl)) (fun _ _ _ h => h) (Or.inr ⟨by rfl, rfl⟩) ?_ ?_
    rotate_left
    ·
     simp only [Act.put, List.setIfInBounds_toArray, List.set_cons_zero, List.set_cons_succ, i64_w, i32_w]
     rfl
    refine pure_ (i := 24) (N := some 53) (v := undef) (a' := ?_) QB56_21 rfl rfl (Qm HT_.out (by kernel_rfl)) (fun _ _ _ h => h) (Or.inr ⟨by rfl, rfl⟩) ?_ ?_
    rotate_left
    ·
     simp only [Act.put, List.setIfInBounds_toArray, List.set_cons_zero, List.set_cons_succ, i64_w, i32_w]
     rfl
    refine pure_ (i := 25) (N := some 54) (v := undef) (a' := ?_) QB56_22 rfl rfl (Qm HT_.out (by kernel_rfl)) (fun _ _ _ h => h) (Or.inr ⟨by rfl, rfl⟩) ?_ ?_
    rotate_left
    ·
     simp only [Act.put, List.setIfInBounds_toArray, List.set_cons_zero, List.set_cons_succ, i64_w, i32_w]
     rfl
    refine pure_ (i := 26) (N := some 55) (v := ?_) (a' := ?_) QB56_23 rfl rfl (Qm HT_.out (by kernel_rfl)) (fun _ _ _ h => h) (Or.inl ⟨by rfl, ?_⟩) ?_ ?_
    rotate_left
    ·
     intro w'
     go_simp
     with_reducible rfl
    rotate_left
    ·
     simp only [Act.put, List.setIfInBounds_toArray, List.set_cons_zero, List.set_cons_succ, i64_w, i32_w]
     rfl
    refine pure_ (i := 27) (N := some 56) (v := ?_) (a' := ?_) QB56_24 rfl rfl (Qm HT_.out (by kernel_rfl)) (fun _ _ _ h => h) (Or.inl ⟨by rfl, ?_⟩) ?_ ?_
    rotate_left
    ·
     intro w'
     go_simp
     with_reducible rfl
    rotate_left
    ·
     simp only [Act.put, List.setIfInBounds_toArray, List.set_cons_zero, List.set_cons_succ, i64_w, i32_w]
     rfl
    refine pure_ (i := 28) (N := some 57) (v := undef) (a' := ?_) QB56_25 rfl rfl (Qm HT_.out (by kernel_rfl)) (fun _ _ _ h => h) (Or.inr ⟨by rfl, rfl⟩) ?_ ?_
    rotate_left
    ·
     simp only [Act.put, List.setIfInBounds_toArray, List.set_cons_zero, List.set_cons_succ, i64_w, i32_w]
     rfl
    refine pure_ (i := 29) (N := some 58) (v := undef) (a' := ?_) QB56_26 rfl rfl (Qm HT_.out (by kernel_rfl)) (fun _ _ _ h => h) (Or.inr ⟨by rfl, rfl⟩) ?_ ?_
    rotate_left
    ·
     simp only [Act.put, List.setIfInBounds_toArray, List.set_cons_zero, List.set_cons_succ, i64_w, i32_w]
     rfl
    refine pure_ (i := 30) (N := some 59) (v := undef) (a' := ?_) QB56_27 rfl rfl (Qm HT_.out (by kernel_rfl)) (fun _ _ _ h => h) (Or.inr ⟨by rfl, rfl⟩) ?_ ?_
    rotate_left
    ·
     simp only [Act.put, List.setIfInBounds_toArray, List.set_cons_zero, List.set_cons_succ, i64_w, i32_w]
     rfl
    refine pure_ (i := 31) (N := some 60) (v := undef) (a' := ?_) QB56_28 rfl rfl (Qm HT_.out (by kernel_rfl)) (fun _ _ _ h => h) (Or.inr ⟨by rfl, rfl⟩) ?_ ?_
    rotate_left
    ·
     simp only [Act.put, List.setIfInBounds_toArray, List.set_cons_zero, List.set_cons_succ, i64_w, i32_w]
     rfl
    refine pure_ (i := 32) (N := some 61) (v := undef) (a' := ?_) QB56_29 rfl rfl (Qm HT_.out (by kernel_rfl)) (fun _ _ _ h => h) (Or.inr ⟨by rfl, rfl⟩) ?_ ?_
    rotate_left
    ·
     simp only [Act.put, List.setIfInBounds_toArray, List.set_cons_zero, List.set_cons_succ, i64_w, i32_w]
     rfl
    refine pure_ (i := 33) (N := some 62) (v := ?_) (a' := ?_) QB56_30 rfl rfl (Qm HT_.out (by kernel_rfl)) (fun _ _ _ h => h) (Or.inl ⟨by rfl, ?_⟩) ?_ ?_
    rotate_left
    ·
     intro w'
     go_simp
     with_reducible rfl
    rotate_left
    ·
     simp only [Act.put, List.setIfInBounds_toArray, List.set_cons_zero, List.set_cons_succ, i64_w, i32_w]
     rfl
    refine pure_ (i := 34) (N := some 0) (v := ?_) (a' := ?_) QB56_31 rfl rfl (Qm HT_.out (by kernel_rfl)) (fun _ _ _ h => h) (Or.inl ⟨by rfl, ?_⟩) ?_ ?_
    rotate_left
    ·
     intro w'
     go_simp
     with_reducible rfl
    rotate_left
    ·
     simp only [Act.put, List.setIfInBounds_toArray, List.set_cons_zero, List.set_cons_succ, i64_w, i32_w]
     rfl
    refine done_ (done_of HT_.out (by kernel_rfl)) ?_
    try go_wp2
    go_ret
    exact ⟨by first | rfl | (simp [Qt, Qs] <;> rfl) | (simp [*, Qt, Qs] <;> rfl), by with_reducible repeat (first | exact HB.out | apply Qj | apply Ql | apply Qk | refine Qi ?_ GE188.out)⟩
   rw [if_pos c38] at H
   have c38b0 : (t202 == ((Qg t189 4).f0) && (t203 == ((Qg t189 4).f1) && (t204 == ((Qg t189 4).f2)))) = true := c38
   (try (have c38b1 : decide (t202 = ((Qg t189 4).f0) && (t203 == ((Qg t189 4).f1) && (t204 == ((Qg t189 4).f2)))) = true := by simpa using c38))
   (try (have c38b2 : (t202 == ((Qg t189 4).f0) && (t203 == ((Qg t189 4).f1) && (t204 == ((Qg t189 4).f2)))) = true := by simpa using c38))
   clear c38
   by_cases c39 : 0 < (t195.length : Int)
   rotate_left
   ·
    rw [if_neg c39] at H
    exact absurd H (by simp)
   rw [if_pos c39] at H
   have c39b0 : decide (0 < (t195.length : Int)) = true := decide_eq_true c39
   have c39b1 : decide (0 < t195.length) = true := decide_eq_true (by omega)
   clear c39
   replace H := Option.bind_eq_some_iff.mp H
   obtain ⟨t207, A400, H⟩ := H
   replace H : (if t207.toList = ([101, 102] : List UInt8) then (if 1 < (t195.length : Int) then ((flow_Text.f kj3 ((Qg t195 1).f0) ((Qg t195 1).f1) ((Qg t195 1).f2)).bind fun t209 => (some (t209.toList == ([45] : List UInt8)))) else (none)) else (some false)) = some r := H
   have A40 := Qa.mk A400
   clear A400
   by_cases c41 : t207.toList = ([101, 102] : List UInt8)
   ·
    rw [if_pos c41] at H
    have c41b0 : (t207.toList == ([101, 102] : List UInt8)) = true := beq_iff_eq.mpr c41
    have c41b1 : (t207.toList != ([101, 102] : List UInt8)) = false := bne_eq_false_iff_eq.mpr c41
    clear c41
    by_cases c42 : 1 < (t195.length : Int)
    rotate_left
    ·
     rw [if_neg c42] at H
     exact absurd H (by simp)
    rw [if_pos c42] at H
    have c42b0 : decide (1 < (t195.length : Int)) = true := decide_eq_true c42
    have c42b1 : decide (1 < t195.length) = true := decide_eq_true (by omega)
    clear c42
    replace H := Option.bind_eq_some_iff.mp H
    obtain ⟨t209, A430, H⟩ := H
    replace H : (some (t209.toList == ([45] : List UInt8))) = some r := H
    have A43 := Qa.mk A430
    clear A430
    obtain rfl := Option.some.inj H
    try go_wp2
    have n0_ := Qa.mk (Kd.Qy HO_2.out)
    have n1_ := Qa.mk (Kd.Qy HO_3.out)
    have n2_ := Qa.mk (Kd.Qy HO_189000.out)
    have n3_ := Qa.mk (Kd.N_drew HO_189001.out)
    have n4_ := Qa.mk (Qc BK188.out)
    have n5_ := Qa.mk (Qk HB.out)
    clear HO_2
    clear HO_3
    clear HO_189000
    clear HO_189001
    clear BK188
    clear HB
    have HO_2 := n0_
    have HO_3 := n1_
    have HO_189000 := n2_
    have HO_189001 := n3_
    have BK188 := n4_
    have HB := n5_
    clear n0_ n1_ n2_ n3_ n4_ n5_
    obtain ⟨Ao45, co45, eo45⟩ := Kd.R_slice HO_2.out
    (first | subst eo45 | (injection eo45 with f1_ f2_ f3_; have f4_ := f1_.symm; have f5_ := f3_.symm; clear f1_ f2_ f3_; subst f4_; subst f5_))
    have p198 : 0 ≤ (2 : Int) := (by omega)
    have q198 : 2 < (t189.length : Int) := of_decide_eq_true (by assumption)
    obtain ⟨ad198, e198, hx198_0, hx198_1, hx198_2⟩ := at_T36 (Kd.R_reads' HO_2.out).2.2 2 p198 q198
    cases e198
    (try simp only [show (2 : Int).toNat = 2 from rfl, Nat.reduceMul, Nat.reduceEqDiff, Go.Addr.add, ↓reduceIte] at hx198_0)
    (try simp only [show (2 : Int).toNat = 2 from rfl, Nat.reduceMul, Nat.reduceEqDiff, Go.Addr.add, ↓reduceIte] at hx198_1)
    (try simp only [show (2 : Int).toNat = 2 from rfl, Nat.reduceMul, Nat.reduceEqDiff, Go.Addr.add, ↓reduceIte] at hx198_2)
    have qi198 : (2 < t189.length) = True := eq_true (by omega)
    (try rw [show ((2 : Int)).toNat = 2 from rfl] at hx198_0)
    (try rw [show 2 * 3 = 6 from rfl] at hx198_0)
    (try rw [show ((2 : Int)).toNat = 2 from rfl] at hx198_1)
    (try rw [show 2 * 3 = 6 from rfl] at hx198_1)
    (try rw [show ((2 : Int)).toNat = 2 from rfl] at hx198_2)
    (try rw [show 2 * 3 = 6 from rfl] at hx198_2)
    replace p198 := eq_true p198
    replace q198 := eq_true q198
    have p200 : 0 ≤ (4 : Int) := (by omega)
    have q200 : 4 < (t189.length : Int) := of_decide_eq_true (by assumption)
    obtain ⟨ad200, e200, hx200_0, hx200_1, hx200_2⟩ := at_T36 (Kd.R_reads' HO_2.out).2.2 4 p200 q200
    obtain rfl : ad198 = ad200 := (by injection e200)
    (try simp only [show (4 : Int).toNat = 4 from rfl, Nat.reduceMul, Nat.reduceEqDiff, Go.Addr.add, ↓reduceIte] at hx200_0)
    (try simp only [show (4 : Int).toNat = 4 from rfl, Nat.reduceMul, Nat.reduceEqDiff, Go.Addr.add, ↓reduceIte] at hx200_1)
    (try simp only [show (4 : Int).toNat = 4 from rfl, Nat.reduceMul, Nat.reduceEqDiff, Go.Addr.add, ↓reduceIte] at hx200_2)
    have qi200 : (4 < t189.length) = True := eq_true (by omega)
    (try rw [show ((4 : Int)).toNat = 4 from rfl] at hx200_0)
    (try rw [show 4 * 3 = 12 from rfl] at hx200_0)
    (try rw [show ((4 : Int)).toNat = 4 from rfl] at hx200_1)
    (try rw [show 4 * 3 = 12 from rfl] at hx200_1)
    (try rw [show ((4 : Int)).toNat = 4 from rfl] at hx200_2)
    (try rw [show 4 * 3 = 12 from rfl] at hx200_2)
    replace p200 := eq_true p200
    replace q200 := eq_true q200
    have p205 : 0 ≤ (4 : Int) := (by omega)
    have q205 : 4 < (t189.length : Int) := of_decide_eq_true (by assumption)
    obtain ⟨ad205, e205, hx205_0, hx205_1, hx205_2⟩ := at_T36 (Kd.R_reads' HO_2.out).2.2 4 p205 q205
    obtain rfl : ad198 = ad205 := (by injection e205)
    (try simp only [show (4 : Int).toNat = 4 from rfl, Nat.reduceMul, Nat.reduceEqDiff, Go.Addr.add, ↓reduceIte] at hx205_0)
    (try simp only [show (4 : Int).toNat = 4 from rfl, Nat.reduceMul, Nat.reduceEqDiff, Go.Addr.add, ↓reduceIte] at hx205_1)
    (try simp only [show (4 : Int).toNat = 4 from rfl, Nat.reduceMul, Nat.reduceEqDiff, Go.Addr.add, ↓reduceIte] at hx205_2)
    have qi205 : (4 < t189.length) = True := eq_true (by omega)
    (try rw [show ((4 : Int)).toNat = 4 from rfl] at hx205_0)
    (try rw [show 4 * 3 = 12 from rfl] at hx205_0)
    (try rw [show ((4 : Int)).toNat = 4 from rfl] at hx205_1)
    (try rw [show 4 * 3 = 12 from rfl] at hx205_1)
    (try rw [show ((4 : Int)).toNat = 4 from rfl] at hx205_2)
    (try rw [show 4 * 3 = 12 from rfl] at hx205_2)
    replace p205 := eq_true p205
    replace q205 := eq_true q205
    (obtain ⟨Ao_, co_, eo_⟩ := Kd.R_slice HO_3.out; first | subst eo_ | skip)
    have p206 : 0 ≤ (0 : Int) := (by omega)
    have q206 : 0 < (t195.length : Int) := of_decide_eq_true (by assumption)
    obtain ⟨ad206, e206, hx206_0, hx206_1, hx206_2⟩ := at_T36 (Kd.R_reads' HO_3.out).2.2 0 p206 q206
    cases e206
    have qi206 : (0 < t195.length) = True := eq_true (by omega)
    (try rw [show ((0 : Int)).toNat = 0 from rfl] at hx206_0)
    (try rw [show 0 * 3 = 0 from rfl] at hx206_0)
    (try rw [Addr.add_zero'] at hx206_0)
    (try rw [show ((0 : Int)).toNat = 0 from rfl] at hx206_1)
    (try rw [show 0 * 3 = 0 from rfl] at hx206_1)
    (try rw [Addr.add_zero'] at hx206_1)
    (try rw [show ((0 : Int)).toNat = 0 from rfl] at hx206_2)
    (try rw [show 0 * 3 = 0 from rfl] at hx206_2)
    (try rw [Addr.add_zero'] at hx206_2)
    replace p206 := eq_true p206
    replace q206 := eq_true q206
    have p208 : 0 ≤ (1 : Int) := (by omega)
    have q208 : 1 < (t195.length : Int) := of_decide_eq_true (by assumption)
    obtain ⟨ad208, e208, hx208_0, hx208_1, hx208_2⟩ := at_T36 (Kd.R_reads' HO_3.out).2.2 1 p208 q208
    obtain rfl : ad206 = ad208 := (by injection e208)
    (try simp only [show (1 : Int).toNat = 1 from rfl, Nat.reduceMul, Nat.reduceEqDiff, Go.Addr.add, ↓reduceIte] at hx208_0)
    (try simp only [show (1 : Int).toNat = 1 from rfl, Nat.reduceMul, Nat.reduceEqDiff, Go.Addr.add, ↓reduceIte] at hx208_1)
    (try simp only [show (1 : Int).toNat = 1 from rfl, Nat.reduceMul, Nat.reduceEqDiff, Go.Addr.add, ↓reduceIte] at hx208_2)
    have qi208 : (1 < t195.length) = True := eq_true (by omega)
    (try rw [show ((1 : Int)).toNat = 1 from rfl] at hx208_0)
    (try rw [show 1 * 3 = 3 from rfl] at hx208_0)
    (try rw [show ((1 : Int)).toNat = 1 from rfl] at hx208_1)
    (try rw [show 1 * 3 = 3 from rfl] at hx208_1)
    (try rw [show ((1 : Int)).toNat = 1 from rfl] at hx208_2)
    (try rw [show 1 * 3 = 3 from rfl] at hx208_2)
    replace p208 := eq_true p208
    replace q208 := eq_true q208
    refine start_ (n := 35) (S := fun w' => w'.cell? ⟨gb188, 0, none⟩ = some (.slice Ao16 y176.length co16) ∧ w'.cell? ⟨gb188, 1, none⟩ = some (.slice Ao15 y185.length co15) ∧ w'.cell? ⟨ad198.block, ad198.off + 6, none⟩ = some (.bool ((Qg t189 2).f0)) ∧ w'.cell? ⟨ad198.block, ad198.off + 6 + 1, none⟩ = some (.bool ((Qg t189 2).f1)) ∧ w'.cell? ⟨ad198.block, ad198.off + 6 + 2, none⟩ = some (.bool ((Qg t189 2).f2)) ∧ w'.cell? ⟨ad198.block, ad198.off + 12, none⟩ = some (.bool ((Qg t189 4).f0)) ∧ w'.cell? ⟨ad198.block, ad198.off + 12 + 1, none⟩ = some (.bool ((Qg t189 4).f1)) ∧ w'.cell? ⟨ad198.block, ad198.off + 12 + 2, none⟩ = some (.bool ((Qg t189 4).f2)) ∧ w'.cell? ⟨ad198.block, ad198.off + 12, none⟩ = some (.bool ((Qg t189 4).f0)) ∧ w'.cell? ⟨ad198.block, ad198.off + 12 + 1, none⟩ = some (.bool ((Qg t189 4).f1)) ∧ w'.cell? ⟨ad198.block, ad198.off + 12 + 2, none⟩ = some (.bool ((Qg t189 4).f2)) ∧ w'.cell? ad206 = some (.bool ((Qg t195 0).f0)) ∧ w'.cell? ⟨ad206.block, ad206.off + 1, none⟩ = some (.bool ((Qg t195 0).f1)) ∧ w'.cell? ⟨ad206.block, ad206.off + 2, none⟩ = some (.bool ((Qg t195 0).f2)) ∧ w'.cell? ⟨ad206.block, ad206.off + 3, none⟩ = some (.bool ((Qg t195 1).f0)) ∧ w'.cell? ⟨ad206.block, ad206.off + 3 + 1, none⟩ = some (.bool ((Qg t195 1).f1)) ∧ w'.cell? ⟨ad206.block, ad206.off + 3 + 2, none⟩ = some (.bool ((Qg t195 1).f2))) (ds := []) QB56_0 (by kernel_rfl) rfl rfl ⟨(Qb BK188.out 0).trans rfl, (Qb BK188.out 1).trans rfl, hx198_0, hx198_1, hx198_2, hx200_0, hx200_1, hx200_2, hx205_0, hx205_1, hx205_2, hx206_0, hx206_1, hx206_2, hx208_0, hx208_1, hx208_2⟩ (fun hHeld => ?_); refine with_tabW Qi1.tab6 Qi1.bits6 (fun HT_ HW_ => ?_)
    generalize wc.drew = w44 at HO_2 HO_3 HO_189000 HO_189001 BK188 HB hx198_0 hx198_1 hx198_2 hx200_0 hx200_1 hx200_2 hx205_0 hx205_1 hx205_2 hx206_0 hx206_1 hx206_2 hx208_0 hx208_1 hx208_2 hHeld ⊢
    refine pure_ (i := 0) (N := some 29) (v := ?_) (a' := ?_) QB56_1 rfl rfl (Qm HT_.out (by kernel_rfl)) (fun _ _ _ h => h) (Or.inl ⟨by rfl, ?_⟩) ?_ ?_
    rotate_left
    ·
     intro w'
     go_simp
     with_reducible rfl
    rotate_left
    ·
     simp only [Act.put, List.setIfInBounds_toArray, List.set_cons_zero, List.set_cons_succ, i64_w, i32_w]
     rfl
    refine pure_ (i := 1) (N := some 30) (v := ?_) (a' := ?_) QB56_2 rfl rfl (Qm HT_.out (by kernel_rfl)) (fun _ _ _ h => h) (Or.inl ⟨by rfl, ?_⟩) ?_ ?_
    rotate_left
    ·
     intro w'
     go_simp
     with_reducible rfl
    rotate_left
    ·
     simp only [Act.put, List.setIfInBounds_toArray, List.set_cons_zero, List.set_cons_succ, i64_w, i32_w]
     rfl
    refine take_ (i := 2) (N := some 31) (v := ?_) (a' := ?_) QB56_3 rfl rfl (Qk1 HT_.out HW_.out (by kernel_rfl)) (fun _ _ _ h => h) (Or.inl ⟨by rfl, ?_⟩) hHeld ?_ ?_
    rotate_left
    ·
     rintro w' ⟨s0, s1, s2, s3, s4, s5, s6, s7, s8, s9, s10, s11, s12, s13, s14, s15, s16⟩
     go_simp
     with_reducible rfl
    rotate_left
    ·
     simp only [Act.put, List.setIfInBounds_toArray, List.set_cons_zero, List.set_cons_succ, i64_w, i32_w]
     rfl
    refine one_ (i := 3) (N := some 32) QB56_4 rfl rfl (one_of HT_.out (by kernel_rfl)) (by decide) (fun K hK => ?_)
    refine goes_ Try.func19 (by kernel_rfl) rfl #[.agg #[.bool ((Qg t189 2).f0), .bool ((Qg t189 2).f1), .bool ((Qg t189 2).f2)]] (by rfl) rfl rfl (by (try simp only [List.map_toArray, List.map_cons, List.map_nil]); first | done | rfl | (simp only [List.length_drop, List.length_take]; rfl)) ?_
    with_reducible refine (flow_Text.calls kj3 ((Qg t189 2).f0) ((Qg t189 2).f1) ((Qg t189 2).f2) t199 _ A32.out).mono ?_
    rintro e w46 ⟨rfl, hb⟩
    have HS2_ := (hb.cell (World.block_lt_of_cell? _ _ (hHeld.2.2.1))).trans (hHeld.2.2.1)
    have HS3_ := (hb.cell (World.block_lt_of_cell? _ _ (hHeld.2.2.2.1))).trans (hHeld.2.2.2.1)
    have HS4_ := (hb.cell (World.block_lt_of_cell? _ _ (hHeld.2.2.2.2.1))).trans (hHeld.2.2.2.2.1)
    have HS5_ := (hb.cell (World.block_lt_of_cell? _ _ (hHeld.2.2.2.2.2.1))).trans (hHeld.2.2.2.2.2.1)
    have HS6_ := (hb.cell (World.block_lt_of_cell? _ _ (hHeld.2.2.2.2.2.2.1))).trans (hHeld.2.2.2.2.2.2.1)
    have HS7_ := (hb.cell (World.block_lt_of_cell? _ _ (hHeld.2.2.2.2.2.2.2.1))).trans (hHeld.2.2.2.2.2.2.2.1)
    have HS8_ := (hb.cell (World.block_lt_of_cell? _ _ (hHeld.2.2.2.2.2.2.2.2.1))).trans (hHeld.2.2.2.2.2.2.2.2.1)
    have HS9_ := (hb.cell (World.block_lt_of_cell? _ _ (hHeld.2.2.2.2.2.2.2.2.2.1))).trans (hHeld.2.2.2.2.2.2.2.2.2.1)
    have HS10_ := (hb.cell (World.block_lt_of_cell? _ _ (hHeld.2.2.2.2.2.2.2.2.2.2.1))).trans (hHeld.2.2.2.2.2.2.2.2.2.2.1)
    have HS11_ := (hb.cell (World.block_lt_of_cell? _ _ (hHeld.2.2.2.2.2.2.2.2.2.2.2.1))).trans (hHeld.2.2.2.2.2.2.2.2.2.2.2.1)
    have HS12_ := (hb.cell (World.block_lt_of_cell? _ _ (hHeld.2.2.2.2.2.2.2.2.2.2.2.2.1))).trans (hHeld.2.2.2.2.2.2.2.2.2.2.2.2.1)
    have HS13_ := (hb.cell (World.block_lt_of_cell? _ _ (hHeld.2.2.2.2.2.2.2.2.2.2.2.2.2.1))).trans (hHeld.2.2.2.2.2.2.2.2.2.2.2.2.2.1)
    have HS14_ := (hb.cell (World.block_lt_of_cell? _ _ (hHeld.2.2.2.2.2.2.2.2.2.2.2.2.2.2.1))).trans (hHeld.2.2.2.2.2.2.2.2.2.2.2.2.2.2.1)
    have HS15_ := (hb.cell (World.block_lt_of_cell? _ _ (hHeld.2.2.2.2.2.2.2.2.2.2.2.2.2.2.2.1))).trans (hHeld.2.2.2.2.2.2.2.2.2.2.2.2.2.2.2.1)
    have HS16_ := (hb.cell (World.block_lt_of_cell? _ _ (hHeld.2.2.2.2.2.2.2.2.2.2.2.2.2.2.2.2))).trans (hHeld.2.2.2.2.2.2.2.2.2.2.2.2.2.2.2.2)
    refine ⟨_, rfl, ?_⟩
    have n0_ := Qa.mk (Kd.Qh1 (by (with_reducible repeat (first | apply Kd.Qz | apply Kd.Qa1 | apply Kd.Qy)); exact HO_2.out) hb)
    have n1_ := Qa.mk (Kd.Qh1 (by (with_reducible repeat (first | apply Kd.Qz | apply Kd.Qa1 | apply Kd.Qy)); exact HO_3.out) hb)
    have n2_ := Qa.mk (Kd.Qh1 (by (with_reducible repeat (first | apply Kd.Qz | apply Kd.Qa1 | apply Kd.Qy)); exact HO_189000.out) hb)
    have n3_ := Qa.mk (Kd.N_below (by (with_reducible repeat (first | apply Kd.N_alloc | apply Kd.N_drewN | apply Kd.N_drew)); exact HO_189001.out) hb)
    have n4_ := Qa.mk (Qo (g := gb188) (o := .cells #[.slice Ao16 y176.length co16, .slice Ao15 y185.length co15] 25 (0, 0)) (by (with_reducible repeat (first | refine Qe ?_ _ | refine Qc ?_ | refine Qd ?_ _)); exact BK188.out) hb)
    have n5_ := Qa.mk (Qr (by with_reducible repeat (first | exact HB.out | apply Qj | apply Ql | apply Qk | refine Qi ?_ GE188.out)) hb)
    clear HO_2
    clear HO_3
    clear HO_189000
    clear HO_189001
    clear BK188
    clear HB
    have HO_2 := n0_
    have HO_3 := n1_
    have HO_189000 := n2_
    have HO_189001 := n3_
    have BK188 := n4_
    have HB := n5_
    clear n0_ n1_ n2_ n3_ n4_ n5_
    (try clear hb; try clear hb2; try clear hk; try clear hi)
    refine hK.out _ _ ⟨(Qb BK188.out 0).trans rfl, (Qb BK188.out 1).trans rfl, HS2_, HS3_, HS4_, HS5_, HS6_, HS7_, HS8_, HS9_, HS10_, HS11_, HS12_, HS13_, HS14_, HS15_, HS16_⟩ (fun hHeld => ?_)
    clear hK K
    refine norm_ (a' := ?_) ?_ ?_
    rotate_left
    ·
     show Act.put _ (some 32) _ = _
     simp only [Act.put, List.setIfInBounds_toArray, List.set_cons_zero, List.set_cons_succ, i64_w, i32_w]
     rfl
    refine pure_ (i := 4) (N := some 33) (v := ?_) (a' := ?_) QB56_5 rfl rfl (Qm HT_.out (by kernel_rfl)) (fun _ _ _ h => h) (Or.inl ⟨by rfl, ?_⟩) ?_ ?_
    rotate_left
    ·
     intro w'
     go_simp
     with_reducible rfl
    rotate_left
    ·
     simp only [Act.put, List.setIfInBounds_toArray, List.set_cons_zero, List.set_cons_succ, i64_w, i32_w]
     rfl
    refine pure_ (i := 5) (N := some 34) (v := ?_) (a' := ?_) QB56_6 rfl rfl (Qm HT_.out (by kernel_rfl)) (fun _ _ _ h => h) (Or.inl ⟨by rfl, ?_⟩) ?_ ?_
    rotate_left
    ·
     intro w'
     go_simp
     with_reducible rfl
    rotate_left
    ·
     simp only [Act.put, List.setIfInBounds_toArray, List.set_cons_zero, List.set_cons_succ, i64_w, i32_w]
     rfl
    refine pure_ (i := 6) (N := some 35) (v := ?_) (a' := ?_) QB56_7 rfl rfl (Qm HT_.out (by kernel_rfl)) (fun _ _ _ h => h) (Or.inl ⟨by rfl, ?_⟩) ?_ ?_
    rotate_left
    ·
     intro w'
     go_simp
     with_reducible rfl
    rotate_left
    ·
     simp only [Act.put, List.setIfInBounds_toArray, List.set_cons_zero, List.set_cons_succ, i64_w, i32_w]
     rfl
    refine pure_ (i := 7) (N := some 36) (v := ?_) (a' := ?_) QB56_8 rfl rfl (Qm HT_.out (by kernel_rfl)) (fun _ _ _ h => h) (Or.inl ⟨by rfl, ?_⟩) ?_ ?_
    rotate_left
    ·
     intro w'
     go_simp
     with_reducible rfl
    rotate_left
    ·
     simp only [Act.put, List.setIfInBounds_toArray, List.set_cons_zero, List.set_cons_succ, i64_w, i32_w]
     rfl
    refine take_ (i := 8) (N := some 37) (v := ?_) (a' := ?_) QB56_9 rfl rfl (Qk1 HT_.out HW_.out (by kernel_rfl)) (fun _ _ _ h => h) (Or.inl ⟨by rfl, ?_⟩) hHeld ?_ ?_
    rotate_left
    ·
     rintro w' ⟨s0, s1, s2, s3, s4, s5, s6, s7, s8, s9, s10, s11, s12, s13, s14, s15, s16⟩
     go_simp
     with_reducible rfl
    rotate_left
    ·
     simp only [Act.put, List.setIfInBounds_toArray, List.set_cons_zero, List.set_cons_succ, i64_w, i32_w]
     rfl
    refine one_ (i := 9) (N := some 38) QB56_10 rfl rfl (one_of HT_.out (by kernel_rfl)) (by decide) (fun K hK => ?_)
    refine goes_ Try.func19 (by kernel_rfl) rfl #[.agg #[.bool ((Qg t189 4).f0), .bool ((Qg t189 4).f1), .bool ((Qg t189 4).f2)]] (by rfl) rfl rfl (by (try simp only [List.map_toArray, List.map_cons, List.map_nil]); first | done | rfl | (simp only [List.length_drop, List.length_take]; rfl)) ?_
    with_reducible refine (flow_Text.calls kj3 ((Qg t189 4).f0) ((Qg t189 4).f1) ((Qg t189 4).f2) t201 _ A35.out).mono ?_
    rintro e w47 ⟨rfl, hb⟩
    have HS2_ := (hb.cell (World.block_lt_of_cell? _ _ (hHeld.2.2.1))).trans (hHeld.2.2.1)
    have HS3_ := (hb.cell (World.block_lt_of_cell? _ _ (hHeld.2.2.2.1))).trans (hHeld.2.2.2.1)
    have HS4_ := (hb.cell (World.block_lt_of_cell? _ _ (hHeld.2.2.2.2.1))).trans (hHeld.2.2.2.2.1)
    have HS5_ := (hb.cell (World.block_lt_of_cell? _ _ (hHeld.2.2.2.2.2.1))).trans (hHeld.2.2.2.2.2.1)
    have HS6_ := (hb.cell (World.block_lt_of_cell? _ _ (hHeld.2.2.2.2.2.2.1))).trans (hHeld.2.2.2.2.2.2.1)
    have HS7_ := (hb.cell (World.block_lt_of_cell? _ _ (hHeld.2.2.2.2.2.2.2.1))).trans (hHeld.2.2.2.2.2.2.2.1)
    have HS8_ := (hb.cell (World.block_lt_of_cell? _ _ (hHeld.2.2.2.2.2.2.2.2.1))).trans (hHeld.2.2.2.2.2.2.2.2.1)
    have HS9_ := (hb.cell (World.block_lt_of_cell? _ _ (hHeld.2.2.2.2.2.2.2.2.2.1))).trans (hHeld.2.2.2.2.2.2.2.2.2.1)
    have HS10_ := (hb.cell (World.block_lt_of_cell? _ _ (hHeld.2.2.2.2.2.2.2.2.2.2.1))).trans (hHeld.2.2.2.2.2.2.2.2.2.2.1)
    have HS11_ := (hb.cell (World.block_lt_of_cell? _ _ (hHeld.2.2.2.2.2.2.2.2.2.2.2.1))).trans (hHeld.2.2.2.2.2.2.2.2.2.2.2.1)
    have HS12_ := (hb.cell (World.block_lt_of_cell? _ _ (hHeld.2.2.2.2.2.2.2.2.2.2.2.2.1))).trans (hHeld.2.2.2.2.2.2.2.2.2.2.2.2.1)
    have HS13_ := (hb.cell (World.block_lt_of_cell? _ _ (hHeld.2.2.2.2.2.2.2.2.2.2.2.2.2.1))).trans (hHeld.2.2.2.2.2.2.2.2.2.2.2.2.2.1)
    have HS14_ := (hb.cell (World.block_lt_of_cell? _ _ (hHeld.2.2.2.2.2.2.2.2.2.2.2.2.2.2.1))).trans (hHeld.2.2.2.2.2.2.2.2.2.2.2.2.2.2.1)
    have HS15_ := (hb.cell (World.block_lt_of_cell? _ _ (hHeld.2.2.2.2.2.2.2.2.2.2.2.2.2.2.2.1))).trans (hHeld.2.2.2.2.2.2.2.2.2.2.2.2.2.2.2.1)
    have HS16_ := (hb.cell (World.block_lt_of_cell? _ _ (hHeld.2.2.2.2.2.2.2.2.2.2.2.2.2.2.2.2))).trans (hHeld.2.2.2.2.2.2.2.2.2.2.2.2.2.2.2.2)
    refine ⟨_, rfl, ?_⟩
    have n0_ := Qa.mk (Kd.Qh1 (by (with_reducible repeat (first | apply Kd.Qz | apply Kd.Qa1 | apply Kd.Qy)); exact HO_2.out) hb)
    have n1_ := Qa.mk (Kd.Qh1 (by (with_reducible repeat (first | apply Kd.Qz | apply Kd.Qa1 | apply Kd.Qy)); exact HO_3.out) hb)
    have n2_ := Qa.mk (Kd.Qh1 (by (with_reducible repeat (first | apply Kd.Qz | apply Kd.Qa1 | apply Kd.Qy)); exact HO_189000.out) hb)
    have n3_ := Qa.mk (Kd.N_below (by (with_reducible repeat (first | apply Kd.N_alloc | apply Kd.N_drewN | apply Kd.N_drew)); exact HO_189001.out) hb)
    have n4_ := Qa.mk (Qo (g := gb188) (o := .cells #[.slice Ao16 y176.length co16, .slice Ao15 y185.length co15] 25 (0, 0)) (by (with_reducible repeat (first | refine Qe ?_ _ | refine Qc ?_ | refine Qd ?_ _)); exact BK188.out) hb)
    have n5_ := Qa.mk (Qr (by with_reducible repeat (first | exact HB.out | apply Qj | apply Ql | apply Qk | refine Qi ?_ GE188.out)) hb)
    clear HO_2
    clear HO_3
    clear HO_189000
    clear HO_189001
    clear BK188
    clear HB
    have HO_2 := n0_
    have HO_3 := n1_
    have HO_189000 := n2_
    have HO_189001 := n3_
    have BK188 := n4_
    have HB := n5_
    clear n0_ n1_ n2_ n3_ n4_ n5_
    (try clear hb; try clear hb2; try clear hk; try clear hi)
    refine hK.out _ _ ⟨(Qb BK188.out 0).trans rfl, (Qb BK188.out 1).trans rfl, HS2_, HS3_, HS4_, HS5_, HS6_, HS7_, HS8_, HS9_, HS10_, HS11_, HS12_, HS13_, HS14_, HS15_, HS16_⟩ (fun hHeld => ?_)
    clear hK K
    refine norm_ (a' := ?_) ?_ ?_
    rotate_left
    ·
     show Act.put _ (some 38) _ = _
     simp only [Act.put, List.setIfInBounds_toArray, List.set_cons_zero, List.set_cons_succ, i64_w, i32_w]
     rfl
    refine pure_ (i := 10) (N := some 39) (v := ?_) (a' := ?_) QB56_11 rfl rfl (Qm HT_.out (by kernel_rfl)) (fun _ _ _ h => h) (Or.inl ⟨by rfl, ?_⟩) ?_ ?_
    rotate_left
    ·
     intro w'
     go_simp
     with_reducible rfl
    rotate_left
    ·
     simp only [Act.put, List.setIfInBounds_toArray, List.set_cons_zero, List.set_cons_succ, i64_w, i32_w]
     rfl
    refine pure_ (i := 11) (N := some 40) (v := ?_) (a' := ?_) QB56_12 rfl rfl (Qm HT_.out (by kernel_rfl)) (fun _ _ _ h => h) (Or.inl ⟨by rfl, ?_⟩) ?_ ?_
    rotate_left
    ·
     intro w'
     go_simp
     with_reducible rfl
    rotate_left
    ·
     simp only [Act.put, List.setIfInBounds_toArray, List.set_cons_zero, List.set_cons_succ, i64_w, i32_w]
     rfl
    refine pure_ (i := 12) (N := some 41) (v := ?_) (a' := ?_) QB56_13 rfl rfl (Qm HT_.out (by kernel_rfl)) (fun _ _ _ h => h) (Or.inl ⟨by rfl, ?_⟩) ?_ ?_
    rotate_left
    ·
     intro w'
     go_simp
     with_reducible rfl
    rotate_left
    ·
     simp only [Act.put, List.setIfInBounds_toArray, List.set_cons_zero, List.set_cons_succ, i64_w, i32_w]
     rfl
    refine pure_ (i := 15) (N := some 44) (v := ?_) (a' := ?_) QB56_32 rfl rfl (Qm HT_.out (by kernel_rfl)) (fun _ _ _ h => h) (Or.inl ⟨by rfl, ?_⟩) ?_ ?_
    rotate_left
    ·
     intro w'
     go_simp
     with_reducible rfl
    rotate_left
    ·
     simp only [Act.put, List.setIfInBounds_toArray, List.set_cons_zero, List.set_cons_succ, i64_w, i32_w]
     rfl
    refine pure_ (i := 16) (N := some 45) (v := ?_) (a' := ?_) QB56_33 rfl rfl (Qm HT_.out (by kernel_rfl)) (fun _ _ _ h => h) (Or.inl ⟨by rfl, ?_⟩) ?_ ?_
    rotate_left
    ·
     intro w'
     go_simp
     with_reducible rfl
    rotate_left
    ·
     simp only [Act.put, List.setIfInBounds_toArray, List.set_cons_zero, List.set_cons_succ, i64_w, i32_w]
     rfl
    refine take_ (i := 13) (N := some 42) (v := ?_) (a' := ?_) QB56_34 rfl rfl (Qk1 HT_.out HW_.out (by kernel_rfl)) (fun _ _ _ h => h) (Or.inl ⟨by rfl, ?_⟩) hHeld ?_ ?_
    rotate_left
    ·
     rintro w' ⟨s0, s1, s2, s3, s4, s5, s6, s7, s8, s9, s10, s11, s12, s13, s14, s15, s16⟩
     go_simp
     with_reducible rfl
    rotate_left
    ·
     simp only [Act.put, List.setIfInBounds_toArray, List.set_cons_zero, List.set_cons_succ, i64_w, i32_w]
     rfl
    refine take_ (i := 17) (N := some 46) (v := ?_) (a' := ?_) QB56_35 rfl rfl (Qk1 HT_.out HW_.out (by kernel_rfl)) (fun _ _ _ h => h) (Or.inl ⟨by rfl, ?_⟩) hHeld ?_ ?_
    rotate_left
    ·
     rintro w' ⟨s0, s1, s2, s3, s4, s5, s6, s7, s8, s9, s10, s11, s12, s13, s14, s15, s16⟩
     go_simp
     with_reducible rfl
    rotate_left
    ·
     simp only [Act.put, List.setIfInBounds_toArray, List.set_cons_zero, List.set_cons_succ, i64_w, i32_w]
     rfl
    refine one_ (i := 14) (N := some 43) QB56_14 rfl rfl (one_of HT_.out (by kernel_rfl)) (by decide) (fun K hK => ?_)
    refine goes_ Try.func14 (by kernel_rfl) rfl #[.agg #[.slice Ao16 y176.length co16, .slice Ao15 y185.length co15], .int .i64 0] (by rfl) rfl rfl (by (try simp only [List.map_toArray, List.map_cons, List.map_nil]); first | done | rfl | (simp only [List.length_drop, List.length_take]; rfl)) ?_
    with_reducible refine (flow_Rule.calls kj3 _ _ y176 _ _ y185 0 t202 t203 t204 _ ?side1 ?side2 ?side3 ?side4 A37.out).mono ?_
    (case side1 => repeat (first | exact (Kd.R_reads' HO_189000.out).2.2 | (with_reducible refine Kd.Qf1 ?_ _) | (with_reducible refine Kd.Qe1 ?_ _) | (with_reducible refine Kd.C_drew ?_)))
    (case side2 => exact (Kd.R_reads' HO_189000.out).2.1)
    (case side3 => repeat (first | exact (Kd.N_reads' HO_189001.out).2.2 | (with_reducible refine Kd.Qf1 ?_ _) | (with_reducible refine Kd.Qe1 ?_ _) | (with_reducible refine Kd.C_drew ?_)))
    (case side4 => exact (Kd.N_reads' HO_189001.out).2.1)
    rintro e w48 ⟨rfl, hb⟩
    have HS2_ := (hb.cell (World.block_lt_of_cell? _ _ (hHeld.2.2.1))).trans (hHeld.2.2.1)
    have HS3_ := (hb.cell (World.block_lt_of_cell? _ _ (hHeld.2.2.2.1))).trans (hHeld.2.2.2.1)
    have HS4_ := (hb.cell (World.block_lt_of_cell? _ _ (hHeld.2.2.2.2.1))).trans (hHeld.2.2.2.2.1)
    have HS5_ := (hb.cell (World.block_lt_of_cell? _ _ (hHeld.2.2.2.2.2.1))).trans (hHeld.2.2.2.2.2.1)
    have HS6_ := (hb.cell (World.block_lt_of_cell? _ _ (hHeld.2.2.2.2.2.2.1))).trans (hHeld.2.2.2.2.2.2.1)
    have HS7_ := (hb.cell (World.block_lt_of_cell? _ _ (hHeld.2.2.2.2.2.2.2.1))).trans (hHeld.2.2.2.2.2.2.2.1)
    have HS8_ := (hb.cell (World.block_lt_of_cell? _ _ (hHeld.2.2.2.2.2.2.2.2.1))).trans (hHeld.2.2.2.2.2.2.2.2.1)
    have HS9_ := (hb.cell (World.block_lt_of_cell? _ _ (hHeld.2.2.2.2.2.2.2.2.2.1))).trans (hHeld.2.2.2.2.2.2.2.2.2.1)
    have HS10_ := (hb.cell (World.block_lt_of_cell? _ _ (hHeld.2.2.2.2.2.2.2.2.2.2.1))).trans (hHeld.2.2.2.2.2.2.2.2.2.2.1)
    have HS11_ := (hb.cell (World.block_lt_of_cell? _ _ (hHeld.2.2.2.2.2.2.2.2.2.2.2.1))).trans (hHeld.2.2.2.2.2.2.2.2.2.2.2.1)
    have HS12_ := (hb.cell (World.block_lt_of_cell? _ _ (hHeld.2.2.2.2.2.2.2.2.2.2.2.2.1))).trans (hHeld.2.2.2.2.2.2.2.2.2.2.2.2.1)
    have HS13_ := (hb.cell (World.block_lt_of_cell? _ _ (hHeld.2.2.2.2.2.2.2.2.2.2.2.2.2.1))).trans (hHeld.2.2.2.2.2.2.2.2.2.2.2.2.2.1)
    have HS14_ := (hb.cell (World.block_lt_of_cell? _ _ (hHeld.2.2.2.2.2.2.2.2.2.2.2.2.2.2.1))).trans (hHeld.2.2.2.2.2.2.2.2.2.2.2.2.2.2.1)
    have HS15_ := (hb.cell (World.block_lt_of_cell? _ _ (hHeld.2.2.2.2.2.2.2.2.2.2.2.2.2.2.2.1))).trans (hHeld.2.2.2.2.2.2.2.2.2.2.2.2.2.2.2.1)
    have HS16_ := (hb.cell (World.block_lt_of_cell? _ _ (hHeld.2.2.2.2.2.2.2.2.2.2.2.2.2.2.2.2))).trans (hHeld.2.2.2.2.2.2.2.2.2.2.2.2.2.2.2.2)
    refine ⟨_, rfl, ?_⟩
    have n0_ := Qa.mk (Kd.Qh1 (by (with_reducible repeat (first | apply Kd.Qz | apply Kd.Qa1 | apply Kd.Qy)); exact HO_2.out) hb)
    have n1_ := Qa.mk (Kd.Qh1 (by (with_reducible repeat (first | apply Kd.Qz | apply Kd.Qa1 | apply Kd.Qy)); exact HO_3.out) hb)
    have n2_ := Qa.mk (Kd.Qh1 (by (with_reducible repeat (first | apply Kd.Qz | apply Kd.Qa1 | apply Kd.Qy)); exact HO_189000.out) hb)
    have n3_ := Qa.mk (Kd.N_below (by (with_reducible repeat (first | apply Kd.N_alloc | apply Kd.N_drewN | apply Kd.N_drew)); exact HO_189001.out) hb)
    have n4_ := Qa.mk (Qo (g := gb188) (o := .cells #[.slice Ao16 y176.length co16, .slice Ao15 y185.length co15] 25 (0, 0)) (by (with_reducible repeat (first | refine Qe ?_ _ | refine Qc ?_ | refine Qd ?_ _)); exact BK188.out) hb)
    have n5_ := Qa.mk (Qr (by with_reducible repeat (first | exact HB.out | apply Qj | apply Ql | apply Qk | refine Qi ?_ GE188.out)) hb)
    clear HO_2
    clear HO_3
    clear HO_189000
    clear HO_189001
    clear BK188
    clear HB
    have HO_2 := n0_
    have HO_3 := n1_
    have HO_189000 := n2_
    have HO_189001 := n3_
    have BK188 := n4_
    have HB := n5_
    clear n0_ n1_ n2_ n3_ n4_ n5_
    (try clear hb; try clear hb2; try clear hk; try clear hi)
    obtain ⟨Ao49, co49, eo49⟩ := Kd.R_slice HO_3.out
    (first | subst eo49 | (injection eo49 with f1_ f2_ f3_; have f4_ := f1_.symm; have f5_ := f3_.symm; clear f1_ f2_ f3_; subst f4_; subst f5_))
    refine hK.out _ _ ⟨(Qb BK188.out 0).trans rfl, (Qb BK188.out 1).trans rfl, HS2_, HS3_, HS4_, HS5_, HS6_, HS7_, HS8_, HS9_, HS10_, HS11_, HS12_, HS13_, HS14_, HS15_, HS16_⟩ (fun hHeld => ?_)
    clear hK K
    refine norm_ (a' := ?_) ?_ ?_
    rotate_left
    ·
     show Act.put _ (some 43) _ = _
     simp only [Act.put, List.setIfInBounds_toArray, List.set_cons_zero, List.set_cons_succ, i64_w, i32_w]
     rfl
    refine pure_ (i := 18) (N := some 47) (v := ?_) (a' := ?_) QB56_15 rfl rfl (Qm HT_.out (by kernel_rfl)) (fun _ _ _ h => h) (Or.inl ⟨by rfl, ?_⟩) ?_ ?_
    rotate_left
    ·
     intro w'
     go_simp
     with_reducible rfl
    rotate_left
    ·
     simp only [Act.put, List.setIfInBounds_toArray, List.set_cons_zero, List.set_cons_succ, i64_w, i32_w]
     rfl
    refine pure_ (i := 19) (N := some 48) (v := ?_) (a' := ?_) QB56_16 rfl rfl (Qm HT_.out (by kernel_rfl)) (fun _ _ _ h => h) (Or.inl ⟨by rfl, ?_⟩) ?_ ?_
    rotate_left
    ·
     intro w'
     go_simp
     with_reducible rfl
    rotate_left
    ·
     simp only [Act.put, List.setIfInBounds_toArray, List.set_cons_zero, List.set_cons_succ, i64_w, i32_w]
     rfl
    refine pure_ (i := 20) (N := some 49) (v := ?_) (a' := ?_) QB56_17 rfl rfl (Qm HT_.out (by kernel_rfl)) (fun _ _ _ h => h) (Or.inl ⟨by rfl, ?_⟩) ?_ ?_
    rotate_left
    ·
     intro w'
     go_simp
     with_reducible rfl
    rotate_left
    ·
     simp only [Act.put, List.setIfInBounds_toArray, List.set_cons_zero, List.set_cons_succ, i64_w, i32_w]
     rfl
    refine pure_ (i := 21) (N := some 50) (v := ?_) (a' := ?_) QB56_18 rfl rfl (Qm HT_.out (by kernel_rfl)) (fun _ _ _ h => h) (Or.inl ⟨by rfl, ?_⟩) ?_ ?_
    rotate_left
    ·
     intro w'
     go_simp
     with_reducible rfl
    rotate_left
    ·
     simp only [Act.put, List.setIfInBounds_toArray, List.set_cons_zero, List.set_cons_succ, i64_w, i32_w]
     rfl
    refine pure_ (i := 22) (N := some 51) (v := ?_) (a' := ?_) QB56_19 rfl rfl (Qm HT_.out (by kernel_rfl)) (fun _ _ _ h => h) (Or.inl ⟨by rfl, ?_⟩) ?_ ?_
    rotate_left
    ·
     intro w'
     go_simp
     with_reducible rfl
    rotate_left
    ·
     simp only [Act.put, List.setIfInBounds_toArray, List.set_cons_zero, List.set_cons_succ, i64_w, i32_w]
     rfl
    refine take_ (i := 23) (N := some 52) (v := ?_) (a' := ?_) QB56_20 rfl rfl (Qk1 HT_.out HW_.out (by kernel_rfl)) (fun _ _ _ h => h) (Or.inl ⟨by rfl, ?_⟩) hHeld ?_ ?_
    rotate_left
    ·
     rintro w' ⟨s0, s1, s2, s3, s4, s5, s6, s7, s8, s9, s10, s11, s12, s13, s14, s15, s16⟩
     go_simp
     with_reducible rfl
    rotate_left
    ·
     simp only [Act.put, List.setIfInBounds_toArray, List.set_cons_zero, List.set_cons_succ, i64_w, i32_w]
     rfl
    refine one_ (i := 24) (N := some 53) QB56_21 rfl rfl (one_of HT_.out (by kernel_rfl)) (by decide) (fun K hK => ?_)
    refine goes_ Try.func19 (by kernel_rfl) rfl #[.agg #[.bool ((Qg t195 0).f0), .bool ((Qg t195 0).f1), .bool ((Qg t195 0).f2)]] (by rfl) rfl rfl (by (try simp only [List.map_toArray, List.map_cons, List.map_nil]); first | done | rfl | (simp only [List.length_drop, List.length_take]; rfl)) ?_
    with_reducible refine (flow_Text.calls kj3 ((Qg t195 0).f0) ((Qg t195 0).f1) ((Qg t195 0).f2) t207 _ A40.out).mono ?_
    rintro e w50 ⟨rfl, hb⟩
    have HS2_ := (hb.cell (World.block_lt_of_cell? _ _ (hHeld.2.2.1))).trans (hHeld.2.2.1)
    have HS3_ := (hb.cell (World.block_lt_of_cell? _ _ (hHeld.2.2.2.1))).trans (hHeld.2.2.2.1)
    have HS4_ := (hb.cell (World.block_lt_of_cell? _ _ (hHeld.2.2.2.2.1))).trans (hHeld.2.2.2.2.1)
    have HS5_ := (hb.cell (World.block_lt_of_cell? _ _ (hHeld.2.2.2.2.2.1))).trans (hHeld.2.2.2.2.2.1)
    have HS6_ := (hb.cell (World.block_lt_of_cell? _ _ (hHeld.2.2.2.2.2.2.1))).trans (hHeld.2.2.2.2.2.2.1)
    have HS7_ := (hb.cell (World.block_lt_of_cell? _ _ (hHeld.2.2.2.2.2.2.2.1))).trans (hHeld.2.2.2.2.2.2.2.1)
    have HS8_ := (hb.cell (World.block_lt_of_cell? _ _ (hHeld.2.2.2.2.2.2.2.2.1))).trans (hHeld.2.2.2.2.2.2.2.2.1)
    have HS9_ := (hb.cell (World.block_lt_of_cell? _ _ (hHeld.2.2.2.2.2.2.2.2.2.1))).trans (hHeld.2.2.2.2.2.2.2.2.2.1)
    have HS10_ := (hb.cell (World.block_lt_of_cell? _ _ (hHeld.2.2.2.2.2.2.2.2.2.2.1))).trans (hHeld.2.2.2.2.2.2.2.2.2.2.1)
    have HS11_ := (hb.cell (World.block_lt_of_cell? _ _ (hHeld.2.2.2.2.2.2.2.2.2.2.2.1))).trans (hHeld.2.2.2.2.2.2.2.2.2.2.2.1)
    have HS12_ := (hb.cell (World.block_lt_of_cell? _ _ (hHeld.2.2.2.2.2.2.2.2.2.2.2.2.1))).trans (hHeld.2.2.2.2.2.2.2.2.2.2.2.2.1)
    have HS13_ := (hb.cell (World.block_lt_of_cell? _ _ (hHeld.2.2.2.2.2.2.2.2.2.2.2.2.2.1))).trans (hHeld.2.2.2.2.2.2.2.2.2.2.2.2.2.1)
    have HS14_ := (hb.cell (World.block_lt_of_cell? _ _ (hHeld.2.2.2.2.2.2.2.2.2.2.2.2.2.2.1))).trans (hHeld.2.2.2.2.2.2.2.2.2.2.2.2.2.2.1)
    have HS15_ := (hb.cell (World.block_lt_of_cell? _ _ (hHeld.2.2.2.2.2.2.2.2.2.2.2.2.2.2.2.1))).trans (hHeld.2.2.2.2.2.2.2.2.2.2.2.2.2.2.2.1)
    have HS16_ := (hb.cell (World.block_lt_of_cell? _ _ (hHeld.2.2.2.2.2.2.2.2.2.2.2.2.2.2.2.2))).trans (hHeld.2.2.2.2.2.2.2.2.2.2.2.2.2.2.2.2)
    refine ⟨_, rfl, ?_⟩
    have n0_ := Qa.mk (Kd.Qh1 (by (with_reducible repeat (first | apply Kd.Qz | apply Kd.Qa1 | apply Kd.Qy)); exact HO_2.out) hb)
    have n1_ := Qa.mk (Kd.Qh1 (by (with_reducible repeat (first | apply Kd.Qz | apply Kd.Qa1 | apply Kd.Qy)); exact HO_3.out) hb)
    have n2_ := Qa.mk (Kd.Qh1 (by (with_reducible repeat (first | apply Kd.Qz | apply Kd.Qa1 | apply Kd.Qy)); exact HO_189000.out) hb)
    have n3_ := Qa.mk (Kd.N_below (by (with_reducible repeat (first | apply Kd.N_alloc | apply Kd.N_drewN | apply Kd.N_drew)); exact HO_189001.out) hb)
    have n4_ := Qa.mk (Qo (g := gb188) (o := .cells #[.slice Ao16 y176.length co16, .slice Ao15 y185.length co15] 25 (0, 0)) (by (with_reducible repeat (first | refine Qe ?_ _ | refine Qc ?_ | refine Qd ?_ _)); exact BK188.out) hb)
    have n5_ := Qa.mk (Qr (by with_reducible repeat (first | exact HB.out | apply Qj | apply Ql | apply Qk | refine Qi ?_ GE188.out)) hb)
    clear HO_2
    clear HO_3
    clear HO_189000
    clear HO_189001
    clear BK188
    clear HB
    have HO_2 := n0_
    have HO_3 := n1_
    have HO_189000 := n2_
    have HO_189001 := n3_
    have BK188 := n4_
    have HB := n5_
    clear n0_ n1_ n2_ n3_ n4_ n5_
    (try clear hb; try clear hb2; try clear hk; try clear hi)
    refine hK.out _ _ ⟨(Qb BK188.out 0).trans rfl, (Qb BK188.out 1).trans rfl, HS2_, HS3_, HS4_, HS5_, HS6_, HS7_, HS8_, HS9_, HS10_, HS11_, HS12_, HS13_, HS14_, HS15_, HS16_⟩ (fun hHeld => ?_)
    clear hK K
    refine norm_ (a' := ?_) ?_ ?_
    rotate_left
    ·
     show Act.put _ (some 53) _ = _
     simp only [Act.put, List.setIfInBounds_toArray, List.set_cons_zero, List.set_cons_succ, i64_w, i32_w]
     rfl
    refine pure_ (i := 25) (N := some 54) (v := ?_) (a' := ?_) QB56_22 rfl rfl (Qm HT_.out (by kernel_rfl)) (fun _ _ _ h => h) (Or.inl ⟨by rfl, ?_⟩) ?_ ?_
    rotate_left
    ·
     intro w'
     go_simp
     with_reducible rfl
    rotate_left
    ·
     simp only [Act.put, List.setIfInBounds_toArray, List.set_cons_zero, List.set_cons_succ, i64_w, i32_w]
     rfl
    refine pure_ (i := 26) (N := some 55) (v := ?_) (a' := ?_) QB56_23 rfl rfl (Qm HT_.out (by kernel_rfl)) (fun _ _ _ h => h) (Or.inl ⟨by rfl, ?_⟩) ?_ ?_
    rotate_left
    ·
     intro w'
     go_simp
     with_reducible rfl
    rotate_left
    ·
     simp only [Act.put, List.setIfInBounds_toArray, List.set_cons_zero, List.set_cons_succ, i64_w, i32_w]
     rfl
    refine pure_ (i := 27) (N := some 56) (v := ?_) (a' := ?_) QB56_24 rfl rfl (Qm HT_.out (by kernel_rfl)) (fun _ _ _ h => h) (Or.inl ⟨by rfl, ?_⟩) ?_ ?_
    rotate_left
    ·
     intro w'
     go_simp
     with_reducible rfl
    rotate_left
    ·
     simp only [Act.put, List.setIfInBounds_toArray, List.set_cons_zero, List.set_cons_succ, i64_w, i32_w]
     rfl
    refine pure_ (i := 28) (N := some 57) (v := ?_) (a' := ?_) QB56_25 rfl rfl (Qm HT_.out (by kernel_rfl)) (fun _ _ _ h => h) (Or.inl ⟨by rfl, ?_⟩) ?_ ?_
    rotate_left
    ·
     intro w'
     go_simp
     with_reducible rfl
    rotate_left
    ·
     simp only [Act.put, List.setIfInBounds_toArray, List.set_cons_zero, List.set_cons_succ, i64_w, i32_w]
     rfl
    refine pure_ (i := 29) (N := some 58) (v := ?_) (a' := ?_) QB56_26 rfl rfl (Qm HT_.out (by kernel_rfl)) (fun _ _ _ h => h) (Or.inl ⟨by rfl, ?_⟩) ?_ ?_
    rotate_left
    ·
     intro w'
     go_simp
     with_reducible rfl
    rotate_left
    ·
     simp only [Act.put, List.setIfInBounds_toArray, List.set_cons_zero, List.set_cons_succ, i64_w, i32_w]
     rfl
    refine take_ (i := 30) (N := some 59) (v := ?_) (a' := ?_) QB56_27 rfl rfl (Qk1 HT_.out HW_.out (by kernel_rfl)) (fun _ _ _ h => h) (Or.inl ⟨by rfl, ?_⟩) hHeld ?_ ?_
    rotate_left
    ·
     rintro w' ⟨s0, s1, s2, s3, s4, s5, s6, s7, s8, s9, s10, s11, s12, s13, s14, s15, s16⟩
     go_simp
     with_reducible rfl
    rotate_left
    ·
     simp only [Act.put, List.setIfInBounds_toArray, List.set_cons_zero, List.set_cons_succ, i64_w, i32_w]
     rfl
    refine one_ (i := 31) (N := some 60) QB56_28 rfl rfl (one_of HT_.out (by kernel_rfl)) (by decide) (fun K hK => ?_)
    refine goes_ Try.func19 (by kernel_rfl) rfl #[.agg #[.bool ((Qg t195 1).f0), .bool ((Qg t195 1).f1), .bool ((Qg t195 1).f2)]] (by rfl) rfl rfl (by (try simp only [List.map_toArray, List.map_cons, List.map_nil]); first | done | rfl | (simp only [List.length_drop, List.length_take]; rfl)) ?_
    with_reducible refine (flow_Text.calls kj3 ((Qg t195 1).f0) ((Qg t195 1).f1) ((Qg t195 1).f2) t209 _ A43.out).mono ?_
    rintro e w51 ⟨rfl, hb⟩
    have HS2_ := (hb.cell (World.block_lt_of_cell? _ _ (hHeld.2.2.1))).trans (hHeld.2.2.1)
    have HS3_ := (hb.cell (World.block_lt_of_cell? _ _ (hHeld.2.2.2.1))).trans (hHeld.2.2.2.1)
    have HS4_ := (hb.cell (World.block_lt_of_cell? _ _ (hHeld.2.2.2.2.1))).trans (hHeld.2.2.2.2.1)
    have HS5_ := (hb.cell (World.block_lt_of_cell? _ _ (hHeld.2.2.2.2.2.1))).trans (hHeld.2.2.2.2.2.1)
    have HS6_ := (hb.cell (World.block_lt_of_cell? _ _ (hHeld.2.2.2.2.2.2.1))).trans (hHeld.2.2.2.2.2.2.1)
    have HS7_ := (hb.cell (World.block_lt_of_cell? _ _ (hHeld.2.2.2.2.2.2.2.1))).trans (hHeld.2.2.2.2.2.2.2.1)
    have HS8_ := (hb.cell (World.block_lt_of_cell? _ _ (hHeld.2.2.2.2.2.2.2.2.1))).trans (hHeld.2.2.2.2.2.2.2.2.1)
    have HS9_ := (hb.cell (World.block_lt_of_cell? _ _ (hHeld.2.2.2.2.2.2.2.2.2.1))).trans (hHeld.2.2.2.2.2.2.2.2.2.1)
    have HS10_ := (hb.cell (World.block_lt_of_cell? _ _ (hHeld.2.2.2.2.2.2.2.2.2.2.1))).trans (hHeld.2.2.2.2.2.2.2.2.2.2.1)
    have HS11_ := (hb.cell (World.block_lt_of_cell? _ _ (hHeld.2.2.2.2.2.2.2.2.2.2.2.1))).trans (hHeld.2.2.2.2.2.2.2.2.2.2.2.1)
    have HS12_ := (hb.cell (World.block_lt_of_cell? _ _ (hHeld.2.2.2.2.2.2.2.2.2.2.2.2.1))).trans (hHeld.2.2.2.2.2.2.2.2.2.2.2.2.1)
    have HS13_ := (hb.cell (World.block_lt_of_cell? _ _ (hHeld.2.2.2.2.2.2.2.2.2.2.2.2.2.1))).trans (hHeld.2.2.2.2.2.2.2.2.2.2.2.2.2.1)
    have HS14_ := (hb.cell (World.block_lt_of_cell? _ _ (hHeld.2.2.2.2.2.2.2.2.2.2.2.2.2.2.1))).trans (hHeld.2.2.2.2.2.2.2.2.2.2.2.2.2.2.1)
    have HS15_ := (hb.cell (World.block_lt_of_cell? _ _ (hHeld.2.2.2.2.2.2.2.2.2.2.2.2.2.2.2.1))).trans (hHeld.2.2.2.2.2.2.2.2.2.2.2.2.2.2.2.1)
    have HS16_ := (hb.cell (World.block_lt_of_cell? _ _ (hHeld.2.2.2.2.2.2.2.2.2.2.2.2.2.2.2.2))).trans (hHeld.2.2.2.2.2.2.2.2.2.2.2.2.2.2.2.2)
    refine ⟨_, rfl, ?_⟩
    have n0_ := Qa.mk (Kd.Qh1 (by (with_reducible repeat (first | apply Kd.Qz | apply Kd.Qa1 | apply Kd.Qy)); exact HO_2.out) hb)
    have n1_ := Qa.mk (Kd.Qh1 (by (with_reducible repeat (first | apply Kd.Qz | apply Kd.Qa1 | apply Kd.Qy)); exact HO_3.out) hb)
    have n2_ := Qa.mk (Kd.Qh1 (by (with_reducible repeat (first | apply Kd.Qz | apply Kd.Qa1 | apply Kd.Qy)); exact HO_189000.out) hb)
    have n3_ := Qa.mk (Kd.N_below (by (with_reducible repeat (first | apply Kd.N_alloc | apply Kd.N_drewN | apply Kd.N_drew)); exact HO_189001.out) hb)
    have n4_ := Qa.mk (Qo (g := gb188) (o := .cells #[.slice Ao16 y176.length co16, .slice Ao15 y185.length co15] 25 (0, 0)) (by (with_reducible repeat (first | refine Qe ?_ _ | refine Qc ?_ | refine Qd ?_ _)); exact BK188.out) hb)
    have n5_ := Qa.mk (Qr (by with_reducible repeat (first | exact HB.out | apply Qj | apply Ql | apply Qk | refine Qi ?_ GE188.out)) hb)
    clear HO_2
    clear HO_3
    clear HO_189000
    clear HO_189001
    clear BK188
    clear HB
    have HO_2 := n0_
    have HO_3 := n1_
    have HO_189000 := n2_
    have HO_189001 := n3_
    have BK188 := n4_
    have HB := n5_
    clear n0_ n1_ n2_ n3_ n4_ n5_
    (try clear hb; try clear hb2; try clear hk; try clear hi)
    refine hK.out _ _ ⟨(Qb BK188.out 0).trans rfl, (Qb BK188.out 1).trans rfl, HS2_, HS3_, HS4_, HS5_, HS6_, HS7_, HS8_, HS9_, HS10_, HS11_, HS12_, HS13_, HS14_, HS15_, HS16_⟩ (fun hHeld => ?_)
    clear hK K
    refine norm_ (a' := ?_) ?_ ?_
    rotate_left
    ·
     show Act.put _ (some 60) _ = _
     simp only [Act.put, List.setIfInBounds_toArray, List.set_cons_zero, List.set_cons_succ, i64_w, i32_w]
     rfl
    refine pure_ (i := 32) (N := some 61) (v := ?_) (a' := ?_) QB56_29 rfl rfl (Qm HT_.out (by kernel_rfl)) (fun _ _ _ h => h) (Or.inl ⟨by rfl, ?_⟩) ?_ ?_
    rotate_left
    ·
     intro w'
     go_simp
     with_reducible rfl
    rotate_left
    ·
     simp only [Act.put, List.setIfInBounds_toArray, List.set_cons_zero, List.set_cons_succ, i64_w, i32_w]
     rfl
    refine pure_ (i := 33) (N := some 62) (v := ?_) (a' := ?_) QB56_30 rfl rfl (Qm HT_.out (by kernel_rfl)) (fun _ _ _ h => h) (Or.inl ⟨by rfl, ?_⟩) ?_ ?_
    rotate_left
    ·
     intro w'
     go_simp
     with_reducible rfl
    rotate_left
    ·
     simp only [Act.put, List.setIfInBounds_toArray, List.set_cons_zero, List.set_cons_succ, i64_w, i32_w]
     rfl
    refine pure_ (i := 34) (N := some 0) (v := ?_) (a' := ?_) QB56_31 rfl rfl (Qm HT_.out (by kernel_rfl)) (fun _ _ _ h => h) (Or.inl ⟨by rfl, ?_⟩) ?_ ?_
    rotate_left
    ·
     intro w'
     go_simp
     with_reducible rfl
    rotate_left
    ·
     simp only [Act.put, List.setIfInBounds_toArray, List.set_cons_zero, List.set_cons_succ, i64_w, i32_w]
     rfl
    refine done_ (done_of HT_.out (by kernel_rfl)) ?_
    try go_wp2
    go_ret
    exact ⟨by first | rfl | (simp [Qt, Qs] <;> rfl) | (simp [*, Qt, Qs] <;> rfl), by with_reducible repeat (first | exact HB.out | apply Qj | apply Ql | apply Qk | refine Qi ?_ GE188.out)⟩
   rw [if_neg c41] at H
   have c41b0 : (t207.toList == ([101, 102] : List UInt8)) = false := beq_eq_false_iff_ne.mpr c41
   have c41b1 : (t207.toList != ([101, 102] : List UInt8)) = true := bne_iff_ne.mpr c41
   obtain rfl := Option.some.inj H
   try go_wp2
   have n0_ := Qa.mk (Kd.Qy HO_2.out)
   have n1_ := Qa.mk (Kd.Qy HO_3.out)
   have n2_ := Qa.mk (Kd.Qy HO_189000.out)
   have n3_ := Qa.mk (Kd.N_drew HO_189001.out)
   have n4_ := Qa.mk (Qc BK188.out)
   have n5_ := Qa.mk (Qk HB.out)
   clear HO_2
   clear HO_3
   clear HO_189000
   clear HO_189001
   clear BK188
   clear HB
   have HO_2 := n0_
   have HO_3 := n1_
   have HO_189000 := n2_
   have HO_189001 := n3_
   have BK188 := n4_
   have HB := n5_
   clear n0_ n1_ n2_ n3_ n4_ n5_
   obtain ⟨Ao53, co53, eo53⟩ := Kd.R_slice HO_2.out
   (first | subst eo53 | (injection eo53 with f1_ f2_ f3_; have f4_ := f1_.symm; have f5_ := f3_.symm; clear f1_ f2_ f3_; subst f4_; subst f5_))
   have p198 : 0 ≤ (2 : Int) := (by omega)
   have q198 : 2 < (t189.length : Int) := of_decide_eq_true (by assumption)
   obtain ⟨ad198, e198, hx198_0, hx198_1, hx198_2⟩ := at_T36 (Kd.R_reads' HO_2.out).2.2 2 p198 q198
   cases e198
   (try simp only [show (2 : Int).toNat = 2 from rfl, Nat.reduceMul, Nat.reduceEqDiff, Go.Addr.add, ↓reduceIte] at hx198_0)
   (try simp only [show (2 : Int).toNat = 2 from rfl, Nat.reduceMul, Nat.reduceEqDiff, Go.Addr.add, ↓reduceIte] at hx198_1)
   (try simp only [show (2 : Int).toNat = 2 from rfl, Nat.reduceMul, Nat.reduceEqDiff, Go.Addr.add, ↓reduceIte] at hx198_2)
   have qi198 : (2 < t189.length) = True := eq_true (by omega)
   (try rw [show ((2 : Int)).toNat = 2 from rfl] at hx198_0)
   (try rw [show 2 * 3 = 6 from rfl] at hx198_0)
   (try rw [show ((2 : Int)).toNat = 2 from rfl] at hx198_1)
   (try rw [show 2 * 3 = 6 from rfl] at hx198_1)
   (try rw [show ((2 : Int)).toNat = 2 from rfl] at hx198_2)
   (try rw [show 2 * 3 = 6 from rfl] at hx198_2)
   replace p198 := eq_true p198
   replace q198 := eq_true q198
   have p200 : 0 ≤ (4 : Int) := (by omega)
   have q200 : 4 < (t189.length : Int) := of_decide_eq_true (by assumption)
   obtain ⟨ad200, e200, hx200_0, hx200_1, hx200_2⟩ := at_T36 (Kd.R_reads' HO_2.out).2.2 4 p200 q200
   obtain rfl : ad198 = ad200 := (by injection e200)
   (try simp only [show (4 : Int).toNat = 4 from rfl, Nat.reduceMul, Nat.reduceEqDiff, Go.Addr.add, ↓reduceIte] at hx200_0)
   (try simp only [show (4 : Int).toNat = 4 from rfl, Nat.reduceMul, Nat.reduceEqDiff, Go.Addr.add, ↓reduceIte] at hx200_1)
   (try simp only [show (4 : Int).toNat = 4 from rfl, Nat.reduceMul, Nat.reduceEqDiff, Go.Addr.add, ↓reduceIte] at hx200_2)
   have qi200 : (4 < t189.length) = True := eq_true (by omega)
   (try rw [show ((4 : Int)).toNat = 4 from rfl] at hx200_0)
   (try rw [show 4 * 3 = 12 from rfl] at hx200_0)
   (try rw [show ((4 : Int)).toNat = 4 from rfl] at hx200_1)
   (try rw [show 4 * 3 = 12 from rfl] at hx200_1)
   (try rw [show ((4 : Int)).toNat = 4 from rfl] at hx200_2)
   (try rw [show 4 * 3 = 12 from rfl] at hx200_2)
   replace p200 := eq_true p200
   replace q200 := eq_true q200
   have p205 : 0 ≤ (4 : Int) := (by omega)
   have q205 : 4 < (t189.length : Int) := of_decide_eq_true (by assumption)
   obtain ⟨ad205, e205, hx205_0, hx205_1, hx205_2⟩ := at_T36 (Kd.R_reads' HO_2.out).2.2 4 p205 q205
   obtain rfl : ad198 = ad205 := (by injection e205)
   (try simp only [show (4 : Int).toNat = 4 from rfl, Nat.reduceMul, Nat.reduceEqDiff, Go.Addr.add, ↓reduceIte] at hx205_0)
   (try simp only [show (4 : Int).toNat = 4 from rfl, Nat.reduceMul, Nat.reduceEqDiff, Go.Addr.add, ↓reduceIte] at hx205_1)
   (try simp only [show (4 : Int).toNat = 4 from rfl, Nat.reduceMul, Nat.reduceEqDiff, Go.Addr.add, ↓reduceIte] at hx205_2)
   have qi205 : (4 < t189.length) = True := eq_true (by omega)
   (try rw [show ((4 : Int)).toNat = 4 from rfl] at hx205_0)
   (try rw [show 4 * 3 = 12 from rfl] at hx205_0)
   (try rw [show ((4 : Int)).toNat = 4 from rfl] at hx205_1)
   (try rw [show 4 * 3 = 12 from rfl] at hx205_1)
   (try rw [show ((4 : Int)).toNat = 4 from rfl] at hx205_2)
   (try rw [show 4 * 3 = 12 from rfl] at hx205_2)
   replace p205 := eq_true p205
   replace q205 := eq_true q205
   (obtain ⟨Ao_, co_, eo_⟩ := Kd.R_slice HO_3.out; first | subst eo_ | skip)
   have p206 : 0 ≤ (0 : Int) := (by omega)
   have q206 : 0 < (t195.length : Int) := of_decide_eq_true (by assumption)
   obtain ⟨ad206, e206, hx206_0, hx206_1, hx206_2⟩ := at_T36 (Kd.R_reads' HO_3.out).2.2 0 p206 q206
   cases e206
   have qi206 : (0 < t195.length) = True := eq_true (by omega)
   (try rw [show ((0 : Int)).toNat = 0 from rfl] at hx206_0)
   (try rw [show 0 * 3 = 0 from rfl] at hx206_0)
   (try rw [Addr.add_zero'] at hx206_0)
   (try rw [show ((0 : Int)).toNat = 0 from rfl] at hx206_1)
   (try rw [show 0 * 3 = 0 from rfl] at hx206_1)
   (try rw [Addr.add_zero'] at hx206_1)
   (try rw [show ((0 : Int)).toNat = 0 from rfl] at hx206_2)
   (try rw [show 0 * 3 = 0 from rfl] at hx206_2)
   (try rw [Addr.add_zero'] at hx206_2)
   replace p206 := eq_true p206
   replace q206 := eq_true q206
   refine start_ (n := 35) (S := fun w' => w'.cell? ⟨gb188, 0, none⟩ = some (.slice Ao16 y176.length co16) ∧ w'.cell? ⟨gb188, 1, none⟩ = some (.slice Ao15 y185.length co15) ∧ w'.cell? ⟨ad198.block, ad198.off + 6, none⟩ = some (.bool ((Qg t189 2).f0)) ∧ w'.cell? ⟨ad198.block, ad198.off + 6 + 1, none⟩ = some (.bool ((Qg t189 2).f1)) ∧ w'.cell? ⟨ad198.block, ad198.off + 6 + 2, none⟩ = some (.bool ((Qg t189 2).f2)) ∧ w'.cell? ⟨ad198.block, ad198.off + 12, none⟩ = some (.bool ((Qg t189 4).f0)) ∧ w'.cell? ⟨ad198.block, ad198.off + 12 + 1, none⟩ = some (.bool ((Qg t189 4).f1)) ∧ w'.cell? ⟨ad198.block, ad198.off + 12 + 2, none⟩ = some (.bool ((Qg t189 4).f2)) ∧ w'.cell? ⟨ad198.block, ad198.off + 12, none⟩ = some (.bool ((Qg t189 4).f0)) ∧ w'.cell? ⟨ad198.block, ad198.off + 12 + 1, none⟩ = some (.bool ((Qg t189 4).f1)) ∧ w'.cell? ⟨ad198.block, ad198.off + 12 + 2, none⟩ = some (.bool ((Qg t189 4).f2)) ∧ w'.cell? ad206 = some (.bool ((Qg t195 0).f0)) ∧ w'.cell? ⟨ad206.block, ad206.off + 1, none⟩ = some (.bool ((Qg t195 0).f1)) ∧ w'.cell? ⟨ad206.block, ad206.off + 2, none⟩ = some (.bool ((Qg t195 0).f2))) (ds := []) QB56_0 (by kernel_rfl) rfl rfl ⟨(Qb BK188.out 0).trans rfl, (Qb BK188.out 1).trans rfl, hx198_0, hx198_1, hx198_2, hx200_0, hx200_1, hx200_2, hx205_0, hx205_1, hx205_2, hx206_0, hx206_1, hx206_2⟩ (fun hHeld => ?_); refine with_tabW Qi1.tab6 Qi1.bits6 (fun HT_ HW_ => ?_)
   generalize wc.drew = w52 at HO_2 HO_3 HO_189000 HO_189001 BK188 HB hx198_0 hx198_1 hx198_2 hx200_0 hx200_1 hx200_2 hx205_0 hx205_1 hx205_2 hx206_0 hx206_1 hx206_2 hHeld ⊢
   refine pure_ (i := 0) (N := some 29) (v := ?_) (a' := ?_) QB56_1 rfl rfl (Qm HT_.out (by kernel_rfl)) (fun _ _ _ h => h) (Or.inl ⟨by rfl, ?_⟩) ?_ ?_
   rotate_left
   ·
    intro w'
    go_simp
    with_reducible rfl
   rotate_left
   ·
    simp only [Act.put, List.setIfInBounds_toArray, List.set_cons_zero, List.set_cons_succ, i64_w, i32_w]
    rfl
   refine pure_ (i := 1) (N := some 30) (v := ?_) (a' := ?_) QB56_2 rfl rfl (Qm HT_.out (by kernel_rfl)) (fun _ _ _ h => h) (Or.inl ⟨by rfl, ?_⟩) ?_ ?_
   rotate_left
   ·
    intro w'
    go_simp
    with_reducible rfl
   rotate_left
   ·
    simp only [Act.put, List.setIfInBounds_toArray, List.set_cons_zero, List.set_cons_succ, i64_w, i32_w]
    rfl
   refine take_ (i := 2) (N := some 31) (v := ?_) (a' := ?_) QB56_3 rfl rfl (Qk1 HT_.out HW_.out (by kernel_rfl)) (fun _ _ _ h => h) (Or.inl ⟨by rfl, ?_⟩) hHeld ?_ ?_
   rotate_left
   ·
    rintro w' ⟨s0, s1, s2, s3, s4, s5, s6, s7, s8, s9, s10, s11, s12, s13⟩
    go_simp
    with_reducible rfl
   rotate_left
   ·
    simp only [Act.put, List.setIfInBounds_toArray, List.set_cons_zero, List.set_cons_succ, i64_w, i32_w]
    rfl
   refine one_ (i := 3) (N := some 32) QB56_4 rfl rfl (one_of HT_.out (by kernel_rfl)) (by decide) (fun K hK => ?_)
   refine goes_ Try.func19 (by kernel_rfl) rfl #[.agg #[.bool ((Qg t189 2).f0), .bool ((Qg t189 2).f1), .bool ((Qg t189 2).f2)]] (by rfl) rfl rfl (by (try simp only [List.map_toArray, List.map_cons, List.map_nil]); first | done | rfl | (simp only [List.length_drop, List.length_take]; rfl)) ?_
   with_reducible refine (flow_Text.calls kj3 ((Qg t189 2).f0) ((Qg t189 2).f1) ((Qg t189 2).f2) t199 _ A32.out).mono ?_
   rintro e w54 ⟨rfl, hb⟩
   have HS2_ := (hb.cell (World.block_lt_of_cell? _ _ (hHeld.2.2.1))).trans (hHeld.2.2.1)
   have HS3_ := (hb.cell (World.block_lt_of_cell? _ _ (hHeld.2.2.2.1))).trans (hHeld.2.2.2.1)
   have HS4_ := (hb.cell (World.block_lt_of_cell? _ _ (hHeld.2.2.2.2.1))).trans (hHeld.2.2.2.2.1)
   have HS5_ := (hb.cell (World.block_lt_of_cell? _ _ (hHeld.2.2.2.2.2.1))).trans (hHeld.2.2.2.2.2.1)
   have HS6_ := (hb.cell (World.block_lt_of_cell? _ _ (hHeld.2.2.2.2.2.2.1))).trans (hHeld.2.2.2.2.2.2.1)
   have HS7_ := (hb.cell (World.block_lt_of_cell? _ _ (hHeld.2.2.2.2.2.2.2.1))).trans (hHeld.2.2.2.2.2.2.2.1)
   have HS8_ := (hb.cell (World.block_lt_of_cell? _ _ (hHeld.2.2.2.2.2.2.2.2.1))).trans (hHeld.2.2.2.2.2.2.2.2.1)
   have HS9_ := (hb.cell (World.block_lt_of_cell? _ _ (hHeld.2.2.2.2.2.2.2.2.2.1))).trans (hHeld.2.2.2.2.2.2.2.2.2.1)
   have HS10_ := (hb.cell (World.block_lt_of_cell? _ _ (hHeld.2.2.2.2.2.2.2.2.2.2.1))).trans (hHeld.2.2.2.2.2.2.2.2.2.2.1)
   have HS11_ := (hb.cell (World.block_lt_of_cell? _ _ (hHeld.2.2.2.2.2.2.2.2.2.2.2.1))).trans (hHeld.2.2.2.2.2.2.2.2.2.2.2.1)
   have HS12_ := (hb.cell (World.block_lt_of_cell? _ _ (hHeld.2.2.2.2.2.2.2.2.2.2.2.2.1))).trans (hHeld.2.2.2.2.2.2.2.2.2.2.2.2.1)
   have HS13_ := (hb.cell (World.block_lt_of_cell? _ _ (hHeld.2.2.2.2.2.2.2.2.2.2.2.2.2))).trans (hHeld.2.2.2.2.2.2.2.2.2.2.2.2.2)
   refine ⟨_, rfl, ?_⟩
   have n0_ := Qa.mk (Kd.Qh1 (by (with_reducible repeat (first | apply Kd.Qz | apply Kd.Qa1 | apply Kd.Qy)); exact HO_2.out) hb)
   have n1_ := Qa.mk (Kd.Qh1 (by (with_reducible repeat (first | apply Kd.Qz | apply Kd.Qa1 | apply Kd.Qy)); exact HO_3.out) hb)
   have n2_ := Qa.mk (Kd.Qh1 (by (with_reducible repeat (first | apply Kd.Qz | apply Kd.Qa1 | apply Kd.Qy)); exact HO_189000.out) hb)
   have n3_ := Qa.mk (Kd.N_below (by (with_reducible repeat (first | apply Kd.N_alloc | apply Kd.N_drewN | apply Kd.N_drew)); exact HO_189001.out) hb)
   have n4_ := Qa.mk (Qo (g := gb188) (o := .cells #[.slice Ao16 y176.length co16, .slice Ao15 y185.length co15] 25 (0, 0)) (by (with_reducible repeat (first | refine Qe ?_ _ | refine Qc ?_ | refine Qd ?_ _)); exact BK188.out) hb)
   have n5_ := Qa.mk (Qr (by with_reducible repeat (first | exact HB.out | apply Qj | apply Ql | apply Qk | refine Qi ?_ GE188.out)) hb)
   clear HO_2
   clear HO_3
   clear HO_189000
   clear HO_189001
   clear BK188
   clear HB
   have HO_2 := n0_
   have HO_3 := n1_
   have HO_189000 := n2_
   have HO_189001 := n3_
   have BK188 := n4_
   have HB := n5_
   clear n0_ n1_ n2_ n3_ n4_ n5_
   (try clear hb; try clear hb2; try clear hk; try clear hi)
   refine hK.out _ _ ⟨(Qb BK188.out 0).trans rfl, (Qb BK188.out 1).trans rfl, HS2_, HS3_, HS4_, HS5_, HS6_, HS7_, HS8_, HS9_, HS10_, HS11_, HS12_, HS13_⟩ (fun hHeld => ?_)
   clear hK K
   refine norm_ (a' := ?_) ?_ ?_
   rotate_left
   ·
    show Act.put _ (some 32) _ = _
    simp only [Act.put, List.setIfInBounds_toArray, List.set_cons_zero, List.set_cons_succ, i64_w, i32_w]
    rfl
   refine pure_ (i := 4) (N := some 33) (v := ?_) (a' := ?_) QB56_5 rfl rfl (Qm HT_.out (by kernel_rfl)) (fun _ _ _ h => h) (Or.inl ⟨by rfl, ?_⟩) ?_ ?_
   rotate_left
   ·
    intro w'
    go_simp
    with_reducible rfl
   rotate_left
   ·
    simp only [Act.put, List.setIfInBounds_toArray, List.set_cons_zero, List.set_cons_succ, i64_w, i32_w]
    rfl
   refine pure_ (i := 5) (N := some 34) (v := ?_) (a' := ?_) QB56_6 rfl rfl (Qm HT_.out (by kernel_rfl)) (fun _ _ _ h => h) (Or.inl ⟨by rfl, ?_⟩) ?_ ?_
   rotate_left
   ·
    intro w'
    go_simp
    with_reducible rfl
   rotate_left
   ·
    simp only [Act.put, List.setIfInBounds_toArray, List.set_cons_zero, List.set_cons_succ, i64_w, i32_w]
    rfl
   refine pure_ (i := 6) (N := some 35) (v := ?_) (a' := ?_) QB56_7 rfl rfl (Qm HT_.out (by kernel_rfl)) (fun _ _ _ h => h) (Or.inl ⟨by rfl, ?_⟩) ?_ ?_
   rotate_left
   ·
    intro w'
    go_simp
    with_reducible rfl
   rotate_left
   ·
    simp only [Act.put, List.setIfInBounds_toArray, List.set_cons_zero, List.set_cons_succ, i64_w, i32_w]
    rfl
   refine pure_ (i := 7) (N := some 36) (v := ?_) (a' := ?_) QB56_8 rfl rfl (Qm HT_.out (by kernel_rfl)) (fun _ _ _ h => h) (Or.inl ⟨by rfl, ?_⟩) ?_ ?_
   rotate_left
   ·
    intro w'
    go_simp
    with_reducible rfl
   rotate_left
   ·
    simp only [Act.put, List.setIfInBounds_toArray, List.set_cons_zero, List.set_cons_succ, i64_w, i32_w]
    rfl
   refine take_ (i := 8) (N := some 37) (v := ?_) (a' := ?_) QB56_9 rfl rfl (Qk1 HT_.out HW_.out (by kernel_rfl)) (fun _ _ _ h => h) (Or.inl ⟨by rfl, ?_⟩) hHeld ?_ ?_
   rotate_left
   ·
    rintro w' ⟨s0, s1, s2, s3, s4, s5, s6, s7, s8, s9, s10, s11, s12, s13⟩
    go_simp
    with_reducible rfl
   rotate_left
   ·
    simp only [Act.put, List.setIfInBounds_toArray, List.set_cons_zero, List.set_cons_succ, i64_w, i32_w]
    rfl
   refine one_ (i := 9) (N := some 38) QB56_10 rfl rfl (one_of HT_.out (by kernel_rfl)) (by decide) (fun K hK => ?_)
   refine goes_ Try.func19 (by kernel_rfl) rfl #[.agg #[.bool ((Qg t189 4).f0), .bool ((Qg t189 4).f1), .bool ((Qg t189 4).f2)]] (by rfl) rfl rfl (by (try simp only [List.map_toArray, List.map_cons, List.map_nil]); first | done | rfl | (simp only [List.length_drop, List.length_take]; rfl)) ?_
   with_reducible refine (flow_Text.calls kj3 ((Qg t189 4).f0) ((Qg t189 4).f1) ((Qg t189 4).f2) t201 _ A35.out).mono ?_
   rintro e w55 ⟨rfl, hb⟩
   have HS2_ := (hb.cell (World.block_lt_of_cell? _ _ (hHeld.2.2.1))).trans (hHeld.2.2.1)
   have HS3_ := (hb.cell (World.block_lt_of_cell? _ _ (hHeld.2.2.2.1))).trans (hHeld.2.2.2.1)
   have HS4_ := (hb.cell (World.block_lt_of_cell? _ _ (hHeld.2.2.2.2.1))).trans (hHeld.2.2.2.2.1)
   have HS5_ := (hb.cell (World.block_lt_of_cell? _ _ (hHeld.2.2.2.2.2.1))).trans (hHeld.2.2.2.2.2.1)
   have HS6_ := (hb.cell (World.block_lt_of_cell? _ _ (hHeld.2.2.2.2.2.2.1))).trans (hHeld.2.2.2.2.2.2.1)
   have HS7_ := (hb.cell (World.block_lt_of_cell? _ _ (hHeld.2.2.2.2.2.2.2.1))).trans (hHeld.2.2.2.2.2.2.2.1)
   have HS8_ := (hb.cell (World.block_lt_of_cell? _ _ (hHeld.2.2.2.2.2.2.2.2.1))).trans (hHeld.2.2.2.2.2.2.2.2.1)
   have HS9_ := (hb.cell (World.block_lt_of_cell? _ _ (hHeld.2.2.2.2.2.2.2.2.2.1))).trans (hHeld.2.2.2.2.2.2.2.2.2.1)
   have HS10_ := (hb.cell (World.block_lt_of_cell? _ _ (hHeld.2.2.2.2.2.2.2.2.2.2.1))).trans (hHeld.2.2.2.2.2.2.2.2.2.2.1)
   have HS11_ := (hb.cell (World.block_lt_of_cell? _ _ (hHeld.2.2.2.2.2.2.2.2.2.2.2.1))).trans (hHeld.2.2.2.2.2.2.2.2.2.2.2.1)
   have HS12_ := (hb.cell (World.block_lt_of_cell? _ _ (hHeld.2.2.2.2.2.2.2.2.2.2.2.2.1))).trans (hHeld.2.2.2.2.2.2.2.2.2.2.2.2.1)
   have HS13_ := (hb.cell (World.block_lt_of_cell? _ _ (hHeld.2.2.2.2.2.2.2.2.2.2.2.2.2))).trans (hHeld.2.2.2.2.2.2.2.2.2.2.2.2.2)
   refine ⟨_, rfl, ?_⟩
   have n0_ := Qa.mk (Kd.Qh1 (by (with_reducible repeat (first | apply Kd.Qz | apply Kd.Qa1 | apply Kd.Qy)); exact HO_2.out) hb)
   have n1_ := Qa.mk (Kd.Qh1 (by (with_reducible repeat (first | apply Kd.Qz | apply Kd.Qa1 | apply Kd.Qy)); exact HO_3.out) hb)
   have n2_ := Qa.mk (Kd.Qh1 (by (with_reducible repeat (first | apply Kd.Qz | apply Kd.Qa1 | apply Kd.Qy)); exact HO_189000.out) hb)
   have n3_ := Qa.mk (Kd.N_below (by (with_reducible repeat (first | apply Kd.N_alloc | apply Kd.N_drewN | apply Kd.N_drew)); exact HO_189001.out) hb)
   have n4_ := Qa.mk (Qo (g := gb188) (o := .cells #[.slice Ao16 y176.length co16, .slice Ao15 y185.length co15] 25 (0, 0)) (by (with_reducible repeat (first | refine Qe ?_ _ | refine Qc ?_ | refine Qd ?_ _)); exact BK188.out) hb)
   have n5_ := Qa.mk (Qr (by with_reducible repeat (first | exact HB.out | apply Qj | apply Ql | apply Qk | refine Qi ?_ GE188.out)) hb)
   clear HO_2
   clear HO_3
   clear HO_189000
   clear HO_189001
   clear BK188
   clear HB
   have HO_2 := n0_
   have HO_3 := n1_
   have HO_189000 := n2_
   have HO_189001 := n3_
   have BK188 := n4_
   have HB := n5_
   clear n0_ n1_ n2_ n3_ n4_ n5_
   (try clear hb; try clear hb2; try clear hk; try clear hi)
   refine hK.out _ _ ⟨(Qb BK188.out 0).trans rfl, (Qb BK188.out 1).trans rfl, HS2_, HS3_, HS4_, HS5_, HS6_, HS7_, HS8_, HS9_, HS10_, HS11_, HS12_, HS13_⟩ (fun hHeld => ?_)
   clear hK K
   refine norm_ (a' := ?_) ?_ ?_
   rotate_left
   ·
    show Act.put _ (some 38) _ = _
    simp only [Act.put, List.setIfInBounds_toArray, List.set_cons_zero, List.set_cons_succ, i64_w, i32_w]
    rfl
   refine pure_ (i := 10) (N := some 39) (v := ?_) (a' := ?_) QB56_11 rfl rfl (Qm HT_.out (by kernel_rfl)) (fun _ _ _ h => h) (Or.inl ⟨by rfl, ?_⟩) ?_ ?_
   rotate_left
   ·
    intro w'
    go_simp
    with_reducible rfl
   rotate_left
   ·
    simp only [Act.put, List.setIfInBounds_toArray, List.set_cons_zero, List.set_cons_succ, i64_w, i32_w]
    rfl
   refine pure_ (i := 11) (N := some 40) (v := ?_) (a' := ?_) QB56_12 rfl rfl (Qm HT_.out (by kernel_rfl)) (fun _ _ _ h => h) (Or.inl ⟨by rfl, ?_⟩) ?_ ?_
   rotate_left
   ·
    intro w'
    go_simp
    with_reducible rfl
   rotate_left
   ·
    simp only [Act.put, List.setIfInBounds_toArray, List.set_cons_zero, List.set_cons_succ, i64_w, i32_w]
    rfl
   refine pure_ (i := 12) (N := some 41) (v := ?_) (a' := ?_) QB56_13 rfl rfl (Qm HT_.out (by kernel_rfl)) (fun _ _ _ h => h) (Or.inl ⟨by rfl, ?_⟩) ?_ ?_
   rotate_left
   ·
    intro w'
    go_simp
    with_reducible rfl
   rotate_left
   ·
    simp only [Act.put, List.setIfInBounds_toArray, List.set_cons_zero, List.set_cons_succ, i64_w, i32_w]
    rfl
   refine pure_ (i := 15) (N := some 44) (v := ?_) (a' := ?_) QB56_32 rfl rfl (Qm HT_.out (by kernel_rfl)) (fun _ _ _ h => h) (Or.inl ⟨by rfl, ?_⟩) ?_ ?_
   rotate_left
   ·
    intro w'
    go_simp
    with_reducible rfl
   rotate_left
   ·
    simp only [Act.put, List.setIfInBounds_toArray, List.set_cons_zero, List.set_cons_succ, i64_w, i32_w]
    rfl
   refine pure_ (i := 16) (N := some 45) (v := ?_) (a' := ?_) QB56_33 rfl rfl (Qm HT_.out (by kernel_rfl)) (fun _ _ _ h => h) (Or.inl ⟨by rfl, ?_⟩) ?_ ?_
   rotate_left
   ·
    intro w'
    go_simp
    with_reducible rfl
   rotate_left
   ·
    simp only [Act.put, List.setIfInBounds_toArray, List.set_cons_zero, List.set_cons_succ, i64_w, i32_w]
    rfl
   refine take_ (i := 13) (N := some 42) (v := ?_) (a' := ?_) QB56_34 rfl rfl (Qk1 HT_.out HW_.out (by kernel_rfl)) (fun _ _ _ h => h) (Or.inl ⟨by rfl, ?_⟩) hHeld ?_ ?_
   rotate_left
   ·
    rintro w' ⟨s0, s1, s2, s3, s4, s5, s6, s7, s8, s9, s10, s11, s12, s13⟩
    go_simp
    with_reducible rfl
   rotate_left
   ·
    simp only [Act.put, List.setIfInBounds_toArray, List.set_cons_zero, List.set_cons_succ, i64_w, i32_w]
    rfl
   refine take_ (i := 17) (N := some 46) (v := ?_) (a' := ?_) QB56_35 rfl rfl (Qk1 HT_.out HW_.out (by kernel_rfl)) (fun _ _ _ h => h) (Or.inl ⟨by rfl, ?_⟩) hHeld ?_ ?_
   rotate_left
   ·
    rintro w' ⟨s0, s1, s2, s3, s4, s5, s6, s7, s8, s9, s10, s11, s12, s13⟩
    go_simp
    with_reducible rfl
   rotate_left
   ·
    simp only [Act.put, List.setIfInBounds_toArray, List.set_cons_zero, List.set_cons_succ, i64_w, i32_w]
    rfl
   refine one_ (i := 14) (N := some 43) QB56_14 rfl rfl (one_of HT_.out (by kernel_rfl)) (by decide) (fun K hK => ?_)
   refine goes_ Try.func14 (by kernel_rfl) rfl #[.agg #[.slice Ao16 y176.length co16, .slice Ao15 y185.length co15], .int .i64 0] (by rfl) rfl rfl (by (try simp only [List.map_toArray, List.map_cons, List.map_nil]); first | done | rfl | (simp only [List.length_drop, List.length_take]; rfl)) ?_
   with_reducible refine (flow_Rule.calls kj3 _ _ y176 _ _ y185 0 t202 t203 t204 _ ?side1 ?side2 ?side3 ?side4 A37.out).mono ?_
   (case side1 => repeat (first | exact (Kd.R_reads' HO_189000.out).2.2 | (with_reducible refine Kd.Qf1 ?_ _) | (with_reducible refine Kd.Qe1 ?_ _) | (with_reducible refine Kd.C_drew ?_)))
   (case side2 => exact (Kd.R_reads' HO_189000.out).2.1)
   (case side3 => repeat (first | exact (Kd.N_reads' HO_189001.out).2.2 | (with_reducible refine Kd.Qf1 ?_ _) | (with_reducible refine Kd.Qe1 ?_ _) | (with_reducible refine Kd.C_drew ?_)))
   (case side4 => exact (Kd.N_reads' HO_189001.out).2.1)
   rintro e w56 ⟨rfl, hb⟩
   have HS2_ := (hb.cell (World.block_lt_of_cell? _ _ (hHeld.2.2.1))).trans (hHeld.2.2.1)
   have HS3_ := (hb.cell (World.block_lt_of_cell? _ _ (hHeld.2.2.2.1))).trans (hHeld.2.2.2.1)
   have HS4_ := (hb.cell (World.block_lt_of_cell? _ _ (hHeld.2.2.2.2.1))).trans (hHeld.2.2.2.2.1)
   have HS5_ := (hb.cell (World.block_lt_of_cell? _ _ (hHeld.2.2.2.2.2.1))).trans (hHeld.2.2.2.2.2.1)
   have HS6_ := (hb.cell (World.block_lt_of_cell? _ _ (hHeld.2.2.2.2.2.2.1))).trans (hHeld.2.2.2.2.2.2.1)
   have HS7_ := (hb.cell (World.block_lt_of_cell? _ _ (hHeld.2.2.2.2.2.2.2.1))).trans (hHeld.2.2.2.2.2.2.2.1)
   have HS8_ := (hb.cell (World.block_lt_of_cell? _ _ (hHeld.2.2.2.2.2.2.2.2.1))).trans (hHeld.2.2.2.2.2.2.2.2.1)
   have HS9_ := (hb.cell (World.block_lt_of_cell? _ _ (hHeld.2.2.2.2.2.2.2.2.2.1))).trans (hHeld.2.2.2.2.2.2.2.2.2.1)
   have HS10_ := (hb.cell (World.block_lt_of_cell? _ _ (hHeld.2.2.2.2.2.2.2.2.2.2.1))).trans (hHeld.2.2.2.2.2.2.2.2.2.2.1)
   have HS11_ := (hb.cell (World.block_lt_of_cell? _ _ (hHeld.2.2.2.2.2.2.2.2.2.2.2.1))).trans (hHeld.2.2.2.2.2.2.2.2.2.2.2.1)
   have HS12_ := (hb.cell (World.block_lt_of_cell? _ _ (hHeld.2.2.2.2.2.2.2.2.2.2.2.2.1))).trans (hHeld.2.2.2.2.2.2.2.2.2.2.2.2.1)
   have HS13_ := (hb.cell (World.block_lt_of_cell? _ _ (hHeld.2.2.2.2.2.2.2.2.2.2.2.2.2))).trans (hHeld.2.2.2.2.2.2.2.2.2.2.2.2.2)
   refine ⟨_, rfl, ?_⟩
   have n0_ := Qa.mk (Kd.Qh1 (by (with_reducible repeat (first | apply Kd.Qz | apply Kd.Qa1 | apply Kd.Qy)); exact HO_2.out) hb)
   have n1_ := Qa.mk (Kd.Qh1 (by (with_reducible repeat (first | apply Kd.Qz | apply Kd.Qa1 | apply Kd.Qy)); exact HO_3.out) hb)
   have n2_ := Qa.mk (Kd.Qh1 (by (with_reducible repeat (first | apply Kd.Qz | apply Kd.Qa1 | apply Kd.Qy)); exact HO_189000.out) hb)
   have n3_ := Qa.mk (Kd.N_below (by (with_reducible repeat (first | apply Kd.N_alloc | apply Kd.N_drewN | apply Kd.N_drew)); exact HO_189001.out) hb)
   have n4_ := Qa.mk (Qo (g := gb188) (o := .cells #[.slice Ao16 y176.length co16, .slice Ao15 y185.length co15] 25 (0, 0)) (by (with_reducible repeat (first | refine Qe ?_ _ | refine Qc ?_ | refine Qd ?_ _)); exact BK188.out) hb)
   have n5_ := Qa.mk (Qr (by with_reducible repeat (first | exact HB.out | apply Qj | apply Ql | apply Qk | refine Qi ?_ GE188.out)) hb)
   clear HO_2
   clear HO_3
   clear HO_189000
   clear HO_189001
   clear BK188
   clear HB
   have HO_2 := n0_
   have HO_3 := n1_
   have HO_189000 := n2_
   have HO_189001 := n3_
   have BK188 := n4_
   have HB := n5_
   clear n0_ n1_ n2_ n3_ n4_ n5_
   (try clear hb; try clear hb2; try clear hk; try clear hi)
   obtain ⟨Ao57, co57, eo57⟩ := Kd.R_slice HO_3.out
   (first | subst eo57 | (injection eo57 with f1_ f2_ f3_; have f4_ := f1_.symm; have f5_ := f3_.symm; clear f1_ f2_ f3_; subst f4_; subst f5_))
   refine hK.out _ _ ⟨(Qb BK188.out 0).trans rfl, (Qb BK188.out 1).trans rfl, HS2_, HS3_, HS4_, HS5_, HS6_, HS7_, HS8_, HS9_, HS10_, HS11_, HS12_, HS13_⟩ (fun hHeld => ?_)
   clear hK K
   refine norm_ (a' := ?_) ?_ ?_
   rotate_left
   ·
    show Act.put _ (some 43) _ = _
    simp only [Act.put, List.setIfInBounds_toArray, List.set_cons_zero, List.set_cons_succ, i64_w, i32_w]
    rfl
   refine pure_ (i := 18) (N := some 47) (v := ?_) (a' := ?_) QB56_15 rfl rfl (Qm HT_.out (by kernel_rfl)) (fun _ _ _ h => h) (Or.inl ⟨by rfl, ?_⟩) ?_ ?_
   rotate_left
   ·
    intro w'
    go_simp
    with_reducible rfl
   rotate_left
   ·
    simp only [Act.put, List.setIfInBounds_toArray, List.set_cons_zero, List.set_cons_succ, i64_w, i32_w]
    rfl
   refine pure_ (i := 19) (N := some 48) (v := ?_) (a' := ?_) QB56_16 rfl rfl (Qm HT_.out (by kernel_rfl)) (fun _ _ _ h => h) (Or.inl ⟨by rfl, ?_⟩) ?_ ?_
   rotate_left
   ·
    intro w'
    go_simp
    with_reducible rfl
   rotate_left
   ·
    simp only [Act.put, List.setIfInBounds_toArray, List.set_cons_zero, List.set_cons_succ, i64_w, i32_w]
    rfl
   refine pure_ (i := 20) (N := some 49) (v := ?_) (a' := ?_) QB56_17 rfl rfl (Qm HT_.out (by kernel_rfl)) (fun _ _ _ h => h) (Or.inl ⟨by rfl, ?_⟩) ?_ ?_
   rotate_left
   ·
    intro w'
    go_simp
    with_reducible rfl
   rotate_left
   ·
    simp only [Act.put, List.setIfInBounds_toArray, List.set_cons_zero, List.set_cons_succ, i64_w, i32_w]
    rfl
   refine pure_ (i := 21) (N := some 50) (v := ?_) (a' := ?_) QB56_18 rfl rfl (Qm HT_.out (by kernel_rfl)) (fun _ _ _ h => h) (Or.inl ⟨by rfl, ?_⟩) ?_ ?_
   rotate_left
   ·
    intro w'
    go_simp
    with_reducible rfl
   rotate_left
   ·
    simp only [Act.put, List.setIfInBounds_toArray, List.set_cons_zero, List.set_cons_succ, i64_w, i32_w]
    rfl
   refine pure_ (i := 22) (N := some 51) (v := ?_) (a' := ?_) QB56_19 rfl rfl (Qm HT_.out (by kernel_rfl)) (fun _ _ _ h => h) (Or.inl ⟨by rfl, ?_⟩) ?_ ?_
   rotate_left
   ·
    intro w'
    go_simp
    with_reducible rfl
   rotate_left
   ·
    simp only [Act.put, List.setIfInBounds_toArray, List.set_cons_zero, List.set_cons_succ, i64_w, i32_w]
    rfl
   refine take_ (i := 23) (N := some 52) (v := ?_) (a' := ?_) QB56_20 rfl rfl (Qk1 HT_.out HW_.out (by kernel_rfl)) (fun _ _ _ h => h) (Or.inl ⟨by rfl, ?_⟩) hHeld ?_ ?_
   rotate_left
   ·
    rintro w' ⟨s0, s1, s2, s3, s4, s5, s6, s7, s8, s9, s10, s11, s12, s13⟩
    go_simp
    with_reducible rfl
   rotate_left
   ·
    simp only [Act.put, List.setIfInBounds_toArray, List.set_cons_zero, List.set_cons_succ, i64_w, i32_w]
    rfl
   refine one_ (i := 24) (N := some 53) QB56_21 rfl rfl (one_of HT_.out (by kernel_rfl)) (by decide) (fun K hK => ?_)
   refine goes_ Try.func19 (by kernel_rfl) rfl #[.agg #[.bool ((Qg t195 0).f0), .bool ((Qg t195 0).f1), .bool ((Qg t195 0).f2)]] (by rfl) rfl rfl (by (try simp only [List.map_toArray, List.map_cons, List.map_nil]); first | done | rfl | (simp only [List.length_drop, List.length_take]; rfl)) ?_
   with_reducible refine (flow_Text.calls kj3 ((Qg t195 0).f0) ((Qg t195 0).f1) ((Qg t195 0).f2) t207 _ A40.out).mono ?_
   rintro e w58 ⟨rfl, hb⟩
   have HS2_ := (hb.cell (World.block_lt_of_cell? _ _ (hHeld.2.2.1))).trans (hHeld.2.2.1)
   have HS3_ := (hb.cell (World.block_lt_of_cell? _ _ (hHeld.2.2.2.1))).trans (hHeld.2.2.2.1)
   have HS4_ := (hb.cell (World.block_lt_of_cell? _ _ (hHeld.2.2.2.2.1))).trans (hHeld.2.2.2.2.1)
   have HS5_ := (hb.cell (World.block_lt_of_cell? _ _ (hHeld.2.2.2.2.2.1))).trans (hHeld.2.2.2.2.2.1)
   have HS6_ := (hb.cell (World.block_lt_of_cell? _ _ (hHeld.2.2.2.2.2.2.1))).trans (hHeld.2.2.2.2.2.2.1)
   have HS7_ := (hb.cell (World.block_lt_of_cell? _ _ (hHeld.2.2.2.2.2.2.2.1))).trans (hHeld.2.2.2.2.2.2.2.1)
   have HS8_ := (hb.cell (World.block_lt_of_cell? _ _ (hHeld.2.2.2.2.2.2.2.2.1))).trans (hHeld.2.2.2.2.2.2.2.2.1)
   have HS9_ := (hb.cell (World.block_lt_of_cell? _ _ (hHeld.2.2.2.2.2.2.2.2.2.1))).trans (hHeld.2.2.2.2.2.2.2.2.2.1)
   have HS10_ := (hb.cell (World.block_lt_of_cell? _ _ (hHeld.2.2.2.2.2.2.2.2.2.2.1))).trans (hHeld.2.2.2.2.2.2.2.2.2.2.1)
   have HS11_ := (hb.cell (World.block_lt_of_cell? _ _ (hHeld.2.2.2.2.2.2.2.2.2.2.2.1))).trans (hHeld.2.2.2.2.2.2.2.2.2.2.2.1)
   have HS12_ := (hb.cell (World.block_lt_of_cell? _ _ (hHeld.2.2.2.2.2.2.2.2.2.2.2.2.1))).trans (hHeld.2.2.2.2.2.2.2.2.2.2.2.2.1)
   have HS13_ := (hb.cell (World.block_lt_of_cell? _ _ (hHeld.2.2.2.2.2.2.2.2.2.2.2.2.2))).trans (hHeld.2.2.2.2.2.2.2.2.2.2.2.2.2)
   refine ⟨_, rfl, ?_⟩
   have n0_ := Qa.mk (Kd.Qh1 (by (with_reducible repeat (first | apply Kd.Qz | apply Kd.Qa1 | apply Kd.Qy)); exact HO_2.out) hb)
   have n1_ := Qa.mk (Kd.Qh1 (by (with_reducible repeat (first | apply Kd.Qz | apply Kd.Qa1 | apply Kd.Qy)); exact HO_3.out) hb)
   have n2_ := Qa.mk (Kd.Qh1 (by (with_reducible repeat (first | apply Kd.Qz | apply Kd.Qa1 | apply Kd.Qy)); exact HO_189000.out) hb)
   have n3_ := Qa.mk (Kd.N_below (by (with_reducible repeat (first | apply Kd.N_alloc | apply Kd.N_drewN | apply Kd.N_drew)); exact HO_189001.out) hb)
   have n4_ := Qa.mk (Qo (g := gb188) (o := .cells #[.slice Ao16 y176.length co16, .slice Ao15 y185.length co15] 25 (0, 0)) (by (with_reducible repeat (first | refine Qe ?_ _ | refine Qc ?_ | refine Qd ?_ _)); exact BK188.out) hb)
   have n5_ := Qa.mk (Qr (by with_reducible repeat (first | exact HB.out | apply Qj | apply Ql | apply Qk | refine Qi ?_ GE188.out)) hb)
   clear HO_2
   clear HO_3
   clear HO_189000
   clear HO_189001
   clear BK188
   clear HB
   have HO_2 := n0_
   have HO_3 := n1_
   have HO_189000 := n2_
   have HO_189001 := n3_
   have BK188 := n4_
   have HB := n5_
   clear n0_ n1_ n2_ n3_ n4_ n5_
   (try clear hb; try clear hb2; try clear hk; try clear hi)
   refine hK.out _ _ ⟨(Qb BK188.out 0).trans rfl, (Qb BK188.out 1).trans rfl, HS2_, HS3_, HS4_, HS5_, HS6_, HS7_, HS8_, HS9_, HS10_, HS11_, HS12_, HS13_⟩ (fun hHeld => ?_)
   clear hK K
   refine norm_ (a' := ?_) ?_ ?_
   rotate_left
   ·
    show Act.put _ (some 53) _ = _
    simp only [Act.put, List.setIfInBounds_toArray, List.set_cons_zero, List.set_cons_succ, i64_w, i32_w]
    rfl
   refine pure_ (i := 25) (N := some 54) (v := ?_) (a' := ?_) QB56_22 rfl rfl (Qm HT_.out (by kernel_rfl)) (fun _ _ _ h => h) (Or.inl ⟨by rfl, ?_⟩) ?_ ?_
   rotate_left
   ·
    intro w'
    go_simp
    with_reducible rfl
   rotate_left
   ·
    simp only [Act.put, List.setIfInBounds_toArray, List.set_cons_zero, List.set_cons_succ, i64_w, i32_w]
    rfl
   refine pure_ (i := 26) (N := some 55) (v := ?_) (a' := ?_) QB56_23 rfl rfl (Qm HT_.out (by kernel_rfl)) (fun _ _ _ h => h) (Or.inl ⟨by rfl, ?_⟩) ?_ ?_
   rotate_left
   ·
    intro w'
    go_simp
    with_reducible rfl
   rotate_left
   ·
    simp only [Act.put, List.setIfInBounds_toArray, List.set_cons_zero, List.set_cons_succ, i64_w, i32_w]
    rfl
   refine pure_ (i := 27) (N := some 56) (v := ?_) (a' := ?_) QB56_24 rfl rfl (Qm HT_.out (by kernel_rfl)) (fun _ _ _ h => h) (Or.inl ⟨by rfl, ?_⟩) ?_ ?_
   rotate_left
   ·
    intro w'
    go_simp
    with_reducible rfl
   rotate_left
   ·
    simp only [Act.put, List.setIfInBounds_toArray, List.set_cons_zero, List.set_cons_succ, i64_w, i32_w]
    rfl
   refine pure_ (i := 28) (N := some 57) (v := undef) (a' := ?_) QB56_25 rfl rfl (Qm HT_.out (by kernel_rfl)) (fun _ _ _ h => h) (Or.inr ⟨by rfl, rfl⟩) ?_ ?_
   rotate_left
   ·
    simp only [Act.put, List.setIfInBounds_toArray, List.set_cons_zero, List.set_cons_succ, i64_w, i32_w]
    rfl
   refine pure_ (i := 29) (N := some 58) (v := undef) (a' := ?_) QB56_26 rfl rfl (Qm HT_.out (by kernel_rfl)) (fun _ _ _ h => h) (Or.inr ⟨by rfl, rfl⟩) ?_ ?_
   rotate_left
   ·
    simp only [Act.put, List.setIfInBounds_toArray, List.set_cons_zero, List.set_cons_succ, i64_w, i32_w]
    rfl
   refine pure_ (i := 30) (N := some 59) (v := undef) (a' := ?_) QB56_27 rfl rfl (Qm HT_.out (by kernel_rfl)) (fun _ _ _ h => h) (Or.inr ⟨by rfl, rfl⟩) ?_ ?_
   rotate_left
   ·
    simp only [Act.put, List.setIfInBounds_toArray, List.set_cons_zero, List.set_cons_succ, i64_w, i32_w]
    rfl
   refine pure_ (i := 31) (N := some 60) (v := undef) (a' := ?_) QB56_28 rfl rfl (Qm HT_.out (by kernel_rfl)) (fun _ _ _ h => h) (Or.inr ⟨by rfl, rfl⟩) ?_ ?_
   rotate_left
   ·
    simp only [Act.put, List.setIfInBounds_toArray, List.set_cons_zero, List.set_cons_succ, i64_w, i32_w]
    rfl
   refine pure_ (i := 32) (N := some 61) (v := undef) (a' := ?_) QB56_29 rfl rfl (Qm HT_.out (by kernel_rfl)) (fun _ _ _ h => h) (Or.inr ⟨by rfl, rfl⟩) ?_ ?_
   rotate_left
   ·
    simp only [Act.put, List.setIfInBounds_toArray, List.set_cons_zero, List.set_cons_succ, i64_w, i32_w]
    rfl
   refine pure_ (i := 33) (N := some 62) (v := ?_) (a' := ?_) QB56_30 rfl rfl (Qm HT_.out (by kernel_rfl)) (fun _ _ _ h => h) (Or.inl ⟨by rfl, ?_⟩) ?_ ?_
   rotate_left
   ·
    intro w'
    go_simp
    with_reducible rfl
   rotate_left
   ·
    simp only [Act.put, List.setIfInBounds_toArray, List.set_cons_zero, List.set_cons_succ, i64_w, i32_w]
    rfl
   refine pure_ (i := 34) (N := some 0) (v := ?_) (a' := ?_) QB56_31 rfl rfl (Qm HT_.out (by kernel_rfl)) (fun _ _ _ h => h) (Or.inl ⟨by rfl, ?_⟩) ?_ ?_
   rotate_left
   ·
    intro w'
    go_simp
    with_reducible rfl
   rotate_left
   ·
    simp only [Act.put, List.setIfInBounds_toArray, List.set_cons_zero, List.set_cons_succ, i64_w, i32_w]
    rfl
   refine done_ (done_of HT_.out (by kernel_rfl)) ?_
   try go_wp2
   go_ret
   exact ⟨by first | rfl | (simp [Qt, Qs] <;> rfl) | (simp [*, Qt, Qs] <;> rfl), by with_reducible repeat (first | exact HB.out | apply Qj | apply Ql | apply Qk | refine Qi ?_ GE188.out)⟩
end Go.Proofs.Ytnaanamibfpbpaa.V
namespace Go.Proofs.Ytnaanamibfpbpaa.V
open Go.RowKit Go.Proofs.YtnaanamibfpbpaaW.PrintWords Go.Proofs.YtnaanamibfpbpaaW.PrintLast Go.Proofs.YtnaanamibfpbpaaW.PrintMore
attribute [local go_sem] max2_int min2_int max_two min_two max_three min_three max_four min_four tdiv_most
set_option linter.unusedVariables false
set_option linter.unusedSimpArgs false
attribute [local go_sem high] eqA35
def Qn1.j0 : Nat → Int → Bool → List (S39) → List (S53) → Option (Bool)
 | 0, _, _, _, _ => none
 | k + 1, x1, x13, x267000, x267001 => if x13 = true then ((Qi1.f k).bind fun t269 => (some t269)) else (if (x267000.length : Int) = 0 then (none) else ((Qr1.f k x267000 x267001).bind fun t270 => ((flow_Of.f k x267000 x267001).bind fun t273 => ((Qt1.f k t273).bind fun t276 => ((Qq1.f k t276 t270).bind fun t279 => (if t279 = true then ((flow_Rule.f k x267000 x267001 (Int.tmod (wrap64 (x1)) (x267000.length : Int))).bind fun bt280 => (if 0 ≤ (Int.tmod (wrap64 (x1)) (x267000.length : Int)) then (if (Int.tmod (wrap64 (x1)) (x267000.length : Int)) < (x267000.length : Int) then (if 0 ≤ ((Qp x267000 (Int.tmod (wrap64 (x1)) (x267000.length : Int))).f1) then (if ((Qp x267000 (Int.tmod (wrap64 (x1)) (x267000.length : Int))).f1) < (t270.length : Int) then (some (bt280.1 == ((rd_T35 t270 ((Qp x267000 (Int.tmod (wrap64 (x1)) (x267000.length : Int))).f1)).f0) && (bt280.2.1 == ((rd_T35 t270 ((Qp x267000 (Int.tmod (wrap64 (x1)) (x267000.length : Int))).f1)).f1) && (bt280.2.2 == ((rd_T35 t270 ((Qp x267000 (Int.tmod (wrap64 (x1)) (x267000.length : Int))).f1)).f2))))) else (none)) else (none)) else (none)) else (none))) else (some false)))))))
def Qn1.f (k : Nat) (l0_0 : List (S39)) (l0_1 : List (S53)) (a1 : Int) : Option (Bool) := (Qi1.f k).bind fun t267 => (if t267 = true then ((vetchref05_Small.f k l0_0 l0_1).bind fun t268 => (Qn1.j0 k a1 (!t268) l0_0 l0_1)) else (Qn1.j0 k a1 true l0_0 l0_1))
def Qn1.T5 : Bool × List (List Nat × List Nat) := (true, [([], []), ([0], [0]), ([1, 1], [1]), ([], []), ([2, 3, 2], [2, 3]), ([4, 4], [4]), ([5], [5]), ([5], [5]), ([6, 7, 5, 5], [5, 6, 7]), ([5], [5]), ([5], [5]), ([10, 5], [5, 10]), ([5], [5]), ([11, 12, 5], [5, 11, 12]), ([13, 5], [5, 13]), ([14, 5], [5, 14]), ([9, 15, 5], [5, 9, 15]), ([16, 5], [5, 16]), ([8, 17, 5], [5, 8, 17]), ([5, 18], [5, 18]), ([19, 8, 0, 1, 2, 3, 4, 5, 6, 7, 8, 9, 10, 11, 12, 13, 14, 15, 16, 17, 18, 19], [19])])
def Qn1.B5 : List Nat := [0, 1, 3, 0, 15, 31, 63, 63, 255, 63, 63, 1087, 63, 7231, 15423, 31807, 65087, 130623, 262143, 524287, 1048575]
theorem Qn1.tab5 : rtab .any (opsOf Try.f3 5) = Qn1.T5 := by kernel_rfl
theorem Qn1.bits5 : waitsOk Qn1.T5.2 Qn1.B5 = true := by kernel_rfl
set_option maxHeartbeats 8000000 in
set_option maxRecDepth 100000 in
theorem Qn1.calls (k : Nat) (A0_0 : Option Addr) (c0_0 : Nat) (l0_0 : List (S39)) (A0_1 : Option Addr) (c0_1 : Nat) (l0_1 : List (S53)) (a1 : Int) (r : Bool) (w : World) (hr0_0 : Kd.C k39 w A0_0 l0_0.length l0_0) (hc0_0 : l0_0.length ≤ c0_0) (hr0_1 : Kd.C k53 w A0_1 l0_1.length l0_1) (hc0_1 : l0_1.length ≤ c0_1) (h : Qn1.f k l0_0 l0_1 a1 = some r) :
 Calls Try.prog 3 #[.agg #[.slice A0_0 l0_0.length c0_0, .slice A0_1 l0_1.length c0_1], .int .u8 a1] w fun e w' => e = .returned (.bool r) ∧ Below w.heap.size w w' := by
 have hu25 := Try.underlying25
 have hu35 := Try.underlying35
 have HR0_0 := Qa.mk hr0_0
 have HC0_0 := Qa.mk hc0_0
 clear hr0_0 hc0_0
 have HR0_1 := Qa.mk hr0_1
 have HC0_1 := Qa.mk hc0_1
 clear hr0_1 hc0_1
 have HB := Qa.mk (Below.refl w.heap.size w)
 have H : ((Qi1.f k).bind fun t267 => (if t267 = true then ((vetchref05_Small.f k l0_0 l0_1).bind fun t268 => (Qn1.j0 k a1 (!t268) l0_0 l0_1)) else (Qn1.j0 k a1 true l0_0 l0_1))) = some r := h
 clear h
 have HC3 := Qa.mk H
 clear H
 go_enter Try.func3, Try.ntmps3
 go_upto_region 1 with (first | ((with_reducible refine Qd1 (N := 2) rfl ?_); refine Qg1 ?hg (N := 2) ?hd (cs := #[.slice A0_0 l0_0.length c0_0, .slice A0_1 l0_1.length c0_1]) (t := 25) ?hr ?_; (case hd => rfl); (case hg => rfl); (case hr => first | (go_simp; done) | (go_simp; rfl)); intro gb266 hg w4 hbox hb; have n0_ := Qa.mk (Qr (by with_reducible repeat (first | exact HB.out | apply Qj | apply Ql | apply Qk)) hb); have n1_ := Qa.mk (hbox); have n2_ := Qa.mk ((by rw [hg]; exact (Qc1 (by with_reducible repeat (first | exact HB.out | apply Qj | apply Ql | apply Qk))) : w.heap.size ≤ gb266)); have n3_ := n2_; clear HB; have HB := n0_; have BK266 := n1_; have GW266 := n2_; have GE266 := n3_; clear n0_ n1_ n2_ n3_; clear hb hbox hg))
 (try simp only [Act.put, List.setIfInBounds_toArray, List.set_cons_zero, List.set_cons_succ])
 go_cut [13] (fun v13 wc => ∃ (kq : Nat) (x13_2 : Bool), v13 = .bool x13_2 ∧ Qa (Qn1.j0 kq a1 x13_2 l0_0 l0_1 = some r) ∧ Qa (kq ≤ k) ∧ Qa (wc.heap[gb266]? = some (.cells #[(.slice A0_0 l0_0.length c0_0), (.slice A0_1 l0_1.length c0_1)] 25 (0, 0))) ∧ Qa (Below w.heap.size w wc))
 case first =>
  have H := HC3.out
  clear HC3
  replace H := Option.bind_eq_some_iff.mp H
  obtain ⟨t267, A50, H⟩ := H
  replace H : (if t267 = true then ((vetchref05_Small.f k l0_0 l0_1).bind fun t268 => (Qn1.j0 k a1 (!t268) l0_0 l0_1)) else (Qn1.j0 k a1 true l0_0 l0_1)) = some r := H
  have A5 := Qa.mk A50
  clear A50
  by_cases c6 : t267 = true
  ·
   subst c6
   have H1 : ((vetchref05_Small.f k l0_0 l0_1).bind fun t268 => (Qn1.j0 k a1 (!t268) l0_0 l0_1)) = some r := by rw [if_pos rfl] at H; exact H
   clear H
   have H := H1
   clear H1
   replace H := Option.bind_eq_some_iff.mp H
   obtain ⟨t268, A70, H⟩ := H
   replace H : (Qn1.j0 k a1 (!t268) l0_0 l0_1) = some r := H
   have A7 := Qa.mk A70
   clear A70
   have H' := Qa.mk H
   clear H
   go_wp2_with (first | ((with_reducible refine gate_callee (f := 8) rfl ?_); refine goesL_ (some 7) rfl rfl Try.func8 (by kernel_rfl) rfl #[] rfl (by (try simp only [List.map_toArray, List.map_cons, List.map_nil]); first | done | rfl | (simp only [List.length_drop, List.length_take]; rfl)) ?_; (with_reducible refine (Qi1.calls k  true _ A5.out).mono ?_); rintro e w8 ⟨rfl, hb⟩; refine ⟨_, rfl, ?_⟩; have n0_ := Qa.mk (Qo (g := gb266) (o := .cells #[.slice A0_0 l0_0.length c0_0, .slice A0_1 l0_1.length c0_1] 25 (0, 0)) (by (with_reducible repeat (first | refine Qe ?_ _ | refine Qc ?_ | refine Qd ?_ _)); exact BK266.out) hb); have n1_ := Qa.mk (Qr (by with_reducible repeat (first | exact HB.out | apply Qj | apply Ql | apply Qk | refine Qi ?_ GE266.out)) hb); clear BK266; clear HB; have BK266 := n0_; have HB := n1_; clear n0_ n1_; (try clear hb); (try clear hb2); (try clear hk); (try clear hi); have hcz9_0 : w8.cell? ⟨gb266, 0, none⟩ = some (.slice A0_0 l0_0.length c0_0) := (Qb BK266.out 0).trans rfl; have hcz9_1 : w8.cell? ⟨gb266, 1, none⟩ = some (.slice A0_1 l0_1.length c0_1) := (Qb BK266.out 1).trans rfl; have hfz9_0 := Qf BK266.out 0; have hfz9_1 := Qf BK266.out 1) | (go_at_call 9; (with_reducible refine (vetchref05_Small.calls k _ _ l0_0 _ _ l0_1 t268 _ ?side1 ?side2 ?side3 ?side4 A7.out).mono ?_); (case side1 => repeat (first | exact (Kd.Qw HR0_0.out HB.out) | (with_reducible refine Kd.Qf1 ?_ _) | (with_reducible refine Kd.Qe1 ?_ _) | (with_reducible refine Kd.C_drew ?_))); (case side2 => exact HC0_0.out); (case side3 => repeat (first | exact (Kd.Qw HR0_1.out HB.out) | (with_reducible refine Kd.Qf1 ?_ _) | (with_reducible refine Kd.Qe1 ?_ _) | (with_reducible refine Kd.C_drew ?_))); (case side4 => exact HC0_1.out); rintro e w10 ⟨rfl, hb⟩; have n0_ := Qa.mk (Qo (g := gb266) (o := .cells #[.slice A0_0 l0_0.length c0_0, .slice A0_1 l0_1.length c0_1] 25 (0, 0)) (by (with_reducible repeat (first | refine Qe ?_ _ | refine Qc ?_ | refine Qd ?_ _)); exact BK266.out) hb); have n1_ := Qa.mk (Qr (by with_reducible repeat (first | exact HB.out | apply Qj | apply Ql | apply Qk | refine Qi ?_ GE266.out)) hb); clear BK266; clear HB; have BK266 := n0_; have HB := n1_; clear n0_ n1_; (try clear hb); (try clear hb2); (try clear hk); (try clear hi)))
   go_meet
   case rel => exact ⟨_, (!t268), (by first | rfl | (simp; done) | (simp [*]; done)), H', ⟨by first | omega | exact Nat.le_refl _⟩, ⟨by (with_reducible repeat (first | refine Qe ?_ _ | refine Qc ?_ | refine Qd ?_ _)); exact BK266.out⟩, ⟨by with_reducible repeat (first | exact HB.out | apply Qj | apply Ql | apply Qk | refine Qi ?_ GE266.out)⟩⟩
  replace c6 := Bool.eq_false_iff.mpr c6
  subst c6
  have H1 : (Qn1.j0 k a1 true l0_0 l0_1) = some r := by rw [if_neg (show ¬ (false = true) by decide)] at H; exact H
  clear H
  have H := H1
  clear H1
  have H' := Qa.mk H
  clear H
  go_wp2_with (first | ((with_reducible refine gate_callee (f := 8) rfl ?_); refine goesL_ (some 7) rfl rfl Try.func8 (by kernel_rfl) rfl #[] rfl (by (try simp only [List.map_toArray, List.map_cons, List.map_nil]); first | done | rfl | (simp only [List.length_drop, List.length_take]; rfl)) ?_; (with_reducible refine (Qi1.calls k  false _ A5.out).mono ?_); rintro e w11 ⟨rfl, hb⟩; refine ⟨_, rfl, ?_⟩; have n0_ := Qa.mk (Qo (g := gb266) (o := .cells #[.slice A0_0 l0_0.length c0_0, .slice A0_1 l0_1.length c0_1] 25 (0, 0)) (by (with_reducible repeat (first | refine Qe ?_ _ | refine Qc ?_ | refine Qd ?_ _)); exact BK266.out) hb); have n1_ := Qa.mk (Qr (by with_reducible repeat (first | exact HB.out | apply Qj | apply Ql | apply Qk | refine Qi ?_ GE266.out)) hb); clear BK266; clear HB; have BK266 := n0_; have HB := n1_; clear n0_ n1_; (try clear hb); (try clear hb2); (try clear hk); (try clear hi)))
  go_meet
  case rel => exact ⟨_, (true), (by first | rfl | (simp; done) | (simp [*]; done)), H', ⟨by first | omega | exact Nat.le_refl _⟩, ⟨by (with_reducible repeat (first | refine Qe ?_ _ | refine Qc ?_ | refine Qd ?_ _)); exact BK266.out⟩, ⟨by with_reducible repeat (first | exact HB.out | apply Qj | apply Ql | apply Qk | refine Qi ?_ GE266.out)⟩⟩
 case rest =>
  clear HC3
  (try clear p2; try clear c3; try clear c6; try clear c8; try clear hcz9_0; try clear hcz9_1; try clear hfz9_0; try clear hfz9_1)
  obtain ⟨kq, x13_2, rfl, HA, HJ2, BK266, HB⟩ := hcut
  cases kq with
  | zero => exact absurd HA.out (by simp [Qn1.j0])
  | succ kj2 =>
   have H := HA.out
   clear HA
   simp only [Qn1.j0] at H
   by_cases c12 : x13_2 = true
   ·
    subst c12
    have H1 : ((Qi1.f kj2).bind fun t269 => (some t269)) = some r := by rw [if_pos rfl] at H; exact H
    clear H
    have H := H1
    clear H1
    replace H := Option.bind_eq_some_iff.mp H
    obtain ⟨t269, A130, H⟩ := H
    replace H : (some t269) = some r := H
    have A13 := Qa.mk A130
    clear A130
    obtain rfl := Option.some.inj H
    go_wp2_with (first | ((with_reducible refine gate_callee (f := 8) rfl ?_); refine goesL_ (some 14) rfl rfl Try.func8 (by kernel_rfl) rfl #[] rfl (by (try simp only [List.map_toArray, List.map_cons, List.map_nil]); first | done | rfl | (simp only [List.length_drop, List.length_take]; rfl)) ?_; (with_reducible refine (Qi1.calls kj2  t269 _ A13.out).mono ?_); rintro e w14 ⟨rfl, hb⟩; refine ⟨_, rfl, ?_⟩; have n0_ := Qa.mk (Qo (g := gb266) (o := .cells #[.slice A0_0 l0_0.length c0_0, .slice A0_1 l0_1.length c0_1] 25 (0, 0)) (by (with_reducible repeat (first | refine Qe ?_ _ | refine Qc ?_ | refine Qd ?_ _)); exact BK266.out) hb); have n1_ := Qa.mk (Qr (by with_reducible repeat (first | exact HB.out | apply Qj | apply Ql | apply Qk | refine Qi ?_ GE266.out)) hb); clear BK266; clear HB; have BK266 := n0_; have HB := n1_; clear n0_ n1_; (try clear hb); (try clear hb2); (try clear hk); (try clear hi)))
    go_ret
    exact ⟨by first | rfl | (simp [Qt, Qs] <;> rfl) | (simp [*, Qt, Qs] <;> rfl), by with_reducible repeat (first | exact HB.out | apply Qj | apply Ql | apply Qk | refine Qi ?_ GE266.out)⟩
   replace c12 := Bool.eq_false_iff.mpr c12
   subst c12
   have H1 : (if (l0_0.length : Int) = 0 then (none) else ((Qr1.f kj2 l0_0 l0_1).bind fun t270 => ((flow_Of.f kj2 l0_0 l0_1).bind fun t273 => ((Qt1.f kj2 t273).bind fun t276 => ((Qq1.f kj2 t276 t270).bind fun t279 => (if t279 = true then ((flow_Rule.f kj2 l0_0 l0_1 (Int.tmod (wrap64 (a1)) (l0_0.length : Int))).bind fun bt280 => (if 0 ≤ (Int.tmod (wrap64 (a1)) (l0_0.length : Int)) then (if (Int.tmod (wrap64 (a1)) (l0_0.length : Int)) < (l0_0.length : Int) then (if 0 ≤ ((Qp l0_0 (Int.tmod (wrap64 (a1)) (l0_0.length : Int))).f1) then (if ((Qp l0_0 (Int.tmod (wrap64 (a1)) (l0_0.length : Int))).f1) < (t270.length : Int) then (some (bt280.1 == ((rd_T35 t270 ((Qp l0_0 (Int.tmod (wrap64 (a1)) (l0_0.length : Int))).f1)).f0) && (bt280.2.1 == ((rd_T35 t270 ((Qp l0_0 (Int.tmod (wrap64 (a1)) (l0_0.length : Int))).f1)).f1) && (bt280.2.2 == ((rd_T35 t270 ((Qp l0_0 (Int.tmod (wrap64 (a1)) (l0_0.length : Int))).f1)).f2))))) else (none)) else (none)) else (none)) else (none))) else (some false))))))) = some r := by rw [if_neg (show ¬ (false = true) by decide)] at H; exact H
   clear H
   have H := H1
   clear H1
   by_cases c15 : (l0_0.length : Int) = 0
   ·
    rw [if_pos c15] at H
    exact absurd H (by simp)
   rw [if_neg c15] at H
   have c15b0 : ((l0_0.length : Int) == 0) = false := beq_eq_false_iff_ne.mpr c15
   have c15b1 : ((l0_0.length : Int) != 0) = true := bne_iff_ne.mpr c15
   have c15b2 : ¬ (l0_0 = []) := fun h_ => c15 (by rw [h_]; rfl)
   replace H := Option.bind_eq_some_iff.mp H
   obtain ⟨t270, A160, H⟩ := H
   replace H : ((flow_Of.f kj2 l0_0 l0_1).bind fun t273 => ((Qt1.f kj2 t273).bind fun t276 => ((Qq1.f kj2 t276 t270).bind fun t279 => (if t279 = true then ((flow_Rule.f kj2 l0_0 l0_1 (Int.tmod (wrap64 (a1)) (l0_0.length : Int))).bind fun bt280 => (if 0 ≤ (Int.tmod (wrap64 (a1)) (l0_0.length : Int)) then (if (Int.tmod (wrap64 (a1)) (l0_0.length : Int)) < (l0_0.length : Int) then (if 0 ≤ ((Qp l0_0 (Int.tmod (wrap64 (a1)) (l0_0.length : Int))).f1) then (if ((Qp l0_0 (Int.tmod (wrap64 (a1)) (l0_0.length : Int))).f1) < (t270.length : Int) then (some (bt280.1 == ((rd_T35 t270 ((Qp l0_0 (Int.tmod (wrap64 (a1)) (l0_0.length : Int))).f1)).f0) && (bt280.2.1 == ((rd_T35 t270 ((Qp l0_0 (Int.tmod (wrap64 (a1)) (l0_0.length : Int))).f1)).f1) && (bt280.2.2 == ((rd_T35 t270 ((Qp l0_0 (Int.tmod (wrap64 (a1)) (l0_0.length : Int))).f1)).f2))))) else (none)) else (none)) else (none)) else (none))) else (some false))))) = some r := H
   have A16 := Qa.mk A160
   clear A160
   have HC17 := Qa.mk H
   clear H
   have hcz18_0 : wc.cell? ⟨gb266, 0, none⟩ = some (.slice A0_0 l0_0.length c0_0) := (Qb BK266.out 0).trans rfl
   have hcz18_1 : wc.cell? ⟨gb266, 1, none⟩ = some (.slice A0_1 l0_1.length c0_1) := (Qb BK266.out 1).trans rfl
   have hfz18_0 := Qf BK266.out 0
   have hfz18_1 := Qf BK266.out 1
   go_upto_region 5 with (first | ((with_reducible refine gate_callee (f := 10) rfl ?_); refine goesL_ (some 22) rfl rfl Try.func10 (by kernel_rfl) rfl #[.agg #[.slice A0_0 l0_0.length c0_0, .slice A0_1 l0_1.length c0_1]] rfl (by (try simp only [List.map_toArray, List.map_cons, List.map_nil]); first | done | rfl | (simp only [List.length_drop, List.length_take]; rfl)) ?_; (with_reducible refine (Qr1.calls kj2 _ _ l0_0 _ _ l0_1 t270 _ ?side1 ?side2 ?side3 ?side4 A16.out).mono ?_); (case side1 => repeat (first | exact (Kd.Qw HR0_0.out HB.out) | (with_reducible refine Kd.Qf1 ?_ _) | (with_reducible refine Kd.Qe1 ?_ _) | (with_reducible refine Kd.C_drew ?_))); (case side2 => exact HC0_0.out); (case side3 => repeat (first | exact (Kd.Qw HR0_1.out HB.out) | (with_reducible refine Kd.Qf1 ?_ _) | (with_reducible refine Kd.Qe1 ?_ _) | (with_reducible refine Kd.C_drew ?_))); (case side4 => exact HC0_1.out); rintro e w19 ⟨v271, rfl, ho0, hb⟩; refine ⟨_, rfl, ?_⟩; have n0_ := Qa.mk (Kd.R_lower ho0 (Qc1 (by with_reducible repeat (first | exact HB.out | apply Qj | apply Ql | apply Qk | refine Qi ?_ GE266.out)))); have n1_ := Qa.mk (Qo (g := gb266) (o := .cells #[.slice A0_0 l0_0.length c0_0, .slice A0_1 l0_1.length c0_1] 25 (0, 0)) (by (with_reducible repeat (first | refine Qe ?_ _ | refine Qc ?_ | refine Qd ?_ _)); exact BK266.out) hb); have n2_ := Qa.mk (Qr (by with_reducible repeat (first | exact HB.out | apply Qj | apply Ql | apply Qk | refine Qi ?_ GE266.out)) hb); clear BK266; clear HB; have HO272 := n0_; have BK266 := n1_; have HB := n2_; clear n0_ n1_ n2_; (try clear hb); (try clear hb2); (try clear hk); (try clear hi); (try clear ho0)))
   (try simp only [Act.put, List.setIfInBounds_toArray, List.set_cons_zero, List.set_cons_succ])
   have H := HC17.out
   clear HC17
   replace H := Option.bind_eq_some_iff.mp H
   obtain ⟨t273, A200, H⟩ := H
   replace H : ((Qt1.f kj2 t273).bind fun t276 => ((Qq1.f kj2 t276 t270).bind fun t279 => (if t279 = true then ((flow_Rule.f kj2 l0_0 l0_1 (Int.tmod (wrap64 (a1)) (l0_0.length : Int))).bind fun bt280 => (if 0 ≤ (Int.tmod (wrap64 (a1)) (l0_0.length : Int)) then (if (Int.tmod (wrap64 (a1)) (l0_0.length : Int)) < (l0_0.length : Int) then (if 0 ≤ ((Qp l0_0 (Int.tmod (wrap64 (a1)) (l0_0.length : Int))).f1) then (if ((Qp l0_0 (Int.tmod (wrap64 (a1)) (l0_0.length : Int))).f1) < (t270.length : Int) then (some (bt280.1 == ((rd_T35 t270 ((Qp l0_0 (Int.tmod (wrap64 (a1)) (l0_0.length : Int))).f1)).f0) && (bt280.2.1 == ((rd_T35 t270 ((Qp l0_0 (Int.tmod (wrap64 (a1)) (l0_0.length : Int))).f1)).f1) && (bt280.2.2 == ((rd_T35 t270 ((Qp l0_0 (Int.tmod (wrap64 (a1)) (l0_0.length : Int))).f1)).f2))))) else (none)) else (none)) else (none)) else (none))) else (some false)))) = some r := H
   have A20 := Qa.mk A200
   clear A200
   replace H := Option.bind_eq_some_iff.mp H
   obtain ⟨t276, A210, H⟩ := H
   replace H : ((Qq1.f kj2 t276 t270).bind fun t279 => (if t279 = true then ((flow_Rule.f kj2 l0_0 l0_1 (Int.tmod (wrap64 (a1)) (l0_0.length : Int))).bind fun bt280 => (if 0 ≤ (Int.tmod (wrap64 (a1)) (l0_0.length : Int)) then (if (Int.tmod (wrap64 (a1)) (l0_0.length : Int)) < (l0_0.length : Int) then (if 0 ≤ ((Qp l0_0 (Int.tmod (wrap64 (a1)) (l0_0.length : Int))).f1) then (if ((Qp l0_0 (Int.tmod (wrap64 (a1)) (l0_0.length : Int))).f1) < (t270.length : Int) then (some (bt280.1 == ((rd_T35 t270 ((Qp l0_0 (Int.tmod (wrap64 (a1)) (l0_0.length : Int))).f1)).f0) && (bt280.2.1 == ((rd_T35 t270 ((Qp l0_0 (Int.tmod (wrap64 (a1)) (l0_0.length : Int))).f1)).f1) && (bt280.2.2 == ((rd_T35 t270 ((Qp l0_0 (Int.tmod (wrap64 (a1)) (l0_0.length : Int))).f1)).f2))))) else (none)) else (none)) else (none)) else (none))) else (some false))) = some r := H
   have A21 := Qa.mk A210
   clear A210
   replace H := Option.bind_eq_some_iff.mp H
   obtain ⟨t279, A220, H⟩ := H
   replace H : (if t279 = true then ((flow_Rule.f kj2 l0_0 l0_1 (Int.tmod (wrap64 (a1)) (l0_0.length : Int))).bind fun bt280 => (if 0 ≤ (Int.tmod (wrap64 (a1)) (l0_0.length : Int)) then (if (Int.tmod (wrap64 (a1)) (l0_0.length : Int)) < (l0_0.length : Int) then (if 0 ≤ ((Qp l0_0 (Int.tmod (wrap64 (a1)) (l0_0.length : Int))).f1) then (if ((Qp l0_0 (Int.tmod (wrap64 (a1)) (l0_0.length : Int))).f1) < (t270.length : Int) then (some (bt280.1 == ((rd_T35 t270 ((Qp l0_0 (Int.tmod (wrap64 (a1)) (l0_0.length : Int))).f1)).f0) && (bt280.2.1 == ((rd_T35 t270 ((Qp l0_0 (Int.tmod (wrap64 (a1)) (l0_0.length : Int))).f1)).f1) && (bt280.2.2 == ((rd_T35 t270 ((Qp l0_0 (Int.tmod (wrap64 (a1)) (l0_0.length : Int))).f1)).f2))))) else (none)) else (none)) else (none)) else (none))) else (some false)) = some r := H
   have A22 := Qa.mk A220
   clear A220
   by_cases c23 : t279 = true
   ·
    subst c23
    have H1 : ((flow_Rule.f kj2 l0_0 l0_1 (Int.tmod (wrap64 (a1)) (l0_0.length : Int))).bind fun bt280 => (if 0 ≤ (Int.tmod (wrap64 (a1)) (l0_0.length : Int)) then (if (Int.tmod (wrap64 (a1)) (l0_0.length : Int)) < (l0_0.length : Int) then (if 0 ≤ ((Qp l0_0 (Int.tmod (wrap64 (a1)) (l0_0.length : Int))).f1) then (if ((Qp l0_0 (Int.tmod (wrap64 (a1)) (l0_0.length : Int))).f1) < (t270.length : Int) then (some (bt280.1 == ((rd_T35 t270 ((Qp l0_0 (Int.tmod (wrap64 (a1)) (l0_0.length : Int))).f1)).f0) && (bt280.2.1 == ((rd_T35 t270 ((Qp l0_0 (Int.tmod (wrap64 (a1)) (l0_0.length : Int))).f1)).f1) && (bt280.2.2 == ((rd_T35 t270 ((Qp l0_0 (Int.tmod (wrap64 (a1)) (l0_0.length : Int))).f1)).f2))))) else (none)) else (none)) else (none)) else (none))) = some r := by rw [if_pos rfl] at H; exact H
    clear H
    have H := H1
    clear H1
    replace H := Option.bind_eq_some_iff.mp H
    obtain ⟨⟨t280, t281, t282⟩, A240, H⟩ := H
    replace H : (if 0 ≤ (Int.tmod (wrap64 (a1)) (l0_0.length : Int)) then (if (Int.tmod (wrap64 (a1)) (l0_0.length : Int)) < (l0_0.length : Int) then (if 0 ≤ ((Qp l0_0 (Int.tmod (wrap64 (a1)) (l0_0.length : Int))).f1) then (if ((Qp l0_0 (Int.tmod (wrap64 (a1)) (l0_0.length : Int))).f1) < (t270.length : Int) then (some (t280 == ((rd_T35 t270 ((Qp l0_0 (Int.tmod (wrap64 (a1)) (l0_0.length : Int))).f1)).f0) && (t281 == ((rd_T35 t270 ((Qp l0_0 (Int.tmod (wrap64 (a1)) (l0_0.length : Int))).f1)).f1) && (t282 == ((rd_T35 t270 ((Qp l0_0 (Int.tmod (wrap64 (a1)) (l0_0.length : Int))).f1)).f2))))) else (none)) else (none)) else (none)) else (none)) = some r := H
    have A24 := Qa.mk A240
    clear A240
    obtain ⟨ji25, hji25⟩ : ∃ j_ : Int, (Int.tmod (wrap64 (a1)) (l0_0.length : Int)) = j_ := ⟨_, rfl⟩
    replace H : (if 0 ≤ (ji25) then (if (ji25) < (l0_0.length : Int) then (if 0 ≤ ((Qp l0_0 (ji25)).f1) then (if ((Qp l0_0 (ji25)).f1) < (t270.length : Int) then (some (t280 == ((rd_T35 t270 ((Qp l0_0 (ji25)).f1)).f0) && (t281 == ((rd_T35 t270 ((Qp l0_0 (ji25)).f1)).f1) && (t282 == ((rd_T35 t270 ((Qp l0_0 (ji25)).f1)).f2))))) else (none)) else (none)) else (none)) else (none)) = some r := by first | (rw [hji25] at H; exact H) | (simp only [hji25] at H ⊢; exact H)
    (try rw [hji25] at A20)
    (try rw [hji25] at A21)
    (try rw [hji25] at A22)
    (try rw [hji25] at A24)
    by_cases c26 : 0 ≤ (ji25)
    rotate_left
    ·
     rw [if_neg c26] at H
     exact absurd H (by simp)
    rw [if_pos c26] at H
    have c26b0 : decide (0 ≤ (ji25)) = true := decide_eq_true c26
    clear c26
    (first | rw [c26b0] | (simp only [i64_w, i32_w]; rw [c26b0]) | skip)
    by_cases c27 : (ji25) < (l0_0.length : Int)
    rotate_left
    ·
     rw [if_neg c27] at H
     exact absurd H (by simp)
    rw [if_pos c27] at H
    have c27b0 : decide ((ji25) < (l0_0.length : Int)) = true := decide_eq_true c27
    clear c27
    by_cases c28 : 0 ≤ ((Qp l0_0 (ji25)).f1)
    rotate_left
    ·
     rw [if_neg c28] at H
     exact absurd H (by simp)
    rw [if_pos c28] at H
    have c28b0 : decide (0 ≤ ((Qp l0_0 (ji25)).f1)) = true := decide_eq_true c28
    clear c28
    by_cases c29 : ((Qp l0_0 (ji25)).f1) < (t270.length : Int)
    rotate_left
    ·
     rw [if_neg c29] at H
     exact absurd H (by simp)
    rw [if_pos c29] at H
    have c29b0 : decide (((Qp l0_0 (ji25)).f1) < (t270.length : Int)) = true := decide_eq_true c29
    clear c29
    obtain rfl := Option.some.inj H
    try go_wp2
    have n0_ := Qa.mk (Kd.Qy HO272.out)
    have n1_ := Qa.mk (Qc BK266.out)
    have n2_ := Qa.mk (Qk HB.out)
    clear HO272
    clear BK266
    clear HB
    have HO272 := n0_
    have BK266 := n1_
    have HB := n2_
    clear n0_ n1_ n2_
    have p283 : 0 ≤ ((ji25) : Int) := of_decide_eq_true (by assumption)
    have q283 : (ji25) < (l0_0.length : Int) := of_decide_eq_true (by assumption)
    obtain ⟨ad283, e283, hx283_0, hx283_1⟩ := at_T39 HR0_0.out (ji25) p283 q283
    have hw283_1 := hx283_1
    have hw283_0 := hx283_0
    cases e283
    replace hx283_0 := (HB.out.cell (World.block_lt_of_cell? w _ hx283_0)).trans hx283_0
    replace hx283_1 := (HB.out.cell (World.block_lt_of_cell? w _ hx283_1)).trans hx283_1
    replace p283 := eq_true p283
    replace q283 := eq_true q283
    (obtain ⟨Ao_, co_, eo_⟩ := Kd.R_slice HO272.out; first | subst eo_ | skip)
    have p284 : 0 ≤ (((Qp l0_0 (ji25)).f1) : Int) := of_decide_eq_true (by assumption)
    have q284 : ((Qp l0_0 (ji25)).f1) < (t270.length : Int) := of_decide_eq_true (by assumption)
    obtain ⟨ad284, e284, hx284_0, hx284_1, hx284_2⟩ := at_T35 (Kd.R_reads' HO272.out).2.2 ((Qp l0_0 (ji25)).f1) p284 q284
    cases e284
    replace p284 := eq_true p284
    replace q284 := eq_true q284
    refine start_ (n := 21) (S := fun w' => w'.cell? ⟨gb266, 0, none⟩ = some (.slice (some ad283) l0_0.length c0_0) ∧ w'.cell? ⟨gb266, 1, none⟩ = some (.slice A0_1 l0_1.length c0_1) ∧ w'.cell? (ad283.add (((ji25)).toNat * 2)) = some (.string ((Qp l0_0 (ji25)).f0)) ∧ w'.cell? ⟨(ad283.add (((ji25)).toNat * 2)).block, (ad283.add (((ji25)).toNat * 2)).off + 1, none⟩ = some (.int .i64 ((Qp l0_0 (ji25)).f1)) ∧ w'.cell? (ad284.add ((((Qp l0_0 (ji25)).f1)).toNat * 3)) = some (.bool ((rd_T35 t270 ((Qp l0_0 (ji25)).f1)).f0)) ∧ w'.cell? ⟨(ad284.add ((((Qp l0_0 (ji25)).f1)).toNat * 3)).block, (ad284.add ((((Qp l0_0 (ji25)).f1)).toNat * 3)).off + 1, none⟩ = some (.bool ((rd_T35 t270 ((Qp l0_0 (ji25)).f1)).f1)) ∧ w'.cell? ⟨(ad284.add ((((Qp l0_0 (ji25)).f1)).toNat * 3)).block, (ad284.add ((((Qp l0_0 (ji25)).f1)).toNat * 3)).off + 2, none⟩ = some (.bool ((rd_T35 t270 ((Qp l0_0 (ji25)).f1)).f2))) (ds := []) #[Y, Y, Y, Y, Y, Y, Y, Y, Y, Y, Y, Y, Y, Y, Y, Y, Y, Y, Y, Y, Y] (by kernel_rfl) rfl rfl ⟨(Qb BK266.out 0).trans rfl, (Qb BK266.out 1).trans rfl, ((HB.out.cell (World.block_lt_of_cell? w _ hw283_0)).trans hw283_0), ((HB.out.cell (World.block_lt_of_cell? w _ hw283_1)).trans hw283_1), hx284_0, hx284_1, hx284_2⟩ (fun hHeld => ?_); refine with_tabW Qn1.tab5 Qn1.bits5 (fun HT_ HW_ => ?_)
    generalize w19.drew = w30 at HO272 BK266 HB hx283_0 hx283_1 hx284_0 hx284_1 hx284_2 hHeld ⊢
    refine pure_ (i := 3) (N := some 26) (v := ?_) (a' := ?_) #[Y, Y, Y, J, Y, Y, Y, Y, Y, Y, Y, Y, Y, Y, Y, Y, Y, Y, Y, Y, Y] rfl rfl (Qm HT_.out (by kernel_rfl)) (fun _ _ _ h => h) (Or.inl ⟨by rfl, ?_⟩) ?_ ?_
    rotate_left
    ·
     intro w'
     go_simp
     with_reducible rfl
    rotate_left
    ·
     simp only [Act.put, List.setIfInBounds_toArray, List.set_cons_zero, List.set_cons_succ, i64_w, i32_w]
     rfl
    refine take_ (i := 0) (N := some 23) (v := ?_) (a' := ?_) #[J, Y, Y, J, Y, Y, Y, Y, Y, Y, Y, Y, Y, Y, Y, Y, Y, Y, Y, Y, Y] rfl rfl (Qk1 HT_.out HW_.out (by kernel_rfl)) (fun _ _ _ h => h) (Or.inl ⟨by rfl, ?_⟩) hHeld ?_ ?_
    rotate_left
    ·
     rintro w' ⟨s0, s1, s2, s3, s4, s5, s6⟩
     go_simp
     with_reducible rfl
    rotate_left
    ·
     simp only [Act.put, List.setIfInBounds_toArray, List.set_cons_zero, List.set_cons_succ, i64_w, i32_w]
     rfl
    refine one_ (i := 1) (N := some 24) #[J, J, Y, J, Y, Y, Y, Y, Y, Y, Y, Y, Y, Y, Y, Y, Y, Y, Y, Y, Y] rfl rfl (one_of HT_.out (by kernel_rfl)) (by decide) (fun K hK => ?_)
    refine goes_ Try.func13 (by kernel_rfl) rfl #[.agg #[.slice (some ad283) l0_0.length c0_0, .slice A0_1 l0_1.length c0_1]] (by rfl) rfl rfl (by (try simp only [List.map_toArray, List.map_cons, List.map_nil]); first | done | rfl | (simp only [List.length_drop, List.length_take]; rfl)) ?_
    with_reducible refine (flow_Of.calls kj2 _ _ l0_0 _ _ l0_1 t273 _ ?side1 ?side2 ?side3 ?side4 A20.out).mono ?_
    (case side1 => repeat (first | exact (Kd.Qw HR0_0.out HB.out) | (with_reducible refine Kd.Qf1 ?_ _) | (with_reducible refine Kd.Qe1 ?_ _) | (with_reducible refine Kd.C_drew ?_)))
    (case side2 => exact HC0_0.out)
    (case side3 => repeat (first | exact (Kd.Qw HR0_1.out HB.out) | (with_reducible refine Kd.Qf1 ?_ _) | (with_reducible refine Kd.Qe1 ?_ _) | (with_reducible refine Kd.C_drew ?_)))
    (case side4 => exact HC0_1.out)
    rintro e w31 ⟨v274, rfl, ho0, hb⟩
    have HS4_ := (hb.cell (World.block_lt_of_cell? _ _ (hHeld.2.2.2.2.1))).trans (hHeld.2.2.2.2.1)
    have HS5_ := (hb.cell (World.block_lt_of_cell? _ _ (hHeld.2.2.2.2.2.1))).trans (hHeld.2.2.2.2.2.1)
    have HS6_ := (hb.cell (World.block_lt_of_cell? _ _ (hHeld.2.2.2.2.2.2))).trans (hHeld.2.2.2.2.2.2)
    refine ⟨_, rfl, ?_⟩
    have n0_ := Qa.mk (Kd.Qh1 (by (with_reducible repeat (first | apply Kd.Qz | apply Kd.Qa1 | apply Kd.Qy)); exact HO272.out) hb)
    have n1_ := Qa.mk (Kd.R_lower ho0 (Qc1 (by with_reducible repeat (first | exact HB.out | apply Qj | apply Ql | apply Qk | refine Qi ?_ GE266.out))))
    have n2_ := Qa.mk (Qo (g := gb266) (o := .cells #[.slice (some ad283) l0_0.length c0_0, .slice A0_1 l0_1.length c0_1] 25 (0, 0)) (by (with_reducible repeat (first | refine Qe ?_ _ | refine Qc ?_ | refine Qd ?_ _)); exact BK266.out) hb)
    have n3_ := Qa.mk (Qr (by with_reducible repeat (first | exact HB.out | apply Qj | apply Ql | apply Qk | refine Qi ?_ GE266.out)) hb)
    clear HO272
    clear BK266
    clear HB
    have HO272 := n0_
    have HO275 := n1_
    have BK266 := n2_
    have HB := n3_
    clear n0_ n1_ n2_ n3_
    (try clear hb; try clear hb2; try clear hk; try clear hi; try clear ho0)
    obtain ⟨Ao32, co32, eo32⟩ := Kd.R_slice HO275.out
    (first | subst eo32 | (injection eo32 with f1_ f2_ f3_; have f4_ := f1_.symm; have f5_ := f3_.symm; clear f1_ f2_ f3_; subst f4_; subst f5_))
    refine hK.out _ _ ⟨(Qb BK266.out 0).trans rfl, (Qb BK266.out 1).trans rfl, ((HB.out.cell (World.block_lt_of_cell? w _ hw283_0)).trans hw283_0), ((HB.out.cell (World.block_lt_of_cell? w _ hw283_1)).trans hw283_1), HS4_, HS5_, HS6_⟩ (fun hHeld => ?_)
    clear hK K
    refine norm_ (a' := ?_) ?_ ?_
    rotate_left
    ·
     show Act.put _ (some 24) _ = _
     simp only [Act.put, List.setIfInBounds_toArray, List.set_cons_zero, List.set_cons_succ, i64_w, i32_w]
     rfl
    refine one_ (i := 2) (N := some 25) #[J, J, J, J, Y, Y, Y, Y, Y, Y, Y, Y, Y, Y, Y, Y, Y, Y, Y, Y, Y] rfl rfl (one_of HT_.out (by kernel_rfl)) (by decide) (fun K hK => ?_)
    refine goes_ Try.func12 (by kernel_rfl) rfl #[.slice Ao32 t273.length co32] (by rfl) rfl rfl (by (try simp only [List.map_toArray, List.map_cons, List.map_nil]); first | done | rfl | (simp only [List.length_drop, List.length_take]; rfl)) ?_
    with_reducible refine (Qt1.calls kj2 _ _ t273 t276 _ ?side1 ?side2 A21.out).mono ?_
    (case side1 => repeat (first | exact (Kd.R_reads' HO275.out).2.2 | (with_reducible refine Kd.Qf1 ?_ _) | (with_reducible refine Kd.Qe1 ?_ _) | (with_reducible refine Kd.C_drew ?_)))
    (case side2 => exact (Kd.R_reads' HO275.out).2.1)
    rintro e w33 ⟨v277, rfl, ho0, hb⟩
    have HS4_ := (hb.cell (World.block_lt_of_cell? _ _ (hHeld.2.2.2.2.1))).trans (hHeld.2.2.2.2.1)
    have HS5_ := (hb.cell (World.block_lt_of_cell? _ _ (hHeld.2.2.2.2.2.1))).trans (hHeld.2.2.2.2.2.1)
    have HS6_ := (hb.cell (World.block_lt_of_cell? _ _ (hHeld.2.2.2.2.2.2))).trans (hHeld.2.2.2.2.2.2)
    refine ⟨_, rfl, ?_⟩
    have n0_ := Qa.mk (Kd.R_elder' (by (with_reducible repeat (first | apply Kd.Qz | apply Kd.Qa1 | apply Kd.Qy)); exact HO272.out) (Kd.R_base ho0) hb)
    have n1_ := Qa.mk (Kd.Qh1 (by (with_reducible repeat (first | apply Kd.Qz | apply Kd.Qa1 | apply Kd.Qy)); exact HO275.out) hb)
    have n2_ := Qa.mk (Kd.R_lower (Kd.R_new' ho0 (Kd.R_lt (by (with_reducible repeat (first | apply Kd.Qz | apply Kd.Qa1 | apply Kd.Qy)); exact HO272.out))) (Qc1 (by with_reducible repeat (first | exact HB.out | apply Qj | apply Ql | apply Qk | refine Qi ?_ GE266.out))))
    have n3_ := Qa.mk (Qo (g := gb266) (o := .cells #[.slice (some ad283) l0_0.length c0_0, .slice A0_1 l0_1.length c0_1] 25 (0, 0)) (by (with_reducible repeat (first | refine Qe ?_ _ | refine Qc ?_ | refine Qd ?_ _)); exact BK266.out) hb)
    have n4_ := Qa.mk (Qr (by with_reducible repeat (first | exact HB.out | apply Qj | apply Ql | apply Qk | refine Qi ?_ GE266.out)) hb)
    clear HO272
    clear HO275
    clear BK266
    clear HB
    have HO272 := n0_
    have HO275 := n1_
    have HO278 := n2_
    have BK266 := n3_
    have HB := n4_
    clear n0_ n1_ n2_ n3_ n4_
    (try clear hb; try clear hb2; try clear hk; try clear hi; try clear ho0)
    obtain ⟨Ao34, co34, eo34⟩ := Kd.R_slice HO278.out
    (first | subst eo34 | (injection eo34 with f1_ f2_ f3_; have f4_ := f1_.symm; have f5_ := f3_.symm; clear f1_ f2_ f3_; subst f4_; subst f5_))
    obtain ⟨Ao35, co35, eo35⟩ := Kd.R_slice HO272.out
    (first | subst eo35 | (injection eo35 with f1_ f2_ f3_; have f4_ := f1_.symm; have f5_ := f3_.symm; clear f1_ f2_ f3_; subst f4_; subst f5_))
    refine hK.out _ _ ⟨(Qb BK266.out 0).trans rfl, (Qb BK266.out 1).trans rfl, ((HB.out.cell (World.block_lt_of_cell? w _ hw283_0)).trans hw283_0), ((HB.out.cell (World.block_lt_of_cell? w _ hw283_1)).trans hw283_1), HS4_, HS5_, HS6_⟩ (fun hHeld => ?_)
    clear hK K
    refine norm_ (a' := ?_) ?_ ?_
    rotate_left
    ·
     show Act.put _ (some 25) _ = _
     simp only [Act.put, List.setIfInBounds_toArray, List.set_cons_zero, List.set_cons_succ, i64_w, i32_w]
     rfl
    refine one_ (i := 4) (N := some 27) #[J, J, J, J, J, Y, Y, Y, Y, Y, Y, Y, Y, Y, Y, Y, Y, Y, Y, Y, Y] rfl rfl (one_of HT_.out (by kernel_rfl)) (by decide) (fun K hK => ?_)
    refine goes_ Try.func11 (by kernel_rfl) rfl #[.slice Ao34 t276.length co34, .slice (some ad284) t270.length co35] (by rfl) rfl rfl (by (try simp only [List.map_toArray, List.map_cons, List.map_nil]); first | done | rfl | (simp only [List.length_drop, List.length_take]; rfl)) ?_
    with_reducible refine (Qq1.calls kj2 _ _ t276 _ _ t270 true _ ?side1 ?side2 ?side3 ?side4 A22.out).mono ?_
    (case side1 => repeat (first | exact (Kd.R_reads' HO278.out).2.2 | (with_reducible refine Kd.Qf1 ?_ _) | (with_reducible refine Kd.Qe1 ?_ _) | (with_reducible refine Kd.C_drew ?_)))
    (case side2 => exact (Kd.R_reads' HO278.out).2.1)
    (case side3 => repeat (first | exact (Kd.R_reads' HO272.out).2.2 | (with_reducible refine Kd.Qf1 ?_ _) | (with_reducible refine Kd.Qe1 ?_ _) | (with_reducible refine Kd.C_drew ?_)))
    (case side4 => exact (Kd.R_reads' HO272.out).2.1)
    rintro e w' ⟨rfl, ⟨nd, rfl⟩⟩
    refine ⟨_, rfl, ?_⟩
    refine hK.out _ _ ⟨(Qb BK266.out 0).trans rfl, (Qb BK266.out 1).trans rfl, ((HB.out.cell (World.block_lt_of_cell? w _ hw283_0)).trans hw283_0), ((HB.out.cell (World.block_lt_of_cell? w _ hw283_1)).trans hw283_1), hHeld.2.2.2.2.1, hHeld.2.2.2.2.2.1, hHeld.2.2.2.2.2.2⟩ (fun hHeld => ?_)
    clear hK K
    refine norm_ (a' := ?_) ?_ ?_
    rotate_left
    ·
     show Act.put _ (some 27) _ = _
     simp only [Act.put, List.setIfInBounds_toArray, List.set_cons_zero, List.set_cons_succ, i64_w, i32_w]
     rfl
    refine pure_ (i := 5) (N := some 28) (v := ?_) (a' := ?_) #[J, J, J, J, J, J, Y, Y, Y, Y, Y, Y, Y, Y, Y, Y, Y, Y, Y, Y, Y] rfl rfl (Qm HT_.out (by kernel_rfl)) (fun _ _ _ h => h) (Or.inl ⟨by rfl, ?_⟩) ?_ ?_
    rotate_left
    ·
     intro w'
     go_simp
     with_reducible rfl
    rotate_left
    ·
     simp only [Act.put, List.setIfInBounds_toArray, List.set_cons_zero, List.set_cons_succ, i64_w, i32_w]
     rfl
    refine pure_ (i := 7) (N := some 30) (v := ?_) (a' := ?_) #[J, J, J, J, J, J, Y, J, Y, Y, Y, Y, Y, Y, Y, Y, Y, Y, Y, Y, Y] rfl rfl (Qm HT_.out (by kernel_rfl)) (fun _ _ _ h => h) (Or.inl ⟨by rfl, ?_⟩) ?_ ?_
    rotate_left
    ·
     intro w'
     go_simp
     with_reducible rfl
    rotate_left
    ·
     simp only [Act.put, List.setIfInBounds_toArray, List.set_cons_zero, List.set_cons_succ, i64_w, i32_w]
     rfl
    refine pure_ (i := 9) (N := some 32) (v := ?_) (a' := ?_) #[J, J, J, J, J, J, Y, J, Y, J, Y, Y, Y, Y, Y, Y, Y, Y, Y, Y, Y] rfl rfl (Qm HT_.out (by kernel_rfl)) (fun _ _ _ h => h) (Or.inl ⟨by rfl, ?_⟩) ?_ ?_
    rotate_left
    ·
     intro w'
     go_simp
     with_reducible rfl
    rotate_left
    ·
     simp only [Act.put, List.setIfInBounds_toArray, List.set_cons_zero, List.set_cons_succ, i64_w, i32_w]
     rfl
    refine pure_ (i := 10) (N := some 33) (v := ?_) (a' := ?_) #[J, J, J, J, J, J, Y, J, Y, J, J, Y, Y, Y, Y, Y, Y, Y, Y, Y, Y] rfl rfl (Qm HT_.out (by kernel_rfl)) (fun _ _ _ h => h) (Or.inl ⟨by rfl, ?_⟩) ?_ ?_
    rotate_left
    ·
     intro w'
     go_simp
     with_reducible rfl
    rotate_left
    ·
     simp only [Act.put, List.setIfInBounds_toArray, List.set_cons_zero, List.set_cons_succ, i64_w, i32_w]
     rfl
    refine pure_ (i := 12) (N := some 35) (v := ?_) (a' := ?_) #[J, J, J, J, J, J, Y, J, Y, J, J, Y, J, Y, Y, Y, Y, Y, Y, Y, Y] rfl rfl (Qm HT_.out (by kernel_rfl)) (fun _ _ _ h => h) (Or.inl ⟨by rfl, ?_⟩) ?_ ?_
    rotate_left
    ·
     intro w'
     go_simp
     with_reducible rfl
    rotate_left
    ·
     simp only [Act.put, List.setIfInBounds_toArray, List.set_cons_zero, List.set_cons_succ, i64_w, i32_w]
     rfl
    refine take_ (i := 6) (N := some 29) (v := ?_) (a' := ?_) #[J, J, J, J, J, J, J, J, Y, J, J, Y, J, Y, Y, Y, Y, Y, Y, Y, Y] rfl rfl (Qk1 HT_.out HW_.out (by kernel_rfl)) (fun _ _ _ h => h) (Or.inl ⟨by rfl, ?_⟩) hHeld ?_ ?_
    rotate_left
    ·
     rintro w' ⟨s0, s1, s2, s3, s4, s5, s6⟩
     go_simp
     with_reducible rfl
    rotate_left
    ·
     simp only [Act.put, List.setIfInBounds_toArray, List.set_cons_zero, List.set_cons_succ, i64_w, i32_w]
     rfl
    refine take_ (i := 11) (N := some 34) (v := ?_) (a' := ?_) #[J, J, J, J, J, J, J, J, Y, J, J, J, J, Y, Y, Y, Y, Y, Y, Y, Y] rfl rfl (Qk1 HT_.out HW_.out (by kernel_rfl)) (fun _ _ _ h => h) (Or.inl ⟨by rfl, ?_⟩) hHeld ?_ ?_
    rotate_left
    ·
     rintro w' ⟨s0, s1, s2, s3, s4, s5, s6⟩
     go_simp
     with_reducible rfl
    rotate_left
    ·
     simp only [Act.put, List.setIfInBounds_toArray, List.set_cons_zero, List.set_cons_succ, i64_w, i32_w]
     rfl
    refine pure_ (i := 13) (N := some 36) (v := ?_) (a' := ?_) #[J, J, J, J, J, J, J, J, Y, J, J, J, J, J, Y, Y, Y, Y, Y, Y, Y] rfl rfl (Qm HT_.out (by kernel_rfl)) (fun _ _ _ h => h) (Or.inl ⟨by rfl, ?_⟩) ?_ ?_
    rotate_left
    ·
     intro w'
     go_simp
     with_reducible rfl
    rotate_left
    ·
     simp only [Act.put, List.setIfInBounds_toArray, List.set_cons_zero, List.set_cons_succ, i64_w, i32_w]
     rfl
    refine pure_ (i := 14) (N := some 37) (v := ?_) (a' := ?_) #[J, J, J, J, J, J, J, J, Y, J, J, J, J, J, J, Y, Y, Y, Y, Y, Y] rfl rfl (Qm HT_.out (by kernel_rfl)) (fun _ _ _ h => h) (Or.inl ⟨by rfl, ?_⟩) ?_ ?_
    rotate_left
    ·
     intro w'
     go_simp
     with_reducible rfl
    rotate_left
    ·
     simp only [Act.put, List.setIfInBounds_toArray, List.set_cons_zero, List.set_cons_succ, i64_w, i32_w]
     rfl
    refine take_ (i := 15) (N := some 38) (v := ?_) (a' := ?_) #[J, J, J, J, J, J, J, J, Y, J, J, J, J, J, J, J, Y, Y, Y, Y, Y] rfl rfl (Qk1 HT_.out HW_.out (by kernel_rfl)) (fun _ _ _ h => h) (Or.inl ⟨by rfl, ?_⟩) hHeld ?_ ?_
    rotate_left
    ·
     rintro w' ⟨s0, s1, s2, s3, s4, s5, s6⟩
     go_simp
     with_reducible rfl
    rotate_left
    ·
     simp only [Act.put, List.setIfInBounds_toArray, List.set_cons_zero, List.set_cons_succ, i64_w, i32_w]
     rfl
    refine pure_ (i := 16) (N := some 39) (v := ?_) (a' := ?_) #[J, J, J, J, J, J, J, J, Y, J, J, J, J, J, J, J, J, Y, Y, Y, Y] rfl rfl (Qm HT_.out (by kernel_rfl)) (fun _ _ _ h => h) (Or.inl ⟨by rfl, ?_⟩) ?_ ?_
    rotate_left
    ·
     intro w'
     go_simp
     with_reducible rfl
    rotate_left
    ·
     simp only [Act.put, List.setIfInBounds_toArray, List.set_cons_zero, List.set_cons_succ, i64_w, i32_w]
     rfl
    refine take_ (i := 17) (N := some 40) (v := ?_) (a' := ?_) #[J, J, J, J, J, J, J, J, Y, J, J, J, J, J, J, J, J, J, Y, Y, Y] rfl rfl (Qk1 HT_.out HW_.out (by kernel_rfl)) (fun _ _ _ h => h) (Or.inl ⟨by rfl, ?_⟩) hHeld ?_ ?_
    rotate_left
    ·
     rintro w' ⟨s0, s1, s2, s3, s4, s5, s6⟩
     go_simp
     with_reducible rfl
    rotate_left
    ·
     simp only [Act.put, List.setIfInBounds_toArray, List.set_cons_zero, List.set_cons_succ, i64_w, i32_w]
     rfl
    refine one_ (i := 8) (N := some 31) #[J, J, J, J, J, J, J, J, J, J, J, J, J, J, J, J, J, J, Y, Y, Y] rfl rfl (one_of HT_.out (by kernel_rfl)) (by decide) (fun K hK => ?_)
    refine goes_ Try.func14 (by kernel_rfl) rfl #[.agg #[.slice (some ad283) l0_0.length c0_0, .slice A0_1 l0_1.length c0_1], .int .i64 ji25] (by rfl) rfl rfl (by (try simp only [List.map_toArray, List.map_cons, List.map_nil]); first | done | (simp only [hji25]; rfl) | rfl | (simp only [List.length_drop, List.length_take]; rfl)) ?_
    with_reducible refine (flow_Rule.calls kj2 _ _ l0_0 _ _ l0_1 ji25 t280 t281 t282 _ ?side1 ?side2 ?side3 ?side4 A24.out).mono ?_
    (case side1 => repeat (first | exact (Kd.Qw HR0_0.out (by with_reducible repeat (first | exact HB.out | apply Qj | apply Ql | apply Qk | refine Qi ?_ GE266.out))) | (with_reducible refine Kd.Qf1 ?_ _) | (with_reducible refine Kd.Qe1 ?_ _) | (with_reducible refine Kd.C_drew ?_)))
    (case side2 => exact HC0_0.out)
    (case side3 => repeat (first | exact (Kd.Qw HR0_1.out (by with_reducible repeat (first | exact HB.out | apply Qj | apply Ql | apply Qk | refine Qi ?_ GE266.out))) | (with_reducible refine Kd.Qf1 ?_ _) | (with_reducible refine Kd.Qe1 ?_ _) | (with_reducible refine Kd.C_drew ?_)))
    (case side4 => exact HC0_1.out)
    rintro e w36 ⟨rfl, hb⟩
    have HS4_ := (hb.cell (World.block_lt_of_cell? _ _ (hHeld.2.2.2.2.1))).trans (hHeld.2.2.2.2.1)
    have HS5_ := (hb.cell (World.block_lt_of_cell? _ _ (hHeld.2.2.2.2.2.1))).trans (hHeld.2.2.2.2.2.1)
    have HS6_ := (hb.cell (World.block_lt_of_cell? _ _ (hHeld.2.2.2.2.2.2))).trans (hHeld.2.2.2.2.2.2)
    refine ⟨_, rfl, ?_⟩
    have n0_ := Qa.mk (Kd.Qh1 (by (with_reducible repeat (first | apply Kd.Qz | apply Kd.Qa1 | apply Kd.Qy)); exact HO272.out) hb)
    have n1_ := Qa.mk (Kd.Qh1 (by (with_reducible repeat (first | apply Kd.Qz | apply Kd.Qa1 | apply Kd.Qy)); exact HO275.out) hb)
    have n2_ := Qa.mk (Kd.Qh1 (by (with_reducible repeat (first | apply Kd.Qz | apply Kd.Qa1 | apply Kd.Qy)); exact HO278.out) hb)
    have n3_ := Qa.mk (Qo (g := gb266) (o := .cells #[.slice (some ad283) l0_0.length c0_0, .slice A0_1 l0_1.length c0_1] 25 (0, 0)) (by (with_reducible repeat (first | refine Qe ?_ _ | refine Qc ?_ | refine Qd ?_ _)); exact BK266.out) hb)
    have n4_ := Qa.mk (Qr (by with_reducible repeat (first | exact HB.out | apply Qj | apply Ql | apply Qk | refine Qi ?_ GE266.out)) hb)
    clear HO272
    clear HO275
    clear HO278
    clear BK266
    clear HB
    have HO272 := n0_
    have HO275 := n1_
    have HO278 := n2_
    have BK266 := n3_
    have HB := n4_
    clear n0_ n1_ n2_ n3_ n4_
    (try clear hb; try clear hb2; try clear hk; try clear hi)
    refine hK.out _ _ ⟨(Qb BK266.out 0).trans rfl, (Qb BK266.out 1).trans rfl, ((HB.out.cell (World.block_lt_of_cell? w _ hw283_0)).trans hw283_0), ((HB.out.cell (World.block_lt_of_cell? w _ hw283_1)).trans hw283_1), HS4_, HS5_, HS6_⟩ (fun hHeld => ?_)
    clear hK K
    refine norm_ (a' := ?_) ?_ ?_
    rotate_left
    ·
     show Act.put _ (some 31) _ = _
     simp only [Act.put, List.setIfInBounds_toArray, List.set_cons_zero, List.set_cons_succ, i64_w, i32_w]
     rfl
    refine pure_ (i := 18) (N := some 41) (v := ?_) (a' := ?_) #[J, J, J, J, J, J, J, J, J, J, J, J, J, J, J, J, J, J, J, Y, Y] rfl rfl (Qm HT_.out (by kernel_rfl)) (fun _ _ _ h => h) (Or.inl ⟨by rfl, ?_⟩) ?_ ?_
    rotate_left
    ·
     intro w'
     go_simp
     with_reducible rfl
    rotate_left
    ·
     simp only [Act.put, List.setIfInBounds_toArray, List.set_cons_zero, List.set_cons_succ, i64_w, i32_w]
     rfl
    refine pure_ (i := 19) (N := some 42) (v := ?_) (a' := ?_) #[J, J, J, J, J, J, J, J, J, J, J, J, J, J, J, J, J, J, J, J, Y] rfl rfl (Qm HT_.out (by kernel_rfl)) (fun _ _ _ h => h) (Or.inl ⟨by rfl, ?_⟩) ?_ ?_
    rotate_left
    ·
     intro w'
     go_simp
     with_reducible rfl
    rotate_left
    ·
     simp only [Act.put, List.setIfInBounds_toArray, List.set_cons_zero, List.set_cons_succ, i64_w, i32_w]
     rfl
    refine pure_ (i := 20) (N := some 4) (v := ?_) (a' := ?_) #[J, J, J, J, J, J, J, J, J, J, J, J, J, J, J, J, J, J, J, J, J] rfl rfl (Qm HT_.out (by kernel_rfl)) (fun _ _ _ h => h) (Or.inl ⟨by rfl, ?_⟩) ?_ ?_
    rotate_left
    ·
     intro w'
     go_simp
     with_reducible rfl
    rotate_left
    ·
     simp only [Act.put, List.setIfInBounds_toArray, List.set_cons_zero, List.set_cons_succ, i64_w, i32_w]
     rfl
    refine done_ (done_of HT_.out (by kernel_rfl)) ?_
    try go_wp2
    go_ret
    exact ⟨by first | rfl | (simp [Qt, Qs] <;> rfl) | (simp only [← hji25]; first | rfl | (simp [Qt, Qs] <;> rfl)) | (simp [*, Qt, Qs] <;> rfl), by with_reducible repeat (first | exact HB.out | apply Qj | apply Ql | apply Qk | refine Qi ?_ GE266.out)⟩
   replace c23 := Bool.eq_false_iff.mpr c23
   subst c23
   have H1 : (some false) = some r := by rw [if_neg (show ¬ (false = true) by decide)] at H; exact H
   clear H
   have H := H1
   clear H1
   obtain rfl := Option.some.inj H
   try go_wp2
   have n0_ := Qa.mk (Kd.Qy HO272.out)
   have n1_ := Qa.mk (Qc BK266.out)
   have n2_ := Qa.mk (Qk HB.out)
   clear HO272
   clear BK266
   clear HB
   have HO272 := n0_
   have BK266 := n1_
   have HB := n2_
   clear n0_ n1_ n2_
   refine start_ (n := 21) (S := fun w' => w'.cell? ⟨gb266, 0, none⟩ = some (.slice A0_0 l0_0.length c0_0) ∧ w'.cell? ⟨gb266, 1, none⟩ = some (.slice A0_1 l0_1.length c0_1)) (ds := []) #[Y, Y, Y, Y, Y, Y, Y, Y, Y, Y, Y, Y, Y, Y, Y, Y, Y, Y, Y, Y, Y] (by kernel_rfl) rfl rfl ⟨(Qb BK266.out 0).trans rfl, (Qb BK266.out 1).trans rfl⟩ (fun hHeld => ?_); refine with_tabW Qn1.tab5 Qn1.bits5 (fun HT_ HW_ => ?_)
   generalize w19.drew = w37 at HO272 BK266 HB hHeld ⊢
   refine pure_ (i := 3) (N := some 26) (v := ?_) (a' := ?_) #[Y, Y, Y, J, Y, Y, Y, Y, Y, Y, Y, Y, Y, Y, Y, Y, Y, Y, Y, Y, Y] rfl rfl (Qm HT_.out (by kernel_rfl)) (fun _ _ _ h => h) (Or.inl ⟨by rfl, ?_⟩) ?_ ?_
   rotate_left
   ·
    intro w'
    go_simp
    with_reducible rfl
   rotate_left
   ·
    simp only [Act.put, List.setIfInBounds_toArray, List.set_cons_zero, List.set_cons_succ, i64_w, i32_w]
    rfl
   refine take_ (i := 0) (N := some 23) (v := ?_) (a' := ?_) #[J, Y, Y, J, Y, Y, Y, Y, Y, Y, Y, Y, Y, Y, Y, Y, Y, Y, Y, Y, Y] rfl rfl (Qk1 HT_.out HW_.out (by kernel_rfl)) (fun _ _ _ h => h) (Or.inl ⟨by rfl, ?_⟩) hHeld ?_ ?_
   rotate_left
   ·
    rintro w' ⟨s0, s1⟩
    go_simp
    with_reducible rfl
   rotate_left
   ·
    simp only [Act.put, List.setIfInBounds_toArray, List.set_cons_zero, List.set_cons_succ, i64_w, i32_w]
    rfl
   refine one_ (i := 1) (N := some 24) #[J, J, Y, J, Y, Y, Y, Y, Y, Y, Y, Y, Y, Y, Y, Y, Y, Y, Y, Y, Y] rfl rfl (one_of HT_.out (by kernel_rfl)) (by decide) (fun K hK => ?_)
   refine goes_ Try.func13 (by kernel_rfl) rfl #[.agg #[.slice A0_0 l0_0.length c0_0, .slice A0_1 l0_1.length c0_1]] (by rfl) rfl rfl (by (try simp only [List.map_toArray, List.map_cons, List.map_nil]); first | done | rfl | (simp only [List.length_drop, List.length_take]; rfl)) ?_
   with_reducible refine (flow_Of.calls kj2 _ _ l0_0 _ _ l0_1 t273 _ ?side1 ?side2 ?side3 ?side4 A20.out).mono ?_
   (case side1 => repeat (first | exact (Kd.Qw HR0_0.out HB.out) | (with_reducible refine Kd.Qf1 ?_ _) | (with_reducible refine Kd.Qe1 ?_ _) | (with_reducible refine Kd.C_drew ?_)))
   (case side2 => exact HC0_0.out)
   (case side3 => repeat (first | exact (Kd.Qw HR0_1.out HB.out) | (with_reducible refine Kd.Qf1 ?_ _) | (with_reducible refine Kd.Qe1 ?_ _) | (with_reducible refine Kd.C_drew ?_)))
   (case side4 => exact HC0_1.out)
   rintro e w38 ⟨v274, rfl, ho0, hb⟩
   refine ⟨_, rfl, ?_⟩
   have n0_ := Qa.mk (Kd.Qh1 (by (with_reducible repeat (first | apply Kd.Qz | apply Kd.Qa1 | apply Kd.Qy)); exact HO272.out) hb)
   have n1_ := Qa.mk (Kd.R_lower ho0 (Qc1 (by with_reducible repeat (first | exact HB.out | apply Qj | apply Ql | apply Qk | refine Qi ?_ GE266.out))))
   have n2_ := Qa.mk (Qo (g := gb266) (o := .cells #[.slice A0_0 l0_0.length c0_0, .slice A0_1 l0_1.length c0_1] 25 (0, 0)) (by (with_reducible repeat (first | refine Qe ?_ _ | refine Qc ?_ | refine Qd ?_ _)); exact BK266.out) hb)
   have n3_ := Qa.mk (Qr (by with_reducible repeat (first | exact HB.out | apply Qj | apply Ql | apply Qk | refine Qi ?_ GE266.out)) hb)
   clear HO272
   clear BK266
   clear HB
   have HO272 := n0_
   have HO275 := n1_
   have BK266 := n2_
   have HB := n3_
   clear n0_ n1_ n2_ n3_
   (try clear hb; try clear hb2; try clear hk; try clear hi; try clear ho0)
   obtain ⟨Ao39, co39, eo39⟩ := Kd.R_slice HO275.out
   (first | subst eo39 | (injection eo39 with f1_ f2_ f3_; have f4_ := f1_.symm; have f5_ := f3_.symm; clear f1_ f2_ f3_; subst f4_; subst f5_))
   refine hK.out _ _ ⟨(Qb BK266.out 0).trans rfl, (Qb BK266.out 1).trans rfl⟩ (fun hHeld => ?_)
   clear hK K
   refine norm_ (a' := ?_) ?_ ?_
   rotate_left
   ·
    show Act.put _ (some 24) _ = _
    simp only [Act.put, List.setIfInBounds_toArray, List.set_cons_zero, List.set_cons_succ, i64_w, i32_w]
    rfl
   refine one_ (i := 2) (N := some 25) #[J, J, J, J, Y, Y, Y, Y, Y, Y, Y, Y, Y, Y, Y, Y, Y, Y, Y, Y, Y] rfl rfl (one_of HT_.out (by kernel_rfl)) (by decide) (fun K hK => ?_)
   refine goes_ Try.func12 (by kernel_rfl) rfl #[.slice Ao39 t273.length co39] (by rfl) rfl rfl (by (try simp only [List.map_toArray, List.map_cons, List.map_nil]); first | done | rfl | (simp only [List.length_drop, List.length_take]; rfl)) ?_
   with_reducible refine (Qt1.calls kj2 _ _ t273 t276 _ ?side1 ?side2 A21.out).mono ?_
   (case side1 => repeat (first | exact (Kd.R_reads' HO275.out).2.2 | (with_reducible refine Kd.Qf1 ?_ _) | (with_reducible refine Kd.Qe1 ?_ _) | (with_reducible refine Kd.C_drew ?_)))
   (case side2 => exact (Kd.R_reads' HO275.out).2.1)
   rintro e w40 ⟨v277, rfl, ho0, hb⟩
   refine ⟨_, rfl, ?_⟩
   have n0_ := Qa.mk (Kd.R_elder' (by (with_reducible repeat (first | apply Kd.Qz | apply Kd.Qa1 | apply Kd.Qy)); exact HO272.out) (Kd.R_base ho0) hb)
   have n1_ := Qa.mk (Kd.Qh1 (by (with_reducible repeat (first | apply Kd.Qz | apply Kd.Qa1 | apply Kd.Qy)); exact HO275.out) hb)
   have n2_ := Qa.mk (Kd.R_lower (Kd.R_new' ho0 (Kd.R_lt (by (with_reducible repeat (first | apply Kd.Qz | apply Kd.Qa1 | apply Kd.Qy)); exact HO272.out))) (Qc1 (by with_reducible repeat (first | exact HB.out | apply Qj | apply Ql | apply Qk | refine Qi ?_ GE266.out))))
   have n3_ := Qa.mk (Qo (g := gb266) (o := .cells #[.slice A0_0 l0_0.length c0_0, .slice A0_1 l0_1.length c0_1] 25 (0, 0)) (by (with_reducible repeat (first | refine Qe ?_ _ | refine Qc ?_ | refine Qd ?_ _)); exact BK266.out) hb)
   have n4_ := Qa.mk (Qr (by with_reducible repeat (first | exact HB.out | apply Qj | apply Ql | apply Qk | refine Qi ?_ GE266.out)) hb)
   clear HO272
   clear HO275
   clear BK266
   clear HB
   have HO272 := n0_
   have HO275 := n1_
   have HO278 := n2_
   have BK266 := n3_
   have HB := n4_
   clear n0_ n1_ n2_ n3_ n4_
   (try clear hb; try clear hb2; try clear hk; try clear hi; try clear ho0)
   obtain ⟨Ao41, co41, eo41⟩ := Kd.R_slice HO278.out
   (first | subst eo41 | (injection eo41 with f1_ f2_ f3_; have f4_ := f1_.symm; have f5_ := f3_.symm; clear f1_ f2_ f3_; subst f4_; subst f5_))
   obtain ⟨Ao42, co42, eo42⟩ := Kd.R_slice HO272.out
   (first | subst eo42 | (injection eo42 with f1_ f2_ f3_; have f4_ := f1_.symm; have f5_ := f3_.symm; clear f1_ f2_ f3_; subst f4_; subst f5_))
   refine hK.out _ _ ⟨(Qb BK266.out 0).trans rfl, (Qb BK266.out 1).trans rfl⟩ (fun hHeld => ?_)
   clear hK K
   refine norm_ (a' := ?_) ?_ ?_
   rotate_left
   ·
    show Act.put _ (some 25) _ = _
    simp only [Act.put, List.setIfInBounds_toArray, List.set_cons_zero, List.set_cons_succ, i64_w, i32_w]
    rfl
   refine one_ (i := 4) (N := some 27) #[J, J, J, J, J, Y, Y, Y, Y, Y, Y, Y, Y, Y, Y, Y, Y, Y, Y, Y, Y] rfl rfl (one_of HT_.out (by kernel_rfl)) (by decide) (fun K hK => ?_)
   refine goes_ Try.func11 (by kernel_rfl) rfl #[.slice Ao41 t276.length co41, .slice Ao42 t270.length co42] (by rfl) rfl rfl (by (try simp only [List.map_toArray, List.map_cons, List.map_nil]); first | done | rfl | (simp only [List.length_drop, List.length_take]; rfl)) ?_
   with_reducible refine (Qq1.calls kj2 _ _ t276 _ _ t270 false _ ?side1 ?side2 ?side3 ?side4 A22.out).mono ?_
   (case side1 => repeat (first | exact (Kd.R_reads' HO278.out).2.2 | (with_reducible refine Kd.Qf1 ?_ _) | (with_reducible refine Kd.Qe1 ?_ _) | (with_reducible refine Kd.C_drew ?_)))
   (case side2 => exact (Kd.R_reads' HO278.out).2.1)
   (case side3 => repeat (first | exact (Kd.R_reads' HO272.out).2.2 | (with_reducible refine Kd.Qf1 ?_ _) | (with_reducible refine Kd.Qe1 ?_ _) | (with_reducible refine Kd.C_drew ?_)))
   (case side4 => exact (Kd.R_reads' HO272.out).2.1)
   rintro e w' ⟨rfl, ⟨nd, rfl⟩⟩
   refine ⟨_, rfl, ?_⟩
   refine hK.out _ _ ⟨(Qb BK266.out 0).trans rfl, (Qb BK266.out 1).trans rfl⟩ (fun hHeld => ?_)
   clear hK K
   refine norm_ (a' := ?_) ?_ ?_
   rotate_left
   ·
    show Act.put _ (some 27) _ = _
    simp only [Act.put, List.setIfInBounds_toArray, List.set_cons_zero, List.set_cons_succ, i64_w, i32_w]
    rfl
   refine pure_ (i := 5) (N := some 28) (v := ?_) (a' := ?_) #[J, J, J, J, J, J, Y, Y, Y, Y, Y, Y, Y, Y, Y, Y, Y, Y, Y, Y, Y] rfl rfl (Qm HT_.out (by kernel_rfl)) (fun _ _ _ h => h) (Or.inl ⟨by rfl, ?_⟩) ?_ ?_
   rotate_left
   ·
    intro w'
    go_simp
    with_reducible rfl
   rotate_left
   ·
    simp only [Act.put, List.setIfInBounds_toArray, List.set_cons_zero, List.set_cons_succ, i64_w, i32_w]
    rfl
   refine pure_ (i := 6) (N := some 29) (v := undef) (a' := ?_) #[J, J, J, J, J, J, J, Y, Y, Y, Y, Y, Y, Y, Y, Y, Y, Y, Y, Y, Y] rfl rfl (Qm HT_.out (by kernel_rfl)) (fun _ _ _ h => h) (Or.inr ⟨by rfl, rfl⟩) ?_ ?_
   rotate_left
   ·
    simp only [Act.put, List.setIfInBounds_toArray, List.set_cons_zero, List.set_cons_succ, i64_w, i32_w]
    rfl
   refine pure_ (i := 7) (N := some 30) (v := undef) (a' := ?_) #[J, J, J, J, J, J, J, J, Y, Y, Y, Y, Y, Y, Y, Y, Y, Y, Y, Y, Y] rfl rfl (Qm HT_.out (by kernel_rfl)) (fun _ _ _ h => h) (Or.inr ⟨by rfl, rfl⟩) ?_ ?_
   rotate_left
   ·
    simp only [Act.put, List.setIfInBounds_toArray, List.set_cons_zero, List.set_cons_succ, i64_w, i32_w]
    rfl
   refine pure_ (i := 8) (N := some 31) (v := undef) (a' := ?_) #[J, J, J, J, J, J, J, J, J, Y, Y, Y, Y, Y, Y, Y, Y, Y, Y, Y, Y] rfl rfl (Qm HT_.out (by kernel_rfl)) (fun _ _ _ h => h) (Or.inr ⟨by rfl, rfl⟩) ?_ ?_
   rotate_left
   ·
    simp only [Act.put, List.setIfInBounds_toArray, List.set_cons_zero, List.set_cons_succ, i64_w, i32_w]
    rfl
   refine pure_ (i := 9) (N := some 32) (v := undef) (a' := ?_) #[J, J, J, J, J, J, J, J, J, J, Y, Y, Y, Y, Y, Y, Y, Y, Y, Y, Y] rfl rfl (Qm HT_.out (by kernel_rfl)) (fun _ _ _ h => h) (Or.inr ⟨by rfl, rfl⟩) ?_ ?_
   rotate_left
   ·
    simp only [Act.put, List.setIfInBounds_toArray, List.set_cons_zero, List.set_cons_succ, i64_w, i32_w]
    rfl
   refine pure_ (i := 10) (N := some 33) (v := undef) (a' := ?_) #[J, J, J, J, J, J, J, J, J, J, J, Y, Y, Y, Y, Y, Y, Y, Y, Y, Y] rfl rfl (Qm HT_.out (by kernel_rfl)) (fun _ _ _ h => h) (Or.inr ⟨by rfl, rfl⟩) ?_ ?_
   rotate_left
   ·
    simp only [Act.put, List.setIfInBounds_toArray, List.set_cons_zero, List.set_cons_succ, i64_w, i32_w]
    rfl
   refine pure_ (i := 11) (N := some 34) (v := undef) (a' := ?_) #[J, J, J, J, J, J, J, J, J, J, J, J, Y, Y, Y, Y, Y, Y, Y, Y, Y] rfl rfl (Qm HT_.out (by kernel_rfl)) (fun _ _ _ h => h) (Or.inr ⟨by rfl, rfl⟩) ?_ ?_
   rotate_left
   ·
    simp only [Act.put, List.setIfInBounds_toArray, List.set_cons_zero, List.set_cons_succ, i64_w, i32_w]
    rfl
   refine pure_ (i := 12) (N := some 35) (v := undef) (a' := ?_) #[J, J, J, J, J, J, J, J, J, J, J, J, J, Y, Y, Y, Y, Y, Y, Y, Y] rfl rfl (Qm HT_.out (by kernel_rfl)) (fun _ _ _ h => h) (Or.inr ⟨by rfl, rfl⟩) ?_ ?_
   rotate_left
   ·
    simp only [Act.put, List.setIfInBounds_toArray, List.set_cons_zero, List.set_cons_succ, i64_w, i32_w]
    rfl
   refine pure_ (i := 13) (N := some 36) (v := undef) (a' := ?_) #[J, J, J, J, J, J, J, J, J, J, J, J, J, J, Y, Y, Y, Y, Y, Y, Y] rfl rfl (Qm HT_.out (by kernel_rfl)) (fun _ _ _ h => h) (Or.inr ⟨by rfl, rfl⟩) ?_ ?_
   rotate_left
   ·
    simp only [Act.put, List.setIfInBounds_toArray, List.set_cons_zero, List.set_cons_succ, i64_w, i32_w]
    rfl
   refine pure_ (i := 14) (N := some 37) (v := undef) (a' := ?_) #[J, J, J, J, J, J, J, J, J, J, J, J, J, J, J, Y, Y, Y, Y, Y, Y] rfl rfl (Qm HT_.out (by kernel_rfl)) (fun _ _ _ h => h) (Or.inr ⟨by rfl, rfl⟩) ?_ ?_
   rotate_left
   ·
    simp only [Act.put, List.setIfInBounds_toArray, List.set_cons_zero, List.set_cons_succ, i64_w, i32_w]
    rfl
   refine pure_ (i := 15) (N := some 38) (v := undef) (a' := ?_) #[J, J, J, J, J, J, J, J, J, J, J, J, J, J, J, J, Y, Y, Y, Y, Y] rfl rfl (Qm HT_.out (by kernel_rfl)) (fun _ _ _ h => h) (Or.inr ⟨by rfl, rfl⟩) ?_ ?_
   rotate_left
   ·
    simp only [Act.put, List.setIfInBounds_toArray, List.set_cons_zero, List.set_cons_succ, i64_w, i32_w]
    rfl
   refine pure_ (i := 16) (N := some 39) (v := undef) (a' := ?_) #[J, J, J, J, J, J, J, J, J, J, J, J, J, J, J, J, J, Y, Y, Y, Y] rfl rfl (Qm HT_.out (by kernel_rfl)) (fun _ _ _ h => h) (Or.inr ⟨by rfl, rfl⟩) ?_ ?_
   rotate_left
   ·
    simp only [Act.put, List.setIfInBounds_toArray, List.set_cons_zero, List.set_cons_succ, i64_w, i32_w]
    rfl
   refine pure_ (i := 17) (N := some 40) (v := undef) (a' := ?_) #[J, J, J, J, J, J, J, J, J, J, J, J, J, J, J, J, J, J, Y, Y, Y] rfl rfl (Qm HT_.out (by kernel_rfl)) (fun _ _ _ h => h) (Or.inr ⟨by rfl, rfl⟩) ?_ ?_
   rotate_left
   ·
    simp only [Act.put, List.setIfInBounds_toArray, List.set_cons_zero, List.set_cons_succ, i64_w, i32_w]
    rfl
   refine pure_ (i := 18) (N := some 41) (v := undef) (a' := ?_) #[J, J, J, J, J, J, J, J, J, J, J, J, J, J, J, J, J, J, J, Y, Y] rfl rfl (Qm HT_.out (by kernel_rfl)) (fun _ _ _ h => h) (Or.inr ⟨by rfl, rfl⟩) ?_ ?_
   rotate_left
   ·
    simp only [Act.put, List.setIfInBounds_toArray, List.set_cons_zero, List.set_cons_succ, i64_w, i32_w]
    rfl
   refine pure_ (i := 19) (N := some 42) (v := ?_) (a' := ?_) #[J, J, J, J, J, J, J, J, J, J, J, J, J, J, J, J, J, J, J, J, Y] rfl rfl (Qm HT_.out (by kernel_rfl)) (fun _ _ _ h => h) (Or.inl ⟨by rfl, ?_⟩) ?_ ?_
   rotate_left
   ·
    intro w'
    go_simp
    with_reducible rfl
   rotate_left
   ·
    simp only [Act.put, List.setIfInBounds_toArray, List.set_cons_zero, List.set_cons_succ, i64_w, i32_w]
    rfl
   refine pure_ (i := 20) (N := some 4) (v := ?_) (a' := ?_) #[J, J, J, J, J, J, J, J, J, J, J, J, J, J, J, J, J, J, J, J, J] rfl rfl (Qm HT_.out (by kernel_rfl)) (fun _ _ _ h => h) (Or.inl ⟨by rfl, ?_⟩) ?_ ?_
   rotate_left
   ·
    intro w'
    go_simp
    with_reducible rfl
   rotate_left
   ·
    simp only [Act.put, List.setIfInBounds_toArray, List.set_cons_zero, List.set_cons_succ, i64_w, i32_w]
    rfl
   refine done_ (done_of HT_.out (by kernel_rfl)) ?_
   try go_wp2
   go_ret
   exact ⟨by first | rfl | (simp [Qt, Qs] <;> rfl) | (simp [*, Qt, Qs] <;> rfl), by with_reducible repeat (first | exact HB.out | apply Qj | apply Ql | apply Qk | refine Qi ?_ GE266.out)⟩
end Go.Proofs.Ytnaanamibfpbpaa.V
namespace Go.Proofs.Ytnaanamibfpbpaa.V
open Go.RowKit Go.Proofs.YtnaanamibfpbpaaW.PrintWords
set_option linter.unusedVariables false
set_option linter.unusedSimpArgs false
set_option linter.unusedSectionVars false
theorem few_ev (R : List RuleT) (G : List NodeT) (hR : R.length ≤ maxLen) (hG : G.length ≤ maxLen) : ∃ v, Ev (fun k => Qo1.f k R G) v ∧ (v = true → R.length ≤ 30 ∧ G.length ≤ 300 ∧ ∀ i : Int, 0 ≤ i → i < (G.length : Int) → (nodeAt G i).f1.length ≤ 60) := by
  have hG' : G.length ≤ 9223372036854775807 := hG
  have hR' : R.length ≤ 9223372036854775807 := hR
  have l1 : ∀ (n : Nat) (i : Int), 0 ≤ i → i.toNat + n = G.length → (∀ p : Int, 0 ≤ p → p < i → (nodeAt G p).f1.length ≤ 60) → ∃ v, Ev (fun k => Qo1.l1 k i R G) v ∧ (v = true → R.length ≤ 30 ∧ G.length ≤ 300 ∧ ∀ i : Int, 0 ≤ i → i < (G.length : Int) → (nodeAt G i).f1.length ≤ 60) := by
    intro n
    induction n with
    | zero =>
      intro i h0 hn hp
      by_cases c : (R.length : Int) ≤ 30
      · exact ⟨_, Ev.succ (g := fun _ => some (decide ((G.length : Int) ≤ 300))) (fun k => by rw [Qo1.l1, if_neg (by omega), if_pos c]) (Ev.const _), fun h => ⟨by omega, by have := of_decide_eq_true h; omega, fun p h1 h2 => hp p h1 (by omega)⟩⟩
      · exact ⟨false, Ev.succ (g := fun _ => some false) (fun k => by rw [Qo1.l1, if_neg (by omega), if_neg c]) (Ev.const _), fun h => absurd h (by decide)⟩
    | succ n ih =>
      intro i h0 hn hp
      by_cases c : (((nodeAt G i).f1).length : Int) > 60
      · exact ⟨false, Ev.succ (g := fun _ => some false) (fun k => by rw [Qo1.l1, if_pos (by omega), if_pos h0, if_pos c]) (Ev.const _), fun h => absurd h (by decide)⟩
      · obtain ⟨v, hv, hs⟩ := ih (i + 1) (by omega) (by omega) (fun p h1 h2 => by
          by_cases e : p = i
          · subst e; omega
          · exact hp p h1 (by omega))
        refine ⟨v, Ev.succ (fun k => by rw [Qo1.l1, if_pos (by omega), if_pos h0, if_neg c]) ?_, hs⟩
        rw [w64p _ (by omega)]
        exact hv
  have l0 : ∀ (n : Nat) (i : Int), 0 ≤ i → i.toNat + n = R.length → ∃ v, Ev (fun k => Qo1.l0 k i R G) v ∧ (v = true → R.length ≤ 30 ∧ G.length ≤ 300 ∧ ∀ i : Int, 0 ≤ i → i < (G.length : Int) → (nodeAt G i).f1.length ≤ 60) := by
    intro n
    induction n with
    | zero =>
      intro i h0 hn
      obtain ⟨v, hv, hs⟩ := l1 G.length 0 (Int.le_refl _) (by simp) (fun p h1 h2 => absurd h2 (by omega))
      exact ⟨v, Ev.succ (fun k => by rw [Qo1.l0, if_neg (by omega)]) hv, hs⟩
    | succ n ih =>
      intro i h0 hn
      by_cases c : (((ruleAt R i).f0).size : Int) > 100
      · exact ⟨false, Ev.succ (g := fun _ => some false) (fun k => by rw [Qo1.l0, if_pos (by omega), if_pos h0, if_pos c]) (Ev.const _), fun h => absurd h (by decide)⟩
      · obtain ⟨v, hv, hs⟩ := ih (i + 1) (by omega) (by omega)
        refine ⟨v, Ev.succ (fun k => by rw [Qo1.l0, if_pos (by omega), if_pos h0, if_neg c]) ?_, hs⟩
        rw [w64p _ (by omega)]
        exact hv
  obtain ⟨v, hv, hs⟩ := l0 R.length 0 (Int.le_refl _) (by simp)
  exact ⟨v, hv, hs⟩
structure Small (R : List RuleT) (G : List NodeT) : Prop where
  wf : WF R G
  rules : R.length ≤ 30
  nodes : G.length ≤ 300
  kids : ∀ i : Int, 0 ≤ i → i < (G.length : Int) → (nodeAt G i).f1.length ≤ 60
theorem small_ev {R : List RuleT} {G : List NodeT} (hR : R.length ≤ maxLen ∧ ∀ y ∈ R, Ok39 y) (hG : G.length ≤ maxLen ∧ ∀ y ∈ G, Ok53 y) : ∃ v, Ev (fun k => vetchref05_Small.f k R G) v ∧ (v = true → Small R G) := by
  obtain ⟨b, hb, hbs⟩ := few_ev R G hR.1 hG.1
  cases b with
  | false => exact ⟨false, Ev.bind hb (Ev.of_eq fun _ => if_neg (by decide)), fun h => absurd h (by decide)⟩
  | true =>
    obtain ⟨v, hv, hs⟩ := valid_ev R G hR hG
    exact ⟨v, Ev.bind hb (Ev.congr (fun k => if_pos rfl) (Ev.bind hv (Ev.const _))), fun h => ⟨hs h, (hbs rfl).1, (hbs rfl).2.1, (hbs rfl).2.2⟩⟩
end Go.Proofs.Ytnaanamibfpbpaa.V
namespace Go.Proofs.Ytnaanamibfpbpaa.V
open Go.RowKit Go.Proofs.YtnaanamibfpbpaaW.PrintWords Go.Proofs.YtnaanamibfpbpaaW.PrintLast Go.Proofs.YtnaanamibfpbpaaW.PrintMore
attribute [local go_sem] max2_int min2_int max_two min_two max_three min_three max_four min_four tdiv_most
set_option linter.unusedVariables false
set_option linter.unusedSimpArgs false
end Go.Proofs.Ytnaanamibfpbpaa.V
namespace Go.Proofs.Ytnaanamibfpbpaa.V
open Go.RowKit Go.Proofs.YtnaanamibfpbpaaW.PrintWords Go.Proofs.YtnaanamibfpbpaaW.PrintLast Go.Proofs.YtnaanamibfpbpaaW.PrintMore
attribute [local go_sem] max2_int min2_int max_two min_two max_three min_three max_four min_four tdiv_most
set_option linter.unusedVariables false
set_option linter.unusedSimpArgs false
end Go.Proofs.Ytnaanamibfpbpaa.V
namespace Go.Proofs.Ytnaanamibfpbpaa.V
open Go.RowKit Go.Proofs.YtnaanamibfpbpaaW.PrintWords
set_option linter.unusedVariables false
set_option linter.unusedSimpArgs false
set_option linter.unusedSectionVars false
theorem at_ofR (l : List FactT) (i : Int) : flowAt (l.map ofR) i = ofR (Qv l i) := by
  show (l.map ofR).getD i.toNat _ = ofR (l.getD i.toNat _)
  rw [List.getD_eq_getElem?_getD, List.getD_eq_getElem?_getD, List.getElem?_map]
  cases l[i.toNat]? <;> rfl
theorem map_toR_ofR (l : List FactT) : (l.map ofR).map toR = l := by
  rw [List.map_map, show toR ∘ ofR = id from rfl, List.map_id]
theorem take_map_succ {α β : Type} (f : α → β) (g : Int → α) (l : List α) (j : Nat) (h : j < l.length) (hg : g (j : Int) = l[j]) : (l.take (j + 1)).map f = (l.take j).map f ++ [f (g (j : Int))] := by
  rw [List.take_succ_eq_append_getElem h, List.map_append, hg]
  rfl
theorem back_ev (O : List FlowT) (hO : O.length ≤ 1000000) : Ev (fun k => Qt1.f k O) (O.map toR) := by
  have l0 : ∀ (d j : Nat), j + d = O.length → Ev (fun k => Qt1.l0 k O ((O.take j).map toR) (j : Int)) (O.map toR) := by
    intro d
    induction d with
    | zero =>
      intro j hj
      rw [List.take_of_length_le (by omega)]
      exact Ev.succ (g := fun _ => some _) (fun k => by rw [Qt1.l0, if_neg (by omega)]) (Ev.const _)
    | succ d ih =>
      intro j hj
      have hjl : j < O.length := by omega
      have hl : ((O.take j).map toR).length < 46912496118442 := by simp; omega
      refine Ev.succ (fun k => by rw [Qt1.l0, if_pos (by omega), if_pos (by omega), if_pos hl, w64p _ (by omega), show (j : Int) + 1 = ((j + 1 : Nat) : Int) by omega]) ?_
      have := ih (j + 1) (by omega)
      rw [take_map_succ toR (flowAt O) O j hjl (by show O.getD ((j : Int).toNat) _ = _; rw [List.getD_eq_getElem?_getD, Int.toNat_natCast, List.getElem?_eq_getElem hjl]; rfl)] at this
      exact this
  exact l0 O.length 0 (by omega)
section
variable {R : List RuleT} {G : List NodeT} (hs : Small R G)
include hs
theorem small_fit : fitB R G = true := by
  unfold fitB
  rw [Bool.and_eq_true, decide_eq_true_eq, List.all_eq_true]
  refine ⟨⟨hs.wf.nodes.1, hs.nodes⟩, fun nd hm => ?_⟩
  obtain ⟨i, hi, rfl⟩ := List.getElem_of_mem hm
  have e : nodeAt G (i : Int) = G[i] := by
    show G.getD ((i : Int).toNat) _ = _
    rw [List.getD_eq_getElem?_getD, Int.toNat_natCast, List.getElem?_eq_getElem hi]
    rfl
  rw [← e, fit_iff]
  have hm := hs.wf.made (i : Int) (by omega) (by omega)
  refine ⟨hm.1, hm.2.1, hs.kids _ (by omega) (by omega), fun c hc => by have := hs.wf.kids (i : Int) (by omega) (by omega) c hc; omega, ?_, ?_⟩
  · by_cases c : (nodeAt G (i : Int)).f0 ≤ 4
    · exact .inl c
    · have := hm.2.2.2.2.2.1 (by omega)
      exact .inr (by omega)
  · by_cases c : (nodeAt G (i : Int)).f0 = 2
    · obtain ⟨a, b⟩ := hm.2.2.2.2.2.2.1 c
      have := hs.wf.roots _ a b
      exact .inr ⟨a, b, this.1, this.2⟩
    · exact .inl c
theorem flow_of_ev : Ev (fun k => flow_Of.f k R G) ((leastL R G).map ofR) := ⟨20000, fun j hj => by
  show flow_Of.f j R G = _
  unfold flow_Of.f
  rw [if_pos ⟨small_fit hs, hj⟩]⟩
theorem ref_of_ev : Ev (fun k => Qr1.f k R G) (leastL R G) := by
  obtain ⟨L, hL, hl, hfix, hlow⟩ := of_ev hs.wf
  rw [← least_uniq hl (fun i => by rw [hfix]; exact FLe.refl _) hlow]
  exact hL
end
set_option maxRecDepth 100000 in
theorem awake_ev : Ev (fun k => Qi1.f k) true := Ev.of_mono (k := 20040) (fun k => Qi1.mono k) (by kernel_rfl)
end Go.Proofs.Ytnaanamibfpbpaa.V
namespace Go.Proofs.Ytnaanamibfpbpaa.V
open Go.RowKit Go.Proofs.YtnaanamibfpbpaaW.PrintWords
set_option linter.unusedVariables false
theorem Pure.PureFlowMatchesReference : ∀ (l0_0 : List RuleT) (l0_1 : List NodeT) (a1 : Int), (l0_0.length ≤ maxLen ∧ ∀ y ∈ l0_0, Ok39 y) → (l0_1.length ≤ maxLen ∧ ∀ y ∈ l0_1, Ok53 y) → ((Lit.int .u8 a1).wf = true) → ∃ k, Qn1.f k l0_0 l0_1 a1 = some true := by
  intro R G a hR hG ha
  simp [Lit.wf, IntKind.min, IntKind.max, IntKind.signed, IntKind.bits] at ha
  obtain ⟨b, hb, hbs⟩ := small_ev hR hG
  have fin : Ev (fun k => Qn1.j0 k a (!b) R G) true := by
    cases b with
    | false => exact Ev.succ (fun k => by rw [Qn1.j0, if_pos (by decide)]) (Ev.bind (g := fun _ t => some t) awake_ev (Ev.const _))
    | true =>
      have hs := hbs rfl
      have hr0 := hs.wf.rules.1
      have hn := hs.nodes
      have hll : (leastL R G).length = G.length := itL_length R G _
      have h0 := Int.tmod_nonneg (R.length : Int) ha.1
      have h1 := Int.tmod_lt_of_pos a (show (0 : Int) < (R.length : Int) by omega)
      have hroot := hs.wf.roots _ h0 h1
      have hsame := same_ev (leastL R G) (leastL R G) rfl (by omega)
      rw [decide_eq_true rfl] at hsame
      have hback := back_ev ((leastL R G).map ofR) (by rw [List.length_map]; omega)
      rw [map_toR_ofR] at hback
      refine Ev.succ (fun k => by rw [Qn1.j0, if_neg (by decide), if_neg (by omega), w64p a (by omega)]) (Ev.bind (ref_of_ev hs) (Ev.bind (flow_of_ev hs) (Ev.bind hback (Ev.bind hsame (Ev.congr (fun k => if_pos rfl) (Ev.bind (v := ((flowAt ((leastL R G).map ofR) (ruleAt R (Int.tmod a (R.length : Int))).f1).f0, (flowAt ((leastL R G).map ofR) (ruleAt R (Int.tmod a (R.length : Int))).f1).f1, (flowAt ((leastL R G).map ofR) (ruleAt R (Int.tmod a (R.length : Int))).f1).f2)) ?_ (Ev.of_eq fun k => ?_)))))))
      · unfold flow_Rule.f
        refine Ev.bind (flow_of_ev hs) (Ev.of_eq fun k => ?_)
        rw [if_pos h0, if_pos h1, if_pos hroot.1, if_pos (by rw [List.length_map, hll]; exact hroot.2)]
      · rw [if_pos h0, if_pos h1, if_pos hroot.1, if_pos (by rw [hll]; exact hroot.2), at_ofR]
        dsimp only [ofR]
        rw [beq_self_eq_true, beq_self_eq_true, beq_self_eq_true]
        rfl
  exact (Ev.bind awake_ev (Ev.congr (fun k => if_pos rfl) (Ev.bind hb fin))).out
end Go.Proofs.Ytnaanamibfpbpaa.V
namespace Go.Proofs.Ytnaanamibfpbpaa.flowMatchesReference
open Go.ChangeShapes Go.WideShapes Go.ChangeAt Go.RowKit Go.Proofs.Ytnaanamibfpbpaa.Opens Go.Proofs.Ytnaanamibfpbpaa.V Go.Proofs.YtnaanamibfpbpaaW.PrintWords
open Go.ChangeMaps (open_string shut_string)
set_option linter.unusedVariables false
theorem own : ownKnob Try.prog.godebug = none := by kernel_rfl
theorem laidOut : laidOutB Try.prog = true := by kernel_rfl
set_option maxRecDepth 100000 in
theorem lifted (os : Os) (started : os.Started) (H : Type) (enc : TypeId × Value → H) :
    ReturnsInHanded {} Try.checked os 3 .any (Rows.flowMatchesReferenceSpec.pre6 enc Try.prog Try.f3 Rows.flowMatchesReferenceRow.domain false) (Rows.flowMatchesReferenceSpec.post enc Try.prog Try.f3 false true false false) := by
  refine returnsInHanded_of_change_sized (C := Try.checked) own started (by kernel_rfl) Try.func3
    (ChangeSpec.witness6 (enc := enc) (C := Try.checked) false ⟨#[], #[.agg #[.slice none 0 0, .slice none 0 0], .int .u8 0], []⟩ 8 (by kernel_rfl) (by kernel_rfl) (by kernel_rfl) (by kernel_rfl)) ?_
  intro W base args ds gs before hval0 hW hcnd hsz0 _
  have hval : ∀ (j : Nat) t v, Try.f3.params[j]? = some t → args[j]? = some v → Value.okWide Try.prog W .any base t v := hval0
  have hW' := hW
  obtain ⟨p, q, hA0, hV, rfl, hfz, hnd⟩ := hW
  have hA : DataW.TrodAll enc Try.prog W 0 (fun _ => true) true Try.f3.params.toList args.toList ds p := hA0
  rw [Try.params3] at hA hval
  obtain ⟨v0, vs0, d0, ds0, p0, q0, hargs, rfl, rfl, h0, r0⟩ := trodAll_cons hA
  obtain ⟨v1, vs1, d1, ds1, p1, q1, rfl, rfl, rfl, h1, r1⟩ := trodAll_cons r0
  obtain ⟨rfl, rfl, rfl⟩ := trodAll_nil r1
  obtain rfl : args = #[v0, v1] := by cases args; simp_all
  obtain ⟨rfl, rfl⟩ := trodVars_none hV
  have lt0 := trod_lts h0
  obtain ⟨cs0, rfl, _⟩ := okWide_struct Try.underlying25 (hval 0 25 v0 rfl rfl)
  obtain ⟨b0, hK0, ok0⟩ := Opn.arg (opn25 W) h0
  obtain ⟨L0, hL0⟩ : ∃ L, L = cs0.toList := ⟨_, rfl⟩
  replace hK0 : ((Kd.pair (Kd.slice 39 k39) (Kd.slice 53 k53))).K W b0 L0 := by rw [hL0]; exact hK0
  obtain ⟨l0_0, l0_1⟩ := b0
  obtain ⟨_, _, rfl, ⟨A0_0, c0_0, rfl, lc0_0, g0_0⟩, ⟨A0_1, c0_1, rfl, lc0_1, g0_1⟩⟩ := hK0
  obtain ⟨w0_0, w0_1⟩ := ok0
  obtain rfl : cs0 = #[.slice A0_0 l0_0.length c0_0, .slice A0_1 l0_1.length c0_1] := by cases cs0; simp_all
  obtain ⟨a1, rfl, rfl, rfl, w1⟩ := open_int Try.underlying5 (hval 1 5 v1 rfl rfl) h1
  clear hA0 hval0 hsz0
  obtain ⟨k, hk⟩ := Pure.PureFlowMatchesReference l0_0 l0_1 a1 w0_0 w0_1 w1
  refine (Qn1.calls k A0_0 c0_0 l0_0 A0_1 c0_1 l0_1 a1 true W g0_0 lc0_0 g0_1 lc0_1 hk).mono fun e W' ⟨he, bel⟩ => ?_
  subst he
  exact ⟨_, rfl, _, _, _, [], _, [], hW', trodAll_mk1 (shut_bool Try.underlying4 _), (trodAll_cons_mk (Below.trod laidOut (by kernel_rfl) (of_decide_eq_true (by kernel_rfl)) h0 bel lt0) (trodAll_cons_mk (shut_int Try.underlying5 w1) trodAll_mk0)), rfl, bel.frame _, fun h => by cases h⟩
theorem over : Rows.flowMatchesReferenceRow.holds Try.pinned (OpenSpec.ofChange Rows.flowMatchesReferenceSpec) :=
  OpenClaim.holds_of_wide 3 Try.f3 rfl rfl rfl rfl rfl rfl rfl ⟨rfl, rfl, rfl, rfl, rfl⟩ rfl rfl rfl rfl rfl (by kernel_rfl) Try.func3 (by kernel_rfl)
    (of_decide_eq_true (by kernel_rfl)) (by unfold Func.isWrapper; first | (rw [if_pos (by decide +kernel)]; kernel_rfl) | (rw [if_neg (by decide +kernel)]; exact ⟨rfl, rfl⟩))
    (fun os started H enc _ => lifted os started H enc)
end Go.Proofs.Ytnaanamibfpbpaa.flowMatchesReference
namespace Go.Proofs.Ytnaanamibfpbpaa
theorem flowMatchesReference_holds : Rows.FlowMatchesReferenceSaid := flowMatchesReference.over
#print axioms flowMatchesReference_holds
end Go.Proofs.Ytnaanamibfpbpaa
