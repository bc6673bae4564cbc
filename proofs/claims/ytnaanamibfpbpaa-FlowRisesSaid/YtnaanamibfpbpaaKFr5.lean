/- The law FlowRises returns true whatever comes in, and leaves its arguments as they were. No condition. -/
import Derived.Test.YtnaanamibfpbpaaKFr4
namespace Go.Proofs.Ytnaanamibfpbpaa.V
open Go.RowKit Go.Proofs.YtnaanamibfpbpaaW.PrintWords Go.Proofs.YtnaanamibfpbpaaW.PrintLast Go.Proofs.YtnaanamibfpbpaaW.PrintMore
abbrev QB55_0 : Array Bool := #[Y, Y, Y, Y, Y, Y, Y, Y, Y, Y, Y, Y, Y, Y, Y, Y, Y, Y, Y, Y, Y, Y, Y, Y, Y, Y, Y, Y, Y, Y, Y, Y, Y, Y, Y]
abbrev QB55_1 : Array Bool := #[J, Y, Y, Y, Y, Y, Y, Y, Y, Y, Y, Y, Y, Y, Y, Y, Y, Y, Y, Y, Y, Y, Y, Y, Y, Y, Y, Y, Y, Y, Y, Y, Y, Y, Y]
abbrev QB55_2 : Array Bool := #[J, J, Y, Y, Y, Y, Y, Y, Y, Y, Y, Y, Y, Y, Y, Y, Y, Y, Y, Y, Y, Y, Y, Y, Y, Y, Y, Y, Y, Y, Y, Y, Y, Y, Y]
abbrev QB55_3 : Array Bool := #[J, J, J, Y, Y, Y, Y, Y, Y, Y, Y, Y, Y, Y, Y, Y, Y, Y, Y, Y, Y, Y, Y, Y, Y, Y, Y, Y, Y, Y, Y, Y, Y, Y, Y]
abbrev QB55_4 : Array Bool := #[J, J, J, J, Y, Y, Y, Y, Y, Y, Y, Y, Y, Y, Y, Y, Y, Y, Y, Y, Y, Y, Y, Y, Y, Y, Y, Y, Y, Y, Y, Y, Y, Y, Y]
abbrev QB55_5 : Array Bool := #[J, J, J, J, J, Y, Y, Y, Y, Y, Y, Y, Y, Y, Y, Y, Y, Y, Y, Y, Y, Y, Y, Y, Y, Y, Y, Y, Y, Y, Y, Y, Y, Y, Y]
abbrev QB55_6 : Array Bool := #[J, J, J, J, J, J, Y, Y, Y, Y, Y, Y, Y, Y, Y, Y, Y, Y, Y, Y, Y, Y, Y, Y, Y, Y, Y, Y, Y, Y, Y, Y, Y, Y, Y]
abbrev QB55_7 : Array Bool := #[J, J, J, J, J, J, J, Y, Y, Y, Y, Y, Y, Y, Y, Y, Y, Y, Y, Y, Y, Y, Y, Y, Y, Y, Y, Y, Y, Y, Y, Y, Y, Y, Y]
abbrev QB55_8 : Array Bool := #[J, J, J, J, J, J, J, J, Y, Y, Y, Y, Y, Y, Y, Y, Y, Y, Y, Y, Y, Y, Y, Y, Y, Y, Y, Y, Y, Y, Y, Y, Y, Y, Y]
abbrev QB55_9 : Array Bool := #[J, J, J, J, J, J, J, J, J, Y, Y, Y, Y, Y, Y, Y, Y, Y, Y, Y, Y, Y, Y, Y, Y, Y, Y, Y, Y, Y, Y, Y, Y, Y, Y]
abbrev QB55_10 : Array Bool := #[J, J, J, J, J, J, J, J, J, J, Y, Y, Y, Y, Y, Y, Y, Y, Y, Y, Y, Y, Y, Y, Y, Y, Y, Y, Y, Y, Y, Y, Y, Y, Y]
abbrev QB55_11 : Array Bool := #[J, J, J, J, J, J, J, J, J, J, J, Y, Y, Y, Y, Y, Y, Y, Y, Y, Y, Y, Y, Y, Y, Y, Y, Y, Y, Y, Y, Y, Y, Y, Y]
abbrev QB55_12 : Array Bool := #[J, J, J, J, J, J, J, J, J, J, J, J, Y, Y, Y, Y, Y, Y, Y, Y, Y, Y, Y, Y, Y, Y, Y, Y, Y, Y, Y, Y, Y, Y, Y]
abbrev QB55_13 : Array Bool := #[J, J, J, J, J, J, J, J, J, J, J, J, J, Y, Y, Y, Y, Y, Y, Y, Y, Y, Y, Y, Y, Y, Y, Y, Y, Y, Y, Y, Y, Y, Y]
abbrev QB55_14 : Array Bool := #[J, J, J, J, J, J, J, J, J, J, J, J, J, J, J, J, J, J, Y, Y, Y, Y, Y, Y, Y, Y, Y, Y, Y, Y, Y, Y, Y, Y, Y]
abbrev QB55_15 : Array Bool := #[J, J, J, J, J, J, J, J, J, J, J, J, J, J, J, J, J, J, J, Y, Y, Y, Y, Y, Y, Y, Y, Y, Y, Y, Y, Y, Y, Y, Y]
abbrev QB55_16 : Array Bool := #[J, J, J, J, J, J, J, J, J, J, J, J, J, J, J, J, J, J, J, J, Y, Y, Y, Y, Y, Y, Y, Y, Y, Y, Y, Y, Y, Y, Y]
abbrev QB55_17 : Array Bool := #[J, J, J, J, J, J, J, J, J, J, J, J, J, J, J, J, J, J, J, J, J, Y, Y, Y, Y, Y, Y, Y, Y, Y, Y, Y, Y, Y, Y]
abbrev QB55_18 : Array Bool := #[J, J, J, J, J, J, J, J, J, J, J, J, J, J, J, J, J, J, J, J, J, J, Y, Y, Y, Y, Y, Y, Y, Y, Y, Y, Y, Y, Y]
abbrev QB55_19 : Array Bool := #[J, J, J, J, J, J, J, J, J, J, J, J, J, J, J, J, J, J, J, J, J, J, J, Y, Y, Y, Y, Y, Y, Y, Y, Y, Y, Y, Y]
abbrev QB55_20 : Array Bool := #[J, J, J, J, J, J, J, J, J, J, J, J, J, J, J, J, J, J, J, J, J, J, J, J, Y, Y, Y, Y, Y, Y, Y, Y, Y, Y, Y]
abbrev QB55_21 : Array Bool := #[J, J, J, J, J, J, J, J, J, J, J, J, J, J, J, J, J, J, J, J, J, J, J, J, J, Y, Y, Y, Y, Y, Y, Y, Y, Y, Y]
abbrev QB55_22 : Array Bool := #[J, J, J, J, J, J, J, J, J, J, J, J, J, J, J, J, J, J, J, J, J, J, J, J, J, J, Y, Y, Y, Y, Y, Y, Y, Y, Y]
abbrev QB55_23 : Array Bool := #[J, J, J, J, J, J, J, J, J, J, J, J, J, J, J, J, J, J, J, J, J, J, J, J, J, J, J, Y, Y, Y, Y, Y, Y, Y, Y]
abbrev QB55_24 : Array Bool := #[J, J, J, J, J, J, J, J, J, J, J, J, J, J, J, J, J, J, J, J, J, J, J, J, J, J, J, J, Y, Y, Y, Y, Y, Y, Y]
abbrev QB55_25 : Array Bool := #[J, J, J, J, J, J, J, J, J, J, J, J, J, J, J, J, J, J, J, J, J, J, J, J, J, J, J, J, J, Y, Y, Y, Y, Y, Y]
abbrev QB55_26 : Array Bool := #[J, J, J, J, J, J, J, J, J, J, J, J, J, J, J, J, J, J, J, J, J, J, J, J, J, J, J, J, J, J, Y, Y, Y, Y, Y]
abbrev QB55_27 : Array Bool := #[J, J, J, J, J, J, J, J, J, J, J, J, J, J, J, J, J, J, J, J, J, J, J, J, J, J, J, J, J, J, J, Y, Y, Y, Y]
abbrev QB55_28 : Array Bool := #[J, J, J, J, J, J, J, J, J, J, J, J, J, J, J, J, J, J, J, J, J, J, J, J, J, J, J, J, J, J, J, J, Y, Y, Y]
abbrev QB55_29 : Array Bool := #[J, J, J, J, J, J, J, J, J, J, J, J, J, J, J, J, J, J, J, J, J, J, J, J, J, J, J, J, J, J, J, J, J, Y, Y]
abbrev QB55_30 : Array Bool := #[J, J, J, J, J, J, J, J, J, J, J, J, J, J, J, J, J, J, J, J, J, J, J, J, J, J, J, J, J, J, J, J, J, J, Y]
abbrev QB55_31 : Array Bool := #[J, J, J, J, J, J, J, J, J, J, J, J, J, J, J, J, J, J, J, J, J, J, J, J, J, J, J, J, J, J, J, J, J, J, J]
abbrev QB55_32 : Array Bool := #[J, J, J, J, J, J, J, J, J, J, J, J, J, Y, Y, J, Y, Y, Y, Y, Y, Y, Y, Y, Y, Y, Y, Y, Y, Y, Y, Y, Y, Y, Y]
abbrev QB55_33 : Array Bool := #[J, J, J, J, J, J, J, J, J, J, J, J, J, Y, Y, J, J, Y, Y, Y, Y, Y, Y, Y, Y, Y, Y, Y, Y, Y, Y, Y, Y, Y, Y]
abbrev QB55_34 : Array Bool := #[J, J, J, J, J, J, J, J, J, J, J, J, J, J, Y, J, J, Y, Y, Y, Y, Y, Y, Y, Y, Y, Y, Y, Y, Y, Y, Y, Y, Y, Y]
abbrev QB55_35 : Array Bool := #[J, J, J, J, J, J, J, J, J, J, J, J, J, J, Y, J, J, J, Y, Y, Y, Y, Y, Y, Y, Y, Y, Y, Y, Y, Y, Y, Y, Y, Y]
abbrev QB55_36 : Array Bool := #[J, J, J, J, J, J, J, J, J, J, J, J, J, J, Y, Y, Y, Y, Y, Y, Y, Y, Y, Y, Y, Y, Y, Y, Y, Y, Y, Y, Y, Y, Y]
abbrev QB55_37 : Array Bool := #[J, J, J, J, J, J, J, J, J, J, J, J, J, J, J, Y, Y, Y, Y, Y, Y, Y, Y, Y, Y, Y, Y, Y, Y, Y, Y, Y, Y, Y, Y]
abbrev QB55_38 : Array Bool := #[J, J, J, J, J, J, J, J, J, J, J, J, J, J, J, J, Y, Y, Y, Y, Y, Y, Y, Y, Y, Y, Y, Y, Y, Y, Y, Y, Y, Y, Y]
abbrev QB55_39 : Array Bool := #[J, J, J, J, J, J, J, J, J, J, J, J, J, J, J, J, J, Y, Y, Y, Y, Y, Y, Y, Y, Y, Y, Y, Y, Y, Y, Y, Y, Y, Y]
attribute [local go_sem] max2_int min2_int max_two min_two max_three min_three max_four min_four tdiv_most
set_option linter.unusedVariables false
set_option linter.unusedSimpArgs false
attribute [local go_sem high] eqA36
def Qj1.j0 : Nat → List (S36) → List (S36) → Bool → List (S39) → List (S53) → Option (Bool)
 | 0, _, _, _, _, _ => none
 | k + 1, x2, x3, x28, x189000, x189001 => if x28 = true then (some false) else (if 2 < (x2.length : Int) then ((flow_Text.f k ((Qg x2 2).f0) ((Qg x2 2).f1) ((Qg x2 2).f2)).bind fun t199 => (if t199.toList = ([101, 102] : List UInt8) then (if 4 < (x2.length : Int) then ((flow_Text.f k ((Qg x2 4).f0) ((Qg x2 4).f1) ((Qg x2 4).f2)).bind fun t201 => (if t201.toList = ([110, 101] : List UInt8) then ((flow_Rule.f k x189000 x189001 0).bind fun bt202 => (if (bt202.1 == ((Qg x2 4).f0) && (bt202.2.1 == ((Qg x2 4).f1) && (bt202.2.2 == ((Qg x2 4).f2)))) = true then (if 0 < (x3.length : Int) then ((flow_Text.f k ((Qg x3 0).f0) ((Qg x3 0).f1) ((Qg x3 0).f2)).bind fun t207 => (if t207.toList = ([101, 102] : List UInt8) then (if 1 < (x3.length : Int) then ((flow_Text.f k ((Qg x3 1).f0) ((Qg x3 1).f1) ((Qg x3 1).f2)).bind fun t209 => (some (t209.toList == ([45] : List UInt8)))) else (none)) else (some false))) else (none)) else (some false))) else (some false))) else (none)) else (some false))) else (none))
def Qj1.f (k : Nat)  : Option (Bool) := (some (([(⟨(⟨#[65]⟩ : ByteArray), 4⟩ : S39)] : List (S39)) : List (S39))).bind fun y176 => ((some (([(⟨1, ([] : List Int), 0, (⟨0, 8589934592, 0, 0⟩ : S50)⟩ : S53), (⟨2, ([] : List Int), 0, (⟨0, 0, 0, 0⟩ : S50)⟩ : S53), (⟨3, (([0, 1] : List Int)), 0, (⟨0, 0, 0, 0⟩ : S50)⟩ : S53), (⟨0, ([] : List Int), 0, (⟨0, 0, 0, 0⟩ : S50)⟩ : S53), (⟨4, (([2, 3] : List Int)), 0, (⟨0, 0, 0, 0⟩ : S50)⟩ : S53)] : List (S53)) : List (S53))).bind fun y185 => ((flow_Of.f k y176 y185).bind fun t189 => (if 5 ≤ 93824992236885 then ((flow_Step.f k y176 y185 (List.replicate 5 z36)).bind fun t195 => (if (t189.length : Int) = 5 then (Qj1.j0 k t189 t195 ((t195.length : Int) != 5) y176 y185) else (Qj1.j0 k t189 t195 true y176 y185))) else (none))))
theorem Qj1.mono_l : ∀ k, (∀ y0 y1 y2 y3 y4, LeO (Qj1.j0 k y0 y1 y2 y3 y4) (Qj1.j0 (k + 1) y0 y1 y2 y3 y4))
 | 0 => fun _ _ _ _ _ r h => by simp [Qj1.j0] at h
 | k + 1 => by
  have ih0 := Qj1.mono_l k
  intro y0 y1 y2 y3 y4
  unfold Qj1.j0
  repeat' first
  | (with_reducible exact ih0 _ _ _ _ _)
  | (with_reducible exact flow_Of.mono _ _ _)
  | (with_reducible exact flow_Rule.mono _ _ _ _)
  | (with_reducible exact flow_Step.mono _ _ _ _)
  | (with_reducible exact flow_Text.mono _ _ _ _)
  | (with_reducible exact LeO.refl _)
  | (with_reducible exact LeO.none _)
  | (with_reducible refine LeO.ite ?_ ?_)
  | (with_reducible refine LeO.bind ?_ (fun _ => ?_))
  | exact LeO.none _
  | refine LeO.ite ?_ ?_
  | refine LeO.bind ?_ (fun _ => ?_)
theorem Qj1.mono : ∀ k, LeO (Qj1.f k ) (Qj1.f (k + 1) ) := by
 intro  k
 have ih0 := Qj1.mono_l k
 unfold Qj1.f
 repeat' first
  | (with_reducible exact ih0 _ _ _ _ _)
  | (with_reducible exact flow_Of.mono _ _ _)
  | (with_reducible exact flow_Rule.mono _ _ _ _)
  | (with_reducible exact flow_Step.mono _ _ _ _)
  | (with_reducible exact flow_Text.mono _ _ _ _)
  | (with_reducible exact LeO.refl _)
  | (with_reducible exact LeO.none _)
  | (with_reducible refine LeO.ite ?_ ?_)
  | (with_reducible refine LeO.bind ?_ (fun _ => ?_))
  | exact LeO.none _
  | refine LeO.ite ?_ ?_
  | refine LeO.bind ?_ (fun _ => ?_)
def Qj1.T6 : Bool × List (List Nat × List Nat) := (true, [([], []), ([0], [0]), ([1], [1]), ([2], [2]), ([3], [3]), ([4, 3], [4]), ([5], [5]), ([6, 5], [5, 6]), ([7, 5], [5, 7]), ([8, 5, 5], [5, 8]), ([9, 5], [5, 9]), ([5, 10], [5, 10]), ([11, 9], [11]), ([12], [12]), ([13, 12, 12], [12, 13]), ([12], [12]), ([15, 12], [12, 15]), ([16, 12], [12, 16]), ([14, 17, 12], [12, 14, 17]), ([12, 18], [12, 18]), ([19, 14], [19]), ([20], [20]), ([21, 20], [20, 21]), ([22, 20], [20, 22]), ([23, 20, 20], [20, 23]), ([24, 20], [20, 24]), ([20, 25], [20, 25]), ([26, 24], [26]), ([27], [27]), ([28, 27], [27, 28]), ([29, 27], [27, 29]), ([30, 27, 27], [27, 30]), ([31, 27], [27, 31]), ([27, 32], [27, 32]), ([33, 31, 0, 1, 2, 3, 4, 5, 6, 7, 8, 9, 10, 11, 12, 13, 14, 15, 16, 17, 18, 19, 20, 21, 22, 23, 24, 25, 26, 27, 28, 29, 30, 31, 32, 33], [33])])
def Qj1.B6 : List Nat := [0, 1, 3, 7, 15, 31, 63, 127, 255, 511, 1023, 2047, 4095, 8191, 16383, 8191, 40959, 106495, 262143, 524287, 1048575, 2097151, 4194303, 8388607, 16777215, 33554431, 67108863, 134217727, 268435455, 536870911, 1073741823, 2147483647, 4294967295, 8589934591, 17179869183]
theorem Qj1.tab6 : rtab .any (opsOf Try.f8 6) = Qj1.T6 := by kernel_rfl
theorem Qj1.bits6 : waitsOk Qj1.T6.2 Qj1.B6 = true := by kernel_rfl
set_option maxHeartbeats 8000000 in
set_option maxRecDepth 100000 in
theorem Qj1.calls (k : Nat)  (r : Bool) (w : World) (h : Qj1.f k  = some r) :
 Calls Try.prog 8 #[] w fun e w' => e = .returned (.bool r) ∧ Below w.heap.size w w' := by
 have hu39 := Try.underlying39
 have hu50 := Try.underlying50
 have hu53 := Try.underlying53
 have hu25 := Try.underlying25
 have hu36 := Try.underlying36
 have HB := Qa.mk (Below.refl w.heap.size w)
 have H : ((some (([(⟨(⟨#[65]⟩ : ByteArray), 4⟩ : S39)] : List (S39)) : List (S39))).bind fun y176 => ((some (([(⟨1, ([] : List Int), 0, (⟨0, 8589934592, 0, 0⟩ : S50)⟩ : S53), (⟨2, ([] : List Int), 0, (⟨0, 0, 0, 0⟩ : S50)⟩ : S53), (⟨3, (([0, 1] : List Int)), 0, (⟨0, 0, 0, 0⟩ : S50)⟩ : S53), (⟨0, ([] : List Int), 0, (⟨0, 0, 0, 0⟩ : S50)⟩ : S53), (⟨4, (([2, 3] : List Int)), 0, (⟨0, 0, 0, 0⟩ : S50)⟩ : S53)] : List (S53)) : List (S53))).bind fun y185 => ((flow_Of.f k y176 y185).bind fun t189 => (if 5 ≤ 93824992236885 then ((flow_Step.f k y176 y185 (List.replicate 5 z36)).bind fun t195 => (if (t189.length : Int) = 5 then (Qj1.j0 k t189 t195 ((t195.length : Int) != 5) y176 y185) else (Qj1.j0 k t189 t195 true y176 y185))) else (none))))) = some r := h
 clear h
 obtain ⟨y176, hy176⟩ : ∃ y_ : List (S39), y_ = (([(⟨(⟨#[65]⟩ : ByteArray), 4⟩ : S39)] : List (S39))) := ⟨_, rfl⟩
 replace H : ((some (([(⟨1, ([] : List Int), 0, (⟨0, 8589934592, 0, 0⟩ : S50)⟩ : S53), (⟨2, ([] : List Int), 0, (⟨0, 0, 0, 0⟩ : S50)⟩ : S53), (⟨3, (([0, 1] : List Int)), 0, (⟨0, 0, 0, 0⟩ : S50)⟩ : S53), (⟨0, ([] : List Int), 0, (⟨0, 0, 0, 0⟩ : S50)⟩ : S53), (⟨4, (([2, 3] : List Int)), 0, (⟨0, 0, 0, 0⟩ : S50)⟩ : S53)] : List (S53)) : List (S53))).bind fun y185 => ((flow_Of.f k y176 y185).bind fun t189 => (if 5 ≤ 93824992236885 then ((flow_Step.f k y176 y185 (List.replicate 5 z36)).bind fun t195 => (if (t189.length : Int) = 5 then (Qj1.j0 k t189 t195 ((t195.length : Int) != 5) y176 y185) else (Qj1.j0 k t189 t195 true y176 y185))) else (none)))) = some r := by first | (rw [hy176]; with_reducible exact H) | (have H2_ := (Option.bind_some _ _).symm.trans H; rw [hy176]; with_reducible exact H2_) | (have H2_ := (Option.bind_some _ _).symm.trans H; with_reducible exact H2_) | with_reducible exact H | (rw [hy176]; exact H) | exact H
 have Ny176 := Qa.mk hy176
 clear hy176
 obtain ⟨y179, hy179⟩ : ∃ y_ : List Int, y_ = (([0, 1] : List Int)) := ⟨_, rfl⟩
 replace H : ((some (([(⟨1, ([] : List Int), 0, (⟨0, 8589934592, 0, 0⟩ : S50)⟩ : S53), (⟨2, ([] : List Int), 0, (⟨0, 0, 0, 0⟩ : S50)⟩ : S53), (⟨3, y179, 0, (⟨0, 0, 0, 0⟩ : S50)⟩ : S53), (⟨0, ([] : List Int), 0, (⟨0, 0, 0, 0⟩ : S50)⟩ : S53), (⟨4, (([2, 3] : List Int)), 0, (⟨0, 0, 0, 0⟩ : S50)⟩ : S53)] : List (S53)) : List (S53))).bind fun y185 => ((flow_Of.f k y176 y185).bind fun t189 => (if 5 ≤ 93824992236885 then ((flow_Step.f k y176 y185 (List.replicate 5 z36)).bind fun t195 => (if (t189.length : Int) = 5 then (Qj1.j0 k t189 t195 ((t195.length : Int) != 5) y176 y185) else (Qj1.j0 k t189 t195 true y176 y185))) else (none)))) = some r := by first | (rw [hy179]; with_reducible exact H) | (have H2_ := (Option.bind_some _ _).symm.trans H; rw [hy179]; with_reducible exact H2_) | (have H2_ := (Option.bind_some _ _).symm.trans H; with_reducible exact H2_) | with_reducible exact H | (rw [hy179]; exact H) | exact H
 have Ny179 := Qa.mk hy179
 clear hy179
 obtain ⟨y182, hy182⟩ : ∃ y_ : List Int, y_ = (([2, 3] : List Int)) := ⟨_, rfl⟩
 replace H : ((some (([(⟨1, ([] : List Int), 0, (⟨0, 8589934592, 0, 0⟩ : S50)⟩ : S53), (⟨2, ([] : List Int), 0, (⟨0, 0, 0, 0⟩ : S50)⟩ : S53), (⟨3, y179, 0, (⟨0, 0, 0, 0⟩ : S50)⟩ : S53), (⟨0, ([] : List Int), 0, (⟨0, 0, 0, 0⟩ : S50)⟩ : S53), (⟨4, y182, 0, (⟨0, 0, 0, 0⟩ : S50)⟩ : S53)] : List (S53)) : List (S53))).bind fun y185 => ((flow_Of.f k y176 y185).bind fun t189 => (if 5 ≤ 93824992236885 then ((flow_Step.f k y176 y185 (List.replicate 5 z36)).bind fun t195 => (if (t189.length : Int) = 5 then (Qj1.j0 k t189 t195 ((t195.length : Int) != 5) y176 y185) else (Qj1.j0 k t189 t195 true y176 y185))) else (none)))) = some r := by first | (rw [hy182]; with_reducible exact H) | (have H2_ := (Option.bind_some _ _).symm.trans H; rw [hy182]; with_reducible exact H2_) | (have H2_ := (Option.bind_some _ _).symm.trans H; with_reducible exact H2_) | with_reducible exact H | (rw [hy182]; exact H) | exact H
 have Ny182 := Qa.mk hy182
 clear hy182
 obtain ⟨y185, hy185⟩ : ∃ y_ : List (S53), y_ = (([(⟨1, ([] : List Int), 0, (⟨0, 8589934592, 0, 0⟩ : S50)⟩ : S53), (⟨2, ([] : List Int), 0, (⟨0, 0, 0, 0⟩ : S50)⟩ : S53), (⟨3, y179, 0, (⟨0, 0, 0, 0⟩ : S50)⟩ : S53), (⟨0, ([] : List Int), 0, (⟨0, 0, 0, 0⟩ : S50)⟩ : S53), (⟨4, y182, 0, (⟨0, 0, 0, 0⟩ : S50)⟩ : S53)] : List (S53))) := ⟨_, rfl⟩
 replace H : ((flow_Of.f k y176 y185).bind fun t189 => (if 5 ≤ 93824992236885 then ((flow_Step.f k y176 y185 (List.replicate 5 z36)).bind fun t195 => (if (t189.length : Int) = 5 then (Qj1.j0 k t189 t195 ((t195.length : Int) != 5) y176 y185) else (Qj1.j0 k t189 t195 true y176 y185))) else (none))) = some r := by first | (rw [hy185]; with_reducible exact H) | (have H2_ := (Option.bind_some _ _).symm.trans H; rw [hy185]; with_reducible exact H2_) | (have H2_ := (Option.bind_some _ _).symm.trans H; with_reducible exact H2_) | with_reducible exact H | (rw [hy185]; exact H) | exact H
 have Ny185 := Qa.mk hy185
 clear hy185
 replace H := Option.bind_eq_some_iff.mp H
 obtain ⟨t189, A10, H⟩ := H
 replace H : (if 5 ≤ 93824992236885 then ((flow_Step.f k y176 y185 (List.replicate 5 z36)).bind fun t195 => (if (t189.length : Int) = 5 then (Qj1.j0 k t189 t195 ((t195.length : Int) != 5) y176 y185) else (Qj1.j0 k t189 t195 true y176 y185))) else (none)) = some r := H
 have A1 := Qa.mk A10
 clear A10
 by_cases c2 : 5 ≤ 93824992236885
 rotate_left
 ·
  rw [if_neg c2] at H
  exact absurd H (by simp)
 rw [if_pos c2] at H
 have c2b0 := eq_true c2
 have c2b1 : decide (5 ≤ 93824992236885) = true := decide_eq_true c2
 clear c2
 obtain ⟨y192, hy192⟩ : ∃ y_ : List (S36), y_ = (List.replicate 5 z36) := ⟨_, rfl⟩
 replace H : ((flow_Step.f k y176 y185 y192).bind fun t195 => (if (t189.length : Int) = 5 then (Qj1.j0 k t189 t195 ((t195.length : Int) != 5) y176 y185) else (Qj1.j0 k t189 t195 true y176 y185))) = some r := by first | (rw [hy192]; with_reducible exact H) | (have H2_ := (Option.bind_some _ _).symm.trans H; rw [hy192]; with_reducible exact H2_) | (have H2_ := (Option.bind_some _ _).symm.trans H; with_reducible exact H2_) | with_reducible exact H | (rw [hy192]; exact H) | exact H
 have Ny192 := Qa.mk hy192
 clear hy192
 replace H := Option.bind_eq_some_iff.mp H
 obtain ⟨t195, A30, H⟩ := H
 replace H : (if (t189.length : Int) = 5 then (Qj1.j0 k t189 t195 ((t195.length : Int) != 5) y176 y185) else (Qj1.j0 k t189 t195 true y176 y185)) = some r := H
 have A3 := Qa.mk A30
 clear A30
 have HC4 := Qa.mk H
 clear H
 go_enter Try.func8, Try.ntmps8
 try go_wp2_with (first | ((with_reducible refine Qg1 (N := 5) rfl ?_); (try (refine gate_guard (by rfl) ?_; dsimp only)); refine Kd.R_lit k39 _ 39 ?hg (N := 5) ?hd (xs := ([(⟨(⟨#[65]⟩ : ByteArray), 4⟩ : S39)] : List (S39))) (inner := [.string (⟨#[65]⟩ : ByteArray), .int .i64 4]) (ok := fun _ => True) (okp := fun _ => True) ?hr ?hp (fun _ hk => hk) trivial (Below.refl _ _) (Nat.le_refl _) (by simp) ?_; (case hd => rfl); (case hg => rfl); (case hr => first | (go_simp; done) | (go_simp; rfl)); (case hp => exact (Reps.c2 (show Kd.M k39 _ _ _ (⟨(⟨#[65]⟩ : ByteArray), 4⟩ : S39) [.string (⟨#[65]⟩ : ByteArray), .int .i64 4] from (k39_mkM _ _ _ (⟨(⟨#[65]⟩ : ByteArray), 4⟩ : S39) )) (Reps.none _ _))); intro v177 w5 ho6 hb hg_ hnew_; clear hg_ hnew_; (first | rw [← Ny176.out] at ho6 | (simp only [Int.reduceToNat] at ho6; rw [← Ny176.out] at ho6)); have n0_ := Qa.mk (Kd.R_lower ho6 (Qb1 (by with_reducible repeat (first | exact HB.out | apply Qk | apply Ql | apply Qj)))); have n1_ := Qa.mk (Qv (by with_reducible repeat (first | exact HB.out | apply Qk | apply Ql | apply Qj)) hb); clear HB; have HO178 := n0_; have HB := n1_; clear n0_ n1_; clear hb ho6) | ((with_reducible refine Qg1 (N := 9) rfl ?_); (try (refine gate_guard (by rfl) ?_; dsimp only)); refine Kd.R_lit (Kd.int .i64) _ 3 ?hg (N := 9) ?hd (xs := ([0, 1] : List Int)) (inner := [.int .i64 0, .int .i64 1]) (ok := fun _ => True) (okp := fun _ => True) ?hr ?hp (fun _ hk => hk) trivial (Below.refl _ _) (Nat.le_refl _) (by simp) ?_; (case hd => rfl); (case hg => rfl); (case hr => first | (go_simp; done) | (go_simp; rfl)); (case hp => exact (Reps.one (show Kd.M (Kd.int .i64) _ _ _ 0 [.int .i64 0] from rfl) (Reps.one (show Kd.M (Kd.int .i64) _ _ _ 1 [.int .i64 1] from rfl) (Reps.none _ _)))); intro v180 w7 ho8 hb hg_ hnew_; clear hg_ hnew_; (first | rw [← Ny179.out] at ho8 | (simp only [Int.reduceToNat] at ho8; rw [← Ny179.out] at ho8)); have n0_ := Qa.mk (Kd.Qd1 (by (with_reducible repeat (first | apply Kd.Qq | apply Kd.Qr | apply Kd.Qo)); exact HO178.out) hb); have n1_ := Qa.mk (Kd.R_lower ho8 (Qb1 (by with_reducible repeat (first | exact HB.out | apply Qk | apply Ql | apply Qj)))); have n2_ := Qa.mk (Qv (by with_reducible repeat (first | exact HB.out | apply Qk | apply Ql | apply Qj)) hb); clear HO178; clear HB; have HO178 := n0_; have HO181 := n1_; have HB := n2_; clear n0_ n1_ n2_; clear hb ho8; obtain ⟨Ao9, co9, eo9⟩ := Kd.R_slice HO181.out; subst eo9) | ((with_reducible refine Qg1 (N := 12) rfl ?_); (try (refine gate_guard (by rfl) ?_; dsimp only)); refine Kd.R_lit (Kd.int .i64) _ 3 ?hg (N := 12) ?hd (xs := ([2, 3] : List Int)) (inner := [.int .i64 2, .int .i64 3]) (ok := fun _ => True) (okp := fun _ => True) ?hr ?hp (fun _ hk => hk) trivial (Below.refl _ _) (Nat.le_refl _) (by simp) ?_; (case hd => rfl); (case hg => rfl); (case hr => first | (go_simp; done) | (go_simp; rfl)); (case hp => exact (Reps.one (show Kd.M (Kd.int .i64) _ _ _ 2 [.int .i64 2] from rfl) (Reps.one (show Kd.M (Kd.int .i64) _ _ _ 3 [.int .i64 3] from rfl) (Reps.none _ _)))); intro v183 w10 ho11 hb hg_ hnew_; clear hg_ hnew_; (first | rw [← Ny182.out] at ho11 | (simp only [Int.reduceToNat] at ho11; rw [← Ny182.out] at ho11)); have n0_ := Qa.mk (Kd.Qd1 (by (with_reducible repeat (first | apply Kd.Qq | apply Kd.Qr | apply Kd.Qo)); exact HO178.out) hb); have n1_ := Qa.mk (Kd.R_elder' (by (with_reducible repeat (first | apply Kd.Qq | apply Kd.Qr | apply Kd.Qo)); exact HO181.out) (Kd.R_base ho11) hb); have n2_ := Qa.mk (Kd.R_lower (Kd.R_new' ho11 (Kd.R_lt (by (with_reducible repeat (first | apply Kd.Qq | apply Kd.Qr | apply Kd.Qo)); exact HO181.out))) (Qb1 (by with_reducible repeat (first | exact HB.out | apply Qk | apply Ql | apply Qj)))); have n3_ := Qa.mk (Qv (by with_reducible repeat (first | exact HB.out | apply Qk | apply Ql | apply Qj)) hb); clear HO178; clear HO181; clear HB; have HO178 := n0_; have HO181 := n1_; have HO184 := n2_; have HB := n3_; clear n0_ n1_ n2_ n3_; clear hb ho11; obtain ⟨Ao12, co12, eo12⟩ := Kd.R_slice HO184.out; subst eo12) | ((with_reducible refine Qg1 (N := 14) rfl ?_); (try (refine gate_guard (by rfl) ?_; dsimp only)); refine Kd.N_lit k53 _ 53 ?hg (N' := 14) ?hd (xs := ([(⟨1, ([] : List Int), 0, (⟨0, 8589934592, 0, 0⟩ : S50)⟩ : S53), (⟨2, ([] : List Int), 0, (⟨0, 0, 0, 0⟩ : S50)⟩ : S53), (⟨3, y179, 0, (⟨0, 0, 0, 0⟩ : S50)⟩ : S53), (⟨0, ([] : List Int), 0, (⟨0, 0, 0, 0⟩ : S50)⟩ : S53), (⟨4, y182, 0, (⟨0, 0, 0, 0⟩ : S50)⟩ : S53)] : List (S53))) (inner := [.int .i64 1, .slice none 0 0, .int .i64 0, .int .u64 0, .int .u64 8589934592, .int .u64 0, .int .u64 0, .int .i64 2, .slice none 0 0, .int .i64 0, .int .u64 0, .int .u64 0, .int .u64 0, .int .u64 0, .int .i64 3, .slice Ao9 y179.length co9, .int .i64 0, .int .u64 0, .int .u64 0, .int .u64 0, .int .u64 0, .int .i64 0, .slice none 0 0, .int .i64 0, .int .u64 0, .int .u64 0, .int .u64 0, .int .u64 0, .int .i64 4, .slice Ao12 y182.length co12, .int .i64 0, .int .u64 0, .int .u64 0, .int .u64 0, .int .u64 0]) (ok := (fun k_ => some k_ ≠ (v177 : Value).ownBlock)) (okp := (fun k_ => some k_ ≠ (v177 : Value).ownBlock)) ?hr ?hp (fun _ hk => hk) ((show ∀ k_, w10.heap.size ≤ k_ → (fun k_ => some k_ ≠ (v177 : Value).ownBlock) k_ from fun k_ hk => Kd.fresh' (Kd.R_lt (by (with_reducible repeat (first | apply Kd.Qq | apply Kd.Qr | apply Kd.Qo)); exact HO178.out)) k_ hk) _ (Nat.le_refl _)) (Below.refl _ _) (Nat.le_refl _) (by simp) ?_; (case hd => rfl); (case hg => rfl); (case hr => first | (go_simp; done) | (go_simp; rfl)); (case hp => exact (Reps.c7 (show Kd.FK k53 _ _ (⟨1, ([] : List Int), 0, (⟨0, 8589934592, 0, 0⟩ : S50)⟩ : S53) [.int .i64 1, .slice none 0 0, .int .i64 0, .int .u64 0, .int .u64 8589934592, .int .u64 0, .int .u64 0] from (k53_mkF _ _ (⟨1, ([] : List Int), 0, (⟨0, 8589934592, 0, 0⟩ : S50)⟩ : S53) (Nat.le_refl _) (Kd.F_nil _ _ _))) (Reps.c7 (show Kd.FK k53 _ _ (⟨2, ([] : List Int), 0, (⟨0, 0, 0, 0⟩ : S50)⟩ : S53) [.int .i64 2, .slice none 0 0, .int .i64 0, .int .u64 0, .int .u64 0, .int .u64 0, .int .u64 0] from (k53_mkF _ _ (⟨2, ([] : List Int), 0, (⟨0, 0, 0, 0⟩ : S50)⟩ : S53) (Nat.le_refl _) (Kd.F_nil _ _ _))) (Reps.c7 (show Kd.FK k53 _ _ (⟨3, y179, 0, (⟨0, 0, 0, 0⟩ : S50)⟩ : S53) [.int .i64 3, .slice Ao9 y179.length co9, .int .i64 0, .int .u64 0, .int .u64 0, .int .u64 0, .int .u64 0] from (k53_mkF _ _ (⟨3, y179, 0, (⟨0, 0, 0, 0⟩ : S50)⟩ : S53) (Kd.R_reads' (Kd.R_mono (ok' := (fun k_ => some k_ ≠ (v177 : Value).ownBlock)) (Kd.R_apart' (HO181.out) (Kd.R_typed HO178.out) (by decide)) (fun k_ hk => hk.2))).2.1 (Kd.R_F (Kd.R_mono (ok' := (fun k_ => some k_ ≠ (v177 : Value).ownBlock)) (Kd.R_apart' (HO181.out) (Kd.R_typed HO178.out) (by decide)) (fun k_ hk => hk.2))))) (Reps.c7 (show Kd.FK k53 _ _ (⟨0, ([] : List Int), 0, (⟨0, 0, 0, 0⟩ : S50)⟩ : S53) [.int .i64 0, .slice none 0 0, .int .i64 0, .int .u64 0, .int .u64 0, .int .u64 0, .int .u64 0] from (k53_mkF _ _ (⟨0, ([] : List Int), 0, (⟨0, 0, 0, 0⟩ : S50)⟩ : S53) (Nat.le_refl _) (Kd.F_nil _ _ _))) (Reps.c7 (show Kd.FK k53 _ _ (⟨4, y182, 0, (⟨0, 0, 0, 0⟩ : S50)⟩ : S53) [.int .i64 4, .slice Ao12 y182.length co12, .int .i64 0, .int .u64 0, .int .u64 0, .int .u64 0, .int .u64 0] from (k53_mkF _ _ (⟨4, y182, 0, (⟨0, 0, 0, 0⟩ : S50)⟩ : S53) (Kd.R_reads' (Kd.R_mono (ok' := (fun k_ => some k_ ≠ (v177 : Value).ownBlock)) (Kd.R_apart' (HO184.out) (Kd.R_typed HO178.out) (by decide)) (fun k_ hk => hk.2))).2.1 (Kd.R_F (Kd.R_mono (ok' := (fun k_ => some k_ ≠ (v177 : Value).ownBlock)) (Kd.R_apart' (HO184.out) (Kd.R_typed HO178.out) (by decide)) (fun k_ hk => hk.2))))) (Reps.none _ _))))))); intro v186 w13 ho14 hb hg_ hnew_; clear hg_ hnew_; (first | rw [← Ny185.out] at ho14 | (simp only [Int.reduceToNat] at ho14; rw [← Ny185.out] at ho14)); have n0_ := Qa.mk (Kd.Qd1 (by (with_reducible repeat (first | apply Kd.Qq | apply Kd.Qr | apply Kd.Qo)); exact HO178.out) hb); have n1_ := Qa.mk (Kd.N_lower ho14 (Qb1 (by with_reducible repeat (first | exact HB.out | apply Qk | apply Ql | apply Qj)))); have n2_ := Qa.mk (Qv (by with_reducible repeat (first | exact HB.out | apply Qk | apply Ql | apply Qj)) hb); clear HO178; clear HB; clear HO181; clear HO184; have HO178 := n0_; have HO187 := n1_; have HB := n2_; clear n0_ n1_ n2_; clear hb ho14; obtain ⟨Ao15, co15, eo15⟩ := Kd.N_slice HO187.out; subst eo15; obtain ⟨Ao16, co16, eo16⟩ := Kd.R_slice HO178.out; subst eo16) | ((with_reducible refine Qg1 (N := 1) rfl ?_); (try (refine gate_guard (by rfl) ?_; dsimp only)); refine Qh1 ?hg (N := 1) ?hd (cs := #[.slice none 0 0, .slice none 0 0]) (t := 25) ?hr ?_; (case hd => rfl); (case hg => rfl); (case hr => first | (go_simp; done) | (go_simp; rfl)); intro gb188 hg w17 hbox hb; have n0_ := Qa.mk (Kd.Qd1 (by (with_reducible repeat (first | apply Kd.Qq | apply Kd.Qr | apply Kd.Qo)); exact HO178.out) hb); have n1_ := Qa.mk (Kd.N_below (Kd.N_elderB (by (with_reducible repeat (first | apply Kd.N_alloc | apply Kd.N_drewN | apply Kd.N_drew)); exact HO187.out) gb188 (Nat.le_of_eq hg.symm)) hb); have n2_ := Qa.mk (Qv (by with_reducible repeat (first | exact HB.out | apply Qk | apply Ql | apply Qj)) hb); have n3_ := Qa.mk (hbox); have n4_ := Qa.mk ((by rw [hg]; exact (Qb1 (by with_reducible repeat (first | exact HB.out | apply Qk | apply Ql | apply Qj))) : w.heap.size ≤ gb188)); have n5_ := n4_; clear HO178; clear HO187; clear HB; have HO178 := n0_; have HO187 := n1_; have HB := n2_; have BK188 := n3_; have GW188 := n4_; have GE188 := n5_; clear n0_ n1_ n2_ n3_ n4_ n5_; clear hb hbox hg; have hcz18_0 : w17.cell? ⟨gb188, 0, none⟩ = some (.slice none 0 0) := (Qe BK188.out 0).trans rfl; have hcz18_1 : w17.cell? ⟨gb188, 1, none⟩ = some (.slice none 0 0) := (Qe BK188.out 1).trans rfl; have hfz18_0 := Qf BK188.out 0; have hfz18_1 := Qf BK188.out 1) | ((with_reducible refine gate_callee (f := 13) rfl ?_); refine goesL_ (some 17) rfl rfl Try.func13 (by kernel_rfl) rfl #[.agg #[.slice Ao16 y176.length co16, .slice Ao15 y185.length co15]] rfl (by (try simp only [List.map_toArray, List.map_cons, List.map_nil]); first | done | rfl | (simp only [List.length_drop, List.length_take]; rfl)) ?_; (with_reducible refine (flow_Of.calls k _ _ y176 _ _ y185 t189 _ ?side1 ?side2 ?side3 ?side4 A1.out).mono ?_); (case side1 => refine (Kd.R_reads' (e := 39) (base := w.heap.size) (ok := fun k_ => True) (n := y176.length) (c := co16) ?_).2.2; exact (by (with_reducible repeat (first | apply Kd.Qq | apply Kd.Qr | apply Kd.Qo)); exact (Kd.R_mono (Kd.R_far (p := ⟨gb188, 1, none⟩) (Kd.R_far (p := ⟨gb188, 0, none⟩) (Kd.R_types HO178.out BK188.out (by decide)) (fun _ hk => hk.2) (.slice Ao16 y176.length co16)) (fun _ hk => hk.2) (.slice Ao15 y185.length co15)) (fun _ h_ => h_.1)))); (case side2 => exact (Kd.R_reads' HO178.out).2.1); (case side3 => refine (Kd.N_reads' (e := 53) (base := w.heap.size) (ok := fun k_ => (some k_ ≠ (.slice Ao16 y176.length co16 : Value).ownBlock ∧ k_ ≠ gb188)) (n := y185.length) (c := co15) ?_).2.2; exact (by (with_reducible repeat (first | apply Kd.N_alloc | apply Kd.N_drewN | apply Kd.N_drew)); exact (Kd.N_mono (Kd.N_far (p := ⟨gb188, 1, none⟩) (Kd.N_far (p := ⟨gb188, 0, none⟩) (Kd.N_mono HO187.out (fun k_ hk => (⟨hk, hk.2⟩ : _ ∧ k_ ≠ gb188))) (fun _ hk => hk.2) (.slice Ao16 y176.length co16)) (fun _ hk => hk.2) (.slice Ao15 y185.length co15)) (fun _ h_ => h_.1)))); (case side4 => exact (Kd.N_reads' HO187.out).2.1); rintro e w19 ⟨v190, rfl, ho0, hb⟩; refine ⟨_, rfl, ?_⟩; have n0_ := Qa.mk (Kd.Qd1 (by (with_reducible repeat (first | apply Kd.Qq | apply Kd.Qr | apply Kd.Qo)); exact (Kd.R_mono (Kd.R_far (p := ⟨gb188, 1, none⟩) (Kd.R_far (p := ⟨gb188, 0, none⟩) (Kd.R_types HO178.out BK188.out (by decide)) (fun _ hk => hk.2) (.slice Ao16 y176.length co16)) (fun _ hk => hk.2) (.slice Ao15 y185.length co15)) (fun _ h_ => h_.1))) hb); have n1_ := Qa.mk (Kd.N_elder' (by (with_reducible repeat (first | apply Kd.N_alloc | apply Kd.N_drewN | apply Kd.N_drew)); exact (Kd.N_mono (Kd.N_far (p := ⟨gb188, 1, none⟩) (Kd.N_far (p := ⟨gb188, 0, none⟩) (Kd.N_mono HO187.out (fun k_ hk => (⟨hk, hk.2⟩ : _ ∧ k_ ≠ gb188))) (fun _ hk => hk.2) (.slice Ao16 y176.length co16)) (fun _ hk => hk.2) (.slice Ao15 y185.length co15)) (fun _ h_ => h_.1))) (Kd.R_base ho0) hb); have n2_ := Qa.mk (Kd.R_lower ho0 (Qb1 (by with_reducible repeat (first | exact HB.out | apply Qk | apply Ql | apply Qj | refine Qi ?_ GE188.out)))); have n3_ := Qa.mk (Qs (g := gb188) (o := .cells #[.slice Ao16 y176.length co16, .slice Ao15 y185.length co15] 25 (0, 0)) (by (with_reducible repeat (first | refine Qd ?_ _ | refine Qb ?_ | refine Qc ?_ _)); refine Qt (cs := #[.slice Ao16 y176.length co16, .slice none 0 0]) ?_ 1 _ rfl; (with_reducible repeat (first | refine Qd ?_ _ | refine Qb ?_ | refine Qc ?_ _)); refine Qt (cs := #[.slice none 0 0, .slice none 0 0]) ?_ 0 _ rfl; (with_reducible repeat (first | refine Qd ?_ _ | refine Qb ?_ | refine Qc ?_ _)); exact BK188.out) hb); have n4_ := Qa.mk (Qv (by with_reducible repeat (first | exact HB.out | apply Qk | apply Ql | apply Qj | refine Qi ?_ GE188.out)) hb); clear HO178; clear HO187; clear BK188; clear HB; have HO178 := n0_; have HO187 := n1_; have HO191 := n2_; have BK188 := n3_; have HB := n4_; clear n0_ n1_ n2_ n3_ n4_; (try clear hb); (try clear hb2); (try clear hk); (try clear hi); (try clear ho0)))
 have n0_ := Qa.mk (Kd.Qo HO178.out)
 have n1_ := Qa.mk (Kd.N_drew HO187.out)
 have n2_ := Qa.mk (Kd.Qo HO191.out)
 have n3_ := Qa.mk (Qb BK188.out)
 have n4_ := Qa.mk (Qj HB.out)
 clear HO178
 clear HO187
 clear HO191
 clear BK188
 clear HB
 have HO178 := n0_
 have HO187 := n1_
 have HO191 := n2_
 have BK188 := n3_
 have HB := n4_
 clear n0_ n1_ n2_ n3_ n4_
 refine start_ (n := 4) (S := fun w' => w'.cell? ⟨gb188, 0, none⟩ = some (.slice Ao16 y176.length co16) ∧ w'.cell? ⟨gb188, 1, none⟩ = some (.slice Ao15 y185.length co15)) (ds := []) #[false, false, false, false] (by kernel_rfl) rfl rfl ⟨(Qe BK188.out 0).trans rfl, (Qe BK188.out 1).trans rfl⟩ (fun hHeld => ?_)
 generalize w19.drew = w20 at HO178 HO187 HO191 BK188 HB hHeld ⊢
 refine take_ (i := 0) (N := some 18) (v := ?_) (a' := ?_) #[true, false, false, false] rfl rfl (by kernel_rfl) (fun _ _ _ h => h) (Or.inl ⟨by rfl, ?_⟩) hHeld ?_ ?_
 rotate_left
 ·
  rintro w' ⟨s0, s1⟩
  go_simp
  with_reducible rfl
 rotate_left
 ·
  simp only [Act.put, List.setIfInBounds_toArray, List.set_cons_zero, List.set_cons_succ, i64_w, i32_w]
  rfl
 refine one_ (i := 1) (N := some 19) #[true, true, false, false] rfl rfl (by kernel_rfl) (by decide) (fun K hK => ?_)
 refine Kd.R_make_step k36 _ 36 (by rfl) (N := 19) rfl 32 _ _ rfl 5 rfl rfl Try.underlying32 (.agg #[(.bool false), (.bool false), (.bool false)]) 3 info36 rfl (by decide) (by omega) z36 (ok := fun _ => True) (okp := fun _ => True) (k36_mkM _ _ _ z36 ) (fun _ hk => hk) trivial (by omega) (by omega) (Below.refl _ _) (Nat.le_refl _) ?_
 intro v193 w21 ho22 hb hg_ hnew_
 clear hg_ hnew_
 (first | rw [← Ny192.out] at ho22 | (simp only [Int.reduceToNat] at ho22; rw [← Ny192.out] at ho22))
 have n0_ := Qa.mk (Kd.Qd1 (by (with_reducible repeat (first | apply Kd.Qq | apply Kd.Qr | apply Kd.Qo)); exact HO178.out) hb)
 have n1_ := Qa.mk (Kd.N_elder' (by (with_reducible repeat (first | apply Kd.N_alloc | apply Kd.N_drewN | apply Kd.N_drew)); exact HO187.out) (Kd.R_base ho22) hb)
 have n2_ := Qa.mk (Kd.R_elder' (by (with_reducible repeat (first | apply Kd.Qq | apply Kd.Qr | apply Kd.Qo)); exact HO191.out) (Kd.R_base ho22) hb)
 have n3_ := Qa.mk (Kd.R_lower (Kd.R_new' ho22 (Kd.R_lt (by (with_reducible repeat (first | apply Kd.Qq | apply Kd.Qr | apply Kd.Qo)); exact HO191.out))) (Qb1 (by with_reducible repeat (first | exact HB.out | apply Qk | apply Ql | apply Qj | refine Qi ?_ GE188.out))))
 have n4_ := Qa.mk (Qs (g := gb188) (o := .cells #[.slice Ao16 y176.length co16, .slice Ao15 y185.length co15] 25 (0, 0)) (by (with_reducible repeat (first | refine Qd ?_ _ | refine Qb ?_ | refine Qc ?_ _)); exact BK188.out) hb)
 have n5_ := Qa.mk (Qv (by with_reducible repeat (first | exact HB.out | apply Qk | apply Ql | apply Qj | refine Qi ?_ GE188.out)) hb)
 clear HO178
 clear HO187
 clear HO191
 clear BK188
 clear HB
 have HO178 := n0_
 have HO187 := n1_
 have HO191 := n2_
 have HO194 := n3_
 have BK188 := n4_
 have HB := n5_
 clear n0_ n1_ n2_ n3_ n4_ n5_
 clear hb ho22
 obtain ⟨Ao23, co23, eo23⟩ := Kd.R_slice HO194.out
 (first | subst eo23 | (injection eo23 with f1_ f2_ f3_; have f4_ := f1_.symm; have f5_ := f3_.symm; clear f1_ f2_ f3_; subst f4_; subst f5_))
 refine hK.out _ _ ⟨(Qe BK188.out 0).trans rfl, (Qe BK188.out 1).trans rfl⟩ (fun hHeld => ?_)
 clear hK K
 refine norm_ (a' := ?_) ?_ ?_
 rotate_left
 ·
  show Act.put _ (some 19) _ = _
  simp only [Act.put, List.setIfInBounds_toArray, List.set_cons_zero, List.set_cons_succ, i64_w, i32_w]
  rfl
 refine one_ (i := 2) (N := some 20) #[true, true, true, false] rfl rfl (by kernel_rfl) (by decide) (fun K hK => ?_)
 refine goes_ Try.func15 (by kernel_rfl) rfl #[.agg #[.slice Ao16 y176.length co16, .slice Ao15 y185.length co15], .slice Ao23 y192.length co23] (by rfl) rfl rfl (by (try simp only [List.map_toArray, List.map_cons, List.map_nil]); first | done | rfl | (simp only [List.length_drop, List.length_take]; rfl)) ?_
 with_reducible refine (flow_Step.calls k _ _ y176 _ _ y185 _ _ y192 t195 _ ?side1 ?side2 ?side3 ?side4 ?side5 ?side6 A3.out).mono ?_
 (case side1 => repeat (first | exact (Kd.R_reads' HO178.out).2.2 | (with_reducible refine Kd.Qf1 ?_ _) | (with_reducible refine Kd.Qe1 ?_ _) | (with_reducible refine Kd.C_drew ?_)))
 (case side2 => exact (Kd.R_reads' HO178.out).2.1)
 (case side3 => repeat (first | exact (Kd.N_reads' HO187.out).2.2 | (with_reducible refine Kd.Qf1 ?_ _) | (with_reducible refine Kd.Qe1 ?_ _) | (with_reducible refine Kd.C_drew ?_)))
 (case side4 => exact (Kd.N_reads' HO187.out).2.1)
 (case side5 => repeat (first | exact (Kd.R_reads' HO194.out).2.2 | (with_reducible refine Kd.Qf1 ?_ _) | (with_reducible refine Kd.Qe1 ?_ _) | (with_reducible refine Kd.C_drew ?_)))
 (case side6 => exact (Kd.R_reads' HO194.out).2.1)
 rintro e w24 ⟨v196, rfl, ho0, hb⟩
 refine ⟨_, rfl, ?_⟩
 have n0_ := Qa.mk (Kd.Qd1 (by (with_reducible repeat (first | apply Kd.Qq | apply Kd.Qr | apply Kd.Qo)); exact HO178.out) hb)
 have n1_ := Qa.mk (Kd.N_elder' (by (with_reducible repeat (first | apply Kd.N_alloc | apply Kd.N_drewN | apply Kd.N_drew)); exact HO187.out) (Kd.R_base ho0) hb)
 have n2_ := Qa.mk (Kd.R_elder' (by (with_reducible repeat (first | apply Kd.Qq | apply Kd.Qr | apply Kd.Qo)); exact HO191.out) (Kd.R_base ho0) hb)
 have n3_ := Qa.mk (Kd.R_elder' (by (with_reducible repeat (first | apply Kd.Qq | apply Kd.Qr | apply Kd.Qo)); exact HO194.out) (Kd.R_base ho0) hb)
 have n4_ := Qa.mk (Kd.R_lower (Kd.R_new' (Kd.R_new' ho0 (Kd.R_lt (by (with_reducible repeat (first | apply Kd.Qq | apply Kd.Qr | apply Kd.Qo)); exact HO191.out))) (Kd.R_lt (by (with_reducible repeat (first | apply Kd.Qq | apply Kd.Qr | apply Kd.Qo)); exact HO194.out))) (Qb1 (by with_reducible repeat (first | exact HB.out | apply Qk | apply Ql | apply Qj | refine Qi ?_ GE188.out))))
 have n5_ := Qa.mk (Qs (g := gb188) (o := .cells #[.slice Ao16 y176.length co16, .slice Ao15 y185.length co15] 25 (0, 0)) (by (with_reducible repeat (first | refine Qd ?_ _ | refine Qb ?_ | refine Qc ?_ _)); exact BK188.out) hb)
 have n6_ := Qa.mk (Qv (by with_reducible repeat (first | exact HB.out | apply Qk | apply Ql | apply Qj | refine Qi ?_ GE188.out)) hb)
 clear HO178
 clear HO187
 clear HO191
 clear HO194
 clear BK188
 clear HB
 have HO178 := n0_
 have HO187 := n1_
 have HO191 := n2_
 have HO194 := n3_
 have HO197 := n4_
 have BK188 := n5_
 have HB := n6_
 clear n0_ n1_ n2_ n3_ n4_ n5_ n6_
 (try clear hb; try clear hb2; try clear hk; try clear hi; try clear ho0)
 refine hK.out _ _ ⟨(Qe BK188.out 0).trans rfl, (Qe BK188.out 1).trans rfl⟩ (fun hHeld => ?_)
 clear hK K
 refine norm_ (a' := ?_) ?_ ?_
 rotate_left
 ·
  show Act.put _ (some 20) _ = _
  simp only [Act.put, List.setIfInBounds_toArray, List.set_cons_zero, List.set_cons_succ, i64_w, i32_w]
  rfl
 refine pure_ (i := 3) (N := some 3) (v := ?_) (a' := ?_) #[true, true, true, true] rfl rfl (by kernel_rfl) (fun _ _ _ h => h) (Or.inl ⟨by rfl, ?_⟩) ?_ ?_
 rotate_left
 ·
  intro w'
  go_simp
  with_reducible rfl
 rotate_left
 ·
  simp only [Act.put, List.setIfInBounds_toArray, List.set_cons_zero, List.set_cons_succ, i64_w, i32_w]
  rfl
 refine done_ (by kernel_rfl) ?_
 go_upto_region 4 with (fail)
 go_cut [28] (fun v28 wc => ∃ (kq : Nat) (x28_3 : Bool), v28 = .bool x28_3 ∧ Qa (Qj1.j0 kq t189 t195 x28_3 y176 y185 = some r) ∧ Qa (kq ≤ k) ∧ Qa (Kd.R k36 36 wc w.heap.size (fun k_ => some k_ ≠ (v196 : Value).ownBlock) v190 t189) ∧ Qa (Kd.R k36 36 wc w.heap.size (fun k_ => some k_ ≠ (v190 : Value).ownBlock) v196 t195) ∧ Qa (Kd.R k39 39 wc w.heap.size (fun _ => True) (.slice Ao16 y176.length co16) y176) ∧ Qa (Kd.N k53 53 wc w.heap.size (fun k_ => some k_ ≠ (v190 : Value).ownBlock ∧ some k_ ≠ (v196 : Value).ownBlock ∧ some k_ ≠ ((.slice Ao16 y176.length co16) : Value).ownBlock ∧ k_ ≠ gb188) (.slice Ao15 y185.length co15) y185) ∧ Qa (wc.heap[gb188]? = some (.cells #[(.slice Ao16 y176.length co16), (.slice Ao15 y185.length co15)] 25 (0, 0))) ∧ Qa (Below w.heap.size w wc))
 case first =>
  have H := HC4.out
  clear HC4
  by_cases c25 : (t189.length : Int) = 5
  ·
   rw [if_pos c25] at H
   have c25b0 : ((t189.length : Int) == 5) = true := beq_iff_eq.mpr c25
   have c25b1 : ((t189.length : Int) != 5) = false := bne_eq_false_iff_eq.mpr c25
   clear c25
   (first | rw [c25b0] | (simp only [i64_w, i32_w]; rw [c25b0]) | skip)
   have H' := Qa.mk H
   clear H
   obtain ⟨Ao26, co26, eo26⟩ := Kd.R_slice HO191.out
   subst eo26
   obtain ⟨Ao27, co27, eo27⟩ := Kd.R_slice HO197.out
   subst eo27
   go_wp2
   go_meet
   case rel => exact ⟨_, (((t195.length : Int) != 5)), (by first | rfl | (simp; done) | (simp [*]; done)), H', ⟨by first | omega | exact Nat.le_refl _⟩, ⟨by (with_reducible repeat (first | apply Kd.Qq | apply Kd.Qr | apply Kd.Qo)); exact Kd.R_mono HO191.out (fun _ hk => hk.2)⟩, ⟨by (with_reducible repeat (first | apply Kd.Qq | apply Kd.Qr | apply Kd.Qo)); exact Kd.R_mono HO197.out (fun _ hk => hk.1.2)⟩, ⟨by (with_reducible repeat (first | apply Kd.Qq | apply Kd.Qr | apply Kd.Qo)); exact HO178.out⟩, ⟨by (with_reducible repeat (first | apply Kd.N_alloc | apply Kd.N_drewN | apply Kd.N_drew)); exact Kd.N_mono HO187.out (fun _ hk => ⟨hk.1.1.2, ⟨hk.2, ⟨hk.1.1.1.1, hk.1.1.1.2⟩⟩⟩)⟩, ⟨by (with_reducible repeat (first | refine Qd ?_ _ | refine Qb ?_ | refine Qc ?_ _)); exact BK188.out⟩, ⟨by with_reducible repeat (first | exact HB.out | apply Qk | apply Ql | apply Qj | refine Qi ?_ GE188.out)⟩⟩
  rw [if_neg c25] at H
  have c25b0 : ((t189.length : Int) == 5) = false := beq_eq_false_iff_ne.mpr c25
  have c25b1 : ((t189.length : Int) != 5) = true := bne_iff_ne.mpr c25
  (first | rw [c25b0] | (simp only [i64_w, i32_w]; rw [c25b0]) | skip)
  have H' := Qa.mk H
  clear H
  obtain ⟨Ao28, co28, eo28⟩ := Kd.R_slice HO191.out
  subst eo28
  go_wp2
  go_meet
  case rel => exact ⟨_, (true), (by first | rfl | (simp; done) | (simp [*]; done)), H', ⟨by first | omega | exact Nat.le_refl _⟩, ⟨by (with_reducible repeat (first | apply Kd.Qq | apply Kd.Qr | apply Kd.Qo)); exact Kd.R_mono HO191.out (fun _ hk => hk.2)⟩, ⟨by (with_reducible repeat (first | apply Kd.Qq | apply Kd.Qr | apply Kd.Qo)); exact Kd.R_mono HO197.out (fun _ hk => hk.1.2)⟩, ⟨by (with_reducible repeat (first | apply Kd.Qq | apply Kd.Qr | apply Kd.Qo)); exact HO178.out⟩, ⟨by (with_reducible repeat (first | apply Kd.N_alloc | apply Kd.N_drewN | apply Kd.N_drew)); exact Kd.N_mono HO187.out (fun _ hk => ⟨hk.1.1.2, ⟨hk.2, ⟨hk.1.1.1.1, hk.1.1.1.2⟩⟩⟩)⟩, ⟨by (with_reducible repeat (first | refine Qd ?_ _ | refine Qb ?_ | refine Qc ?_ _)); exact BK188.out⟩, ⟨by with_reducible repeat (first | exact HB.out | apply Qk | apply Ql | apply Qj | refine Qi ?_ GE188.out)⟩⟩
 case rest =>
  clear HC4
  (try clear c1; try clear c2; try clear c2b0; try clear c2b1; try clear p2; try clear c7; try clear c8; try clear c13; try clear c15; try clear c25; try clear c25b0; try clear c25b1; try clear hcz18_0; try clear hcz18_1; try clear hfz18_0; try clear hfz18_1)
  obtain ⟨kq, x28_3, rfl, HA, HJ3, HO_2, HO_3, HO_189000, HO_189001, BK188, HB⟩ := hcut
  cases kq with
  | zero => exact absurd HA.out (by simp [Qj1.j0])
  | succ kj3 =>
   have H := HA.out
   clear HA
   simp only [Qj1.j0] at H
   by_cases c29 : x28_3 = true
   ·
    subst c29
    have H1 : (some false) = some r := by rw [if_pos rfl] at H; exact H
    clear H
    have H := H1
    clear H1
    obtain rfl := Option.some.inj H
    go_wp2
    go_ret
    exact ⟨by first | rfl | (simp [Qw, Qx] <;> rfl) | (simp [*, Qw, Qx] <;> rfl), by with_reducible repeat (first | exact HB.out | apply Qk | apply Ql | apply Qj | refine Qi ?_ GE188.out)⟩
   replace c29 := Bool.eq_false_iff.mpr c29
   subst c29
   have H1 : (if 2 < (t189.length : Int) then ((flow_Text.f kj3 ((Qg t189 2).f0) ((Qg t189 2).f1) ((Qg t189 2).f2)).bind fun t199 => (if t199.toList = ([101, 102] : List UInt8) then (if 4 < (t189.length : Int) then ((flow_Text.f kj3 ((Qg t189 4).f0) ((Qg t189 4).f1) ((Qg t189 4).f2)).bind fun t201 => (if t201.toList = ([110, 101] : List UInt8) then ((flow_Rule.f kj3 y176 y185 0).bind fun bt202 => (if (bt202.1 == ((Qg t189 4).f0) && (bt202.2.1 == ((Qg t189 4).f1) && (bt202.2.2 == ((Qg t189 4).f2)))) = true then (if 0 < (t195.length : Int) then ((flow_Text.f kj3 ((Qg t195 0).f0) ((Qg t195 0).f1) ((Qg t195 0).f2)).bind fun t207 => (if t207.toList = ([101, 102] : List UInt8) then (if 1 < (t195.length : Int) then ((flow_Text.f kj3 ((Qg t195 1).f0) ((Qg t195 1).f1) ((Qg t195 1).f2)).bind fun t209 => (some (t209.toList == ([45] : List UInt8)))) else (none)) else (some false))) else (none)) else (some false))) else (some false))) else (none)) else (some false))) else (none)) = some r := by rw [if_neg (show ¬ (false = true) by decide)] at H; exact H
   clear H
   have H := H1
   clear H1
   have HC30 := Qa.mk H
   clear H
   go_upto_region 6 with (fail)
   have H := HC30.out
   clear HC30
   by_cases c31 : 2 < (t189.length : Int)
   rotate_left
   ·
    rw [if_neg c31] at H
    exact absurd H (by simp)
   rw [if_pos c31] at H
   have c31b0 : decide (2 < (t189.length : Int)) = true := decide_eq_true c31
   have c31b1 : decide (2 < t189.length) = true := decide_eq_true (by omega)
   clear c31
   (first | rw [c31b0] | (simp only [i64_w, i32_w]; rw [c31b0]) | skip)
   replace H := Option.bind_eq_some_iff.mp H
   obtain ⟨t199, A320, H⟩ := H
   replace H : (if t199.toList = ([101, 102] : List UInt8) then (if 4 < (t189.length : Int) then ((flow_Text.f kj3 ((Qg t189 4).f0) ((Qg t189 4).f1) ((Qg t189 4).f2)).bind fun t201 => (if t201.toList = ([110, 101] : List UInt8) then ((flow_Rule.f kj3 y176 y185 0).bind fun bt202 => (if (bt202.1 == ((Qg t189 4).f0) && (bt202.2.1 == ((Qg t189 4).f1) && (bt202.2.2 == ((Qg t189 4).f2)))) = true then (if 0 < (t195.length : Int) then ((flow_Text.f kj3 ((Qg t195 0).f0) ((Qg t195 0).f1) ((Qg t195 0).f2)).bind fun t207 => (if t207.toList = ([101, 102] : List UInt8) then (if 1 < (t195.length : Int) then ((flow_Text.f kj3 ((Qg t195 1).f0) ((Qg t195 1).f1) ((Qg t195 1).f2)).bind fun t209 => (some (t209.toList == ([45] : List UInt8)))) else (none)) else (some false))) else (none)) else (some false))) else (some false))) else (none)) else (some false)) = some r := H
   have A32 := Qa.mk A320
   clear A320
   by_cases c33 : t199.toList = ([101, 102] : List UInt8)
   rotate_left
   ·
    rw [if_neg c33] at H
    have c33b0 : (t199.toList == ([101, 102] : List UInt8)) = false := beq_eq_false_iff_ne.mpr c33
    have c33b1 : (t199.toList != ([101, 102] : List UInt8)) = true := bne_iff_ne.mpr c33
    obtain rfl := Option.some.inj H
    try go_wp2
    have n0_ := Qa.mk (Kd.Qo HO_2.out)
    have n1_ := Qa.mk (Kd.Qo HO_3.out)
    have n2_ := Qa.mk (Kd.Qo HO_189000.out)
    have n3_ := Qa.mk (Kd.N_drew HO_189001.out)
    have n4_ := Qa.mk (Qb BK188.out)
    have n5_ := Qa.mk (Qj HB.out)
    clear HO_2
    clear HO_3
    clear HO_189000
    clear HO_189001
    clear BK188
    clear HB
    have HO_2 := n0_
    have HO_3 := n1_
    have HO_189000 := n2_
    have HO_189001 := n3_
    have BK188 := n4_
    have HB := n5_
    clear n0_ n1_ n2_ n3_ n4_ n5_
    obtain ⟨Ao69, co69, eo69⟩ := Kd.R_slice HO_2.out
    (first | subst eo69 | (injection eo69 with f1_ f2_ f3_; have f4_ := f1_.symm; have f5_ := f3_.symm; clear f1_ f2_ f3_; subst f4_; subst f5_))
    have p198 : 0 ≤ (2 : Int) := (by omega)
    have q198 : 2 < (t189.length : Int) := of_decide_eq_true (by assumption)
    obtain ⟨ad198, e198, hx198_0, hx198_1, hx198_2⟩ := at_T36 (Kd.R_reads' HO_2.out).2.2 2 p198 q198
    cases e198
    (try simp only [show (2 : Int).toNat = 2 from rfl, Nat.reduceMul, Nat.reduceEqDiff, Go.Addr.add, ↓reduceIte] at hx198_0)
    (try simp only [show (2 : Int).toNat = 2 from rfl, Nat.reduceMul, Nat.reduceEqDiff, Go.Addr.add, ↓reduceIte] at hx198_1)
    (try simp only [show (2 : Int).toNat = 2 from rfl, Nat.reduceMul, Nat.reduceEqDiff, Go.Addr.add, ↓reduceIte] at hx198_2)
    have qi198 : (2 < t189.length) = True := eq_true (by omega)
    (try rw [show ((2 : Int)).toNat = 2 from rfl] at hx198_0)
    (try rw [show 2 * 3 = 6 from rfl] at hx198_0)
    (try rw [show ((2 : Int)).toNat = 2 from rfl] at hx198_1)
    (try rw [show 2 * 3 = 6 from rfl] at hx198_1)
    (try rw [show ((2 : Int)).toNat = 2 from rfl] at hx198_2)
    (try rw [show 2 * 3 = 6 from rfl] at hx198_2)
    replace p198 := eq_true p198
    replace q198 := eq_true q198
    refine start_ (n := 35) (S := fun w' => w'.cell? ⟨ad198.block, ad198.off + 6, none⟩ = some (.bool ((Qg t189 2).f0)) ∧ w'.cell? ⟨ad198.block, ad198.off + 6 + 1, none⟩ = some (.bool ((Qg t189 2).f1)) ∧ w'.cell? ⟨ad198.block, ad198.off + 6 + 2, none⟩ = some (.bool ((Qg t189 2).f2))) (ds := []) QB55_0 (by kernel_rfl) rfl rfl ⟨hx198_0, hx198_1, hx198_2⟩ (fun hHeld => ?_); refine with_tabW Qj1.tab6 Qj1.bits6 (fun HT_ HW_ => ?_)
    generalize wc.drew = w68 at HO_2 HO_3 HO_189000 HO_189001 BK188 HB hx198_0 hx198_1 hx198_2 hHeld ⊢
    refine pure_ (i := 0) (N := some 29) (v := ?_) (a' := ?_) QB55_1 rfl rfl (Qm HT_.out (by kernel_rfl)) (fun _ _ _ h => h) (Or.inl ⟨by rfl, ?_⟩) ?_ ?_
    rotate_left
    ·
     intro w'
     go_simp
     with_reducible rfl
    rotate_left
    ·
     simp only [Act.put, List.setIfInBounds_toArray, List.set_cons_zero, List.set_cons_succ, i64_w, i32_w]
     rfl
    refine pure_ (i := 1) (N := some 30) (v := ?_) (a' := ?_) QB55_2 rfl rfl (Qm HT_.out (by kernel_rfl)) (fun _ _ _ h => h) (Or.inl ⟨by rfl, ?_⟩) ?_ ?_
    rotate_left
    ·
     intro w'
     go_simp
     with_reducible rfl
    rotate_left
    ·
     simp only [Act.put, List.setIfInBounds_toArray, List.set_cons_zero, List.set_cons_succ, i64_w, i32_w]
     rfl
    refine take_ (i := 2) (N := some 31) (v := ?_) (a' := ?_) QB55_3 rfl rfl (Qm1 HT_.out HW_.out (by kernel_rfl)) (fun _ _ _ h => h) (Or.inl ⟨by rfl, ?_⟩) hHeld ?_ ?_
    rotate_left
    ·
     rintro w' ⟨s0, s1, s2⟩
     go_simp
     with_reducible rfl
    rotate_left
    ·
     simp only [Act.put, List.setIfInBounds_toArray, List.set_cons_zero, List.set_cons_succ, i64_w, i32_w]
     rfl
    refine one_ (i := 3) (N := some 32) QB55_4 rfl rfl (one_of HT_.out (by kernel_rfl)) (by decide) (fun K hK => ?_)
    refine goes_ Try.func19 (by kernel_rfl) rfl #[.agg #[.bool ((Qg t189 2).f0), .bool ((Qg t189 2).f1), .bool ((Qg t189 2).f2)]] (by rfl) rfl rfl (by (try simp only [List.map_toArray, List.map_cons, List.map_nil]); first | done | rfl | (simp only [List.length_drop, List.length_take]; rfl)) ?_
    with_reducible refine (flow_Text.calls kj3 ((Qg t189 2).f0) ((Qg t189 2).f1) ((Qg t189 2).f2) t199 _ A32.out).mono ?_
    rintro e w70 ⟨rfl, hb⟩
    have HS0_ := (hb.cell (World.block_lt_of_cell? _ _ (hHeld.1))).trans (hHeld.1)
    have HS1_ := (hb.cell (World.block_lt_of_cell? _ _ (hHeld.2.1))).trans (hHeld.2.1)
    have HS2_ := (hb.cell (World.block_lt_of_cell? _ _ (hHeld.2.2))).trans (hHeld.2.2)
    refine ⟨_, rfl, ?_⟩
    have n0_ := Qa.mk (Kd.Qd1 (by (with_reducible repeat (first | apply Kd.Qq | apply Kd.Qr | apply Kd.Qo)); exact HO_2.out) hb)
    have n1_ := Qa.mk (Kd.Qd1 (by (with_reducible repeat (first | apply Kd.Qq | apply Kd.Qr | apply Kd.Qo)); exact HO_3.out) hb)
    have n2_ := Qa.mk (Kd.Qd1 (by (with_reducible repeat (first | apply Kd.Qq | apply Kd.Qr | apply Kd.Qo)); exact HO_189000.out) hb)
    have n3_ := Qa.mk (Kd.N_below (by (with_reducible repeat (first | apply Kd.N_alloc | apply Kd.N_drewN | apply Kd.N_drew)); exact HO_189001.out) hb)
    have n4_ := Qa.mk (Qs (g := gb188) (o := .cells #[.slice Ao16 y176.length co16, .slice Ao15 y185.length co15] 25 (0, 0)) (by (with_reducible repeat (first | refine Qd ?_ _ | refine Qb ?_ | refine Qc ?_ _)); exact BK188.out) hb)
    have n5_ := Qa.mk (Qv (by with_reducible repeat (first | exact HB.out | apply Qk | apply Ql | apply Qj | refine Qi ?_ GE188.out)) hb)
    clear HO_2
    clear HO_3
    clear HO_189000
    clear HO_189001
    clear BK188
    clear HB
    have HO_2 := n0_
    have HO_3 := n1_
    have HO_189000 := n2_
    have HO_189001 := n3_
    have BK188 := n4_
    have HB := n5_
    clear n0_ n1_ n2_ n3_ n4_ n5_
    (try clear hb; try clear hb2; try clear hk; try clear hi)
    refine hK.out _ _ ⟨HS0_, HS1_, HS2_⟩ (fun hHeld => ?_)
    clear hK K
    refine norm_ (a' := ?_) ?_ ?_
    rotate_left
    ·
     show Act.put _ (some 32) _ = _
     simp only [Act.put, List.setIfInBounds_toArray, List.set_cons_zero, List.set_cons_succ, i64_w, i32_w]
     rfl
    refine pure_ (i := 4) (N := some 33) (v := ?_) (a' := ?_) QB55_5 rfl rfl (Qm HT_.out (by kernel_rfl)) (fun _ _ _ h => h) (Or.inl ⟨by rfl, ?_⟩) ?_ ?_
    rotate_left
    ·
     intro w'
     go_simp
     with_reducible rfl
    rotate_left
    ·
     simp only [Act.put, List.setIfInBounds_toArray, List.set_cons_zero, List.set_cons_succ, i64_w, i32_w]
     rfl
    refine pure_ (i := 5) (N := some 34) (v := ?_) (a' := ?_) QB55_6 rfl rfl (Qm HT_.out (by kernel_rfl)) (fun _ _ _ h => h) (Or.inl ⟨by rfl, ?_⟩) ?_ ?_
    rotate_left
    ·
     intro w'
     go_simp
     with_reducible rfl
    rotate_left
    ·
     simp only [Act.put, List.setIfInBounds_toArray, List.set_cons_zero, List.set_cons_succ, i64_w, i32_w]
     rfl
    refine pure_ (i := 6) (N := some 35) (v := undef) (a' := ?_) QB55_7 rfl rfl (Qm HT_.out (by kernel_rfl)) (fun _ _ _ h => h) (Or.inr ⟨by rfl, rfl⟩) ?_ ?_
    rotate_left
    ·
     simp only [Act.put, List.setIfInBounds_toArray, List.set_cons_zero, List.set_cons_succ, i64_w, i32_w]
     rfl
    refine pure_ (i := 7) (N := some 36) (v := undef) (a' := ?_) QB55_8 rfl rfl (Qm HT_.out (by kernel_rfl)) (fun _ _ _ h => h) (Or.inr ⟨by rfl, rfl⟩) ?_ ?_
    rotate_left
    ·
     simp only [Act.put, List.setIfInBounds_toArray, List.set_cons_zero, List.set_cons_succ, i64_w, i32_w]
     rfl
    refine pure_ (i := 8) (N := some 37) (v := undef) (a' := ?_) QB55_9 rfl rfl (Qm HT_.out (by kernel_rfl)) (fun _ _ _ h => h) (Or.inr ⟨by rfl, rfl⟩) ?_ ?_
    rotate_left
    ·
     simp only [Act.put, List.setIfInBounds_toArray, List.set_cons_zero, List.set_cons_succ, i64_w, i32_w]
     rfl
    refine pure_ (i := 9) (N := some 38) (v := undef) (a' := ?_) QB55_10 rfl rfl (Qm HT_.out (by kernel_rfl)) (fun _ _ _ h => h) (Or.inr ⟨by rfl, rfl⟩) ?_ ?_
    rotate_left
    ·
     simp only [Act.put, List.setIfInBounds_toArray, List.set_cons_zero, List.set_cons_succ, i64_w, i32_w]
     rfl
    refine pure_ (i := 10) (N := some 39) (v := undef) (a' := ?_) QB55_11 rfl rfl (Qm HT_.out (by kernel_rfl)) (fun _ _ _ h => h) (Or.inr ⟨by rfl, rfl⟩) ?_ ?_
    rotate_left
    ·
     simp only [Act.put, List.setIfInBounds_toArray, List.set_cons_zero, List.set_cons_succ, i64_w, i32_w]
     rfl
    refine pure_ (i := 11) (N := some 40) (v := ?_) (a' := ?_) QB55_12 rfl rfl (Qm HT_.out (by kernel_rfl)) (fun _ _ _ h => h) (Or.inl ⟨by rfl, ?_⟩) ?_ ?_
    rotate_left
    ·
     intro w'
     go_simp
     with_reducible rfl
    rotate_left
    ·
     simp only [Act.put, List.setIfInBounds_toArray, List.set_cons_zero, List.set_cons_succ, i64_w, i32_w]
     rfl
    refine pure_ (i := 12) (N := some 41) (v := ?_) (a' := ?_) QB55_13 rfl rfl (Qm HT_.out (by kernel_rfl)) (fun _ _ _ h => h) (Or.inl ⟨by rfl, ?_⟩) ?_ ?_
    rotate_left
    ·
     intro w'
     go_simp
     with_reducible rfl
    rotate_left
    ·
     simp only [Act.put, List.setIfInBounds_toArray, List.set_cons_zero, List.set_cons_succ, i64_w, i32_w]
     rfl
    refine pure_ (i := 13) (N := some 42) (v := undef) (a' := ?_) QB55_36 rfl rfl (Qm HT_.out (by kernel_rfl)) (fun _ _ _ h => h) (Or.inr ⟨by rfl, rfl⟩) ?_ ?_
    rotate_left
    ·
     simp only [Act.put, List.setIfInBounds_toArray, List.set_cons_zero, List.set_cons_succ, i64_w, i32_w]
     rfl
    refine pure_ (i := 14) (N := some 43) (v := undef) (a' := ?_) QB55_37 rfl rfl (Qm HT_.out (by kernel_rfl)) (fun _ _ _ h => h) (Or.inr ⟨by rfl, rfl⟩) ?_ ?_
    rotate_left
    ·
     simp only [Act.put, List.setIfInBounds_toArray, List.set_cons_zero, List.set_cons_succ, i64_w, i32_w]
     rfl
    refine pure_ (i := 15) (N := some 44) (v := undef) (a' := ?_) QB55_38 rfl rfl (Qm HT_.out (by kernel_rfl)) (fun _ _ _ h => h) (Or.inr ⟨by rfl, rfl⟩) ?_ ?_
    rotate_left
    ·
     simp only [Act.put, List.setIfInBounds_toArray, List.set_cons_zero, List.set_cons_succ, i64_w, i32_w]
     rfl
    refine pure_ (i := 16) (N := some 45) (v := undef) (a' := ?_) QB55_39 rfl rfl (Qm HT_.out (by kernel_rfl)) (fun _ _ _ h => h) (Or.inr ⟨by rfl, rfl⟩) ?_ ?_
    rotate_left
    ·
     simp only [Act.put, List.setIfInBounds_toArray, List.set_cons_zero, List.set_cons_succ, i64_w, i32_w]
     rfl
    refine pure_ (i := 17) (N := some 46) (v := undef) (a' := ?_) QB55_14 rfl rfl (Qm HT_.out (by kernel_rfl)) (fun _ _ _ h => h) (Or.inr ⟨by rfl, rfl⟩) ?_ ?_
    rotate_left
    ·
     simp only [Act.put, List.setIfInBounds_toArray, List.set_cons_zero, List.set_cons_succ, i64_w, i32_w]
     rfl
    refine pure_ (i := 18) (N := some 47) (v := undef) (a' := ?_) QB55_15 rfl rfl (Qm HT_.out (by kernel_rfl)) (fun _ _ _ h => h) (Or.inr ⟨by rfl, rfl⟩) ?_ ?_
    rotate_left
    ·
     simp only [Act.put, List.setIfInBounds_toArray, List.set_cons_zero, List.set_cons_succ, i64_w, i32_w]
     rfl
    refine pure_ (i := 19) (N := some 48) (v := ?_) (a' := ?_) QB55_16 rfl rfl (Qm HT_.out (by kernel_rfl)) (fun _ _ _ h => h) (Or.inl ⟨by rfl, ?_⟩) ?_ ?_
    rotate_left
    ·
     intro w'
     go_simp
     with_reducible rfl
    rotate_left
    ·
     simp only [Act.put, List.setIfInBounds_toArray, List.set_cons_zero, List.set_cons_succ, i64_w, i32_w]
     rfl
    refine pure_ (i := 20) (N := some 49) (v := ?_) (a' := ?_) QB55_17 rfl rfl (Qm HT_.out (by kernel_rfl)) (fun _ _ _ h => h) (Or.inl ⟨by rfl, ?_⟩) ?_ ?_
    rotate_left
    ·
     intro w'
     go_simp
     with_reducible rfl
    rotate_left
    ·
     simp only [Act.put, List.setIfInBounds_toArray, List.set_cons_zero, List.set_cons_succ, i64_w, i32_w]
     rfl
    refine pure_ (i := 21) (N := some 50) (v := undef) (a' := ?_) QB55_18 rfl rfl (Qm HT_.out (by kernel_rfl)) (fun _ _ _ h => h) (Or.inr ⟨by rfl, rfl⟩) ?_ ?_
    rotate_left
    ·
     simp only [Act.put, List.setIfInBounds_toArray, List.set_cons_zero, List.set_cons_succ, i64_w, i32_w]
     rfl
    refine pure_ (i := 22) (N := some 51) (v := undef) (a' := ?_) QB55_19 rfl rfl (Qm HT_.out (by kernel_rfl)) (fun _ _ _ h => h) (Or.inr ⟨by rfl, rfl⟩) ?_ ?_
    rotate_left
    ·
     simp only [Act.put, List.setIfInBounds_toArray, List.set_cons_zero, List.set_cons_succ, i64_w, i32_w]
     rfl
    refine pure_ (i := 23) (N := some 52) (v := undef) (a' := ?_) QB55_20 rfl rfl (Qm HT_.out (by kernel_rfl)) (fun _ _ _ h => h) (Or.inr ⟨by rfl, rfl⟩) ?_ ?_
    rotate_left
    ·
     simp only [Act.put, List.setIfInBounds_toArray, List.set_cons_zero, List.set_cons_succ, i64_w, i32_w]
     rfl
    refine pure_ (i := 24) (N := some 53) (v := undef) (a' := ?_) QB55_21 rfl rfl (Qm HT_.out (by kernel_rfl)) (fun _ _ _ h => h) (Or.inr ⟨by rfl, rfl⟩) ?_ ?_
    rotate_left
    ·
     simp only [Act.put, List.setIfInBounds_toArray, List.set_cons_zero, List.set_cons_succ, i64_w, i32_w]
     rfl
    refine pure_ (i := 25) (N := some 54) (v := undef) (a' := ?_) QB55_22 rfl rfl (Qm HT_.out (by kernel_rfl)) (fun _ _ _ h => h) (Or.inr ⟨by rfl, rfl⟩) ?_ ?_
    rotate_left
    ·
     simp only [Act.put, List.setIfInBounds_toArray, List.set_cons_zero, List.set_cons_succ, i64_w, i32_w]
     rfl
    refine pure_ (i := 26) (N := some 55) (v := ?_) (a' := ?_) QB55_23 rfl rfl (Qm HT_.out (by kernel_rfl)) (fun _ _ _ h => h) (Or.inl ⟨by rfl, ?_⟩) ?_ ?_
    rotate_left
    ·
     intro w'
     go_simp
     with_reducible rfl
    rotate_left
    ·
     simp only [Act.put, List.setIfInBounds_toArray, List.set_cons_zero, List.set_cons_succ, i64_w, i32_w]
     rfl
    refine pure_ (i := 27) (N := some 56) (v := ?_) (a' := ?_) QB55_24 rfl rfl (Qm HT_.out (by kernel_rfl)) (fun _ _ _ h => h) (Or.inl ⟨by rfl, ?_⟩) ?_ ?_
    rotate_left
    ·
     intro w'
     go_simp
     with_reducible rfl
    rotate_left
    ·
     simp only [Act.put, List.setIfInBounds_toArray, List.set_cons_zero, List.set_cons_succ, i64_w, i32_w]
     rfl
    refine pure_ (i := 28) (N := some 57) (v := undef) (a' := ?_) QB55_25 rfl rfl (Qm HT_.out (by kernel_rfl)) (fun _ _ _ h => h) (Or.inr ⟨by rfl, rfl⟩) ?_ ?_
    rotate_left
    ·
     simp only [Act.put, List.setIfInBounds_toArray, List.set_cons_zero, List.set_cons_succ, i64_w, i32_w]
     rfl
    refine pure_ (i := 29) (N := some 58) (v := undef) (a' := ?_) QB55_26 rfl rfl (Qm HT_.out (by kernel_rfl)) (fun _ _ _ h => h) (Or.inr ⟨by rfl, rfl⟩) ?_ ?_
    rotate_left
    ·
     simp only [Act.put, List.setIfInBounds_toArray, List.set_cons_zero, List.set_cons_succ, i64_w, i32_w]
     rfl
    refine pure_ (i := 30) (N := some 59) (v := undef) (a' := ?_) QB55_27 rfl rfl (Qm HT_.out (by kernel_rfl)) (fun _ _ _ h => h) (Or.inr ⟨by rfl, rfl⟩) ?_ ?_
    rotate_left
    ·
     simp only [Act.put, List.setIfInBounds_toArray, List.set_cons_zero, List.set_cons_succ, i64_w, i32_w]
     rfl
    refine pure_ (i := 31) (N := some 60) (v := undef) (a' := ?_) QB55_28 rfl rfl (Qm HT_.out (by kernel_rfl)) (fun _ _ _ h => h) (Or.inr ⟨by rfl, rfl⟩) ?_ ?_
    rotate_left
    ·
     simp only [Act.put, List.setIfInBounds_toArray, List.set_cons_zero, List.set_cons_succ, i64_w, i32_w]
     rfl
    refine pure_ (i := 32) (N := some 61) (v := undef) (a' := ?_) QB55_29 rfl rfl (Qm HT_.out (by kernel_rfl)) (fun _ _ _ h => h) (Or.inr ⟨by rfl, rfl⟩) ?_ ?_
    rotate_left
    ·
     simp only [Act.put, List.setIfInBounds_toArray, List.set_cons_zero, List.set_cons_succ, i64_w, i32_w]
     rfl
    refine pure_ (i := 33) (N := some 62) (v := ?_) (a' := ?_) QB55_30 rfl rfl (Qm HT_.out (by kernel_rfl)) (fun _ _ _ h => h) (Or.inl ⟨by rfl, ?_⟩) ?_ ?_
    rotate_left
    ·
     intro w'
     go_simp
     with_reducible rfl
    rotate_left
    ·
     simp only [Act.put, List.setIfInBounds_toArray, List.set_cons_zero, List.set_cons_succ, i64_w, i32_w]
     rfl
    refine pure_ (i := 34) (N := some 0) (v := ?_) (a' := ?_) QB55_31 rfl rfl (Qm HT_.out (by kernel_rfl)) (fun _ _ _ h => h) (Or.inl ⟨by rfl, ?_⟩) ?_ ?_
    rotate_left
    ·
     intro w'
     go_simp
     with_reducible rfl
    rotate_left
    ·
     simp only [Act.put, List.setIfInBounds_toArray, List.set_cons_zero, List.set_cons_succ, i64_w, i32_w]
     rfl
    refine done_ (done_of HT_.out (by kernel_rfl)) ?_
    try go_wp2
    go_ret
    exact ⟨by first | rfl | (simp [Qw, Qx] <;> rfl) | (simp [*, Qw, Qx] <;> rfl), by with_reducible repeat (first | exact HB.out | apply Qk | apply Ql | apply Qj | refine Qi ?_ GE188.out)⟩
   rw [if_pos c33] at H
   have c33b0 : (t199.toList == ([101, 102] : List UInt8)) = true := beq_iff_eq.mpr c33
   have c33b1 : (t199.toList != ([101, 102] : List UInt8)) = false := bne_eq_false_iff_eq.mpr c33
   clear c33
   by_cases c34 : 4 < (t189.length : Int)
   rotate_left
   ·
    rw [if_neg c34] at H
    exact absurd H (by simp)
   rw [if_pos c34] at H
   have c34b0 : decide (4 < (t189.length : Int)) = true := decide_eq_true c34
   have c34b1 : decide (4 < t189.length) = true := decide_eq_true (by omega)
   clear c34
   replace H := Option.bind_eq_some_iff.mp H
   obtain ⟨t201, A350, H⟩ := H
   replace H : (if t201.toList = ([110, 101] : List UInt8) then ((flow_Rule.f kj3 y176 y185 0).bind fun bt202 => (if (bt202.1 == ((Qg t189 4).f0) && (bt202.2.1 == ((Qg t189 4).f1) && (bt202.2.2 == ((Qg t189 4).f2)))) = true then (if 0 < (t195.length : Int) then ((flow_Text.f kj3 ((Qg t195 0).f0) ((Qg t195 0).f1) ((Qg t195 0).f2)).bind fun t207 => (if t207.toList = ([101, 102] : List UInt8) then (if 1 < (t195.length : Int) then ((flow_Text.f kj3 ((Qg t195 1).f0) ((Qg t195 1).f1) ((Qg t195 1).f2)).bind fun t209 => (some (t209.toList == ([45] : List UInt8)))) else (none)) else (some false))) else (none)) else (some false))) else (some false)) = some r := H
   have A35 := Qa.mk A350
   clear A350
   by_cases c36 : t201.toList = ([110, 101] : List UInt8)
   rotate_left
   ·
    rw [if_neg c36] at H
    have c36b0 : (t201.toList == ([110, 101] : List UInt8)) = false := beq_eq_false_iff_ne.mpr c36
    have c36b1 : (t201.toList != ([110, 101] : List UInt8)) = true := bne_iff_ne.mpr c36
    obtain rfl := Option.some.inj H
    try go_wp2
    have n0_ := Qa.mk (Kd.Qo HO_2.out)
    have n1_ := Qa.mk (Kd.Qo HO_3.out)
    have n2_ := Qa.mk (Kd.Qo HO_189000.out)
    have n3_ := Qa.mk (Kd.N_drew HO_189001.out)
    have n4_ := Qa.mk (Qb BK188.out)
    have n5_ := Qa.mk (Qj HB.out)
    clear HO_2
    clear HO_3
    clear HO_189000
    clear HO_189001
    clear BK188
    clear HB
    have HO_2 := n0_
    have HO_3 := n1_
    have HO_189000 := n2_
    have HO_189001 := n3_
    have BK188 := n4_
    have HB := n5_
    clear n0_ n1_ n2_ n3_ n4_ n5_
    obtain ⟨Ao65, co65, eo65⟩ := Kd.R_slice HO_2.out
    (first | subst eo65 | (injection eo65 with f1_ f2_ f3_; have f4_ := f1_.symm; have f5_ := f3_.symm; clear f1_ f2_ f3_; subst f4_; subst f5_))
    have p198 : 0 ≤ (2 : Int) := (by omega)
    have q198 : 2 < (t189.length : Int) := of_decide_eq_true (by assumption)
    obtain ⟨ad198, e198, hx198_0, hx198_1, hx198_2⟩ := at_T36 (Kd.R_reads' HO_2.out).2.2 2 p198 q198
    cases e198
    (try simp only [show (2 : Int).toNat = 2 from rfl, Nat.reduceMul, Nat.reduceEqDiff, Go.Addr.add, ↓reduceIte] at hx198_0)
    (try simp only [show (2 : Int).toNat = 2 from rfl, Nat.reduceMul, Nat.reduceEqDiff, Go.Addr.add, ↓reduceIte] at hx198_1)
    (try simp only [show (2 : Int).toNat = 2 from rfl, Nat.reduceMul, Nat.reduceEqDiff, Go.Addr.add, ↓reduceIte] at hx198_2)
    have qi198 : (2 < t189.length) = True := eq_true (by omega)
    (try rw [show ((2 : Int)).toNat = 2 from rfl] at hx198_0)
    (try rw [show 2 * 3 = 6 from rfl] at hx198_0)
    (try rw [show ((2 : Int)).toNat = 2 from rfl] at hx198_1)
    (try rw [show 2 * 3 = 6 from rfl] at hx198_1)
    (try rw [show ((2 : Int)).toNat = 2 from rfl] at hx198_2)
    (try rw [show 2 * 3 = 6 from rfl] at hx198_2)
    replace p198 := eq_true p198
    replace q198 := eq_true q198
    have p200 : 0 ≤ (4 : Int) := (by omega)
    have q200 : 4 < (t189.length : Int) := of_decide_eq_true (by assumption)
    obtain ⟨ad200, e200, hx200_0, hx200_1, hx200_2⟩ := at_T36 (Kd.R_reads' HO_2.out).2.2 4 p200 q200
    obtain rfl : ad198 = ad200 := (by injection e200)
    (try simp only [show (4 : Int).toNat = 4 from rfl, Nat.reduceMul, Nat.reduceEqDiff, Go.Addr.add, ↓reduceIte] at hx200_0)
    (try simp only [show (4 : Int).toNat = 4 from rfl, Nat.reduceMul, Nat.reduceEqDiff, Go.Addr.add, ↓reduceIte] at hx200_1)
    (try simp only [show (4 : Int).toNat = 4 from rfl, Nat.reduceMul, Nat.reduceEqDiff, Go.Addr.add, ↓reduceIte] at hx200_2)
    have qi200 : (4 < t189.length) = True := eq_true (by omega)
    (try rw [show ((4 : Int)).toNat = 4 from rfl] at hx200_0)
    (try rw [show 4 * 3 = 12 from rfl] at hx200_0)
    (try rw [show ((4 : Int)).toNat = 4 from rfl] at hx200_1)
    (try rw [show 4 * 3 = 12 from rfl] at hx200_1)
    (try rw [show ((4 : Int)).toNat = 4 from rfl] at hx200_2)
    (try rw [show 4 * 3 = 12 from rfl] at hx200_2)
    replace p200 := eq_true p200
    replace q200 := eq_true q200
    refine start_ (n := 35) (S := fun w' => w'.cell? ⟨ad198.block, ad198.off + 6, none⟩ = some (.bool ((Qg t189 2).f0)) ∧ w'.cell? ⟨ad198.block, ad198.off + 6 + 1, none⟩ = some (.bool ((Qg t189 2).f1)) ∧ w'.cell? ⟨ad198.block, ad198.off + 6 + 2, none⟩ = some (.bool ((Qg t189 2).f2)) ∧ w'.cell? ⟨ad198.block, ad198.off + 12, none⟩ = some (.bool ((Qg t189 4).f0)) ∧ w'.cell? ⟨ad198.block, ad198.off + 12 + 1, none⟩ = some (.bool ((Qg t189 4).f1)) ∧ w'.cell? ⟨ad198.block, ad198.off + 12 + 2, none⟩ = some (.bool ((Qg t189 4).f2))) (ds := []) QB55_0 (by kernel_rfl) rfl rfl ⟨hx198_0, hx198_1, hx198_2, hx200_0, hx200_1, hx200_2⟩ (fun hHeld => ?_); refine with_tabW Qj1.tab6 Qj1.bits6 (fun HT_ HW_ => ?_)
    generalize wc.drew = w64 at HO_2 HO_3 HO_189000 HO_189001 BK188 HB hx198_0 hx198_1 hx198_2 hx200_0 hx200_1 hx200_2 hHeld ⊢
    refine pure_ (i := 0) (N := some 29) (v := ?_) (a' := ?_) QB55_1 rfl rfl (Qm HT_.out (by kernel_rfl)) (fun _ _ _ h => h) (Or.inl ⟨by rfl, ?_⟩) ?_ ?_
    rotate_left
    ·
     intro w'
     go_simp
     with_reducible rfl
    rotate_left
    ·
     simp only [Act.put, List.setIfInBounds_toArray, List.set_cons_zero, List.set_cons_succ, i64_w, i32_w]
     rfl
    refine pure_ (i := 1) (N := some 30) (v := ?_) (a' := ?_) QB55_2 rfl rfl (Qm HT_.out (by kernel_rfl)) (fun _ _ _ h => h) (Or.inl ⟨by rfl, ?_⟩) ?_ ?_
    rotate_left
    ·
     intro w'
     go_simp
     with_reducible rfl
    rotate_left
    ·
     simp only [Act.put, List.setIfInBounds_toArray, List.set_cons_zero, List.set_cons_succ, i64_w, i32_w]
     rfl
    refine take_ (i := 2) (N := some 31) (v := ?_) (a' := ?_) QB55_3 rfl rfl (Qm1 HT_.out HW_.out (by kernel_rfl)) (fun _ _ _ h => h) (Or.inl ⟨by rfl, ?_⟩) hHeld ?_ ?_
    rotate_left
    ·
     rintro w' ⟨s0, s1, s2, s3, s4, s5⟩
     go_simp
     with_reducible rfl
    rotate_left
    ·
     simp only [Act.put, List.setIfInBounds_toArray, List.set_cons_zero, List.set_cons_succ, i64_w, i32_w]
     rfl
    refine one_ (i := 3) (N := some 32) QB55_4 rfl rfl (one_of HT_.out (by kernel_rfl)) (by decide) (fun K hK => ?_)
    refine goes_ Try.func19 (by kernel_rfl) rfl #[.agg #[.bool ((Qg t189 2).f0), .bool ((Qg t189 2).f1), .bool ((Qg t189 2).f2)]] (by rfl) rfl rfl (by (try simp only [List.map_toArray, List.map_cons, List.map_nil]); first | done | rfl | (simp only [List.length_drop, List.length_take]; rfl)) ?_
    with_reducible refine (flow_Text.calls kj3 ((Qg t189 2).f0) ((Qg t189 2).f1) ((Qg t189 2).f2) t199 _ A32.out).mono ?_
    rintro e w66 ⟨rfl, hb⟩
    have HS0_ := (hb.cell (World.block_lt_of_cell? _ _ (hHeld.1))).trans (hHeld.1)
    have HS1_ := (hb.cell (World.block_lt_of_cell? _ _ (hHeld.2.1))).trans (hHeld.2.1)
    have HS2_ := (hb.cell (World.block_lt_of_cell? _ _ (hHeld.2.2.1))).trans (hHeld.2.2.1)
    have HS3_ := (hb.cell (World.block_lt_of_cell? _ _ (hHeld.2.2.2.1))).trans (hHeld.2.2.2.1)
    have HS4_ := (hb.cell (World.block_lt_of_cell? _ _ (hHeld.2.2.2.2.1))).trans (hHeld.2.2.2.2.1)
    have HS5_ := (hb.cell (World.block_lt_of_cell? _ _ (hHeld.2.2.2.2.2))).trans (hHeld.2.2.2.2.2)
    refine ⟨_, rfl, ?_⟩
    have n0_ := Qa.mk (Kd.Qd1 (by (with_reducible repeat (first | apply Kd.Qq | apply Kd.Qr | apply Kd.Qo)); exact HO_2.out) hb)
    have n1_ := Qa.mk (Kd.Qd1 (by (with_reducible repeat (first | apply Kd.Qq | apply Kd.Qr | apply Kd.Qo)); exact HO_3.out) hb)
    have n2_ := Qa.mk (Kd.Qd1 (by (with_reducible repeat (first | apply Kd.Qq | apply Kd.Qr | apply Kd.Qo)); exact HO_189000.out) hb)
    have n3_ := Qa.mk (Kd.N_below (by (with_reducible repeat (first | apply Kd.N_alloc | apply Kd.N_drewN | apply Kd.N_drew)); exact HO_189001.out) hb)
    have n4_ := Qa.mk (Qs (g := gb188) (o := .cells #[.slice Ao16 y176.length co16, .slice Ao15 y185.length co15] 25 (0, 0)) (by (with_reducible repeat (first | refine Qd ?_ _ | refine Qb ?_ | refine Qc ?_ _)); exact BK188.out) hb)
    have n5_ := Qa.mk (Qv (by with_reducible repeat (first | exact HB.out | apply Qk | apply Ql | apply Qj | refine Qi ?_ GE188.out)) hb)
    clear HO_2
    clear HO_3
    clear HO_189000
    clear HO_189001
    clear BK188
    clear HB
    have HO_2 := n0_
    have HO_3 := n1_
    have HO_189000 := n2_
    have HO_189001 := n3_
    have BK188 := n4_
    have HB := n5_
    clear n0_ n1_ n2_ n3_ n4_ n5_
    (try clear hb; try clear hb2; try clear hk; try clear hi)
    refine hK.out _ _ ⟨HS0_, HS1_, HS2_, HS3_, HS4_, HS5_⟩ (fun hHeld => ?_)
    clear hK K
    refine norm_ (a' := ?_) ?_ ?_
    rotate_left
    ·
     show Act.put _ (some 32) _ = _
     simp only [Act.put, List.setIfInBounds_toArray, List.set_cons_zero, List.set_cons_succ, i64_w, i32_w]
     rfl
    refine pure_ (i := 4) (N := some 33) (v := ?_) (a' := ?_) QB55_5 rfl rfl (Qm HT_.out (by kernel_rfl)) (fun _ _ _ h => h) (Or.inl ⟨by rfl, ?_⟩) ?_ ?_
    rotate_left
    ·
     intro w'
     go_simp
     with_reducible rfl
    rotate_left
    ·
     simp only [Act.put, List.setIfInBounds_toArray, List.set_cons_zero, List.set_cons_succ, i64_w, i32_w]
     rfl
    refine pure_ (i := 5) (N := some 34) (v := ?_) (a' := ?_) QB55_6 rfl rfl (Qm HT_.out (by kernel_rfl)) (fun _ _ _ h => h) (Or.inl ⟨by rfl, ?_⟩) ?_ ?_
    rotate_left
    ·
     intro w'
     go_simp
     with_reducible rfl
    rotate_left
    ·
     simp only [Act.put, List.setIfInBounds_toArray, List.set_cons_zero, List.set_cons_succ, i64_w, i32_w]
     rfl
    refine pure_ (i := 6) (N := some 35) (v := ?_) (a' := ?_) QB55_7 rfl rfl (Qm HT_.out (by kernel_rfl)) (fun _ _ _ h => h) (Or.inl ⟨by rfl, ?_⟩) ?_ ?_
    rotate_left
    ·
     intro w'
     go_simp
     with_reducible rfl
    rotate_left
    ·
     simp only [Act.put, List.setIfInBounds_toArray, List.set_cons_zero, List.set_cons_succ, i64_w, i32_w]
     rfl
    refine pure_ (i := 7) (N := some 36) (v := ?_) (a' := ?_) QB55_8 rfl rfl (Qm HT_.out (by kernel_rfl)) (fun _ _ _ h => h) (Or.inl ⟨by rfl, ?_⟩) ?_ ?_
    rotate_left
    ·
     intro w'
     go_simp
     with_reducible rfl
    rotate_left
    ·
     simp only [Act.put, List.setIfInBounds_toArray, List.set_cons_zero, List.set_cons_succ, i64_w, i32_w]
     rfl
    refine take_ (i := 8) (N := some 37) (v := ?_) (a' := ?_) QB55_9 rfl rfl (Qm1 HT_.out HW_.out (by kernel_rfl)) (fun _ _ _ h => h) (Or.inl ⟨by rfl, ?_⟩) hHeld ?_ ?_
    rotate_left
    ·
     rintro w' ⟨s0, s1, s2, s3, s4, s5⟩
     go_simp
     with_reducible rfl
    rotate_left
    ·
     simp only [Act.put, List.setIfInBounds_toArray, List.set_cons_zero, List.set_cons_succ, i64_w, i32_w]
     rfl
    refine one_ (i := 9) (N := some 38) QB55_10 rfl rfl (one_of HT_.out (by kernel_rfl)) (by decide) (fun K hK => ?_)
    refine goes_ Try.func19 (by kernel_rfl) rfl #[.agg #[.bool ((Qg t189 4).f0), .bool ((Qg t189 4).f1), .bool ((Qg t189 4).f2)]] (by rfl) rfl rfl (by (try simp only [List.map_toArray, List.map_cons, List.map_nil]); first | done | rfl | (simp only [List.length_drop, List.length_take]; rfl)) ?_
    with_reducible refine (flow_Text.calls kj3 ((Qg t189 4).f0) ((Qg t189 4).f1) ((Qg t189 4).f2) t201 _ A35.out).mono ?_
    rintro e w67 ⟨rfl, hb⟩
    have HS0_ := (hb.cell (World.block_lt_of_cell? _ _ (hHeld.1))).trans (hHeld.1)
    have HS1_ := (hb.cell (World.block_lt_of_cell? _ _ (hHeld.2.1))).trans (hHeld.2.1)
    have HS2_ := (hb.cell (World.block_lt_of_cell? _ _ (hHeld.2.2.1))).trans (hHeld.2.2.1)
    have HS3_ := (hb.cell (World.block_lt_of_cell? _ _ (hHeld.2.2.2.1))).trans (hHeld.2.2.2.1)
    have HS4_ := (hb.cell (World.block_lt_of_cell? _ _ (hHeld.2.2.2.2.1))).trans (hHeld.2.2.2.2.1)
    have HS5_ := (hb.cell (World.block_lt_of_cell? _ _ (hHeld.2.2.2.2.2))).trans (hHeld.2.2.2.2.2)
    refine ⟨_, rfl, ?_⟩
    have n0_ := Qa.mk (Kd.Qd1 (by (with_reducible repeat (first | apply Kd.Qq | apply Kd.Qr | apply Kd.Qo)); exact HO_2.out) hb)
    have n1_ := Qa.mk (Kd.Qd1 (by (with_reducible repeat (first | apply Kd.Qq | apply Kd.Qr | apply Kd.Qo)); exact HO_3.out) hb)
    have n2_ := Qa.mk (Kd.Qd1 (by (with_reducible repeat (first | apply Kd.Qq | apply Kd.Qr | apply Kd.Qo)); exact HO_189000.out) hb)
    have n3_ := Qa.mk (Kd.N_below (by (with_reducible repeat (first | apply Kd.N_alloc | apply Kd.N_drewN | apply Kd.N_drew)); exact HO_189001.out) hb)
    have n4_ := Qa.mk (Qs (g := gb188) (o := .cells #[.slice Ao16 y176.length co16, .slice Ao15 y185.length co15] 25 (0, 0)) (by (with_reducible repeat (first | refine Qd ?_ _ | refine Qb ?_ | refine Qc ?_ _)); exact BK188.out) hb)
    have n5_ := Qa.mk (Qv (by with_reducible repeat (first | exact HB.out | apply Qk | apply Ql | apply Qj | refine Qi ?_ GE188.out)) hb)
    clear HO_2
    clear HO_3
    clear HO_189000
    clear HO_189001
    clear BK188
    clear HB
    have HO_2 := n0_
    have HO_3 := n1_
    have HO_189000 := n2_
    have HO_189001 := n3_
    have BK188 := n4_
    have HB := n5_
    clear n0_ n1_ n2_ n3_ n4_ n5_
    (try clear hb; try clear hb2; try clear hk; try clear hi)
    refine hK.out _ _ ⟨HS0_, HS1_, HS2_, HS3_, HS4_, HS5_⟩ (fun hHeld => ?_)
    clear hK K
    refine norm_ (a' := ?_) ?_ ?_
    rotate_left
    ·
     show Act.put _ (some 38) _ = _
     simp only [Act.put, List.setIfInBounds_toArray, List.set_cons_zero, List.set_cons_succ, i64_w, i32_w]
     rfl
    refine pure_ (i := 10) (N := some 39) (v := ?_) (a' := ?_) QB55_11 rfl rfl (Qm HT_.out (by kernel_rfl)) (fun _ _ _ h => h) (Or.inl ⟨by rfl, ?_⟩) ?_ ?_
    rotate_left
    ·
     intro w'
     go_simp
     with_reducible rfl
    rotate_left
    ·
     simp only [Act.put, List.setIfInBounds_toArray, List.set_cons_zero, List.set_cons_succ, i64_w, i32_w]
     rfl
    refine pure_ (i := 11) (N := some 40) (v := ?_) (a' := ?_) QB55_12 rfl rfl (Qm HT_.out (by kernel_rfl)) (fun _ _ _ h => h) (Or.inl ⟨by rfl, ?_⟩) ?_ ?_
    rotate_left
    ·
     intro w'
     go_simp
     with_reducible rfl
    rotate_left
    ·
     simp only [Act.put, List.setIfInBounds_toArray, List.set_cons_zero, List.set_cons_succ, i64_w, i32_w]
     rfl
    refine pure_ (i := 12) (N := some 41) (v := ?_) (a' := ?_) QB55_13 rfl rfl (Qm HT_.out (by kernel_rfl)) (fun _ _ _ h => h) (Or.inl ⟨by rfl, ?_⟩) ?_ ?_
    rotate_left
    ·
     intro w'
     go_simp
     with_reducible rfl
    rotate_left
    ·
     simp only [Act.put, List.setIfInBounds_toArray, List.set_cons_zero, List.set_cons_succ, i64_w, i32_w]
     rfl
    refine pure_ (i := 13) (N := some 42) (v := undef) (a' := ?_) QB55_36 rfl rfl (Qm HT_.out (by kernel_rfl)) (fun _ _ _ h => h) (Or.inr ⟨by rfl, rfl⟩) ?_ ?_
    rotate_left
    ·
     simp only [Act.put, List.setIfInBounds_toArray, List.set_cons_zero, List.set_cons_succ, i64_w, i32_w]
     rfl
    refine pure_ (i := 14) (N := some 43) (v := undef) (a' := ?_) QB55_37 rfl rfl (Qm HT_.out (by kernel_rfl)) (fun _ _ _ h => h) (Or.inr ⟨by rfl, rfl⟩) ?_ ?_
    rotate_left
    ·
     simp only [Act.put, List.setIfInBounds_toArray, List.set_cons_zero, List.set_cons_succ, i64_w, i32_w]
     rfl
    refine pure_ (i := 15) (N := some 44) (v := undef) (a' := ?_) QB55_38 rfl rfl (Qm HT_.out (by kernel_rfl)) (fun _ _ _ h => h) (Or.inr ⟨by rfl, rfl⟩) ?_ ?_
    rotate_left
    ·
     simp only [Act.put, List.setIfInBounds_toArray, List.set_cons_zero, List.set_cons_succ, i64_w, i32_w]
     rfl
    refine pure_ (i := 16) (N := some 45) (v := undef) (a' := ?_) QB55_39 rfl rfl (Qm HT_.out (by kernel_rfl)) (fun _ _ _ h => h) (Or.inr ⟨by rfl, rfl⟩) ?_ ?_
    rotate_left
    ·
     simp only [Act.put, List.setIfInBounds_toArray, List.set_cons_zero, List.set_cons_succ, i64_w, i32_w]
     rfl
    refine pure_ (i := 17) (N := some 46) (v := undef) (a' := ?_) QB55_14 rfl rfl (Qm HT_.out (by kernel_rfl)) (fun _ _ _ h => h) (Or.inr ⟨by rfl, rfl⟩) ?_ ?_
    rotate_left
    ·
     simp only [Act.put, List.setIfInBounds_toArray, List.set_cons_zero, List.set_cons_succ, i64_w, i32_w]
     rfl
    refine pure_ (i := 18) (N := some 47) (v := undef) (a' := ?_) QB55_15 rfl rfl (Qm HT_.out (by kernel_rfl)) (fun _ _ _ h => h) (Or.inr ⟨by rfl, rfl⟩) ?_ ?_
    rotate_left
    ·
     simp only [Act.put, List.setIfInBounds_toArray, List.set_cons_zero, List.set_cons_succ, i64_w, i32_w]
     rfl
    refine pure_ (i := 19) (N := some 48) (v := ?_) (a' := ?_) QB55_16 rfl rfl (Qm HT_.out (by kernel_rfl)) (fun _ _ _ h => h) (Or.inl ⟨by rfl, ?_⟩) ?_ ?_
    rotate_left
    ·
     intro w'
     go_simp
     with_reducible rfl
    rotate_left
    ·
     simp only [Act.put, List.setIfInBounds_toArray, List.set_cons_zero, List.set_cons_succ, i64_w, i32_w]
     rfl
    refine pure_ (i := 20) (N := some 49) (v := ?_) (a' := ?_) QB55_17 rfl rfl (Qm HT_.out (by kernel_rfl)) (fun _ _ _ h => h) (Or.inl ⟨by rfl, ?_⟩) ?_ ?_
    rotate_left
    ·
     intro w'
     go_simp
     with_reducible rfl
    rotate_left
    ·
     simp only [Act.put, List.setIfInBounds_toArray, List.set_cons_zero, List.set_cons_succ, i64_w, i32_w]
     rfl
    refine pure_ (i := 21) (N := some 50) (v := undef) (a' := ?_) QB55_18 rfl rfl (Qm HT_.out (by kernel_rfl)) (fun _ _ _ h => h) (Or.inr ⟨by rfl, rfl⟩) ?_ ?_
    rotate_left
    ·
     simp only [Act.put, List.setIfInBounds_toArray, List.set_cons_zero, List.set_cons_succ, i64_w, i32_w]
     rfl
    refine pure_ (i := 22) (N := some 51) (v := undef) (a' := ?_) QB55_19 rfl rfl (Qm HT_.out (by kernel_rfl)) (fun _ _ _ h => h) (Or.inr ⟨by rfl, rfl⟩) ?_ ?_
    rotate_left
    ·
     simp only [Act.put, List.setIfInBounds_toArray, List.set_cons_zero, List.set_cons_succ, i64_w, i32_w]
     rfl
    refine pure_ (i := 23) (N := some 52) (v := undef) (a' := ?_) QB55_20 rfl rfl (Qm HT_.out (by kernel_rfl)) (fun _ _ _ h => h) (Or.inr ⟨by rfl, rfl⟩) ?_ ?_
    rotate_left
    ·
     simp only [Act.put, List.setIfInBounds_toArray, List.set_cons_zero, List.set_cons_succ, i64_w, i32_w]
     rfl
    refine pure_ (i := 24) (N := some 53) (v := undef) (a' := ?_) QB55_21 rfl rfl (Qm HT_.out (by kernel_rfl)) (fun _ _ _ h => h) (Or.inr ⟨by rfl, rfl⟩) ?_ ?_
    rotate_left
    ·
     simp only [Act.put, List.setIfInBounds_toArray, List.set_cons_zero, List.set_cons_succ, i64_w, i32_w]
     rfl
    refine pure_ (i := 25) (N := some 54) (v := undef) (a' := ?_) QB55_22 rfl rfl (Qm HT_.out (by kernel_rfl)) (fun _ _ _ h => h) (Or.inr ⟨by rfl, rfl⟩) ?_ ?_
    rotate_left
    ·
     simp only [Act.put, List.setIfInBounds_toArray, List.set_cons_zero, List.set_cons_succ, i64_w, i32_w]
     rfl
    refine pure_ (i := 26) (N := some 55) (v := ?_) (a' := ?_) QB55_23 rfl rfl (Qm HT_.out (by kernel_rfl)) (fun _ _ _ h => h) (Or.inl ⟨by rfl, ?_⟩) ?_ ?_
    rotate_left
    ·
     intro w'
     go_simp
     with_reducible rfl
    rotate_left
    ·
     simp only [Act.put, List.setIfInBounds_toArray, List.set_cons_zero, List.set_cons_succ, i64_w, i32_w]
     rfl
    refine pure_ (i := 27) (N := some 56) (v := ?_) (a' := ?_) QB55_24 rfl rfl (Qm HT_.out (by kernel_rfl)) (fun _ _ _ h => h) (Or.inl ⟨by rfl, ?_⟩) ?_ ?_
    rotate_left
    ·
     intro w'
     go_simp
     with_reducible rfl
    rotate_left
    ·
     simp only [Act.put, List.setIfInBounds_toArray, List.set_cons_zero, List.set_cons_succ, i64_w, i32_w]
     rfl
    refine pure_ (i := 28) (N := some 57) (v := undef) (a' := ?_) QB55_25 rfl rfl (Qm HT_.out (by kernel_rfl)) (fun _ _ _ h => h) (Or.inr ⟨by rfl, rfl⟩) ?_ ?_
    rotate_left
    ·
     simp only [Act.put, List.setIfInBounds_toArray, List.set_cons_zero, List.set_cons_succ, i64_w, i32_w]
     rfl
    refine pure_ (i := 29) (N := some 58) (v := undef) (a' := ?_) QB55_26 rfl rfl (Qm HT_.out (by kernel_rfl)) (fun _ _ _ h => h) (Or.inr ⟨by rfl, rfl⟩) ?_ ?_
    rotate_left
    ·
     simp only [Act.put, List.setIfInBounds_toArray, List.set_cons_zero, List.set_cons_succ, i64_w, i32_w]
     rfl
    refine pure_ (i := 30) (N := some 59) (v := undef) (a' := ?_) QB55_27 rfl rfl (Qm HT_.out (by kernel_rfl)) (fun _ _ _ h => h) (Or.inr ⟨by rfl, rfl⟩) ?_ ?_
    rotate_left
    ·
     simp only [Act.put, List.setIfInBounds_toArray, List.set_cons_zero, List.set_cons_succ, i64_w, i32_w]
     rfl
    refine pure_ (i := 31) (N := some 60) (v := undef) (a' := ?_) QB55_28 rfl rfl (Qm HT_.out (by kernel_rfl)) (fun _ _ _ h => h) (Or.inr ⟨by rfl, rfl⟩) ?_ ?_
    rotate_left
    ·
     simp only [Act.put, List.setIfInBounds_toArray, List.set_cons_zero, List.set_cons_succ, i64_w, i32_w]
     rfl
    refine pure_ (i := 32) (N := some 61) (v := undef) (a' := ?_) QB55_29 rfl rfl (Qm HT_.out (by kernel_rfl)) (fun _ _ _ h => h) (Or.inr ⟨by rfl, rfl⟩) ?_ ?_
    rotate_left
    ·
     simp only [Act.put, List.setIfInBounds_toArray, List.set_cons_zero, List.set_cons_succ, i64_w, i32_w]
     rfl
    refine pure_ (i := 33) (N := some 62) (v := ?_) (a' := ?_) QB55_30 rfl rfl (Qm HT_.out (by kernel_rfl)) (fun _ _ _ h => h) (Or.inl ⟨by rfl, ?_⟩) ?_ ?_
    rotate_left
    ·
     intro w'
     go_simp
     with_reducible rfl
    rotate_left
    ·
     simp only [Act.put, List.setIfInBounds_toArray, List.set_cons_zero, List.set_cons_succ, i64_w, i32_w]
     rfl
    refine pure_ (i := 34) (N := some 0) (v := ?_) (a' := ?_) QB55_31 rfl rfl (Qm HT_.out (by kernel_rfl)) (fun _ _ _ h => h) (Or.inl ⟨by rfl, ?_⟩) ?_ ?_
    rotate_left
    ·
     intro w'
     go_simp
     with_reducible rfl
    rotate_left
    ·
     simp only [Act.put, List.setIfInBounds_toArray, List.set_cons_zero, List.set_cons_succ, i64_w, i32_w]
     rfl
    refine done_ (done_of HT_.out (by kernel_rfl)) ?_
    try go_wp2
    go_ret
    exact ⟨by first | rfl | (simp [Qw, Qx] <;> rfl) | (simp [*, Qw, Qx] <;> rfl), by with_reducible repeat (first | exact HB.out | apply Qk | apply Ql | apply Qj | refine Qi ?_ GE188.out)⟩
   rw [if_pos c36] at H
   have c36b0 : (t201.toList == ([110, 101] : List UInt8)) = true := beq_iff_eq.mpr c36
   have c36b1 : (t201.toList != ([110, 101] : List UInt8)) = false := bne_eq_false_iff_eq.mpr c36
   clear c36
   replace H := Option.bind_eq_some_iff.mp H
   obtain ⟨⟨t202, t203, t204⟩, A370, H⟩ := H
   replace H : (if (t202 == ((Qg t189 4).f0) && (t203 == ((Qg t189 4).f1) && (t204 == ((Qg t189 4).f2)))) = true then (if 0 < (t195.length : Int) then ((flow_Text.f kj3 ((Qg t195 0).f0) ((Qg t195 0).f1) ((Qg t195 0).f2)).bind fun t207 => (if t207.toList = ([101, 102] : List UInt8) then (if 1 < (t195.length : Int) then ((flow_Text.f kj3 ((Qg t195 1).f0) ((Qg t195 1).f1) ((Qg t195 1).f2)).bind fun t209 => (some (t209.toList == ([45] : List UInt8)))) else (none)) else (some false))) else (none)) else (some false)) = some r := H
   have A37 := Qa.mk A370
   clear A370
   by_cases c38 : (t202 == ((Qg t189 4).f0) && (t203 == ((Qg t189 4).f1) && (t204 == ((Qg t189 4).f2)))) = true
   rotate_left
   ·
    rw [if_neg c38] at H
    have c38b0 : (t202 == ((Qg t189 4).f0) && (t203 == ((Qg t189 4).f1) && (t204 == ((Qg t189 4).f2)))) = false := by simpa using c38
    (try (have c38b1 : decide (t202 = ((Qg t189 4).f0) && (t203 == ((Qg t189 4).f1) && (t204 == ((Qg t189 4).f2)))) = false := by simpa using c38))
    (try (have c38b2 : (t202 == ((Qg t189 4).f0) && (t203 == ((Qg t189 4).f1) && (t204 == ((Qg t189 4).f2)))) = false := by simpa using c38))
    (try (have c38b3 : ¬ (t202 = ((Qg t189 4).f0) && (t203 == ((Qg t189 4).f1) && (t204 == ((Qg t189 4).f2)))) := by simpa using c38))
    clear c38
    obtain rfl := Option.some.inj H
    try go_wp2
    have n0_ := Qa.mk (Kd.Qo HO_2.out)
    have n1_ := Qa.mk (Kd.Qo HO_3.out)
    have n2_ := Qa.mk (Kd.Qo HO_189000.out)
    have n3_ := Qa.mk (Kd.N_drew HO_189001.out)
    have n4_ := Qa.mk (Qb BK188.out)
    have n5_ := Qa.mk (Qj HB.out)
    clear HO_2
    clear HO_3
    clear HO_189000
    clear HO_189001
    clear BK188
    clear HB
    have HO_2 := n0_
    have HO_3 := n1_
    have HO_189000 := n2_
    have HO_189001 := n3_
    have BK188 := n4_
    have HB := n5_
    clear n0_ n1_ n2_ n3_ n4_ n5_
    obtain ⟨Ao60, co60, eo60⟩ := Kd.R_slice HO_2.out
    (first | subst eo60 | (injection eo60 with f1_ f2_ f3_; have f4_ := f1_.symm; have f5_ := f3_.symm; clear f1_ f2_ f3_; subst f4_; subst f5_))
    have p198 : 0 ≤ (2 : Int) := (by omega)
    have q198 : 2 < (t189.length : Int) := of_decide_eq_true (by assumption)
    obtain ⟨ad198, e198, hx198_0, hx198_1, hx198_2⟩ := at_T36 (Kd.R_reads' HO_2.out).2.2 2 p198 q198
    cases e198
    (try simp only [show (2 : Int).toNat = 2 from rfl, Nat.reduceMul, Nat.reduceEqDiff, Go.Addr.add, ↓reduceIte] at hx198_0)
    (try simp only [show (2 : Int).toNat = 2 from rfl, Nat.reduceMul, Nat.reduceEqDiff, Go.Addr.add, ↓reduceIte] at hx198_1)
    (try simp only [show (2 : Int).toNat = 2 from rfl, Nat.reduceMul, Nat.reduceEqDiff, Go.Addr.add, ↓reduceIte] at hx198_2)
    have qi198 : (2 < t189.length) = True := eq_true (by omega)
    (try rw [show ((2 : Int)).toNat = 2 from rfl] at hx198_0)
    (try rw [show 2 * 3 = 6 from rfl] at hx198_0)
    (try rw [show ((2 : Int)).toNat = 2 from rfl] at hx198_1)
    (try rw [show 2 * 3 = 6 from rfl] at hx198_1)
    (try rw [show ((2 : Int)).toNat = 2 from rfl] at hx198_2)
    (try rw [show 2 * 3 = 6 from rfl] at hx198_2)
    replace p198 := eq_true p198
    replace q198 := eq_true q198
    have p200 : 0 ≤ (4 : Int) := (by omega)
    have q200 : 4 < (t189.length : Int) := of_decide_eq_true (by assumption)
    obtain ⟨ad200, e200, hx200_0, hx200_1, hx200_2⟩ := at_T36 (Kd.R_reads' HO_2.out).2.2 4 p200 q200
    obtain rfl : ad198 = ad200 := (by injection e200)
    (try simp only [show (4 : Int).toNat = 4 from rfl, Nat.reduceMul, Nat.reduceEqDiff, Go.Addr.add, ↓reduceIte] at hx200_0)
    (try simp only [show (4 : Int).toNat = 4 from rfl, Nat.reduceMul, Nat.reduceEqDiff, Go.Addr.add, ↓reduceIte] at hx200_1)
    (try simp only [show (4 : Int).toNat = 4 from rfl, Nat.reduceMul, Nat.reduceEqDiff, Go.Addr.add, ↓reduceIte] at hx200_2)
    have qi200 : (4 < t189.length) = True := eq_true (by omega)
    (try rw [show ((4 : Int)).toNat = 4 from rfl] at hx200_0)
    (try rw [show 4 * 3 = 12 from rfl] at hx200_0)
    (try rw [show ((4 : Int)).toNat = 4 from rfl] at hx200_1)
    (try rw [show 4 * 3 = 12 from rfl] at hx200_1)
    (try rw [show ((4 : Int)).toNat = 4 from rfl] at hx200_2)
    (try rw [show 4 * 3 = 12 from rfl] at hx200_2)
    replace p200 := eq_true p200
    replace q200 := eq_true q200
    have p205 : 0 ≤ (4 : Int) := (by omega)
    have q205 : 4 < (t189.length : Int) := of_decide_eq_true (by assumption)
    obtain ⟨ad205, e205, hx205_0, hx205_1, hx205_2⟩ := at_T36 (Kd.R_reads' HO_2.out).2.2 4 p205 q205
    obtain rfl : ad198 = ad205 := (by injection e205)
    (try simp only [show (4 : Int).toNat = 4 from rfl, Nat.reduceMul, Nat.reduceEqDiff, Go.Addr.add, ↓reduceIte] at hx205_0)
    (try simp only [show (4 : Int).toNat = 4 from rfl, Nat.reduceMul, Nat.reduceEqDiff, Go.Addr.add, ↓reduceIte] at hx205_1)
    (try simp only [show (4 : Int).toNat = 4 from rfl, Nat.reduceMul, Nat.reduceEqDiff, Go.Addr.add, ↓reduceIte] at hx205_2)
    have qi205 : (4 < t189.length) = True := eq_true (by omega)
    (try rw [show ((4 : Int)).toNat = 4 from rfl] at hx205_0)
    (try rw [show 4 * 3 = 12 from rfl] at hx205_0)
    (try rw [show ((4 : Int)).toNat = 4 from rfl] at hx205_1)
    (try rw [show 4 * 3 = 12 from rfl] at hx205_1)
    (try rw [show ((4 : Int)).toNat = 4 from rfl] at hx205_2)
    (try rw [show 4 * 3 = 12 from rfl] at hx205_2)
    replace p205 := eq_true p205
    replace q205 := eq_true q205
    refine start_ (n := 35) (S := fun w' => w'.cell? ⟨gb188, 0, none⟩ = some (.slice Ao16 y176.length co16) ∧ w'.cell? ⟨gb188, 1, none⟩ = some (.slice Ao15 y185.length co15) ∧ w'.cell? ⟨ad198.block, ad198.off + 6, none⟩ = some (.bool ((Qg t189 2).f0)) ∧ w'.cell? ⟨ad198.block, ad198.off + 6 + 1, none⟩ = some (.bool ((Qg t189 2).f1)) ∧ w'.cell? ⟨ad198.block, ad198.off + 6 + 2, none⟩ = some (.bool ((Qg t189 2).f2)) ∧ w'.cell? ⟨ad198.block, ad198.off + 12, none⟩ = some (.bool ((Qg t189 4).f0)) ∧ w'.cell? ⟨ad198.block, ad198.off + 12 + 1, none⟩ = some (.bool ((Qg t189 4).f1)) ∧ w'.cell? ⟨ad198.block, ad198.off + 12 + 2, none⟩ = some (.bool ((Qg t189 4).f2)) ∧ w'.cell? ⟨ad198.block, ad198.off + 12, none⟩ = some (.bool ((Qg t189 4).f0)) ∧ w'.cell? ⟨ad198.block, ad198.off + 12 + 1, none⟩ = some (.bool ((Qg t189 4).f1)) ∧ w'.cell? ⟨ad198.block, ad198.off + 12 + 2, none⟩ = some (.bool ((Qg t189 4).f2))) (ds := []) QB55_0 (by kernel_rfl) rfl rfl ⟨(Qe BK188.out 0).trans rfl, (Qe BK188.out 1).trans rfl, hx198_0, hx198_1, hx198_2, hx200_0, hx200_1, hx200_2, hx205_0, hx205_1, hx205_2⟩ (fun hHeld => ?_); refine with_tabW Qj1.tab6 Qj1.bits6 (fun HT_ HW_ => ?_)
    generalize wc.drew = w59 at HO_2 HO_3 HO_189000 HO_189001 BK188 HB hx198_0 hx198_1 hx198_2 hx200_0 hx200_1 hx200_2 hx205_0 hx205_1 hx205_2 hHeld ⊢
    refine pure_ (i := 0) (N := some 29) (v := ?_) (a' := ?_) QB55_1 rfl rfl (Qm HT_.out (by kernel_rfl)) (fun _ _ _ h => h) (Or.inl ⟨by rfl, ?_⟩) ?_ ?_
    rotate_left
    ·
     intro w'
     go_simp
     with_reducible rfl
    rotate_left
    ·
     simp only [Act.put, List.setIfInBounds_toArray, List.set_cons_zero, List.set_cons_succ, i64_w, i32_w]
     rfl
    refine pure_ (i := 1) (N := some 30) (v := ?_) (a' := ?_) QB55_2 rfl rfl (Qm HT_.out (by kernel_rfl)) (fun _ _ _ h => h) (Or.inl ⟨by rfl, ?_⟩) ?_ ?_
    rotate_left
    ·
     intro w'
     go_simp
     with_reducible rfl
    rotate_left
    ·
     simp only [Act.put, List.setIfInBounds_toArray, List.set_cons_zero, List.set_cons_succ, i64_w, i32_w]
     rfl
    refine take_ (i := 2) (N := some 31) (v := ?_) (a' := ?_) QB55_3 rfl rfl (Qm1 HT_.out HW_.out (by kernel_rfl)) (fun _ _ _ h => h) (Or.inl ⟨by rfl, ?_⟩) hHeld ?_ ?_
    rotate_left
    ·
     rintro w' ⟨s0, s1, s2, s3, s4, s5, s6, s7, s8, s9, s10⟩
     go_simp
     with_reducible rfl
    rotate_left
    ·
     simp only [Act.put, List.setIfInBounds_toArray, List.set_cons_zero, List.set_cons_succ, i64_w, i32_w]
     rfl
    refine one_ (i := 3) (N := some 32) QB55_4 rfl rfl (one_of HT_.out (by kernel_rfl)) (by decide) (fun K hK => ?_)
    refine goes_ Try.func19 (by kernel_rfl) rfl #[.agg #[.bool ((Qg t189 2).f0), .bool ((Qg t189 2).f1), .bool ((Qg t189 2).f2)]] (by rfl) rfl rfl (by (try simp only [List.map_toArray, List.map_cons, List.map_nil]); first | done | rfl | (simp only [List.length_drop, List.length_take]; rfl)) ?_
    with_reducible refine (flow_Text.calls kj3 ((Qg t189 2).f0) ((Qg t189 2).f1) ((Qg t189 2).f2) t199 _ A32.out).mono ?_
    rintro e w61 ⟨rfl, hb⟩
    have HS2_ := (hb.cell (World.block_lt_of_cell? _ _ (hHeld.2.2.1))).trans (hHeld.2.2.1)
    have HS3_ := (hb.cell (World.block_lt_of_cell? _ _ (hHeld.2.2.2.1))).trans (hHeld.2.2.2.1)
    have HS4_ := (hb.cell (World.block_lt_of_cell? _ _ (hHeld.2.2.2.2.1))).trans (hHeld.2.2.2.2.1)
    have HS5_ := (hb.cell (World.block_lt_of_cell? _ _ (hHeld.2.2.2.2.2.1))).trans (hHeld.2.2.2.2.2.1)
    have HS6_ := (hb.cell (World.block_lt_of_cell? _ _ (hHeld.2.2.2.2.2.2.1))).trans (hHeld.2.2.2.2.2.2.1)
    have HS7_ := (hb.cell (World.block_lt_of_cell? _ _ (hHeld.2.2.2.2.2.2.2.1))).trans (hHeld.2.2.2.2.2.2.2.1)
    have HS8_ := (hb.cell (World.block_lt_of_cell? _ _ (hHeld.2.2.2.2.2.2.2.2.1))).trans (hHeld.2.2.2.2.2.2.2.2.1)
    have HS9_ := (hb.cell (World.block_lt_of_cell? _ _ (hHeld.2.2.2.2.2.2.2.2.2.1))).trans (hHeld.2.2.2.2.2.2.2.2.2.1)
    have HS10_ := (hb.cell (World.block_lt_of_cell? _ _ (hHeld.2.2.2.2.2.2.2.2.2.2))).trans (hHeld.2.2.2.2.2.2.2.2.2.2)
    refine ⟨_, rfl, ?_⟩
    have n0_ := Qa.mk (Kd.Qd1 (by (with_reducible repeat (first | apply Kd.Qq | apply Kd.Qr | apply Kd.Qo)); exact HO_2.out) hb)
    have n1_ := Qa.mk (Kd.Qd1 (by (with_reducible repeat (first | apply Kd.Qq | apply Kd.Qr | apply Kd.Qo)); exact HO_3.out) hb)
    have n2_ := Qa.mk (Kd.Qd1 (by (with_reducible repeat (first | apply Kd.Qq | apply Kd.Qr | apply Kd.Qo)); exact HO_189000.out) hb)
    have n3_ := Qa.mk (Kd.N_below (by (with_reducible repeat (first | apply Kd.N_alloc | apply Kd.N_drewN | apply Kd.N_drew)); exact HO_189001.out) hb)
    have n4_ := Qa.mk (Qs (g := gb188) (o := .cells #[.slice Ao16 y176.length co16, .slice Ao15 y185.length co15] 25 (0, 0)) (by (with_reducible repeat (first | refine Qd ?_ _ | refine Qb ?_ | refine Qc ?_ _)); exact BK188.out) hb)
    have n5_ := Qa.mk (Qv (by with_reducible repeat (first | exact HB.out | apply Qk | apply Ql | apply Qj | refine Qi ?_ GE188.out)) hb)
    clear HO_2
    clear HO_3
    clear HO_189000
    clear HO_189001
    clear BK188
    clear HB
    have HO_2 := n0_
    have HO_3 := n1_
    have HO_189000 := n2_
    have HO_189001 := n3_
    have BK188 := n4_
    have HB := n5_
    clear n0_ n1_ n2_ n3_ n4_ n5_
    (try clear hb; try clear hb2; try clear hk; try clear hi)
    refine hK.out _ _ ⟨(Qe BK188.out 0).trans rfl, (Qe BK188.out 1).trans rfl, HS2_, HS3_, HS4_, HS5_, HS6_, HS7_, HS8_, HS9_, HS10_⟩ (fun hHeld => ?_)
    clear hK K
    refine norm_ (a' := ?_) ?_ ?_
    rotate_left
    ·
     show Act.put _ (some 32) _ = _
     simp only [Act.put, List.setIfInBounds_toArray, List.set_cons_zero, List.set_cons_succ, i64_w, i32_w]
     rfl
    refine pure_ (i := 4) (N := some 33) (v := ?_) (a' := ?_) QB55_5 rfl rfl (Qm HT_.out (by kernel_rfl)) (fun _ _ _ h => h) (Or.inl ⟨by rfl, ?_⟩) ?_ ?_
    rotate_left
    ·
     intro w'
     go_simp
     with_reducible rfl
    rotate_left
    ·
     simp only [Act.put, List.setIfInBounds_toArray, List.set_cons_zero, List.set_cons_succ, i64_w, i32_w]
     rfl
    refine pure_ (i := 5) (N := some 34) (v := ?_) (a' := ?_) QB55_6 rfl rfl (Qm HT_.out (by kernel_rfl)) (fun _ _ _ h => h) (Or.inl ⟨by rfl, ?_⟩) ?_ ?_
    rotate_left
    ·
     intro w'
     go_simp
     with_reducible rfl
    rotate_left
    ·
     simp only [Act.put, List.setIfInBounds_toArray, List.set_cons_zero, List.set_cons_succ, i64_w, i32_w]
     rfl
    refine pure_ (i := 6) (N := some 35) (v := ?_) (a' := ?_) QB55_7 rfl rfl (Qm HT_.out (by kernel_rfl)) (fun _ _ _ h => h) (Or.inl ⟨by rfl, ?_⟩) ?_ ?_
    rotate_left
    ·
     intro w'
     go_simp
     with_reducible rfl
    rotate_left
    ·
     simp only [Act.put, List.setIfInBounds_toArray, List.set_cons_zero, List.set_cons_succ, i64_w, i32_w]
     rfl
    refine pure_ (i := 7) (N := some 36) (v := ?_) (a' := ?_) QB55_8 rfl rfl (Qm HT_.out (by kernel_rfl)) (fun _ _ _ h => h) (Or.inl ⟨by rfl, ?_⟩) ?_ ?_
    rotate_left
    ·
     intro w'
     go_simp
     with_reducible rfl
    rotate_left
    ·
     simp only [Act.put, List.setIfInBounds_toArray, List.set_cons_zero, List.set_cons_succ, i64_w, i32_w]
     rfl
    refine take_ (i := 8) (N := some 37) (v := ?_) (a' := ?_) QB55_9 rfl rfl (Qm1 HT_.out HW_.out (by kernel_rfl)) (fun _ _ _ h => h) (Or.inl ⟨by rfl, ?_⟩) hHeld ?_ ?_
    rotate_left
    ·
     rintro w' ⟨s0, s1, s2, s3, s4, s5, s6, s7, s8, s9, s10⟩
     go_simp
     with_reducible rfl
    rotate_left
    ·
     simp only [Act.put, List.setIfInBounds_toArray, List.set_cons_zero, List.set_cons_succ, i64_w, i32_w]
     rfl
    refine one_ (i := 9) (N := some 38) QB55_10 rfl rfl (one_of HT_.out (by kernel_rfl)) (by decide) (fun K hK => ?_)
    refine goes_ Try.func19 (by kernel_rfl) rfl #[.agg #[.bool ((Qg t189 4).f0), .bool ((Qg t189 4).f1), .bool ((Qg t189 4).f2)]] (by rfl) rfl rfl (by (try simp only [List.map_toArray, List.map_cons, List.map_nil]); first | done | rfl | (simp only [List.length_drop, List.length_take]; rfl)) ?_
    with_reducible refine (flow_Text.calls kj3 ((Qg t189 4).f0) ((Qg t189 4).f1) ((Qg t189 4).f2) t201 _ A35.out).mono ?_
    rintro e w62 ⟨rfl, hb⟩
    have HS2_ := (hb.cell (World.block_lt_of_cell? _ _ (hHeld.2.2.1))).trans (hHeld.2.2.1)
    have HS3_ := (hb.cell (World.block_lt_of_cell? _ _ (hHeld.2.2.2.1))).trans (hHeld.2.2.2.1)
    have HS4_ := (hb.cell (World.block_lt_of_cell? _ _ (hHeld.2.2.2.2.1))).trans (hHeld.2.2.2.2.1)
    have HS5_ := (hb.cell (World.block_lt_of_cell? _ _ (hHeld.2.2.2.2.2.1))).trans (hHeld.2.2.2.2.2.1)
    have HS6_ := (hb.cell (World.block_lt_of_cell? _ _ (hHeld.2.2.2.2.2.2.1))).trans (hHeld.2.2.2.2.2.2.1)
    have HS7_ := (hb.cell (World.block_lt_of_cell? _ _ (hHeld.2.2.2.2.2.2.2.1))).trans (hHeld.2.2.2.2.2.2.2.1)
    have HS8_ := (hb.cell (World.block_lt_of_cell? _ _ (hHeld.2.2.2.2.2.2.2.2.1))).trans (hHeld.2.2.2.2.2.2.2.2.1)
    have HS9_ := (hb.cell (World.block_lt_of_cell? _ _ (hHeld.2.2.2.2.2.2.2.2.2.1))).trans (hHeld.2.2.2.2.2.2.2.2.2.1)
    have HS10_ := (hb.cell (World.block_lt_of_cell? _ _ (hHeld.2.2.2.2.2.2.2.2.2.2))).trans (hHeld.2.2.2.2.2.2.2.2.2.2)
    refine ⟨_, rfl, ?_⟩
    have n0_ := Qa.mk (Kd.Qd1 (by (with_reducible repeat (first | apply Kd.Qq | apply Kd.Qr | apply Kd.Qo)); exact HO_2.out) hb)
    have n1_ := Qa.mk (Kd.Qd1 (by (with_reducible repeat (first | apply Kd.Qq | apply Kd.Qr | apply Kd.Qo)); exact HO_3.out) hb)
    have n2_ := Qa.mk (Kd.Qd1 (by (with_reducible repeat (first | apply Kd.Qq | apply Kd.Qr | apply Kd.Qo)); exact HO_189000.out) hb)
    have n3_ := Qa.mk (Kd.N_below (by (with_reducible repeat (first | apply Kd.N_alloc | apply Kd.N_drewN | apply Kd.N_drew)); exact HO_189001.out) hb)
    have n4_ := Qa.mk (Qs (g := gb188) (o := .cells #[.slice Ao16 y176.length co16, .slice Ao15 y185.length co15] 25 (0, 0)) (by (with_reducible repeat (first | refine Qd ?_ _ | refine Qb ?_ | refine Qc ?_ _)); exact BK188.out) hb)
    have n5_ := Qa.mk (Qv (by with_reducible repeat (first | exact HB.out | apply Qk | apply Ql | apply Qj | refine Qi ?_ GE188.out)) hb)
    clear HO_2
    clear HO_3
    clear HO_189000
    clear HO_189001
    clear BK188
    clear HB
    have HO_2 := n0_
    have HO_3 := n1_
    have HO_189000 := n2_
    have HO_189001 := n3_
    have BK188 := n4_
    have HB := n5_
    clear n0_ n1_ n2_ n3_ n4_ n5_
    (try clear hb; try clear hb2; try clear hk; try clear hi)
    refine hK.out _ _ ⟨(Qe BK188.out 0).trans rfl, (Qe BK188.out 1).trans rfl, HS2_, HS3_, HS4_, HS5_, HS6_, HS7_, HS8_, HS9_, HS10_⟩ (fun hHeld => ?_)
    clear hK K
    refine norm_ (a' := ?_) ?_ ?_
    rotate_left
    ·
     show Act.put _ (some 38) _ = _
     simp only [Act.put, List.setIfInBounds_toArray, List.set_cons_zero, List.set_cons_succ, i64_w, i32_w]
     rfl
    refine pure_ (i := 10) (N := some 39) (v := ?_) (a' := ?_) QB55_11 rfl rfl (Qm HT_.out (by kernel_rfl)) (fun _ _ _ h => h) (Or.inl ⟨by rfl, ?_⟩) ?_ ?_
    rotate_left
    ·
     intro w'
     go_simp
     with_reducible rfl
    rotate_left
    ·
     simp only [Act.put, List.setIfInBounds_toArray, List.set_cons_zero, List.set_cons_succ, i64_w, i32_w]
     rfl
    refine pure_ (i := 11) (N := some 40) (v := ?_) (a' := ?_) QB55_12 rfl rfl (Qm HT_.out (by kernel_rfl)) (fun _ _ _ h => h) (Or.inl ⟨by rfl, ?_⟩) ?_ ?_
    rotate_left
    ·
     intro w'
     go_simp
     with_reducible rfl
    rotate_left
    ·
     simp only [Act.put, List.setIfInBounds_toArray, List.set_cons_zero, List.set_cons_succ, i64_w, i32_w]
     rfl
    refine pure_ (i := 12) (N := some 41) (v := ?_) (a' := ?_) QB55_13 rfl rfl (Qm HT_.out (by kernel_rfl)) (fun _ _ _ h => h) (Or.inl ⟨by rfl, ?_⟩) ?_ ?_
    rotate_left
    ·
     intro w'
     go_simp
     with_reducible rfl
    rotate_left
    ·
     simp only [Act.put, List.setIfInBounds_toArray, List.set_cons_zero, List.set_cons_succ, i64_w, i32_w]
     rfl
    refine pure_ (i := 15) (N := some 44) (v := ?_) (a' := ?_) QB55_32 rfl rfl (Qm HT_.out (by kernel_rfl)) (fun _ _ _ h => h) (Or.inl ⟨by rfl, ?_⟩) ?_ ?_
    rotate_left
    ·
     intro w'
     go_simp
     with_reducible rfl
    rotate_left
    ·
     simp only [Act.put, List.setIfInBounds_toArray, List.set_cons_zero, List.set_cons_succ, i64_w, i32_w]
     rfl
    refine pure_ (i := 16) (N := some 45) (v := ?_) (a' := ?_) QB55_33 rfl rfl (Qm HT_.out (by kernel_rfl)) (fun _ _ _ h => h) (Or.inl ⟨by rfl, ?_⟩) ?_ ?_
    rotate_left
    ·
     intro w'
     go_simp
     with_reducible rfl
    rotate_left
    ·
     simp only [Act.put, List.setIfInBounds_toArray, List.set_cons_zero, List.set_cons_succ, i64_w, i32_w]
     rfl
    refine take_ (i := 13) (N := some 42) (v := ?_) (a' := ?_) QB55_34 rfl rfl (Qm1 HT_.out HW_.out (by kernel_rfl)) (fun _ _ _ h => h) (Or.inl ⟨by rfl, ?_⟩) hHeld ?_ ?_
    rotate_left
    ·
     rintro w' ⟨s0, s1, s2, s3, s4, s5, s6, s7, s8, s9, s10⟩
     go_simp
     with_reducible rfl
    rotate_left
    ·
     simp only [Act.put, List.setIfInBounds_toArray, List.set_cons_zero, List.set_cons_succ, i64_w, i32_w]
     rfl
    refine take_ (i := 17) (N := some 46) (v := ?_) (a' := ?_) QB55_35 rfl rfl (Qm1 HT_.out HW_.out (by kernel_rfl)) (fun _ _ _ h => h) (Or.inl ⟨by rfl, ?_⟩) hHeld ?_ ?_
    rotate_left
    ·
     rintro w' ⟨s0, s1, s2, s3, s4, s5, s6, s7, s8, s9, s10⟩
     go_simp
     with_reducible rfl
    rotate_left
    ·
     simp only [Act.put, List.setIfInBounds_toArray, List.set_cons_zero, List.set_cons_succ, i64_w, i32_w]
     rfl
    refine one_ (i := 14) (N := some 43) QB55_14 rfl rfl (one_of HT_.out (by kernel_rfl)) (by decide) (fun K hK => ?_)
    refine goes_ Try.func14 (by kernel_rfl) rfl #[.agg #[.slice Ao16 y176.length co16, .slice Ao15 y185.length co15], .int .i64 0] (by rfl) rfl rfl (by (try simp only [List.map_toArray, List.map_cons, List.map_nil]); first | done | rfl | (simp only [List.length_drop, List.length_take]; rfl)) ?_
    with_reducible refine (flow_Rule.calls kj3 _ _ y176 _ _ y185 0 t202 t203 t204 _ ?side1 ?side2 ?side3 ?side4 A37.out).mono ?_
    (case side1 => repeat (first | exact (Kd.R_reads' HO_189000.out).2.2 | (with_reducible refine Kd.Qf1 ?_ _) | (with_reducible refine Kd.Qe1 ?_ _) | (with_reducible refine Kd.C_drew ?_)))
    (case side2 => exact (Kd.R_reads' HO_189000.out).2.1)
    (case side3 => repeat (first | exact (Kd.N_reads' HO_189001.out).2.2 | (with_reducible refine Kd.Qf1 ?_ _) | (with_reducible refine Kd.Qe1 ?_ _) | (with_reducible refine Kd.C_drew ?_)))
    (case side4 => exact (Kd.N_reads' HO_189001.out).2.1)
    rintro e w63 ⟨rfl, hb⟩
    have HS2_ := (hb.cell (World.block_lt_of_cell? _ _ (hHeld.2.2.1))).trans (hHeld.2.2.1)
    have HS3_ := (hb.cell (World.block_lt_of_cell? _ _ (hHeld.2.2.2.1))).trans (hHeld.2.2.2.1)
    have HS4_ := (hb.cell (World.block_lt_of_cell? _ _ (hHeld.2.2.2.2.1))).trans (hHeld.2.2.2.2.1)
    have HS5_ := (hb.cell (World.block_lt_of_cell? _ _ (hHeld.2.2.2.2.2.1))).trans (hHeld.2.2.2.2.2.1)
    have HS6_ := (hb.cell (World.block_lt_of_cell? _ _ (hHeld.2.2.2.2.2.2.1))).trans (hHeld.2.2.2.2.2.2.1)
    have HS7_ := (hb.cell (World.block_lt_of_cell? _ _ (hHeld.2.2.2.2.2.2.2.1))).trans (hHeld.2.2.2.2.2.2.2.1)
    have HS8_ := (hb.cell (World.block_lt_of_cell? _ _ (hHeld.2.2.2.2.2.2.2.2.1))).trans (hHeld.2.2.2.2.2.2.2.2.1)
    have HS9_ := (hb.cell (World.block_lt_of_cell? _ _ (hHeld.2.2.2.2.2.2.2.2.2.1))).trans (hHeld.2.2.2.2.2.2.2.2.2.1)
    have HS10_ := (hb.cell (World.block_lt_of_cell? _ _ (hHeld.2.2.2.2.2.2.2.2.2.2))).trans (hHeld.2.2.2.2.2.2.2.2.2.2)
    refine ⟨_, rfl, ?_⟩
    have n0_ := Qa.mk (Kd.Qd1 (by (with_reducible repeat (first | apply Kd.Qq | apply Kd.Qr | apply Kd.Qo)); exact HO_2.out) hb)
    have n1_ := Qa.mk (Kd.Qd1 (by (with_reducible repeat (first | apply Kd.Qq | apply Kd.Qr | apply Kd.Qo)); exact HO_3.out) hb)
    have n2_ := Qa.mk (Kd.Qd1 (by (with_reducible repeat (first | apply Kd.Qq | apply Kd.Qr | apply Kd.Qo)); exact HO_189000.out) hb)
    have n3_ := Qa.mk (Kd.N_below (by (with_reducible repeat (first | apply Kd.N_alloc | apply Kd.N_drewN | apply Kd.N_drew)); exact HO_189001.out) hb)
    have n4_ := Qa.mk (Qs (g := gb188) (o := .cells #[.slice Ao16 y176.length co16, .slice Ao15 y185.length co15] 25 (0, 0)) (by (with_reducible repeat (first | refine Qd ?_ _ | refine Qb ?_ | refine Qc ?_ _)); exact BK188.out) hb)
    have n5_ := Qa.mk (Qv (by with_reducible repeat (first | exact HB.out | apply Qk | apply Ql | apply Qj | refine Qi ?_ GE188.out)) hb)
    clear HO_2
    clear HO_3
    clear HO_189000
    clear HO_189001
    clear BK188
    clear HB
    have HO_2 := n0_
    have HO_3 := n1_
    have HO_189000 := n2_
    have HO_189001 := n3_
    have BK188 := n4_
    have HB := n5_
    clear n0_ n1_ n2_ n3_ n4_ n5_
    (try clear hb; try clear hb2; try clear hk; try clear hi)
    refine hK.out _ _ ⟨(Qe BK188.out 0).trans rfl, (Qe BK188.out 1).trans rfl, HS2_, HS3_, HS4_, HS5_, HS6_, HS7_, HS8_, HS9_, HS10_⟩ (fun hHeld => ?_)
    clear hK K
    refine norm_ (a' := ?_) ?_ ?_
    rotate_left
    ·
     show Act.put _ (some 43) _ = _
     simp only [Act.put, List.setIfInBounds_toArray, List.set_cons_zero, List.set_cons_succ, i64_w, i32_w]
     rfl
    refine pure_ (i := 18) (N := some 47) (v := ?_) (a' := ?_) QB55_15 rfl rfl (Qm HT_.out (by kernel_rfl)) (fun _ _ _ h => h) (Or.inl ⟨by rfl, ?_⟩) ?_ ?_
    rotate_left
    ·
     intro w'
     go_simp
     with_reducible rfl
    rotate_left
    ·
     simp only [Act.put, List.setIfInBounds_toArray, List.set_cons_zero, List.set_cons_succ, i64_w, i32_w]
     rfl
    refine pure_ (i := 19) (N := some 48) (v := ?_) (a' := ?_) QB55_16 rfl rfl (Qm HT_.out (by kernel_rfl)) (fun _ _ _ h => h) (Or.inl ⟨by rfl, ?_⟩) ?_ ?_
    rotate_left
    ·
     intro w'
     go_simp
     with_reducible rfl
    rotate_left
    ·
     simp only [Act.put, List.setIfInBounds_toArray, List.set_cons_zero, List.set_cons_succ, i64_w, i32_w]
     rfl
    refine pure_ (i := 20) (N := some 49) (v := ?_) (a' := ?_) QB55_17 rfl rfl (Qm HT_.out (by kernel_rfl)) (fun _ _ _ h => h) (Or.inl ⟨by rfl, ?_⟩) ?_ ?_
    rotate_left
    ·
     intro w'
     go_simp
     with_reducible rfl
    rotate_left
    ·
     simp only [Act.put, List.setIfInBounds_toArray, List.set_cons_zero, List.set_cons_succ, i64_w, i32_w]
     rfl
    refine pure_ (i := 21) (N := some 50) (v := undef) (a' := ?_) QB55_18 rfl rfl (Qm HT_.out (by kernel_rfl)) (fun _ _ _ h => h) (Or.inr ⟨by rfl, rfl⟩) ?_ ?_
    rotate_left
    ·
     simp only [Act.put, List.setIfInBounds_toArray, List.set_cons_zero, List.set_cons_succ, i64_w, i32_w]
     rfl
    refine pure_ (i := 22) (N := some 51) (v := undef) (a' := ?_) QB55_19 rfl rfl (Qm HT_.out (by kernel_rfl)) (fun _ _ _ h => h) (Or.inr ⟨by rfl, rfl⟩) ?_ ?_
    rotate_left
    ·
     simp only [Act.put, List.setIfInBounds_toArray, List.set_cons_zero, List.set_cons_succ, i64_w, i32_w]
     rfl
    refine pure_ (i := 23) (N := some 52) (v := undef) (a' := ?_) QB55_20 rfl rfl (Qm HT_.out (by kernel_rfl)) (fun _ _ _ h => h) (Or.inr ⟨by rfl, rfl⟩) ?_ ?_
    rotate_left
    ·
     simp only [Act.put, List.setIfInBounds_toArray, List.set_cons_zero, List.set_cons_succ, i64_w, i32_w]
     rfl
    refine pure_ (i := 24) (N := some 53) (v := undef) (a' := ?_) QB55_21 rfl rfl (Qm HT_.out (by kernel_rfl)) (fun _ _ _ h => h) (Or.inr ⟨by rfl, rfl⟩) ?_ ?_
    rotate_left
    ·
     simp only [Act.put, List.setIfInBounds_toArray, List.set_cons_zero, List.set_cons_succ, i64_w, i32_w]
     rfl
    refine pure_ (i := 25) (N := some 54) (v := undef) (a' := ?_) QB55_22 rfl rfl (Qm HT_.out (by kernel_rfl)) (fun _ _ _ h => h) (Or.inr ⟨by rfl, rfl⟩) ?_ ?_
    rotate_left
    ·
     simp only [Act.put, List.setIfInBounds_toArray, List.set_cons_zero, List.set_cons_succ, i64_w, i32_w]
     rfl
    refine pure_ (i := 26) (N := some 55) (v := ?_) (a' := ?_) QB55_23 rfl rfl (Qm HT_.out (by kernel_rfl)) (fun _ _ _ h => h) (Or.inl ⟨by rfl, ?_⟩) ?_ ?_
    rotate_left
    ·
     intro w'
     go_simp
     with_reducible rfl
    rotate_left
    ·
     simp only [Act.put, List.setIfInBounds_toArray, List.set_cons_zero, List.set_cons_succ, i64_w, i32_w]
     rfl
    refine pure_ (i := 27) (N := some 56) (v := ?_) (a' := ?_) QB55_24 rfl rfl (Qm HT_.out (by kernel_rfl)) (fun _ _ _ h => h) (Or.inl ⟨by rfl, ?_⟩) ?_ ?_
    rotate_left
    ·
     intro w'
     go_simp
     with_reducible rfl
    rotate_left
    ·
     simp only [Act.put, List.setIfInBounds_toArray, List.set_cons_zero, List.set_cons_succ, i64_w, i32_w]
     rfl
    refine pure_ (i := 28) (N := some 57) (v := undef) (a' := ?_) QB55_25 rfl rfl (Qm HT_.out (by kernel_rfl)) (fun _ _ _ h => h) (Or.inr ⟨by rfl, rfl⟩) ?_ ?_
    rotate_left
    ·
     simp only [Act.put, List.setIfInBounds_toArray, List.set_cons_zero, List.set_cons_succ, i64_w, i32_w]
     rfl
    refine pure_ (i := 29) (N := some 58) (v := undef) (a' := ?_) QB55_26 rfl rfl (Qm HT_.out (by kernel_rfl)) (fun _ _ _ h => h) (Or.inr ⟨by rfl, rfl⟩) ?_ ?_
    rotate_left
    ·
     simp only [Act.put, List.setIfInBounds_toArray, List.set_cons_zero, List.set_cons_succ, i64_w, i32_w]
     rfl
    refine pure_ (i := 30) (N := some 59) (v := undef) (a' := ?_) QB55_27 rfl rfl (Qm HT_.out (by kernel_rfl)) (fun _ _ _ h => h) (Or.inr ⟨by rfl, rfl⟩) ?_ ?_
    rotate_left
    ·
     simp only [Act.put, List.setIfInBounds_toArray, List.set_cons_zero, List.set_cons_succ, i64_w, i32_w]
     rfl
    refine pure_ (i := 31) (N := some 60) (v := undef) (a' := ?_) QB55_28 rfl rfl (Qm HT_.out (by kernel_rfl)) (fun _ _ _ h => h) (Or.inr ⟨by rfl, rfl⟩) ?_ ?_
    rotate_left
    ·
     simp only [Act.put, List.setIfInBounds_toArray, List.set_cons_zero, List.set_cons_succ, i64_w, i32_w]
     rfl
    refine pure_ (i := 32) (N := some 61) (v := undef) (a' := ?_) QB55_29 rfl rfl (Qm HT_.out (by kernel_rfl)) (fun _ _ _ h => h) (Or.inr ⟨by rfl, rfl⟩) ?_ ?_
    rotate_left
    ·
     simp only [Act.put, List.setIfInBounds_toArray, List.set_cons_zero, List.set_cons_succ, i64_w, i32_w]
     rfl
    refine pure_ (i := 33) (N := some 62) (v := ?_) (a' := ?_) QB55_30 rfl rfl (Qm HT_.out (by kernel_rfl)) (fun _ _ _ h => h) (Or.inl ⟨by rfl, ?_⟩) ?_ ?_
    rotate_left
    ·
     intro w'
     go_simp
     with_reducible rfl
    rotate_left
    ·
     simp only [Act.put, List.setIfInBounds_toArray, List.set_cons_zero, List.set_cons_succ, i64_w, i32_w]
     rfl
    refine pure_ (i := 34) (N := some 0) (v := ?_) (a' := ?_) QB55_31 rfl rfl (Qm HT_.out (by kernel_rfl)) (fun _ _ _ h => h) (Or.inl ⟨by rfl, ?_⟩) ?_ ?_
    rotate_left
    ·
     intro w'
     go_simp
     with_reducible rfl
    rotate_left
    ·
     simp only [Act.put, List.setIfInBounds_toArray, List.set_cons_zero, List.set_cons_succ, i64_w, i32_w]
     rfl
    refine done_ (done_of HT_.out (by kernel_rfl)) ?_
    try go_wp2
    go_ret
    exact ⟨by first | rfl | (simp [Qw, Qx] <;> rfl) | (simp [*, Qw, Qx] <;> rfl), by with_reducible repeat (first | exact HB.out | apply Qk | apply Ql | apply Qj | refine Qi ?_ GE188.out)⟩
   rw [if_pos c38] at H
   have c38b0 : (t202 == ((Qg t189 4).f0) && (t203 == ((Qg t189 4).f1) && (t204 == ((Qg t189 4).f2)))) = true := c38
   (try (have c38b1 : decide (t202 = ((Qg t189 4).f0) && (t203 == ((Qg t189 4).f1) && (t204 == ((Qg t189 4).f2)))) = true := by simpa using c38))
   (try (have c38b2 : (t202 == ((Qg t189 4).f0) && (t203 == ((Qg t189 4).f1) && (t204 == ((Qg t189 4).f2)))) = true := by simpa using c38))
   clear c38
   by_cases c39 : 0 < (t195.length : Int)
   rotate_left
   ·
    rw [if_neg c39] at H
    exact absurd H (by simp)
   rw [if_pos c39] at H
   have c39b0 : decide (0 < (t195.length : Int)) = true := decide_eq_true c39
   have c39b1 : decide (0 < t195.length) = true := decide_eq_true (by omega)
   clear c39
   replace H := Option.bind_eq_some_iff.mp H
   obtain ⟨t207, A400, H⟩ := H
   replace H : (if t207.toList = ([101, 102] : List UInt8) then (if 1 < (t195.length : Int) then ((flow_Text.f kj3 ((Qg t195 1).f0) ((Qg t195 1).f1) ((Qg t195 1).f2)).bind fun t209 => (some (t209.toList == ([45] : List UInt8)))) else (none)) else (some false)) = some r := H
   have A40 := Qa.mk A400
   clear A400
   by_cases c41 : t207.toList = ([101, 102] : List UInt8)
   ·
    rw [if_pos c41] at H
    have c41b0 : (t207.toList == ([101, 102] : List UInt8)) = true := beq_iff_eq.mpr c41
    have c41b1 : (t207.toList != ([101, 102] : List UInt8)) = false := bne_eq_false_iff_eq.mpr c41
    clear c41
    by_cases c42 : 1 < (t195.length : Int)
    rotate_left
    ·
     rw [if_neg c42] at H
     exact absurd H (by simp)
    rw [if_pos c42] at H
    have c42b0 : decide (1 < (t195.length : Int)) = true := decide_eq_true c42
    have c42b1 : decide (1 < t195.length) = true := decide_eq_true (by omega)
    clear c42
    replace H := Option.bind_eq_some_iff.mp H
    obtain ⟨t209, A430, H⟩ := H
    replace H : (some (t209.toList == ([45] : List UInt8))) = some r := H
    have A43 := Qa.mk A430
    clear A430
    obtain rfl := Option.some.inj H
    try go_wp2
    have n0_ := Qa.mk (Kd.Qo HO_2.out)
    have n1_ := Qa.mk (Kd.Qo HO_3.out)
    have n2_ := Qa.mk (Kd.Qo HO_189000.out)
    have n3_ := Qa.mk (Kd.N_drew HO_189001.out)
    have n4_ := Qa.mk (Qb BK188.out)
    have n5_ := Qa.mk (Qj HB.out)
    clear HO_2
    clear HO_3
    clear HO_189000
    clear HO_189001
    clear BK188
    clear HB
    have HO_2 := n0_
    have HO_3 := n1_
    have HO_189000 := n2_
    have HO_189001 := n3_
    have BK188 := n4_
    have HB := n5_
    clear n0_ n1_ n2_ n3_ n4_ n5_
    obtain ⟨Ao45, co45, eo45⟩ := Kd.R_slice HO_2.out
    (first | subst eo45 | (injection eo45 with f1_ f2_ f3_; have f4_ := f1_.symm; have f5_ := f3_.symm; clear f1_ f2_ f3_; subst f4_; subst f5_))
    have p198 : 0 ≤ (2 : Int) := (by omega)
    have q198 : 2 < (t189.length : Int) := of_decide_eq_true (by assumption)
    obtain ⟨ad198, e198, hx198_0, hx198_1, hx198_2⟩ := at_T36 (Kd.R_reads' HO_2.out).2.2 2 p198 q198
    cases e198
    (try simp only [show (2 : Int).toNat = 2 from rfl, Nat.reduceMul, Nat.reduceEqDiff, Go.Addr.add, ↓reduceIte] at hx198_0)
    (try simp only [show (2 : Int).toNat = 2 from rfl, Nat.reduceMul, Nat.reduceEqDiff, Go.Addr.add, ↓reduceIte] at hx198_1)
    (try simp only [show (2 : Int).toNat = 2 from rfl, Nat.reduceMul, Nat.reduceEqDiff, Go.Addr.add, ↓reduceIte] at hx198_2)
    have qi198 : (2 < t189.length) = True := eq_true (by omega)
    (try rw [show ((2 : Int)).toNat = 2 from rfl] at hx198_0)
    (try rw [show 2 * 3 = 6 from rfl] at hx198_0)
    (try rw [show ((2 : Int)).toNat = 2 from rfl] at hx198_1)
    (try rw [show 2 * 3 = 6 from rfl] at hx198_1)
    (try rw [show ((2 : Int)).toNat = 2 from rfl] at hx198_2)
    (try rw [show 2 * 3 = 6 from rfl] at hx198_2)
    replace p198 := eq_true p198
    replace q198 := eq_true q198
    have p200 : 0 ≤ (4 : Int) := (by omega)
    have q200 : 4 < (t189.length : Int) := of_decide_eq_true (by assumption)
    obtain ⟨ad200, e200, hx200_0, hx200_1, hx200_2⟩ := at_T36 (Kd.R_reads' HO_2.out).2.2 4 p200 q200
    obtain rfl : ad198 = ad200 := (by injection e200)
    (try simp only [show (4 : Int).toNat = 4 from rfl, Nat.reduceMul, Nat.reduceEqDiff, Go.Addr.add, ↓reduceIte] at hx200_0)
    (try simp only [show (4 : Int).toNat = 4 from rfl, Nat.reduceMul, Nat.reduceEqDiff, Go.Addr.add, ↓reduceIte] at hx200_1)
    (try simp only [show (4 : Int).toNat = 4 from rfl, Nat.reduceMul, Nat.reduceEqDiff, Go.Addr.add, ↓reduceIte] at hx200_2)
    have qi200 : (4 < t189.length) = True := eq_true (by omega)
    (try rw [show ((4 : Int)).toNat = 4 from rfl] at hx200_0)
    (try rw [show 4 * 3 = 12 from rfl] at hx200_0)
    (try rw [show ((4 : Int)).toNat = 4 from rfl] at hx200_1)
    (try rw [show 4 * 3 = 12 from rfl] at hx200_1)
    (try rw [show ((4 : Int)).toNat = 4 from rfl] at hx200_2)
    (try rw [show 4 * 3 = 12 from rfl] at hx200_2)
    replace p200 := eq_true p200
    replace q200 := eq_true q200
    have p205 : 0 ≤ (4 : Int) := (by omega)
    have q205 : 4 < (t189.length : Int) := of_decide_eq_true (by assumption)
    obtain ⟨ad205, e205, hx205_0, hx205_1, hx205_2⟩ := at_T36 (Kd.R_reads' HO_2.out).2.2 4 p205 q205
    obtain rfl : ad198 = ad205 := (by injection e205)
    (try simp only [show (4 : Int).toNat = 4 from rfl, Nat.reduceMul, Nat.reduceEqDiff, Go.Addr.add, ↓reduceIte] at hx205_0)
    (try simp only [show (4 : Int).toNat = 4 from rfl, Nat.reduceMul, Nat.reduceEqDiff, Go.Addr.add, ↓reduceIte] at hx205_1)
    (try simp only [show (4 : Int).toNat = 4 from rfl, Nat.reduceMul, Nat.reduceEqDiff, Go.Addr.add, ↓reduceIte] at hx205_2)
    have qi205 : (4 < t189.length) = True := eq_true (by omega)
    (try rw [show ((4 : Int)).toNat = 4 from rfl] at hx205_0)
    (try rw [show 4 * 3 = 12 from rfl] at hx205_0)
    (try rw [show ((4 : Int)).toNat = 4 from rfl] at hx205_1)
    (try rw [show 4 * 3 = 12 from rfl] at hx205_1)
    (try rw [show ((4 : Int)).toNat = 4 from rfl] at hx205_2)
    (try rw [show 4 * 3 = 12 from rfl] at hx205_2)
    replace p205 := eq_true p205
    replace q205 := eq_true q205
    (obtain ⟨Ao_, co_, eo_⟩ := Kd.R_slice HO_3.out; first | subst eo_ | skip)
    have p206 : 0 ≤ (0 : Int) := (by omega)
    have q206 : 0 < (t195.length : Int) := of_decide_eq_true (by assumption)
    obtain ⟨ad206, e206, hx206_0, hx206_1, hx206_2⟩ := at_T36 (Kd.R_reads' HO_3.out).2.2 0 p206 q206
    cases e206
    have qi206 : (0 < t195.length) = True := eq_true (by omega)
    (try rw [show ((0 : Int)).toNat = 0 from rfl] at hx206_0)
    (try rw [show 0 * 3 = 0 from rfl] at hx206_0)
    (try rw [Addr.add_zero'] at hx206_0)
    (try rw [show ((0 : Int)).toNat = 0 from rfl] at hx206_1)
    (try rw [show 0 * 3 = 0 from rfl] at hx206_1)
    (try rw [Addr.add_zero'] at hx206_1)
    (try rw [show ((0 : Int)).toNat = 0 from rfl] at hx206_2)
    (try rw [show 0 * 3 = 0 from rfl] at hx206_2)
    (try rw [Addr.add_zero'] at hx206_2)
    replace p206 := eq_true p206
    replace q206 := eq_true q206
    have p208 : 0 ≤ (1 : Int) := (by omega)
    have q208 : 1 < (t195.length : Int) := of_decide_eq_true (by assumption)
    obtain ⟨ad208, e208, hx208_0, hx208_1, hx208_2⟩ := at_T36 (Kd.R_reads' HO_3.out).2.2 1 p208 q208
    obtain rfl : ad206 = ad208 := (by injection e208)
    (try simp only [show (1 : Int).toNat = 1 from rfl, Nat.reduceMul, Nat.reduceEqDiff, Go.Addr.add, ↓reduceIte] at hx208_0)
    (try simp only [show (1 : Int).toNat = 1 from rfl, Nat.reduceMul, Nat.reduceEqDiff, Go.Addr.add, ↓reduceIte] at hx208_1)
    (try simp only [show (1 : Int).toNat = 1 from rfl, Nat.reduceMul, Nat.reduceEqDiff, Go.Addr.add, ↓reduceIte] at hx208_2)
    have qi208 : (1 < t195.length) = True := eq_true (by omega)
    (try rw [show ((1 : Int)).toNat = 1 from rfl] at hx208_0)
    (try rw [show 1 * 3 = 3 from rfl] at hx208_0)
    (try rw [show ((1 : Int)).toNat = 1 from rfl] at hx208_1)
    (try rw [show 1 * 3 = 3 from rfl] at hx208_1)
    (try rw [show ((1 : Int)).toNat = 1 from rfl] at hx208_2)
    (try rw [show 1 * 3 = 3 from rfl] at hx208_2)
    replace p208 := eq_true p208
    replace q208 := eq_true q208
    refine start_ (n := 35) (S := fun w' => w'.cell? ⟨gb188, 0, none⟩ = some (.slice Ao16 y176.length co16) ∧ w'.cell? ⟨gb188, 1, none⟩ = some (.slice Ao15 y185.length co15) ∧ w'.cell? ⟨ad198.block, ad198.off + 6, none⟩ = some (.bool ((Qg t189 2).f0)) ∧ w'.cell? ⟨ad198.block, ad198.off + 6 + 1, none⟩ = some (.bool ((Qg t189 2).f1)) ∧ w'.cell? ⟨ad198.block, ad198.off + 6 + 2, none⟩ = some (.bool ((Qg t189 2).f2)) ∧ w'.cell? ⟨ad198.block, ad198.off + 12, none⟩ = some (.bool ((Qg t189 4).f0)) ∧ w'.cell? ⟨ad198.block, ad198.off + 12 + 1, none⟩ = some (.bool ((Qg t189 4).f1)) ∧ w'.cell? ⟨ad198.block, ad198.off + 12 + 2, none⟩ = some (.bool ((Qg t189 4).f2)) ∧ w'.cell? ⟨ad198.block, ad198.off + 12, none⟩ = some (.bool ((Qg t189 4).f0)) ∧ w'.cell? ⟨ad198.block, ad198.off + 12 + 1, none⟩ = some (.bool ((Qg t189 4).f1)) ∧ w'.cell? ⟨ad198.block, ad198.off + 12 + 2, none⟩ = some (.bool ((Qg t189 4).f2)) ∧ w'.cell? ad206 = some (.bool ((Qg t195 0).f0)) ∧ w'.cell? ⟨ad206.block, ad206.off + 1, none⟩ = some (.bool ((Qg t195 0).f1)) ∧ w'.cell? ⟨ad206.block, ad206.off + 2, none⟩ = some (.bool ((Qg t195 0).f2)) ∧ w'.cell? ⟨ad206.block, ad206.off + 3, none⟩ = some (.bool ((Qg t195 1).f0)) ∧ w'.cell? ⟨ad206.block, ad206.off + 3 + 1, none⟩ = some (.bool ((Qg t195 1).f1)) ∧ w'.cell? ⟨ad206.block, ad206.off + 3 + 2, none⟩ = some (.bool ((Qg t195 1).f2))) (ds := []) QB55_0 (by kernel_rfl) rfl rfl ⟨(Qe BK188.out 0).trans rfl, (Qe BK188.out 1).trans rfl, hx198_0, hx198_1, hx198_2, hx200_0, hx200_1, hx200_2, hx205_0, hx205_1, hx205_2, hx206_0, hx206_1, hx206_2, hx208_0, hx208_1, hx208_2⟩ (fun hHeld => ?_); refine with_tabW Qj1.tab6 Qj1.bits6 (fun HT_ HW_ => ?_)
    generalize wc.drew = w44 at HO_2 HO_3 HO_189000 HO_189001 BK188 HB hx198_0 hx198_1 hx198_2 hx200_0 hx200_1 hx200_2 hx205_0 hx205_1 hx205_2 hx206_0 hx206_1 hx206_2 hx208_0 hx208_1 hx208_2 hHeld ⊢
    refine pure_ (i := 0) (N := some 29) (v := ?_) (a' := ?_) QB55_1 rfl rfl (Qm HT_.out (by kernel_rfl)) (fun _ _ _ h => h) (Or.inl ⟨by rfl, ?_⟩) ?_ ?_
    rotate_left
    ·
     intro w'
     go_simp
     with_reducible rfl
    rotate_left
    ·
     simp only [Act.put, List.setIfInBounds_toArray, List.set_cons_zero, List.set_cons_succ, i64_w, i32_w]
     rfl
    refine pure_ (i := 1) (N := some 30) (v := ?_) (a' := ?_) QB55_2 rfl rfl (Qm HT_.out (by kernel_rfl)) (fun _ _ _ h => h) (Or.inl ⟨by rfl, ?_⟩) ?_ ?_
    rotate_left
    ·
     intro w'
     go_simp
     with_reducible rfl
    rotate_left
    ·
     simp only [Act.put, List.setIfInBounds_toArray, List.set_cons_zero, List.set_cons_succ, i64_w, i32_w]
     rfl
    refine take_ (i := 2) (N := some 31) (v := ?_) (a' := ?_) QB55_3 rfl rfl (Qm1 HT_.out HW_.out (by kernel_rfl)) (fun _ _ _ h => h) (Or.inl ⟨by rfl, ?_⟩) hHeld ?_ ?_
    rotate_left
    ·
     rintro w' ⟨s0, s1, s2, s3, s4, s5, s6, s7, s8, s9, s10, s11, s12, s13, s14, s15, s16⟩
     go_simp
     with_reducible rfl
    rotate_left
    ·
     simp only [Act.put, List.setIfInBounds_toArray, List.set_cons_zero, List.set_cons_succ, i64_w, i32_w]
     rfl
    refine one_ (i := 3) (N := some 32) QB55_4 rfl rfl (one_of HT_.out (by kernel_rfl)) (by decide) (fun K hK => ?_)
    refine goes_ Try.func19 (by kernel_rfl) rfl #[.agg #[.bool ((Qg t189 2).f0), .bool ((Qg t189 2).f1), .bool ((Qg t189 2).f2)]] (by rfl) rfl rfl (by (try simp only [List.map_toArray, List.map_cons, List.map_nil]); first | done | rfl | (simp only [List.length_drop, List.length_take]; rfl)) ?_
    with_reducible refine (flow_Text.calls kj3 ((Qg t189 2).f0) ((Qg t189 2).f1) ((Qg t189 2).f2) t199 _ A32.out).mono ?_
    rintro e w46 ⟨rfl, hb⟩
    have HS2_ := (hb.cell (World.block_lt_of_cell? _ _ (hHeld.2.2.1))).trans (hHeld.2.2.1)
    have HS3_ := (hb.cell (World.block_lt_of_cell? _ _ (hHeld.2.2.2.1))).trans (hHeld.2.2.2.1)
    have HS4_ := (hb.cell (World.block_lt_of_cell? _ _ (hHeld.2.2.2.2.1))).trans (hHeld.2.2.2.2.1)
    have HS5_ := (hb.cell (World.block_lt_of_cell? _ _ (hHeld.2.2.2.2.2.1))).trans (hHeld.2.2.2.2.2.1)
    have HS6_ := (hb.cell (World.block_lt_of_cell? _ _ (hHeld.2.2.2.2.2.2.1))).trans (hHeld.2.2.2.2.2.2.1)
    have HS7_ := (hb.cell (World.block_lt_of_cell? _ _ (hHeld.2.2.2.2.2.2.2.1))).trans (hHeld.2.2.2.2.2.2.2.1)
    have HS8_ := (hb.cell (World.block_lt_of_cell? _ _ (hHeld.2.2.2.2.2.2.2.2.1))).trans (hHeld.2.2.2.2.2.2.2.2.1)
    have HS9_ := (hb.cell (World.block_lt_of_cell? _ _ (hHeld.2.2.2.2.2.2.2.2.2.1))).trans (hHeld.2.2.2.2.2.2.2.2.2.1)
    have HS10_ := (hb.cell (World.block_lt_of_cell? _ _ (hHeld.2.2.2.2.2.2.2.2.2.2.1))).trans (hHeld.2.2.2.2.2.2.2.2.2.2.1)
    have HS11_ := (hb.cell (World.block_lt_of_cell? _ _ (hHeld.2.2.2.2.2.2.2.2.2.2.2.1))).trans (hHeld.2.2.2.2.2.2.2.2.2.2.2.1)
    have HS12_ := (hb.cell (World.block_lt_of_cell? _ _ (hHeld.2.2.2.2.2.2.2.2.2.2.2.2.1))).trans (hHeld.2.2.2.2.2.2.2.2.2.2.2.2.1)
    have HS13_ := (hb.cell (World.block_lt_of_cell? _ _ (hHeld.2.2.2.2.2.2.2.2.2.2.2.2.2.1))).trans (hHeld.2.2.2.2.2.2.2.2.2.2.2.2.2.1)
    have HS14_ := (hb.cell (World.block_lt_of_cell? _ _ (hHeld.2.2.2.2.2.2.2.2.2.2.2.2.2.2.1))).trans (hHeld.2.2.2.2.2.2.2.2.2.2.2.2.2.2.1)
    have HS15_ := (hb.cell (World.block_lt_of_cell? _ _ (hHeld.2.2.2.2.2.2.2.2.2.2.2.2.2.2.2.1))).trans (hHeld.2.2.2.2.2.2.2.2.2.2.2.2.2.2.2.1)
    have HS16_ := (hb.cell (World.block_lt_of_cell? _ _ (hHeld.2.2.2.2.2.2.2.2.2.2.2.2.2.2.2.2))).trans (hHeld.2.2.2.2.2.2.2.2.2.2.2.2.2.2.2.2)
    refine ⟨_, rfl, ?_⟩
    have n0_ := Qa.mk (Kd.Qd1 (by (with_reducible repeat (first | apply Kd.Qq | apply Kd.Qr | apply Kd.Qo)); exact HO_2.out) hb)
    have n1_ := Qa.mk (Kd.Qd1 (by (with_reducible repeat (first | apply Kd.Qq | apply Kd.Qr | apply Kd.Qo)); exact HO_3.out) hb)
    have n2_ := Qa.mk (Kd.Qd1 (by (with_reducible repeat (first | apply Kd.Qq | apply Kd.Qr | apply Kd.Qo)); exact HO_189000.out) hb)
    have n3_ := Qa.mk (Kd.N_below (by (with_reducible repeat (first | apply Kd.N_alloc | apply Kd.N_drewN | apply Kd.N_drew)); exact HO_189001.out) hb)
    have n4_ := Qa.mk (Qs (g := gb188) (o := .cells #[.slice Ao16 y176.length co16, .slice Ao15 y185.length co15] 25 (0, 0)) (by (with_reducible repeat (first | refine Qd ?_ _ | refine Qb ?_ | refine Qc ?_ _)); exact BK188.out) hb)
    have n5_ := Qa.mk (Qv (by with_reducible repeat (first | exact HB.out | apply Qk | apply Ql | apply Qj | refine Qi ?_ GE188.out)) hb)
    clear HO_2
    clear HO_3
    clear HO_189000
    clear HO_189001
    clear BK188
    clear HB
    have HO_2 := n0_
    have HO_3 := n1_
    have HO_189000 := n2_
    have HO_189001 := n3_
    have BK188 := n4_
    have HB := n5_
    clear n0_ n1_ n2_ n3_ n4_ n5_
    (try clear hb; try clear hb2; try clear hk; try clear hi)
    refine hK.out _ _ ⟨(Qe BK188.out 0).trans rfl, (Qe BK188.out 1).trans rfl, HS2_, HS3_, HS4_, HS5_, HS6_, HS7_, HS8_, HS9_, HS10_, HS11_, HS12_, HS13_, HS14_, HS15_, HS16_⟩ (fun hHeld => ?_)
    clear hK K
    refine norm_ (a' := ?_) ?_ ?_
    rotate_left
    ·
     show Act.put _ (some 32) _ = _
     simp only [Act.put, List.setIfInBounds_toArray, List.set_cons_zero, List.set_cons_succ, i64_w, i32_w]
     rfl
    refine pure_ (i := 4) (N := some 33) (v := ?_) (a' := ?_) QB55_5 rfl rfl (Qm HT_.out (by kernel_rfl)) (fun _ _ _ h => h) (Or.inl ⟨by rfl, ?_⟩) ?_ ?_
    rotate_left
    ·
     intro w'
     go_simp
     with_reducible rfl
    rotate_left
    ·
     simp only [Act.put, List.setIfInBounds_toArray, List.set_cons_zero, List.set_cons_succ, i64_w, i32_w]
     rfl
    refine pure_ (i := 5) (N := some 34) (v := ?_) (a' := ?_) QB55_6 rfl rfl (Qm HT_.out (by kernel_rfl)) (fun _ _ _ h => h) (Or.inl ⟨by rfl, ?_⟩) ?_ ?_
    rotate_left
    ·
     intro w'
     go_simp
     with_reducible rfl
    rotate_left
    ·
     simp only [Act.put, List.setIfInBounds_toArray, List.set_cons_zero, List.set_cons_succ, i64_w, i32_w]
     rfl
    refine pure_ (i := 6) (N := some 35) (v := ?_) (a' := ?_) QB55_7 rfl rfl (Qm HT_.out (by kernel_rfl)) (fun _ _ _ h => h) (Or.inl ⟨by rfl, ?_⟩) ?_ ?_
    rotate_left
    ·
     intro w'
     go_simp
     with_reducible rfl
    rotate_left
    ·
     simp only [Act.put, List.setIfInBounds_toArray, List.set_cons_zero, List.set_cons_succ, i64_w, i32_w]
     rfl
    refine pure_ (i := 7) (N := some 36) (v := ?_) (a' := ?_) QB55_8 rfl rfl (Qm HT_.out (by kernel_rfl)) (fun _ _ _ h => h) (Or.inl ⟨by rfl, ?_⟩) ?_ ?_
    rotate_left
    ·
     intro w'
     go_simp
     with_reducible rfl
    rotate_left
    ·
     simp only [Act.put, List.setIfInBounds_toArray, List.set_cons_zero, List.set_cons_succ, i64_w, i32_w]
     rfl
    refine take_ (i := 8) (N := some 37) (v := ?_) (a' := ?_) QB55_9 rfl rfl (Qm1 HT_.out HW_.out (by kernel_rfl)) (fun _ _ _ h => h) (Or.inl ⟨by rfl, ?_⟩) hHeld ?_ ?_
    rotate_left
    ·
     rintro w' ⟨s0, s1, s2, s3, s4, s5, s6, s7, s8, s9, s10, s11, s12, s13, s14, s15, s16⟩
     go_simp
     with_reducible rfl
    rotate_left
    ·
     simp only [Act.put, List.setIfInBounds_toArray, List.set_cons_zero, List.set_cons_succ, i64_w, i32_w]
     rfl
    refine one_ (i := 9) (N := some 38) QB55_10 rfl rfl (one_of HT_.out (by kernel_rfl)) (by decide) (fun K hK => ?_)
    refine goes_ Try.func19 (by kernel_rfl) rfl #[.agg #[.bool ((Qg t189 4).f0), .bool ((Qg t189 4).f1), .bool ((Qg t189 4).f2)]] (by rfl) rfl rfl (by (try simp only [List.map_toArray, List.map_cons, List.map_nil]); first | done | rfl | (simp only [List.length_drop, List.length_take]; rfl)) ?_
    with_reducible refine (flow_Text.calls kj3 ((Qg t189 4).f0) ((Qg t189 4).f1) ((Qg t189 4).f2) t201 _ A35.out).mono ?_
    rintro e w47 ⟨rfl, hb⟩
    have HS2_ := (hb.cell (World.block_lt_of_cell? _ _ (hHeld.2.2.1))).trans (hHeld.2.2.1)
    have HS3_ := (hb.cell (World.block_lt_of_cell? _ _ (hHeld.2.2.2.1))).trans (hHeld.2.2.2.1)
    have HS4_ := (hb.cell (World.block_lt_of_cell? _ _ (hHeld.2.2.2.2.1))).trans (hHeld.2.2.2.2.1)
    have HS5_ := (hb.cell (World.block_lt_of_cell? _ _ (hHeld.2.2.2.2.2.1))).trans (hHeld.2.2.2.2.2.1)
    have HS6_ := (hb.cell (World.block_lt_of_cell? _ _ (hHeld.2.2.2.2.2.2.1))).trans (hHeld.2.2.2.2.2.2.1)
    have HS7_ := (hb.cell (World.block_lt_of_cell? _ _ (hHeld.2.2.2.2.2.2.2.1))).trans (hHeld.2.2.2.2.2.2.2.1)
    have HS8_ := (hb.cell (World.block_lt_of_cell? _ _ (hHeld.2.2.2.2.2.2.2.2.1))).trans (hHeld.2.2.2.2.2.2.2.2.1)
    have HS9_ := (hb.cell (World.block_lt_of_cell? _ _ (hHeld.2.2.2.2.2.2.2.2.2.1))).trans (hHeld.2.2.2.2.2.2.2.2.2.1)
    have HS10_ := (hb.cell (World.block_lt_of_cell? _ _ (hHeld.2.2.2.2.2.2.2.2.2.2.1))).trans (hHeld.2.2.2.2.2.2.2.2.2.2.1)
    have HS11_ := (hb.cell (World.block_lt_of_cell? _ _ (hHeld.2.2.2.2.2.2.2.2.2.2.2.1))).trans (hHeld.2.2.2.2.2.2.2.2.2.2.2.1)
    have HS12_ := (hb.cell (World.block_lt_of_cell? _ _ (hHeld.2.2.2.2.2.2.2.2.2.2.2.2.1))).trans (hHeld.2.2.2.2.2.2.2.2.2.2.2.2.1)
    have HS13_ := (hb.cell (World.block_lt_of_cell? _ _ (hHeld.2.2.2.2.2.2.2.2.2.2.2.2.2.1))).trans (hHeld.2.2.2.2.2.2.2.2.2.2.2.2.2.1)
    have HS14_ := (hb.cell (World.block_lt_of_cell? _ _ (hHeld.2.2.2.2.2.2.2.2.2.2.2.2.2.2.1))).trans (hHeld.2.2.2.2.2.2.2.2.2.2.2.2.2.2.1)
    have HS15_ := (hb.cell (World.block_lt_of_cell? _ _ (hHeld.2.2.2.2.2.2.2.2.2.2.2.2.2.2.2.1))).trans (hHeld.2.2.2.2.2.2.2.2.2.2.2.2.2.2.2.1)
    have HS16_ := (hb.cell (World.block_lt_of_cell? _ _ (hHeld.2.2.2.2.2.2.2.2.2.2.2.2.2.2.2.2))).trans (hHeld.2.2.2.2.2.2.2.2.2.2.2.2.2.2.2.2)
    refine ⟨_, rfl, ?_⟩
    have n0_ := Qa.mk (Kd.Qd1 (by (with_reducible repeat (first | apply Kd.Qq | apply Kd.Qr | apply Kd.Qo)); exact HO_2.out) hb)
    have n1_ := Qa.mk (Kd.Qd1 (by (with_reducible repeat (first | apply Kd.Qq | apply Kd.Qr | apply Kd.Qo)); exact HO_3.out) hb)
    have n2_ := Qa.mk (Kd.Qd1 (by (with_reducible repeat (first | apply Kd.Qq | apply Kd.Qr | apply Kd.Qo)); exact HO_189000.out) hb)
    have n3_ := Qa.mk (Kd.N_below (by (with_reducible repeat (first | apply Kd.N_alloc | apply Kd.N_drewN | apply Kd.N_drew)); exact HO_189001.out) hb)
    have n4_ := Qa.mk (Qs (g := gb188) (o := .cells #[.slice Ao16 y176.length co16, .slice Ao15 y185.length co15] 25 (0, 0)) (by (with_reducible repeat (first | refine Qd ?_ _ | refine Qb ?_ | refine Qc ?_ _)); exact BK188.out) hb)
    have n5_ := Qa.mk (Qv (by with_reducible repeat (first | exact HB.out | apply Qk | apply Ql | apply Qj | refine Qi ?_ GE188.out)) hb)
    clear HO_2
    clear HO_3
    clear HO_189000
    clear HO_189001
    clear BK188
    clear HB
    have HO_2 := n0_
    have HO_3 := n1_
    have HO_189000 := n2_
    have HO_189001 := n3_
    have BK188 := n4_
    have HB := n5_
    clear n0_ n1_ n2_ n3_ n4_ n5_
    (try clear hb; try clear hb2; try clear hk; try clear hi)
    refine hK.out _ _ ⟨(Qe BK188.out 0).trans rfl, (Qe BK188.out 1).trans rfl, HS2_, HS3_, HS4_, HS5_, HS6_, HS7_, HS8_, HS9_, HS10_, HS11_, HS12_, HS13_, HS14_, HS15_, HS16_⟩ (fun hHeld => ?_)
    clear hK K
    refine norm_ (a' := ?_) ?_ ?_
    rotate_left
    ·
     show Act.put _ (some 38) _ = _
     simp only [Act.put, List.setIfInBounds_toArray, List.set_cons_zero, List.set_cons_succ, i64_w, i32_w]
     rfl
    refine pure_ (i := 10) (N := some 39) (v := ?_) (a' := ?_) QB55_11 rfl rfl (Qm HT_.out (by kernel_rfl)) (fun _ _ _ h => h) (Or.inl ⟨by rfl, ?_⟩) ?_ ?_
    rotate_left
    ·
     intro w'
     go_simp
     with_reducible rfl
    rotate_left
    ·
     simp only [Act.put, List.setIfInBounds_toArray, List.set_cons_zero, List.set_cons_succ, i64_w, i32_w]
     rfl
    refine pure_ (i := 11) (N := some 40) (v := ?_) (a' := ?_) QB55_12 rfl rfl (Qm HT_.out (by kernel_rfl)) (fun _ _ _ h => h) (Or.inl ⟨by rfl, ?_⟩) ?_ ?_
    rotate_left
    ·
     intro w'
     go_simp
     with_reducible rfl
    rotate_left
    ·
     simp only [Act.put, List.setIfInBounds_toArray, List.set_cons_zero, List.set_cons_succ, i64_w, i32_w]
     rfl
    refine pure_ (i := 12) (N := some 41) (v := ?_) (a' := ?_) QB55_13 rfl rfl (Qm HT_.out (by kernel_rfl)) (fun _ _ _ h => h) (Or.inl ⟨by rfl, ?_⟩) ?_ ?_
    rotate_left
    ·
     intro w'
     go_simp
     with_reducible rfl
    rotate_left
    ·
     simp only [Act.put, List.setIfInBounds_toArray, List.set_cons_zero, List.set_cons_succ, i64_w, i32_w]
     rfl
    refine pure_ (i := 15) (N := some 44) (v := ?_) (a' := ?_) QB55_32 rfl rfl (Qm HT_.out (by kernel_rfl)) (fun _ _ _ h => h) (Or.inl ⟨by rfl, ?_⟩) ?_ ?_
    rotate_left
    ·
     intro w'
     go_simp
     with_reducible rfl
    rotate_left
    ·
     simp only [Act.put, List.setIfInBounds_toArray, List.set_cons_zero, List.set_cons_succ, i64_w, i32_w]
     rfl
    refine pure_ (i := 16) (N := some 45) (v := ?_) (a' := ?_) QB55_33 rfl rfl (Qm HT_.out (by kernel_rfl)) (fun _ _ _ h => h) (Or.inl ⟨by rfl, ?_⟩) ?_ ?_
    rotate_left
    ·
     intro w'
     go_simp
     with_reducible rfl
    rotate_left
    ·
     simp only [Act.put, List.setIfInBounds_toArray, List.set_cons_zero, List.set_cons_succ, i64_w, i32_w]
     rfl
    refine take_ (i := 13) (N := some 42) (v := ?_) (a' := ?_) QB55_34 rfl rfl (Qm1 HT_.out HW_.out (by kernel_rfl)) (fun _ _ _ h => h) (Or.inl ⟨by rfl, ?_⟩) hHeld ?_ ?_
    rotate_left
    ·
     rintro w' ⟨s0, s1, s2, s3, s4, s5, s6, s7, s8, s9, s10, s11, s12, s13, s14, s15, s16⟩
     go_simp
     with_reducible rfl
    rotate_left
    ·
     simp only [Act.put, List.setIfInBounds_toArray, List.set_cons_zero, List.set_cons_succ, i64_w, i32_w]
     rfl
    refine take_ (i := 17) (N := some 46) (v := ?_) (a' := ?_) QB55_35 rfl rfl (Qm1 HT_.out HW_.out (by kernel_rfl)) (fun _ _ _ h => h) (Or.inl ⟨by rfl, ?_⟩) hHeld ?_ ?_
    rotate_left
    ·
     rintro w' ⟨s0, s1, s2, s3, s4, s5, s6, s7, s8, s9, s10, s11, s12, s13, s14, s15, s16⟩
     go_simp
     with_reducible rfl
    rotate_left
    ·
     simp only [Act.put, List.setIfInBounds_toArray, List.set_cons_zero, List.set_cons_succ, i64_w, i32_w]
     rfl
    refine one_ (i := 14) (N := some 43) QB55_14 rfl rfl (one_of HT_.out (by kernel_rfl)) (by decide) (fun K hK => ?_)
    refine goes_ Try.func14 (by kernel_rfl) rfl #[.agg #[.slice Ao16 y176.length co16, .slice Ao15 y185.length co15], .int .i64 0] (by rfl) rfl rfl (by (try simp only [List.map_toArray, List.map_cons, List.map_nil]); first | done | rfl | (simp only [List.length_drop, List.length_take]; rfl)) ?_
    with_reducible refine (flow_Rule.calls kj3 _ _ y176 _ _ y185 0 t202 t203 t204 _ ?side1 ?side2 ?side3 ?side4 A37.out).mono ?_
    (case side1 => repeat (first | exact (Kd.R_reads' HO_189000.out).2.2 | (with_reducible refine Kd.Qf1 ?_ _) | (with_reducible refine Kd.Qe1 ?_ _) | (with_reducible refine Kd.C_drew ?_)))
    (case side2 => exact (Kd.R_reads' HO_189000.out).2.1)
    (case side3 => repeat (first | exact (Kd.N_reads' HO_189001.out).2.2 | (with_reducible refine Kd.Qf1 ?_ _) | (with_reducible refine Kd.Qe1 ?_ _) | (with_reducible refine Kd.C_drew ?_)))
    (case side4 => exact (Kd.N_reads' HO_189001.out).2.1)
    rintro e w48 ⟨rfl, hb⟩
    have HS2_ := (hb.cell (World.block_lt_of_cell? _ _ (hHeld.2.2.1))).trans (hHeld.2.2.1)
    have HS3_ := (hb.cell (World.block_lt_of_cell? _ _ (hHeld.2.2.2.1))).trans (hHeld.2.2.2.1)
    have HS4_ := (hb.cell (World.block_lt_of_cell? _ _ (hHeld.2.2.2.2.1))).trans (hHeld.2.2.2.2.1)
    have HS5_ := (hb.cell (World.block_lt_of_cell? _ _ (hHeld.2.2.2.2.2.1))).trans (hHeld.2.2.2.2.2.1)
    have HS6_ := (hb.cell (World.block_lt_of_cell? _ _ (hHeld.2.2.2.2.2.2.1))).trans (hHeld.2.2.2.2.2.2.1)
    have HS7_ := (hb.cell (World.block_lt_of_cell? _ _ (hHeld.2.2.2.2.2.2.2.1))).trans (hHeld.2.2.2.2.2.2.2.1)
    have HS8_ := (hb.cell (World.block_lt_of_cell? _ _ (hHeld.2.2.2.2.2.2.2.2.1))).trans (hHeld.2.2.2.2.2.2.2.2.1)
    have HS9_ := (hb.cell (World.block_lt_of_cell? _ _ (hHeld.2.2.2.2.2.2.2.2.2.1))).trans (hHeld.2.2.2.2.2.2.2.2.2.1)
    have HS10_ := (hb.cell (World.block_lt_of_cell? _ _ (hHeld.2.2.2.2.2.2.2.2.2.2.1))).trans (hHeld.2.2.2.2.2.2.2.2.2.2.1)
    have HS11_ := (hb.cell (World.block_lt_of_cell? _ _ (hHeld.2.2.2.2.2.2.2.2.2.2.2.1))).trans (hHeld.2.2.2.2.2.2.2.2.2.2.2.1)
    have HS12_ := (hb.cell (World.block_lt_of_cell? _ _ (hHeld.2.2.2.2.2.2.2.2.2.2.2.2.1))).trans (hHeld.2.2.2.2.2.2.2.2.2.2.2.2.1)
    have HS13_ := (hb.cell (World.block_lt_of_cell? _ _ (hHeld.2.2.2.2.2.2.2.2.2.2.2.2.2.1))).trans (hHeld.2.2.2.2.2.2.2.2.2.2.2.2.2.1)
    have HS14_ := (hb.cell (World.block_lt_of_cell? _ _ (hHeld.2.2.2.2.2.2.2.2.2.2.2.2.2.2.1))).trans (hHeld.2.2.2.2.2.2.2.2.2.2.2.2.2.2.1)
    have HS15_ := (hb.cell (World.block_lt_of_cell? _ _ (hHeld.2.2.2.2.2.2.2.2.2.2.2.2.2.2.2.1))).trans (hHeld.2.2.2.2.2.2.2.2.2.2.2.2.2.2.2.1)
    have HS16_ := (hb.cell (World.block_lt_of_cell? _ _ (hHeld.2.2.2.2.2.2.2.2.2.2.2.2.2.2.2.2))).trans (hHeld.2.2.2.2.2.2.2.2.2.2.2.2.2.2.2.2)
    refine ⟨_, rfl, ?_⟩
    have n0_ := Qa.mk (Kd.Qd1 (by (with_reducible repeat (first | apply Kd.Qq | apply Kd.Qr | apply Kd.Qo)); exact HO_2.out) hb)
    have n1_ := Qa.mk (Kd.Qd1 (by (with_reducible repeat (first | apply Kd.Qq | apply Kd.Qr | apply Kd.Qo)); exact HO_3.out) hb)
    have n2_ := Qa.mk (Kd.Qd1 (by (with_reducible repeat (first | apply Kd.Qq | apply Kd.Qr | apply Kd.Qo)); exact HO_189000.out) hb)
    have n3_ := Qa.mk (Kd.N_below (by (with_reducible repeat (first | apply Kd.N_alloc | apply Kd.N_drewN | apply Kd.N_drew)); exact HO_189001.out) hb)
    have n4_ := Qa.mk (Qs (g := gb188) (o := .cells #[.slice Ao16 y176.length co16, .slice Ao15 y185.length co15] 25 (0, 0)) (by (with_reducible repeat (first | refine Qd ?_ _ | refine Qb ?_ | refine Qc ?_ _)); exact BK188.out) hb)
    have n5_ := Qa.mk (Qv (by with_reducible repeat (first | exact HB.out | apply Qk | apply Ql | apply Qj | refine Qi ?_ GE188.out)) hb)
    clear HO_2
    clear HO_3
    clear HO_189000
    clear HO_189001
    clear BK188
    clear HB
    have HO_2 := n0_
    have HO_3 := n1_
    have HO_189000 := n2_
    have HO_189001 := n3_
    have BK188 := n4_
    have HB := n5_
    clear n0_ n1_ n2_ n3_ n4_ n5_
    (try clear hb; try clear hb2; try clear hk; try clear hi)
    obtain ⟨Ao49, co49, eo49⟩ := Kd.R_slice HO_3.out
    (first | subst eo49 | (injection eo49 with f1_ f2_ f3_; have f4_ := f1_.symm; have f5_ := f3_.symm; clear f1_ f2_ f3_; subst f4_; subst f5_))
    refine hK.out _ _ ⟨(Qe BK188.out 0).trans rfl, (Qe BK188.out 1).trans rfl, HS2_, HS3_, HS4_, HS5_, HS6_, HS7_, HS8_, HS9_, HS10_, HS11_, HS12_, HS13_, HS14_, HS15_, HS16_⟩ (fun hHeld => ?_)
    clear hK K
    refine norm_ (a' := ?_) ?_ ?_
    rotate_left
    ·
     show Act.put _ (some 43) _ = _
     simp only [Act.put, List.setIfInBounds_toArray, List.set_cons_zero, List.set_cons_succ, i64_w, i32_w]
     rfl
    refine pure_ (i := 18) (N := some 47) (v := ?_) (a' := ?_) QB55_15 rfl rfl (Qm HT_.out (by kernel_rfl)) (fun _ _ _ h => h) (Or.inl ⟨by rfl, ?_⟩) ?_ ?_
    rotate_left
    ·
     intro w'
     go_simp
     with_reducible rfl
    rotate_left
    ·
     simp only [Act.put, List.setIfInBounds_toArray, List.set_cons_zero, List.set_cons_succ, i64_w, i32_w]
     rfl
    refine pure_ (i := 19) (N := some 48) (v := ?_) (a' := ?_) QB55_16 rfl rfl (Qm HT_.out (by kernel_rfl)) (fun _ _ _ h => h) (Or.inl ⟨by rfl, ?_⟩) ?_ ?_
    rotate_left
    ·
     intro w'
     go_simp
     with_reducible rfl
    rotate_left
    ·
     simp only [Act.put, List.setIfInBounds_toArray, List.set_cons_zero, List.set_cons_succ, i64_w, i32_w]
     rfl
    refine pure_ (i := 20) (N := some 49) (v := ?_) (a' := ?_) QB55_17 rfl rfl (Qm HT_.out (by kernel_rfl)) (fun _ _ _ h => h) (Or.inl ⟨by rfl, ?_⟩) ?_ ?_
    rotate_left
    ·
     intro w'
     go_simp
     with_reducible rfl
    rotate_left
    ·
     simp only [Act.put, List.setIfInBounds_toArray, List.set_cons_zero, List.set_cons_succ, i64_w, i32_w]
     rfl
    refine pure_ (i := 21) (N := some 50) (v := ?_) (a' := ?_) QB55_18 rfl rfl (Qm HT_.out (by kernel_rfl)) (fun _ _ _ h => h) (Or.inl ⟨by rfl, ?_⟩) ?_ ?_
    rotate_left
    ·
     intro w'
     go_simp
     with_reducible rfl
    rotate_left
    ·
     simp only [Act.put, List.setIfInBounds_toArray, List.set_cons_zero, List.set_cons_succ, i64_w, i32_w]
     rfl
    refine pure_ (i := 22) (N := some 51) (v := ?_) (a' := ?_) QB55_19 rfl rfl (Qm HT_.out (by kernel_rfl)) (fun _ _ _ h => h) (Or.inl ⟨by rfl, ?_⟩) ?_ ?_
    rotate_left
    ·
     intro w'
     go_simp
     with_reducible rfl
    rotate_left
    ·
     simp only [Act.put, List.setIfInBounds_toArray, List.set_cons_zero, List.set_cons_succ, i64_w, i32_w]
     rfl
    refine take_ (i := 23) (N := some 52) (v := ?_) (a' := ?_) QB55_20 rfl rfl (Qm1 HT_.out HW_.out (by kernel_rfl)) (fun _ _ _ h => h) (Or.inl ⟨by rfl, ?_⟩) hHeld ?_ ?_
    rotate_left
    ·
     rintro w' ⟨s0, s1, s2, s3, s4, s5, s6, s7, s8, s9, s10, s11, s12, s13, s14, s15, s16⟩
     go_simp
     with_reducible rfl
    rotate_left
    ·
     simp only [Act.put, List.setIfInBounds_toArray, List.set_cons_zero, List.set_cons_succ, i64_w, i32_w]
     rfl
    refine one_ (i := 24) (N := some 53) QB55_21 rfl rfl (one_of HT_.out (by kernel_rfl)) (by decide) (fun K hK => ?_)
    refine goes_ Try.func19 (by kernel_rfl) rfl #[.agg #[.bool ((Qg t195 0).f0), .bool ((Qg t195 0).f1), .bool ((Qg t195 0).f2)]] (by rfl) rfl rfl (by (try simp only [List.map_toArray, List.map_cons, List.map_nil]); first | done | rfl | (simp only [List.length_drop, List.length_take]; rfl)) ?_
    with_reducible refine (flow_Text.calls kj3 ((Qg t195 0).f0) ((Qg t195 0).f1) ((Qg t195 0).f2) t207 _ A40.out).mono ?_
    rintro e w50 ⟨rfl, hb⟩
    have HS2_ := (hb.cell (World.block_lt_of_cell? _ _ (hHeld.2.2.1))).trans (hHeld.2.2.1)
    have HS3_ := (hb.cell (World.block_lt_of_cell? _ _ (hHeld.2.2.2.1))).trans (hHeld.2.2.2.1)
    have HS4_ := (hb.cell (World.block_lt_of_cell? _ _ (hHeld.2.2.2.2.1))).trans (hHeld.2.2.2.2.1)
    have HS5_ := (hb.cell (World.block_lt_of_cell? _ _ (hHeld.2.2.2.2.2.1))).trans (hHeld.2.2.2.2.2.1)
    have HS6_ := (hb.cell (World.block_lt_of_cell? _ _ (hHeld.2.2.2.2.2.2.1))).trans (hHeld.2.2.2.2.2.2.1)
    have HS7_ := (hb.cell (World.block_lt_of_cell? _ _ (hHeld.2.2.2.2.2.2.2.1))).trans (hHeld.2.2.2.2.2.2.2.1)
    have HS8_ := (hb.cell (World.block_lt_of_cell? _ _ (hHeld.2.2.2.2.2.2.2.2.1))).trans (hHeld.2.2.2.2.2.2.2.2.1)
    have HS9_ := (hb.cell (World.block_lt_of_cell? _ _ (hHeld.2.2.2.2.2.2.2.2.2.1))).trans (hHeld.2.2.2.2.2.2.2.2.2.1)
    have HS10_ := (hb.cell (World.block_lt_of_cell? _ _ (hHeld.2.2.2.2.2.2.2.2.2.2.1))).trans (hHeld.2.2.2.2.2.2.2.2.2.2.1)
    have HS11_ := (hb.cell (World.block_lt_of_cell? _ _ (hHeld.2.2.2.2.2.2.2.2.2.2.2.1))).trans (hHeld.2.2.2.2.2.2.2.2.2.2.2.1)
    have HS12_ := (hb.cell (World.block_lt_of_cell? _ _ (hHeld.2.2.2.2.2.2.2.2.2.2.2.2.1))).trans (hHeld.2.2.2.2.2.2.2.2.2.2.2.2.1)
    have HS13_ := (hb.cell (World.block_lt_of_cell? _ _ (hHeld.2.2.2.2.2.2.2.2.2.2.2.2.2.1))).trans (hHeld.2.2.2.2.2.2.2.2.2.2.2.2.2.1)
    have HS14_ := (hb.cell (World.block_lt_of_cell? _ _ (hHeld.2.2.2.2.2.2.2.2.2.2.2.2.2.2.1))).trans (hHeld.2.2.2.2.2.2.2.2.2.2.2.2.2.2.1)
    have HS15_ := (hb.cell (World.block_lt_of_cell? _ _ (hHeld.2.2.2.2.2.2.2.2.2.2.2.2.2.2.2.1))).trans (hHeld.2.2.2.2.2.2.2.2.2.2.2.2.2.2.2.1)
    have HS16_ := (hb.cell (World.block_lt_of_cell? _ _ (hHeld.2.2.2.2.2.2.2.2.2.2.2.2.2.2.2.2))).trans (hHeld.2.2.2.2.2.2.2.2.2.2.2.2.2.2.2.2)
    refine ⟨_, rfl, ?_⟩
    have n0_ := Qa.mk (Kd.Qd1 (by (with_reducible repeat (first | apply Kd.Qq | apply Kd.Qr | apply Kd.Qo)); exact HO_2.out) hb)
    have n1_ := Qa.mk (Kd.Qd1 (by (with_reducible repeat (first | apply Kd.Qq | apply Kd.Qr | apply Kd.Qo)); exact HO_3.out) hb)
    have n2_ := Qa.mk (Kd.Qd1 (by (with_reducible repeat (first | apply Kd.Qq | apply Kd.Qr | apply Kd.Qo)); exact HO_189000.out) hb)
    have n3_ := Qa.mk (Kd.N_below (by (with_reducible repeat (first | apply Kd.N_alloc | apply Kd.N_drewN | apply Kd.N_drew)); exact HO_189001.out) hb)
    have n4_ := Qa.mk (Qs (g := gb188) (o := .cells #[.slice Ao16 y176.length co16, .slice Ao15 y185.length co15] 25 (0, 0)) (by (with_reducible repeat (first | refine Qd ?_ _ | refine Qb ?_ | refine Qc ?_ _)); exact BK188.out) hb)
    have n5_ := Qa.mk (Qv (by with_reducible repeat (first | exact HB.out | apply Qk | apply Ql | apply Qj | refine Qi ?_ GE188.out)) hb)
    clear HO_2
    clear HO_3
    clear HO_189000
    clear HO_189001
    clear BK188
    clear HB
    have HO_2 := n0_
    have HO_3 := n1_
    have HO_189000 := n2_
    have HO_189001 := n3_
    have BK188 := n4_
    have HB := n5_
    clear n0_ n1_ n2_ n3_ n4_ n5_
    (try clear hb; try clear hb2; try clear hk; try clear hi)
    refine hK.out _ _ ⟨(Qe BK188.out 0).trans rfl, (Qe BK188.out 1).trans rfl, HS2_, HS3_, HS4_, HS5_, HS6_, HS7_, HS8_, HS9_, HS10_, HS11_, HS12_, HS13_, HS14_, HS15_, HS16_⟩ (fun hHeld => ?_)
    clear hK K
    refine norm_ (a' := ?_) ?_ ?_
    rotate_left
    ·
     show Act.put _ (some 53) _ = _
     simp only [Act.put, List.setIfInBounds_toArray, List.set_cons_zero, List.set_cons_succ, i64_w, i32_w]
     rfl
    refine pure_ (i := 25) (N := some 54) (v := ?_) (a' := ?_) QB55_22 rfl rfl (Qm HT_.out (by kernel_rfl)) (fun _ _ _ h => h) (Or.inl ⟨by rfl, ?_⟩) ?_ ?_
    rotate_left
    ·
     intro w'
     go_simp
     with_reducible rfl
    rotate_left
    ·
     simp only [Act.put, List.setIfInBounds_toArray, List.set_cons_zero, List.set_cons_succ, i64_w, i32_w]
     rfl
    refine pure_ (i := 26) (N := some 55) (v := ?_) (a' := ?_) QB55_23 rfl rfl (Qm HT_.out (by kernel_rfl)) (fun _ _ _ h => h) (Or.inl ⟨by rfl, ?_⟩) ?_ ?_
    rotate_left
    ·
     intro w'
     go_simp
     with_reducible rfl
    rotate_left
    ·
     simp only [Act.put, List.setIfInBounds_toArray, List.set_cons_zero, List.set_cons_succ, i64_w, i32_w]
     rfl
    refine pure_ (i := 27) (N := some 56) (v := ?_) (a' := ?_) QB55_24 rfl rfl (Qm HT_.out (by kernel_rfl)) (fun _ _ _ h => h) (Or.inl ⟨by rfl, ?_⟩) ?_ ?_
    rotate_left
    ·
     intro w'
     go_simp
     with_reducible rfl
    rotate_left
    ·
     simp only [Act.put, List.setIfInBounds_toArray, List.set_cons_zero, List.set_cons_succ, i64_w, i32_w]
     rfl
    refine pure_ (i := 28) (N := some 57) (v := ?_) (a' := ?_) QB55_25 rfl rfl (Qm HT_.out (by kernel_rfl)) (fun _ _ _ h => h) (Or.inl ⟨by rfl, ?_⟩) ?_ ?_
    rotate_left
    ·
     intro w'
     go_simp
     with_reducible rfl
    rotate_left
    ·
     simp only [Act.put, List.setIfInBounds_toArray, List.set_cons_zero, List.set_cons_succ, i64_w, i32_w]
     rfl
    refine pure_ (i := 29) (N := some 58) (v := ?_) (a' := ?_) QB55_26 rfl rfl (Qm HT_.out (by kernel_rfl)) (fun _ _ _ h => h) (Or.inl ⟨by rfl, ?_⟩) ?_ ?_
    rotate_left
    ·
     intro w'
     go_simp
     with_reducible rfl
    rotate_left
    ·
     simp only [Act.put, List.setIfInBounds_toArray, List.set_cons_zero, List.set_cons_succ, i64_w, i32_w]
     rfl
    refine take_ (i := 30) (N := some 59) (v := ?_) (a' := ?_) QB55_27 rfl rfl (Qm1 HT_.out HW_.out (by kernel_rfl)) (fun _ _ _ h => h) (Or.inl ⟨by rfl, ?_⟩) hHeld ?_ ?_
    rotate_left
    ·
     rintro w' ⟨s0, s1, s2, s3, s4, s5, s6, s7, s8, s9, s10, s11, s12, s13, s14, s15, s16⟩
     go_simp
     with_reducible rfl
    rotate_left
    ·
     simp only [Act.put, List.setIfInBounds_toArray, List.set_cons_zero, List.set_cons_succ, i64_w, i32_w]
     rfl
    refine one_ (i := 31) (N := some 60) QB55_28 rfl rfl (one_of HT_.out (by kernel_rfl)) (by decide) (fun K hK => ?_)
    refine goes_ Try.func19 (by kernel_rfl) rfl #[.agg #[.bool ((Qg t195 1).f0), .bool ((Qg t195 1).f1), .bool ((Qg t195 1).f2)]] (by rfl) rfl rfl (by (try simp only [List.map_toArray, List.map_cons, List.map_nil]); first | done | rfl | (simp only [List.length_drop, List.length_take]; rfl)) ?_
    with_reducible refine (flow_Text.calls kj3 ((Qg t195 1).f0) ((Qg t195 1).f1) ((Qg t195 1).f2) t209 _ A43.out).mono ?_
    rintro e w51 ⟨rfl, hb⟩
    have HS2_ := (hb.cell (World.block_lt_of_cell? _ _ (hHeld.2.2.1))).trans (hHeld.2.2.1)
    have HS3_ := (hb.cell (World.block_lt_of_cell? _ _ (hHeld.2.2.2.1))).trans (hHeld.2.2.2.1)
    have HS4_ := (hb.cell (World.block_lt_of_cell? _ _ (hHeld.2.2.2.2.1))).trans (hHeld.2.2.2.2.1)
    have HS5_ := (hb.cell (World.block_lt_of_cell? _ _ (hHeld.2.2.2.2.2.1))).trans (hHeld.2.2.2.2.2.1)
    have HS6_ := (hb.cell (World.block_lt_of_cell? _ _ (hHeld.2.2.2.2.2.2.1))).trans (hHeld.2.2.2.2.2.2.1)
    have HS7_ := (hb.cell (World.block_lt_of_cell? _ _ (hHeld.2.2.2.2.2.2.2.1))).trans (hHeld.2.2.2.2.2.2.2.1)
    have HS8_ := (hb.cell (World.block_lt_of_cell? _ _ (hHeld.2.2.2.2.2.2.2.2.1))).trans (hHeld.2.2.2.2.2.2.2.2.1)
    have HS9_ := (hb.cell (World.block_lt_of_cell? _ _ (hHeld.2.2.2.2.2.2.2.2.2.1))).trans (hHeld.2.2.2.2.2.2.2.2.2.1)
    have HS10_ := (hb.cell (World.block_lt_of_cell? _ _ (hHeld.2.2.2.2.2.2.2.2.2.2.1))).trans (hHeld.2.2.2.2.2.2.2.2.2.2.1)
    have HS11_ := (hb.cell (World.block_lt_of_cell? _ _ (hHeld.2.2.2.2.2.2.2.2.2.2.2.1))).trans (hHeld.2.2.2.2.2.2.2.2.2.2.2.1)
    have HS12_ := (hb.cell (World.block_lt_of_cell? _ _ (hHeld.2.2.2.2.2.2.2.2.2.2.2.2.1))).trans (hHeld.2.2.2.2.2.2.2.2.2.2.2.2.1)
    have HS13_ := (hb.cell (World.block_lt_of_cell? _ _ (hHeld.2.2.2.2.2.2.2.2.2.2.2.2.2.1))).trans (hHeld.2.2.2.2.2.2.2.2.2.2.2.2.2.1)
    have HS14_ := (hb.cell (World.block_lt_of_cell? _ _ (hHeld.2.2.2.2.2.2.2.2.2.2.2.2.2.2.1))).trans (hHeld.2.2.2.2.2.2.2.2.2.2.2.2.2.2.1)
    have HS15_ := (hb.cell (World.block_lt_of_cell? _ _ (hHeld.2.2.2.2.2.2.2.2.2.2.2.2.2.2.2.1))).trans (hHeld.2.2.2.2.2.2.2.2.2.2.2.2.2.2.2.1)
    have HS16_ := (hb.cell (World.block_lt_of_cell? _ _ (hHeld.2.2.2.2.2.2.2.2.2.2.2.2.2.2.2.2))).trans (hHeld.2.2.2.2.2.2.2.2.2.2.2.2.2.2.2.2)
    refine ⟨_, rfl, ?_⟩
    have n0_ := Qa.mk (Kd.Qd1 (by (with_reducible repeat (first | apply Kd.Qq | apply Kd.Qr | apply Kd.Qo)); exact HO_2.out) hb)
    have n1_ := Qa.mk (Kd.Qd1 (by (with_reducible repeat (first | apply Kd.Qq | apply Kd.Qr | apply Kd.Qo)); exact HO_3.out) hb)
    have n2_ := Qa.mk (Kd.Qd1 (by (with_reducible repeat (first | apply Kd.Qq | apply Kd.Qr | apply Kd.Qo)); exact HO_189000.out) hb)
    have n3_ := Qa.mk (Kd.N_below (by (with_reducible repeat (first | apply Kd.N_alloc | apply Kd.N_drewN | apply Kd.N_drew)); exact HO_189001.out) hb)
    have n4_ := Qa.mk (Qs (g := gb188) (o := .cells #[.slice Ao16 y176.length co16, .slice Ao15 y185.length co15] 25 (0, 0)) (by (with_reducible repeat (first | refine Qd ?_ _ | refine Qb ?_ | refine Qc ?_ _)); exact BK188.out) hb)
    have n5_ := Qa.mk (Qv (by with_reducible repeat (first | exact HB.out | apply Qk | apply Ql | apply Qj | refine Qi ?_ GE188.out)) hb)
    clear HO_2
    clear HO_3
    clear HO_189000
    clear HO_189001
    clear BK188
    clear HB
    have HO_2 := n0_
    have HO_3 := n1_
    have HO_189000 := n2_
    have HO_189001 := n3_
    have BK188 := n4_
    have HB := n5_
    clear n0_ n1_ n2_ n3_ n4_ n5_
    (try clear hb; try clear hb2; try clear hk; try clear hi)
    refine hK.out _ _ ⟨(Qe BK188.out 0).trans rfl, (Qe BK188.out 1).trans rfl, HS2_, HS3_, HS4_, HS5_, HS6_, HS7_, HS8_, HS9_, HS10_, HS11_, HS12_, HS13_, HS14_, HS15_, HS16_⟩ (fun hHeld => ?_)
    clear hK K
    refine norm_ (a' := ?_) ?_ ?_
    rotate_left
    ·
     show Act.put _ (some 60) _ = _
     simp only [Act.put, List.setIfInBounds_toArray, List.set_cons_zero, List.set_cons_succ, i64_w, i32_w]
     rfl
    refine pure_ (i := 32) (N := some 61) (v := ?_) (a' := ?_) QB55_29 rfl rfl (Qm HT_.out (by kernel_rfl)) (fun _ _ _ h => h) (Or.inl ⟨by rfl, ?_⟩) ?_ ?_
    rotate_left
    ·
     intro w'
     go_simp
     with_reducible rfl
    rotate_left
    ·
     simp only [Act.put, List.setIfInBounds_toArray, List.set_cons_zero, List.set_cons_succ, i64_w, i32_w]
     rfl
    refine pure_ (i := 33) (N := some 62) (v := ?_) (a' := ?_) QB55_30 rfl rfl (Qm HT_.out (by kernel_rfl)) (fun _ _ _ h => h) (Or.inl ⟨by rfl, ?_⟩) ?_ ?_
    rotate_left
    ·
     intro w'
     go_simp
     with_reducible rfl
    rotate_left
    ·
     simp only [Act.put, List.setIfInBounds_toArray, List.set_cons_zero, List.set_cons_succ, i64_w, i32_w]
     rfl
    refine pure_ (i := 34) (N := some 0) (v := ?_) (a' := ?_) QB55_31 rfl rfl (Qm HT_.out (by kernel_rfl)) (fun _ _ _ h => h) (Or.inl ⟨by rfl, ?_⟩) ?_ ?_
    rotate_left
    ·
     intro w'
     go_simp
     with_reducible rfl
    rotate_left
    ·
     simp only [Act.put, List.setIfInBounds_toArray, List.set_cons_zero, List.set_cons_succ, i64_w, i32_w]
     rfl
    refine done_ (done_of HT_.out (by kernel_rfl)) ?_
    try go_wp2
    go_ret
    exact ⟨by first | rfl | (simp [Qw, Qx] <;> rfl) | (simp [*, Qw, Qx] <;> rfl), by with_reducible repeat (first | exact HB.out | apply Qk | apply Ql | apply Qj | refine Qi ?_ GE188.out)⟩
   rw [if_neg c41] at H
   have c41b0 : (t207.toList == ([101, 102] : List UInt8)) = false := beq_eq_false_iff_ne.mpr c41
   have c41b1 : (t207.toList != ([101, 102] : List UInt8)) = true := bne_iff_ne.mpr c41
   obtain rfl := Option.some.inj H
   try go_wp2
   have n0_ := Qa.mk (Kd.Qo HO_2.out)
   have n1_ := Qa.mk (Kd.Qo HO_3.out)
   have n2_ := Qa.mk (Kd.Qo HO_189000.out)
   have n3_ := Qa.mk (Kd.N_drew HO_189001.out)
   have n4_ := Qa.mk (Qb BK188.out)
   have n5_ := Qa.mk (Qj HB.out)
   clear HO_2
   clear HO_3
   clear HO_189000
   clear HO_189001
   clear BK188
   clear HB
   have HO_2 := n0_
   have HO_3 := n1_
   have HO_189000 := n2_
   have HO_189001 := n3_
   have BK188 := n4_
   have HB := n5_
   clear n0_ n1_ n2_ n3_ n4_ n5_
   obtain ⟨Ao53, co53, eo53⟩ := Kd.R_slice HO_2.out
   (first | subst eo53 | (injection eo53 with f1_ f2_ f3_; have f4_ := f1_.symm; have f5_ := f3_.symm; clear f1_ f2_ f3_; subst f4_; subst f5_))
   have p198 : 0 ≤ (2 : Int) := (by omega)
   have q198 : 2 < (t189.length : Int) := of_decide_eq_true (by assumption)
   obtain ⟨ad198, e198, hx198_0, hx198_1, hx198_2⟩ := at_T36 (Kd.R_reads' HO_2.out).2.2 2 p198 q198
   cases e198
   (try simp only [show (2 : Int).toNat = 2 from rfl, Nat.reduceMul, Nat.reduceEqDiff, Go.Addr.add, ↓reduceIte] at hx198_0)
   (try simp only [show (2 : Int).toNat = 2 from rfl, Nat.reduceMul, Nat.reduceEqDiff, Go.Addr.add, ↓reduceIte] at hx198_1)
   (try simp only [show (2 : Int).toNat = 2 from rfl, Nat.reduceMul, Nat.reduceEqDiff, Go.Addr.add, ↓reduceIte] at hx198_2)
   have qi198 : (2 < t189.length) = True := eq_true (by omega)
   (try rw [show ((2 : Int)).toNat = 2 from rfl] at hx198_0)
   (try rw [show 2 * 3 = 6 from rfl] at hx198_0)
   (try rw [show ((2 : Int)).toNat = 2 from rfl] at hx198_1)
   (try rw [show 2 * 3 = 6 from rfl] at hx198_1)
   (try rw [show ((2 : Int)).toNat = 2 from rfl] at hx198_2)
   (try rw [show 2 * 3 = 6 from rfl] at hx198_2)
   replace p198 := eq_true p198
   replace q198 := eq_true q198
   have p200 : 0 ≤ (4 : Int) := (by omega)
   have q200 : 4 < (t189.length : Int) := of_decide_eq_true (by assumption)
   obtain ⟨ad200, e200, hx200_0, hx200_1, hx200_2⟩ := at_T36 (Kd.R_reads' HO_2.out).2.2 4 p200 q200
   obtain rfl : ad198 = ad200 := (by injection e200)
   (try simp only [show (4 : Int).toNat = 4 from rfl, Nat.reduceMul, Nat.reduceEqDiff, Go.Addr.add, ↓reduceIte] at hx200_0)
   (try simp only [show (4 : Int).toNat = 4 from rfl, Nat.reduceMul, Nat.reduceEqDiff, Go.Addr.add, ↓reduceIte] at hx200_1)
   (try simp only [show (4 : Int).toNat = 4 from rfl, Nat.reduceMul, Nat.reduceEqDiff, Go.Addr.add, ↓reduceIte] at hx200_2)
   have qi200 : (4 < t189.length) = True := eq_true (by omega)
   (try rw [show ((4 : Int)).toNat = 4 from rfl] at hx200_0)
   (try rw [show 4 * 3 = 12 from rfl] at hx200_0)
   (try rw [show ((4 : Int)).toNat = 4 from rfl] at hx200_1)
   (try rw [show 4 * 3 = 12 from rfl] at hx200_1)
   (try rw [show ((4 : Int)).toNat = 4 from rfl] at hx200_2)
   (try rw [show 4 * 3 = 12 from rfl] at hx200_2)
   replace p200 := eq_true p200
   replace q200 := eq_true q200
   have p205 : 0 ≤ (4 : Int) := (by omega)
   have q205 : 4 < (t189.length : Int) := of_decide_eq_true (by assumption)
   obtain ⟨ad205, e205, hx205_0, hx205_1, hx205_2⟩ := at_T36 (Kd.R_reads' HO_2.out).2.2 4 p205 q205
   obtain rfl : ad198 = ad205 := (by injection e205)
   (try simp only [show (4 : Int).toNat = 4 from rfl, Nat.reduceMul, Nat.reduceEqDiff, Go.Addr.add, ↓reduceIte] at hx205_0)
   (try simp only [show (4 : Int).toNat = 4 from rfl, Nat.reduceMul, Nat.reduceEqDiff, Go.Addr.add, ↓reduceIte] at hx205_1)
   (try simp only [show (4 : Int).toNat = 4 from rfl, Nat.reduceMul, Nat.reduceEqDiff, Go.Addr.add, ↓reduceIte] at hx205_2)
   have qi205 : (4 < t189.length) = True := eq_true (by omega)
   (try rw [show ((4 : Int)).toNat = 4 from rfl] at hx205_0)
   (try rw [show 4 * 3 = 12 from rfl] at hx205_0)
   (try rw [show ((4 : Int)).toNat = 4 from rfl] at hx205_1)
   (try rw [show 4 * 3 = 12 from rfl] at hx205_1)
   (try rw [show ((4 : Int)).toNat = 4 from rfl] at hx205_2)
   (try rw [show 4 * 3 = 12 from rfl] at hx205_2)
   replace p205 := eq_true p205
   replace q205 := eq_true q205
   (obtain ⟨Ao_, co_, eo_⟩ := Kd.R_slice HO_3.out; first | subst eo_ | skip)
   have p206 : 0 ≤ (0 : Int) := (by omega)
   have q206 : 0 < (t195.length : Int) := of_decide_eq_true (by assumption)
   obtain ⟨ad206, e206, hx206_0, hx206_1, hx206_2⟩ := at_T36 (Kd.R_reads' HO_3.out).2.2 0 p206 q206
   cases e206
   have qi206 : (0 < t195.length) = True := eq_true (by omega)
   (try rw [show ((0 : Int)).toNat = 0 from rfl] at hx206_0)
   (try rw [show 0 * 3 = 0 from rfl] at hx206_0)
   (try rw [Addr.add_zero'] at hx206_0)
   (try rw [show ((0 : Int)).toNat = 0 from rfl] at hx206_1)
   (try rw [show 0 * 3 = 0 from rfl] at hx206_1)
   (try rw [Addr.add_zero'] at hx206_1)
   (try rw [show ((0 : Int)).toNat = 0 from rfl] at hx206_2)
   (try rw [show 0 * 3 = 0 from rfl] at hx206_2)
   (try rw [Addr.add_zero'] at hx206_2)
   replace p206 := eq_true p206
   replace q206 := eq_true q206
   refine start_ (n := 35) (S := fun w' => w'.cell? ⟨gb188, 0, none⟩ = some (.slice Ao16 y176.length co16) ∧ w'.cell? ⟨gb188, 1, none⟩ = some (.slice Ao15 y185.length co15) ∧ w'.cell? ⟨ad198.block, ad198.off + 6, none⟩ = some (.bool ((Qg t189 2).f0)) ∧ w'.cell? ⟨ad198.block, ad198.off + 6 + 1, none⟩ = some (.bool ((Qg t189 2).f1)) ∧ w'.cell? ⟨ad198.block, ad198.off + 6 + 2, none⟩ = some (.bool ((Qg t189 2).f2)) ∧ w'.cell? ⟨ad198.block, ad198.off + 12, none⟩ = some (.bool ((Qg t189 4).f0)) ∧ w'.cell? ⟨ad198.block, ad198.off + 12 + 1, none⟩ = some (.bool ((Qg t189 4).f1)) ∧ w'.cell? ⟨ad198.block, ad198.off + 12 + 2, none⟩ = some (.bool ((Qg t189 4).f2)) ∧ w'.cell? ⟨ad198.block, ad198.off + 12, none⟩ = some (.bool ((Qg t189 4).f0)) ∧ w'.cell? ⟨ad198.block, ad198.off + 12 + 1, none⟩ = some (.bool ((Qg t189 4).f1)) ∧ w'.cell? ⟨ad198.block, ad198.off + 12 + 2, none⟩ = some (.bool ((Qg t189 4).f2)) ∧ w'.cell? ad206 = some (.bool ((Qg t195 0).f0)) ∧ w'.cell? ⟨ad206.block, ad206.off + 1, none⟩ = some (.bool ((Qg t195 0).f1)) ∧ w'.cell? ⟨ad206.block, ad206.off + 2, none⟩ = some (.bool ((Qg t195 0).f2))) (ds := []) QB55_0 (by kernel_rfl) rfl rfl ⟨(Qe BK188.out 0).trans rfl, (Qe BK188.out 1).trans rfl, hx198_0, hx198_1, hx198_2, hx200_0, hx200_1, hx200_2, hx205_0, hx205_1, hx205_2, hx206_0, hx206_1, hx206_2⟩ (fun hHeld => ?_); refine with_tabW Qj1.tab6 Qj1.bits6 (fun HT_ HW_ => ?_)
   generalize wc.drew = w52 at HO_2 HO_3 HO_189000 HO_189001 BK188 HB hx198_0 hx198_1 hx198_2 hx200_0 hx200_1 hx200_2 hx205_0 hx205_1 hx205_2 hx206_0 hx206_1 hx206_2 hHeld ⊢
   refine pure_ (i := 0) (N := some 29) (v := ?_) (a' := ?_) QB55_1 rfl rfl (Qm HT_.out (by kernel_rfl)) (fun _ _ _ h => h) (Or.inl ⟨by rfl, ?_⟩) ?_ ?_
   rotate_left
   ·
    intro w'
    go_simp
    with_reducible rfl
   rotate_left
   ·
    simp only [Act.put, List.setIfInBounds_toArray, List.set_cons_zero, List.set_cons_succ, i64_w, i32_w]
    rfl
   refine pure_ (i := 1) (N := some 30) (v := ?_) (a' := ?_) QB55_2 rfl rfl (Qm HT_.out (by kernel_rfl)) (fun _ _ _ h => h) (Or.inl ⟨by rfl, ?_⟩) ?_ ?_
   rotate_left
   ·
    intro w'
    go_simp
    with_reducible rfl
   rotate_left
   ·
    simp only [Act.put, List.setIfInBounds_toArray, List.set_cons_zero, List.set_cons_succ, i64_w, i32_w]
    rfl
   refine take_ (i := 2) (N := some 31) (v := ?_) (a' := ?_) QB55_3 rfl rfl (Qm1 HT_.out HW_.out (by kernel_rfl)) (fun _ _ _ h => h) (Or.inl ⟨by rfl, ?_⟩) hHeld ?_ ?_
   rotate_left
   ·
    rintro w' ⟨s0, s1, s2, s3, s4, s5, s6, s7, s8, s9, s10, s11, s12, s13⟩
    go_simp
    with_reducible rfl
   rotate_left
   ·
    simp only [Act.put, List.setIfInBounds_toArray, List.set_cons_zero, List.set_cons_succ, i64_w, i32_w]
    rfl
   refine one_ (i := 3) (N := some 32) QB55_4 rfl rfl (one_of HT_.out (by kernel_rfl)) (by decide) (fun K hK => ?_)
   refine goes_ Try.func19 (by kernel_rfl) rfl #[.agg #[.bool ((Qg t189 2).f0), .bool ((Qg t189 2).f1), .bool ((Qg t189 2).f2)]] (by rfl) rfl rfl (by (try simp only [List.map_toArray, List.map_cons, List.map_nil]); first | done | rfl | (simp only [List.length_drop, List.length_take]; rfl)) ?_
   with_reducible refine (flow_Text.calls kj3 ((Qg t189 2).f0) ((Qg t189 2).f1) ((Qg t189 2).f2) t199 _ A32.out).mono ?_
   rintro e w54 ⟨rfl, hb⟩
   have HS2_ := (hb.cell (World.block_lt_of_cell? _ _ (hHeld.2.2.1))).trans (hHeld.2.2.1)
   have HS3_ := (hb.cell (World.block_lt_of_cell? _ _ (hHeld.2.2.2.1))).trans (hHeld.2.2.2.1)
   have HS4_ := (hb.cell (World.block_lt_of_cell? _ _ (hHeld.2.2.2.2.1))).trans (hHeld.2.2.2.2.1)
   have HS5_ := (hb.cell (World.block_lt_of_cell? _ _ (hHeld.2.2.2.2.2.1))).trans (hHeld.2.2.2.2.2.1)
   have HS6_ := (hb.cell (World.block_lt_of_cell? _ _ (hHeld.2.2.2.2.2.2.1))).trans (hHeld.2.2.2.2.2.2.1)
   have HS7_ := (hb.cell (World.block_lt_of_cell? _ _ (hHeld.2.2.2.2.2.2.2.1))).trans (hHeld.2.2.2.2.2.2.2.1)
   have HS8_ := (hb.cell (World.block_lt_of_cell? _ _ (hHeld.2.2.2.2.2.2.2.2.1))).trans (hHeld.2.2.2.2.2.2.2.2.1)
   have HS9_ := (hb.cell (World.block_lt_of_cell? _ _ (hHeld.2.2.2.2.2.2.2.2.2.1))).trans (hHeld.2.2.2.2.2.2.2.2.2.1)
   have HS10_ := (hb.cell (World.block_lt_of_cell? _ _ (hHeld.2.2.2.2.2.2.2.2.2.2.1))).trans (hHeld.2.2.2.2.2.2.2.2.2.2.1)
   have HS11_ := (hb.cell (World.block_lt_of_cell? _ _ (hHeld.2.2.2.2.2.2.2.2.2.2.2.1))).trans (hHeld.2.2.2.2.2.2.2.2.2.2.2.1)
   have HS12_ := (hb.cell (World.block_lt_of_cell? _ _ (hHeld.2.2.2.2.2.2.2.2.2.2.2.2.1))).trans (hHeld.2.2.2.2.2.2.2.2.2.2.2.2.1)
   have HS13_ := (hb.cell (World.block_lt_of_cell? _ _ (hHeld.2.2.2.2.2.2.2.2.2.2.2.2.2))).trans (hHeld.2.2.2.2.2.2.2.2.2.2.2.2.2)
   refine ⟨_, rfl, ?_⟩
   have n0_ := Qa.mk (Kd.Qd1 (by (with_reducible repeat (first | apply Kd.Qq | apply Kd.Qr | apply Kd.Qo)); exact HO_2.out) hb)
   have n1_ := Qa.mk (Kd.Qd1 (by (with_reducible repeat (first | apply Kd.Qq | apply Kd.Qr | apply Kd.Qo)); exact HO_3.out) hb)
   have n2_ := Qa.mk (Kd.Qd1 (by (with_reducible repeat (first | apply Kd.Qq | apply Kd.Qr | apply Kd.Qo)); exact HO_189000.out) hb)
   have n3_ := Qa.mk (Kd.N_below (by (with_reducible repeat (first | apply Kd.N_alloc | apply Kd.N_drewN | apply Kd.N_drew)); exact HO_189001.out) hb)
   have n4_ := Qa.mk (Qs (g := gb188) (o := .cells #[.slice Ao16 y176.length co16, .slice Ao15 y185.length co15] 25 (0, 0)) (by (with_reducible repeat (first | refine Qd ?_ _ | refine Qb ?_ | refine Qc ?_ _)); exact BK188.out) hb)
   have n5_ := Qa.mk (Qv (by with_reducible repeat (first | exact HB.out | apply Qk | apply Ql | apply Qj | refine Qi ?_ GE188.out)) hb)
   clear HO_2
   clear HO_3
   clear HO_189000
   clear HO_189001
   clear BK188
   clear HB
   have HO_2 := n0_
   have HO_3 := n1_
   have HO_189000 := n2_
   have HO_189001 := n3_
   have BK188 := n4_
   have HB := n5_
   clear n0_ n1_ n2_ n3_ n4_ n5_
   (try clear hb; try clear hb2; try clear hk; try clear hi)
   refine hK.out _ _ ⟨(Qe BK188.out 0).trans rfl, (Qe BK188.out 1).trans rfl, HS2_, HS3_, HS4_, HS5_, HS6_, HS7_, HS8_, HS9_, HS10_, HS11_, HS12_, HS13_⟩ (fun hHeld => ?_)
   clear hK K
   refine norm_ (a' := ?_) ?_ ?_
   rotate_left
   ·
    show Act.put _ (some 32) _ = _
    simp only [Act.put, List.setIfInBounds_toArray, List.set_cons_zero, List.set_cons_succ, i64_w, i32_w]
    rfl
   refine pure_ (i := 4) (N := some 33) (v := ?_) (a' := ?_) QB55_5 rfl rfl (Qm HT_.out (by kernel_rfl)) (fun _ _ _ h => h) (Or.inl ⟨by rfl, ?_⟩) ?_ ?_
   rotate_left
   ·
    intro w'
    go_simp
    with_reducible rfl
   rotate_left
   ·
    simp only [Act.put, List.setIfInBounds_toArray, List.set_cons_zero, List.set_cons_succ, i64_w, i32_w]
    rfl
   refine pure_ (i := 5) (N := some 34) (v := ?_) (a' := ?_) QB55_6 rfl rfl (Qm HT_.out (by kernel_rfl)) (fun _ _ _ h => h) (Or.inl ⟨by rfl, ?_⟩) ?_ ?_
   rotate_left
   ·
    intro w'
    go_simp
    with_reducible rfl
   rotate_left
   ·
    simp only [Act.put, List.setIfInBounds_toArray, List.set_cons_zero, List.set_cons_succ, i64_w, i32_w]
    rfl
   refine pure_ (i := 6) (N := some 35) (v := ?_) (a' := ?_) QB55_7 rfl rfl (Qm HT_.out (by kernel_rfl)) (fun _ _ _ h => h) (Or.inl ⟨by rfl, ?_⟩) ?_ ?_
   rotate_left
   ·
    intro w'
    go_simp
    with_reducible rfl
   rotate_left
   ·
    simp only [Act.put, List.setIfInBounds_toArray, List.set_cons_zero, List.set_cons_succ, i64_w, i32_w]
    rfl
   refine pure_ (i := 7) (N := some 36) (v := ?_) (a' := ?_) QB55_8 rfl rfl (Qm HT_.out (by kernel_rfl)) (fun _ _ _ h => h) (Or.inl ⟨by rfl, ?_⟩) ?_ ?_
   rotate_left
   ·
    intro w'
    go_simp
    with_reducible rfl
   rotate_left
   ·
    simp only [Act.put, List.setIfInBounds_toArray, List.set_cons_zero, List.set_cons_succ, i64_w, i32_w]
    rfl
   refine take_ (i := 8) (N := some 37) (v := ?_) (a' := ?_) QB55_9 rfl rfl (Qm1 HT_.out HW_.out (by kernel_rfl)) (fun _ _ _ h => h) (Or.inl ⟨by rfl, ?_⟩) hHeld ?_ ?_
   rotate_left
   ·
    rintro w' ⟨s0, s1, s2, s3, s4, s5, s6, s7, s8, s9, s10, s11, s12, s13⟩
    go_simp
    with_reducible rfl
   rotate_left
   ·
    simp only [Act.put, List.setIfInBounds_toArray, List.set_cons_zero, List.set_cons_succ, i64_w, i32_w]
    rfl
   refine one_ (i := 9) (N := some 38) QB55_10 rfl rfl (one_of HT_.out (by kernel_rfl)) (by decide) (fun K hK => ?_)
   refine goes_ Try.func19 (by kernel_rfl) rfl #[.agg #[.bool ((Qg t189 4).f0), .bool ((Qg t189 4).f1), .bool ((Qg t189 4).f2)]] (by rfl) rfl rfl (by (try simp only [List.map_toArray, List.map_cons, List.map_nil]); first | done | rfl | (simp only [List.length_drop, List.length_take]; rfl)) ?_
   with_reducible refine (flow_Text.calls kj3 ((Qg t189 4).f0) ((Qg t189 4).f1) ((Qg t189 4).f2) t201 _ A35.out).mono ?_
   rintro e w55 ⟨rfl, hb⟩
   have HS2_ := (hb.cell (World.block_lt_of_cell? _ _ (hHeld.2.2.1))).trans (hHeld.2.2.1)
   have HS3_ := (hb.cell (World.block_lt_of_cell? _ _ (hHeld.2.2.2.1))).trans (hHeld.2.2.2.1)
   have HS4_ := (hb.cell (World.block_lt_of_cell? _ _ (hHeld.2.2.2.2.1))).trans (hHeld.2.2.2.2.1)
   have HS5_ := (hb.cell (World.block_lt_of_cell? _ _ (hHeld.2.2.2.2.2.1))).trans (hHeld.2.2.2.2.2.1)
   have HS6_ := (hb.cell (World.block_lt_of_cell? _ _ (hHeld.2.2.2.2.2.2.1))).trans (hHeld.2.2.2.2.2.2.1)
   have HS7_ := (hb.cell (World.block_lt_of_cell? _ _ (hHeld.2.2.2.2.2.2.2.1))).trans (hHeld.2.2.2.2.2.2.2.1)
   have HS8_ := (hb.cell (World.block_lt_of_cell? _ _ (hHeld.2.2.2.2.2.2.2.2.1))).trans (hHeld.2.2.2.2.2.2.2.2.1)
   have HS9_ := (hb.cell (World.block_lt_of_cell? _ _ (hHeld.2.2.2.2.2.2.2.2.2.1))).trans (hHeld.2.2.2.2.2.2.2.2.2.1)
   have HS10_ := (hb.cell (World.block_lt_of_cell? _ _ (hHeld.2.2.2.2.2.2.2.2.2.2.1))).trans (hHeld.2.2.2.2.2.2.2.2.2.2.1)
   have HS11_ := (hb.cell (World.block_lt_of_cell? _ _ (hHeld.2.2.2.2.2.2.2.2.2.2.2.1))).trans (hHeld.2.2.2.2.2.2.2.2.2.2.2.1)
   have HS12_ := (hb.cell (World.block_lt_of_cell? _ _ (hHeld.2.2.2.2.2.2.2.2.2.2.2.2.1))).trans (hHeld.2.2.2.2.2.2.2.2.2.2.2.2.1)
   have HS13_ := (hb.cell (World.block_lt_of_cell? _ _ (hHeld.2.2.2.2.2.2.2.2.2.2.2.2.2))).trans (hHeld.2.2.2.2.2.2.2.2.2.2.2.2.2)
   refine ⟨_, rfl, ?_⟩
   have n0_ := Qa.mk (Kd.Qd1 (by (with_reducible repeat (first | apply Kd.Qq | apply Kd.Qr | apply Kd.Qo)); exact HO_2.out) hb)
   have n1_ := Qa.mk (Kd.Qd1 (by (with_reducible repeat (first | apply Kd.Qq | apply Kd.Qr | apply Kd.Qo)); exact HO_3.out) hb)
   have n2_ := Qa.mk (Kd.Qd1 (by (with_reducible repeat (first | apply Kd.Qq | apply Kd.Qr | apply Kd.Qo)); exact HO_189000.out) hb)
   have n3_ := Qa.mk (Kd.N_below (by (with_reducible repeat (first | apply Kd.N_alloc | apply Kd.N_drewN | apply Kd.N_drew)); exact HO_189001.out) hb)
   have n4_ := Qa.mk (Qs (g := gb188) (o := .cells #[.slice Ao16 y176.length co16, .slice Ao15 y185.length co15] 25 (0, 0)) (by (with_reducible repeat (first | refine Qd ?_ _ | refine Qb ?_ | refine Qc ?_ _)); exact BK188.out) hb)
   have n5_ := Qa.mk (Qv (by with_reducible repeat (first | exact HB.out | apply Qk | apply Ql | apply Qj | refine Qi ?_ GE188.out)) hb)
   clear HO_2
   clear HO_3
   clear HO_189000
   clear HO_189001
   clear BK188
   clear HB
   have HO_2 := n0_
   have HO_3 := n1_
   have HO_189000 := n2_
   have HO_189001 := n3_
   have BK188 := n4_
   have HB := n5_
   clear n0_ n1_ n2_ n3_ n4_ n5_
   (try clear hb; try clear hb2; try clear hk; try clear hi)
   refine hK.out _ _ ⟨(Qe BK188.out 0).trans rfl, (Qe BK188.out 1).trans rfl, HS2_, HS3_, HS4_, HS5_, HS6_, HS7_, HS8_, HS9_, HS10_, HS11_, HS12_, HS13_⟩ (fun hHeld => ?_)
   clear hK K
   refine norm_ (a' := ?_) ?_ ?_
   rotate_left
   ·
    show Act.put _ (some 38) _ = _
    simp only [Act.put, List.setIfInBounds_toArray, List.set_cons_zero, List.set_cons_succ, i64_w, i32_w]
    rfl
   refine pure_ (i := 10) (N := some 39) (v := ?_) (a' := ?_) QB55_11 rfl rfl (Qm HT_.out (by kernel_rfl)) (fun _ _ _ h => h) (Or.inl ⟨by rfl, ?_⟩) ?_ ?_
   rotate_left
   ·
    intro w'
    go_simp
    with_reducible rfl
   rotate_left
   ·
    simp only [Act.put, List.setIfInBounds_toArray, List.set_cons_zero, List.set_cons_succ, i64_w, i32_w]
    rfl
   refine pure_ (i := 11) (N := some 40) (v := ?_) (a' := ?_) QB55_12 rfl rfl (Qm HT_.out (by kernel_rfl)) (fun _ _ _ h => h) (Or.inl ⟨by rfl, ?_⟩) ?_ ?_
   rotate_left
   ·
    intro w'
    go_simp
    with_reducible rfl
   rotate_left
   ·
    simp only [Act.put, List.setIfInBounds_toArray, List.set_cons_zero, List.set_cons_succ, i64_w, i32_w]
    rfl
   refine pure_ (i := 12) (N := some 41) (v := ?_) (a' := ?_) QB55_13 rfl rfl (Qm HT_.out (by kernel_rfl)) (fun _ _ _ h => h) (Or.inl ⟨by rfl, ?_⟩) ?_ ?_
   rotate_left
   ·
    intro w'
    go_simp
    with_reducible rfl
   rotate_left
   ·
    simp only [Act.put, List.setIfInBounds_toArray, List.set_cons_zero, List.set_cons_succ, i64_w, i32_w]
    rfl
   refine pure_ (i := 15) (N := some 44) (v := ?_) (a' := ?_) QB55_32 rfl rfl (Qm HT_.out (by kernel_rfl)) (fun _ _ _ h => h) (Or.inl ⟨by rfl, ?_⟩) ?_ ?_
   rotate_left
   ·
    intro w'
    go_simp
    with_reducible rfl
   rotate_left
   ·
    simp only [Act.put, List.setIfInBounds_toArray, List.set_cons_zero, List.set_cons_succ, i64_w, i32_w]
    rfl
   refine pure_ (i := 16) (N := some 45) (v := ?_) (a' := ?_) QB55_33 rfl rfl (Qm HT_.out (by kernel_rfl)) (fun _ _ _ h => h) (Or.inl ⟨by rfl, ?_⟩) ?_ ?_
   rotate_left
   ·
    intro w'
    go_simp
    with_reducible rfl
   rotate_left
   ·
    simp only [Act.put, List.setIfInBounds_toArray, List.set_cons_zero, List.set_cons_succ, i64_w, i32_w]
    rfl
   refine take_ (i := 13) (N := some 42) (v := ?_) (a' := ?_) QB55_34 rfl rfl (Qm1 HT_.out HW_.out (by kernel_rfl)) (fun _ _ _ h => h) (Or.inl ⟨by rfl, ?_⟩) hHeld ?_ ?_
   rotate_left
   ·
    rintro w' ⟨s0, s1, s2, s3, s4, s5, s6, s7, s8, s9, s10, s11, s12, s13⟩
    go_simp
    with_reducible rfl
   rotate_left
   ·
    simp only [Act.put, List.setIfInBounds_toArray, List.set_cons_zero, List.set_cons_succ, i64_w, i32_w]
    rfl
   refine take_ (i := 17) (N := some 46) (v := ?_) (a' := ?_) QB55_35 rfl rfl (Qm1 HT_.out HW_.out (by kernel_rfl)) (fun _ _ _ h => h) (Or.inl ⟨by rfl, ?_⟩) hHeld ?_ ?_
   rotate_left
   ·
    rintro w' ⟨s0, s1, s2, s3, s4, s5, s6, s7, s8, s9, s10, s11, s12, s13⟩
    go_simp
    with_reducible rfl
   rotate_left
   ·
    simp only [Act.put, List.setIfInBounds_toArray, List.set_cons_zero, List.set_cons_succ, i64_w, i32_w]
    rfl
   refine one_ (i := 14) (N := some 43) QB55_14 rfl rfl (one_of HT_.out (by kernel_rfl)) (by decide) (fun K hK => ?_)
   refine goes_ Try.func14 (by kernel_rfl) rfl #[.agg #[.slice Ao16 y176.length co16, .slice Ao15 y185.length co15], .int .i64 0] (by rfl) rfl rfl (by (try simp only [List.map_toArray, List.map_cons, List.map_nil]); first | done | rfl | (simp only [List.length_drop, List.length_take]; rfl)) ?_
   with_reducible refine (flow_Rule.calls kj3 _ _ y176 _ _ y185 0 t202 t203 t204 _ ?side1 ?side2 ?side3 ?side4 A37.out).mono ?_
   (case side1 => repeat (first | exact (Kd.R_reads' HO_189000.out).2.2 | (with_reducible refine Kd.Qf1 ?_ _) | (with_reducible refine Kd.Qe1 ?_ _) | (with_reducible refine Kd.C_drew ?_)))
   (case side2 => exact (Kd.R_reads' HO_189000.out).2.1)
   (case side3 => repeat (first | exact (Kd.N_reads' HO_189001.out).2.2 | (with_reducible refine Kd.Qf1 ?_ _) | (with_reducible refine Kd.Qe1 ?_ _) | (with_reducible refine Kd.C_drew ?_)))
   (case side4 => exact (Kd.N_reads' HO_189001.out).2.1)
   rintro e w56 ⟨rfl, hb⟩
   have HS2_ := (hb.cell (World.block_lt_of_cell? _ _ (hHeld.2.2.1))).trans (hHeld.2.2.1)
   have HS3_ := (hb.cell (World.block_lt_of_cell? _ _ (hHeld.2.2.2.1))).trans (hHeld.2.2.2.1)
   have HS4_ := (hb.cell (World.block_lt_of_cell? _ _ (hHeld.2.2.2.2.1))).trans (hHeld.2.2.2.2.1)
   have HS5_ := (hb.cell (World.block_lt_of_cell? _ _ (hHeld.2.2.2.2.2.1))).trans (hHeld.2.2.2.2.2.1)
   have HS6_ := (hb.cell (World.block_lt_of_cell? _ _ (hHeld.2.2.2.2.2.2.1))).trans (hHeld.2.2.2.2.2.2.1)
   have HS7_ := (hb.cell (World.block_lt_of_cell? _ _ (hHeld.2.2.2.2.2.2.2.1))).trans (hHeld.2.2.2.2.2.2.2.1)
   have HS8_ := (hb.cell (World.block_lt_of_cell? _ _ (hHeld.2.2.2.2.2.2.2.2.1))).trans (hHeld.2.2.2.2.2.2.2.2.1)
   have HS9_ := (hb.cell (World.block_lt_of_cell? _ _ (hHeld.2.2.2.2.2.2.2.2.2.1))).trans (hHeld.2.2.2.2.2.2.2.2.2.1)
   have HS10_ := (hb.cell (World.block_lt_of_cell? _ _ (hHeld.2.2.2.2.2.2.2.2.2.2.1))).trans (hHeld.2.2.2.2.2.2.2.2.2.2.1)
   have HS11_ := (hb.cell (World.block_lt_of_cell? _ _ (hHeld.2.2.2.2.2.2.2.2.2.2.2.1))).trans (hHeld.2.2.2.2.2.2.2.2.2.2.2.1)
   have HS12_ := (hb.cell (World.block_lt_of_cell? _ _ (hHeld.2.2.2.2.2.2.2.2.2.2.2.2.1))).trans (hHeld.2.2.2.2.2.2.2.2.2.2.2.2.1)
   have HS13_ := (hb.cell (World.block_lt_of_cell? _ _ (hHeld.2.2.2.2.2.2.2.2.2.2.2.2.2))).trans (hHeld.2.2.2.2.2.2.2.2.2.2.2.2.2)
   refine ⟨_, rfl, ?_⟩
   have n0_ := Qa.mk (Kd.Qd1 (by (with_reducible repeat (first | apply Kd.Qq | apply Kd.Qr | apply Kd.Qo)); exact HO_2.out) hb)
   have n1_ := Qa.mk (Kd.Qd1 (by (with_reducible repeat (first | apply Kd.Qq | apply Kd.Qr | apply Kd.Qo)); exact HO_3.out) hb)
   have n2_ := Qa.mk (Kd.Qd1 (by (with_reducible repeat (first | apply Kd.Qq | apply Kd.Qr | apply Kd.Qo)); exact HO_189000.out) hb)
   have n3_ := Qa.mk (Kd.N_below (by (with_reducible repeat (first | apply Kd.N_alloc | apply Kd.N_drewN | apply Kd.N_drew)); exact HO_189001.out) hb)
   have n4_ := Qa.mk (Qs (g := gb188) (o := .cells #[.slice Ao16 y176.length co16, .slice Ao15 y185.length co15] 25 (0, 0)) (by (with_reducible repeat (first | refine Qd ?_ _ | refine Qb ?_ | refine Qc ?_ _)); exact BK188.out) hb)
   have n5_ := Qa.mk (Qv (by with_reducible repeat (first | exact HB.out | apply Qk | apply Ql | apply Qj | refine Qi ?_ GE188.out)) hb)
   clear HO_2
   clear HO_3
   clear HO_189000
   clear HO_189001
   clear BK188
   clear HB
   have HO_2 := n0_
   have HO_3 := n1_
   have HO_189000 := n2_
   have HO_189001 := n3_
   have BK188 := n4_
   have HB := n5_
   clear n0_ n1_ n2_ n3_ n4_ n5_
   (try clear hb; try clear hb2; try clear hk; try clear hi)
   obtain ⟨Ao57, co57, eo57⟩ := Kd.R_slice HO_3.out
   (first | subst eo57 | (injection eo57 with f1_ f2_ f3_; have f4_ := f1_.symm; have f5_ := f3_.symm; clear f1_ f2_ f3_; subst f4_; subst f5_))
   refine hK.out _ _ ⟨(Qe BK188.out 0).trans rfl, (Qe BK188.out 1).trans rfl, HS2_, HS3_, HS4_, HS5_, HS6_, HS7_, HS8_, HS9_, HS10_, HS11_, HS12_, HS13_⟩ (fun hHeld => ?_)
   clear hK K
   refine norm_ (a' := ?_) ?_ ?_
   rotate_left
   ·
    show Act.put _ (some 43) _ = _
    simp only [Act.put, List.setIfInBounds_toArray, List.set_cons_zero, List.set_cons_succ, i64_w, i32_w]
    rfl
   refine pure_ (i := 18) (N := some 47) (v := ?_) (a' := ?_) QB55_15 rfl rfl (Qm HT_.out (by kernel_rfl)) (fun _ _ _ h => h) (Or.inl ⟨by rfl, ?_⟩) ?_ ?_
   rotate_left
   ·
    intro w'
    go_simp
    with_reducible rfl
   rotate_left
   ·
    simp only [Act.put, List.setIfInBounds_toArray, List.set_cons_zero, List.set_cons_succ, i64_w, i32_w]
    rfl
   refine pure_ (i := 19) (N := some 48) (v := ?_) (a' := ?_) QB55_16 rfl rfl (Qm HT_.out (by kernel_rfl)) (fun _ _ _ h => h) (Or.inl ⟨by rfl, ?_⟩) ?_ ?_
   rotate_left
   ·
    intro w'
    go_simp
    with_reducible rfl
   rotate_left
   ·
    simp only [Act.put, List.setIfInBounds_toArray, List.set_cons_zero, List.set_cons_succ, i64_w, i32_w]
    rfl
   refine pure_ (i := 20) (N := some 49) (v := ?_) (a' := ?_) QB55_17 rfl rfl (Qm HT_.out (by kernel_rfl)) (fun _ _ _ h => h) (Or.inl ⟨by rfl, ?_⟩) ?_ ?_
   rotate_left
   ·
    intro w'
    go_simp
    with_reducible rfl
   rotate_left
   ·
    simp only [Act.put, List.setIfInBounds_toArray, List.set_cons_zero, List.set_cons_succ, i64_w, i32_w]
    rfl
   refine pure_ (i := 21) (N := some 50) (v := ?_) (a' := ?_) QB55_18 rfl rfl (Qm HT_.out (by kernel_rfl)) (fun _ _ _ h => h) (Or.inl ⟨by rfl, ?_⟩) ?_ ?_
   rotate_left
   ·
    intro w'
    go_simp
    with_reducible rfl
   rotate_left
   ·
    simp only [Act.put, List.setIfInBounds_toArray, List.set_cons_zero, List.set_cons_succ, i64_w, i32_w]
    rfl
   refine pure_ (i := 22) (N := some 51) (v := ?_) (a' := ?_) QB55_19 rfl rfl (Qm HT_.out (by kernel_rfl)) (fun _ _ _ h => h) (Or.inl ⟨by rfl, ?_⟩) ?_ ?_
   rotate_left
   ·
    intro w'
    go_simp
    with_reducible rfl
   rotate_left
   ·
    simp only [Act.put, List.setIfInBounds_toArray, List.set_cons_zero, List.set_cons_succ, i64_w, i32_w]
    rfl
   refine take_ (i := 23) (N := some 52) (v := ?_) (a' := ?_) QB55_20 rfl rfl (Qm1 HT_.out HW_.out (by kernel_rfl)) (fun _ _ _ h => h) (Or.inl ⟨by rfl, ?_⟩) hHeld ?_ ?_
   rotate_left
   ·
    rintro w' ⟨s0, s1, s2, s3, s4, s5, s6, s7, s8, s9, s10, s11, s12, s13⟩
    go_simp
    with_reducible rfl
   rotate_left
   ·
    simp only [Act.put, List.setIfInBounds_toArray, List.set_cons_zero, List.set_cons_succ, i64_w, i32_w]
    rfl
   refine one_ (i := 24) (N := some 53) QB55_21 rfl rfl (one_of HT_.out (by kernel_rfl)) (by decide) (fun K hK => ?_)
   refine goes_ Try.func19 (by kernel_rfl) rfl #[.agg #[.bool ((Qg t195 0).f0), .bool ((Qg t195 0).f1), .bool ((Qg t195 0).f2)]] (by rfl) rfl rfl (by (try simp only [List.map_toArray, List.map_cons, List.map_nil]); first | done | rfl | (simp only [List.length_drop, List.length_take]; rfl)) ?_
   with_reducible refine (flow_Text.calls kj3 ((Qg t195 0).f0) ((Qg t195 0).f1) ((Qg t195 0).f2) t207 _ A40.out).mono ?_
   rintro e w58 ⟨rfl, hb⟩
   have HS2_ := (hb.cell (World.block_lt_of_cell? _ _ (hHeld.2.2.1))).trans (hHeld.2.2.1)
   have HS3_ := (hb.cell (World.block_lt_of_cell? _ _ (hHeld.2.2.2.1))).trans (hHeld.2.2.2.1)
   have HS4_ := (hb.cell (World.block_lt_of_cell? _ _ (hHeld.2.2.2.2.1))).trans (hHeld.2.2.2.2.1)
   have HS5_ := (hb.cell (World.block_lt_of_cell? _ _ (hHeld.2.2.2.2.2.1))).trans (hHeld.2.2.2.2.2.1)
   have HS6_ := (hb.cell (World.block_lt_of_cell? _ _ (hHeld.2.2.2.2.2.2.1))).trans (hHeld.2.2.2.2.2.2.1)
   have HS7_ := (hb.cell (World.block_lt_of_cell? _ _ (hHeld.2.2.2.2.2.2.2.1))).trans (hHeld.2.2.2.2.2.2.2.1)
   have HS8_ := (hb.cell (World.block_lt_of_cell? _ _ (hHeld.2.2.2.2.2.2.2.2.1))).trans (hHeld.2.2.2.2.2.2.2.2.1)
   have HS9_ := (hb.cell (World.block_lt_of_cell? _ _ (hHeld.2.2.2.2.2.2.2.2.2.1))).trans (hHeld.2.2.2.2.2.2.2.2.2.1)
   have HS10_ := (hb.cell (World.block_lt_of_cell? _ _ (hHeld.2.2.2.2.2.2.2.2.2.2.1))).trans (hHeld.2.2.2.2.2.2.2.2.2.2.1)
   have HS11_ := (hb.cell (World.block_lt_of_cell? _ _ (hHeld.2.2.2.2.2.2.2.2.2.2.2.1))).trans (hHeld.2.2.2.2.2.2.2.2.2.2.2.1)
   have HS12_ := (hb.cell (World.block_lt_of_cell? _ _ (hHeld.2.2.2.2.2.2.2.2.2.2.2.2.1))).trans (hHeld.2.2.2.2.2.2.2.2.2.2.2.2.1)
   have HS13_ := (hb.cell (World.block_lt_of_cell? _ _ (hHeld.2.2.2.2.2.2.2.2.2.2.2.2.2))).trans (hHeld.2.2.2.2.2.2.2.2.2.2.2.2.2)
   refine ⟨_, rfl, ?_⟩
   have n0_ := Qa.mk (Kd.Qd1 (by (with_reducible repeat (first | apply Kd.Qq | apply Kd.Qr | apply Kd.Qo)); exact HO_2.out) hb)
   have n1_ := Qa.mk (Kd.Qd1 (by (with_reducible repeat (first | apply Kd.Qq | apply Kd.Qr | apply Kd.Qo)); exact HO_3.out) hb)
   have n2_ := Qa.mk (Kd.Qd1 (by (with_reducible repeat (first | apply Kd.Qq | apply Kd.Qr | apply Kd.Qo)); exact HO_189000.out) hb)
   have n3_ := Qa.mk (Kd.N_below (by (with_reducible repeat (first | apply Kd.N_alloc | apply Kd.N_drewN | apply Kd.N_drew)); exact HO_189001.out) hb)
   have n4_ := Qa.mk (Qs (g := gb188) (o := .cells #[.slice Ao16 y176.length co16, .slice Ao15 y185.length co15] 25 (0, 0)) (by (with_reducible repeat (first | refine Qd ?_ _ | refine Qb ?_ | refine Qc ?_ _)); exact BK188.out) hb)
   have n5_ := Qa.mk (Qv (by with_reducible repeat (first | exact HB.out | apply Qk | apply Ql | apply Qj | refine Qi ?_ GE188.out)) hb)
   clear HO_2
   clear HO_3
   clear HO_189000
   clear HO_189001
   clear BK188
   clear HB
   have HO_2 := n0_
   have HO_3 := n1_
   have HO_189000 := n2_
   have HO_189001 := n3_
   have BK188 := n4_
   have HB := n5_
   clear n0_ n1_ n2_ n3_ n4_ n5_
   (try clear hb; try clear hb2; try clear hk; try clear hi)
   refine hK.out _ _ ⟨(Qe BK188.out 0).trans rfl, (Qe BK188.out 1).trans rfl, HS2_, HS3_, HS4_, HS5_, HS6_, HS7_, HS8_, HS9_, HS10_, HS11_, HS12_, HS13_⟩ (fun hHeld => ?_)
   clear hK K
   refine norm_ (a' := ?_) ?_ ?_
   rotate_left
   ·
    show Act.put _ (some 53) _ = _
    simp only [Act.put, List.setIfInBounds_toArray, List.set_cons_zero, List.set_cons_succ, i64_w, i32_w]
    rfl
   refine pure_ (i := 25) (N := some 54) (v := ?_) (a' := ?_) QB55_22 rfl rfl (Qm HT_.out (by kernel_rfl)) (fun _ _ _ h => h) (Or.inl ⟨by rfl, ?_⟩) ?_ ?_
   rotate_left
   ·
    intro w'
    go_simp
    with_reducible rfl
   rotate_left
   ·
    simp only [Act.put, List.setIfInBounds_toArray, List.set_cons_zero, List.set_cons_succ, i64_w, i32_w]
    rfl
   refine pure_ (i := 26) (N := some 55) (v := ?_) (a' := ?_) QB55_23 rfl rfl (Qm HT_.out (by kernel_rfl)) (fun _ _ _ h => h) (Or.inl ⟨by rfl, ?_⟩) ?_ ?_
   rotate_left
   ·
    intro w'
    go_simp
    with_reducible rfl
   rotate_left
   ·
    simp only [Act.put, List.setIfInBounds_toArray, List.set_cons_zero, List.set_cons_succ, i64_w, i32_w]
    rfl
   refine pure_ (i := 27) (N := some 56) (v := ?_) (a' := ?_) QB55_24 rfl rfl (Qm HT_.out (by kernel_rfl)) (fun _ _ _ h => h) (Or.inl ⟨by rfl, ?_⟩) ?_ ?_
   rotate_left
   ·
    intro w'
    go_simp
    with_reducible rfl
   rotate_left
   ·
    simp only [Act.put, List.setIfInBounds_toArray, List.set_cons_zero, List.set_cons_succ, i64_w, i32_w]
    rfl
   refine pure_ (i := 28) (N := some 57) (v := undef) (a' := ?_) QB55_25 rfl rfl (Qm HT_.out (by kernel_rfl)) (fun _ _ _ h => h) (Or.inr ⟨by rfl, rfl⟩) ?_ ?_
   rotate_left
   ·
    simp only [Act.put, List.setIfInBounds_toArray, List.set_cons_zero, List.set_cons_succ, i64_w, i32_w]
    rfl
   refine pure_ (i := 29) (N := some 58) (v := undef) (a' := ?_) QB55_26 rfl rfl (Qm HT_.out (by kernel_rfl)) (fun _ _ _ h => h) (Or.inr ⟨by rfl, rfl⟩) ?_ ?_
   rotate_left
   ·
    simp only [Act.put, List.setIfInBounds_toArray, List.set_cons_zero, List.set_cons_succ, i64_w, i32_w]
    rfl
   refine pure_ (i := 30) (N := some 59) (v := undef) (a' := ?_) QB55_27 rfl rfl (Qm HT_.out (by kernel_rfl)) (fun _ _ _ h => h) (Or.inr ⟨by rfl, rfl⟩) ?_ ?_
   rotate_left
   ·
    simp only [Act.put, List.setIfInBounds_toArray, List.set_cons_zero, List.set_cons_succ, i64_w, i32_w]
    rfl
   refine pure_ (i := 31) (N := some 60) (v := undef) (a' := ?_) QB55_28 rfl rfl (Qm HT_.out (by kernel_rfl)) (fun _ _ _ h => h) (Or.inr ⟨by rfl, rfl⟩) ?_ ?_
   rotate_left
   ·
    simp only [Act.put, List.setIfInBounds_toArray, List.set_cons_zero, List.set_cons_succ, i64_w, i32_w]
    rfl
   refine pure_ (i := 32) (N := some 61) (v := undef) (a' := ?_) QB55_29 rfl rfl (Qm HT_.out (by kernel_rfl)) (fun _ _ _ h => h) (Or.inr ⟨by rfl, rfl⟩) ?_ ?_
   rotate_left
   ·
    simp only [Act.put, List.setIfInBounds_toArray, List.set_cons_zero, List.set_cons_succ, i64_w, i32_w]
    rfl
   refine pure_ (i := 33) (N := some 62) (v := ?_) (a' := ?_) QB55_30 rfl rfl (Qm HT_.out (by kernel_rfl)) (fun _ _ _ h => h) (Or.inl ⟨by rfl, ?_⟩) ?_ ?_
   rotate_left
   ·
    intro w'
    go_simp
    with_reducible rfl
   rotate_left
   ·
    simp only [Act.put, List.setIfInBounds_toArray, List.set_cons_zero, List.set_cons_succ, i64_w, i32_w]
    rfl
   refine pure_ (i := 34) (N := some 0) (v := ?_) (a' := ?_) QB55_31 rfl rfl (Qm HT_.out (by kernel_rfl)) (fun _ _ _ h => h) (Or.inl ⟨by rfl, ?_⟩) ?_ ?_
   rotate_left
   ·
    intro w'
    go_simp
    with_reducible rfl
   rotate_left
   ·
    simp only [Act.put, List.setIfInBounds_toArray, List.set_cons_zero, List.set_cons_succ, i64_w, i32_w]
    rfl
   refine done_ (done_of HT_.out (by kernel_rfl)) ?_
   try go_wp2
   go_ret
   exact ⟨by first | rfl | (simp [Qw, Qx] <;> rfl) | (simp [*, Qw, Qx] <;> rfl), by with_reducible repeat (first | exact HB.out | apply Qk | apply Ql | apply Qj | refine Qi ?_ GE188.out)⟩
end Go.Proofs.Ytnaanamibfpbpaa.V
namespace Go.Proofs.Ytnaanamibfpbpaa.V
open Go.RowKit Go.Proofs.YtnaanamibfpbpaaW.PrintWords Go.Proofs.YtnaanamibfpbpaaW.PrintLast Go.Proofs.YtnaanamibfpbpaaW.PrintMore
attribute [local go_sem] max2_int min2_int max_two min_two max_three min_three max_four min_four tdiv_most
set_option linter.unusedVariables false
set_option linter.unusedSimpArgs false
def Qr1.l0 : Nat → List (S35) → List (S36) → Int → Option ((List (S36)))
 | 0, _, _, _ => none
 | k + 1, x0, x3, x4 => if x4 < (x0.length : Int) then (if 0 ≤ x4 then (if x3.length < 46912496118442 then (Qr1.l0 k x0 (x3 ++ [(⟨(Qp x0 x4).f0, (Qp x0 x4).f1, (Qp x0 x4).f2⟩ : S36)]) (wrap64 (x4 + 1))) else (none)) else (none)) else (some x3)
def Qr1.f (k : Nat) (l0 : List (S35)) : Option ((List (S36))) := Qr1.l0 k l0 ([] : List (S36)) 0
set_option maxHeartbeats 8000000 in
set_option maxRecDepth 100000 in
theorem Qr1.calls (k : Nat) (A0 : Option Addr) (c0 : Nat) (l0 : List (S35)) (r : List (S36)) (w : World) (hr0 : Kd.C k35 w A0 l0.length l0) (hc0 : l0.length ≤ c0) (h : Qr1.f k l0 = some r) :
 Calls Try.prog 16 #[.slice A0 l0.length c0] w fun e w' => ∃ v0_ : Value, e = .returned (v0_) ∧ Kd.R k36 36 w' w.heap.size (fun _ => True) v0_ r ∧ Below w.heap.size w w' := by
 have hu35 := Try.underlying35
 have HR0 := Qa.mk hr0
 have HC0 := Qa.mk hc0
 clear hr0 hc0
 have HB := Qa.mk (Below.refl w.heap.size w)
 have H : (Qr1.l0 k l0 ([] : List (S36)) 0) = some r := h
 clear h
 have H' := Qa.mk H
 clear H
 go_enter Try.func16, Try.ntmps16
 go_wp2
 go_loopg [3, 4] k (fun kq v3 v4 w' => ∃ (x3_1 : List (S36)) (x4_1 : Int), v4 = .int .i64 x4_1 ∧ Qa (Qr1.l0 kq l0 x3_1 x4_1 = some r) ∧ Qa (kq ≤ k) ∧ Qa (Kd.R k36 36 w' w.heap.size (fun _ => True) v3 x3_1) ∧ Qa (Below w.heap.size w w'))
 case atStart => exact ⟨(([] : List (S36))), (0), (by first | rfl | (simp; done) | (simp [*]; done)), H', ⟨Nat.le_refl _⟩, ⟨by first | exact Kd.R_nil _ _ _ _ _ | exact Kd.N_nil _ _ _ _ _ | exact Kd.V_nil _ _ _ _ _ | exact Kd.Q_nil _ _ _ _ _ | exact Kd.S_nil _ _ _ _ _⟩, ⟨by with_reducible repeat (first | exact HB.out | apply Qk | apply Ql | apply Qj)⟩⟩
 case round =>
  clear H'
  try clear c1
  obtain ⟨x3_1, x4_1, rfl, HA, HK1, HO_3, HB⟩ := hrel
  cases gk with
  | zero => exact absurd HA.out (by simp [Qr1.l0])
  | succ k1 =>
   have H := HA.out
   clear HA
   simp only [Qr1.l0] at H
   by_cases c2 : x4_1 < (l0.length : Int)
   rotate_left
   ·
    rw [if_neg c2] at H
    have c2b0 : decide (x4_1 < (l0.length : Int)) = false := decide_eq_false c2
    clear c2
    obtain rfl := Option.some.inj H
    go_wp2
    go_ret
    exact ⟨_, by first | rfl | (simp [Qw, Qx] <;> rfl) | (simp [*, Qw, Qx] <;> rfl), by (with_reducible repeat (first | apply Kd.Qq | apply Kd.Qr | apply Kd.Qo)); exact HO_3.out, by with_reducible repeat (first | exact HB.out | apply Qk | apply Ql | apply Qj)⟩
   rw [if_pos c2] at H
   have c2b0 : decide (x4_1 < (l0.length : Int)) = true := decide_eq_true c2
   clear c2
   by_cases c3 : 0 ≤ x4_1
   rotate_left
   ·
    rw [if_neg c3] at H
    exact absurd H (by simp)
   rw [if_pos c3] at H
   have c3b0 : decide (0 ≤ x4_1) = true := decide_eq_true c3
   clear c3
   by_cases c4 : x3_1.length < 46912496118442
   rotate_left
   ·
    rw [if_neg c4] at H
    exact absurd H (by simp)
   rw [if_pos c4] at H
   have LMc4 := Qa.mk c4
   clear c4
   obtain ⟨y286, hy286⟩ : ∃ y_ : List (S36), y_ = (x3_1 ++ [(⟨(Qp l0 x4_1).f0, (Qp l0 x4_1).f1, (Qp l0 x4_1).f2⟩ : S36)]) := ⟨_, rfl⟩
   replace H : (Qr1.l0 k1 l0 y286 (wrap64 (x4_1 + 1))) = some r := by first | (rw [hy286]; with_reducible exact H) | (have H2_ := (Option.bind_some _ _).symm.trans H; rw [hy286]; with_reducible exact H2_) | (have H2_ := (Option.bind_some _ _).symm.trans H; with_reducible exact H2_) | with_reducible exact H | (rw [hy286]; exact H) | exact H
   have Ny286 := Qa.mk hy286
   clear hy286
   have H' := Qa.mk H
   clear H
   have p285 : 0 ≤ (x4_1 : Int) := of_decide_eq_true (by assumption)
   have q285 : x4_1 < (l0.length : Int) := of_decide_eq_true (by assumption)
   obtain ⟨ad285, e285, hx285_0, hx285_1, hx285_2⟩ := at_T35 HR0.out x4_1 p285 q285
   cases e285
   replace hx285_0 := (HB.out.cell (World.block_lt_of_cell? w _ hx285_0)).trans hx285_0
   replace hx285_1 := (HB.out.cell (World.block_lt_of_cell? w _ hx285_1)).trans hx285_1
   replace hx285_2 := (HB.out.cell (World.block_lt_of_cell? w _ hx285_2)).trans hx285_2
   replace p285 := eq_true p285
   replace q285 := eq_true q285
   go_wp2_with (first | ((with_reducible refine gate_builtin (b := .append) (xs := #[.tmp 11, .tmp 16]) rfl ?_); at_builtin; refine Kd.R_append k36 (w0 := w) w.heap.size rfl (.tmp 11) (.tmp 16) 32 36 (.agg #[(.bool false), (.bool false), (.bool false)]) 3 rfl Try.underlying32 info36 rfl (by decide) (by omega) u3 x3_1 (⟨(Qp l0 x4_1).f0, (Qp l0 x4_1).f1, (Qp l0 x4_1).f2⟩ : S36) [.bool ((Qp l0 x4_1).f0), .bool ((Qp l0 x4_1).f1), .bool ((Qp l0 x4_1).f2)] (fun _ => True) (fun _ => False) rfl rfl ?aP (fun _ hk => hk.elim) ?aF ?aO ?aB ?aS ?aL ?_; (case aP => exact k36_mkM _ _ _ (⟨(Qp l0 x4_1).f0, (Qp l0 x4_1).f1, (Qp l0 x4_1).f2⟩ : S36)); (case aB => exact (by with_reducible repeat (first | exact HB.out | apply Qk | apply Ql | apply Qj))); (case aF => exact (fun _ _ => trivial)); (case aO => exact (by (with_reducible repeat (first | apply Kd.Qq | apply Kd.Qr | apply Kd.Qo)); exact HO_3.out)); (case aS => exact (Qb1 (by with_reducible repeat (first | exact HB.out | apply Qk | apply Ql | apply Qj)))); (case aL => have := LMc4.out; omega); intro v287 w5 ho hb hg hat; rw [← Ny286.out] at ho; have n0_ := Qa.mk (hb); have n1_ := Qa.mk (ho); clear HB; clear HO_3; have HB := n0_; have HO288 := n1_; clear n0_ n1_; clear ho hb hg hat))
   go_roundg k1
   case measure => have := HK1.out; omega
   case rel => exact ⟨(y286), (wrap64 (x4_1 + 1)), (by first | rfl | (simp; done) | (simp [*]; done)), H', ⟨by have := HK1.out; omega⟩, ⟨by (with_reducible repeat (first | apply Kd.Qq | apply Kd.Qr | apply Kd.Qo)); exact HO288.out⟩, ⟨by with_reducible repeat (first | exact HB.out | apply Qk | apply Ql | apply Qj)⟩⟩
end Go.Proofs.Ytnaanamibfpbpaa.V
namespace Go.Proofs.Ytnaanamibfpbpaa.V
open Go.RowKit Go.Proofs.YtnaanamibfpbpaaW.PrintWords Go.Proofs.YtnaanamibfpbpaaW.PrintLast Go.Proofs.YtnaanamibfpbpaaW.PrintMore
attribute [local go_sem] max2_int min2_int max_two min_two max_three min_three max_four min_four tdiv_most
set_option linter.unusedVariables false
set_option linter.unusedSimpArgs false
mutual
def Qu.l0 : Nat → List (S35) → List (S35) → Int → Option (Bool)
 | 0, _, _, _ => none
 | k + 1, x0, x1, x5 => if x5 < (x0.length : Int) then (Qu.j1 k x0 x1 x5 (decide (x5 < (x1.length : Int)))) else (Qu.j1 k x0 x1 x5 false)
def Qu.j1 : Nat → List (S35) → List (S35) → Int → Bool → Option (Bool)
 | 0, _, _, _, _ => none
 | k + 1, x0, x1, x5, x15 => if x15 = true then (if 0 ≤ x5 then (if x5 < (x0.length : Int) then (if (Qp x0 x5).f0 = true then (if x5 < (x1.length : Int) then (if (Qp x1 x5).f0 = true then (if (Qp x0 x5).f1 = true then (if (Qp x1 x5).f1 = true then (if (Qp x0 x5).f2 = true then (if (Qp x1 x5).f2 = true then (Qu.l0 k x0 x1 (wrap64 (x5 + 1))) else (some false)) else (Qu.l0 k x0 x1 (wrap64 (x5 + 1)))) else (some false)) else (if (Qp x0 x5).f2 = true then (if (Qp x1 x5).f2 = true then (Qu.l0 k x0 x1 (wrap64 (x5 + 1))) else (some false)) else (Qu.l0 k x0 x1 (wrap64 (x5 + 1))))) else (some false)) else (none)) else (if (Qp x0 x5).f1 = true then (if x5 < (x1.length : Int) then (if (Qp x1 x5).f1 = true then (if (Qp x0 x5).f2 = true then (if (Qp x1 x5).f2 = true then (Qu.l0 k x0 x1 (wrap64 (x5 + 1))) else (some false)) else (Qu.l0 k x0 x1 (wrap64 (x5 + 1)))) else (some false)) else (none)) else (if (Qp x0 x5).f2 = true then (if x5 < (x1.length : Int) then (if (Qp x1 x5).f2 = true then (Qu.l0 k x0 x1 (wrap64 (x5 + 1))) else (some false)) else (none)) else (Qu.l0 k x0 x1 (wrap64 (x5 + 1)))))) else (none)) else (none)) else (some ((x0.length : Int) == (x1.length : Int)))
end
def Qu.f (k : Nat) (l0 : List (S35)) (l1 : List (S35)) : Option (Bool) := Qu.l0 k l0 l1 0
set_option maxHeartbeats 8000000 in
set_option maxRecDepth 100000 in
theorem Qu.calls (k : Nat) (A0 : Option Addr) (c0 : Nat) (l0 : List (S35)) (A1 : Option Addr) (c1 : Nat) (l1 : List (S35)) (r : Bool) (w : World) (hr0 : Kd.C k35 w A0 l0.length l0) (hc0 : l0.length ≤ c0) (hr1 : Kd.C k35 w A1 l1.length l1) (hc1 : l1.length ≤ c1) (h : Qu.f k l0 l1 = some r) :
 Calls Try.prog 18 #[.slice A0 l0.length c0, .slice A1 l1.length c1] w fun e w' => e = .returned (.bool r) ∧ Drawn0 w w' := by
 have HR0 := Qa.mk hr0
 have HC0 := Qa.mk hc0
 clear hr0 hc0
 have HR1 := Qa.mk hr1
 have HC1 := Qa.mk hc1
 clear hr1 hc1
 have H : (Qu.l0 k l0 l1 0) = some r := h
 clear h
 have H' := Qa.mk H
 clear H
 go_enter Try.func18, Try.ntmps18
 go_wp2
 go_loopg [5] k (fun kq v5 w' => ∃ (x5_1 : Int), v5 = .int .i64 x5_1 ∧ Qa (Qu.l0 kq l0 l1 x5_1 = some r) ∧ Qa (kq ≤ k) ∧ Drawn0 w w')
 case atStart => exact ⟨(0), (by first | rfl | (simp; done) | (simp [*]; done)), H', ⟨Nat.le_refl _⟩, by repeat (first | exact Drawn0.refl _ | apply Drawn0.step)⟩
 case round =>
  clear H'
  (try clear c1; try clear p2)
  obtain ⟨x5_1, rfl, HA, HK1, ⟨m1, rfl⟩⟩ := hrel
  cases gk with
  | zero => exact absurd HA.out (by simp [Qu.l0])
  | succ k1 =>
   have H := HA.out
   clear HA
   simp only [Qu.l0] at H
   have HC3 := Qa.mk H
   clear H
   go_upto_region 2 with (fail)
   go_cut [15] (fun v15 wc => ∃ (kq : Nat) (x15_2 : Bool), v15 = .bool x15_2 ∧ Qa (Qu.j1 kq l0 l1 x5_1 x15_2 = some r) ∧ Qa (kq ≤ k1) ∧ Drawn0 w wc)
   case first =>
    have H := HC3.out
    clear HC3
    by_cases c4 : x5_1 < (l0.length : Int)
    ·
     rw [if_pos c4] at H
     have c4b0 : decide (x5_1 < (l0.length : Int)) = true := decide_eq_true c4
     clear c4
     (first | rw [c4b0] | (simp only [i64_w, i32_w]; rw [c4b0]) | skip)
     have H' := Qa.mk H
     clear H
     go_wp2
     go_meet
     case rel => exact ⟨_, (decide (x5_1 < (l1.length : Int))), (by first | rfl | (simp; done) | (simp [*]; done)), H', ⟨by have := HK1.out; first | omega | exact Nat.le_refl _⟩, by repeat (first | exact Drawn0.refl _ | apply Drawn0.step)⟩
    rw [if_neg c4] at H
    have c4b0 : decide (x5_1 < (l0.length : Int)) = false := decide_eq_false c4
    clear c4
    (first | rw [c4b0] | (simp only [i64_w, i32_w]; rw [c4b0]) | skip)
    have H' := Qa.mk H
    clear H
    go_wp2
    go_meet
    case rel => exact ⟨_, (false), (by first | rfl | (simp; done) | (simp [*]; done)), H', ⟨by have := HK1.out; first | omega | exact Nat.le_refl _⟩, by repeat (first | exact Drawn0.refl _ | apply Drawn0.step)⟩
   case rest =>
    clear HC3
    (try clear c1; try clear p2; try clear c4; try clear c4b0; try clear p2)
    obtain ⟨kq, x15_2, rfl, HA, HJ2, ⟨mc2, rfl⟩⟩ := hcut
    cases kq with
    | zero => exact absurd HA.out (by simp [Qu.j1])
    | succ kj2 =>
     have H := HA.out
     clear HA
     simp only [Qu.j1] at H
     by_cases c5 : x15_2 = true
     rotate_left
     ·
      replace c5 := Bool.eq_false_iff.mpr c5
      subst c5
      have H1 : (some ((l0.length : Int) == (l1.length : Int))) = some r := by rw [if_neg (show ¬ (false = true) by decide)] at H; exact H
      clear H
      have H := H1
      clear H1
      obtain rfl := Option.some.inj H
      go_wp2
      go_ret
      exact ⟨by first | rfl | (simp; done) | (simp [*]; done) | (refine congrArg (fun b_ => Ending.returned (Value.bool b_)) ?_; rw [Bool.eq_iff_iff]; simp; done), by repeat (first | exact Drawn0.refl _ | apply Drawn0.step)⟩
     subst c5
     have H1 : (if 0 ≤ x5_1 then (if x5_1 < (l0.length : Int) then (if (Qp l0 x5_1).f0 = true then (if x5_1 < (l1.length : Int) then (if (Qp l1 x5_1).f0 = true then (if (Qp l0 x5_1).f1 = true then (if (Qp l1 x5_1).f1 = true then (if (Qp l0 x5_1).f2 = true then (if (Qp l1 x5_1).f2 = true then (Qu.l0 kj2 l0 l1 (wrap64 (x5_1 + 1))) else (some false)) else (Qu.l0 kj2 l0 l1 (wrap64 (x5_1 + 1)))) else (some false)) else (if (Qp l0 x5_1).f2 = true then (if (Qp l1 x5_1).f2 = true then (Qu.l0 kj2 l0 l1 (wrap64 (x5_1 + 1))) else (some false)) else (Qu.l0 kj2 l0 l1 (wrap64 (x5_1 + 1))))) else (some false)) else (none)) else (if (Qp l0 x5_1).f1 = true then (if x5_1 < (l1.length : Int) then (if (Qp l1 x5_1).f1 = true then (if (Qp l0 x5_1).f2 = true then (if (Qp l1 x5_1).f2 = true then (Qu.l0 kj2 l0 l1 (wrap64 (x5_1 + 1))) else (some false)) else (Qu.l0 kj2 l0 l1 (wrap64 (x5_1 + 1)))) else (some false)) else (none)) else (if (Qp l0 x5_1).f2 = true then (if x5_1 < (l1.length : Int) then (if (Qp l1 x5_1).f2 = true then (Qu.l0 kj2 l0 l1 (wrap64 (x5_1 + 1))) else (some false)) else (none)) else (Qu.l0 kj2 l0 l1 (wrap64 (x5_1 + 1)))))) else (none)) else (none)) = some r := by rw [if_pos rfl] at H; exact H
     clear H
     have H := H1
     clear H1
     by_cases c6 : 0 ≤ x5_1
     rotate_left
     ·
      rw [if_neg c6] at H
      exact absurd H (by simp)
     rw [if_pos c6] at H
     have c6b0 : decide (0 ≤ x5_1) = true := decide_eq_true c6
     clear c6
     by_cases c7 : x5_1 < (l0.length : Int)
     rotate_left
     ·
      rw [if_neg c7] at H
      exact absurd H (by simp)
     rw [if_pos c7] at H
     have c7b0 : decide (x5_1 < (l0.length : Int)) = true := decide_eq_true c7
     clear c7
     obtain ⟨bq8, hbq8⟩ : ∃ b_ : Bool, b_ = ((Qp l0 x5_1).f0) := ⟨_, rfl⟩
     replace H : (if bq8 = true then (if x5_1 < (l1.length : Int) then (if (Qp l1 x5_1).f0 = true then (if (Qp l0 x5_1).f1 = true then (if (Qp l1 x5_1).f1 = true then (if (Qp l0 x5_1).f2 = true then (if (Qp l1 x5_1).f2 = true then (Qu.l0 kj2 l0 l1 (wrap64 (x5_1 + 1))) else (some false)) else (Qu.l0 kj2 l0 l1 (wrap64 (x5_1 + 1)))) else (some false)) else (if (Qp l0 x5_1).f2 = true then (if (Qp l1 x5_1).f2 = true then (Qu.l0 kj2 l0 l1 (wrap64 (x5_1 + 1))) else (some false)) else (Qu.l0 kj2 l0 l1 (wrap64 (x5_1 + 1))))) else (some false)) else (none)) else (if (Qp l0 x5_1).f1 = true then (if x5_1 < (l1.length : Int) then (if (Qp l1 x5_1).f1 = true then (if (Qp l0 x5_1).f2 = true then (if (Qp l1 x5_1).f2 = true then (Qu.l0 kj2 l0 l1 (wrap64 (x5_1 + 1))) else (some false)) else (Qu.l0 kj2 l0 l1 (wrap64 (x5_1 + 1)))) else (some false)) else (none)) else (if (Qp l0 x5_1).f2 = true then (if x5_1 < (l1.length : Int) then (if (Qp l1 x5_1).f2 = true then (Qu.l0 kj2 l0 l1 (wrap64 (x5_1 + 1))) else (some false)) else (none)) else (Qu.l0 kj2 l0 l1 (wrap64 (x5_1 + 1)))))) = some r := by rw [← hbq8] at H; exact H
     have Nbq8 := Qa.mk hbq8
     clear hbq8
     by_cases c9 : bq8 = true
     ·
      subst c9
      have H1 : (if x5_1 < (l1.length : Int) then (if (Qp l1 x5_1).f0 = true then (if (Qp l0 x5_1).f1 = true then (if (Qp l1 x5_1).f1 = true then (if (Qp l0 x5_1).f2 = true then (if (Qp l1 x5_1).f2 = true then (Qu.l0 kj2 l0 l1 (wrap64 (x5_1 + 1))) else (some false)) else (Qu.l0 kj2 l0 l1 (wrap64 (x5_1 + 1)))) else (some false)) else (if (Qp l0 x5_1).f2 = true then (if (Qp l1 x5_1).f2 = true then (Qu.l0 kj2 l0 l1 (wrap64 (x5_1 + 1))) else (some false)) else (Qu.l0 kj2 l0 l1 (wrap64 (x5_1 + 1))))) else (some false)) else (none)) = some r := by rw [if_pos rfl] at H; exact H
      clear H
      have H := H1
      clear H1
      by_cases c10 : x5_1 < (l1.length : Int)
      rotate_left
      ·
       rw [if_neg c10] at H
       exact absurd H (by simp)
      rw [if_pos c10] at H
      have c10b0 : decide (x5_1 < (l1.length : Int)) = true := decide_eq_true c10
      clear c10
      obtain ⟨bq11, hbq11⟩ : ∃ b_ : Bool, b_ = ((Qp l1 x5_1).f0) := ⟨_, rfl⟩
      replace H : (if bq11 = true then (if (Qp l0 x5_1).f1 = true then (if (Qp l1 x5_1).f1 = true then (if (Qp l0 x5_1).f2 = true then (if (Qp l1 x5_1).f2 = true then (Qu.l0 kj2 l0 l1 (wrap64 (x5_1 + 1))) else (some false)) else (Qu.l0 kj2 l0 l1 (wrap64 (x5_1 + 1)))) else (some false)) else (if (Qp l0 x5_1).f2 = true then (if (Qp l1 x5_1).f2 = true then (Qu.l0 kj2 l0 l1 (wrap64 (x5_1 + 1))) else (some false)) else (Qu.l0 kj2 l0 l1 (wrap64 (x5_1 + 1))))) else (some false)) = some r := by rw [← hbq11] at H; exact H
      have Nbq11 := Qa.mk hbq11
      clear hbq11
      by_cases c12 : bq11 = true
      rotate_left
      ·
       replace c12 := Bool.eq_false_iff.mpr c12
       subst c12
       have H1 : (some false) = some r := by rw [if_neg (show ¬ (false = true) by decide)] at H; exact H
       clear H
       have H := H1
       clear H1
       obtain rfl := Option.some.inj H
       have p306 : 0 ≤ (x5_1 : Int) := of_decide_eq_true (by assumption)
       have q306 : x5_1 < (l0.length : Int) := of_decide_eq_true (by assumption)
       obtain ⟨ad306, e306, hx306_0, hx306_1, hx306_2⟩ := at_T35 HR0.out x5_1 p306 q306
       (try rw [← Nbq8.out] at hx306_0)
       (try rw [← Nbq11.out] at hx306_0)
       (try rw [← Nbq8.out] at hx306_1)
       (try rw [← Nbq11.out] at hx306_1)
       (try rw [← Nbq8.out] at hx306_2)
       (try rw [← Nbq11.out] at hx306_2)
       cases e306
       replace p306 := eq_true p306
       replace q306 := eq_true q306
       have p307 : 0 ≤ (x5_1 : Int) := of_decide_eq_true (by assumption)
       have q307 : x5_1 < (l1.length : Int) := of_decide_eq_true (by assumption)
       obtain ⟨ad307, e307, hx307_0, hx307_1, hx307_2⟩ := at_T35 HR1.out x5_1 p307 q307
       (try rw [← Nbq8.out] at hx307_0)
       (try rw [← Nbq11.out] at hx307_0)
       (try rw [← Nbq8.out] at hx307_1)
       (try rw [← Nbq11.out] at hx307_1)
       (try rw [← Nbq8.out] at hx307_2)
       (try rw [← Nbq11.out] at hx307_2)
       cases e307
       replace p307 := eq_true p307
       replace q307 := eq_true q307
       go_wp2
       go_ret
       exact ⟨by first | rfl | (simp; done) | (simp [*]; done) | (refine congrArg (fun b_ => Ending.returned (Value.bool b_)) ?_; rw [Bool.eq_iff_iff]; simp; done), by repeat (first | exact Drawn0.refl _ | apply Drawn0.step)⟩
      subst c12
      have H1 : (if (Qp l0 x5_1).f1 = true then (if (Qp l1 x5_1).f1 = true then (if (Qp l0 x5_1).f2 = true then (if (Qp l1 x5_1).f2 = true then (Qu.l0 kj2 l0 l1 (wrap64 (x5_1 + 1))) else (some false)) else (Qu.l0 kj2 l0 l1 (wrap64 (x5_1 + 1)))) else (some false)) else (if (Qp l0 x5_1).f2 = true then (if (Qp l1 x5_1).f2 = true then (Qu.l0 kj2 l0 l1 (wrap64 (x5_1 + 1))) else (some false)) else (Qu.l0 kj2 l0 l1 (wrap64 (x5_1 + 1))))) = some r := by rw [if_pos rfl] at H; exact H
      clear H
      have H := H1
      clear H1
      obtain ⟨bq13, hbq13⟩ : ∃ b_ : Bool, b_ = ((Qp l0 x5_1).f1) := ⟨_, rfl⟩
      replace H : (if bq13 = true then (if (Qp l1 x5_1).f1 = true then (if (Qp l0 x5_1).f2 = true then (if (Qp l1 x5_1).f2 = true then (Qu.l0 kj2 l0 l1 (wrap64 (x5_1 + 1))) else (some false)) else (Qu.l0 kj2 l0 l1 (wrap64 (x5_1 + 1)))) else (some false)) else (if (Qp l0 x5_1).f2 = true then (if (Qp l1 x5_1).f2 = true then (Qu.l0 kj2 l0 l1 (wrap64 (x5_1 + 1))) else (some false)) else (Qu.l0 kj2 l0 l1 (wrap64 (x5_1 + 1))))) = some r := by rw [← hbq13] at H; exact H
      have Nbq13 := Qa.mk hbq13
      clear hbq13
      by_cases c14 : bq13 = true
      ·
       subst c14
       have H1 : (if (Qp l1 x5_1).f1 = true then (if (Qp l0 x5_1).f2 = true then (if (Qp l1 x5_1).f2 = true then (Qu.l0 kj2 l0 l1 (wrap64 (x5_1 + 1))) else (some false)) else (Qu.l0 kj2 l0 l1 (wrap64 (x5_1 + 1)))) else (some false)) = some r := by rw [if_pos rfl] at H; exact H
       clear H
       have H := H1
       clear H1
       obtain ⟨bq15, hbq15⟩ : ∃ b_ : Bool, b_ = ((Qp l1 x5_1).f1) := ⟨_, rfl⟩
       replace H : (if bq15 = true then (if (Qp l0 x5_1).f2 = true then (if (Qp l1 x5_1).f2 = true then (Qu.l0 kj2 l0 l1 (wrap64 (x5_1 + 1))) else (some false)) else (Qu.l0 kj2 l0 l1 (wrap64 (x5_1 + 1)))) else (some false)) = some r := by rw [← hbq15] at H; exact H
       have Nbq15 := Qa.mk hbq15
       clear hbq15
       by_cases c16 : bq15 = true
       rotate_left
       ·
        replace c16 := Bool.eq_false_iff.mpr c16
        subst c16
        have H1 : (some false) = some r := by rw [if_neg (show ¬ (false = true) by decide)] at H; exact H
        clear H
        have H := H1
        clear H1
        obtain rfl := Option.some.inj H
        have p306 : 0 ≤ (x5_1 : Int) := of_decide_eq_true (by assumption)
        have q306 : x5_1 < (l0.length : Int) := of_decide_eq_true (by assumption)
        obtain ⟨ad306, e306, hx306_0, hx306_1, hx306_2⟩ := at_T35 HR0.out x5_1 p306 q306
        (try rw [← Nbq8.out] at hx306_0)
        (try rw [← Nbq11.out] at hx306_0)
        (try rw [← Nbq13.out] at hx306_0)
        (try rw [← Nbq15.out] at hx306_0)
        (try rw [← Nbq8.out] at hx306_1)
        (try rw [← Nbq11.out] at hx306_1)
        (try rw [← Nbq13.out] at hx306_1)
        (try rw [← Nbq15.out] at hx306_1)
        (try rw [← Nbq8.out] at hx306_2)
        (try rw [← Nbq11.out] at hx306_2)
        (try rw [← Nbq13.out] at hx306_2)
        (try rw [← Nbq15.out] at hx306_2)
        cases e306
        replace p306 := eq_true p306
        replace q306 := eq_true q306
        have p307 : 0 ≤ (x5_1 : Int) := of_decide_eq_true (by assumption)
        have q307 : x5_1 < (l1.length : Int) := of_decide_eq_true (by assumption)
        obtain ⟨ad307, e307, hx307_0, hx307_1, hx307_2⟩ := at_T35 HR1.out x5_1 p307 q307
        (try rw [← Nbq8.out] at hx307_0)
        (try rw [← Nbq11.out] at hx307_0)
        (try rw [← Nbq13.out] at hx307_0)
        (try rw [← Nbq15.out] at hx307_0)
        (try rw [← Nbq8.out] at hx307_1)
        (try rw [← Nbq11.out] at hx307_1)
        (try rw [← Nbq13.out] at hx307_1)
        (try rw [← Nbq15.out] at hx307_1)
        (try rw [← Nbq8.out] at hx307_2)
        (try rw [← Nbq11.out] at hx307_2)
        (try rw [← Nbq13.out] at hx307_2)
        (try rw [← Nbq15.out] at hx307_2)
        cases e307
        replace p307 := eq_true p307
        replace q307 := eq_true q307
        have p308 : 0 ≤ (x5_1 : Int) := of_decide_eq_true (by assumption)
        have q308 : x5_1 < (l0.length : Int) := of_decide_eq_true (by assumption)
        obtain ⟨ad308, e308, hx308_0, hx308_1, hx308_2⟩ := at_T35 HR0.out x5_1 p308 q308
        (try rw [← Nbq8.out] at hx308_0)
        (try rw [← Nbq11.out] at hx308_0)
        (try rw [← Nbq13.out] at hx308_0)
        (try rw [← Nbq15.out] at hx308_0)
        (try rw [← Nbq8.out] at hx308_1)
        (try rw [← Nbq11.out] at hx308_1)
        (try rw [← Nbq13.out] at hx308_1)
        (try rw [← Nbq15.out] at hx308_1)
        (try rw [← Nbq8.out] at hx308_2)
        (try rw [← Nbq11.out] at hx308_2)
        (try rw [← Nbq13.out] at hx308_2)
        (try rw [← Nbq15.out] at hx308_2)
        obtain rfl : ad306 = ad308 := (by injection e308)
        replace p308 := eq_true p308
        replace q308 := eq_true q308
        have p309 : 0 ≤ (x5_1 : Int) := of_decide_eq_true (by assumption)
        have q309 : x5_1 < (l1.length : Int) := of_decide_eq_true (by assumption)
        obtain ⟨ad309, e309, hx309_0, hx309_1, hx309_2⟩ := at_T35 HR1.out x5_1 p309 q309
        (try rw [← Nbq8.out] at hx309_0)
        (try rw [← Nbq11.out] at hx309_0)
        (try rw [← Nbq13.out] at hx309_0)
        (try rw [← Nbq15.out] at hx309_0)
        (try rw [← Nbq8.out] at hx309_1)
        (try rw [← Nbq11.out] at hx309_1)
        (try rw [← Nbq13.out] at hx309_1)
        (try rw [← Nbq15.out] at hx309_1)
        (try rw [← Nbq8.out] at hx309_2)
        (try rw [← Nbq11.out] at hx309_2)
        (try rw [← Nbq13.out] at hx309_2)
        (try rw [← Nbq15.out] at hx309_2)
        obtain rfl : ad307 = ad309 := (by injection e309)
        replace p309 := eq_true p309
        replace q309 := eq_true q309
        go_wp2
        go_ret
        exact ⟨by first | rfl | (simp; done) | (simp [*]; done) | (refine congrArg (fun b_ => Ending.returned (Value.bool b_)) ?_; rw [Bool.eq_iff_iff]; simp; done), by repeat (first | exact Drawn0.refl _ | apply Drawn0.step)⟩
       subst c16
       have H1 : (if (Qp l0 x5_1).f2 = true then (if (Qp l1 x5_1).f2 = true then (Qu.l0 kj2 l0 l1 (wrap64 (x5_1 + 1))) else (some false)) else (Qu.l0 kj2 l0 l1 (wrap64 (x5_1 + 1)))) = some r := by rw [if_pos rfl] at H; exact H
       clear H
       have H := H1
       clear H1
       obtain ⟨bq17, hbq17⟩ : ∃ b_ : Bool, b_ = ((Qp l0 x5_1).f2) := ⟨_, rfl⟩
       replace H : (if bq17 = true then (if (Qp l1 x5_1).f2 = true then (Qu.l0 kj2 l0 l1 (wrap64 (x5_1 + 1))) else (some false)) else (Qu.l0 kj2 l0 l1 (wrap64 (x5_1 + 1)))) = some r := by rw [← hbq17] at H; exact H
       have Nbq17 := Qa.mk hbq17
       clear hbq17
       by_cases c18 : bq17 = true
       rotate_left
       ·
        replace c18 := Bool.eq_false_iff.mpr c18
        subst c18
        have H1 : (Qu.l0 kj2 l0 l1 (wrap64 (x5_1 + 1))) = some r := by rw [if_neg (show ¬ (false = true) by decide)] at H; exact H
        clear H
        have H := H1
        clear H1
        have H' := Qa.mk H
        clear H
        have p306 : 0 ≤ (x5_1 : Int) := of_decide_eq_true (by assumption)
        have q306 : x5_1 < (l0.length : Int) := of_decide_eq_true (by assumption)
        obtain ⟨ad306, e306, hx306_0, hx306_1, hx306_2⟩ := at_T35 HR0.out x5_1 p306 q306
        (try rw [← Nbq8.out] at hx306_0)
        (try rw [← Nbq11.out] at hx306_0)
        (try rw [← Nbq13.out] at hx306_0)
        (try rw [← Nbq15.out] at hx306_0)
        (try rw [← Nbq17.out] at hx306_0)
        (try rw [← Nbq8.out] at hx306_1)
        (try rw [← Nbq11.out] at hx306_1)
        (try rw [← Nbq13.out] at hx306_1)
        (try rw [← Nbq15.out] at hx306_1)
        (try rw [← Nbq17.out] at hx306_1)
        (try rw [← Nbq8.out] at hx306_2)
        (try rw [← Nbq11.out] at hx306_2)
        (try rw [← Nbq13.out] at hx306_2)
        (try rw [← Nbq15.out] at hx306_2)
        (try rw [← Nbq17.out] at hx306_2)
        cases e306
        replace p306 := eq_true p306
        replace q306 := eq_true q306
        have p307 : 0 ≤ (x5_1 : Int) := of_decide_eq_true (by assumption)
        have q307 : x5_1 < (l1.length : Int) := of_decide_eq_true (by assumption)
        obtain ⟨ad307, e307, hx307_0, hx307_1, hx307_2⟩ := at_T35 HR1.out x5_1 p307 q307
        (try rw [← Nbq8.out] at hx307_0)
        (try rw [← Nbq11.out] at hx307_0)
        (try rw [← Nbq13.out] at hx307_0)
        (try rw [← Nbq15.out] at hx307_0)
        (try rw [← Nbq17.out] at hx307_0)
        (try rw [← Nbq8.out] at hx307_1)
        (try rw [← Nbq11.out] at hx307_1)
        (try rw [← Nbq13.out] at hx307_1)
        (try rw [← Nbq15.out] at hx307_1)
        (try rw [← Nbq17.out] at hx307_1)
        (try rw [← Nbq8.out] at hx307_2)
        (try rw [← Nbq11.out] at hx307_2)
        (try rw [← Nbq13.out] at hx307_2)
        (try rw [← Nbq15.out] at hx307_2)
        (try rw [← Nbq17.out] at hx307_2)
        cases e307
        replace p307 := eq_true p307
        replace q307 := eq_true q307
        have p308 : 0 ≤ (x5_1 : Int) := of_decide_eq_true (by assumption)
        have q308 : x5_1 < (l0.length : Int) := of_decide_eq_true (by assumption)
        obtain ⟨ad308, e308, hx308_0, hx308_1, hx308_2⟩ := at_T35 HR0.out x5_1 p308 q308
        (try rw [← Nbq8.out] at hx308_0)
        (try rw [← Nbq11.out] at hx308_0)
        (try rw [← Nbq13.out] at hx308_0)
        (try rw [← Nbq15.out] at hx308_0)
        (try rw [← Nbq17.out] at hx308_0)
        (try rw [← Nbq8.out] at hx308_1)
        (try rw [← Nbq11.out] at hx308_1)
        (try rw [← Nbq13.out] at hx308_1)
        (try rw [← Nbq15.out] at hx308_1)
        (try rw [← Nbq17.out] at hx308_1)
        (try rw [← Nbq8.out] at hx308_2)
        (try rw [← Nbq11.out] at hx308_2)
        (try rw [← Nbq13.out] at hx308_2)
        (try rw [← Nbq15.out] at hx308_2)
        (try rw [← Nbq17.out] at hx308_2)
        obtain rfl : ad306 = ad308 := (by injection e308)
        replace p308 := eq_true p308
        replace q308 := eq_true q308
        have p309 : 0 ≤ (x5_1 : Int) := of_decide_eq_true (by assumption)
        have q309 : x5_1 < (l1.length : Int) := of_decide_eq_true (by assumption)
        obtain ⟨ad309, e309, hx309_0, hx309_1, hx309_2⟩ := at_T35 HR1.out x5_1 p309 q309
        (try rw [← Nbq8.out] at hx309_0)
        (try rw [← Nbq11.out] at hx309_0)
        (try rw [← Nbq13.out] at hx309_0)
        (try rw [← Nbq15.out] at hx309_0)
        (try rw [← Nbq17.out] at hx309_0)
        (try rw [← Nbq8.out] at hx309_1)
        (try rw [← Nbq11.out] at hx309_1)
        (try rw [← Nbq13.out] at hx309_1)
        (try rw [← Nbq15.out] at hx309_1)
        (try rw [← Nbq17.out] at hx309_1)
        (try rw [← Nbq8.out] at hx309_2)
        (try rw [← Nbq11.out] at hx309_2)
        (try rw [← Nbq13.out] at hx309_2)
        (try rw [← Nbq15.out] at hx309_2)
        (try rw [← Nbq17.out] at hx309_2)
        obtain rfl : ad307 = ad309 := (by injection e309)
        replace p309 := eq_true p309
        replace q309 := eq_true q309
        have p310 : 0 ≤ (x5_1 : Int) := of_decide_eq_true (by assumption)
        have q310 : x5_1 < (l0.length : Int) := of_decide_eq_true (by assumption)
        obtain ⟨ad310, e310, hx310_0, hx310_1, hx310_2⟩ := at_T35 HR0.out x5_1 p310 q310
        (try rw [← Nbq8.out] at hx310_0)
        (try rw [← Nbq11.out] at hx310_0)
        (try rw [← Nbq13.out] at hx310_0)
        (try rw [← Nbq15.out] at hx310_0)
        (try rw [← Nbq17.out] at hx310_0)
        (try rw [← Nbq8.out] at hx310_1)
        (try rw [← Nbq11.out] at hx310_1)
        (try rw [← Nbq13.out] at hx310_1)
        (try rw [← Nbq15.out] at hx310_1)
        (try rw [← Nbq17.out] at hx310_1)
        (try rw [← Nbq8.out] at hx310_2)
        (try rw [← Nbq11.out] at hx310_2)
        (try rw [← Nbq13.out] at hx310_2)
        (try rw [← Nbq15.out] at hx310_2)
        (try rw [← Nbq17.out] at hx310_2)
        obtain rfl : ad306 = ad310 := (by injection e310)
        replace p310 := eq_true p310
        replace q310 := eq_true q310
        go_wp2
        go_roundg kj2
        case measure => have := HK1.out; have := HJ2.out; omega
        case rel => exact ⟨(wrap64 (x5_1 + 1)), (by first | rfl | (simp; done) | (simp [*]; done)), H', ⟨by have := HK1.out; have := HJ2.out; omega⟩, by repeat (first | exact Drawn0.refl _ | apply Drawn0.step)⟩
       subst c18
       have H1 : (if (Qp l1 x5_1).f2 = true then (Qu.l0 kj2 l0 l1 (wrap64 (x5_1 + 1))) else (some false)) = some r := by rw [if_pos rfl] at H; exact H
       clear H
       have H := H1
       clear H1
       obtain ⟨bq19, hbq19⟩ : ∃ b_ : Bool, b_ = ((Qp l1 x5_1).f2) := ⟨_, rfl⟩
       replace H : (if bq19 = true then (Qu.l0 kj2 l0 l1 (wrap64 (x5_1 + 1))) else (some false)) = some r := by rw [← hbq19] at H; exact H
       have Nbq19 := Qa.mk hbq19
       clear hbq19
       by_cases c20 : bq19 = true
       ·
        subst c20
        have H1 : (Qu.l0 kj2 l0 l1 (wrap64 (x5_1 + 1))) = some r := by rw [if_pos rfl] at H; exact H
        clear H
        have H := H1
        clear H1
        have H' := Qa.mk H
        clear H
        have p306 : 0 ≤ (x5_1 : Int) := of_decide_eq_true (by assumption)
        have q306 : x5_1 < (l0.length : Int) := of_decide_eq_true (by assumption)
        obtain ⟨ad306, e306, hx306_0, hx306_1, hx306_2⟩ := at_T35 HR0.out x5_1 p306 q306
        (try rw [← Nbq8.out] at hx306_0)
        (try rw [← Nbq11.out] at hx306_0)
        (try rw [← Nbq13.out] at hx306_0)
        (try rw [← Nbq15.out] at hx306_0)
        (try rw [← Nbq17.out] at hx306_0)
        (try rw [← Nbq19.out] at hx306_0)
        (try rw [← Nbq8.out] at hx306_1)
        (try rw [← Nbq11.out] at hx306_1)
        (try rw [← Nbq13.out] at hx306_1)
        (try rw [← Nbq15.out] at hx306_1)
        (try rw [← Nbq17.out] at hx306_1)
        (try rw [← Nbq19.out] at hx306_1)
        (try rw [← Nbq8.out] at hx306_2)
        (try rw [← Nbq11.out] at hx306_2)
        (try rw [← Nbq13.out] at hx306_2)
        (try rw [← Nbq15.out] at hx306_2)
        (try rw [← Nbq17.out] at hx306_2)
        (try rw [← Nbq19.out] at hx306_2)
        cases e306
        replace p306 := eq_true p306
        replace q306 := eq_true q306
        have p307 : 0 ≤ (x5_1 : Int) := of_decide_eq_true (by assumption)
        have q307 : x5_1 < (l1.length : Int) := of_decide_eq_true (by assumption)
        obtain ⟨ad307, e307, hx307_0, hx307_1, hx307_2⟩ := at_T35 HR1.out x5_1 p307 q307
        (try rw [← Nbq8.out] at hx307_0)
        (try rw [← Nbq11.out] at hx307_0)
        (try rw [← Nbq13.out] at hx307_0)
        (try rw [← Nbq15.out] at hx307_0)
        (try rw [← Nbq17.out] at hx307_0)
        (try rw [← Nbq19.out] at hx307_0)
        (try rw [← Nbq8.out] at hx307_1)
        (try rw [← Nbq11.out] at hx307_1)
        (try rw [← Nbq13.out] at hx307_1)
        (try rw [← Nbq15.out] at hx307_1)
        (try rw [← Nbq17.out] at hx307_1)
        (try rw [← Nbq19.out] at hx307_1)
        (try rw [← Nbq8.out] at hx307_2)
        (try rw [← Nbq11.out] at hx307_2)
        (try rw [← Nbq13.out] at hx307_2)
        (try rw [← Nbq15.out] at hx307_2)
        (try rw [← Nbq17.out] at hx307_2)
        (try rw [← Nbq19.out] at hx307_2)
        cases e307
        replace p307 := eq_true p307
        replace q307 := eq_true q307
        have p308 : 0 ≤ (x5_1 : Int) := of_decide_eq_true (by assumption)
        have q308 : x5_1 < (l0.length : Int) := of_decide_eq_true (by assumption)
        obtain ⟨ad308, e308, hx308_0, hx308_1, hx308_2⟩ := at_T35 HR0.out x5_1 p308 q308
        (try rw [← Nbq8.out] at hx308_0)
        (try rw [← Nbq11.out] at hx308_0)
        (try rw [← Nbq13.out] at hx308_0)
        (try rw [← Nbq15.out] at hx308_0)
        (try rw [← Nbq17.out] at hx308_0)
        (try rw [← Nbq19.out] at hx308_0)
        (try rw [← Nbq8.out] at hx308_1)
        (try rw [← Nbq11.out] at hx308_1)
        (try rw [← Nbq13.out] at hx308_1)
        (try rw [← Nbq15.out] at hx308_1)
        (try rw [← Nbq17.out] at hx308_1)
        (try rw [← Nbq19.out] at hx308_1)
        (try rw [← Nbq8.out] at hx308_2)
        (try rw [← Nbq11.out] at hx308_2)
        (try rw [← Nbq13.out] at hx308_2)
        (try rw [← Nbq15.out] at hx308_2)
        (try rw [← Nbq17.out] at hx308_2)
        (try rw [← Nbq19.out] at hx308_2)
        obtain rfl : ad306 = ad308 := (by injection e308)
        replace p308 := eq_true p308
        replace q308 := eq_true q308
        have p309 : 0 ≤ (x5_1 : Int) := of_decide_eq_true (by assumption)
        have q309 : x5_1 < (l1.length : Int) := of_decide_eq_true (by assumption)
        obtain ⟨ad309, e309, hx309_0, hx309_1, hx309_2⟩ := at_T35 HR1.out x5_1 p309 q309
        (try rw [← Nbq8.out] at hx309_0)
        (try rw [← Nbq11.out] at hx309_0)
        (try rw [← Nbq13.out] at hx309_0)
        (try rw [← Nbq15.out] at hx309_0)
        (try rw [← Nbq17.out] at hx309_0)
        (try rw [← Nbq19.out] at hx309_0)
        (try rw [← Nbq8.out] at hx309_1)
        (try rw [← Nbq11.out] at hx309_1)
        (try rw [← Nbq13.out] at hx309_1)
        (try rw [← Nbq15.out] at hx309_1)
        (try rw [← Nbq17.out] at hx309_1)
        (try rw [← Nbq19.out] at hx309_1)
        (try rw [← Nbq8.out] at hx309_2)
        (try rw [← Nbq11.out] at hx309_2)
        (try rw [← Nbq13.out] at hx309_2)
        (try rw [← Nbq15.out] at hx309_2)
        (try rw [← Nbq17.out] at hx309_2)
        (try rw [← Nbq19.out] at hx309_2)
        obtain rfl : ad307 = ad309 := (by injection e309)
        replace p309 := eq_true p309
        replace q309 := eq_true q309
        have p310 : 0 ≤ (x5_1 : Int) := of_decide_eq_true (by assumption)
        have q310 : x5_1 < (l0.length : Int) := of_decide_eq_true (by assumption)
        obtain ⟨ad310, e310, hx310_0, hx310_1, hx310_2⟩ := at_T35 HR0.out x5_1 p310 q310
        (try rw [← Nbq8.out] at hx310_0)
        (try rw [← Nbq11.out] at hx310_0)
        (try rw [← Nbq13.out] at hx310_0)
        (try rw [← Nbq15.out] at hx310_0)
        (try rw [← Nbq17.out] at hx310_0)
        (try rw [← Nbq19.out] at hx310_0)
        (try rw [← Nbq8.out] at hx310_1)
        (try rw [← Nbq11.out] at hx310_1)
        (try rw [← Nbq13.out] at hx310_1)
        (try rw [← Nbq15.out] at hx310_1)
        (try rw [← Nbq17.out] at hx310_1)
        (try rw [← Nbq19.out] at hx310_1)
        (try rw [← Nbq8.out] at hx310_2)
        (try rw [← Nbq11.out] at hx310_2)
        (try rw [← Nbq13.out] at hx310_2)
        (try rw [← Nbq15.out] at hx310_2)
        (try rw [← Nbq17.out] at hx310_2)
        (try rw [← Nbq19.out] at hx310_2)
        obtain rfl : ad306 = ad310 := (by injection e310)
        replace p310 := eq_true p310
        replace q310 := eq_true q310
        have p311 : 0 ≤ (x5_1 : Int) := of_decide_eq_true (by assumption)
        have q311 : x5_1 < (l1.length : Int) := of_decide_eq_true (by assumption)
        obtain ⟨ad311, e311, hx311_0, hx311_1, hx311_2⟩ := at_T35 HR1.out x5_1 p311 q311
        (try rw [← Nbq8.out] at hx311_0)
        (try rw [← Nbq11.out] at hx311_0)
        (try rw [← Nbq13.out] at hx311_0)
        (try rw [← Nbq15.out] at hx311_0)
        (try rw [← Nbq17.out] at hx311_0)
        (try rw [← Nbq19.out] at hx311_0)
        (try rw [← Nbq8.out] at hx311_1)
        (try rw [← Nbq11.out] at hx311_1)
        (try rw [← Nbq13.out] at hx311_1)
        (try rw [← Nbq15.out] at hx311_1)
        (try rw [← Nbq17.out] at hx311_1)
        (try rw [← Nbq19.out] at hx311_1)
        (try rw [← Nbq8.out] at hx311_2)
        (try rw [← Nbq11.out] at hx311_2)
        (try rw [← Nbq13.out] at hx311_2)
        (try rw [← Nbq15.out] at hx311_2)
        (try rw [← Nbq17.out] at hx311_2)
        (try rw [← Nbq19.out] at hx311_2)
        obtain rfl : ad307 = ad311 := (by injection e311)
        replace p311 := eq_true p311
        replace q311 := eq_true q311
        go_wp2
        go_roundg kj2
        case measure => have := HK1.out; have := HJ2.out; omega
        case rel => exact ⟨(wrap64 (x5_1 + 1)), (by first | rfl | (simp; done) | (simp [*]; done)), H', ⟨by have := HK1.out; have := HJ2.out; omega⟩, by repeat (first | exact Drawn0.refl _ | apply Drawn0.step)⟩
       replace c20 := Bool.eq_false_iff.mpr c20
       subst c20
       have H1 : (some false) = some r := by rw [if_neg (show ¬ (false = true) by decide)] at H; exact H
       clear H
       have H := H1
       clear H1
       obtain rfl := Option.some.inj H
       have p306 : 0 ≤ (x5_1 : Int) := of_decide_eq_true (by assumption)
       have q306 : x5_1 < (l0.length : Int) := of_decide_eq_true (by assumption)
       obtain ⟨ad306, e306, hx306_0, hx306_1, hx306_2⟩ := at_T35 HR0.out x5_1 p306 q306
       (try rw [← Nbq8.out] at hx306_0)
       (try rw [← Nbq11.out] at hx306_0)
       (try rw [← Nbq13.out] at hx306_0)
       (try rw [← Nbq15.out] at hx306_0)
       (try rw [← Nbq17.out] at hx306_0)
       (try rw [← Nbq19.out] at hx306_0)
       (try rw [← Nbq8.out] at hx306_1)
       (try rw [← Nbq11.out] at hx306_1)
       (try rw [← Nbq13.out] at hx306_1)
       (try rw [← Nbq15.out] at hx306_1)
       (try rw [← Nbq17.out] at hx306_1)
       (try rw [← Nbq19.out] at hx306_1)
       (try rw [← Nbq8.out] at hx306_2)
       (try rw [← Nbq11.out] at hx306_2)
       (try rw [← Nbq13.out] at hx306_2)
       (try rw [← Nbq15.out] at hx306_2)
       (try rw [← Nbq17.out] at hx306_2)
       (try rw [← Nbq19.out] at hx306_2)
       cases e306
       replace p306 := eq_true p306
       replace q306 := eq_true q306
       have p307 : 0 ≤ (x5_1 : Int) := of_decide_eq_true (by assumption)
       have q307 : x5_1 < (l1.length : Int) := of_decide_eq_true (by assumption)
       obtain ⟨ad307, e307, hx307_0, hx307_1, hx307_2⟩ := at_T35 HR1.out x5_1 p307 q307
       (try rw [← Nbq8.out] at hx307_0)
       (try rw [← Nbq11.out] at hx307_0)
       (try rw [← Nbq13.out] at hx307_0)
       (try rw [← Nbq15.out] at hx307_0)
       (try rw [← Nbq17.out] at hx307_0)
       (try rw [← Nbq19.out] at hx307_0)
       (try rw [← Nbq8.out] at hx307_1)
       (try rw [← Nbq11.out] at hx307_1)
       (try rw [← Nbq13.out] at hx307_1)
       (try rw [← Nbq15.out] at hx307_1)
       (try rw [← Nbq17.out] at hx307_1)
       (try rw [← Nbq19.out] at hx307_1)
       (try rw [← Nbq8.out] at hx307_2)
       (try rw [← Nbq11.out] at hx307_2)
       (try rw [← Nbq13.out] at hx307_2)
       (try rw [← Nbq15.out] at hx307_2)
       (try rw [← Nbq17.out] at hx307_2)
       (try rw [← Nbq19.out] at hx307_2)
       cases e307
       replace p307 := eq_true p307
       replace q307 := eq_true q307
       have p308 : 0 ≤ (x5_1 : Int) := of_decide_eq_true (by assumption)
       have q308 : x5_1 < (l0.length : Int) := of_decide_eq_true (by assumption)
       obtain ⟨ad308, e308, hx308_0, hx308_1, hx308_2⟩ := at_T35 HR0.out x5_1 p308 q308
       (try rw [← Nbq8.out] at hx308_0)
       (try rw [← Nbq11.out] at hx308_0)
       (try rw [← Nbq13.out] at hx308_0)
       (try rw [← Nbq15.out] at hx308_0)
       (try rw [← Nbq17.out] at hx308_0)
       (try rw [← Nbq19.out] at hx308_0)
       (try rw [← Nbq8.out] at hx308_1)
       (try rw [← Nbq11.out] at hx308_1)
       (try rw [← Nbq13.out] at hx308_1)
       (try rw [← Nbq15.out] at hx308_1)
       (try rw [← Nbq17.out] at hx308_1)
       (try rw [← Nbq19.out] at hx308_1)
       (try rw [← Nbq8.out] at hx308_2)
       (try rw [← Nbq11.out] at hx308_2)
       (try rw [← Nbq13.out] at hx308_2)
       (try rw [← Nbq15.out] at hx308_2)
       (try rw [← Nbq17.out] at hx308_2)
       (try rw [← Nbq19.out] at hx308_2)
       obtain rfl : ad306 = ad308 := (by injection e308)
       replace p308 := eq_true p308
       replace q308 := eq_true q308
       have p309 : 0 ≤ (x5_1 : Int) := of_decide_eq_true (by assumption)
       have q309 : x5_1 < (l1.length : Int) := of_decide_eq_true (by assumption)
       obtain ⟨ad309, e309, hx309_0, hx309_1, hx309_2⟩ := at_T35 HR1.out x5_1 p309 q309
       (try rw [← Nbq8.out] at hx309_0)
       (try rw [← Nbq11.out] at hx309_0)
       (try rw [← Nbq13.out] at hx309_0)
       (try rw [← Nbq15.out] at hx309_0)
       (try rw [← Nbq17.out] at hx309_0)
       (try rw [← Nbq19.out] at hx309_0)
       (try rw [← Nbq8.out] at hx309_1)
       (try rw [← Nbq11.out] at hx309_1)
       (try rw [← Nbq13.out] at hx309_1)
       (try rw [← Nbq15.out] at hx309_1)
       (try rw [← Nbq17.out] at hx309_1)
       (try rw [← Nbq19.out] at hx309_1)
       (try rw [← Nbq8.out] at hx309_2)
       (try rw [← Nbq11.out] at hx309_2)
       (try rw [← Nbq13.out] at hx309_2)
       (try rw [← Nbq15.out] at hx309_2)
       (try rw [← Nbq17.out] at hx309_2)
       (try rw [← Nbq19.out] at hx309_2)
       obtain rfl : ad307 = ad309 := (by injection e309)
       replace p309 := eq_true p309
       replace q309 := eq_true q309
       have p310 : 0 ≤ (x5_1 : Int) := of_decide_eq_true (by assumption)
       have q310 : x5_1 < (l0.length : Int) := of_decide_eq_true (by assumption)
       obtain ⟨ad310, e310, hx310_0, hx310_1, hx310_2⟩ := at_T35 HR0.out x5_1 p310 q310
       (try rw [← Nbq8.out] at hx310_0)
       (try rw [← Nbq11.out] at hx310_0)
       (try rw [← Nbq13.out] at hx310_0)
       (try rw [← Nbq15.out] at hx310_0)
       (try rw [← Nbq17.out] at hx310_0)
       (try rw [← Nbq19.out] at hx310_0)
       (try rw [← Nbq8.out] at hx310_1)
       (try rw [← Nbq11.out] at hx310_1)
       (try rw [← Nbq13.out] at hx310_1)
       (try rw [← Nbq15.out] at hx310_1)
       (try rw [← Nbq17.out] at hx310_1)
       (try rw [← Nbq19.out] at hx310_1)
       (try rw [← Nbq8.out] at hx310_2)
       (try rw [← Nbq11.out] at hx310_2)
       (try rw [← Nbq13.out] at hx310_2)
       (try rw [← Nbq15.out] at hx310_2)
       (try rw [← Nbq17.out] at hx310_2)
       (try rw [← Nbq19.out] at hx310_2)
       obtain rfl : ad306 = ad310 := (by injection e310)
       replace p310 := eq_true p310
       replace q310 := eq_true q310
       have p311 : 0 ≤ (x5_1 : Int) := of_decide_eq_true (by assumption)
       have q311 : x5_1 < (l1.length : Int) := of_decide_eq_true (by assumption)
       obtain ⟨ad311, e311, hx311_0, hx311_1, hx311_2⟩ := at_T35 HR1.out x5_1 p311 q311
       (try rw [← Nbq8.out] at hx311_0)
       (try rw [← Nbq11.out] at hx311_0)
       (try rw [← Nbq13.out] at hx311_0)
       (try rw [← Nbq15.out] at hx311_0)
       (try rw [← Nbq17.out] at hx311_0)
       (try rw [← Nbq19.out] at hx311_0)
       (try rw [← Nbq8.out] at hx311_1)
       (try rw [← Nbq11.out] at hx311_1)
       (try rw [← Nbq13.out] at hx311_1)
       (try rw [← Nbq15.out] at hx311_1)
       (try rw [← Nbq17.out] at hx311_1)
       (try rw [← Nbq19.out] at hx311_1)
       (try rw [← Nbq8.out] at hx311_2)
       (try rw [← Nbq11.out] at hx311_2)
       (try rw [← Nbq13.out] at hx311_2)
       (try rw [← Nbq15.out] at hx311_2)
       (try rw [← Nbq17.out] at hx311_2)
       (try rw [← Nbq19.out] at hx311_2)
       obtain rfl : ad307 = ad311 := (by injection e311)
       replace p311 := eq_true p311
       replace q311 := eq_true q311
       go_wp2
       go_ret
       exact ⟨by first | rfl | (simp; done) | (simp [*]; done) | (refine congrArg (fun b_ => Ending.returned (Value.bool b_)) ?_; rw [Bool.eq_iff_iff]; simp; done), by repeat (first | exact Drawn0.refl _ | apply Drawn0.step)⟩
      replace c14 := Bool.eq_false_iff.mpr c14
      subst c14
      have H1 : (if (Qp l0 x5_1).f2 = true then (if (Qp l1 x5_1).f2 = true then (Qu.l0 kj2 l0 l1 (wrap64 (x5_1 + 1))) else (some false)) else (Qu.l0 kj2 l0 l1 (wrap64 (x5_1 + 1)))) = some r := by rw [if_neg (show ¬ (false = true) by decide)] at H; exact H
      clear H
      have H := H1
      clear H1
      obtain ⟨bq21, hbq21⟩ : ∃ b_ : Bool, b_ = ((Qp l0 x5_1).f2) := ⟨_, rfl⟩
      replace H : (if bq21 = true then (if (Qp l1 x5_1).f2 = true then (Qu.l0 kj2 l0 l1 (wrap64 (x5_1 + 1))) else (some false)) else (Qu.l0 kj2 l0 l1 (wrap64 (x5_1 + 1)))) = some r := by rw [← hbq21] at H; exact H
      have Nbq21 := Qa.mk hbq21
      clear hbq21
      by_cases c22 : bq21 = true
      rotate_left
      ·
       replace c22 := Bool.eq_false_iff.mpr c22
       subst c22
       have H1 : (Qu.l0 kj2 l0 l1 (wrap64 (x5_1 + 1))) = some r := by rw [if_neg (show ¬ (false = true) by decide)] at H; exact H
       clear H
       have H := H1
       clear H1
       have H' := Qa.mk H
       clear H
       have p306 : 0 ≤ (x5_1 : Int) := of_decide_eq_true (by assumption)
       have q306 : x5_1 < (l0.length : Int) := of_decide_eq_true (by assumption)
       obtain ⟨ad306, e306, hx306_0, hx306_1, hx306_2⟩ := at_T35 HR0.out x5_1 p306 q306
       (try rw [← Nbq8.out] at hx306_0)
       (try rw [← Nbq11.out] at hx306_0)
       (try rw [← Nbq13.out] at hx306_0)
       (try rw [← Nbq21.out] at hx306_0)
       (try rw [← Nbq8.out] at hx306_1)
       (try rw [← Nbq11.out] at hx306_1)
       (try rw [← Nbq13.out] at hx306_1)
       (try rw [← Nbq21.out] at hx306_1)
       (try rw [← Nbq8.out] at hx306_2)
       (try rw [← Nbq11.out] at hx306_2)
       (try rw [← Nbq13.out] at hx306_2)
       (try rw [← Nbq21.out] at hx306_2)
       cases e306
       replace p306 := eq_true p306
       replace q306 := eq_true q306
       have p307 : 0 ≤ (x5_1 : Int) := of_decide_eq_true (by assumption)
       have q307 : x5_1 < (l1.length : Int) := of_decide_eq_true (by assumption)
       obtain ⟨ad307, e307, hx307_0, hx307_1, hx307_2⟩ := at_T35 HR1.out x5_1 p307 q307
       (try rw [← Nbq8.out] at hx307_0)
       (try rw [← Nbq11.out] at hx307_0)
       (try rw [← Nbq13.out] at hx307_0)
       (try rw [← Nbq21.out] at hx307_0)
       (try rw [← Nbq8.out] at hx307_1)
       (try rw [← Nbq11.out] at hx307_1)
       (try rw [← Nbq13.out] at hx307_1)
       (try rw [← Nbq21.out] at hx307_1)
       (try rw [← Nbq8.out] at hx307_2)
       (try rw [← Nbq11.out] at hx307_2)
       (try rw [← Nbq13.out] at hx307_2)
       (try rw [← Nbq21.out] at hx307_2)
       cases e307
       replace p307 := eq_true p307
       replace q307 := eq_true q307
       have p308 : 0 ≤ (x5_1 : Int) := of_decide_eq_true (by assumption)
       have q308 : x5_1 < (l0.length : Int) := of_decide_eq_true (by assumption)
       obtain ⟨ad308, e308, hx308_0, hx308_1, hx308_2⟩ := at_T35 HR0.out x5_1 p308 q308
       (try rw [← Nbq8.out] at hx308_0)
       (try rw [← Nbq11.out] at hx308_0)
       (try rw [← Nbq13.out] at hx308_0)
       (try rw [← Nbq21.out] at hx308_0)
       (try rw [← Nbq8.out] at hx308_1)
       (try rw [← Nbq11.out] at hx308_1)
       (try rw [← Nbq13.out] at hx308_1)
       (try rw [← Nbq21.out] at hx308_1)
       (try rw [← Nbq8.out] at hx308_2)
       (try rw [← Nbq11.out] at hx308_2)
       (try rw [← Nbq13.out] at hx308_2)
       (try rw [← Nbq21.out] at hx308_2)
       obtain rfl : ad306 = ad308 := (by injection e308)
       replace p308 := eq_true p308
       replace q308 := eq_true q308
       have p312 : 0 ≤ (x5_1 : Int) := of_decide_eq_true (by assumption)
       have q312 : x5_1 < (l0.length : Int) := of_decide_eq_true (by assumption)
       obtain ⟨ad312, e312, hx312_0, hx312_1, hx312_2⟩ := at_T35 HR0.out x5_1 p312 q312
       (try rw [← Nbq8.out] at hx312_0)
       (try rw [← Nbq11.out] at hx312_0)
       (try rw [← Nbq13.out] at hx312_0)
       (try rw [← Nbq21.out] at hx312_0)
       (try rw [← Nbq8.out] at hx312_1)
       (try rw [← Nbq11.out] at hx312_1)
       (try rw [← Nbq13.out] at hx312_1)
       (try rw [← Nbq21.out] at hx312_1)
       (try rw [← Nbq8.out] at hx312_2)
       (try rw [← Nbq11.out] at hx312_2)
       (try rw [← Nbq13.out] at hx312_2)
       (try rw [← Nbq21.out] at hx312_2)
       obtain rfl : ad306 = ad312 := (by injection e312)
       replace p312 := eq_true p312
       replace q312 := eq_true q312
       go_wp2
       go_roundg kj2
       case measure => have := HK1.out; have := HJ2.out; omega
       case rel => exact ⟨(wrap64 (x5_1 + 1)), (by first | rfl | (simp; done) | (simp [*]; done)), H', ⟨by have := HK1.out; have := HJ2.out; omega⟩, by repeat (first | exact Drawn0.refl _ | apply Drawn0.step)⟩
      subst c22
      have H1 : (if (Qp l1 x5_1).f2 = true then (Qu.l0 kj2 l0 l1 (wrap64 (x5_1 + 1))) else (some false)) = some r := by rw [if_pos rfl] at H; exact H
      clear H
      have H := H1
      clear H1
      obtain ⟨bq23, hbq23⟩ : ∃ b_ : Bool, b_ = ((Qp l1 x5_1).f2) := ⟨_, rfl⟩
      replace H : (if bq23 = true then (Qu.l0 kj2 l0 l1 (wrap64 (x5_1 + 1))) else (some false)) = some r := by rw [← hbq23] at H; exact H
      have Nbq23 := Qa.mk hbq23
      clear hbq23
      by_cases c24 : bq23 = true
      ·
       subst c24
       have H1 : (Qu.l0 kj2 l0 l1 (wrap64 (x5_1 + 1))) = some r := by rw [if_pos rfl] at H; exact H
       clear H
       have H := H1
       clear H1
       have H' := Qa.mk H
       clear H
       have p306 : 0 ≤ (x5_1 : Int) := of_decide_eq_true (by assumption)
       have q306 : x5_1 < (l0.length : Int) := of_decide_eq_true (by assumption)
       obtain ⟨ad306, e306, hx306_0, hx306_1, hx306_2⟩ := at_T35 HR0.out x5_1 p306 q306
       (try rw [← Nbq8.out] at hx306_0)
       (try rw [← Nbq11.out] at hx306_0)
       (try rw [← Nbq13.out] at hx306_0)
       (try rw [← Nbq21.out] at hx306_0)
       (try rw [← Nbq23.out] at hx306_0)
       (try rw [← Nbq8.out] at hx306_1)
       (try rw [← Nbq11.out] at hx306_1)
       (try rw [← Nbq13.out] at hx306_1)
       (try rw [← Nbq21.out] at hx306_1)
       (try rw [← Nbq23.out] at hx306_1)
       (try rw [← Nbq8.out] at hx306_2)
       (try rw [← Nbq11.out] at hx306_2)
       (try rw [← Nbq13.out] at hx306_2)
       (try rw [← Nbq21.out] at hx306_2)
       (try rw [← Nbq23.out] at hx306_2)
       cases e306
       replace p306 := eq_true p306
       replace q306 := eq_true q306
       have p307 : 0 ≤ (x5_1 : Int) := of_decide_eq_true (by assumption)
       have q307 : x5_1 < (l1.length : Int) := of_decide_eq_true (by assumption)
       obtain ⟨ad307, e307, hx307_0, hx307_1, hx307_2⟩ := at_T35 HR1.out x5_1 p307 q307
       (try rw [← Nbq8.out] at hx307_0)
       (try rw [← Nbq11.out] at hx307_0)
       (try rw [← Nbq13.out] at hx307_0)
       (try rw [← Nbq21.out] at hx307_0)
       (try rw [← Nbq23.out] at hx307_0)
       (try rw [← Nbq8.out] at hx307_1)
       (try rw [← Nbq11.out] at hx307_1)
       (try rw [← Nbq13.out] at hx307_1)
       (try rw [← Nbq21.out] at hx307_1)
       (try rw [← Nbq23.out] at hx307_1)
       (try rw [← Nbq8.out] at hx307_2)
       (try rw [← Nbq11.out] at hx307_2)
       (try rw [← Nbq13.out] at hx307_2)
       (try rw [← Nbq21.out] at hx307_2)
       (try rw [← Nbq23.out] at hx307_2)
       cases e307
       replace p307 := eq_true p307
       replace q307 := eq_true q307
       have p308 : 0 ≤ (x5_1 : Int) := of_decide_eq_true (by assumption)
       have q308 : x5_1 < (l0.length : Int) := of_decide_eq_true (by assumption)
       obtain ⟨ad308, e308, hx308_0, hx308_1, hx308_2⟩ := at_T35 HR0.out x5_1 p308 q308
       (try rw [← Nbq8.out] at hx308_0)
       (try rw [← Nbq11.out] at hx308_0)
       (try rw [← Nbq13.out] at hx308_0)
       (try rw [← Nbq21.out] at hx308_0)
       (try rw [← Nbq23.out] at hx308_0)
       (try rw [← Nbq8.out] at hx308_1)
       (try rw [← Nbq11.out] at hx308_1)
       (try rw [← Nbq13.out] at hx308_1)
       (try rw [← Nbq21.out] at hx308_1)
       (try rw [← Nbq23.out] at hx308_1)
       (try rw [← Nbq8.out] at hx308_2)
       (try rw [← Nbq11.out] at hx308_2)
       (try rw [← Nbq13.out] at hx308_2)
       (try rw [← Nbq21.out] at hx308_2)
       (try rw [← Nbq23.out] at hx308_2)
       obtain rfl : ad306 = ad308 := (by injection e308)
       replace p308 := eq_true p308
       replace q308 := eq_true q308
       have p312 : 0 ≤ (x5_1 : Int) := of_decide_eq_true (by assumption)
       have q312 : x5_1 < (l0.length : Int) := of_decide_eq_true (by assumption)
       obtain ⟨ad312, e312, hx312_0, hx312_1, hx312_2⟩ := at_T35 HR0.out x5_1 p312 q312
       (try rw [← Nbq8.out] at hx312_0)
       (try rw [← Nbq11.out] at hx312_0)
       (try rw [← Nbq13.out] at hx312_0)
       (try rw [← Nbq21.out] at hx312_0)
       (try rw [← Nbq23.out] at hx312_0)
       (try rw [← Nbq8.out] at hx312_1)
       (try rw [← Nbq11.out] at hx312_1)
       (try rw [← Nbq13.out] at hx312_1)
       (try rw [← Nbq21.out] at hx312_1)
       (try rw [← Nbq23.out] at hx312_1)
       (try rw [← Nbq8.out] at hx312_2)
       (try rw [← Nbq11.out] at hx312_2)
       (try rw [← Nbq13.out] at hx312_2)
       (try rw [← Nbq21.out] at hx312_2)
       (try rw [← Nbq23.out] at hx312_2)
       obtain rfl : ad306 = ad312 := (by injection e312)
       replace p312 := eq_true p312
       replace q312 := eq_true q312
       have p313 : 0 ≤ (x5_1 : Int) := of_decide_eq_true (by assumption)
       have q313 : x5_1 < (l1.length : Int) := of_decide_eq_true (by assumption)
       obtain ⟨ad313, e313, hx313_0, hx313_1, hx313_2⟩ := at_T35 HR1.out x5_1 p313 q313
       (try rw [← Nbq8.out] at hx313_0)
       (try rw [← Nbq11.out] at hx313_0)
       (try rw [← Nbq13.out] at hx313_0)
       (try rw [← Nbq21.out] at hx313_0)
       (try rw [← Nbq23.out] at hx313_0)
       (try rw [← Nbq8.out] at hx313_1)
       (try rw [← Nbq11.out] at hx313_1)
       (try rw [← Nbq13.out] at hx313_1)
       (try rw [← Nbq21.out] at hx313_1)
       (try rw [← Nbq23.out] at hx313_1)
       (try rw [← Nbq8.out] at hx313_2)
       (try rw [← Nbq11.out] at hx313_2)
       (try rw [← Nbq13.out] at hx313_2)
       (try rw [← Nbq21.out] at hx313_2)
       (try rw [← Nbq23.out] at hx313_2)
       obtain rfl : ad307 = ad313 := (by injection e313)
       replace p313 := eq_true p313
       replace q313 := eq_true q313
       go_wp2
       go_roundg kj2
       case measure => have := HK1.out; have := HJ2.out; omega
       case rel => exact ⟨(wrap64 (x5_1 + 1)), (by first | rfl | (simp; done) | (simp [*]; done)), H', ⟨by have := HK1.out; have := HJ2.out; omega⟩, by repeat (first | exact Drawn0.refl _ | apply Drawn0.step)⟩
      replace c24 := Bool.eq_false_iff.mpr c24
      subst c24
      have H1 : (some false) = some r := by rw [if_neg (show ¬ (false = true) by decide)] at H; exact H
      clear H
      have H := H1
      clear H1
      obtain rfl := Option.some.inj H
      have p306 : 0 ≤ (x5_1 : Int) := of_decide_eq_true (by assumption)
      have q306 : x5_1 < (l0.length : Int) := of_decide_eq_true (by assumption)
      obtain ⟨ad306, e306, hx306_0, hx306_1, hx306_2⟩ := at_T35 HR0.out x5_1 p306 q306
      (try rw [← Nbq8.out] at hx306_0)
      (try rw [← Nbq11.out] at hx306_0)
      (try rw [← Nbq13.out] at hx306_0)
      (try rw [← Nbq21.out] at hx306_0)
      (try rw [← Nbq23.out] at hx306_0)
      (try rw [← Nbq8.out] at hx306_1)
      (try rw [← Nbq11.out] at hx306_1)
      (try rw [← Nbq13.out] at hx306_1)
      (try rw [← Nbq21.out] at hx306_1)
      (try rw [← Nbq23.out] at hx306_1)
      (try rw [← Nbq8.out] at hx306_2)
      (try rw [← Nbq11.out] at hx306_2)
      (try rw [← Nbq13.out] at hx306_2)
      (try rw [← Nbq21.out] at hx306_2)
      (try rw [← Nbq23.out] at hx306_2)
      cases e306
      replace p306 := eq_true p306
      replace q306 := eq_true q306
      have p307 : 0 ≤ (x5_1 : Int) := of_decide_eq_true (by assumption)
      have q307 : x5_1 < (l1.length : Int) := of_decide_eq_true (by assumption)
      obtain ⟨ad307, e307, hx307_0, hx307_1, hx307_2⟩ := at_T35 HR1.out x5_1 p307 q307
      (try rw [← Nbq8.out] at hx307_0)
      (try rw [← Nbq11.out] at hx307_0)
      (try rw [← Nbq13.out] at hx307_0)
      (try rw [← Nbq21.out] at hx307_0)
      (try rw [← Nbq23.out] at hx307_0)
      (try rw [← Nbq8.out] at hx307_1)
      (try rw [← Nbq11.out] at hx307_1)
      (try rw [← Nbq13.out] at hx307_1)
      (try rw [← Nbq21.out] at hx307_1)
      (try rw [← Nbq23.out] at hx307_1)
      (try rw [← Nbq8.out] at hx307_2)
      (try rw [← Nbq11.out] at hx307_2)
      (try rw [← Nbq13.out] at hx307_2)
      (try rw [← Nbq21.out] at hx307_2)
      (try rw [← Nbq23.out] at hx307_2)
      cases e307
      replace p307 := eq_true p307
      replace q307 := eq_true q307
      have p308 : 0 ≤ (x5_1 : Int) := of_decide_eq_true (by assumption)
      have q308 : x5_1 < (l0.length : Int) := of_decide_eq_true (by assumption)
      obtain ⟨ad308, e308, hx308_0, hx308_1, hx308_2⟩ := at_T35 HR0.out x5_1 p308 q308
      (try rw [← Nbq8.out] at hx308_0)
      (try rw [← Nbq11.out] at hx308_0)
      (try rw [← Nbq13.out] at hx308_0)
      (try rw [← Nbq21.out] at hx308_0)
      (try rw [← Nbq23.out] at hx308_0)
      (try rw [← Nbq8.out] at hx308_1)
      (try rw [← Nbq11.out] at hx308_1)
      (try rw [← Nbq13.out] at hx308_1)
      (try rw [← Nbq21.out] at hx308_1)
      (try rw [← Nbq23.out] at hx308_1)
      (try rw [← Nbq8.out] at hx308_2)
      (try rw [← Nbq11.out] at hx308_2)
      (try rw [← Nbq13.out] at hx308_2)
      (try rw [← Nbq21.out] at hx308_2)
      (try rw [← Nbq23.out] at hx308_2)
      obtain rfl : ad306 = ad308 := (by injection e308)
      replace p308 := eq_true p308
      replace q308 := eq_true q308
      have p312 : 0 ≤ (x5_1 : Int) := of_decide_eq_true (by assumption)
      have q312 : x5_1 < (l0.length : Int) := of_decide_eq_true (by assumption)
      obtain ⟨ad312, e312, hx312_0, hx312_1, hx312_2⟩ := at_T35 HR0.out x5_1 p312 q312
      (try rw [← Nbq8.out] at hx312_0)
      (try rw [← Nbq11.out] at hx312_0)
      (try rw [← Nbq13.out] at hx312_0)
      (try rw [← Nbq21.out] at hx312_0)
      (try rw [← Nbq23.out] at hx312_0)
      (try rw [← Nbq8.out] at hx312_1)
      (try rw [← Nbq11.out] at hx312_1)
      (try rw [← Nbq13.out] at hx312_1)
      (try rw [← Nbq21.out] at hx312_1)
      (try rw [← Nbq23.out] at hx312_1)
      (try rw [← Nbq8.out] at hx312_2)
      (try rw [← Nbq11.out] at hx312_2)
      (try rw [← Nbq13.out] at hx312_2)
      (try rw [← Nbq21.out] at hx312_2)
      (try rw [← Nbq23.out] at hx312_2)
      obtain rfl : ad306 = ad312 := (by injection e312)
      replace p312 := eq_true p312
      replace q312 := eq_true q312
      have p313 : 0 ≤ (x5_1 : Int) := of_decide_eq_true (by assumption)
      have q313 : x5_1 < (l1.length : Int) := of_decide_eq_true (by assumption)
      obtain ⟨ad313, e313, hx313_0, hx313_1, hx313_2⟩ := at_T35 HR1.out x5_1 p313 q313
      (try rw [← Nbq8.out] at hx313_0)
      (try rw [← Nbq11.out] at hx313_0)
      (try rw [← Nbq13.out] at hx313_0)
      (try rw [← Nbq21.out] at hx313_0)
      (try rw [← Nbq23.out] at hx313_0)
      (try rw [← Nbq8.out] at hx313_1)
      (try rw [← Nbq11.out] at hx313_1)
      (try rw [← Nbq13.out] at hx313_1)
      (try rw [← Nbq21.out] at hx313_1)
      (try rw [← Nbq23.out] at hx313_1)
      (try rw [← Nbq8.out] at hx313_2)
      (try rw [← Nbq11.out] at hx313_2)
      (try rw [← Nbq13.out] at hx313_2)
      (try rw [← Nbq21.out] at hx313_2)
      (try rw [← Nbq23.out] at hx313_2)
      obtain rfl : ad307 = ad313 := (by injection e313)
      replace p313 := eq_true p313
      replace q313 := eq_true q313
      go_wp2
      go_ret
      exact ⟨by first | rfl | (simp; done) | (simp [*]; done) | (refine congrArg (fun b_ => Ending.returned (Value.bool b_)) ?_; rw [Bool.eq_iff_iff]; simp; done), by repeat (first | exact Drawn0.refl _ | apply Drawn0.step)⟩
     replace c9 := Bool.eq_false_iff.mpr c9
     subst c9
     have H1 : (if (Qp l0 x5_1).f1 = true then (if x5_1 < (l1.length : Int) then (if (Qp l1 x5_1).f1 = true then (if (Qp l0 x5_1).f2 = true then (if (Qp l1 x5_1).f2 = true then (Qu.l0 kj2 l0 l1 (wrap64 (x5_1 + 1))) else (some false)) else (Qu.l0 kj2 l0 l1 (wrap64 (x5_1 + 1)))) else (some false)) else (none)) else (if (Qp l0 x5_1).f2 = true then (if x5_1 < (l1.length : Int) then (if (Qp l1 x5_1).f2 = true then (Qu.l0 kj2 l0 l1 (wrap64 (x5_1 + 1))) else (some false)) else (none)) else (Qu.l0 kj2 l0 l1 (wrap64 (x5_1 + 1))))) = some r := by rw [if_neg (show ¬ (false = true) by decide)] at H; exact H
     clear H
     have H := H1
     clear H1
     obtain ⟨bq25, hbq25⟩ : ∃ b_ : Bool, b_ = ((Qp l0 x5_1).f1) := ⟨_, rfl⟩
     replace H : (if bq25 = true then (if x5_1 < (l1.length : Int) then (if (Qp l1 x5_1).f1 = true then (if (Qp l0 x5_1).f2 = true then (if (Qp l1 x5_1).f2 = true then (Qu.l0 kj2 l0 l1 (wrap64 (x5_1 + 1))) else (some false)) else (Qu.l0 kj2 l0 l1 (wrap64 (x5_1 + 1)))) else (some false)) else (none)) else (if (Qp l0 x5_1).f2 = true then (if x5_1 < (l1.length : Int) then (if (Qp l1 x5_1).f2 = true then (Qu.l0 kj2 l0 l1 (wrap64 (x5_1 + 1))) else (some false)) else (none)) else (Qu.l0 kj2 l0 l1 (wrap64 (x5_1 + 1))))) = some r := by rw [← hbq25] at H; exact H
     have Nbq25 := Qa.mk hbq25
     clear hbq25
     by_cases c26 : bq25 = true
     ·
      subst c26
      have H1 : (if x5_1 < (l1.length : Int) then (if (Qp l1 x5_1).f1 = true then (if (Qp l0 x5_1).f2 = true then (if (Qp l1 x5_1).f2 = true then (Qu.l0 kj2 l0 l1 (wrap64 (x5_1 + 1))) else (some false)) else (Qu.l0 kj2 l0 l1 (wrap64 (x5_1 + 1)))) else (some false)) else (none)) = some r := by rw [if_pos rfl] at H; exact H
      clear H
      have H := H1
      clear H1
      by_cases c27 : x5_1 < (l1.length : Int)
      rotate_left
      ·
       rw [if_neg c27] at H
       exact absurd H (by simp)
      rw [if_pos c27] at H
      have c27b0 : decide (x5_1 < (l1.length : Int)) = true := decide_eq_true c27
      clear c27
      obtain ⟨bq28, hbq28⟩ : ∃ b_ : Bool, b_ = ((Qp l1 x5_1).f1) := ⟨_, rfl⟩
      replace H : (if bq28 = true then (if (Qp l0 x5_1).f2 = true then (if (Qp l1 x5_1).f2 = true then (Qu.l0 kj2 l0 l1 (wrap64 (x5_1 + 1))) else (some false)) else (Qu.l0 kj2 l0 l1 (wrap64 (x5_1 + 1)))) else (some false)) = some r := by rw [← hbq28] at H; exact H
      have Nbq28 := Qa.mk hbq28
      clear hbq28
      by_cases c29 : bq28 = true
      rotate_left
      ·
       replace c29 := Bool.eq_false_iff.mpr c29
       subst c29
       have H1 : (some false) = some r := by rw [if_neg (show ¬ (false = true) by decide)] at H; exact H
       clear H
       have H := H1
       clear H1
       obtain rfl := Option.some.inj H
       have p306 : 0 ≤ (x5_1 : Int) := of_decide_eq_true (by assumption)
       have q306 : x5_1 < (l0.length : Int) := of_decide_eq_true (by assumption)
       obtain ⟨ad306, e306, hx306_0, hx306_1, hx306_2⟩ := at_T35 HR0.out x5_1 p306 q306
       (try rw [← Nbq8.out] at hx306_0)
       (try rw [← Nbq25.out] at hx306_0)
       (try rw [← Nbq28.out] at hx306_0)
       (try rw [← Nbq8.out] at hx306_1)
       (try rw [← Nbq25.out] at hx306_1)
       (try rw [← Nbq28.out] at hx306_1)
       (try rw [← Nbq8.out] at hx306_2)
       (try rw [← Nbq25.out] at hx306_2)
       (try rw [← Nbq28.out] at hx306_2)
       cases e306
       replace p306 := eq_true p306
       replace q306 := eq_true q306
       have p314 : 0 ≤ (x5_1 : Int) := of_decide_eq_true (by assumption)
       have q314 : x5_1 < (l0.length : Int) := of_decide_eq_true (by assumption)
       obtain ⟨ad314, e314, hx314_0, hx314_1, hx314_2⟩ := at_T35 HR0.out x5_1 p314 q314
       (try rw [← Nbq8.out] at hx314_0)
       (try rw [← Nbq25.out] at hx314_0)
       (try rw [← Nbq28.out] at hx314_0)
       (try rw [← Nbq8.out] at hx314_1)
       (try rw [← Nbq25.out] at hx314_1)
       (try rw [← Nbq28.out] at hx314_1)
       (try rw [← Nbq8.out] at hx314_2)
       (try rw [← Nbq25.out] at hx314_2)
       (try rw [← Nbq28.out] at hx314_2)
       obtain rfl : ad306 = ad314 := (by injection e314)
       replace p314 := eq_true p314
       replace q314 := eq_true q314
       have p315 : 0 ≤ (x5_1 : Int) := of_decide_eq_true (by assumption)
       have q315 : x5_1 < (l1.length : Int) := of_decide_eq_true (by assumption)
       obtain ⟨ad315, e315, hx315_0, hx315_1, hx315_2⟩ := at_T35 HR1.out x5_1 p315 q315
       (try rw [← Nbq8.out] at hx315_0)
       (try rw [← Nbq25.out] at hx315_0)
       (try rw [← Nbq28.out] at hx315_0)
       (try rw [← Nbq8.out] at hx315_1)
       (try rw [← Nbq25.out] at hx315_1)
       (try rw [← Nbq28.out] at hx315_1)
       (try rw [← Nbq8.out] at hx315_2)
       (try rw [← Nbq25.out] at hx315_2)
       (try rw [← Nbq28.out] at hx315_2)
       cases e315
       replace p315 := eq_true p315
       replace q315 := eq_true q315
       go_wp2
       go_ret
       exact ⟨by first | rfl | (simp; done) | (simp [*]; done) | (refine congrArg (fun b_ => Ending.returned (Value.bool b_)) ?_; rw [Bool.eq_iff_iff]; simp; done), by repeat (first | exact Drawn0.refl _ | apply Drawn0.step)⟩
      subst c29
      have H1 : (if (Qp l0 x5_1).f2 = true then (if (Qp l1 x5_1).f2 = true then (Qu.l0 kj2 l0 l1 (wrap64 (x5_1 + 1))) else (some false)) else (Qu.l0 kj2 l0 l1 (wrap64 (x5_1 + 1)))) = some r := by rw [if_pos rfl] at H; exact H
      clear H
      have H := H1
      clear H1
      obtain ⟨bq30, hbq30⟩ : ∃ b_ : Bool, b_ = ((Qp l0 x5_1).f2) := ⟨_, rfl⟩
      replace H : (if bq30 = true then (if (Qp l1 x5_1).f2 = true then (Qu.l0 kj2 l0 l1 (wrap64 (x5_1 + 1))) else (some false)) else (Qu.l0 kj2 l0 l1 (wrap64 (x5_1 + 1)))) = some r := by rw [← hbq30] at H; exact H
      have Nbq30 := Qa.mk hbq30
      clear hbq30
      by_cases c31 : bq30 = true
      rotate_left
      ·
       replace c31 := Bool.eq_false_iff.mpr c31
       subst c31
       have H1 : (Qu.l0 kj2 l0 l1 (wrap64 (x5_1 + 1))) = some r := by rw [if_neg (show ¬ (false = true) by decide)] at H; exact H
       clear H
       have H := H1
       clear H1
       have H' := Qa.mk H
       clear H
       have p306 : 0 ≤ (x5_1 : Int) := of_decide_eq_true (by assumption)
       have q306 : x5_1 < (l0.length : Int) := of_decide_eq_true (by assumption)
       obtain ⟨ad306, e306, hx306_0, hx306_1, hx306_2⟩ := at_T35 HR0.out x5_1 p306 q306
       (try rw [← Nbq8.out] at hx306_0)
       (try rw [← Nbq25.out] at hx306_0)
       (try rw [← Nbq28.out] at hx306_0)
       (try rw [← Nbq30.out] at hx306_0)
       (try rw [← Nbq8.out] at hx306_1)
       (try rw [← Nbq25.out] at hx306_1)
       (try rw [← Nbq28.out] at hx306_1)
       (try rw [← Nbq30.out] at hx306_1)
       (try rw [← Nbq8.out] at hx306_2)
       (try rw [← Nbq25.out] at hx306_2)
       (try rw [← Nbq28.out] at hx306_2)
       (try rw [← Nbq30.out] at hx306_2)
       cases e306
       replace p306 := eq_true p306
       replace q306 := eq_true q306
       have p314 : 0 ≤ (x5_1 : Int) := of_decide_eq_true (by assumption)
       have q314 : x5_1 < (l0.length : Int) := of_decide_eq_true (by assumption)
       obtain ⟨ad314, e314, hx314_0, hx314_1, hx314_2⟩ := at_T35 HR0.out x5_1 p314 q314
       (try rw [← Nbq8.out] at hx314_0)
       (try rw [← Nbq25.out] at hx314_0)
       (try rw [← Nbq28.out] at hx314_0)
       (try rw [← Nbq30.out] at hx314_0)
       (try rw [← Nbq8.out] at hx314_1)
       (try rw [← Nbq25.out] at hx314_1)
       (try rw [← Nbq28.out] at hx314_1)
       (try rw [← Nbq30.out] at hx314_1)
       (try rw [← Nbq8.out] at hx314_2)
       (try rw [← Nbq25.out] at hx314_2)
       (try rw [← Nbq28.out] at hx314_2)
       (try rw [← Nbq30.out] at hx314_2)
       obtain rfl : ad306 = ad314 := (by injection e314)
       replace p314 := eq_true p314
       replace q314 := eq_true q314
       have p315 : 0 ≤ (x5_1 : Int) := of_decide_eq_true (by assumption)
       have q315 : x5_1 < (l1.length : Int) := of_decide_eq_true (by assumption)
       obtain ⟨ad315, e315, hx315_0, hx315_1, hx315_2⟩ := at_T35 HR1.out x5_1 p315 q315
       (try rw [← Nbq8.out] at hx315_0)
       (try rw [← Nbq25.out] at hx315_0)
       (try rw [← Nbq28.out] at hx315_0)
       (try rw [← Nbq30.out] at hx315_0)
       (try rw [← Nbq8.out] at hx315_1)
       (try rw [← Nbq25.out] at hx315_1)
       (try rw [← Nbq28.out] at hx315_1)
       (try rw [← Nbq30.out] at hx315_1)
       (try rw [← Nbq8.out] at hx315_2)
       (try rw [← Nbq25.out] at hx315_2)
       (try rw [← Nbq28.out] at hx315_2)
       (try rw [← Nbq30.out] at hx315_2)
       cases e315
       replace p315 := eq_true p315
       replace q315 := eq_true q315
       have p316 : 0 ≤ (x5_1 : Int) := of_decide_eq_true (by assumption)
       have q316 : x5_1 < (l0.length : Int) := of_decide_eq_true (by assumption)
       obtain ⟨ad316, e316, hx316_0, hx316_1, hx316_2⟩ := at_T35 HR0.out x5_1 p316 q316
       (try rw [← Nbq8.out] at hx316_0)
       (try rw [← Nbq25.out] at hx316_0)
       (try rw [← Nbq28.out] at hx316_0)
       (try rw [← Nbq30.out] at hx316_0)
       (try rw [← Nbq8.out] at hx316_1)
       (try rw [← Nbq25.out] at hx316_1)
       (try rw [← Nbq28.out] at hx316_1)
       (try rw [← Nbq30.out] at hx316_1)
       (try rw [← Nbq8.out] at hx316_2)
       (try rw [← Nbq25.out] at hx316_2)
       (try rw [← Nbq28.out] at hx316_2)
       (try rw [← Nbq30.out] at hx316_2)
       obtain rfl : ad306 = ad316 := (by injection e316)
       replace p316 := eq_true p316
       replace q316 := eq_true q316
       go_wp2
       go_roundg kj2
       case measure => have := HK1.out; have := HJ2.out; omega
       case rel => exact ⟨(wrap64 (x5_1 + 1)), (by first | rfl | (simp; done) | (simp [*]; done)), H', ⟨by have := HK1.out; have := HJ2.out; omega⟩, by repeat (first | exact Drawn0.refl _ | apply Drawn0.step)⟩
      subst c31
      have H1 : (if (Qp l1 x5_1).f2 = true then (Qu.l0 kj2 l0 l1 (wrap64 (x5_1 + 1))) else (some false)) = some r := by rw [if_pos rfl] at H; exact H
      clear H
      have H := H1
      clear H1
      obtain ⟨bq32, hbq32⟩ : ∃ b_ : Bool, b_ = ((Qp l1 x5_1).f2) := ⟨_, rfl⟩
      replace H : (if bq32 = true then (Qu.l0 kj2 l0 l1 (wrap64 (x5_1 + 1))) else (some false)) = some r := by rw [← hbq32] at H; exact H
      have Nbq32 := Qa.mk hbq32
      clear hbq32
      by_cases c33 : bq32 = true
      ·
       subst c33
       have H1 : (Qu.l0 kj2 l0 l1 (wrap64 (x5_1 + 1))) = some r := by rw [if_pos rfl] at H; exact H
       clear H
       have H := H1
       clear H1
       have H' := Qa.mk H
       clear H
       have p306 : 0 ≤ (x5_1 : Int) := of_decide_eq_true (by assumption)
       have q306 : x5_1 < (l0.length : Int) := of_decide_eq_true (by assumption)
       obtain ⟨ad306, e306, hx306_0, hx306_1, hx306_2⟩ := at_T35 HR0.out x5_1 p306 q306
       (try rw [← Nbq8.out] at hx306_0)
       (try rw [← Nbq25.out] at hx306_0)
       (try rw [← Nbq28.out] at hx306_0)
       (try rw [← Nbq30.out] at hx306_0)
       (try rw [← Nbq32.out] at hx306_0)
       (try rw [← Nbq8.out] at hx306_1)
       (try rw [← Nbq25.out] at hx306_1)
       (try rw [← Nbq28.out] at hx306_1)
       (try rw [← Nbq30.out] at hx306_1)
       (try rw [← Nbq32.out] at hx306_1)
       (try rw [← Nbq8.out] at hx306_2)
       (try rw [← Nbq25.out] at hx306_2)
       (try rw [← Nbq28.out] at hx306_2)
       (try rw [← Nbq30.out] at hx306_2)
       (try rw [← Nbq32.out] at hx306_2)
       cases e306
       replace p306 := eq_true p306
       replace q306 := eq_true q306
       have p314 : 0 ≤ (x5_1 : Int) := of_decide_eq_true (by assumption)
       have q314 : x5_1 < (l0.length : Int) := of_decide_eq_true (by assumption)
       obtain ⟨ad314, e314, hx314_0, hx314_1, hx314_2⟩ := at_T35 HR0.out x5_1 p314 q314
       (try rw [← Nbq8.out] at hx314_0)
       (try rw [← Nbq25.out] at hx314_0)
       (try rw [← Nbq28.out] at hx314_0)
       (try rw [← Nbq30.out] at hx314_0)
       (try rw [← Nbq32.out] at hx314_0)
       (try rw [← Nbq8.out] at hx314_1)
       (try rw [← Nbq25.out] at hx314_1)
       (try rw [← Nbq28.out] at hx314_1)
       (try rw [← Nbq30.out] at hx314_1)
       (try rw [← Nbq32.out] at hx314_1)
       (try rw [← Nbq8.out] at hx314_2)
       (try rw [← Nbq25.out] at hx314_2)
       (try rw [← Nbq28.out] at hx314_2)
       (try rw [← Nbq30.out] at hx314_2)
       (try rw [← Nbq32.out] at hx314_2)
       obtain rfl : ad306 = ad314 := (by injection e314)
       replace p314 := eq_true p314
       replace q314 := eq_true q314
       have p315 : 0 ≤ (x5_1 : Int) := of_decide_eq_true (by assumption)
       have q315 : x5_1 < (l1.length : Int) := of_decide_eq_true (by assumption)
       obtain ⟨ad315, e315, hx315_0, hx315_1, hx315_2⟩ := at_T35 HR1.out x5_1 p315 q315
       (try rw [← Nbq8.out] at hx315_0)
       (try rw [← Nbq25.out] at hx315_0)
       (try rw [← Nbq28.out] at hx315_0)
       (try rw [← Nbq30.out] at hx315_0)
       (try rw [← Nbq32.out] at hx315_0)
       (try rw [← Nbq8.out] at hx315_1)
       (try rw [← Nbq25.out] at hx315_1)
       (try rw [← Nbq28.out] at hx315_1)
       (try rw [← Nbq30.out] at hx315_1)
       (try rw [← Nbq32.out] at hx315_1)
       (try rw [← Nbq8.out] at hx315_2)
       (try rw [← Nbq25.out] at hx315_2)
       (try rw [← Nbq28.out] at hx315_2)
       (try rw [← Nbq30.out] at hx315_2)
       (try rw [← Nbq32.out] at hx315_2)
       cases e315
       replace p315 := eq_true p315
       replace q315 := eq_true q315
       have p316 : 0 ≤ (x5_1 : Int) := of_decide_eq_true (by assumption)
       have q316 : x5_1 < (l0.length : Int) := of_decide_eq_true (by assumption)
       obtain ⟨ad316, e316, hx316_0, hx316_1, hx316_2⟩ := at_T35 HR0.out x5_1 p316 q316
       (try rw [← Nbq8.out] at hx316_0)
       (try rw [← Nbq25.out] at hx316_0)
       (try rw [← Nbq28.out] at hx316_0)
       (try rw [← Nbq30.out] at hx316_0)
       (try rw [← Nbq32.out] at hx316_0)
       (try rw [← Nbq8.out] at hx316_1)
       (try rw [← Nbq25.out] at hx316_1)
       (try rw [← Nbq28.out] at hx316_1)
       (try rw [← Nbq30.out] at hx316_1)
       (try rw [← Nbq32.out] at hx316_1)
       (try rw [← Nbq8.out] at hx316_2)
       (try rw [← Nbq25.out] at hx316_2)
       (try rw [← Nbq28.out] at hx316_2)
       (try rw [← Nbq30.out] at hx316_2)
       (try rw [← Nbq32.out] at hx316_2)
       obtain rfl : ad306 = ad316 := (by injection e316)
       replace p316 := eq_true p316
       replace q316 := eq_true q316
       have p317 : 0 ≤ (x5_1 : Int) := of_decide_eq_true (by assumption)
       have q317 : x5_1 < (l1.length : Int) := of_decide_eq_true (by assumption)
       obtain ⟨ad317, e317, hx317_0, hx317_1, hx317_2⟩ := at_T35 HR1.out x5_1 p317 q317
       (try rw [← Nbq8.out] at hx317_0)
       (try rw [← Nbq25.out] at hx317_0)
       (try rw [← Nbq28.out] at hx317_0)
       (try rw [← Nbq30.out] at hx317_0)
       (try rw [← Nbq32.out] at hx317_0)
       (try rw [← Nbq8.out] at hx317_1)
       (try rw [← Nbq25.out] at hx317_1)
       (try rw [← Nbq28.out] at hx317_1)
       (try rw [← Nbq30.out] at hx317_1)
       (try rw [← Nbq32.out] at hx317_1)
       (try rw [← Nbq8.out] at hx317_2)
       (try rw [← Nbq25.out] at hx317_2)
       (try rw [← Nbq28.out] at hx317_2)
       (try rw [← Nbq30.out] at hx317_2)
       (try rw [← Nbq32.out] at hx317_2)
       obtain rfl : ad315 = ad317 := (by injection e317)
       replace p317 := eq_true p317
       replace q317 := eq_true q317
       go_wp2
       go_roundg kj2
       case measure => have := HK1.out; have := HJ2.out; omega
       case rel => exact ⟨(wrap64 (x5_1 + 1)), (by first | rfl | (simp; done) | (simp [*]; done)), H', ⟨by have := HK1.out; have := HJ2.out; omega⟩, by repeat (first | exact Drawn0.refl _ | apply Drawn0.step)⟩
      replace c33 := Bool.eq_false_iff.mpr c33
      subst c33
      have H1 : (some false) = some r := by rw [if_neg (show ¬ (false = true) by decide)] at H; exact H
      clear H
      have H := H1
      clear H1
      obtain rfl := Option.some.inj H
      have p306 : 0 ≤ (x5_1 : Int) := of_decide_eq_true (by assumption)
      have q306 : x5_1 < (l0.length : Int) := of_decide_eq_true (by assumption)
      obtain ⟨ad306, e306, hx306_0, hx306_1, hx306_2⟩ := at_T35 HR0.out x5_1 p306 q306
      (try rw [← Nbq8.out] at hx306_0)
      (try rw [← Nbq25.out] at hx306_0)
      (try rw [← Nbq28.out] at hx306_0)
      (try rw [← Nbq30.out] at hx306_0)
      (try rw [← Nbq32.out] at hx306_0)
      (try rw [← Nbq8.out] at hx306_1)
      (try rw [← Nbq25.out] at hx306_1)
      (try rw [← Nbq28.out] at hx306_1)
      (try rw [← Nbq30.out] at hx306_1)
      (try rw [← Nbq32.out] at hx306_1)
      (try rw [← Nbq8.out] at hx306_2)
      (try rw [← Nbq25.out] at hx306_2)
      (try rw [← Nbq28.out] at hx306_2)
      (try rw [← Nbq30.out] at hx306_2)
      (try rw [← Nbq32.out] at hx306_2)
      cases e306
      replace p306 := eq_true p306
      replace q306 := eq_true q306
      have p314 : 0 ≤ (x5_1 : Int) := of_decide_eq_true (by assumption)
      have q314 : x5_1 < (l0.length : Int) := of_decide_eq_true (by assumption)
      obtain ⟨ad314, e314, hx314_0, hx314_1, hx314_2⟩ := at_T35 HR0.out x5_1 p314 q314
      (try rw [← Nbq8.out] at hx314_0)
      (try rw [← Nbq25.out] at hx314_0)
      (try rw [← Nbq28.out] at hx314_0)
      (try rw [← Nbq30.out] at hx314_0)
      (try rw [← Nbq32.out] at hx314_0)
      (try rw [← Nbq8.out] at hx314_1)
      (try rw [← Nbq25.out] at hx314_1)
      (try rw [← Nbq28.out] at hx314_1)
      (try rw [← Nbq30.out] at hx314_1)
      (try rw [← Nbq32.out] at hx314_1)
      (try rw [← Nbq8.out] at hx314_2)
      (try rw [← Nbq25.out] at hx314_2)
      (try rw [← Nbq28.out] at hx314_2)
      (try rw [← Nbq30.out] at hx314_2)
      (try rw [← Nbq32.out] at hx314_2)
      obtain rfl : ad306 = ad314 := (by injection e314)
      replace p314 := eq_true p314
      replace q314 := eq_true q314
      have p315 : 0 ≤ (x5_1 : Int) := of_decide_eq_true (by assumption)
      have q315 : x5_1 < (l1.length : Int) := of_decide_eq_true (by assumption)
      obtain ⟨ad315, e315, hx315_0, hx315_1, hx315_2⟩ := at_T35 HR1.out x5_1 p315 q315
      (try rw [← Nbq8.out] at hx315_0)
      (try rw [← Nbq25.out] at hx315_0)
      (try rw [← Nbq28.out] at hx315_0)
      (try rw [← Nbq30.out] at hx315_0)
      (try rw [← Nbq32.out] at hx315_0)
      (try rw [← Nbq8.out] at hx315_1)
      (try rw [← Nbq25.out] at hx315_1)
      (try rw [← Nbq28.out] at hx315_1)
      (try rw [← Nbq30.out] at hx315_1)
      (try rw [← Nbq32.out] at hx315_1)
      (try rw [← Nbq8.out] at hx315_2)
      (try rw [← Nbq25.out] at hx315_2)
      (try rw [← Nbq28.out] at hx315_2)
      (try rw [← Nbq30.out] at hx315_2)
      (try rw [← Nbq32.out] at hx315_2)
      cases e315
      replace p315 := eq_true p315
      replace q315 := eq_true q315
      have p316 : 0 ≤ (x5_1 : Int) := of_decide_eq_true (by assumption)
      have q316 : x5_1 < (l0.length : Int) := of_decide_eq_true (by assumption)
      obtain ⟨ad316, e316, hx316_0, hx316_1, hx316_2⟩ := at_T35 HR0.out x5_1 p316 q316
      (try rw [← Nbq8.out] at hx316_0)
      (try rw [← Nbq25.out] at hx316_0)
      (try rw [← Nbq28.out] at hx316_0)
      (try rw [← Nbq30.out] at hx316_0)
      (try rw [← Nbq32.out] at hx316_0)
      (try rw [← Nbq8.out] at hx316_1)
      (try rw [← Nbq25.out] at hx316_1)
      (try rw [← Nbq28.out] at hx316_1)
      (try rw [← Nbq30.out] at hx316_1)
      (try rw [← Nbq32.out] at hx316_1)
      (try rw [← Nbq8.out] at hx316_2)
      (try rw [← Nbq25.out] at hx316_2)
      (try rw [← Nbq28.out] at hx316_2)
      (try rw [← Nbq30.out] at hx316_2)
      (try rw [← Nbq32.out] at hx316_2)
      obtain rfl : ad306 = ad316 := (by injection e316)
      replace p316 := eq_true p316
      replace q316 := eq_true q316
      have p317 : 0 ≤ (x5_1 : Int) := of_decide_eq_true (by assumption)
      have q317 : x5_1 < (l1.length : Int) := of_decide_eq_true (by assumption)
      obtain ⟨ad317, e317, hx317_0, hx317_1, hx317_2⟩ := at_T35 HR1.out x5_1 p317 q317
      (try rw [← Nbq8.out] at hx317_0)
      (try rw [← Nbq25.out] at hx317_0)
      (try rw [← Nbq28.out] at hx317_0)
      (try rw [← Nbq30.out] at hx317_0)
      (try rw [← Nbq32.out] at hx317_0)
      (try rw [← Nbq8.out] at hx317_1)
      (try rw [← Nbq25.out] at hx317_1)
      (try rw [← Nbq28.out] at hx317_1)
      (try rw [← Nbq30.out] at hx317_1)
      (try rw [← Nbq32.out] at hx317_1)
      (try rw [← Nbq8.out] at hx317_2)
      (try rw [← Nbq25.out] at hx317_2)
      (try rw [← Nbq28.out] at hx317_2)
      (try rw [← Nbq30.out] at hx317_2)
      (try rw [← Nbq32.out] at hx317_2)
      obtain rfl : ad315 = ad317 := (by injection e317)
      replace p317 := eq_true p317
      replace q317 := eq_true q317
      go_wp2
      go_ret
      exact ⟨by first | rfl | (simp; done) | (simp [*]; done) | (refine congrArg (fun b_ => Ending.returned (Value.bool b_)) ?_; rw [Bool.eq_iff_iff]; simp; done), by repeat (first | exact Drawn0.refl _ | apply Drawn0.step)⟩
     replace c26 := Bool.eq_false_iff.mpr c26
     subst c26
     have H1 : (if (Qp l0 x5_1).f2 = true then (if x5_1 < (l1.length : Int) then (if (Qp l1 x5_1).f2 = true then (Qu.l0 kj2 l0 l1 (wrap64 (x5_1 + 1))) else (some false)) else (none)) else (Qu.l0 kj2 l0 l1 (wrap64 (x5_1 + 1)))) = some r := by rw [if_neg (show ¬ (false = true) by decide)] at H; exact H
     clear H
     have H := H1
     clear H1
     obtain ⟨bq34, hbq34⟩ : ∃ b_ : Bool, b_ = ((Qp l0 x5_1).f2) := ⟨_, rfl⟩
     replace H : (if bq34 = true then (if x5_1 < (l1.length : Int) then (if (Qp l1 x5_1).f2 = true then (Qu.l0 kj2 l0 l1 (wrap64 (x5_1 + 1))) else (some false)) else (none)) else (Qu.l0 kj2 l0 l1 (wrap64 (x5_1 + 1)))) = some r := by rw [← hbq34] at H; exact H
     have Nbq34 := Qa.mk hbq34
     clear hbq34
     by_cases c35 : bq34 = true
     rotate_left
     ·
      replace c35 := Bool.eq_false_iff.mpr c35
      subst c35
      have H1 : (Qu.l0 kj2 l0 l1 (wrap64 (x5_1 + 1))) = some r := by rw [if_neg (show ¬ (false = true) by decide)] at H; exact H
      clear H
      have H := H1
      clear H1
      have H' := Qa.mk H
      clear H
      have p306 : 0 ≤ (x5_1 : Int) := of_decide_eq_true (by assumption)
      have q306 : x5_1 < (l0.length : Int) := of_decide_eq_true (by assumption)
      obtain ⟨ad306, e306, hx306_0, hx306_1, hx306_2⟩ := at_T35 HR0.out x5_1 p306 q306
      (try rw [← Nbq8.out] at hx306_0)
      (try rw [← Nbq25.out] at hx306_0)
      (try rw [← Nbq34.out] at hx306_0)
      (try rw [← Nbq8.out] at hx306_1)
      (try rw [← Nbq25.out] at hx306_1)
      (try rw [← Nbq34.out] at hx306_1)
      (try rw [← Nbq8.out] at hx306_2)
      (try rw [← Nbq25.out] at hx306_2)
      (try rw [← Nbq34.out] at hx306_2)
      cases e306
      replace p306 := eq_true p306
      replace q306 := eq_true q306
      have p314 : 0 ≤ (x5_1 : Int) := of_decide_eq_true (by assumption)
      have q314 : x5_1 < (l0.length : Int) := of_decide_eq_true (by assumption)
      obtain ⟨ad314, e314, hx314_0, hx314_1, hx314_2⟩ := at_T35 HR0.out x5_1 p314 q314
      (try rw [← Nbq8.out] at hx314_0)
      (try rw [← Nbq25.out] at hx314_0)
      (try rw [← Nbq34.out] at hx314_0)
      (try rw [← Nbq8.out] at hx314_1)
      (try rw [← Nbq25.out] at hx314_1)
      (try rw [← Nbq34.out] at hx314_1)
      (try rw [← Nbq8.out] at hx314_2)
      (try rw [← Nbq25.out] at hx314_2)
      (try rw [← Nbq34.out] at hx314_2)
      obtain rfl : ad306 = ad314 := (by injection e314)
      replace p314 := eq_true p314
      replace q314 := eq_true q314
      have p318 : 0 ≤ (x5_1 : Int) := of_decide_eq_true (by assumption)
      have q318 : x5_1 < (l0.length : Int) := of_decide_eq_true (by assumption)
      obtain ⟨ad318, e318, hx318_0, hx318_1, hx318_2⟩ := at_T35 HR0.out x5_1 p318 q318
      (try rw [← Nbq8.out] at hx318_0)
      (try rw [← Nbq25.out] at hx318_0)
      (try rw [← Nbq34.out] at hx318_0)
      (try rw [← Nbq8.out] at hx318_1)
      (try rw [← Nbq25.out] at hx318_1)
      (try rw [← Nbq34.out] at hx318_1)
      (try rw [← Nbq8.out] at hx318_2)
      (try rw [← Nbq25.out] at hx318_2)
      (try rw [← Nbq34.out] at hx318_2)
      obtain rfl : ad306 = ad318 := (by injection e318)
      replace p318 := eq_true p318
      replace q318 := eq_true q318
      go_wp2
      go_roundg kj2
      case measure => have := HK1.out; have := HJ2.out; omega
      case rel => exact ⟨(wrap64 (x5_1 + 1)), (by first | rfl | (simp; done) | (simp [*]; done)), H', ⟨by have := HK1.out; have := HJ2.out; omega⟩, by repeat (first | exact Drawn0.refl _ | apply Drawn0.step)⟩
     subst c35
     have H1 : (if x5_1 < (l1.length : Int) then (if (Qp l1 x5_1).f2 = true then (Qu.l0 kj2 l0 l1 (wrap64 (x5_1 + 1))) else (some false)) else (none)) = some r := by rw [if_pos rfl] at H; exact H
     clear H
     have H := H1
     clear H1
     by_cases c36 : x5_1 < (l1.length : Int)
     rotate_left
     ·
      rw [if_neg c36] at H
      exact absurd H (by simp)
     rw [if_pos c36] at H
     have c36b0 : decide (x5_1 < (l1.length : Int)) = true := decide_eq_true c36
     clear c36
     obtain ⟨bq37, hbq37⟩ : ∃ b_ : Bool, b_ = ((Qp l1 x5_1).f2) := ⟨_, rfl⟩
     replace H : (if bq37 = true then (Qu.l0 kj2 l0 l1 (wrap64 (x5_1 + 1))) else (some false)) = some r := by rw [← hbq37] at H; exact H
     have Nbq37 := Qa.mk hbq37
     clear hbq37
     by_cases c38 : bq37 = true
     ·
      subst c38
      have H1 : (Qu.l0 kj2 l0 l1 (wrap64 (x5_1 + 1))) = some r := by rw [if_pos rfl] at H; exact H
      clear H
      have H := H1
      clear H1
      have H' := Qa.mk H
      clear H
      have p306 : 0 ≤ (x5_1 : Int) := of_decide_eq_true (by assumption)
      have q306 : x5_1 < (l0.length : Int) := of_decide_eq_true (by assumption)
      obtain ⟨ad306, e306, hx306_0, hx306_1, hx306_2⟩ := at_T35 HR0.out x5_1 p306 q306
      (try rw [← Nbq8.out] at hx306_0)
      (try rw [← Nbq25.out] at hx306_0)
      (try rw [← Nbq34.out] at hx306_0)
      (try rw [← Nbq37.out] at hx306_0)
      (try rw [← Nbq8.out] at hx306_1)
      (try rw [← Nbq25.out] at hx306_1)
      (try rw [← Nbq34.out] at hx306_1)
      (try rw [← Nbq37.out] at hx306_1)
      (try rw [← Nbq8.out] at hx306_2)
      (try rw [← Nbq25.out] at hx306_2)
      (try rw [← Nbq34.out] at hx306_2)
      (try rw [← Nbq37.out] at hx306_2)
      cases e306
      replace p306 := eq_true p306
      replace q306 := eq_true q306
      have p314 : 0 ≤ (x5_1 : Int) := of_decide_eq_true (by assumption)
      have q314 : x5_1 < (l0.length : Int) := of_decide_eq_true (by assumption)
      obtain ⟨ad314, e314, hx314_0, hx314_1, hx314_2⟩ := at_T35 HR0.out x5_1 p314 q314
      (try rw [← Nbq8.out] at hx314_0)
      (try rw [← Nbq25.out] at hx314_0)
      (try rw [← Nbq34.out] at hx314_0)
      (try rw [← Nbq37.out] at hx314_0)
      (try rw [← Nbq8.out] at hx314_1)
      (try rw [← Nbq25.out] at hx314_1)
      (try rw [← Nbq34.out] at hx314_1)
      (try rw [← Nbq37.out] at hx314_1)
      (try rw [← Nbq8.out] at hx314_2)
      (try rw [← Nbq25.out] at hx314_2)
      (try rw [← Nbq34.out] at hx314_2)
      (try rw [← Nbq37.out] at hx314_2)
      obtain rfl : ad306 = ad314 := (by injection e314)
      replace p314 := eq_true p314
      replace q314 := eq_true q314
      have p318 : 0 ≤ (x5_1 : Int) := of_decide_eq_true (by assumption)
      have q318 : x5_1 < (l0.length : Int) := of_decide_eq_true (by assumption)
      obtain ⟨ad318, e318, hx318_0, hx318_1, hx318_2⟩ := at_T35 HR0.out x5_1 p318 q318
      (try rw [← Nbq8.out] at hx318_0)
      (try rw [← Nbq25.out] at hx318_0)
      (try rw [← Nbq34.out] at hx318_0)
      (try rw [← Nbq37.out] at hx318_0)
      (try rw [← Nbq8.out] at hx318_1)
      (try rw [← Nbq25.out] at hx318_1)
      (try rw [← Nbq34.out] at hx318_1)
      (try rw [← Nbq37.out] at hx318_1)
      (try rw [← Nbq8.out] at hx318_2)
      (try rw [← Nbq25.out] at hx318_2)
      (try rw [← Nbq34.out] at hx318_2)
      (try rw [← Nbq37.out] at hx318_2)
      obtain rfl : ad306 = ad318 := (by injection e318)
      replace p318 := eq_true p318
      replace q318 := eq_true q318
      have p319 : 0 ≤ (x5_1 : Int) := of_decide_eq_true (by assumption)
      have q319 : x5_1 < (l1.length : Int) := of_decide_eq_true (by assumption)
      obtain ⟨ad319, e319, hx319_0, hx319_1, hx319_2⟩ := at_T35 HR1.out x5_1 p319 q319
      (try rw [← Nbq8.out] at hx319_0)
      (try rw [← Nbq25.out] at hx319_0)
      (try rw [← Nbq34.out] at hx319_0)
      (try rw [← Nbq37.out] at hx319_0)
      (try rw [← Nbq8.out] at hx319_1)
      (try rw [← Nbq25.out] at hx319_1)
      (try rw [← Nbq34.out] at hx319_1)
      (try rw [← Nbq37.out] at hx319_1)
      (try rw [← Nbq8.out] at hx319_2)
      (try rw [← Nbq25.out] at hx319_2)
      (try rw [← Nbq34.out] at hx319_2)
      (try rw [← Nbq37.out] at hx319_2)
      cases e319
      replace p319 := eq_true p319
      replace q319 := eq_true q319
      go_wp2
      go_roundg kj2
      case measure => have := HK1.out; have := HJ2.out; omega
      case rel => exact ⟨(wrap64 (x5_1 + 1)), (by first | rfl | (simp; done) | (simp [*]; done)), H', ⟨by have := HK1.out; have := HJ2.out; omega⟩, by repeat (first | exact Drawn0.refl _ | apply Drawn0.step)⟩
     replace c38 := Bool.eq_false_iff.mpr c38
     subst c38
     have H1 : (some false) = some r := by rw [if_neg (show ¬ (false = true) by decide)] at H; exact H
     clear H
     have H := H1
     clear H1
     obtain rfl := Option.some.inj H
     have p306 : 0 ≤ (x5_1 : Int) := of_decide_eq_true (by assumption)
     have q306 : x5_1 < (l0.length : Int) := of_decide_eq_true (by assumption)
     obtain ⟨ad306, e306, hx306_0, hx306_1, hx306_2⟩ := at_T35 HR0.out x5_1 p306 q306
     (try rw [← Nbq8.out] at hx306_0)
     (try rw [← Nbq25.out] at hx306_0)
     (try rw [← Nbq34.out] at hx306_0)
     (try rw [← Nbq37.out] at hx306_0)
     (try rw [← Nbq8.out] at hx306_1)
     (try rw [← Nbq25.out] at hx306_1)
     (try rw [← Nbq34.out] at hx306_1)
     (try rw [← Nbq37.out] at hx306_1)
     (try rw [← Nbq8.out] at hx306_2)
     (try rw [← Nbq25.out] at hx306_2)
     (try rw [← Nbq34.out] at hx306_2)
     (try rw [← Nbq37.out] at hx306_2)
     cases e306
     replace p306 := eq_true p306
     replace q306 := eq_true q306
     have p314 : 0 ≤ (x5_1 : Int) := of_decide_eq_true (by assumption)
     have q314 : x5_1 < (l0.length : Int) := of_decide_eq_true (by assumption)
     obtain ⟨ad314, e314, hx314_0, hx314_1, hx314_2⟩ := at_T35 HR0.out x5_1 p314 q314
     (try rw [← Nbq8.out] at hx314_0)
     (try rw [← Nbq25.out] at hx314_0)
     (try rw [← Nbq34.out] at hx314_0)
     (try rw [← Nbq37.out] at hx314_0)
     (try rw [← Nbq8.out] at hx314_1)
     (try rw [← Nbq25.out] at hx314_1)
     (try rw [← Nbq34.out] at hx314_1)
     (try rw [← Nbq37.out] at hx314_1)
     (try rw [← Nbq8.out] at hx314_2)
     (try rw [← Nbq25.out] at hx314_2)
     (try rw [← Nbq34.out] at hx314_2)
     (try rw [← Nbq37.out] at hx314_2)
     obtain rfl : ad306 = ad314 := (by injection e314)
     replace p314 := eq_true p314
     replace q314 := eq_true q314
     have p318 : 0 ≤ (x5_1 : Int) := of_decide_eq_true (by assumption)
     have q318 : x5_1 < (l0.length : Int) := of_decide_eq_true (by assumption)
     obtain ⟨ad318, e318, hx318_0, hx318_1, hx318_2⟩ := at_T35 HR0.out x5_1 p318 q318
     (try rw [← Nbq8.out] at hx318_0)
     (try rw [← Nbq25.out] at hx318_0)
     (try rw [← Nbq34.out] at hx318_0)
     (try rw [← Nbq37.out] at hx318_0)
     (try rw [← Nbq8.out] at hx318_1)
     (try rw [← Nbq25.out] at hx318_1)
     (try rw [← Nbq34.out] at hx318_1)
     (try rw [← Nbq37.out] at hx318_1)
     (try rw [← Nbq8.out] at hx318_2)
     (try rw [← Nbq25.out] at hx318_2)
     (try rw [← Nbq34.out] at hx318_2)
     (try rw [← Nbq37.out] at hx318_2)
     obtain rfl : ad306 = ad318 := (by injection e318)
     replace p318 := eq_true p318
     replace q318 := eq_true q318
     have p319 : 0 ≤ (x5_1 : Int) := of_decide_eq_true (by assumption)
     have q319 : x5_1 < (l1.length : Int) := of_decide_eq_true (by assumption)
     obtain ⟨ad319, e319, hx319_0, hx319_1, hx319_2⟩ := at_T35 HR1.out x5_1 p319 q319
     (try rw [← Nbq8.out] at hx319_0)
     (try rw [← Nbq25.out] at hx319_0)
     (try rw [← Nbq34.out] at hx319_0)
     (try rw [← Nbq37.out] at hx319_0)
     (try rw [← Nbq8.out] at hx319_1)
     (try rw [← Nbq25.out] at hx319_1)
     (try rw [← Nbq34.out] at hx319_1)
     (try rw [← Nbq37.out] at hx319_1)
     (try rw [← Nbq8.out] at hx319_2)
     (try rw [← Nbq25.out] at hx319_2)
     (try rw [← Nbq34.out] at hx319_2)
     (try rw [← Nbq37.out] at hx319_2)
     cases e319
     replace p319 := eq_true p319
     replace q319 := eq_true q319
     go_wp2
     go_ret
     exact ⟨by first | rfl | (simp; done) | (simp [*]; done) | (refine congrArg (fun b_ => Ending.returned (Value.bool b_)) ?_; rw [Bool.eq_iff_iff]; simp; done), by repeat (first | exact Drawn0.refl _ | apply Drawn0.step)⟩
end Go.Proofs.Ytnaanamibfpbpaa.V
