/- The law NaiveEnough returns true whatever comes in, and leaves its arguments as they were. No condition. -/
import Derived.Test.YthgedejnpgcacaaKNn1
namespace Go.Proofs.Ythgedejnpgcacaa.V
open Go.RowKit Go.Proofs.YthgedejnpgcacaaW.PrintWords Go.Proofs.YthgedejnpgcacaaW.PrintLast Go.Proofs.YthgedejnpgcacaaW.PrintMore
attribute [local go_sem] max2_int min2_int max_two min_two max_three min_three max_four min_four tdiv_most
set_option linter.unusedVariables false
set_option linter.unusedSimpArgs false
attribute [local go_sem high] eqA32
def vetchlaw18_awake.f (k : Nat)  : Option (Bool) := (some (([(⟨(⟨#[65]⟩ : ByteArray), 4⟩ : S51)] : List (S51)) : List (S51))).bind fun y163 => ((some (([(⟨1, ([] : List Int), 0, (⟨0, 8589934592, 0, 0⟩ : S54)⟩ : S56), (⟨2, ([] : List Int), 0, (⟨0, 0, 0, 0⟩ : S54)⟩ : S56), (⟨3, (([0, 1] : List Int)), 0, (⟨0, 0, 0, 0⟩ : S54)⟩ : S56), (⟨1, ([] : List Int), 0, (⟨0, 17179869184, 0, 0⟩ : S54)⟩ : S56), (⟨4, (([2, 3] : List Int)), 0, (⟨0, 0, 0, 0⟩ : S54)⟩ : S56)] : List (S56)) : List (S56))).bind fun y172 => ((naive_Cost.f k y163 y172 (⟨#[97, 98]⟩ : ByteArray) 100).bind fun bt176 => ((naive_Cost.f k y163 y172 (⟨#[97, 98]⟩ : ByteArray) 7).bind fun bt178 => ((naive_Ends.f k y163 y172 4 (⟨#[97, 98]⟩ : ByteArray) 100).bind fun t180 => ((naive_Run.f k y163 y172 (⟨#[97, 98]⟩ : ByteArray) 10).bind fun bt183 => (if (bt183.1 && (bt183.2.1 == 2 && (bt183.2.2 == 2))) = true then (if bt176.1 = 8 then (if bt176.2 = true then (if bt178.2 = true then (some false) else ((naive_Run.f k y163 y172 (⟨#[97, 98]⟩ : ByteArray) 7).bind fun bt186 => (if (!bt186.1 && (bt186.2.1 == 0 && (bt186.2.2 == 0))) = true then (if (t180.length : Int) = 3 then (if 0 < (t180.length : Int) then (if (rd t180 0) = 2 then (if 1 < (t180.length : Int) then (if (rd t180 1) = 2 then (if 2 < (t180.length : Int) then (some ((rd t180 2) == (-1))) else (none)) else (some false)) else (none)) else (some false)) else (none)) else (some false)) else (some false)))) else (some false)) else (some false)) else (some false)))))))
theorem vetchlaw18_awake.mono : ∀ k, LeO (vetchlaw18_awake.f k ) (vetchlaw18_awake.f (k + 1) ) := by
 intro  k
 unfold vetchlaw18_awake.f
 repeat' first
  | (with_reducible exact naive_Cost.mono _ _ _ _ _)
  | (with_reducible exact naive_Ends.mono _ _ _ _ _ _)
  | (with_reducible exact naive_Run.mono _ _ _ _ _)
  | (with_reducible exact LeO.refl _)
  | (with_reducible exact LeO.none _)
  | (with_reducible refine LeO.ite ?_ ?_)
  | (with_reducible refine LeO.bind ?_ (fun _ => ?_))
  | exact naive_Cost.mono _ _ _ _ _
  | exact naive_Ends.mono _ _ _ _ _ _
  | exact naive_Run.mono _ _ _ _ _
  | exact LeO.none _
  | refine LeO.ite ?_ ?_
  | refine LeO.bind ?_ (fun _ => ?_)
set_option maxHeartbeats 8000000 in
set_option maxRecDepth 100000 in
theorem vetchlaw18_awake.calls (k : Nat)  (r : Bool) (w : World) (h : vetchlaw18_awake.f k  = some r) :
 Calls Try.prog 9 #[] w fun e w' => e = .returned (.bool r) ∧ Below w.heap.size w w' := by
 have hu51 := Try.underlying51
 have hu54 := Try.underlying54
 have hu56 := Try.underlying56
 have hu25 := Try.underlying25
 have hu32 := Try.underlying32
 have HB := Aside0.mk (Below.refl w.heap.size w)
 have H : ((some (([(⟨(⟨#[65]⟩ : ByteArray), 4⟩ : S51)] : List (S51)) : List (S51))).bind fun y163 => ((some (([(⟨1, ([] : List Int), 0, (⟨0, 8589934592, 0, 0⟩ : S54)⟩ : S56), (⟨2, ([] : List Int), 0, (⟨0, 0, 0, 0⟩ : S54)⟩ : S56), (⟨3, (([0, 1] : List Int)), 0, (⟨0, 0, 0, 0⟩ : S54)⟩ : S56), (⟨1, ([] : List Int), 0, (⟨0, 17179869184, 0, 0⟩ : S54)⟩ : S56), (⟨4, (([2, 3] : List Int)), 0, (⟨0, 0, 0, 0⟩ : S54)⟩ : S56)] : List (S56)) : List (S56))).bind fun y172 => ((naive_Cost.f k y163 y172 (⟨#[97, 98]⟩ : ByteArray) 100).bind fun bt176 => ((naive_Cost.f k y163 y172 (⟨#[97, 98]⟩ : ByteArray) 7).bind fun bt178 => ((naive_Ends.f k y163 y172 4 (⟨#[97, 98]⟩ : ByteArray) 100).bind fun t180 => ((naive_Run.f k y163 y172 (⟨#[97, 98]⟩ : ByteArray) 10).bind fun bt183 => (if (bt183.1 && (bt183.2.1 == 2 && (bt183.2.2 == 2))) = true then (if bt176.1 = 8 then (if bt176.2 = true then (if bt178.2 = true then (some false) else ((naive_Run.f k y163 y172 (⟨#[97, 98]⟩ : ByteArray) 7).bind fun bt186 => (if (!bt186.1 && (bt186.2.1 == 0 && (bt186.2.2 == 0))) = true then (if (t180.length : Int) = 3 then (if 0 < (t180.length : Int) then (if (rd t180 0) = 2 then (if 1 < (t180.length : Int) then (if (rd t180 1) = 2 then (if 2 < (t180.length : Int) then (some ((rd t180 2) == (-1))) else (none)) else (some false)) else (none)) else (some false)) else (none)) else (some false)) else (some false)))) else (some false)) else (some false)) else (some false)))))))) = some r := h
 clear h
 obtain ⟨y163, hy163⟩ : ∃ y_ : List (S51), y_ = (([(⟨(⟨#[65]⟩ : ByteArray), 4⟩ : S51)] : List (S51))) := ⟨_, rfl⟩
 replace H : ((some (([(⟨1, ([] : List Int), 0, (⟨0, 8589934592, 0, 0⟩ : S54)⟩ : S56), (⟨2, ([] : List Int), 0, (⟨0, 0, 0, 0⟩ : S54)⟩ : S56), (⟨3, (([0, 1] : List Int)), 0, (⟨0, 0, 0, 0⟩ : S54)⟩ : S56), (⟨1, ([] : List Int), 0, (⟨0, 17179869184, 0, 0⟩ : S54)⟩ : S56), (⟨4, (([2, 3] : List Int)), 0, (⟨0, 0, 0, 0⟩ : S54)⟩ : S56)] : List (S56)) : List (S56))).bind fun y172 => ((naive_Cost.f k y163 y172 (⟨#[97, 98]⟩ : ByteArray) 100).bind fun bt176 => ((naive_Cost.f k y163 y172 (⟨#[97, 98]⟩ : ByteArray) 7).bind fun bt178 => ((naive_Ends.f k y163 y172 4 (⟨#[97, 98]⟩ : ByteArray) 100).bind fun t180 => ((naive_Run.f k y163 y172 (⟨#[97, 98]⟩ : ByteArray) 10).bind fun bt183 => (if (bt183.1 && (bt183.2.1 == 2 && (bt183.2.2 == 2))) = true then (if bt176.1 = 8 then (if bt176.2 = true then (if bt178.2 = true then (some false) else ((naive_Run.f k y163 y172 (⟨#[97, 98]⟩ : ByteArray) 7).bind fun bt186 => (if (!bt186.1 && (bt186.2.1 == 0 && (bt186.2.2 == 0))) = true then (if (t180.length : Int) = 3 then (if 0 < (t180.length : Int) then (if (rd t180 0) = 2 then (if 1 < (t180.length : Int) then (if (rd t180 1) = 2 then (if 2 < (t180.length : Int) then (some ((rd t180 2) == (-1))) else (none)) else (some false)) else (none)) else (some false)) else (none)) else (some false)) else (some false)))) else (some false)) else (some false)) else (some false))))))) = some r := by first | (rw [hy163]; with_reducible exact H) | (have H2_ := (Option.bind_some _ _).symm.trans H; rw [hy163]; with_reducible exact H2_) | (have H2_ := (Option.bind_some _ _).symm.trans H; with_reducible exact H2_) | with_reducible exact H | (rw [hy163]; exact H) | exact H
 have Ny163 := Aside0.mk hy163
 clear hy163
 obtain ⟨y166, hy166⟩ : ∃ y_ : List Int, y_ = (([0, 1] : List Int)) := ⟨_, rfl⟩
 replace H : ((some (([(⟨1, ([] : List Int), 0, (⟨0, 8589934592, 0, 0⟩ : S54)⟩ : S56), (⟨2, ([] : List Int), 0, (⟨0, 0, 0, 0⟩ : S54)⟩ : S56), (⟨3, y166, 0, (⟨0, 0, 0, 0⟩ : S54)⟩ : S56), (⟨1, ([] : List Int), 0, (⟨0, 17179869184, 0, 0⟩ : S54)⟩ : S56), (⟨4, (([2, 3] : List Int)), 0, (⟨0, 0, 0, 0⟩ : S54)⟩ : S56)] : List (S56)) : List (S56))).bind fun y172 => ((naive_Cost.f k y163 y172 (⟨#[97, 98]⟩ : ByteArray) 100).bind fun bt176 => ((naive_Cost.f k y163 y172 (⟨#[97, 98]⟩ : ByteArray) 7).bind fun bt178 => ((naive_Ends.f k y163 y172 4 (⟨#[97, 98]⟩ : ByteArray) 100).bind fun t180 => ((naive_Run.f k y163 y172 (⟨#[97, 98]⟩ : ByteArray) 10).bind fun bt183 => (if (bt183.1 && (bt183.2.1 == 2 && (bt183.2.2 == 2))) = true then (if bt176.1 = 8 then (if bt176.2 = true then (if bt178.2 = true then (some false) else ((naive_Run.f k y163 y172 (⟨#[97, 98]⟩ : ByteArray) 7).bind fun bt186 => (if (!bt186.1 && (bt186.2.1 == 0 && (bt186.2.2 == 0))) = true then (if (t180.length : Int) = 3 then (if 0 < (t180.length : Int) then (if (rd t180 0) = 2 then (if 1 < (t180.length : Int) then (if (rd t180 1) = 2 then (if 2 < (t180.length : Int) then (some ((rd t180 2) == (-1))) else (none)) else (some false)) else (none)) else (some false)) else (none)) else (some false)) else (some false)))) else (some false)) else (some false)) else (some false))))))) = some r := by first | (rw [hy166]; with_reducible exact H) | (have H2_ := (Option.bind_some _ _).symm.trans H; rw [hy166]; with_reducible exact H2_) | (have H2_ := (Option.bind_some _ _).symm.trans H; with_reducible exact H2_) | with_reducible exact H | (rw [hy166]; exact H) | exact H
 have Ny166 := Aside0.mk hy166
 clear hy166
 obtain ⟨y169, hy169⟩ : ∃ y_ : List Int, y_ = (([2, 3] : List Int)) := ⟨_, rfl⟩
 replace H : ((some (([(⟨1, ([] : List Int), 0, (⟨0, 8589934592, 0, 0⟩ : S54)⟩ : S56), (⟨2, ([] : List Int), 0, (⟨0, 0, 0, 0⟩ : S54)⟩ : S56), (⟨3, y166, 0, (⟨0, 0, 0, 0⟩ : S54)⟩ : S56), (⟨1, ([] : List Int), 0, (⟨0, 17179869184, 0, 0⟩ : S54)⟩ : S56), (⟨4, y169, 0, (⟨0, 0, 0, 0⟩ : S54)⟩ : S56)] : List (S56)) : List (S56))).bind fun y172 => ((naive_Cost.f k y163 y172 (⟨#[97, 98]⟩ : ByteArray) 100).bind fun bt176 => ((naive_Cost.f k y163 y172 (⟨#[97, 98]⟩ : ByteArray) 7).bind fun bt178 => ((naive_Ends.f k y163 y172 4 (⟨#[97, 98]⟩ : ByteArray) 100).bind fun t180 => ((naive_Run.f k y163 y172 (⟨#[97, 98]⟩ : ByteArray) 10).bind fun bt183 => (if (bt183.1 && (bt183.2.1 == 2 && (bt183.2.2 == 2))) = true then (if bt176.1 = 8 then (if bt176.2 = true then (if bt178.2 = true then (some false) else ((naive_Run.f k y163 y172 (⟨#[97, 98]⟩ : ByteArray) 7).bind fun bt186 => (if (!bt186.1 && (bt186.2.1 == 0 && (bt186.2.2 == 0))) = true then (if (t180.length : Int) = 3 then (if 0 < (t180.length : Int) then (if (rd t180 0) = 2 then (if 1 < (t180.length : Int) then (if (rd t180 1) = 2 then (if 2 < (t180.length : Int) then (some ((rd t180 2) == (-1))) else (none)) else (some false)) else (none)) else (some false)) else (none)) else (some false)) else (some false)))) else (some false)) else (some false)) else (some false))))))) = some r := by first | (rw [hy169]; with_reducible exact H) | (have H2_ := (Option.bind_some _ _).symm.trans H; rw [hy169]; with_reducible exact H2_) | (have H2_ := (Option.bind_some _ _).symm.trans H; with_reducible exact H2_) | with_reducible exact H | (rw [hy169]; exact H) | exact H
 have Ny169 := Aside0.mk hy169
 clear hy169
 obtain ⟨y172, hy172⟩ : ∃ y_ : List (S56), y_ = (([(⟨1, ([] : List Int), 0, (⟨0, 8589934592, 0, 0⟩ : S54)⟩ : S56), (⟨2, ([] : List Int), 0, (⟨0, 0, 0, 0⟩ : S54)⟩ : S56), (⟨3, y166, 0, (⟨0, 0, 0, 0⟩ : S54)⟩ : S56), (⟨1, ([] : List Int), 0, (⟨0, 17179869184, 0, 0⟩ : S54)⟩ : S56), (⟨4, y169, 0, (⟨0, 0, 0, 0⟩ : S54)⟩ : S56)] : List (S56))) := ⟨_, rfl⟩
 replace H : ((naive_Cost.f k y163 y172 (⟨#[97, 98]⟩ : ByteArray) 100).bind fun bt176 => ((naive_Cost.f k y163 y172 (⟨#[97, 98]⟩ : ByteArray) 7).bind fun bt178 => ((naive_Ends.f k y163 y172 4 (⟨#[97, 98]⟩ : ByteArray) 100).bind fun t180 => ((naive_Run.f k y163 y172 (⟨#[97, 98]⟩ : ByteArray) 10).bind fun bt183 => (if (bt183.1 && (bt183.2.1 == 2 && (bt183.2.2 == 2))) = true then (if bt176.1 = 8 then (if bt176.2 = true then (if bt178.2 = true then (some false) else ((naive_Run.f k y163 y172 (⟨#[97, 98]⟩ : ByteArray) 7).bind fun bt186 => (if (!bt186.1 && (bt186.2.1 == 0 && (bt186.2.2 == 0))) = true then (if (t180.length : Int) = 3 then (if 0 < (t180.length : Int) then (if (rd t180 0) = 2 then (if 1 < (t180.length : Int) then (if (rd t180 1) = 2 then (if 2 < (t180.length : Int) then (some ((rd t180 2) == (-1))) else (none)) else (some false)) else (none)) else (some false)) else (none)) else (some false)) else (some false)))) else (some false)) else (some false)) else (some false)))))) = some r := by first | (rw [hy172]; with_reducible exact H) | (have H2_ := (Option.bind_some _ _).symm.trans H; rw [hy172]; with_reducible exact H2_) | (have H2_ := (Option.bind_some _ _).symm.trans H; with_reducible exact H2_) | with_reducible exact H | (rw [hy172]; exact H) | exact H
 have Ny172 := Aside0.mk hy172
 clear hy172
 replace H := Option.bind_eq_some_iff.mp H
 obtain ⟨⟨t176, t177⟩, A10, H⟩ := H
 replace H : ((naive_Cost.f k y163 y172 (⟨#[97, 98]⟩ : ByteArray) 7).bind fun bt178 => ((naive_Ends.f k y163 y172 4 (⟨#[97, 98]⟩ : ByteArray) 100).bind fun t180 => ((naive_Run.f k y163 y172 (⟨#[97, 98]⟩ : ByteArray) 10).bind fun bt183 => (if (bt183.1 && (bt183.2.1 == 2 && (bt183.2.2 == 2))) = true then (if t176 = 8 then (if t177 = true then (if bt178.2 = true then (some false) else ((naive_Run.f k y163 y172 (⟨#[97, 98]⟩ : ByteArray) 7).bind fun bt186 => (if (!bt186.1 && (bt186.2.1 == 0 && (bt186.2.2 == 0))) = true then (if (t180.length : Int) = 3 then (if 0 < (t180.length : Int) then (if (rd t180 0) = 2 then (if 1 < (t180.length : Int) then (if (rd t180 1) = 2 then (if 2 < (t180.length : Int) then (some ((rd t180 2) == (-1))) else (none)) else (some false)) else (none)) else (some false)) else (none)) else (some false)) else (some false)))) else (some false)) else (some false)) else (some false))))) = some r := H
 have A1 := Aside0.mk A10
 clear A10
 replace H := Option.bind_eq_some_iff.mp H
 obtain ⟨⟨t178, t179⟩, A20, H⟩ := H
 replace H : ((naive_Ends.f k y163 y172 4 (⟨#[97, 98]⟩ : ByteArray) 100).bind fun t180 => ((naive_Run.f k y163 y172 (⟨#[97, 98]⟩ : ByteArray) 10).bind fun bt183 => (if (bt183.1 && (bt183.2.1 == 2 && (bt183.2.2 == 2))) = true then (if t176 = 8 then (if t177 = true then (if t179 = true then (some false) else ((naive_Run.f k y163 y172 (⟨#[97, 98]⟩ : ByteArray) 7).bind fun bt186 => (if (!bt186.1 && (bt186.2.1 == 0 && (bt186.2.2 == 0))) = true then (if (t180.length : Int) = 3 then (if 0 < (t180.length : Int) then (if (rd t180 0) = 2 then (if 1 < (t180.length : Int) then (if (rd t180 1) = 2 then (if 2 < (t180.length : Int) then (some ((rd t180 2) == (-1))) else (none)) else (some false)) else (none)) else (some false)) else (none)) else (some false)) else (some false)))) else (some false)) else (some false)) else (some false)))) = some r := H
 have A2 := Aside0.mk A20
 clear A20
 replace H := Option.bind_eq_some_iff.mp H
 obtain ⟨t180, A30, H⟩ := H
 replace H : ((naive_Run.f k y163 y172 (⟨#[97, 98]⟩ : ByteArray) 10).bind fun bt183 => (if (bt183.1 && (bt183.2.1 == 2 && (bt183.2.2 == 2))) = true then (if t176 = 8 then (if t177 = true then (if t179 = true then (some false) else ((naive_Run.f k y163 y172 (⟨#[97, 98]⟩ : ByteArray) 7).bind fun bt186 => (if (!bt186.1 && (bt186.2.1 == 0 && (bt186.2.2 == 0))) = true then (if (t180.length : Int) = 3 then (if 0 < (t180.length : Int) then (if (rd t180 0) = 2 then (if 1 < (t180.length : Int) then (if (rd t180 1) = 2 then (if 2 < (t180.length : Int) then (some ((rd t180 2) == (-1))) else (none)) else (some false)) else (none)) else (some false)) else (none)) else (some false)) else (some false)))) else (some false)) else (some false)) else (some false))) = some r := H
 have A3 := Aside0.mk A30
 clear A30
 have HC4 := Aside0.mk H
 clear H
 go_enter Try.func9, Try.ntmps9
 go_upto_region 5 with (first | ((with_reducible refine gate_dst (N := 8) rfl ?_); (try (refine gate_guard (by rfl) ?_; dsimp only)); refine Kd.R_lit k51 _ 51 ?hg (N := 8) ?hd (xs := ([(⟨(⟨#[65]⟩ : ByteArray), 4⟩ : S51)] : List (S51))) (inner := [.string (⟨#[65]⟩ : ByteArray), .int .i64 4]) (ok := fun _ => True) (okp := fun _ => True) ?hr ?hp (fun _ hk => hk) trivial (Below.refl _ _) (Nat.le_refl _) (by simp) ?_; (case hd => rfl); (case hg => rfl); (case hr => first | (go_simp; done) | (go_simp; rfl)); (case hp => exact (Reps.c2 (show Kd.M k51 _ _ _ (⟨(⟨#[65]⟩ : ByteArray), 4⟩ : S51) [.string (⟨#[65]⟩ : ByteArray), .int .i64 4] from (k51_mkM _ _ _ (⟨(⟨#[65]⟩ : ByteArray), 4⟩ : S51) )) (Reps.none _ _))); intro v164 w5 ho6 hb hg_ hnew_; clear hg_ hnew_; (first | rw [← Ny163.out] at ho6 | (simp only [Int.reduceToNat] at ho6; rw [← Ny163.out] at ho6)); have n0_ := Aside0.mk (Kd.R_lower ho6 (below_size (by repeat (first | (with_reducible first | exact HB.out | apply below_alloc | apply pw_below_drewN | apply below_drew1) | exact HB.out)))); have n1_ := Aside0.mk (below_step (by repeat (first | (with_reducible first | exact HB.out | apply below_alloc | apply pw_below_drewN | apply below_drew1) | exact HB.out)) hb); clear HB; have HO165 := n0_; have HB := n1_; clear n0_ n1_; clear hb ho6) | ((with_reducible refine gate_dst (N := 12) rfl ?_); (try (refine gate_guard (by rfl) ?_; dsimp only)); refine Kd.R_lit (Kd.int .i64) _ 3 ?hg (N := 12) ?hd (xs := ([0, 1] : List Int)) (inner := [.int .i64 0, .int .i64 1]) (ok := fun _ => True) (okp := fun _ => True) ?hr ?hp (fun _ hk => hk) trivial (Below.refl _ _) (Nat.le_refl _) (by simp) ?_; (case hd => rfl); (case hg => rfl); (case hr => first | (go_simp; done) | (go_simp; rfl)); (case hp => exact (Reps.one (show Kd.M (Kd.int .i64) _ _ _ 0 [.int .i64 0] from rfl) (Reps.one (show Kd.M (Kd.int .i64) _ _ _ 1 [.int .i64 1] from rfl) (Reps.none _ _)))); intro v167 w7 ho8 hb hg_ hnew_; clear hg_ hnew_; (first | rw [← Ny166.out] at ho8 | (simp only [Int.reduceToNat] at ho8; rw [← Ny166.out] at ho8)); have n0_ := Aside0.mk (Kd.R_below (by (with_reducible repeat (first | apply Kd.R_alloc | apply Kd.R_drewN | apply Kd.R_drew)); exact HO165.out) hb); have n1_ := Aside0.mk (Kd.R_lower ho8 (below_size (by repeat (first | (with_reducible first | exact HB.out | apply below_alloc | apply pw_below_drewN | apply below_drew1) | exact HB.out)))); have n2_ := Aside0.mk (below_step (by repeat (first | (with_reducible first | exact HB.out | apply below_alloc | apply pw_below_drewN | apply below_drew1) | exact HB.out)) hb); clear HO165; clear HB; have HO165 := n0_; have HO168 := n1_; have HB := n2_; clear n0_ n1_ n2_; clear hb ho8; obtain ⟨Ao9, co9, eo9⟩ := Kd.R_slice HO168.out; subst eo9) | ((with_reducible refine gate_dst (N := 16) rfl ?_); (try (refine gate_guard (by rfl) ?_; dsimp only)); refine Kd.R_lit (Kd.int .i64) _ 3 ?hg (N := 16) ?hd (xs := ([2, 3] : List Int)) (inner := [.int .i64 2, .int .i64 3]) (ok := fun _ => True) (okp := fun _ => True) ?hr ?hp (fun _ hk => hk) trivial (Below.refl _ _) (Nat.le_refl _) (by simp) ?_; (case hd => rfl); (case hg => rfl); (case hr => first | (go_simp; done) | (go_simp; rfl)); (case hp => exact (Reps.one (show Kd.M (Kd.int .i64) _ _ _ 2 [.int .i64 2] from rfl) (Reps.one (show Kd.M (Kd.int .i64) _ _ _ 3 [.int .i64 3] from rfl) (Reps.none _ _)))); intro v170 w10 ho11 hb hg_ hnew_; clear hg_ hnew_; (first | rw [← Ny169.out] at ho11 | (simp only [Int.reduceToNat] at ho11; rw [← Ny169.out] at ho11)); have n0_ := Aside0.mk (Kd.R_below (by (with_reducible repeat (first | apply Kd.R_alloc | apply Kd.R_drewN | apply Kd.R_drew)); exact HO165.out) hb); have n1_ := Aside0.mk (Kd.R_elder' (by (with_reducible repeat (first | apply Kd.R_alloc | apply Kd.R_drewN | apply Kd.R_drew)); exact HO168.out) (Kd.R_base ho11) hb); have n2_ := Aside0.mk (Kd.R_lower (Kd.R_new' ho11 (Kd.R_lt (by (with_reducible repeat (first | apply Kd.R_alloc | apply Kd.R_drewN | apply Kd.R_drew)); exact HO168.out))) (below_size (by repeat (first | (with_reducible first | exact HB.out | apply below_alloc | apply pw_below_drewN | apply below_drew1) | exact HB.out)))); have n3_ := Aside0.mk (below_step (by repeat (first | (with_reducible first | exact HB.out | apply below_alloc | apply pw_below_drewN | apply below_drew1) | exact HB.out)) hb); clear HO165; clear HO168; clear HB; have HO165 := n0_; have HO168 := n1_; have HO171 := n2_; have HB := n3_; clear n0_ n1_ n2_ n3_; clear hb ho11; obtain ⟨Ao12, co12, eo12⟩ := Kd.R_slice HO171.out; subst eo12) | ((with_reducible refine gate_dst (N := 18) rfl ?_); (try (refine gate_guard (by rfl) ?_; dsimp only)); refine Kd.N_lit k56 _ 56 ?hg (N' := 18) ?hd (xs := ([(⟨1, ([] : List Int), 0, (⟨0, 8589934592, 0, 0⟩ : S54)⟩ : S56), (⟨2, ([] : List Int), 0, (⟨0, 0, 0, 0⟩ : S54)⟩ : S56), (⟨3, y166, 0, (⟨0, 0, 0, 0⟩ : S54)⟩ : S56), (⟨1, ([] : List Int), 0, (⟨0, 17179869184, 0, 0⟩ : S54)⟩ : S56), (⟨4, y169, 0, (⟨0, 0, 0, 0⟩ : S54)⟩ : S56)] : List (S56))) (inner := [.int .i64 1, .slice none 0 0, .int .i64 0, .int .u64 0, .int .u64 8589934592, .int .u64 0, .int .u64 0, .int .i64 2, .slice none 0 0, .int .i64 0, .int .u64 0, .int .u64 0, .int .u64 0, .int .u64 0, .int .i64 3, .slice Ao9 y166.length co9, .int .i64 0, .int .u64 0, .int .u64 0, .int .u64 0, .int .u64 0, .int .i64 1, .slice none 0 0, .int .i64 0, .int .u64 0, .int .u64 17179869184, .int .u64 0, .int .u64 0, .int .i64 4, .slice Ao12 y169.length co12, .int .i64 0, .int .u64 0, .int .u64 0, .int .u64 0, .int .u64 0]) (ok := (fun k_ => some k_ ≠ (v164 : Value).ownBlock)) (okp := (fun k_ => some k_ ≠ (v164 : Value).ownBlock)) ?hr ?hp (fun _ hk => hk) ((show ∀ k_, w10.heap.size ≤ k_ → (fun k_ => some k_ ≠ (v164 : Value).ownBlock) k_ from fun k_ hk => Kd.fresh' (Kd.R_lt (by (with_reducible repeat (first | apply Kd.R_alloc | apply Kd.R_drewN | apply Kd.R_drew)); exact HO165.out)) k_ hk) _ (Nat.le_refl _)) (Below.refl _ _) (Nat.le_refl _) (by simp) ?_; (case hd => rfl); (case hg => rfl); (case hr => first | (go_simp; done) | (go_simp; rfl)); (case hp => exact (Reps.c7 (show Kd.FK k56 _ _ (⟨1, ([] : List Int), 0, (⟨0, 8589934592, 0, 0⟩ : S54)⟩ : S56) [.int .i64 1, .slice none 0 0, .int .i64 0, .int .u64 0, .int .u64 8589934592, .int .u64 0, .int .u64 0] from (k56_mkF _ _ (⟨1, ([] : List Int), 0, (⟨0, 8589934592, 0, 0⟩ : S54)⟩ : S56) (Nat.le_refl _) (Kd.F_nil _ _ _))) (Reps.c7 (show Kd.FK k56 _ _ (⟨2, ([] : List Int), 0, (⟨0, 0, 0, 0⟩ : S54)⟩ : S56) [.int .i64 2, .slice none 0 0, .int .i64 0, .int .u64 0, .int .u64 0, .int .u64 0, .int .u64 0] from (k56_mkF _ _ (⟨2, ([] : List Int), 0, (⟨0, 0, 0, 0⟩ : S54)⟩ : S56) (Nat.le_refl _) (Kd.F_nil _ _ _))) (Reps.c7 (show Kd.FK k56 _ _ (⟨3, y166, 0, (⟨0, 0, 0, 0⟩ : S54)⟩ : S56) [.int .i64 3, .slice Ao9 y166.length co9, .int .i64 0, .int .u64 0, .int .u64 0, .int .u64 0, .int .u64 0] from (k56_mkF _ _ (⟨3, y166, 0, (⟨0, 0, 0, 0⟩ : S54)⟩ : S56) (Kd.R_reads' (Kd.R_mono (ok' := (fun k_ => some k_ ≠ (v164 : Value).ownBlock)) (Kd.R_apart' (HO168.out) (Kd.R_typed HO165.out) (by decide)) (fun k_ hk => hk.2))).2.1 (Kd.R_F (Kd.R_mono (ok' := (fun k_ => some k_ ≠ (v164 : Value).ownBlock)) (Kd.R_apart' (HO168.out) (Kd.R_typed HO165.out) (by decide)) (fun k_ hk => hk.2))))) (Reps.c7 (show Kd.FK k56 _ _ (⟨1, ([] : List Int), 0, (⟨0, 17179869184, 0, 0⟩ : S54)⟩ : S56) [.int .i64 1, .slice none 0 0, .int .i64 0, .int .u64 0, .int .u64 17179869184, .int .u64 0, .int .u64 0] from (k56_mkF _ _ (⟨1, ([] : List Int), 0, (⟨0, 17179869184, 0, 0⟩ : S54)⟩ : S56) (Nat.le_refl _) (Kd.F_nil _ _ _))) (Reps.c7 (show Kd.FK k56 _ _ (⟨4, y169, 0, (⟨0, 0, 0, 0⟩ : S54)⟩ : S56) [.int .i64 4, .slice Ao12 y169.length co12, .int .i64 0, .int .u64 0, .int .u64 0, .int .u64 0, .int .u64 0] from (k56_mkF _ _ (⟨4, y169, 0, (⟨0, 0, 0, 0⟩ : S54)⟩ : S56) (Kd.R_reads' (Kd.R_mono (ok' := (fun k_ => some k_ ≠ (v164 : Value).ownBlock)) (Kd.R_apart' (HO171.out) (Kd.R_typed HO165.out) (by decide)) (fun k_ hk => hk.2))).2.1 (Kd.R_F (Kd.R_mono (ok' := (fun k_ => some k_ ≠ (v164 : Value).ownBlock)) (Kd.R_apart' (HO171.out) (Kd.R_typed HO165.out) (by decide)) (fun k_ hk => hk.2))))) (Reps.none _ _))))))); intro v173 w13 ho14 hb hg_ hnew_; clear hg_ hnew_; (first | rw [← Ny172.out] at ho14 | (simp only [Int.reduceToNat] at ho14; rw [← Ny172.out] at ho14)); have n0_ := Aside0.mk (Kd.R_below (by (with_reducible repeat (first | apply Kd.R_alloc | apply Kd.R_drewN | apply Kd.R_drew)); exact HO165.out) hb); have n1_ := Aside0.mk (Kd.N_lower ho14 (below_size (by repeat (first | (with_reducible first | exact HB.out | apply below_alloc | apply pw_below_drewN | apply below_drew1) | exact HB.out)))); have n2_ := Aside0.mk (below_step (by repeat (first | (with_reducible first | exact HB.out | apply below_alloc | apply pw_below_drewN | apply below_drew1) | exact HB.out)) hb); clear HO165; clear HB; clear HO168; clear HO171; have HO165 := n0_; have HO174 := n1_; have HB := n2_; clear n0_ n1_ n2_; clear hb ho14; obtain ⟨Ao15, co15, eo15⟩ := Kd.N_slice HO174.out; subst eo15; obtain ⟨Ao16, co16, eo16⟩ := Kd.R_slice HO165.out; subst eo16) | ((with_reducible refine gate_dst (N := 1) rfl ?_); (try (refine gate_guard (by rfl) ?_; dsimp only)); refine box_event ?hg (N := 1) ?hd (cs := #[.slice none 0 0, .slice none 0 0]) (t := 25) ?hr ?_; (case hd => rfl); (case hg => rfl); (case hr => first | (go_simp; done) | (go_simp; rfl)); intro gb175 hg w17 hbox hb; have n0_ := Aside0.mk (Kd.R_below (by (with_reducible repeat (first | apply Kd.R_alloc | apply Kd.R_drewN | apply Kd.R_drew)); exact HO165.out) hb); have n1_ := Aside0.mk (Kd.N_below (Kd.N_elderB (by (with_reducible repeat (first | apply Kd.N_alloc | apply Kd.N_drewN | apply Kd.N_drew)); exact HO174.out) gb175 (Nat.le_of_eq hg.symm)) hb); have n2_ := Aside0.mk (below_step (by repeat (first | (with_reducible first | exact HB.out | apply below_alloc | apply pw_below_drewN | apply below_drew1) | exact HB.out)) hb); have n3_ := Aside0.mk (hbox); have n4_ := Aside0.mk ((by rw [hg]; exact (below_size (by repeat (first | (with_reducible first | exact HB.out | apply below_alloc | apply pw_below_drewN | apply below_drew1) | exact HB.out))) : w.heap.size ≤ gb175)); have n5_ := Aside0.mk ((by rw [hg]; exact (below_size (by repeat (first | (with_reducible first | exact HB.out | apply below_alloc | apply pw_below_drewN | apply below_drew1) | exact HB.out))) : w.heap.size ≤ gb175)); clear HO165; clear HO174; clear HB; have HO165 := n0_; have HO174 := n1_; have HB := n2_; have BK175 := n3_; have GW175 := n4_; have GE175 := n5_; clear n0_ n1_ n2_ n3_ n4_ n5_; clear hb hbox hg; have hcz18_0 : w17.cell? ⟨gb175, 0, none⟩ = some (.slice none 0 0) := (blk_cell BK175.out 0).trans rfl; have hcz18_1 : w17.cell? ⟨gb175, 1, none⟩ = some (.slice none 0 0) := (blk_cell BK175.out 1).trans rfl; have hfz18_0 := blk_frozen BK175.out 0; have hfz18_1 := blk_frozen BK175.out 1) | ((with_reducible refine gate_callee (f := 15) rfl ?_); refine goesL_ (some 22) rfl rfl Try.func15 (by kernel_rfl) rfl #[.agg #[.slice Ao16 y163.length co16, .slice Ao15 y172.length co15], .string (⟨#[97, 98]⟩ : ByteArray), .int .i64 100] rfl (by (try simp only [List.map_toArray, List.map_cons, List.map_nil]); first | done | rfl | (simp only [List.length_drop, List.length_take]; rfl)) ?_; (with_reducible refine (naive_Cost.calls k _ _ y163 _ _ y172 (⟨#[97, 98]⟩ : ByteArray) 100 t176 t177 _ ?side1 ?side2 ?side3 ?side4 A1.out).mono ?_); (case side1 => refine (Kd.R_reads' (e := 51) (base := w.heap.size) (ok := fun k_ => True) (n := y163.length) (c := co16) ?_).2.2; exact (by (with_reducible repeat (first | apply Kd.R_alloc | apply Kd.R_drewN | apply Kd.R_drew)); exact (Kd.R_mono (Kd.R_far (p := ⟨gb175, 1, none⟩) (Kd.R_far (p := ⟨gb175, 0, none⟩) (Kd.R_types HO165.out BK175.out (by decide)) (fun _ hk => hk.2) (.slice Ao16 y163.length co16)) (fun _ hk => hk.2) (.slice Ao15 y172.length co15)) (fun _ h_ => h_.1)))); (case side2 => exact (Kd.R_reads' HO165.out).2.1); (case side3 => refine (Kd.N_reads' (e := 56) (base := w.heap.size) (ok := fun k_ => (some k_ ≠ (.slice Ao16 y163.length co16 : Value).ownBlock ∧ k_ ≠ gb175)) (n := y172.length) (c := co15) ?_).2.2; exact (by (with_reducible repeat (first | apply Kd.N_alloc | apply Kd.N_drewN | apply Kd.N_drew)); exact (Kd.N_mono (Kd.N_far (p := ⟨gb175, 1, none⟩) (Kd.N_far (p := ⟨gb175, 0, none⟩) (Kd.N_mono HO174.out (fun k_ hk => (⟨hk, hk.2⟩ : _ ∧ k_ ≠ gb175))) (fun _ hk => hk.2) (.slice Ao16 y163.length co16)) (fun _ hk => hk.2) (.slice Ao15 y172.length co15)) (fun _ h_ => h_.1)))); (case side4 => exact (Kd.N_reads' HO174.out).2.1); rintro e w19 ⟨rfl, hb⟩; refine ⟨_, rfl, ?_⟩; have n0_ := Aside0.mk (Kd.R_below (by (with_reducible repeat (first | apply Kd.R_alloc | apply Kd.R_drewN | apply Kd.R_drew)); exact (Kd.R_mono (Kd.R_far (p := ⟨gb175, 1, none⟩) (Kd.R_far (p := ⟨gb175, 0, none⟩) (Kd.R_types HO165.out BK175.out (by decide)) (fun _ hk => hk.2) (.slice Ao16 y163.length co16)) (fun _ hk => hk.2) (.slice Ao15 y172.length co15)) (fun _ h_ => h_.1))) hb); have n1_ := Aside0.mk (Kd.N_below (by (with_reducible repeat (first | apply Kd.N_alloc | apply Kd.N_drewN | apply Kd.N_drew)); exact (Kd.N_mono (Kd.N_far (p := ⟨gb175, 1, none⟩) (Kd.N_far (p := ⟨gb175, 0, none⟩) (Kd.N_mono HO174.out (fun k_ hk => (⟨hk, hk.2⟩ : _ ∧ k_ ≠ gb175))) (fun _ hk => hk.2) (.slice Ao16 y163.length co16)) (fun _ hk => hk.2) (.slice Ao15 y172.length co15)) (fun _ h_ => h_.1))) hb); have n2_ := Aside0.mk (blk_below (g := gb175) (o := .cells #[.slice Ao16 y163.length co16, .slice Ao15 y172.length co15] 25 (0, 0)) (by (with_reducible repeat (first | refine blk_drewN ?_ _ | refine blk_drew ?_ | refine blk_alloc ?_ _)); refine blk_put (cs := #[.slice Ao16 y163.length co16, .slice none 0 0]) ?_ 1 _ rfl; (with_reducible repeat (first | refine blk_drewN ?_ _ | refine blk_drew ?_ | refine blk_alloc ?_ _)); refine blk_put (cs := #[.slice none 0 0, .slice none 0 0]) ?_ 0 _ rfl; (with_reducible repeat (first | refine blk_drewN ?_ _ | refine blk_drew ?_ | refine blk_alloc ?_ _)); exact BK175.out) hb); have n3_ := Aside0.mk (below_step (by repeat (first | (with_reducible first | exact HB.out | apply below_alloc | apply pw_below_drewN | apply below_drew1 | refine below_set ?_ GE175.out) | exact HB.out)) hb); clear HO165; clear HO174; clear BK175; clear HB; have HO165 := n0_; have HO174 := n1_; have BK175 := n2_; have HB := n3_; clear n0_ n1_ n2_ n3_; (try clear hb); (try clear hb2); (try clear hk); (try clear hi); have hcz20_0 : w19.cell? ⟨gb175, 0, none⟩ = some (.slice Ao16 y163.length co16) := (blk_cell BK175.out 0).trans rfl; have hcz20_1 : w19.cell? ⟨gb175, 1, none⟩ = some (.slice Ao15 y172.length co15) := (blk_cell BK175.out 1).trans rfl; have hfz20_0 := blk_frozen BK175.out 0; have hfz20_1 := blk_frozen BK175.out 1) | ((with_reducible refine gate_callee (f := 15) rfl ?_); refine goesL_ (some 27) rfl rfl Try.func15 (by kernel_rfl) rfl #[.agg #[.slice Ao16 y163.length co16, .slice Ao15 y172.length co15], .string (⟨#[97, 98]⟩ : ByteArray), .int .i64 7] rfl (by (try simp only [List.map_toArray, List.map_cons, List.map_nil]); first | done | rfl | (simp only [List.length_drop, List.length_take]; rfl)) ?_; (with_reducible refine (naive_Cost.calls k _ _ y163 _ _ y172 (⟨#[97, 98]⟩ : ByteArray) 7 t178 t179 _ ?side1 ?side2 ?side3 ?side4 A2.out).mono ?_); (case side1 => repeat (first | exact (Kd.R_reads' HO165.out).2.2 | (with_reducible refine Kd.C_alloc ?_ _) | (with_reducible refine Kd.C_drewN ?_ _) | (with_reducible refine Kd.C_drew ?_))); (case side2 => exact (Kd.R_reads' HO165.out).2.1); (case side3 => repeat (first | exact (Kd.N_reads' HO174.out).2.2 | (with_reducible refine Kd.C_alloc ?_ _) | (with_reducible refine Kd.C_drewN ?_ _) | (with_reducible refine Kd.C_drew ?_))); (case side4 => exact (Kd.N_reads' HO174.out).2.1); rintro e w21 ⟨rfl, hb⟩; refine ⟨_, rfl, ?_⟩; have n0_ := Aside0.mk (Kd.R_below (by (with_reducible repeat (first | apply Kd.R_alloc | apply Kd.R_drewN | apply Kd.R_drew)); exact HO165.out) hb); have n1_ := Aside0.mk (Kd.N_below (by (with_reducible repeat (first | apply Kd.N_alloc | apply Kd.N_drewN | apply Kd.N_drew)); exact HO174.out) hb); have n2_ := Aside0.mk (blk_below (g := gb175) (o := .cells #[.slice Ao16 y163.length co16, .slice Ao15 y172.length co15] 25 (0, 0)) (by (with_reducible repeat (first | refine blk_drewN ?_ _ | refine blk_drew ?_ | refine blk_alloc ?_ _)); exact BK175.out) hb); have n3_ := Aside0.mk (below_step (by repeat (first | (with_reducible first | exact HB.out | apply below_alloc | apply pw_below_drewN | apply below_drew1 | refine below_set ?_ GE175.out) | exact HB.out)) hb); clear HO165; clear HO174; clear BK175; clear HB; have HO165 := n0_; have HO174 := n1_; have BK175 := n2_; have HB := n3_; clear n0_ n1_ n2_ n3_; (try clear hb); (try clear hb2); (try clear hk); (try clear hi); have hcz22_0 : w21.cell? ⟨gb175, 0, none⟩ = some (.slice Ao16 y163.length co16) := (blk_cell BK175.out 0).trans rfl; have hcz22_1 : w21.cell? ⟨gb175, 1, none⟩ = some (.slice Ao15 y172.length co15) := (blk_cell BK175.out 1).trans rfl; have hfz22_0 := blk_frozen BK175.out 0; have hfz22_1 := blk_frozen BK175.out 1) | ((with_reducible refine gate_callee (f := 16) rfl ?_); refine goesL_ (some 31) rfl rfl Try.func16 (by kernel_rfl) rfl #[.agg #[.slice Ao16 y163.length co16, .slice Ao15 y172.length co15], .int .i64 4, .string (⟨#[97, 98]⟩ : ByteArray), .int .i64 100] rfl (by (try simp only [List.map_toArray, List.map_cons, List.map_nil]); first | done | rfl | (simp only [List.length_drop, List.length_take]; rfl)) ?_; (with_reducible refine (naive_Ends.calls k _ _ y163 _ _ y172 4 (⟨#[97, 98]⟩ : ByteArray) 100 t180 _ ?side1 ?side2 ?side3 ?side4 A3.out).mono ?_); (case side1 => repeat (first | exact (Kd.R_reads' HO165.out).2.2 | (with_reducible refine Kd.C_alloc ?_ _) | (with_reducible refine Kd.C_drewN ?_ _) | (with_reducible refine Kd.C_drew ?_))); (case side2 => exact (Kd.R_reads' HO165.out).2.1); (case side3 => repeat (first | exact (Kd.N_reads' HO174.out).2.2 | (with_reducible refine Kd.C_alloc ?_ _) | (with_reducible refine Kd.C_drewN ?_ _) | (with_reducible refine Kd.C_drew ?_))); (case side4 => exact (Kd.N_reads' HO174.out).2.1); rintro e w23 ⟨v181, rfl, ho0, hb⟩; refine ⟨_, rfl, ?_⟩; have n0_ := Aside0.mk (Kd.R_below (by (with_reducible repeat (first | apply Kd.R_alloc | apply Kd.R_drewN | apply Kd.R_drew)); exact HO165.out) hb); have n1_ := Aside0.mk (Kd.N_elder' (by (with_reducible repeat (first | apply Kd.N_alloc | apply Kd.N_drewN | apply Kd.N_drew)); exact HO174.out) (Kd.R_base ho0) hb); have n2_ := Aside0.mk (Kd.R_lower ho0 (below_size (by repeat (first | (with_reducible first | exact HB.out | apply below_alloc | apply pw_below_drewN | apply below_drew1 | refine below_set ?_ GE175.out) | exact HB.out)))); have n3_ := Aside0.mk (blk_below (g := gb175) (o := .cells #[.slice Ao16 y163.length co16, .slice Ao15 y172.length co15] 25 (0, 0)) (by (with_reducible repeat (first | refine blk_drewN ?_ _ | refine blk_drew ?_ | refine blk_alloc ?_ _)); exact BK175.out) hb); have n4_ := Aside0.mk (below_step (by repeat (first | (with_reducible first | exact HB.out | apply below_alloc | apply pw_below_drewN | apply below_drew1 | refine below_set ?_ GE175.out) | exact HB.out)) hb); clear HO165; clear HO174; clear BK175; clear HB; have HO165 := n0_; have HO174 := n1_; have HO182 := n2_; have BK175 := n3_; have HB := n4_; clear n0_ n1_ n2_ n3_ n4_; (try clear hb); (try clear hb2); (try clear hk); (try clear hi); (try clear ho0)))
 (try simp only [Act.put, List.setIfInBounds_toArray, List.set_cons_zero, List.set_cons_succ])
 have H := HC4.out
 clear HC4
 replace H := Option.bind_eq_some_iff.mp H
 obtain ⟨⟨t183, t184, t185⟩, A240, H⟩ := H
 replace H : (if (t183 && (t184 == 2 && (t185 == 2))) = true then (if t176 = 8 then (if t177 = true then (if t179 = true then (some false) else ((naive_Run.f k y163 y172 (⟨#[97, 98]⟩ : ByteArray) 7).bind fun bt186 => (if (!bt186.1 && (bt186.2.1 == 0 && (bt186.2.2 == 0))) = true then (if (t180.length : Int) = 3 then (if 0 < (t180.length : Int) then (if (rd t180 0) = 2 then (if 1 < (t180.length : Int) then (if (rd t180 1) = 2 then (if 2 < (t180.length : Int) then (some ((rd t180 2) == (-1))) else (none)) else (some false)) else (none)) else (some false)) else (none)) else (some false)) else (some false)))) else (some false)) else (some false)) else (some false)) = some r := H
 have A24 := Aside0.mk A240
 clear A240
 by_cases c25 : (t183 && (t184 == 2 && (t185 == 2))) = true
 ·
  rw [if_pos c25] at H
  have c25b0 : (t183 && (t184 == 2 && (t185 == 2))) = true := c25
  clear c25
  (first | rw [c25b0] | (simp only [i64_w, i32_w]; rw [c25b0]) | skip)
  by_cases c26 : t176 = 8
  ·
   rw [if_pos c26] at H
   have c26b0 : (t176 == 8) = true := beq_iff_eq.mpr c26
   have c26b1 : (t176 != 8) = false := bne_eq_false_iff_eq.mpr c26
   clear c26
   by_cases c27 : t177 = true
   ·
    subst c27
    have H1 : (if t179 = true then (some false) else ((naive_Run.f k y163 y172 (⟨#[97, 98]⟩ : ByteArray) 7).bind fun bt186 => (if (!bt186.1 && (bt186.2.1 == 0 && (bt186.2.2 == 0))) = true then (if (t180.length : Int) = 3 then (if 0 < (t180.length : Int) then (if (rd t180 0) = 2 then (if 1 < (t180.length : Int) then (if (rd t180 1) = 2 then (if 2 < (t180.length : Int) then (some ((rd t180 2) == (-1))) else (none)) else (some false)) else (none)) else (some false)) else (none)) else (some false)) else (some false)))) = some r := by rw [if_pos rfl] at H; exact H
    clear H
    have H := H1
    clear H1
    by_cases c28 : t179 = true
    ·
     subst c28
     have H1 : (some false) = some r := by rw [if_pos rfl] at H; exact H
     clear H
     have H := H1
     clear H1
     obtain rfl := Option.some.inj H
     have hcz29_0 : w23.cell? ⟨gb175, 0, none⟩ = some (.slice Ao16 y163.length co16) := (blk_cell BK175.out 0).trans rfl
     have hcz29_1 : w23.cell? ⟨gb175, 1, none⟩ = some (.slice Ao15 y172.length co15) := (blk_cell BK175.out 1).trans rfl
     have hfz29_0 := blk_frozen BK175.out 0
     have hfz29_1 := blk_frozen BK175.out 1
     go_wp2_with (first | ((with_reducible refine gate_callee (f := 13) rfl ?_); refine goesL_ (some 33) rfl rfl Try.func13 (by kernel_rfl) rfl #[.agg #[.slice Ao16 y163.length co16, .slice Ao15 y172.length co15], .string (⟨#[97, 98]⟩ : ByteArray), .int .i64 10] rfl (by (try simp only [List.map_toArray, List.map_cons, List.map_nil]); first | done | rfl | (simp only [List.length_drop, List.length_take]; rfl)) ?_; (with_reducible refine (naive_Run.calls k _ _ y163 _ _ y172 (⟨#[97, 98]⟩ : ByteArray) 10 t183 t184 t185 _ ?side1 ?side2 ?side3 ?side4 A24.out).mono ?_); (case side1 => repeat (first | exact (Kd.R_reads' HO165.out).2.2 | (with_reducible refine Kd.C_alloc ?_ _) | (with_reducible refine Kd.C_drewN ?_ _) | (with_reducible refine Kd.C_drew ?_))); (case side2 => exact (Kd.R_reads' HO165.out).2.1); (case side3 => repeat (first | exact (Kd.N_reads' HO174.out).2.2 | (with_reducible refine Kd.C_alloc ?_ _) | (with_reducible refine Kd.C_drewN ?_ _) | (with_reducible refine Kd.C_drew ?_))); (case side4 => exact (Kd.N_reads' HO174.out).2.1); rintro e w30 ⟨rfl, hb⟩; refine ⟨_, rfl, ?_⟩; have n0_ := Aside0.mk (Kd.R_below (by (with_reducible repeat (first | apply Kd.R_alloc | apply Kd.R_drewN | apply Kd.R_drew)); exact HO165.out) hb); have n1_ := Aside0.mk (Kd.N_below (by (with_reducible repeat (first | apply Kd.N_alloc | apply Kd.N_drewN | apply Kd.N_drew)); exact HO174.out) hb); have n2_ := Aside0.mk (Kd.R_below (by (with_reducible repeat (first | apply Kd.R_alloc | apply Kd.R_drewN | apply Kd.R_drew)); exact HO182.out) hb); have n3_ := Aside0.mk (blk_below (g := gb175) (o := .cells #[.slice Ao16 y163.length co16, .slice Ao15 y172.length co15] 25 (0, 0)) (by (with_reducible repeat (first | refine blk_drewN ?_ _ | refine blk_drew ?_ | refine blk_alloc ?_ _)); exact BK175.out) hb); have n4_ := Aside0.mk (below_step (by repeat (first | (with_reducible first | exact HB.out | apply below_alloc | apply pw_below_drewN | apply below_drew1 | refine below_set ?_ GE175.out) | exact HB.out)) hb); clear HO165; clear HO174; clear HO182; clear BK175; clear HB; have HO165 := n0_; have HO174 := n1_; have HO182 := n2_; have BK175 := n3_; have HB := n4_; clear n0_ n1_ n2_ n3_ n4_; (try clear hb); (try clear hb2); (try clear hk); (try clear hi)))
     go_ret
     exact ⟨by first | rfl | (simp [errW_none, errW_some] <;> rfl) | (simp [*, errW_none, errW_some] <;> rfl), by repeat (first | (with_reducible first | exact HB.out | apply below_alloc | apply pw_below_drewN | apply below_drew1 | refine below_set ?_ GE175.out) | exact HB.out)⟩
    ·
     replace c28 := Bool.eq_false_iff.mpr c28
     subst c28
     have H1 : ((naive_Run.f k y163 y172 (⟨#[97, 98]⟩ : ByteArray) 7).bind fun bt186 => (if (!bt186.1 && (bt186.2.1 == 0 && (bt186.2.2 == 0))) = true then (if (t180.length : Int) = 3 then (if 0 < (t180.length : Int) then (if (rd t180 0) = 2 then (if 1 < (t180.length : Int) then (if (rd t180 1) = 2 then (if 2 < (t180.length : Int) then (some ((rd t180 2) == (-1))) else (none)) else (some false)) else (none)) else (some false)) else (none)) else (some false)) else (some false))) = some r := by rw [if_neg (show ¬ (false = true) by decide)] at H; exact H
     clear H
     have H := H1
     clear H1
     replace H := Option.bind_eq_some_iff.mp H
     obtain ⟨⟨t186, t187, t188⟩, A310, H⟩ := H
     replace H : (if (!t186 && (t187 == 0 && (t188 == 0))) = true then (if (t180.length : Int) = 3 then (if 0 < (t180.length : Int) then (if (rd t180 0) = 2 then (if 1 < (t180.length : Int) then (if (rd t180 1) = 2 then (if 2 < (t180.length : Int) then (some ((rd t180 2) == (-1))) else (none)) else (some false)) else (none)) else (some false)) else (none)) else (some false)) else (some false)) = some r := H
     have A31 := Aside0.mk A310
     clear A310
     by_cases c32 : (!t186 && (t187 == 0 && (t188 == 0))) = true
     ·
      rw [if_pos c32] at H
      have c32b0 : (!t186 && (t187 == 0 && (t188 == 0))) = true := c32
      clear c32
      by_cases c33 : (t180.length : Int) = 3
      ·
       rw [if_pos c33] at H
       have c33b0 : ((t180.length : Int) == 3) = true := beq_iff_eq.mpr c33
       have c33b1 : ((t180.length : Int) != 3) = false := bne_eq_false_iff_eq.mpr c33
       clear c33
       by_cases c34 : 0 < (t180.length : Int)
       ·
        rw [if_pos c34] at H
        have c34b0 : decide (0 < (t180.length : Int)) = true := decide_eq_true c34
        have c34b1 : decide (0 < t180.length) = true := decide_eq_true (by omega)
        clear c34
        by_cases c35 : (rd t180 0) = 2
        ·
         rw [if_pos c35] at H
         have c35b0 : ((rd t180 0) == 2) = true := beq_iff_eq.mpr c35
         have c35b1 : ((rd t180 0) != 2) = false := bne_eq_false_iff_eq.mpr c35
         clear c35
         by_cases c36 : 1 < (t180.length : Int)
         ·
          rw [if_pos c36] at H
          have c36b0 : decide (1 < (t180.length : Int)) = true := decide_eq_true c36
          have c36b1 : decide (1 < t180.length) = true := decide_eq_true (by omega)
          clear c36
          by_cases c37 : (rd t180 1) = 2
          ·
           rw [if_pos c37] at H
           have c37b0 : ((rd t180 1) == 2) = true := beq_iff_eq.mpr c37
           have c37b1 : ((rd t180 1) != 2) = false := bne_eq_false_iff_eq.mpr c37
           clear c37
           by_cases c38 : 2 < (t180.length : Int)
           ·
            rw [if_pos c38] at H
            have c38b0 : decide (2 < (t180.length : Int)) = true := decide_eq_true c38
            have c38b1 : decide (2 < t180.length) = true := decide_eq_true (by omega)
            clear c38
            obtain rfl := Option.some.inj H
            have hcz39_0 : w23.cell? ⟨gb175, 0, none⟩ = some (.slice Ao16 y163.length co16) := (blk_cell BK175.out 0).trans rfl
            have hcz39_1 : w23.cell? ⟨gb175, 1, none⟩ = some (.slice Ao15 y172.length co15) := (blk_cell BK175.out 1).trans rfl
            have hfz39_0 := blk_frozen BK175.out 0
            have hfz39_1 := blk_frozen BK175.out 1
            go_wp2_with (first | ((with_reducible refine gate_callee (f := 13) rfl ?_); refine goesL_ (some 33) rfl rfl Try.func13 (by kernel_rfl) rfl #[.agg #[.slice Ao16 y163.length co16, .slice Ao15 y172.length co15], .string (⟨#[97, 98]⟩ : ByteArray), .int .i64 10] rfl (by (try simp only [List.map_toArray, List.map_cons, List.map_nil]); first | done | rfl | (simp only [List.length_drop, List.length_take]; rfl)) ?_; (with_reducible refine (naive_Run.calls k _ _ y163 _ _ y172 (⟨#[97, 98]⟩ : ByteArray) 10 t183 t184 t185 _ ?side1 ?side2 ?side3 ?side4 A24.out).mono ?_); (case side1 => repeat (first | exact (Kd.R_reads' HO165.out).2.2 | (with_reducible refine Kd.C_alloc ?_ _) | (with_reducible refine Kd.C_drewN ?_ _) | (with_reducible refine Kd.C_drew ?_))); (case side2 => exact (Kd.R_reads' HO165.out).2.1); (case side3 => repeat (first | exact (Kd.N_reads' HO174.out).2.2 | (with_reducible refine Kd.C_alloc ?_ _) | (with_reducible refine Kd.C_drewN ?_ _) | (with_reducible refine Kd.C_drew ?_))); (case side4 => exact (Kd.N_reads' HO174.out).2.1); rintro e w40 ⟨rfl, hb⟩; refine ⟨_, rfl, ?_⟩; have n0_ := Aside0.mk (Kd.R_below (by (with_reducible repeat (first | apply Kd.R_alloc | apply Kd.R_drewN | apply Kd.R_drew)); exact HO165.out) hb); have n1_ := Aside0.mk (Kd.N_below (by (with_reducible repeat (first | apply Kd.N_alloc | apply Kd.N_drewN | apply Kd.N_drew)); exact HO174.out) hb); have n2_ := Aside0.mk (Kd.R_below (by (with_reducible repeat (first | apply Kd.R_alloc | apply Kd.R_drewN | apply Kd.R_drew)); exact HO182.out) hb); have n3_ := Aside0.mk (blk_below (g := gb175) (o := .cells #[.slice Ao16 y163.length co16, .slice Ao15 y172.length co15] 25 (0, 0)) (by (with_reducible repeat (first | refine blk_drewN ?_ _ | refine blk_drew ?_ | refine blk_alloc ?_ _)); exact BK175.out) hb); have n4_ := Aside0.mk (below_step (by repeat (first | (with_reducible first | exact HB.out | apply below_alloc | apply pw_below_drewN | apply below_drew1 | refine below_set ?_ GE175.out) | exact HB.out)) hb); clear HO165; clear HO174; clear HO182; clear BK175; clear HB; have HO165 := n0_; have HO174 := n1_; have HO182 := n2_; have BK175 := n3_; have HB := n4_; clear n0_ n1_ n2_ n3_ n4_; (try clear hb); (try clear hb2); (try clear hk); (try clear hi); have hcz41_0 : w40.cell? ⟨gb175, 0, none⟩ = some (.slice Ao16 y163.length co16) := (blk_cell BK175.out 0).trans rfl; have hcz41_1 : w40.cell? ⟨gb175, 1, none⟩ = some (.slice Ao15 y172.length co15) := (blk_cell BK175.out 1).trans rfl; have hfz41_0 := blk_frozen BK175.out 0; have hfz41_1 := blk_frozen BK175.out 1) | (go_at_call 13; (with_reducible refine (naive_Run.calls k _ _ y163 _ _ y172 (⟨#[97, 98]⟩ : ByteArray) 7 t186 t187 t188 _ ?side1 ?side2 ?side3 ?side4 A31.out).mono ?_); (case side1 => repeat (first | exact (Kd.R_reads' HO165.out).2.2 | (with_reducible refine Kd.C_alloc ?_ _) | (with_reducible refine Kd.C_drewN ?_ _) | (with_reducible refine Kd.C_drew ?_))); (case side2 => exact (Kd.R_reads' HO165.out).2.1); (case side3 => repeat (first | exact (Kd.N_reads' HO174.out).2.2 | (with_reducible refine Kd.C_alloc ?_ _) | (with_reducible refine Kd.C_drewN ?_ _) | (with_reducible refine Kd.C_drew ?_))); (case side4 => exact (Kd.N_reads' HO174.out).2.1); rintro e w42 ⟨rfl, hb⟩; have n0_ := Aside0.mk (Kd.R_below (by (with_reducible repeat (first | apply Kd.R_alloc | apply Kd.R_drewN | apply Kd.R_drew)); exact HO165.out) hb); have n1_ := Aside0.mk (Kd.N_below (by (with_reducible repeat (first | apply Kd.N_alloc | apply Kd.N_drewN | apply Kd.N_drew)); exact HO174.out) hb); have n2_ := Aside0.mk (Kd.R_below (by (with_reducible repeat (first | apply Kd.R_alloc | apply Kd.R_drewN | apply Kd.R_drew)); exact HO182.out) hb); have n3_ := Aside0.mk (blk_below (g := gb175) (o := .cells #[.slice Ao16 y163.length co16, .slice Ao15 y172.length co15] 25 (0, 0)) (by (with_reducible repeat (first | refine blk_drewN ?_ _ | refine blk_drew ?_ | refine blk_alloc ?_ _)); exact BK175.out) hb); have n4_ := Aside0.mk (below_step (by repeat (first | (with_reducible first | exact HB.out | apply below_alloc | apply pw_below_drewN | apply below_drew1 | refine below_set ?_ GE175.out) | exact HB.out)) hb); clear HO165; clear HO174; clear HO182; clear BK175; clear HB; have HO165 := n0_; have HO174 := n1_; have HO182 := n2_; have BK175 := n3_; have HB := n4_; clear n0_ n1_ n2_ n3_ n4_; (try clear hb); (try clear hb2); (try clear hk); (try clear hi); obtain ⟨Ao43, co43, eo43⟩ := Kd.R_slice HO182.out; subst eo43; have p189 : 0 ≤ (0 : Int) := (by omega); have q189 : 0 < (t180.length : Int) := of_decide_eq_true (by first | (with_reducible assumption) | assumption); obtain ⟨ad189, e189, hx189_0⟩ := Kd.at_int (Kd.R_reads' HO182.out).2.2 0 p189 q189; cases e189; have qi189 : (0 < t180.length) = True := eq_true (by omega); (try rw [show ((0 : Int)).toNat = 0 from rfl] at hx189_0); (try rw [Addr.add_zero'] at hx189_0); replace p189 := eq_true p189; replace q189 := eq_true q189; have p190 : 0 ≤ (1 : Int) := (by omega); have q190 : 1 < (t180.length : Int) := of_decide_eq_true (by first | (with_reducible assumption) | assumption); obtain ⟨ad190, e190, hx190_0⟩ := Kd.at_int (Kd.R_reads' HO182.out).2.2 1 p190 q190; obtain rfl : ad189 = ad190 := (by injection e190); (try simp only [show (1 : Int).toNat = 1 from rfl, Nat.reduceMul, Nat.reduceEqDiff, Go.Addr.add, ↓reduceIte] at hx190_0); have qi190 : (1 < t180.length) = True := eq_true (by omega); (try rw [show ((1 : Int)).toNat = 1 from rfl] at hx190_0); replace p190 := eq_true p190; replace q190 := eq_true q190; have p191 : 0 ≤ (2 : Int) := (by omega); have q191 : 2 < (t180.length : Int) := of_decide_eq_true (by first | (with_reducible assumption) | assumption); obtain ⟨ad191, e191, hx191_0⟩ := Kd.at_int (Kd.R_reads' HO182.out).2.2 2 p191 q191; obtain rfl : ad189 = ad191 := (by injection e191); (try simp only [show (2 : Int).toNat = 2 from rfl, Nat.reduceMul, Nat.reduceEqDiff, Go.Addr.add, ↓reduceIte] at hx191_0); have qi191 : (2 < t180.length) = True := eq_true (by omega); (try rw [show ((2 : Int)).toNat = 2 from rfl] at hx191_0); replace p191 := eq_true p191; replace q191 := eq_true q191))
            go_ret
            exact ⟨by first | rfl | (simp [errW_none, errW_some] <;> rfl) | (simp [*, errW_none, errW_some] <;> rfl), by repeat (first | (with_reducible first | exact HB.out | apply below_alloc | apply pw_below_drewN | apply below_drew1 | refine below_set ?_ GE175.out) | exact HB.out)⟩
           ·
            rw [if_neg c38] at H
            exact absurd H (by simp)
          ·
           rw [if_neg c37] at H
           have c37b0 : ((rd t180 1) == 2) = false := beq_eq_false_iff_ne.mpr c37
           have c37b1 : ((rd t180 1) != 2) = true := bne_iff_ne.mpr c37
           obtain rfl := Option.some.inj H
           have hcz44_0 : w23.cell? ⟨gb175, 0, none⟩ = some (.slice Ao16 y163.length co16) := (blk_cell BK175.out 0).trans rfl
           have hcz44_1 : w23.cell? ⟨gb175, 1, none⟩ = some (.slice Ao15 y172.length co15) := (blk_cell BK175.out 1).trans rfl
           have hfz44_0 := blk_frozen BK175.out 0
           have hfz44_1 := blk_frozen BK175.out 1
           go_wp2_with (first | ((with_reducible refine gate_callee (f := 13) rfl ?_); refine goesL_ (some 33) rfl rfl Try.func13 (by kernel_rfl) rfl #[.agg #[.slice Ao16 y163.length co16, .slice Ao15 y172.length co15], .string (⟨#[97, 98]⟩ : ByteArray), .int .i64 10] rfl (by (try simp only [List.map_toArray, List.map_cons, List.map_nil]); first | done | rfl | (simp only [List.length_drop, List.length_take]; rfl)) ?_; (with_reducible refine (naive_Run.calls k _ _ y163 _ _ y172 (⟨#[97, 98]⟩ : ByteArray) 10 t183 t184 t185 _ ?side1 ?side2 ?side3 ?side4 A24.out).mono ?_); (case side1 => repeat (first | exact (Kd.R_reads' HO165.out).2.2 | (with_reducible refine Kd.C_alloc ?_ _) | (with_reducible refine Kd.C_drewN ?_ _) | (with_reducible refine Kd.C_drew ?_))); (case side2 => exact (Kd.R_reads' HO165.out).2.1); (case side3 => repeat (first | exact (Kd.N_reads' HO174.out).2.2 | (with_reducible refine Kd.C_alloc ?_ _) | (with_reducible refine Kd.C_drewN ?_ _) | (with_reducible refine Kd.C_drew ?_))); (case side4 => exact (Kd.N_reads' HO174.out).2.1); rintro e w45 ⟨rfl, hb⟩; refine ⟨_, rfl, ?_⟩; have n0_ := Aside0.mk (Kd.R_below (by (with_reducible repeat (first | apply Kd.R_alloc | apply Kd.R_drewN | apply Kd.R_drew)); exact HO165.out) hb); have n1_ := Aside0.mk (Kd.N_below (by (with_reducible repeat (first | apply Kd.N_alloc | apply Kd.N_drewN | apply Kd.N_drew)); exact HO174.out) hb); have n2_ := Aside0.mk (Kd.R_below (by (with_reducible repeat (first | apply Kd.R_alloc | apply Kd.R_drewN | apply Kd.R_drew)); exact HO182.out) hb); have n3_ := Aside0.mk (blk_below (g := gb175) (o := .cells #[.slice Ao16 y163.length co16, .slice Ao15 y172.length co15] 25 (0, 0)) (by (with_reducible repeat (first | refine blk_drewN ?_ _ | refine blk_drew ?_ | refine blk_alloc ?_ _)); exact BK175.out) hb); have n4_ := Aside0.mk (below_step (by repeat (first | (with_reducible first | exact HB.out | apply below_alloc | apply pw_below_drewN | apply below_drew1 | refine below_set ?_ GE175.out) | exact HB.out)) hb); clear HO165; clear HO174; clear HO182; clear BK175; clear HB; have HO165 := n0_; have HO174 := n1_; have HO182 := n2_; have BK175 := n3_; have HB := n4_; clear n0_ n1_ n2_ n3_ n4_; (try clear hb); (try clear hb2); (try clear hk); (try clear hi); have hcz46_0 : w45.cell? ⟨gb175, 0, none⟩ = some (.slice Ao16 y163.length co16) := (blk_cell BK175.out 0).trans rfl; have hcz46_1 : w45.cell? ⟨gb175, 1, none⟩ = some (.slice Ao15 y172.length co15) := (blk_cell BK175.out 1).trans rfl; have hfz46_0 := blk_frozen BK175.out 0; have hfz46_1 := blk_frozen BK175.out 1) | (go_at_call 13; (with_reducible refine (naive_Run.calls k _ _ y163 _ _ y172 (⟨#[97, 98]⟩ : ByteArray) 7 t186 t187 t188 _ ?side1 ?side2 ?side3 ?side4 A31.out).mono ?_); (case side1 => repeat (first | exact (Kd.R_reads' HO165.out).2.2 | (with_reducible refine Kd.C_alloc ?_ _) | (with_reducible refine Kd.C_drewN ?_ _) | (with_reducible refine Kd.C_drew ?_))); (case side2 => exact (Kd.R_reads' HO165.out).2.1); (case side3 => repeat (first | exact (Kd.N_reads' HO174.out).2.2 | (with_reducible refine Kd.C_alloc ?_ _) | (with_reducible refine Kd.C_drewN ?_ _) | (with_reducible refine Kd.C_drew ?_))); (case side4 => exact (Kd.N_reads' HO174.out).2.1); rintro e w47 ⟨rfl, hb⟩; have n0_ := Aside0.mk (Kd.R_below (by (with_reducible repeat (first | apply Kd.R_alloc | apply Kd.R_drewN | apply Kd.R_drew)); exact HO165.out) hb); have n1_ := Aside0.mk (Kd.N_below (by (with_reducible repeat (first | apply Kd.N_alloc | apply Kd.N_drewN | apply Kd.N_drew)); exact HO174.out) hb); have n2_ := Aside0.mk (Kd.R_below (by (with_reducible repeat (first | apply Kd.R_alloc | apply Kd.R_drewN | apply Kd.R_drew)); exact HO182.out) hb); have n3_ := Aside0.mk (blk_below (g := gb175) (o := .cells #[.slice Ao16 y163.length co16, .slice Ao15 y172.length co15] 25 (0, 0)) (by (with_reducible repeat (first | refine blk_drewN ?_ _ | refine blk_drew ?_ | refine blk_alloc ?_ _)); exact BK175.out) hb); have n4_ := Aside0.mk (below_step (by repeat (first | (with_reducible first | exact HB.out | apply below_alloc | apply pw_below_drewN | apply below_drew1 | refine below_set ?_ GE175.out) | exact HB.out)) hb); clear HO165; clear HO174; clear HO182; clear BK175; clear HB; have HO165 := n0_; have HO174 := n1_; have HO182 := n2_; have BK175 := n3_; have HB := n4_; clear n0_ n1_ n2_ n3_ n4_; (try clear hb); (try clear hb2); (try clear hk); (try clear hi); obtain ⟨Ao48, co48, eo48⟩ := Kd.R_slice HO182.out; subst eo48; have p189 : 0 ≤ (0 : Int) := (by omega); have q189 : 0 < (t180.length : Int) := of_decide_eq_true (by first | (with_reducible assumption) | assumption); obtain ⟨ad189, e189, hx189_0⟩ := Kd.at_int (Kd.R_reads' HO182.out).2.2 0 p189 q189; cases e189; have qi189 : (0 < t180.length) = True := eq_true (by omega); (try rw [show ((0 : Int)).toNat = 0 from rfl] at hx189_0); (try rw [Addr.add_zero'] at hx189_0); replace p189 := eq_true p189; replace q189 := eq_true q189; have p190 : 0 ≤ (1 : Int) := (by omega); have q190 : 1 < (t180.length : Int) := of_decide_eq_true (by first | (with_reducible assumption) | assumption); obtain ⟨ad190, e190, hx190_0⟩ := Kd.at_int (Kd.R_reads' HO182.out).2.2 1 p190 q190; obtain rfl : ad189 = ad190 := (by injection e190); (try simp only [show (1 : Int).toNat = 1 from rfl, Nat.reduceMul, Nat.reduceEqDiff, Go.Addr.add, ↓reduceIte] at hx190_0); have qi190 : (1 < t180.length) = True := eq_true (by omega); (try rw [show ((1 : Int)).toNat = 1 from rfl] at hx190_0); replace p190 := eq_true p190; replace q190 := eq_true q190))
           go_ret
           exact ⟨by first | rfl | (simp [errW_none, errW_some] <;> rfl) | (simp [*, errW_none, errW_some] <;> rfl), by repeat (first | (with_reducible first | exact HB.out | apply below_alloc | apply pw_below_drewN | apply below_drew1 | refine below_set ?_ GE175.out) | exact HB.out)⟩
         ·
          rw [if_neg c36] at H
          exact absurd H (by simp)
        ·
         rw [if_neg c35] at H
         have c35b0 : ((rd t180 0) == 2) = false := beq_eq_false_iff_ne.mpr c35
         have c35b1 : ((rd t180 0) != 2) = true := bne_iff_ne.mpr c35
         obtain rfl := Option.some.inj H
         have hcz49_0 : w23.cell? ⟨gb175, 0, none⟩ = some (.slice Ao16 y163.length co16) := (blk_cell BK175.out 0).trans rfl
         have hcz49_1 : w23.cell? ⟨gb175, 1, none⟩ = some (.slice Ao15 y172.length co15) := (blk_cell BK175.out 1).trans rfl
         have hfz49_0 := blk_frozen BK175.out 0
         have hfz49_1 := blk_frozen BK175.out 1
         go_wp2_with (first | ((with_reducible refine gate_callee (f := 13) rfl ?_); refine goesL_ (some 33) rfl rfl Try.func13 (by kernel_rfl) rfl #[.agg #[.slice Ao16 y163.length co16, .slice Ao15 y172.length co15], .string (⟨#[97, 98]⟩ : ByteArray), .int .i64 10] rfl (by (try simp only [List.map_toArray, List.map_cons, List.map_nil]); first | done | rfl | (simp only [List.length_drop, List.length_take]; rfl)) ?_; (with_reducible refine (naive_Run.calls k _ _ y163 _ _ y172 (⟨#[97, 98]⟩ : ByteArray) 10 t183 t184 t185 _ ?side1 ?side2 ?side3 ?side4 A24.out).mono ?_); (case side1 => repeat (first | exact (Kd.R_reads' HO165.out).2.2 | (with_reducible refine Kd.C_alloc ?_ _) | (with_reducible refine Kd.C_drewN ?_ _) | (with_reducible refine Kd.C_drew ?_))); (case side2 => exact (Kd.R_reads' HO165.out).2.1); (case side3 => repeat (first | exact (Kd.N_reads' HO174.out).2.2 | (with_reducible refine Kd.C_alloc ?_ _) | (with_reducible refine Kd.C_drewN ?_ _) | (with_reducible refine Kd.C_drew ?_))); (case side4 => exact (Kd.N_reads' HO174.out).2.1); rintro e w50 ⟨rfl, hb⟩; refine ⟨_, rfl, ?_⟩; have n0_ := Aside0.mk (Kd.R_below (by (with_reducible repeat (first | apply Kd.R_alloc | apply Kd.R_drewN | apply Kd.R_drew)); exact HO165.out) hb); have n1_ := Aside0.mk (Kd.N_below (by (with_reducible repeat (first | apply Kd.N_alloc | apply Kd.N_drewN | apply Kd.N_drew)); exact HO174.out) hb); have n2_ := Aside0.mk (Kd.R_below (by (with_reducible repeat (first | apply Kd.R_alloc | apply Kd.R_drewN | apply Kd.R_drew)); exact HO182.out) hb); have n3_ := Aside0.mk (blk_below (g := gb175) (o := .cells #[.slice Ao16 y163.length co16, .slice Ao15 y172.length co15] 25 (0, 0)) (by (with_reducible repeat (first | refine blk_drewN ?_ _ | refine blk_drew ?_ | refine blk_alloc ?_ _)); exact BK175.out) hb); have n4_ := Aside0.mk (below_step (by repeat (first | (with_reducible first | exact HB.out | apply below_alloc | apply pw_below_drewN | apply below_drew1 | refine below_set ?_ GE175.out) | exact HB.out)) hb); clear HO165; clear HO174; clear HO182; clear BK175; clear HB; have HO165 := n0_; have HO174 := n1_; have HO182 := n2_; have BK175 := n3_; have HB := n4_; clear n0_ n1_ n2_ n3_ n4_; (try clear hb); (try clear hb2); (try clear hk); (try clear hi); have hcz51_0 : w50.cell? ⟨gb175, 0, none⟩ = some (.slice Ao16 y163.length co16) := (blk_cell BK175.out 0).trans rfl; have hcz51_1 : w50.cell? ⟨gb175, 1, none⟩ = some (.slice Ao15 y172.length co15) := (blk_cell BK175.out 1).trans rfl; have hfz51_0 := blk_frozen BK175.out 0; have hfz51_1 := blk_frozen BK175.out 1) | (go_at_call 13; (with_reducible refine (naive_Run.calls k _ _ y163 _ _ y172 (⟨#[97, 98]⟩ : ByteArray) 7 t186 t187 t188 _ ?side1 ?side2 ?side3 ?side4 A31.out).mono ?_); (case side1 => repeat (first | exact (Kd.R_reads' HO165.out).2.2 | (with_reducible refine Kd.C_alloc ?_ _) | (with_reducible refine Kd.C_drewN ?_ _) | (with_reducible refine Kd.C_drew ?_))); (case side2 => exact (Kd.R_reads' HO165.out).2.1); (case side3 => repeat (first | exact (Kd.N_reads' HO174.out).2.2 | (with_reducible refine Kd.C_alloc ?_ _) | (with_reducible refine Kd.C_drewN ?_ _) | (with_reducible refine Kd.C_drew ?_))); (case side4 => exact (Kd.N_reads' HO174.out).2.1); rintro e w52 ⟨rfl, hb⟩; have n0_ := Aside0.mk (Kd.R_below (by (with_reducible repeat (first | apply Kd.R_alloc | apply Kd.R_drewN | apply Kd.R_drew)); exact HO165.out) hb); have n1_ := Aside0.mk (Kd.N_below (by (with_reducible repeat (first | apply Kd.N_alloc | apply Kd.N_drewN | apply Kd.N_drew)); exact HO174.out) hb); have n2_ := Aside0.mk (Kd.R_below (by (with_reducible repeat (first | apply Kd.R_alloc | apply Kd.R_drewN | apply Kd.R_drew)); exact HO182.out) hb); have n3_ := Aside0.mk (blk_below (g := gb175) (o := .cells #[.slice Ao16 y163.length co16, .slice Ao15 y172.length co15] 25 (0, 0)) (by (with_reducible repeat (first | refine blk_drewN ?_ _ | refine blk_drew ?_ | refine blk_alloc ?_ _)); exact BK175.out) hb); have n4_ := Aside0.mk (below_step (by repeat (first | (with_reducible first | exact HB.out | apply below_alloc | apply pw_below_drewN | apply below_drew1 | refine below_set ?_ GE175.out) | exact HB.out)) hb); clear HO165; clear HO174; clear HO182; clear BK175; clear HB; have HO165 := n0_; have HO174 := n1_; have HO182 := n2_; have BK175 := n3_; have HB := n4_; clear n0_ n1_ n2_ n3_ n4_; (try clear hb); (try clear hb2); (try clear hk); (try clear hi); obtain ⟨Ao53, co53, eo53⟩ := Kd.R_slice HO182.out; subst eo53; have p189 : 0 ≤ (0 : Int) := (by omega); have q189 : 0 < (t180.length : Int) := of_decide_eq_true (by first | (with_reducible assumption) | assumption); obtain ⟨ad189, e189, hx189_0⟩ := Kd.at_int (Kd.R_reads' HO182.out).2.2 0 p189 q189; cases e189; have qi189 : (0 < t180.length) = True := eq_true (by omega); (try rw [show ((0 : Int)).toNat = 0 from rfl] at hx189_0); (try rw [Addr.add_zero'] at hx189_0); replace p189 := eq_true p189; replace q189 := eq_true q189))
         go_ret
         exact ⟨by first | rfl | (simp [errW_none, errW_some] <;> rfl) | (simp [*, errW_none, errW_some] <;> rfl), by repeat (first | (with_reducible first | exact HB.out | apply below_alloc | apply pw_below_drewN | apply below_drew1 | refine below_set ?_ GE175.out) | exact HB.out)⟩
       ·
        rw [if_neg c34] at H
        exact absurd H (by simp)
      ·
       rw [if_neg c33] at H
       have c33b0 : ((t180.length : Int) == 3) = false := beq_eq_false_iff_ne.mpr c33
       have c33b1 : ((t180.length : Int) != 3) = true := bne_iff_ne.mpr c33
       obtain rfl := Option.some.inj H
       have hcz54_0 : w23.cell? ⟨gb175, 0, none⟩ = some (.slice Ao16 y163.length co16) := (blk_cell BK175.out 0).trans rfl
       have hcz54_1 : w23.cell? ⟨gb175, 1, none⟩ = some (.slice Ao15 y172.length co15) := (blk_cell BK175.out 1).trans rfl
       have hfz54_0 := blk_frozen BK175.out 0
       have hfz54_1 := blk_frozen BK175.out 1
       go_wp2_with (first | ((with_reducible refine gate_callee (f := 13) rfl ?_); refine goesL_ (some 33) rfl rfl Try.func13 (by kernel_rfl) rfl #[.agg #[.slice Ao16 y163.length co16, .slice Ao15 y172.length co15], .string (⟨#[97, 98]⟩ : ByteArray), .int .i64 10] rfl (by (try simp only [List.map_toArray, List.map_cons, List.map_nil]); first | done | rfl | (simp only [List.length_drop, List.length_take]; rfl)) ?_; (with_reducible refine (naive_Run.calls k _ _ y163 _ _ y172 (⟨#[97, 98]⟩ : ByteArray) 10 t183 t184 t185 _ ?side1 ?side2 ?side3 ?side4 A24.out).mono ?_); (case side1 => repeat (first | exact (Kd.R_reads' HO165.out).2.2 | (with_reducible refine Kd.C_alloc ?_ _) | (with_reducible refine Kd.C_drewN ?_ _) | (with_reducible refine Kd.C_drew ?_))); (case side2 => exact (Kd.R_reads' HO165.out).2.1); (case side3 => repeat (first | exact (Kd.N_reads' HO174.out).2.2 | (with_reducible refine Kd.C_alloc ?_ _) | (with_reducible refine Kd.C_drewN ?_ _) | (with_reducible refine Kd.C_drew ?_))); (case side4 => exact (Kd.N_reads' HO174.out).2.1); rintro e w55 ⟨rfl, hb⟩; refine ⟨_, rfl, ?_⟩; have n0_ := Aside0.mk (Kd.R_below (by (with_reducible repeat (first | apply Kd.R_alloc | apply Kd.R_drewN | apply Kd.R_drew)); exact HO165.out) hb); have n1_ := Aside0.mk (Kd.N_below (by (with_reducible repeat (first | apply Kd.N_alloc | apply Kd.N_drewN | apply Kd.N_drew)); exact HO174.out) hb); have n2_ := Aside0.mk (Kd.R_below (by (with_reducible repeat (first | apply Kd.R_alloc | apply Kd.R_drewN | apply Kd.R_drew)); exact HO182.out) hb); have n3_ := Aside0.mk (blk_below (g := gb175) (o := .cells #[.slice Ao16 y163.length co16, .slice Ao15 y172.length co15] 25 (0, 0)) (by (with_reducible repeat (first | refine blk_drewN ?_ _ | refine blk_drew ?_ | refine blk_alloc ?_ _)); exact BK175.out) hb); have n4_ := Aside0.mk (below_step (by repeat (first | (with_reducible first | exact HB.out | apply below_alloc | apply pw_below_drewN | apply below_drew1 | refine below_set ?_ GE175.out) | exact HB.out)) hb); clear HO165; clear HO174; clear HO182; clear BK175; clear HB; have HO165 := n0_; have HO174 := n1_; have HO182 := n2_; have BK175 := n3_; have HB := n4_; clear n0_ n1_ n2_ n3_ n4_; (try clear hb); (try clear hb2); (try clear hk); (try clear hi); have hcz56_0 : w55.cell? ⟨gb175, 0, none⟩ = some (.slice Ao16 y163.length co16) := (blk_cell BK175.out 0).trans rfl; have hcz56_1 : w55.cell? ⟨gb175, 1, none⟩ = some (.slice Ao15 y172.length co15) := (blk_cell BK175.out 1).trans rfl; have hfz56_0 := blk_frozen BK175.out 0; have hfz56_1 := blk_frozen BK175.out 1) | (go_at_call 13; (with_reducible refine (naive_Run.calls k _ _ y163 _ _ y172 (⟨#[97, 98]⟩ : ByteArray) 7 t186 t187 t188 _ ?side1 ?side2 ?side3 ?side4 A31.out).mono ?_); (case side1 => repeat (first | exact (Kd.R_reads' HO165.out).2.2 | (with_reducible refine Kd.C_alloc ?_ _) | (with_reducible refine Kd.C_drewN ?_ _) | (with_reducible refine Kd.C_drew ?_))); (case side2 => exact (Kd.R_reads' HO165.out).2.1); (case side3 => repeat (first | exact (Kd.N_reads' HO174.out).2.2 | (with_reducible refine Kd.C_alloc ?_ _) | (with_reducible refine Kd.C_drewN ?_ _) | (with_reducible refine Kd.C_drew ?_))); (case side4 => exact (Kd.N_reads' HO174.out).2.1); rintro e w57 ⟨rfl, hb⟩; have n0_ := Aside0.mk (Kd.R_below (by (with_reducible repeat (first | apply Kd.R_alloc | apply Kd.R_drewN | apply Kd.R_drew)); exact HO165.out) hb); have n1_ := Aside0.mk (Kd.N_below (by (with_reducible repeat (first | apply Kd.N_alloc | apply Kd.N_drewN | apply Kd.N_drew)); exact HO174.out) hb); have n2_ := Aside0.mk (Kd.R_below (by (with_reducible repeat (first | apply Kd.R_alloc | apply Kd.R_drewN | apply Kd.R_drew)); exact HO182.out) hb); have n3_ := Aside0.mk (blk_below (g := gb175) (o := .cells #[.slice Ao16 y163.length co16, .slice Ao15 y172.length co15] 25 (0, 0)) (by (with_reducible repeat (first | refine blk_drewN ?_ _ | refine blk_drew ?_ | refine blk_alloc ?_ _)); exact BK175.out) hb); have n4_ := Aside0.mk (below_step (by repeat (first | (with_reducible first | exact HB.out | apply below_alloc | apply pw_below_drewN | apply below_drew1 | refine below_set ?_ GE175.out) | exact HB.out)) hb); clear HO165; clear HO174; clear HO182; clear BK175; clear HB; have HO165 := n0_; have HO174 := n1_; have HO182 := n2_; have BK175 := n3_; have HB := n4_; clear n0_ n1_ n2_ n3_ n4_; (try clear hb); (try clear hb2); (try clear hk); (try clear hi); obtain ⟨Ao58, co58, eo58⟩ := Kd.R_slice HO182.out; subst eo58))
       go_ret
       exact ⟨by first | rfl | (simp [errW_none, errW_some] <;> rfl) | (simp [*, errW_none, errW_some] <;> rfl), by repeat (first | (with_reducible first | exact HB.out | apply below_alloc | apply pw_below_drewN | apply below_drew1 | refine below_set ?_ GE175.out) | exact HB.out)⟩
     ·
      rw [if_neg c32] at H
      have c32b0 : (!t186 && (t187 == 0 && (t188 == 0))) = false := by simpa using c32
      clear c32
      obtain rfl := Option.some.inj H
      have hcz59_0 : w23.cell? ⟨gb175, 0, none⟩ = some (.slice Ao16 y163.length co16) := (blk_cell BK175.out 0).trans rfl
      have hcz59_1 : w23.cell? ⟨gb175, 1, none⟩ = some (.slice Ao15 y172.length co15) := (blk_cell BK175.out 1).trans rfl
      have hfz59_0 := blk_frozen BK175.out 0
      have hfz59_1 := blk_frozen BK175.out 1
      go_wp2_with (first | ((with_reducible refine gate_callee (f := 13) rfl ?_); refine goesL_ (some 33) rfl rfl Try.func13 (by kernel_rfl) rfl #[.agg #[.slice Ao16 y163.length co16, .slice Ao15 y172.length co15], .string (⟨#[97, 98]⟩ : ByteArray), .int .i64 10] rfl (by (try simp only [List.map_toArray, List.map_cons, List.map_nil]); first | done | rfl | (simp only [List.length_drop, List.length_take]; rfl)) ?_; (with_reducible refine (naive_Run.calls k _ _ y163 _ _ y172 (⟨#[97, 98]⟩ : ByteArray) 10 t183 t184 t185 _ ?side1 ?side2 ?side3 ?side4 A24.out).mono ?_); (case side1 => repeat (first | exact (Kd.R_reads' HO165.out).2.2 | (with_reducible refine Kd.C_alloc ?_ _) | (with_reducible refine Kd.C_drewN ?_ _) | (with_reducible refine Kd.C_drew ?_))); (case side2 => exact (Kd.R_reads' HO165.out).2.1); (case side3 => repeat (first | exact (Kd.N_reads' HO174.out).2.2 | (with_reducible refine Kd.C_alloc ?_ _) | (with_reducible refine Kd.C_drewN ?_ _) | (with_reducible refine Kd.C_drew ?_))); (case side4 => exact (Kd.N_reads' HO174.out).2.1); rintro e w60 ⟨rfl, hb⟩; refine ⟨_, rfl, ?_⟩; have n0_ := Aside0.mk (Kd.R_below (by (with_reducible repeat (first | apply Kd.R_alloc | apply Kd.R_drewN | apply Kd.R_drew)); exact HO165.out) hb); have n1_ := Aside0.mk (Kd.N_below (by (with_reducible repeat (first | apply Kd.N_alloc | apply Kd.N_drewN | apply Kd.N_drew)); exact HO174.out) hb); have n2_ := Aside0.mk (Kd.R_below (by (with_reducible repeat (first | apply Kd.R_alloc | apply Kd.R_drewN | apply Kd.R_drew)); exact HO182.out) hb); have n3_ := Aside0.mk (blk_below (g := gb175) (o := .cells #[.slice Ao16 y163.length co16, .slice Ao15 y172.length co15] 25 (0, 0)) (by (with_reducible repeat (first | refine blk_drewN ?_ _ | refine blk_drew ?_ | refine blk_alloc ?_ _)); exact BK175.out) hb); have n4_ := Aside0.mk (below_step (by repeat (first | (with_reducible first | exact HB.out | apply below_alloc | apply pw_below_drewN | apply below_drew1 | refine below_set ?_ GE175.out) | exact HB.out)) hb); clear HO165; clear HO174; clear HO182; clear BK175; clear HB; have HO165 := n0_; have HO174 := n1_; have HO182 := n2_; have BK175 := n3_; have HB := n4_; clear n0_ n1_ n2_ n3_ n4_; (try clear hb); (try clear hb2); (try clear hk); (try clear hi); have hcz61_0 : w60.cell? ⟨gb175, 0, none⟩ = some (.slice Ao16 y163.length co16) := (blk_cell BK175.out 0).trans rfl; have hcz61_1 : w60.cell? ⟨gb175, 1, none⟩ = some (.slice Ao15 y172.length co15) := (blk_cell BK175.out 1).trans rfl; have hfz61_0 := blk_frozen BK175.out 0; have hfz61_1 := blk_frozen BK175.out 1) | (go_at_call 13; (with_reducible refine (naive_Run.calls k _ _ y163 _ _ y172 (⟨#[97, 98]⟩ : ByteArray) 7 t186 t187 t188 _ ?side1 ?side2 ?side3 ?side4 A31.out).mono ?_); (case side1 => repeat (first | exact (Kd.R_reads' HO165.out).2.2 | (with_reducible refine Kd.C_alloc ?_ _) | (with_reducible refine Kd.C_drewN ?_ _) | (with_reducible refine Kd.C_drew ?_))); (case side2 => exact (Kd.R_reads' HO165.out).2.1); (case side3 => repeat (first | exact (Kd.N_reads' HO174.out).2.2 | (with_reducible refine Kd.C_alloc ?_ _) | (with_reducible refine Kd.C_drewN ?_ _) | (with_reducible refine Kd.C_drew ?_))); (case side4 => exact (Kd.N_reads' HO174.out).2.1); rintro e w62 ⟨rfl, hb⟩; have n0_ := Aside0.mk (Kd.R_below (by (with_reducible repeat (first | apply Kd.R_alloc | apply Kd.R_drewN | apply Kd.R_drew)); exact HO165.out) hb); have n1_ := Aside0.mk (Kd.N_below (by (with_reducible repeat (first | apply Kd.N_alloc | apply Kd.N_drewN | apply Kd.N_drew)); exact HO174.out) hb); have n2_ := Aside0.mk (Kd.R_below (by (with_reducible repeat (first | apply Kd.R_alloc | apply Kd.R_drewN | apply Kd.R_drew)); exact HO182.out) hb); have n3_ := Aside0.mk (blk_below (g := gb175) (o := .cells #[.slice Ao16 y163.length co16, .slice Ao15 y172.length co15] 25 (0, 0)) (by (with_reducible repeat (first | refine blk_drewN ?_ _ | refine blk_drew ?_ | refine blk_alloc ?_ _)); exact BK175.out) hb); have n4_ := Aside0.mk (below_step (by repeat (first | (with_reducible first | exact HB.out | apply below_alloc | apply pw_below_drewN | apply below_drew1 | refine below_set ?_ GE175.out) | exact HB.out)) hb); clear HO165; clear HO174; clear HO182; clear BK175; clear HB; have HO165 := n0_; have HO174 := n1_; have HO182 := n2_; have BK175 := n3_; have HB := n4_; clear n0_ n1_ n2_ n3_ n4_; (try clear hb); (try clear hb2); (try clear hk); (try clear hi)))
      go_ret
      exact ⟨by first | rfl | (simp [errW_none, errW_some] <;> rfl) | (simp [*, errW_none, errW_some] <;> rfl), by repeat (first | (with_reducible first | exact HB.out | apply below_alloc | apply pw_below_drewN | apply below_drew1 | refine below_set ?_ GE175.out) | exact HB.out)⟩
   ·
    replace c27 := Bool.eq_false_iff.mpr c27
    subst c27
    have H1 : (some false) = some r := by rw [if_neg (show ¬ (false = true) by decide)] at H; exact H
    clear H
    have H := H1
    clear H1
    obtain rfl := Option.some.inj H
    have hcz63_0 : w23.cell? ⟨gb175, 0, none⟩ = some (.slice Ao16 y163.length co16) := (blk_cell BK175.out 0).trans rfl
    have hcz63_1 : w23.cell? ⟨gb175, 1, none⟩ = some (.slice Ao15 y172.length co15) := (blk_cell BK175.out 1).trans rfl
    have hfz63_0 := blk_frozen BK175.out 0
    have hfz63_1 := blk_frozen BK175.out 1
    go_wp2_with (first | ((with_reducible refine gate_callee (f := 13) rfl ?_); refine goesL_ (some 33) rfl rfl Try.func13 (by kernel_rfl) rfl #[.agg #[.slice Ao16 y163.length co16, .slice Ao15 y172.length co15], .string (⟨#[97, 98]⟩ : ByteArray), .int .i64 10] rfl (by (try simp only [List.map_toArray, List.map_cons, List.map_nil]); first | done | rfl | (simp only [List.length_drop, List.length_take]; rfl)) ?_; (with_reducible refine (naive_Run.calls k _ _ y163 _ _ y172 (⟨#[97, 98]⟩ : ByteArray) 10 t183 t184 t185 _ ?side1 ?side2 ?side3 ?side4 A24.out).mono ?_); (case side1 => repeat (first | exact (Kd.R_reads' HO165.out).2.2 | (with_reducible refine Kd.C_alloc ?_ _) | (with_reducible refine Kd.C_drewN ?_ _) | (with_reducible refine Kd.C_drew ?_))); (case side2 => exact (Kd.R_reads' HO165.out).2.1); (case side3 => repeat (first | exact (Kd.N_reads' HO174.out).2.2 | (with_reducible refine Kd.C_alloc ?_ _) | (with_reducible refine Kd.C_drewN ?_ _) | (with_reducible refine Kd.C_drew ?_))); (case side4 => exact (Kd.N_reads' HO174.out).2.1); rintro e w64 ⟨rfl, hb⟩; refine ⟨_, rfl, ?_⟩; have n0_ := Aside0.mk (Kd.R_below (by (with_reducible repeat (first | apply Kd.R_alloc | apply Kd.R_drewN | apply Kd.R_drew)); exact HO165.out) hb); have n1_ := Aside0.mk (Kd.N_below (by (with_reducible repeat (first | apply Kd.N_alloc | apply Kd.N_drewN | apply Kd.N_drew)); exact HO174.out) hb); have n2_ := Aside0.mk (Kd.R_below (by (with_reducible repeat (first | apply Kd.R_alloc | apply Kd.R_drewN | apply Kd.R_drew)); exact HO182.out) hb); have n3_ := Aside0.mk (blk_below (g := gb175) (o := .cells #[.slice Ao16 y163.length co16, .slice Ao15 y172.length co15] 25 (0, 0)) (by (with_reducible repeat (first | refine blk_drewN ?_ _ | refine blk_drew ?_ | refine blk_alloc ?_ _)); exact BK175.out) hb); have n4_ := Aside0.mk (below_step (by repeat (first | (with_reducible first | exact HB.out | apply below_alloc | apply pw_below_drewN | apply below_drew1 | refine below_set ?_ GE175.out) | exact HB.out)) hb); clear HO165; clear HO174; clear HO182; clear BK175; clear HB; have HO165 := n0_; have HO174 := n1_; have HO182 := n2_; have BK175 := n3_; have HB := n4_; clear n0_ n1_ n2_ n3_ n4_; (try clear hb); (try clear hb2); (try clear hk); (try clear hi)))
    go_ret
    exact ⟨by first | rfl | (simp [errW_none, errW_some] <;> rfl) | (simp [*, errW_none, errW_some] <;> rfl), by repeat (first | (with_reducible first | exact HB.out | apply below_alloc | apply pw_below_drewN | apply below_drew1 | refine below_set ?_ GE175.out) | exact HB.out)⟩
  ·
   rw [if_neg c26] at H
   have c26b0 : (t176 == 8) = false := beq_eq_false_iff_ne.mpr c26
   have c26b1 : (t176 != 8) = true := bne_iff_ne.mpr c26
   obtain rfl := Option.some.inj H
   have hcz65_0 : w23.cell? ⟨gb175, 0, none⟩ = some (.slice Ao16 y163.length co16) := (blk_cell BK175.out 0).trans rfl
   have hcz65_1 : w23.cell? ⟨gb175, 1, none⟩ = some (.slice Ao15 y172.length co15) := (blk_cell BK175.out 1).trans rfl
   have hfz65_0 := blk_frozen BK175.out 0
   have hfz65_1 := blk_frozen BK175.out 1
   go_wp2_with (first | ((with_reducible refine gate_callee (f := 13) rfl ?_); refine goesL_ (some 33) rfl rfl Try.func13 (by kernel_rfl) rfl #[.agg #[.slice Ao16 y163.length co16, .slice Ao15 y172.length co15], .string (⟨#[97, 98]⟩ : ByteArray), .int .i64 10] rfl (by (try simp only [List.map_toArray, List.map_cons, List.map_nil]); first | done | rfl | (simp only [List.length_drop, List.length_take]; rfl)) ?_; (with_reducible refine (naive_Run.calls k _ _ y163 _ _ y172 (⟨#[97, 98]⟩ : ByteArray) 10 t183 t184 t185 _ ?side1 ?side2 ?side3 ?side4 A24.out).mono ?_); (case side1 => repeat (first | exact (Kd.R_reads' HO165.out).2.2 | (with_reducible refine Kd.C_alloc ?_ _) | (with_reducible refine Kd.C_drewN ?_ _) | (with_reducible refine Kd.C_drew ?_))); (case side2 => exact (Kd.R_reads' HO165.out).2.1); (case side3 => repeat (first | exact (Kd.N_reads' HO174.out).2.2 | (with_reducible refine Kd.C_alloc ?_ _) | (with_reducible refine Kd.C_drewN ?_ _) | (with_reducible refine Kd.C_drew ?_))); (case side4 => exact (Kd.N_reads' HO174.out).2.1); rintro e w66 ⟨rfl, hb⟩; refine ⟨_, rfl, ?_⟩; have n0_ := Aside0.mk (Kd.R_below (by (with_reducible repeat (first | apply Kd.R_alloc | apply Kd.R_drewN | apply Kd.R_drew)); exact HO165.out) hb); have n1_ := Aside0.mk (Kd.N_below (by (with_reducible repeat (first | apply Kd.N_alloc | apply Kd.N_drewN | apply Kd.N_drew)); exact HO174.out) hb); have n2_ := Aside0.mk (Kd.R_below (by (with_reducible repeat (first | apply Kd.R_alloc | apply Kd.R_drewN | apply Kd.R_drew)); exact HO182.out) hb); have n3_ := Aside0.mk (blk_below (g := gb175) (o := .cells #[.slice Ao16 y163.length co16, .slice Ao15 y172.length co15] 25 (0, 0)) (by (with_reducible repeat (first | refine blk_drewN ?_ _ | refine blk_drew ?_ | refine blk_alloc ?_ _)); exact BK175.out) hb); have n4_ := Aside0.mk (below_step (by repeat (first | (with_reducible first | exact HB.out | apply below_alloc | apply pw_below_drewN | apply below_drew1 | refine below_set ?_ GE175.out) | exact HB.out)) hb); clear HO165; clear HO174; clear HO182; clear BK175; clear HB; have HO165 := n0_; have HO174 := n1_; have HO182 := n2_; have BK175 := n3_; have HB := n4_; clear n0_ n1_ n2_ n3_ n4_; (try clear hb); (try clear hb2); (try clear hk); (try clear hi)))
   go_ret
   exact ⟨by first | rfl | (simp [errW_none, errW_some] <;> rfl) | (simp [*, errW_none, errW_some] <;> rfl), by repeat (first | (with_reducible first | exact HB.out | apply below_alloc | apply pw_below_drewN | apply below_drew1 | refine below_set ?_ GE175.out) | exact HB.out)⟩
 ·
  rw [if_neg c25] at H
  have c25b0 : (t183 && (t184 == 2 && (t185 == 2))) = false := by simpa using c25
  clear c25
  (first | rw [c25b0] | (simp only [i64_w, i32_w]; rw [c25b0]) | skip)
  obtain rfl := Option.some.inj H
  have hcz67_0 : w23.cell? ⟨gb175, 0, none⟩ = some (.slice Ao16 y163.length co16) := (blk_cell BK175.out 0).trans rfl
  have hcz67_1 : w23.cell? ⟨gb175, 1, none⟩ = some (.slice Ao15 y172.length co15) := (blk_cell BK175.out 1).trans rfl
  have hfz67_0 := blk_frozen BK175.out 0
  have hfz67_1 := blk_frozen BK175.out 1
  go_wp2_with (first | ((with_reducible refine gate_callee (f := 13) rfl ?_); refine goesL_ (some 33) rfl rfl Try.func13 (by kernel_rfl) rfl #[.agg #[.slice Ao16 y163.length co16, .slice Ao15 y172.length co15], .string (⟨#[97, 98]⟩ : ByteArray), .int .i64 10] rfl (by (try simp only [List.map_toArray, List.map_cons, List.map_nil]); first | done | rfl | (simp only [List.length_drop, List.length_take]; rfl)) ?_; (with_reducible refine (naive_Run.calls k _ _ y163 _ _ y172 (⟨#[97, 98]⟩ : ByteArray) 10 t183 t184 t185 _ ?side1 ?side2 ?side3 ?side4 A24.out).mono ?_); (case side1 => repeat (first | exact (Kd.R_reads' HO165.out).2.2 | (with_reducible refine Kd.C_alloc ?_ _) | (with_reducible refine Kd.C_drewN ?_ _) | (with_reducible refine Kd.C_drew ?_))); (case side2 => exact (Kd.R_reads' HO165.out).2.1); (case side3 => repeat (first | exact (Kd.N_reads' HO174.out).2.2 | (with_reducible refine Kd.C_alloc ?_ _) | (with_reducible refine Kd.C_drewN ?_ _) | (with_reducible refine Kd.C_drew ?_))); (case side4 => exact (Kd.N_reads' HO174.out).2.1); rintro e w68 ⟨rfl, hb⟩; refine ⟨_, rfl, ?_⟩; have n0_ := Aside0.mk (Kd.R_below (by (with_reducible repeat (first | apply Kd.R_alloc | apply Kd.R_drewN | apply Kd.R_drew)); exact HO165.out) hb); have n1_ := Aside0.mk (Kd.N_below (by (with_reducible repeat (first | apply Kd.N_alloc | apply Kd.N_drewN | apply Kd.N_drew)); exact HO174.out) hb); have n2_ := Aside0.mk (Kd.R_below (by (with_reducible repeat (first | apply Kd.R_alloc | apply Kd.R_drewN | apply Kd.R_drew)); exact HO182.out) hb); have n3_ := Aside0.mk (blk_below (g := gb175) (o := .cells #[.slice Ao16 y163.length co16, .slice Ao15 y172.length co15] 25 (0, 0)) (by (with_reducible repeat (first | refine blk_drewN ?_ _ | refine blk_drew ?_ | refine blk_alloc ?_ _)); exact BK175.out) hb); have n4_ := Aside0.mk (below_step (by repeat (first | (with_reducible first | exact HB.out | apply below_alloc | apply pw_below_drewN | apply below_drew1 | refine below_set ?_ GE175.out) | exact HB.out)) hb); clear HO165; clear HO174; clear HO182; clear BK175; clear HB; have HO165 := n0_; have HO174 := n1_; have HO182 := n2_; have BK175 := n3_; have HB := n4_; clear n0_ n1_ n2_ n3_ n4_; (try clear hb); (try clear hb2); (try clear hk); (try clear hi)))
  go_ret
  exact ⟨by first | rfl | (simp [errW_none, errW_some] <;> rfl) | (simp [*, errW_none, errW_some] <;> rfl), by repeat (first | (with_reducible first | exact HB.out | apply below_alloc | apply pw_below_drewN | apply below_drew1 | refine below_set ?_ GE175.out) | exact HB.out)⟩
end Go.Proofs.Ythgedejnpgcacaa.V
namespace Go.Proofs.Ythgedejnpgcacaa.V
open Go.RowKit Go.Proofs.YthgedejnpgcacaaW.PrintWords Go.Proofs.YthgedejnpgcacaaW.PrintLast Go.Proofs.YthgedejnpgcacaaW.PrintMore
attribute [local go_sem] max2_int min2_int max_two min_two max_three min_three max_four min_four tdiv_most
set_option linter.unusedVariables false
set_option linter.unusedSimpArgs false
mutual
def vetchref05_Few.l0 : Nat → Int → List (S51) → List (S56) → Option (Bool)
 | 0, _, _, _ => none
 | k + 1, x3, x193000, x193001 => if x3 < (x193000.length : Int) then (if 0 ≤ x3 then (if (((rd_T51 x193000 x3).f0).size : Int) > 100 then (some false) else (vetchref05_Few.l0 k (wrap64 (x3 + 1)) x193000 x193001)) else (none)) else (vetchref05_Few.l1 k 0 x193000 x193001)
def vetchref05_Few.l1 : Nat → Int → List (S51) → List (S56) → Option (Bool)
 | 0, _, _, _ => none
 | k + 1, x4, x193000, x193001 => if x4 < (x193001.length : Int) then (if 0 ≤ x4 then (if (((rd_T56 x193001 x4).f1).length : Int) > 60 then (some false) else (vetchref05_Few.l1 k (wrap64 (x4 + 1)) x193000 x193001)) else (none)) else (if (x193000.length : Int) ≤ 30 then (some (decide ((x193001.length : Int) ≤ 300))) else (some false))
end
def vetchref05_Few.f (k : Nat) (l0_0 : List (S51)) (l0_1 : List (S56)) : Option (Bool) := vetchref05_Few.l0 k 0 l0_0 l0_1
set_option maxHeartbeats 8000000 in
set_option maxRecDepth 100000 in
theorem vetchref05_Few.calls (k : Nat) (A0_0 : Option Addr) (c0_0 : Nat) (l0_0 : List (S51)) (A0_1 : Option Addr) (c0_1 : Nat) (l0_1 : List (S56)) (r : Bool) (w : World) (hr0_0 : Kd.C k51 w A0_0 l0_0.length l0_0) (hc0_0 : l0_0.length ≤ c0_0) (hr0_1 : Kd.C k56 w A0_1 l0_1.length l0_1) (hc0_1 : l0_1.length ≤ c0_1) (h : vetchref05_Few.f k l0_0 l0_1 = some r) :
 Calls Try.prog 24 #[.agg #[.slice A0_0 l0_0.length c0_0, .slice A0_1 l0_1.length c0_1]] w fun e w' => e = .returned (.bool r) ∧ Below w.heap.size w w' := by
 have hu25 := Try.underlying25
 have HR0_0 := Aside0.mk hr0_0
 have HC0_0 := Aside0.mk hc0_0
 clear hr0_0 hc0_0
 have HR0_1 := Aside0.mk hr0_1
 have HC0_1 := Aside0.mk hc0_1
 clear hr0_1 hc0_1
 have HB := Aside0.mk (Below.refl w.heap.size w)
 have H : (vetchref05_Few.l0 k 0 l0_0 l0_1) = some r := h
 clear h
 have H' := Aside0.mk H
 clear H
 go_enter Try.func24, Try.ntmps24
 go_wp2_with (first | ((with_reducible refine gate_dst (N := 1) rfl ?_); (try (refine gate_guard (by rfl) ?_; dsimp only)); refine box_event ?hg (N := 1) ?hd (cs := #[.slice A0_0 l0_0.length c0_0, .slice A0_1 l0_1.length c0_1]) (t := 25) ?hr ?_; (case hd => rfl); (case hg => rfl); (case hr => first | (go_simp; done) | (go_simp; rfl)); intro gb192 hg w2 hbox hb; have n0_ := Aside0.mk (below_step (by repeat (first | (with_reducible first | exact HB.out | apply below_alloc | apply pw_below_drewN | apply below_drew1) | exact HB.out)) hb); have n1_ := Aside0.mk (hbox); have n2_ := Aside0.mk ((by rw [hg]; exact (below_size (by repeat (first | (with_reducible first | exact HB.out | apply below_alloc | apply pw_below_drewN | apply below_drew1) | exact HB.out))) : w.heap.size ≤ gb192)); have n3_ := Aside0.mk ((by rw [hg]; exact (below_size (by repeat (first | (with_reducible first | exact HB.out | apply below_alloc | apply pw_below_drewN | apply below_drew1) | exact HB.out))) : w.heap.size ≤ gb192)); clear HB; have HB := n0_; have BK192 := n1_; have GW192 := n2_; have GE192 := n3_; clear n0_ n1_ n2_ n3_; clear hb hbox hg))
 go_loopg [3] k (fun kq v3 w' => ∃ (x3_1 : Int), v3 = .int .i64 x3_1 ∧ Aside0 (vetchref05_Few.l0 kq x3_1 l0_0 l0_1 = some r) ∧ Aside0 (kq ≤ k) ∧ Aside0 (w'.heap[gb192]? = some (.cells #[(.slice A0_0 l0_0.length c0_0), (.slice A0_1 l0_1.length c0_1)] 25 (0, 0))) ∧ Aside0 (Below w.heap.size w w'))
 case atStart => exact ⟨(0), (by first | rfl | (simp; done) | (simp [*]; done)), H', ⟨Nat.le_refl _⟩, ⟨by (with_reducible repeat (first | refine blk_drewN ?_ _ | refine blk_drew ?_ | refine blk_alloc ?_ _)); exact BK192.out⟩, ⟨by repeat (first | (with_reducible first | exact HB.out | apply below_alloc | apply pw_below_drewN | apply below_drew1 | refine below_set ?_ GE192.out) | exact HB.out)⟩⟩
 case round =>
  clear H'
  try clear c2
  try clear p2
  obtain ⟨x3_1, rfl, HA, HK1, BK192, HB⟩ := hrel
  cases gk with
  | zero => exact absurd HA.out (by simp [vetchref05_Few.l0])
  | succ k1 =>
   have H := HA.out
   clear HA
   simp only [vetchref05_Few.l0] at H
   by_cases c3 : x3_1 < (l0_0.length : Int)
   ·
    rw [if_pos c3] at H
    have c3b0 : decide (x3_1 < (l0_0.length : Int)) = true := decide_eq_true c3
    clear c3
    by_cases c4 : 0 ≤ x3_1
    ·
     rw [if_pos c4] at H
     have c4b0 : decide (0 ≤ x3_1) = true := decide_eq_true c4
     clear c4
     by_cases c5 : (((rd_T51 l0_0 x3_1).f0).size : Int) > 100
     ·
      rw [if_pos c5] at H
      have c5b0 : decide (100 < (((rd_T51 l0_0 x3_1).f0).size : Int)) = true := decide_eq_true c5
      have c5b1 : decide (100 < ((rd_T51 l0_0 x3_1).f0).size) = true := decide_eq_true (by omega)
      clear c5
      obtain rfl := Option.some.inj H
      have hcz6_0 : wr.cell? ⟨gb192, 0, none⟩ = some (.slice A0_0 l0_0.length c0_0) := (blk_cell BK192.out 0).trans rfl
      have hcz6_1 : wr.cell? ⟨gb192, 1, none⟩ = some (.slice A0_1 l0_1.length c0_1) := (blk_cell BK192.out 1).trans rfl
      have hfz6_0 := blk_frozen BK192.out 0
      have hfz6_1 := blk_frozen BK192.out 1
      have p193 : 0 ≤ (x3_1 : Int) := of_decide_eq_true (by first | (with_reducible assumption) | assumption)
      have q193 : x3_1 < (l0_0.length : Int) := of_decide_eq_true (by first | (with_reducible assumption) | assumption)
      obtain ⟨ad193, e193, hx193_0, hx193_1⟩ := at_T51 HR0_0.out x3_1 p193 q193
      cases e193
      replace hx193_0 := (HB.out.cell (World.block_lt_of_cell? w _ hx193_0)).trans hx193_0
      replace hx193_1 := (HB.out.cell (World.block_lt_of_cell? w _ hx193_1)).trans hx193_1
      replace p193 := eq_true p193
      replace q193 := eq_true q193
      go_wp2
      go_ret
      exact ⟨by first | rfl | (simp [errW_none, errW_some] <;> rfl) | (simp [*, errW_none, errW_some] <;> rfl), by repeat (first | (with_reducible first | exact HB.out | apply below_alloc | apply pw_below_drewN | apply below_drew1 | refine below_set ?_ GE192.out) | exact HB.out)⟩
     ·
      rw [if_neg c5] at H
      have c5b0 : decide (100 < (((rd_T51 l0_0 x3_1).f0).size : Int)) = false := decide_eq_false c5
      have c5b1 : decide (100 < ((rd_T51 l0_0 x3_1).f0).size) = false := decide_eq_false (by omega)
      clear c5
      have H' := Aside0.mk H
      clear H
      have hcz7_0 : wr.cell? ⟨gb192, 0, none⟩ = some (.slice A0_0 l0_0.length c0_0) := (blk_cell BK192.out 0).trans rfl
      have hcz7_1 : wr.cell? ⟨gb192, 1, none⟩ = some (.slice A0_1 l0_1.length c0_1) := (blk_cell BK192.out 1).trans rfl
      have hfz7_0 := blk_frozen BK192.out 0
      have hfz7_1 := blk_frozen BK192.out 1
      have p193 : 0 ≤ (x3_1 : Int) := of_decide_eq_true (by first | (with_reducible assumption) | assumption)
      have q193 : x3_1 < (l0_0.length : Int) := of_decide_eq_true (by first | (with_reducible assumption) | assumption)
      obtain ⟨ad193, e193, hx193_0, hx193_1⟩ := at_T51 HR0_0.out x3_1 p193 q193
      cases e193
      replace hx193_0 := (HB.out.cell (World.block_lt_of_cell? w _ hx193_0)).trans hx193_0
      replace hx193_1 := (HB.out.cell (World.block_lt_of_cell? w _ hx193_1)).trans hx193_1
      replace p193 := eq_true p193
      replace q193 := eq_true q193
      go_wp2
      go_roundg k1
      case measure => have := HK1.out; omega
      case rel => exact ⟨(wrap64 (x3_1 + 1)), (by first | rfl | (simp; done) | (simp [*]; done)), H', ⟨by have := HK1.out; omega⟩, ⟨by (with_reducible repeat (first | refine blk_drewN ?_ _ | refine blk_drew ?_ | refine blk_alloc ?_ _)); exact BK192.out⟩, ⟨by repeat (first | (with_reducible first | exact HB.out | apply below_alloc | apply pw_below_drewN | apply below_drew1 | refine below_set ?_ GE192.out) | exact HB.out)⟩⟩
    ·
     rw [if_neg c4] at H
     exact absurd H (by simp)
   ·
    rw [if_neg c3] at H
    have c3b0 : decide (x3_1 < (l0_0.length : Int)) = false := decide_eq_false c3
    clear c3
    have H' := Aside0.mk H
    clear H
    have hcz8_0 : wr.cell? ⟨gb192, 0, none⟩ = some (.slice A0_0 l0_0.length c0_0) := (blk_cell BK192.out 0).trans rfl
    have hcz8_1 : wr.cell? ⟨gb192, 1, none⟩ = some (.slice A0_1 l0_1.length c0_1) := (blk_cell BK192.out 1).trans rfl
    have hfz8_0 := blk_frozen BK192.out 0
    have hfz8_1 := blk_frozen BK192.out 1
    go_wp2
    go_loopg [4] k1 (fun kq v4 w' => ∃ (x4_2 : Int), v4 = .int .i64 x4_2 ∧ Aside0 (vetchref05_Few.l1 kq x4_2 l0_0 l0_1 = some r) ∧ Aside0 (kq ≤ k1) ∧ Aside0 (w'.heap[gb192]? = some (.cells #[(.slice A0_0 l0_0.length c0_0), (.slice A0_1 l0_1.length c0_1)] 25 (0, 0))) ∧ Aside0 (Below w.heap.size w w'))
    case atStart => exact ⟨(0), (by first | rfl | (simp; done) | (simp [*]; done)), H', ⟨Nat.le_refl _⟩, ⟨by (with_reducible repeat (first | refine blk_drewN ?_ _ | refine blk_drew ?_ | refine blk_alloc ?_ _)); exact BK192.out⟩, ⟨by repeat (first | (with_reducible first | exact HB.out | apply below_alloc | apply pw_below_drewN | apply below_drew1 | refine below_set ?_ GE192.out) | exact HB.out)⟩⟩
    case round =>
     clear H'
     try clear p1
     try clear q1
     try clear hx1
     try clear c2
     try clear p2
     try clear c3
     try clear c3b0
     try clear c4
     try clear c4b0
     try clear c5
     try clear c5b0
     try clear c5b1
     try clear p6
     try clear hcz6_0
     try clear hcz6_1
     try clear hcz7_0
     try clear hcz7_1
     try clear hcz8_0
     try clear hcz8_1
     try clear hfz6_0
     try clear hfz6_1
     try clear hfz7_0
     try clear hfz7_1
     try clear hfz8_0
     try clear hfz8_1
     try clear hx193_0
     try clear hx193_1
     try clear p193
     try clear p2
     try clear q193
     obtain ⟨x4_2, rfl, HA, HK2, BK192, HB⟩ := hrel
     cases gk with
     | zero => exact absurd HA.out (by simp [vetchref05_Few.l1])
     | succ k2 =>
      have H := HA.out
      clear HA
      simp only [vetchref05_Few.l1] at H
      by_cases c9 : x4_2 < (l0_1.length : Int)
      ·
       rw [if_pos c9] at H
       have c9b0 : decide (x4_2 < (l0_1.length : Int)) = true := decide_eq_true c9
       clear c9
       by_cases c10 : 0 ≤ x4_2
       ·
        rw [if_pos c10] at H
        have c10b0 : decide (0 ≤ x4_2) = true := decide_eq_true c10
        clear c10
        by_cases c11 : (((rd_T56 l0_1 x4_2).f1).length : Int) > 60
        ·
         rw [if_pos c11] at H
         have c11b0 : decide (60 < (((rd_T56 l0_1 x4_2).f1).length : Int)) = true := decide_eq_true c11
         have c11b1 : decide (60 < ((rd_T56 l0_1 x4_2).f1).length) = true := decide_eq_true (by omega)
         clear c11
         obtain rfl := Option.some.inj H
         have hcz12_0 : wr.cell? ⟨gb192, 0, none⟩ = some (.slice A0_0 l0_0.length c0_0) := (blk_cell BK192.out 0).trans rfl
         have hcz12_1 : wr.cell? ⟨gb192, 1, none⟩ = some (.slice A0_1 l0_1.length c0_1) := (blk_cell BK192.out 1).trans rfl
         have hfz12_0 := blk_frozen BK192.out 0
         have hfz12_1 := blk_frozen BK192.out 1
         have p194 : 0 ≤ (x4_2 : Int) := of_decide_eq_true (by first | (with_reducible assumption) | assumption)
         have q194 : x4_2 < (l0_1.length : Int) := of_decide_eq_true (by first | (with_reducible assumption) | assumption)
         obtain ⟨ad194, A194_1, c194_1, e194, hx194_0, hx194_1, hx194_2, hx194_3, hx194_4, hx194_5, hx194_6, hl194_1, hi194_1⟩ := at_T56 HR0_1.out x4_2 p194 q194
         cases e194
         replace hx194_0 := (HB.out.cell (World.block_lt_of_cell? w _ hx194_0)).trans hx194_0
         replace hx194_1 := (HB.out.cell (World.block_lt_of_cell? w _ hx194_1)).trans hx194_1
         replace hx194_2 := (HB.out.cell (World.block_lt_of_cell? w _ hx194_2)).trans hx194_2
         replace hx194_3 := (HB.out.cell (World.block_lt_of_cell? w _ hx194_3)).trans hx194_3
         replace hx194_4 := (HB.out.cell (World.block_lt_of_cell? w _ hx194_4)).trans hx194_4
         replace hx194_5 := (HB.out.cell (World.block_lt_of_cell? w _ hx194_5)).trans hx194_5
         replace hx194_6 := (HB.out.cell (World.block_lt_of_cell? w _ hx194_6)).trans hx194_6
         have HR194_1 := Aside0.mk hi194_1
         have HC194_1 := Aside0.mk hl194_1
         clear hi194_1 hl194_1
         replace p194 := eq_true p194
         replace q194 := eq_true q194
         go_wp2
         go_ret
         exact ⟨by first | rfl | (simp [errW_none, errW_some] <;> rfl) | (simp [*, errW_none, errW_some] <;> rfl), by repeat (first | (with_reducible first | exact HB.out | apply below_alloc | apply pw_below_drewN | apply below_drew1 | refine below_set ?_ GE192.out) | exact HB.out)⟩
        ·
         rw [if_neg c11] at H
         have c11b0 : decide (60 < (((rd_T56 l0_1 x4_2).f1).length : Int)) = false := decide_eq_false c11
         have c11b1 : decide (60 < ((rd_T56 l0_1 x4_2).f1).length) = false := decide_eq_false (by omega)
         clear c11
         have H' := Aside0.mk H
         clear H
         have hcz13_0 : wr.cell? ⟨gb192, 0, none⟩ = some (.slice A0_0 l0_0.length c0_0) := (blk_cell BK192.out 0).trans rfl
         have hcz13_1 : wr.cell? ⟨gb192, 1, none⟩ = some (.slice A0_1 l0_1.length c0_1) := (blk_cell BK192.out 1).trans rfl
         have hfz13_0 := blk_frozen BK192.out 0
         have hfz13_1 := blk_frozen BK192.out 1
         have p194 : 0 ≤ (x4_2 : Int) := of_decide_eq_true (by first | (with_reducible assumption) | assumption)
         have q194 : x4_2 < (l0_1.length : Int) := of_decide_eq_true (by first | (with_reducible assumption) | assumption)
         obtain ⟨ad194, A194_1, c194_1, e194, hx194_0, hx194_1, hx194_2, hx194_3, hx194_4, hx194_5, hx194_6, hl194_1, hi194_1⟩ := at_T56 HR0_1.out x4_2 p194 q194
         cases e194
         replace hx194_0 := (HB.out.cell (World.block_lt_of_cell? w _ hx194_0)).trans hx194_0
         replace hx194_1 := (HB.out.cell (World.block_lt_of_cell? w _ hx194_1)).trans hx194_1
         replace hx194_2 := (HB.out.cell (World.block_lt_of_cell? w _ hx194_2)).trans hx194_2
         replace hx194_3 := (HB.out.cell (World.block_lt_of_cell? w _ hx194_3)).trans hx194_3
         replace hx194_4 := (HB.out.cell (World.block_lt_of_cell? w _ hx194_4)).trans hx194_4
         replace hx194_5 := (HB.out.cell (World.block_lt_of_cell? w _ hx194_5)).trans hx194_5
         replace hx194_6 := (HB.out.cell (World.block_lt_of_cell? w _ hx194_6)).trans hx194_6
         have HR194_1 := Aside0.mk hi194_1
         have HC194_1 := Aside0.mk hl194_1
         clear hi194_1 hl194_1
         replace p194 := eq_true p194
         replace q194 := eq_true q194
         go_wp2
         go_roundg k2
         case measure => have := HK1.out; have := HK2.out; omega
         case rel => exact ⟨(wrap64 (x4_2 + 1)), (by first | rfl | (simp; done) | (simp [*]; done)), H', ⟨by have := HK1.out; have := HK2.out; omega⟩, ⟨by (with_reducible repeat (first | refine blk_drewN ?_ _ | refine blk_drew ?_ | refine blk_alloc ?_ _)); exact BK192.out⟩, ⟨by repeat (first | (with_reducible first | exact HB.out | apply below_alloc | apply pw_below_drewN | apply below_drew1 | refine below_set ?_ GE192.out) | exact HB.out)⟩⟩
       ·
        rw [if_neg c10] at H
        exact absurd H (by simp)
      ·
       rw [if_neg c9] at H
       have c9b0 : decide (x4_2 < (l0_1.length : Int)) = false := decide_eq_false c9
       clear c9
       by_cases c14 : (l0_0.length : Int) ≤ 30
       ·
        rw [if_pos c14] at H
        have c14b0 : decide ((l0_0.length : Int) ≤ 30) = true := decide_eq_true c14
        have c14b1 : decide (l0_0.length ≤ 30) = true := decide_eq_true (by omega)
        clear c14
        obtain rfl := Option.some.inj H
        have hcz15_0 : wr.cell? ⟨gb192, 0, none⟩ = some (.slice A0_0 l0_0.length c0_0) := (blk_cell BK192.out 0).trans rfl
        have hcz15_1 : wr.cell? ⟨gb192, 1, none⟩ = some (.slice A0_1 l0_1.length c0_1) := (blk_cell BK192.out 1).trans rfl
        have hfz15_0 := blk_frozen BK192.out 0
        have hfz15_1 := blk_frozen BK192.out 1
        go_wp2
        go_ret
        exact ⟨by first | rfl | (simp [errW_none, errW_some] <;> rfl) | (simp [*, errW_none, errW_some] <;> rfl), by repeat (first | (with_reducible first | exact HB.out | apply below_alloc | apply pw_below_drewN | apply below_drew1 | refine below_set ?_ GE192.out) | exact HB.out)⟩
       ·
        rw [if_neg c14] at H
        have c14b0 : decide ((l0_0.length : Int) ≤ 30) = false := decide_eq_false c14
        have c14b1 : decide (l0_0.length ≤ 30) = false := decide_eq_false (by omega)
        clear c14
        obtain rfl := Option.some.inj H
        have hcz16_0 : wr.cell? ⟨gb192, 0, none⟩ = some (.slice A0_0 l0_0.length c0_0) := (blk_cell BK192.out 0).trans rfl
        have hcz16_1 : wr.cell? ⟨gb192, 1, none⟩ = some (.slice A0_1 l0_1.length c0_1) := (blk_cell BK192.out 1).trans rfl
        have hfz16_0 := blk_frozen BK192.out 0
        have hfz16_1 := blk_frozen BK192.out 1
        go_wp2
        go_ret
        exact ⟨by first | rfl | (simp [errW_none, errW_some] <;> rfl) | (simp [*, errW_none, errW_some] <;> rfl), by repeat (first | (with_reducible first | exact HB.out | apply below_alloc | apply pw_below_drewN | apply below_drew1 | refine below_set ?_ GE192.out) | exact HB.out)⟩
end Go.Proofs.Ythgedejnpgcacaa.V
namespace Go.Proofs.Ythgedejnpgcacaa.V
open Go.RowKit Go.Proofs.YthgedejnpgcacaaW.PrintWords Go.Proofs.YthgedejnpgcacaaW.PrintLast Go.Proofs.YthgedejnpgcacaaW.PrintMore
attribute [local go_sem] max2_int min2_int max_two min_two max_three min_three max_four min_four tdiv_most
set_option linter.unusedVariables false
set_option linter.unusedSimpArgs false
def vetchref04_Letter.f (a0 : Int) (a1 : Bool) : Option (Bool) := if a0 ≥ 48 then (if a0 ≤ 57 then (some (!a1)) else (if a0 = 95 then (some true) else (if a0 ≥ 97 then (if a0 ≤ 122 then (some true) else (if a0 ≥ 65 then (some (decide (a0 ≤ 90))) else (some false))) else (if a0 ≥ 65 then (some (decide (a0 ≤ 90))) else (some false))))) else (if a0 = 95 then (some true) else (if a0 ≥ 97 then (if a0 ≤ 122 then (some true) else (if a0 ≥ 65 then (some (decide (a0 ≤ 90))) else (some false))) else (if a0 ≥ 65 then (some (decide (a0 ≤ 90))) else (some false))))
set_option maxHeartbeats 8000000 in
set_option maxRecDepth 100000 in
theorem vetchref04_Letter.calls (a0 : Int) (a1 : Bool) (r : Bool) (w : World) (h : vetchref04_Letter.f a0 a1 = some r) :
 Calls Try.prog 41 #[.int .u8 a0, .bool a1] w fun e w' => e = .returned (.bool r) ∧ Drawn0 w w' := by
 have H : (if a0 ≥ 48 then (if a0 ≤ 57 then (some (!a1)) else (if a0 = 95 then (some true) else (if a0 ≥ 97 then (if a0 ≤ 122 then (some true) else (if a0 ≥ 65 then (some (decide (a0 ≤ 90))) else (some false))) else (if a0 ≥ 65 then (some (decide (a0 ≤ 90))) else (some false))))) else (if a0 = 95 then (some true) else (if a0 ≥ 97 then (if a0 ≤ 122 then (some true) else (if a0 ≥ 65 then (some (decide (a0 ≤ 90))) else (some false))) else (if a0 ≥ 65 then (some (decide (a0 ≤ 90))) else (some false))))) = some r := h
 clear h
 by_cases c3 : a0 ≥ 48
 ·
  rw [if_pos c3] at H
  have c3b0 : decide (48 ≤ a0) = true := decide_eq_true c3
  clear c3
  by_cases c4 : a0 ≤ 57
  ·
   rw [if_pos c4] at H
   have c4b0 : decide (a0 ≤ 57) = true := decide_eq_true c4
   clear c4
   obtain rfl := Option.some.inj H
   go_enter Try.func41, Try.ntmps41
   go_wp2
   go_ret
   exact ⟨by first | rfl | (simp; done) | (simp [*]; done) | (refine congrArg (fun b_ => Ending.returned (Value.bool b_)) ?_; rw [Bool.eq_iff_iff]; simp; done), by repeat (first | exact Drawn0.refl _ | apply Drawn0.step)⟩
  ·
   rw [if_neg c4] at H
   have c4b0 : decide (a0 ≤ 57) = false := decide_eq_false c4
   clear c4
   by_cases c5 : a0 = 95
   ·
    rw [if_pos c5] at H
    have c5b0 : (a0 == 95) = true := beq_iff_eq.mpr c5
    have c5b1 : (a0 != 95) = false := bne_eq_false_iff_eq.mpr c5
    clear c5
    obtain rfl := Option.some.inj H
    go_enter Try.func41, Try.ntmps41
    go_wp2
    go_ret
    exact ⟨by first | rfl | (simp; done) | (simp [*]; done) | (refine congrArg (fun b_ => Ending.returned (Value.bool b_)) ?_; rw [Bool.eq_iff_iff]; simp; done), by repeat (first | exact Drawn0.refl _ | apply Drawn0.step)⟩
   ·
    rw [if_neg c5] at H
    have c5b0 : (a0 == 95) = false := beq_eq_false_iff_ne.mpr c5
    have c5b1 : (a0 != 95) = true := bne_iff_ne.mpr c5
    by_cases c6 : a0 ≥ 97
    ·
     rw [if_pos c6] at H
     have c6b0 : decide (97 ≤ a0) = true := decide_eq_true c6
     clear c6
     by_cases c7 : a0 ≤ 122
     ·
      rw [if_pos c7] at H
      have c7b0 : decide (a0 ≤ 122) = true := decide_eq_true c7
      clear c7
      obtain rfl := Option.some.inj H
      go_enter Try.func41, Try.ntmps41
      go_wp2
      go_ret
      exact ⟨by first | rfl | (simp; done) | (simp [*]; done) | (refine congrArg (fun b_ => Ending.returned (Value.bool b_)) ?_; rw [Bool.eq_iff_iff]; simp; done), by repeat (first | exact Drawn0.refl _ | apply Drawn0.step)⟩
     ·
      rw [if_neg c7] at H
      have c7b0 : decide (a0 ≤ 122) = false := decide_eq_false c7
      clear c7
      by_cases c8 : a0 ≥ 65
      ·
       rw [if_pos c8] at H
       have c8b0 : decide (65 ≤ a0) = true := decide_eq_true c8
       clear c8
       obtain rfl := Option.some.inj H
       go_enter Try.func41, Try.ntmps41
       go_wp2
       go_ret
       exact ⟨by first | rfl | (simp; done) | (simp [*]; done) | (refine congrArg (fun b_ => Ending.returned (Value.bool b_)) ?_; rw [Bool.eq_iff_iff]; simp; done), by repeat (first | exact Drawn0.refl _ | apply Drawn0.step)⟩
      ·
       rw [if_neg c8] at H
       have c8b0 : decide (65 ≤ a0) = false := decide_eq_false c8
       clear c8
       obtain rfl := Option.some.inj H
       go_enter Try.func41, Try.ntmps41
       go_wp2
       go_ret
       exact ⟨by first | rfl | (simp; done) | (simp [*]; done) | (refine congrArg (fun b_ => Ending.returned (Value.bool b_)) ?_; rw [Bool.eq_iff_iff]; simp; done), by repeat (first | exact Drawn0.refl _ | apply Drawn0.step)⟩
    ·
     rw [if_neg c6] at H
     have c6b0 : decide (97 ≤ a0) = false := decide_eq_false c6
     clear c6
     by_cases c9 : a0 ≥ 65
     ·
      rw [if_pos c9] at H
      have c9b0 : decide (65 ≤ a0) = true := decide_eq_true c9
      clear c9
      obtain rfl := Option.some.inj H
      go_enter Try.func41, Try.ntmps41
      go_wp2
      go_ret
      exact ⟨by first | rfl | (simp; done) | (simp [*]; done) | (refine congrArg (fun b_ => Ending.returned (Value.bool b_)) ?_; rw [Bool.eq_iff_iff]; simp; done), by repeat (first | exact Drawn0.refl _ | apply Drawn0.step)⟩
     ·
      rw [if_neg c9] at H
      have c9b0 : decide (65 ≤ a0) = false := decide_eq_false c9
      clear c9
      obtain rfl := Option.some.inj H
      go_enter Try.func41, Try.ntmps41
      go_wp2
      go_ret
      exact ⟨by first | rfl | (simp; done) | (simp [*]; done) | (refine congrArg (fun b_ => Ending.returned (Value.bool b_)) ?_; rw [Bool.eq_iff_iff]; simp; done), by repeat (first | exact Drawn0.refl _ | apply Drawn0.step)⟩
 ·
  rw [if_neg c3] at H
  have c3b0 : decide (48 ≤ a0) = false := decide_eq_false c3
  clear c3
  by_cases c10 : a0 = 95
  ·
   rw [if_pos c10] at H
   have c10b0 : (a0 == 95) = true := beq_iff_eq.mpr c10
   have c10b1 : (a0 != 95) = false := bne_eq_false_iff_eq.mpr c10
   clear c10
   obtain rfl := Option.some.inj H
   go_enter Try.func41, Try.ntmps41
   go_wp2
   go_ret
   exact ⟨by first | rfl | (simp; done) | (simp [*]; done) | (refine congrArg (fun b_ => Ending.returned (Value.bool b_)) ?_; rw [Bool.eq_iff_iff]; simp; done), by repeat (first | exact Drawn0.refl _ | apply Drawn0.step)⟩
  ·
   rw [if_neg c10] at H
   have c10b0 : (a0 == 95) = false := beq_eq_false_iff_ne.mpr c10
   have c10b1 : (a0 != 95) = true := bne_iff_ne.mpr c10
   by_cases c11 : a0 ≥ 97
   ·
    rw [if_pos c11] at H
    have c11b0 : decide (97 ≤ a0) = true := decide_eq_true c11
    clear c11
    by_cases c12 : a0 ≤ 122
    ·
     rw [if_pos c12] at H
     have c12b0 : decide (a0 ≤ 122) = true := decide_eq_true c12
     clear c12
     obtain rfl := Option.some.inj H
     go_enter Try.func41, Try.ntmps41
     go_wp2
     go_ret
     exact ⟨by first | rfl | (simp; done) | (simp [*]; done) | (refine congrArg (fun b_ => Ending.returned (Value.bool b_)) ?_; rw [Bool.eq_iff_iff]; simp; done), by repeat (first | exact Drawn0.refl _ | apply Drawn0.step)⟩
    ·
     rw [if_neg c12] at H
     have c12b0 : decide (a0 ≤ 122) = false := decide_eq_false c12
     clear c12
     by_cases c13 : a0 ≥ 65
     ·
      rw [if_pos c13] at H
      have c13b0 : decide (65 ≤ a0) = true := decide_eq_true c13
      clear c13
      obtain rfl := Option.some.inj H
      go_enter Try.func41, Try.ntmps41
      go_wp2
      go_ret
      exact ⟨by first | rfl | (simp; done) | (simp [*]; done) | (refine congrArg (fun b_ => Ending.returned (Value.bool b_)) ?_; rw [Bool.eq_iff_iff]; simp; done), by repeat (first | exact Drawn0.refl _ | apply Drawn0.step)⟩
     ·
      rw [if_neg c13] at H
      have c13b0 : decide (65 ≤ a0) = false := decide_eq_false c13
      clear c13
      obtain rfl := Option.some.inj H
      go_enter Try.func41, Try.ntmps41
      go_wp2
      go_ret
      exact ⟨by first | rfl | (simp; done) | (simp [*]; done) | (refine congrArg (fun b_ => Ending.returned (Value.bool b_)) ?_; rw [Bool.eq_iff_iff]; simp; done), by repeat (first | exact Drawn0.refl _ | apply Drawn0.step)⟩
   ·
    rw [if_neg c11] at H
    have c11b0 : decide (97 ≤ a0) = false := decide_eq_false c11
    clear c11
    by_cases c14 : a0 ≥ 65
    ·
     rw [if_pos c14] at H
     have c14b0 : decide (65 ≤ a0) = true := decide_eq_true c14
     clear c14
     obtain rfl := Option.some.inj H
     go_enter Try.func41, Try.ntmps41
     go_wp2
     go_ret
     exact ⟨by first | rfl | (simp; done) | (simp [*]; done) | (refine congrArg (fun b_ => Ending.returned (Value.bool b_)) ?_; rw [Bool.eq_iff_iff]; simp; done), by repeat (first | exact Drawn0.refl _ | apply Drawn0.step)⟩
    ·
     rw [if_neg c14] at H
     have c14b0 : decide (65 ≤ a0) = false := decide_eq_false c14
     clear c14
     obtain rfl := Option.some.inj H
     go_enter Try.func41, Try.ntmps41
     go_wp2
     go_ret
     exact ⟨by first | rfl | (simp; done) | (simp [*]; done) | (refine congrArg (fun b_ => Ending.returned (Value.bool b_)) ?_; rw [Bool.eq_iff_iff]; simp; done), by repeat (first | exact Drawn0.refl _ | apply Drawn0.step)⟩
def vetchref04_Name.l0 : Nat → ByteArray → Int → Option (Bool)
 | 0, _, _ => none
 | k + 1, x0, x3 => if x3 < (x0.size : Int) then (if 0 ≤ x3 then ((vetchref04_Letter.f (bt x0 x3) (x3 == 0)).bind fun t195 => (if t195 = true then (vetchref04_Name.l0 k x0 (wrap64 (x3 + 1))) else (some false))) else (none)) else (some (x0.toList != ([] : List UInt8)))
def vetchref04_Name.f (k : Nat) (a0 : ByteArray) : Option (Bool) := vetchref04_Name.l0 k a0 0
set_option maxHeartbeats 8000000 in
set_option maxRecDepth 100000 in
theorem vetchref04_Name.calls (k : Nat) (a0 : ByteArray) (r : Bool) (w : World) (h : vetchref04_Name.f k a0 = some r) :
 Calls Try.prog 36 #[.string a0] w fun e w' => e = .returned (.bool r) ∧ Drawn0 w w' := by
 have H : (vetchref04_Name.l0 k a0 0) = some r := h
 clear h
 have H' := Aside0.mk H
 clear H
 go_enter Try.func36, Try.ntmps36
 go_wp2
 go_loopg [3] k (fun kq v3 w' => ∃ (x3_1 : Int), v3 = .int .i64 x3_1 ∧ Aside0 (vetchref04_Name.l0 kq a0 x3_1 = some r) ∧ Aside0 (kq ≤ k) ∧ Drawn0 w w')
 case atStart => exact ⟨(0), (by first | rfl | (simp; done) | (simp [*]; done)), H', ⟨Nat.le_refl _⟩, by repeat (first | exact Drawn0.refl _ | apply Drawn0.step)⟩
 case round =>
  clear H'
  obtain ⟨x3_1, rfl, HA, HK1, ⟨m1, rfl⟩⟩ := hrel
  cases gk with
  | zero => exact absurd HA.out (by simp [vetchref04_Name.l0])
  | succ k1 =>
   have H := HA.out
   clear HA
   simp only [vetchref04_Name.l0] at H
   by_cases c2 : x3_1 < (a0.size : Int)
   ·
    rw [if_pos c2] at H
    have c2b0 : decide (x3_1 < (a0.size : Int)) = true := decide_eq_true c2
    clear c2
    by_cases c3 : 0 ≤ x3_1
    ·
     rw [if_pos c3] at H
     have c3b0 : decide (0 ≤ x3_1) = true := decide_eq_true c3
     clear c3
     replace H := Option.bind_eq_some_iff.mp H
     obtain ⟨t195, A50, H⟩ := H
     replace H : (if t195 = true then (vetchref04_Name.l0 k1 a0 (wrap64 (x3_1 + 1))) else (some false)) = some r := H
     have A5 := Aside0.mk A50
     clear A50
     by_cases c6 : t195 = true
     ·
      subst c6
      have H1 : (vetchref04_Name.l0 k1 a0 (wrap64 (x3_1 + 1))) = some r := by rw [if_pos rfl] at H; exact H
      clear H
      have H := H1
      clear H1
      have H' := Aside0.mk H
      clear H
      have p4 : 0 ≤ (x3_1 : Int) := of_decide_eq_true (by first | (with_reducible assumption) | assumption)
      have q4 : x3_1 < (a0.size : Int) := of_decide_eq_true (by first | (with_reducible assumption) | assumption)
      have hx4 := bt_at a0 x3_1
      replace p4 := eq_true p4
      replace q4 := eq_true q4
      go_wp2_with (first | ((with_reducible refine gate_callee (f := 41) rfl ?_); refine goesL_ (some 15) rfl rfl Try.func41 (by kernel_rfl) rfl #[.int .u8 (bt a0 x3_1), .bool (x3_1 == 0)] rfl (by (try simp only [List.map_toArray, List.map_cons, List.map_nil]); first | done | rfl | (simp only [List.length_drop, List.length_take]; rfl)) ?_; (with_reducible refine (vetchref04_Letter.calls (bt a0 x3_1) (x3_1 == 0) true _ A5.out).mono ?_); rintro e w' ⟨rfl, ⟨nd, rfl⟩⟩; refine ⟨_, rfl, ?_⟩))
      go_roundg k1
      case measure => have := HK1.out; omega
      case rel => exact ⟨(wrap64 (x3_1 + 1)), (by first | rfl | (simp; done) | (simp [*]; done)), H', ⟨by have := HK1.out; omega⟩, by repeat (first | exact Drawn0.refl _ | apply Drawn0.step)⟩
     ·
      replace c6 := Bool.eq_false_iff.mpr c6
      subst c6
      have H1 : (some false) = some r := by rw [if_neg (show ¬ (false = true) by decide)] at H; exact H
      clear H
      have H := H1
      clear H1
      obtain rfl := Option.some.inj H
      have p4 : 0 ≤ (x3_1 : Int) := of_decide_eq_true (by first | (with_reducible assumption) | assumption)
      have q4 : x3_1 < (a0.size : Int) := of_decide_eq_true (by first | (with_reducible assumption) | assumption)
      have hx4 := bt_at a0 x3_1
      replace p4 := eq_true p4
      replace q4 := eq_true q4
      go_wp2_with (first | ((with_reducible refine gate_callee (f := 41) rfl ?_); refine goesL_ (some 15) rfl rfl Try.func41 (by kernel_rfl) rfl #[.int .u8 (bt a0 x3_1), .bool (x3_1 == 0)] rfl (by (try simp only [List.map_toArray, List.map_cons, List.map_nil]); first | done | rfl | (simp only [List.length_drop, List.length_take]; rfl)) ?_; (with_reducible refine (vetchref04_Letter.calls (bt a0 x3_1) (x3_1 == 0) false _ A5.out).mono ?_); rintro e w' ⟨rfl, ⟨nd, rfl⟩⟩; refine ⟨_, rfl, ?_⟩))
      go_ret
      exact ⟨by first | rfl | (simp; done) | (simp [*]; done) | (refine congrArg (fun b_ => Ending.returned (Value.bool b_)) ?_; rw [Bool.eq_iff_iff]; simp; done), by repeat (first | exact Drawn0.refl _ | apply Drawn0.step)⟩
    ·
     rw [if_neg c3] at H
     exact absurd H (by simp)
   ·
    rw [if_neg c2] at H
    have c2b0 : decide (x3_1 < (a0.size : Int)) = false := decide_eq_false c2
    clear c2
    obtain rfl := Option.some.inj H
    go_wp2
    go_ret
    exact ⟨by first | rfl | (simp; done) | (simp [*]; done) | (refine congrArg (fun b_ => Ending.returned (Value.bool b_)) ?_; rw [Bool.eq_iff_iff]; simp; done), by repeat (first | exact Drawn0.refl _ | apply Drawn0.step)⟩
end Go.Proofs.Ythgedejnpgcacaa.V
namespace Go.Proofs.Ythgedejnpgcacaa.V
open Go.RowKit Go.Proofs.YthgedejnpgcacaaW.PrintWords Go.Proofs.YthgedejnpgcacaaW.PrintLast Go.Proofs.YthgedejnpgcacaaW.PrintMore
attribute [local go_sem] max2_int min2_int max_two min_two max_three min_three max_four min_four tdiv_most
set_option linter.unusedVariables false
set_option linter.unusedSimpArgs false
theorem eqA54 (d : Nat) (w : World) (x0 y0 : Int) (x1 y1 : Int) (x2 y2 : Int) (x3 y3 : Int) :
    (Op.equalIn (d + 2) 54 (.agg #[.int .u64 x0, .int .u64 x1, .int .u64 x2, .int .u64 x3]) (.agg #[.int .u64 y0, .int .u64 y1, .int .u64 y2, .int .u64 y3])).run Try.prog w = .ok (x0 == y0 && (x1 == y1 && (x2 == y2 && (x3 == y3)))) w :=
  eqA_four (k := .u64) Try.underlying54 Try.underlying52 (by kernel_rfl) (by kernel_rfl) d w x0 y0 x1 y1 x2 y2 x3 y3
end Go.Proofs.Ythgedejnpgcacaa.V
namespace Go.Proofs.Ythgedejnpgcacaa.V
open Go.RowKit Go.Proofs.YthgedejnpgcacaaW.PrintWords Go.Proofs.YthgedejnpgcacaaW.PrintLast Go.Proofs.YthgedejnpgcacaaW.PrintMore
attribute [local go_sem] max2_int min2_int max_two min_two max_three min_three max_four min_four tdiv_most
set_option linter.unusedVariables false
set_option linter.unusedSimpArgs false
attribute [local go_sem high] eqA54
mutual
def vetchref05_Made.j0 : Nat → Int → Bool → Int → List Int → Int → Int → Int → Int → Int → Option (Bool)
 | 0, _, _, _, _, _, _, _, _, _ => none
 | k + 1, x1, x13, x197000, x197001, x197002, x197003, x197004, x197005, x197006 => if x13 = true then (some false) else (if x197000 ≤ 2 then (if (x197001.length : Int) = 0 then (if x197000 = 3 then (if (x197001.length : Int) < 2 then (vetchref05_Made.j1 k x1 true x197000 x197001 x197002 x197003 x197004 x197005 x197006) else (if x197000 ≥ 5 then (vetchref05_Made.j1 k x1 ((x197001.length : Int) != 1) x197000 x197001 x197002 x197003 x197004 x197005 x197006) else (vetchref05_Made.j1 k x1 false x197000 x197001 x197002 x197003 x197004 x197005 x197006))) else (if x197000 = 4 then (if (x197001.length : Int) < 2 then (vetchref05_Made.j1 k x1 true x197000 x197001 x197002 x197003 x197004 x197005 x197006) else (if x197000 ≥ 5 then (vetchref05_Made.j1 k x1 ((x197001.length : Int) != 1) x197000 x197001 x197002 x197003 x197004 x197005 x197006) else (vetchref05_Made.j1 k x1 false x197000 x197001 x197002 x197003 x197004 x197005 x197006))) else (if x197000 ≥ 5 then (vetchref05_Made.j1 k x1 ((x197001.length : Int) != 1) x197000 x197001 x197002 x197003 x197004 x197005 x197006) else (vetchref05_Made.j1 k x1 false x197000 x197001 x197002 x197003 x197004 x197005 x197006)))) else (vetchref05_Made.j1 k x1 true x197000 x197001 x197002 x197003 x197004 x197005 x197006)) else (if x197000 = 3 then (if (x197001.length : Int) < 2 then (vetchref05_Made.j1 k x1 true x197000 x197001 x197002 x197003 x197004 x197005 x197006) else (if x197000 ≥ 5 then (vetchref05_Made.j1 k x1 ((x197001.length : Int) != 1) x197000 x197001 x197002 x197003 x197004 x197005 x197006) else (vetchref05_Made.j1 k x1 false x197000 x197001 x197002 x197003 x197004 x197005 x197006))) else (if x197000 = 4 then (if (x197001.length : Int) < 2 then (vetchref05_Made.j1 k x1 true x197000 x197001 x197002 x197003 x197004 x197005 x197006) else (if x197000 ≥ 5 then (vetchref05_Made.j1 k x1 ((x197001.length : Int) != 1) x197000 x197001 x197002 x197003 x197004 x197005 x197006) else (vetchref05_Made.j1 k x1 false x197000 x197001 x197002 x197003 x197004 x197005 x197006))) else (if x197000 ≥ 5 then (vetchref05_Made.j1 k x1 ((x197001.length : Int) != 1) x197000 x197001 x197002 x197003 x197004 x197005 x197006) else (vetchref05_Made.j1 k x1 false x197000 x197001 x197002 x197003 x197004 x197005 x197006)))))
def vetchref05_Made.j1 : Nat → Int → Bool → Int → List Int → Int → Int → Int → Int → Int → Option (Bool)
 | 0, _, _, _, _, _, _, _, _, _ => none
 | k + 1, x1, x46, x197000, x197001, x197002, x197003, x197004, x197005, x197006 => if x46 = true then (some false) else (if x197000 = 2 then (if x197002 < 0 then (some false) else (if x197002 ≥ x1 then (some false) else (if x197000 = 1 then (some true) else (some (x197003 == 0 && (x197004 == 0 && (x197005 == 0 && (x197006 == 0)))))))) else (if x197002 = 0 then (if x197000 = 1 then (some true) else (some (x197003 == 0 && (x197004 == 0 && (x197005 == 0 && (x197006 == 0)))))) else (some false)))
end
def vetchref05_Made.f (k : Nat) (a0_0 : Int) (l0_1 : List Int) (a0_2 : Int) (a0_3 : Int) (a0_4 : Int) (a0_5 : Int) (a0_6 : Int) (a1 : Int) : Option (Bool) := if a0_0 < 0 then (vetchref05_Made.j0 k a1 true a0_0 l0_1 a0_2 a0_3 a0_4 a0_5 a0_6) else (vetchref05_Made.j0 k a1 (decide (a0_0 > 9)) a0_0 l0_1 a0_2 a0_3 a0_4 a0_5 a0_6)
set_option maxHeartbeats 8000000 in
set_option maxRecDepth 100000 in
theorem vetchref05_Made.calls (k : Nat) (a0_0 : Int) (A0_1 : Option Addr) (c0_1 : Nat) (l0_1 : List Int) (a0_2 : Int) (a0_3 : Int) (a0_4 : Int) (a0_5 : Int) (a0_6 : Int) (a1 : Int) (r : Bool) (w : World) (hr0_1 : Kd.C (Kd.int .i64) w A0_1 l0_1.length l0_1) (hc0_1 : l0_1.length ≤ c0_1) (h : vetchref05_Made.f k a0_0 l0_1 a0_2 a0_3 a0_4 a0_5 a0_6 a1 = some r) :
 Calls Try.prog 37 #[.agg #[.int .i64 a0_0, .slice A0_1 l0_1.length c0_1, .int .i64 a0_2, .int .u64 a0_3, .int .u64 a0_4, .int .u64 a0_5, .int .u64 a0_6], .int .i64 a1] w fun e w' => e = .returned (.bool r) ∧ Below w.heap.size w w' := by
 have hu56 := Try.underlying56
 have hu54 := Try.underlying54
 have HR0_1 := Aside0.mk hr0_1
 have HC0_1 := Aside0.mk hc0_1
 clear hr0_1 hc0_1
 have HB := Aside0.mk (Below.refl w.heap.size w)
 have H : (if a0_0 < 0 then (vetchref05_Made.j0 k a1 true a0_0 l0_1 a0_2 a0_3 a0_4 a0_5 a0_6) else (vetchref05_Made.j0 k a1 (decide (a0_0 > 9)) a0_0 l0_1 a0_2 a0_3 a0_4 a0_5 a0_6)) = some r := h
 clear h
 have HC3 := Aside0.mk H
 clear H
 go_enter Try.func37, Try.ntmps37
 go_upto_region 1 with (first | ((with_reducible refine gate_dst (N := 2) rfl ?_); refine box_event ?hg (N := 2) ?hd (cs := #[.int .i64 a0_0, .slice A0_1 l0_1.length c0_1, .int .i64 a0_2, .int .u64 a0_3, .int .u64 a0_4, .int .u64 a0_5, .int .u64 a0_6]) (t := 56) ?hr ?_; (case hd => rfl); (case hg => rfl); (case hr => first | (go_simp; done) | (go_simp; rfl)); intro gb196 hg w4 hbox hb; have n0_ := Aside0.mk (below_step (by repeat (first | (with_reducible first | exact HB.out | apply below_alloc | apply pw_below_drewN | apply below_drew1) | exact HB.out)) hb); have n1_ := Aside0.mk (hbox); have n2_ := Aside0.mk ((by rw [hg]; exact (below_size (by repeat (first | (with_reducible first | exact HB.out | apply below_alloc | apply pw_below_drewN | apply below_drew1) | exact HB.out))) : w.heap.size ≤ gb196)); have n3_ := Aside0.mk ((by rw [hg]; exact (below_size (by repeat (first | (with_reducible first | exact HB.out | apply below_alloc | apply pw_below_drewN | apply below_drew1) | exact HB.out))) : w.heap.size ≤ gb196)); clear HB; have HB := n0_; have BK196 := n1_; have GW196 := n2_; have GE196 := n3_; clear n0_ n1_ n2_ n3_; clear hb hbox hg))
 (try simp only [Act.put, List.setIfInBounds_toArray, List.set_cons_zero, List.set_cons_succ])
 go_cut [13] (fun v13 wc => ∃ (kq : Nat) (x13_2 : Bool), v13 = .bool x13_2 ∧ Aside0 (vetchref05_Made.j0 kq a1 x13_2 a0_0 l0_1 a0_2 a0_3 a0_4 a0_5 a0_6 = some r) ∧ Aside0 (kq ≤ k) ∧ Aside0 (wc.heap[gb196]? = some (.cells #[.int .i64 a0_0, (.slice A0_1 l0_1.length c0_1), .int .i64 a0_2, .int .u64 a0_3, .int .u64 a0_4, .int .u64 a0_5, .int .u64 a0_6] 56 (0, 0))) ∧ Aside0 (Below w.heap.size w wc))
 case first =>
  have H := HC3.out
  clear HC3
  by_cases c5 : a0_0 < 0
  ·
   rw [if_pos c5] at H
   have c5b0 : decide (a0_0 < 0) = true := decide_eq_true c5
   clear c5
   (first | rw [c5b0] | (simp only [i64_w, i32_w]; rw [c5b0]) | skip)
   have H' := Aside0.mk H
   clear H
   have hcz6_0 : w4.cell? ⟨gb196, 0, none⟩ = some (.int .i64 a0_0) := (blk_cell BK196.out 0).trans rfl
   have hcz6_1 : w4.cell? ⟨gb196, 1, none⟩ = some (.slice A0_1 l0_1.length c0_1) := (blk_cell BK196.out 1).trans rfl
   have hcz6_2 : w4.cell? ⟨gb196, 2, none⟩ = some (.int .i64 a0_2) := (blk_cell BK196.out 2).trans rfl
   have hcz6_3 : w4.cell? ⟨gb196, 3, none⟩ = some (.int .u64 a0_3) := (blk_cell BK196.out 3).trans rfl
   have hcz6_4 : w4.cell? ⟨gb196, 4, none⟩ = some (.int .u64 a0_4) := (blk_cell BK196.out 4).trans rfl
   have hcz6_5 : w4.cell? ⟨gb196, 5, none⟩ = some (.int .u64 a0_5) := (blk_cell BK196.out 5).trans rfl
   have hcz6_6 : w4.cell? ⟨gb196, 6, none⟩ = some (.int .u64 a0_6) := (blk_cell BK196.out 6).trans rfl
   have hfz6_0 := blk_frozen BK196.out 0
   have hfz6_1 := blk_frozen BK196.out 1
   have hfz6_2 := blk_frozen BK196.out 2
   have hfz6_3 := blk_frozen BK196.out 3
   have hfz6_4 := blk_frozen BK196.out 4
   have hfz6_5 := blk_frozen BK196.out 5
   have hfz6_6 := blk_frozen BK196.out 6
   go_wp2
   go_meet
   case rel => exact ⟨_, (true), (by first | rfl | (simp; done) | (simp [*]; done)), H', ⟨by first | omega | exact Nat.le_refl _⟩, ⟨by (with_reducible repeat (first | refine blk_drewN ?_ _ | refine blk_drew ?_ | refine blk_alloc ?_ _)); exact BK196.out⟩, ⟨by repeat (first | (with_reducible first | exact HB.out | apply below_alloc | apply pw_below_drewN | apply below_drew1 | refine below_set ?_ GE196.out) | exact HB.out)⟩⟩
  ·
   rw [if_neg c5] at H
   have c5b0 : decide (a0_0 < 0) = false := decide_eq_false c5
   clear c5
   (first | rw [c5b0] | (simp only [i64_w, i32_w]; rw [c5b0]) | skip)
   have H' := Aside0.mk H
   clear H
   have hcz7_0 : w4.cell? ⟨gb196, 0, none⟩ = some (.int .i64 a0_0) := (blk_cell BK196.out 0).trans rfl
   have hcz7_1 : w4.cell? ⟨gb196, 1, none⟩ = some (.slice A0_1 l0_1.length c0_1) := (blk_cell BK196.out 1).trans rfl
   have hcz7_2 : w4.cell? ⟨gb196, 2, none⟩ = some (.int .i64 a0_2) := (blk_cell BK196.out 2).trans rfl
   have hcz7_3 : w4.cell? ⟨gb196, 3, none⟩ = some (.int .u64 a0_3) := (blk_cell BK196.out 3).trans rfl
   have hcz7_4 : w4.cell? ⟨gb196, 4, none⟩ = some (.int .u64 a0_4) := (blk_cell BK196.out 4).trans rfl
   have hcz7_5 : w4.cell? ⟨gb196, 5, none⟩ = some (.int .u64 a0_5) := (blk_cell BK196.out 5).trans rfl
   have hcz7_6 : w4.cell? ⟨gb196, 6, none⟩ = some (.int .u64 a0_6) := (blk_cell BK196.out 6).trans rfl
   have hfz7_0 := blk_frozen BK196.out 0
   have hfz7_1 := blk_frozen BK196.out 1
   have hfz7_2 := blk_frozen BK196.out 2
   have hfz7_3 := blk_frozen BK196.out 3
   have hfz7_4 := blk_frozen BK196.out 4
   have hfz7_5 := blk_frozen BK196.out 5
   have hfz7_6 := blk_frozen BK196.out 6
   go_wp2
   go_meet
   case rel => exact ⟨_, (decide (a0_0 > 9)), (by first | rfl | (simp; done) | (simp [*]; done)), H', ⟨by first | omega | exact Nat.le_refl _⟩, ⟨by (with_reducible repeat (first | refine blk_drewN ?_ _ | refine blk_drew ?_ | refine blk_alloc ?_ _)); exact BK196.out⟩, ⟨by repeat (first | (with_reducible first | exact HB.out | apply below_alloc | apply pw_below_drewN | apply below_drew1 | refine below_set ?_ GE196.out) | exact HB.out)⟩⟩
 case rest =>
  clear HC3
  try clear p2
  try clear c3
  try clear c5
  try clear c5b0
  try clear hcz6_0
  try clear hcz6_1
  try clear hcz6_2
  try clear hcz6_3
  try clear hcz6_4
  try clear hcz6_5
  try clear hcz6_6
  try clear hcz7_0
  try clear hcz7_1
  try clear hcz7_2
  try clear hcz7_3
  try clear hcz7_4
  try clear hcz7_5
  try clear hcz7_6
  try clear hfz6_0
  try clear hfz6_1
  try clear hfz6_2
  try clear hfz6_3
  try clear hfz6_4
  try clear hfz6_5
  try clear hfz6_6
  try clear hfz7_0
  try clear hfz7_1
  try clear hfz7_2
  try clear hfz7_3
  try clear hfz7_4
  try clear hfz7_5
  try clear hfz7_6
  obtain ⟨kq, x13_2, rfl, HA, HJ2, BK196, HB⟩ := hcut
  cases kq with
  | zero => exact absurd HA.out (by simp [vetchref05_Made.j0])
  | succ kj2 =>
   have H := HA.out
   clear HA
   simp only [vetchref05_Made.j0] at H
   by_cases c8 : x13_2 = true
   ·
    subst c8
    have H1 : (some false) = some r := by rw [if_pos rfl] at H; exact H
    clear H
    have H := H1
    clear H1
    obtain rfl := Option.some.inj H
    go_wp2
    go_ret
    exact ⟨by first | rfl | (simp [errW_none, errW_some] <;> rfl) | (simp [*, errW_none, errW_some] <;> rfl), by repeat (first | (with_reducible first | exact HB.out | apply below_alloc | apply pw_below_drewN | apply below_drew1 | refine below_set ?_ GE196.out) | exact HB.out)⟩
   ·
    replace c8 := Bool.eq_false_iff.mpr c8
    subst c8
    have H1 : (if a0_0 ≤ 2 then (if (l0_1.length : Int) = 0 then (if a0_0 = 3 then (if (l0_1.length : Int) < 2 then (vetchref05_Made.j1 kj2 a1 true a0_0 l0_1 a0_2 a0_3 a0_4 a0_5 a0_6) else (if a0_0 ≥ 5 then (vetchref05_Made.j1 kj2 a1 ((l0_1.length : Int) != 1) a0_0 l0_1 a0_2 a0_3 a0_4 a0_5 a0_6) else (vetchref05_Made.j1 kj2 a1 false a0_0 l0_1 a0_2 a0_3 a0_4 a0_5 a0_6))) else (if a0_0 = 4 then (if (l0_1.length : Int) < 2 then (vetchref05_Made.j1 kj2 a1 true a0_0 l0_1 a0_2 a0_3 a0_4 a0_5 a0_6) else (if a0_0 ≥ 5 then (vetchref05_Made.j1 kj2 a1 ((l0_1.length : Int) != 1) a0_0 l0_1 a0_2 a0_3 a0_4 a0_5 a0_6) else (vetchref05_Made.j1 kj2 a1 false a0_0 l0_1 a0_2 a0_3 a0_4 a0_5 a0_6))) else (if a0_0 ≥ 5 then (vetchref05_Made.j1 kj2 a1 ((l0_1.length : Int) != 1) a0_0 l0_1 a0_2 a0_3 a0_4 a0_5 a0_6) else (vetchref05_Made.j1 kj2 a1 false a0_0 l0_1 a0_2 a0_3 a0_4 a0_5 a0_6)))) else (vetchref05_Made.j1 kj2 a1 true a0_0 l0_1 a0_2 a0_3 a0_4 a0_5 a0_6)) else (if a0_0 = 3 then (if (l0_1.length : Int) < 2 then (vetchref05_Made.j1 kj2 a1 true a0_0 l0_1 a0_2 a0_3 a0_4 a0_5 a0_6) else (if a0_0 ≥ 5 then (vetchref05_Made.j1 kj2 a1 ((l0_1.length : Int) != 1) a0_0 l0_1 a0_2 a0_3 a0_4 a0_5 a0_6) else (vetchref05_Made.j1 kj2 a1 false a0_0 l0_1 a0_2 a0_3 a0_4 a0_5 a0_6))) else (if a0_0 = 4 then (if (l0_1.length : Int) < 2 then (vetchref05_Made.j1 kj2 a1 true a0_0 l0_1 a0_2 a0_3 a0_4 a0_5 a0_6) else (if a0_0 ≥ 5 then (vetchref05_Made.j1 kj2 a1 ((l0_1.length : Int) != 1) a0_0 l0_1 a0_2 a0_3 a0_4 a0_5 a0_6) else (vetchref05_Made.j1 kj2 a1 false a0_0 l0_1 a0_2 a0_3 a0_4 a0_5 a0_6))) else (if a0_0 ≥ 5 then (vetchref05_Made.j1 kj2 a1 ((l0_1.length : Int) != 1) a0_0 l0_1 a0_2 a0_3 a0_4 a0_5 a0_6) else (vetchref05_Made.j1 kj2 a1 false a0_0 l0_1 a0_2 a0_3 a0_4 a0_5 a0_6))))) = some r := by rw [if_neg (show ¬ (false = true) by decide)] at H; exact H
    clear H
    have H := H1
    clear H1
    have HC9 := Aside0.mk H
    clear H
    have hcz10_0 : wc.cell? ⟨gb196, 0, none⟩ = some (.int .i64 a0_0) := (blk_cell BK196.out 0).trans rfl
    have hcz10_1 : wc.cell? ⟨gb196, 1, none⟩ = some (.slice A0_1 l0_1.length c0_1) := (blk_cell BK196.out 1).trans rfl
    have hcz10_2 : wc.cell? ⟨gb196, 2, none⟩ = some (.int .i64 a0_2) := (blk_cell BK196.out 2).trans rfl
    have hcz10_3 : wc.cell? ⟨gb196, 3, none⟩ = some (.int .u64 a0_3) := (blk_cell BK196.out 3).trans rfl
    have hcz10_4 : wc.cell? ⟨gb196, 4, none⟩ = some (.int .u64 a0_4) := (blk_cell BK196.out 4).trans rfl
    have hcz10_5 : wc.cell? ⟨gb196, 5, none⟩ = some (.int .u64 a0_5) := (blk_cell BK196.out 5).trans rfl
    have hcz10_6 : wc.cell? ⟨gb196, 6, none⟩ = some (.int .u64 a0_6) := (blk_cell BK196.out 6).trans rfl
    have hfz10_0 := blk_frozen BK196.out 0
    have hfz10_1 := blk_frozen BK196.out 1
    have hfz10_2 := blk_frozen BK196.out 2
    have hfz10_3 := blk_frozen BK196.out 3
    have hfz10_4 := blk_frozen BK196.out 4
    have hfz10_5 := blk_frozen BK196.out 5
    have hfz10_6 := blk_frozen BK196.out 6
    go_upto_region 4 with (fail)
    go_cut [46] (fun v46 wc => ∃ (kq : Nat) (x46_8 : Bool), v46 = .bool x46_8 ∧ Aside0 (vetchref05_Made.j1 kq a1 x46_8 a0_0 l0_1 a0_2 a0_3 a0_4 a0_5 a0_6 = some r) ∧ Aside0 (kq ≤ kj2) ∧ Aside0 (wc.heap[gb196]? = some (.cells #[.int .i64 a0_0, (.slice A0_1 l0_1.length c0_1), .int .i64 a0_2, .int .u64 a0_3, .int .u64 a0_4, .int .u64 a0_5, .int .u64 a0_6] 56 (0, 0))) ∧ Aside0 (Below w.heap.size w wc))
    case first =>
     have H := HC9.out
     clear HC9
     by_cases c11 : a0_0 ≤ 2
     ·
      rw [if_pos c11] at H
      have c11b0 : decide (a0_0 ≤ 2) = true := decide_eq_true c11
      clear c11
      (first | rw [c11b0] | (simp only [i64_w, i32_w]; rw [c11b0]) | skip)
      by_cases c12 : (l0_1.length : Int) = 0
      ·
       rw [if_pos c12] at H
       have c12b0 : ((l0_1.length : Int) == 0) = true := beq_iff_eq.mpr c12
       have c12b1 : ((l0_1.length : Int) != 0) = false := bne_eq_false_iff_eq.mpr c12
       clear c12
       by_cases c13 : a0_0 = 3
       ·
        rw [if_pos c13] at H
        have c13b0 : (a0_0 == 3) = true := beq_iff_eq.mpr c13
        have c13b1 : (a0_0 != 3) = false := bne_eq_false_iff_eq.mpr c13
        clear c13
        by_cases c14 : (l0_1.length : Int) < 2
        ·
         rw [if_pos c14] at H
         have c14b0 : decide ((l0_1.length : Int) < 2) = true := decide_eq_true c14
         have c14b1 : decide (l0_1.length < 2) = true := decide_eq_true (by omega)
         clear c14
         have H' := Aside0.mk H
         clear H
         have hcz15_0 : wc.cell? ⟨gb196, 0, none⟩ = some (.int .i64 a0_0) := (blk_cell BK196.out 0).trans rfl
         have hcz15_1 : wc.cell? ⟨gb196, 1, none⟩ = some (.slice A0_1 l0_1.length c0_1) := (blk_cell BK196.out 1).trans rfl
         have hcz15_2 : wc.cell? ⟨gb196, 2, none⟩ = some (.int .i64 a0_2) := (blk_cell BK196.out 2).trans rfl
         have hcz15_3 : wc.cell? ⟨gb196, 3, none⟩ = some (.int .u64 a0_3) := (blk_cell BK196.out 3).trans rfl
         have hcz15_4 : wc.cell? ⟨gb196, 4, none⟩ = some (.int .u64 a0_4) := (blk_cell BK196.out 4).trans rfl
         have hcz15_5 : wc.cell? ⟨gb196, 5, none⟩ = some (.int .u64 a0_5) := (blk_cell BK196.out 5).trans rfl
         have hcz15_6 : wc.cell? ⟨gb196, 6, none⟩ = some (.int .u64 a0_6) := (blk_cell BK196.out 6).trans rfl
         have hfz15_0 := blk_frozen BK196.out 0
         have hfz15_1 := blk_frozen BK196.out 1
         have hfz15_2 := blk_frozen BK196.out 2
         have hfz15_3 := blk_frozen BK196.out 3
         have hfz15_4 := blk_frozen BK196.out 4
         have hfz15_5 := blk_frozen BK196.out 5
         have hfz15_6 := blk_frozen BK196.out 6
         go_wp2
         go_meet
         case rel => exact ⟨_, (true), (by first | rfl | (simp; done) | (simp [*]; done)), H', ⟨by have := HJ2.out; first | omega | exact Nat.le_refl _⟩, ⟨by (with_reducible repeat (first | refine blk_drewN ?_ _ | refine blk_drew ?_ | refine blk_alloc ?_ _)); exact BK196.out⟩, ⟨by repeat (first | (with_reducible first | exact HB.out | apply below_alloc | apply pw_below_drewN | apply below_drew1 | refine below_set ?_ GE196.out) | exact HB.out)⟩⟩
        ·
         rw [if_neg c14] at H
         have c14b0 : decide ((l0_1.length : Int) < 2) = false := decide_eq_false c14
         have c14b1 : decide (l0_1.length < 2) = false := decide_eq_false (by omega)
         clear c14
         by_cases c16 : a0_0 ≥ 5
         ·
          rw [if_pos c16] at H
          have c16b0 : decide (5 ≤ a0_0) = true := decide_eq_true c16
          clear c16
          have H' := Aside0.mk H
          clear H
          have hcz17_0 : wc.cell? ⟨gb196, 0, none⟩ = some (.int .i64 a0_0) := (blk_cell BK196.out 0).trans rfl
          have hcz17_1 : wc.cell? ⟨gb196, 1, none⟩ = some (.slice A0_1 l0_1.length c0_1) := (blk_cell BK196.out 1).trans rfl
          have hcz17_2 : wc.cell? ⟨gb196, 2, none⟩ = some (.int .i64 a0_2) := (blk_cell BK196.out 2).trans rfl
          have hcz17_3 : wc.cell? ⟨gb196, 3, none⟩ = some (.int .u64 a0_3) := (blk_cell BK196.out 3).trans rfl
          have hcz17_4 : wc.cell? ⟨gb196, 4, none⟩ = some (.int .u64 a0_4) := (blk_cell BK196.out 4).trans rfl
          have hcz17_5 : wc.cell? ⟨gb196, 5, none⟩ = some (.int .u64 a0_5) := (blk_cell BK196.out 5).trans rfl
          have hcz17_6 : wc.cell? ⟨gb196, 6, none⟩ = some (.int .u64 a0_6) := (blk_cell BK196.out 6).trans rfl
          have hfz17_0 := blk_frozen BK196.out 0
          have hfz17_1 := blk_frozen BK196.out 1
          have hfz17_2 := blk_frozen BK196.out 2
          have hfz17_3 := blk_frozen BK196.out 3
          have hfz17_4 := blk_frozen BK196.out 4
          have hfz17_5 := blk_frozen BK196.out 5
          have hfz17_6 := blk_frozen BK196.out 6
          go_wp2
          go_meet
          case rel => exact ⟨_, (((l0_1.length : Int) != 1)), (by first | rfl | (simp; done) | (simp [*]; done)), H', ⟨by have := HJ2.out; first | omega | exact Nat.le_refl _⟩, ⟨by (with_reducible repeat (first | refine blk_drewN ?_ _ | refine blk_drew ?_ | refine blk_alloc ?_ _)); exact BK196.out⟩, ⟨by repeat (first | (with_reducible first | exact HB.out | apply below_alloc | apply pw_below_drewN | apply below_drew1 | refine below_set ?_ GE196.out) | exact HB.out)⟩⟩
         ·
          rw [if_neg c16] at H
          have c16b0 : decide (5 ≤ a0_0) = false := decide_eq_false c16
          clear c16
          have H' := Aside0.mk H
          clear H
          have hcz18_0 : wc.cell? ⟨gb196, 0, none⟩ = some (.int .i64 a0_0) := (blk_cell BK196.out 0).trans rfl
          have hcz18_1 : wc.cell? ⟨gb196, 1, none⟩ = some (.slice A0_1 l0_1.length c0_1) := (blk_cell BK196.out 1).trans rfl
          have hcz18_2 : wc.cell? ⟨gb196, 2, none⟩ = some (.int .i64 a0_2) := (blk_cell BK196.out 2).trans rfl
          have hcz18_3 : wc.cell? ⟨gb196, 3, none⟩ = some (.int .u64 a0_3) := (blk_cell BK196.out 3).trans rfl
          have hcz18_4 : wc.cell? ⟨gb196, 4, none⟩ = some (.int .u64 a0_4) := (blk_cell BK196.out 4).trans rfl
          have hcz18_5 : wc.cell? ⟨gb196, 5, none⟩ = some (.int .u64 a0_5) := (blk_cell BK196.out 5).trans rfl
          have hcz18_6 : wc.cell? ⟨gb196, 6, none⟩ = some (.int .u64 a0_6) := (blk_cell BK196.out 6).trans rfl
          have hfz18_0 := blk_frozen BK196.out 0
          have hfz18_1 := blk_frozen BK196.out 1
          have hfz18_2 := blk_frozen BK196.out 2
          have hfz18_3 := blk_frozen BK196.out 3
          have hfz18_4 := blk_frozen BK196.out 4
          have hfz18_5 := blk_frozen BK196.out 5
          have hfz18_6 := blk_frozen BK196.out 6
          go_wp2
          go_meet
          case rel => exact ⟨_, (false), (by first | rfl | (simp; done) | (simp [*]; done)), H', ⟨by have := HJ2.out; first | omega | exact Nat.le_refl _⟩, ⟨by (with_reducible repeat (first | refine blk_drewN ?_ _ | refine blk_drew ?_ | refine blk_alloc ?_ _)); exact BK196.out⟩, ⟨by repeat (first | (with_reducible first | exact HB.out | apply below_alloc | apply pw_below_drewN | apply below_drew1 | refine below_set ?_ GE196.out) | exact HB.out)⟩⟩
       ·
        rw [if_neg c13] at H
        have c13b0 : (a0_0 == 3) = false := beq_eq_false_iff_ne.mpr c13
        have c13b1 : (a0_0 != 3) = true := bne_iff_ne.mpr c13
        by_cases c19 : a0_0 = 4
        ·
         rw [if_pos c19] at H
         have c19b0 : (a0_0 == 4) = true := beq_iff_eq.mpr c19
         have c19b1 : (a0_0 != 4) = false := bne_eq_false_iff_eq.mpr c19
         clear c19
         by_cases c20 : (l0_1.length : Int) < 2
         ·
          rw [if_pos c20] at H
          have c20b0 : decide ((l0_1.length : Int) < 2) = true := decide_eq_true c20
          have c20b1 : decide (l0_1.length < 2) = true := decide_eq_true (by omega)
          clear c20
          have H' := Aside0.mk H
          clear H
          have hcz21_0 : wc.cell? ⟨gb196, 0, none⟩ = some (.int .i64 a0_0) := (blk_cell BK196.out 0).trans rfl
          have hcz21_1 : wc.cell? ⟨gb196, 1, none⟩ = some (.slice A0_1 l0_1.length c0_1) := (blk_cell BK196.out 1).trans rfl
          have hcz21_2 : wc.cell? ⟨gb196, 2, none⟩ = some (.int .i64 a0_2) := (blk_cell BK196.out 2).trans rfl
          have hcz21_3 : wc.cell? ⟨gb196, 3, none⟩ = some (.int .u64 a0_3) := (blk_cell BK196.out 3).trans rfl
          have hcz21_4 : wc.cell? ⟨gb196, 4, none⟩ = some (.int .u64 a0_4) := (blk_cell BK196.out 4).trans rfl
          have hcz21_5 : wc.cell? ⟨gb196, 5, none⟩ = some (.int .u64 a0_5) := (blk_cell BK196.out 5).trans rfl
          have hcz21_6 : wc.cell? ⟨gb196, 6, none⟩ = some (.int .u64 a0_6) := (blk_cell BK196.out 6).trans rfl
          have hfz21_0 := blk_frozen BK196.out 0
          have hfz21_1 := blk_frozen BK196.out 1
          have hfz21_2 := blk_frozen BK196.out 2
          have hfz21_3 := blk_frozen BK196.out 3
          have hfz21_4 := blk_frozen BK196.out 4
          have hfz21_5 := blk_frozen BK196.out 5
          have hfz21_6 := blk_frozen BK196.out 6
          go_wp2
          go_meet
          case rel => exact ⟨_, (true), (by first | rfl | (simp; done) | (simp [*]; done)), H', ⟨by have := HJ2.out; first | omega | exact Nat.le_refl _⟩, ⟨by (with_reducible repeat (first | refine blk_drewN ?_ _ | refine blk_drew ?_ | refine blk_alloc ?_ _)); exact BK196.out⟩, ⟨by repeat (first | (with_reducible first | exact HB.out | apply below_alloc | apply pw_below_drewN | apply below_drew1 | refine below_set ?_ GE196.out) | exact HB.out)⟩⟩
         ·
          rw [if_neg c20] at H
          have c20b0 : decide ((l0_1.length : Int) < 2) = false := decide_eq_false c20
          have c20b1 : decide (l0_1.length < 2) = false := decide_eq_false (by omega)
          clear c20
          by_cases c22 : a0_0 ≥ 5
          ·
           rw [if_pos c22] at H
           have c22b0 : decide (5 ≤ a0_0) = true := decide_eq_true c22
           clear c22
           have H' := Aside0.mk H
           clear H
           have hcz23_0 : wc.cell? ⟨gb196, 0, none⟩ = some (.int .i64 a0_0) := (blk_cell BK196.out 0).trans rfl
           have hcz23_1 : wc.cell? ⟨gb196, 1, none⟩ = some (.slice A0_1 l0_1.length c0_1) := (blk_cell BK196.out 1).trans rfl
           have hcz23_2 : wc.cell? ⟨gb196, 2, none⟩ = some (.int .i64 a0_2) := (blk_cell BK196.out 2).trans rfl
           have hcz23_3 : wc.cell? ⟨gb196, 3, none⟩ = some (.int .u64 a0_3) := (blk_cell BK196.out 3).trans rfl
           have hcz23_4 : wc.cell? ⟨gb196, 4, none⟩ = some (.int .u64 a0_4) := (blk_cell BK196.out 4).trans rfl
           have hcz23_5 : wc.cell? ⟨gb196, 5, none⟩ = some (.int .u64 a0_5) := (blk_cell BK196.out 5).trans rfl
           have hcz23_6 : wc.cell? ⟨gb196, 6, none⟩ = some (.int .u64 a0_6) := (blk_cell BK196.out 6).trans rfl
           have hfz23_0 := blk_frozen BK196.out 0
           have hfz23_1 := blk_frozen BK196.out 1
           have hfz23_2 := blk_frozen BK196.out 2
           have hfz23_3 := blk_frozen BK196.out 3
           have hfz23_4 := blk_frozen BK196.out 4
           have hfz23_5 := blk_frozen BK196.out 5
           have hfz23_6 := blk_frozen BK196.out 6
           go_wp2
           go_meet
           case rel => exact ⟨_, (((l0_1.length : Int) != 1)), (by first | rfl | (simp; done) | (simp [*]; done)), H', ⟨by have := HJ2.out; first | omega | exact Nat.le_refl _⟩, ⟨by (with_reducible repeat (first | refine blk_drewN ?_ _ | refine blk_drew ?_ | refine blk_alloc ?_ _)); exact BK196.out⟩, ⟨by repeat (first | (with_reducible first | exact HB.out | apply below_alloc | apply pw_below_drewN | apply below_drew1 | refine below_set ?_ GE196.out) | exact HB.out)⟩⟩
          ·
           rw [if_neg c22] at H
           have c22b0 : decide (5 ≤ a0_0) = false := decide_eq_false c22
           clear c22
           have H' := Aside0.mk H
           clear H
           have hcz24_0 : wc.cell? ⟨gb196, 0, none⟩ = some (.int .i64 a0_0) := (blk_cell BK196.out 0).trans rfl
           have hcz24_1 : wc.cell? ⟨gb196, 1, none⟩ = some (.slice A0_1 l0_1.length c0_1) := (blk_cell BK196.out 1).trans rfl
           have hcz24_2 : wc.cell? ⟨gb196, 2, none⟩ = some (.int .i64 a0_2) := (blk_cell BK196.out 2).trans rfl
           have hcz24_3 : wc.cell? ⟨gb196, 3, none⟩ = some (.int .u64 a0_3) := (blk_cell BK196.out 3).trans rfl
           have hcz24_4 : wc.cell? ⟨gb196, 4, none⟩ = some (.int .u64 a0_4) := (blk_cell BK196.out 4).trans rfl
           have hcz24_5 : wc.cell? ⟨gb196, 5, none⟩ = some (.int .u64 a0_5) := (blk_cell BK196.out 5).trans rfl
           have hcz24_6 : wc.cell? ⟨gb196, 6, none⟩ = some (.int .u64 a0_6) := (blk_cell BK196.out 6).trans rfl
           have hfz24_0 := blk_frozen BK196.out 0
           have hfz24_1 := blk_frozen BK196.out 1
           have hfz24_2 := blk_frozen BK196.out 2
           have hfz24_3 := blk_frozen BK196.out 3
           have hfz24_4 := blk_frozen BK196.out 4
           have hfz24_5 := blk_frozen BK196.out 5
           have hfz24_6 := blk_frozen BK196.out 6
           go_wp2
           go_meet
           case rel => exact ⟨_, (false), (by first | rfl | (simp; done) | (simp [*]; done)), H', ⟨by have := HJ2.out; first | omega | exact Nat.le_refl _⟩, ⟨by (with_reducible repeat (first | refine blk_drewN ?_ _ | refine blk_drew ?_ | refine blk_alloc ?_ _)); exact BK196.out⟩, ⟨by repeat (first | (with_reducible first | exact HB.out | apply below_alloc | apply pw_below_drewN | apply below_drew1 | refine below_set ?_ GE196.out) | exact HB.out)⟩⟩
        ·
         rw [if_neg c19] at H
         have c19b0 : (a0_0 == 4) = false := beq_eq_false_iff_ne.mpr c19
         have c19b1 : (a0_0 != 4) = true := bne_iff_ne.mpr c19
         by_cases c25 : a0_0 ≥ 5
         ·
          rw [if_pos c25] at H
          have c25b0 : decide (5 ≤ a0_0) = true := decide_eq_true c25
          clear c25
          have H' := Aside0.mk H
          clear H
          have hcz26_0 : wc.cell? ⟨gb196, 0, none⟩ = some (.int .i64 a0_0) := (blk_cell BK196.out 0).trans rfl
          have hcz26_1 : wc.cell? ⟨gb196, 1, none⟩ = some (.slice A0_1 l0_1.length c0_1) := (blk_cell BK196.out 1).trans rfl
          have hcz26_2 : wc.cell? ⟨gb196, 2, none⟩ = some (.int .i64 a0_2) := (blk_cell BK196.out 2).trans rfl
          have hcz26_3 : wc.cell? ⟨gb196, 3, none⟩ = some (.int .u64 a0_3) := (blk_cell BK196.out 3).trans rfl
          have hcz26_4 : wc.cell? ⟨gb196, 4, none⟩ = some (.int .u64 a0_4) := (blk_cell BK196.out 4).trans rfl
          have hcz26_5 : wc.cell? ⟨gb196, 5, none⟩ = some (.int .u64 a0_5) := (blk_cell BK196.out 5).trans rfl
          have hcz26_6 : wc.cell? ⟨gb196, 6, none⟩ = some (.int .u64 a0_6) := (blk_cell BK196.out 6).trans rfl
          have hfz26_0 := blk_frozen BK196.out 0
          have hfz26_1 := blk_frozen BK196.out 1
          have hfz26_2 := blk_frozen BK196.out 2
          have hfz26_3 := blk_frozen BK196.out 3
          have hfz26_4 := blk_frozen BK196.out 4
          have hfz26_5 := blk_frozen BK196.out 5
          have hfz26_6 := blk_frozen BK196.out 6
          go_wp2
          go_meet
          case rel => exact ⟨_, (((l0_1.length : Int) != 1)), (by first | rfl | (simp; done) | (simp [*]; done)), H', ⟨by have := HJ2.out; first | omega | exact Nat.le_refl _⟩, ⟨by (with_reducible repeat (first | refine blk_drewN ?_ _ | refine blk_drew ?_ | refine blk_alloc ?_ _)); exact BK196.out⟩, ⟨by repeat (first | (with_reducible first | exact HB.out | apply below_alloc | apply pw_below_drewN | apply below_drew1 | refine below_set ?_ GE196.out) | exact HB.out)⟩⟩
         ·
          rw [if_neg c25] at H
          have c25b0 : decide (5 ≤ a0_0) = false := decide_eq_false c25
          clear c25
          have H' := Aside0.mk H
          clear H
          have hcz27_0 : wc.cell? ⟨gb196, 0, none⟩ = some (.int .i64 a0_0) := (blk_cell BK196.out 0).trans rfl
          have hcz27_1 : wc.cell? ⟨gb196, 1, none⟩ = some (.slice A0_1 l0_1.length c0_1) := (blk_cell BK196.out 1).trans rfl
          have hcz27_2 : wc.cell? ⟨gb196, 2, none⟩ = some (.int .i64 a0_2) := (blk_cell BK196.out 2).trans rfl
          have hcz27_3 : wc.cell? ⟨gb196, 3, none⟩ = some (.int .u64 a0_3) := (blk_cell BK196.out 3).trans rfl
          have hcz27_4 : wc.cell? ⟨gb196, 4, none⟩ = some (.int .u64 a0_4) := (blk_cell BK196.out 4).trans rfl
          have hcz27_5 : wc.cell? ⟨gb196, 5, none⟩ = some (.int .u64 a0_5) := (blk_cell BK196.out 5).trans rfl
          have hcz27_6 : wc.cell? ⟨gb196, 6, none⟩ = some (.int .u64 a0_6) := (blk_cell BK196.out 6).trans rfl
          have hfz27_0 := blk_frozen BK196.out 0
          have hfz27_1 := blk_frozen BK196.out 1
          have hfz27_2 := blk_frozen BK196.out 2
          have hfz27_3 := blk_frozen BK196.out 3
          have hfz27_4 := blk_frozen BK196.out 4
          have hfz27_5 := blk_frozen BK196.out 5
          have hfz27_6 := blk_frozen BK196.out 6
          go_wp2
          go_meet
          case rel => exact ⟨_, (false), (by first | rfl | (simp; done) | (simp [*]; done)), H', ⟨by have := HJ2.out; first | omega | exact Nat.le_refl _⟩, ⟨by (with_reducible repeat (first | refine blk_drewN ?_ _ | refine blk_drew ?_ | refine blk_alloc ?_ _)); exact BK196.out⟩, ⟨by repeat (first | (with_reducible first | exact HB.out | apply below_alloc | apply pw_below_drewN | apply below_drew1 | refine below_set ?_ GE196.out) | exact HB.out)⟩⟩
      ·
       rw [if_neg c12] at H
       have c12b0 : ((l0_1.length : Int) == 0) = false := beq_eq_false_iff_ne.mpr c12
       have c12b1 : ((l0_1.length : Int) != 0) = true := bne_iff_ne.mpr c12
       have c12b2 : ¬ (l0_1 = []) := fun h_ => c12 (by rw [h_]; rfl)
       have H' := Aside0.mk H
       clear H
       have hcz28_0 : wc.cell? ⟨gb196, 0, none⟩ = some (.int .i64 a0_0) := (blk_cell BK196.out 0).trans rfl
       have hcz28_1 : wc.cell? ⟨gb196, 1, none⟩ = some (.slice A0_1 l0_1.length c0_1) := (blk_cell BK196.out 1).trans rfl
       have hcz28_2 : wc.cell? ⟨gb196, 2, none⟩ = some (.int .i64 a0_2) := (blk_cell BK196.out 2).trans rfl
       have hcz28_3 : wc.cell? ⟨gb196, 3, none⟩ = some (.int .u64 a0_3) := (blk_cell BK196.out 3).trans rfl
       have hcz28_4 : wc.cell? ⟨gb196, 4, none⟩ = some (.int .u64 a0_4) := (blk_cell BK196.out 4).trans rfl
       have hcz28_5 : wc.cell? ⟨gb196, 5, none⟩ = some (.int .u64 a0_5) := (blk_cell BK196.out 5).trans rfl
       have hcz28_6 : wc.cell? ⟨gb196, 6, none⟩ = some (.int .u64 a0_6) := (blk_cell BK196.out 6).trans rfl
       have hfz28_0 := blk_frozen BK196.out 0
       have hfz28_1 := blk_frozen BK196.out 1
       have hfz28_2 := blk_frozen BK196.out 2
       have hfz28_3 := blk_frozen BK196.out 3
       have hfz28_4 := blk_frozen BK196.out 4
       have hfz28_5 := blk_frozen BK196.out 5
       have hfz28_6 := blk_frozen BK196.out 6
       go_wp2
       go_meet
       case rel => exact ⟨_, (true), (by first | rfl | (simp; done) | (simp [*]; done)), H', ⟨by have := HJ2.out; first | omega | exact Nat.le_refl _⟩, ⟨by (with_reducible repeat (first | refine blk_drewN ?_ _ | refine blk_drew ?_ | refine blk_alloc ?_ _)); exact BK196.out⟩, ⟨by repeat (first | (with_reducible first | exact HB.out | apply below_alloc | apply pw_below_drewN | apply below_drew1 | refine below_set ?_ GE196.out) | exact HB.out)⟩⟩
     ·
      rw [if_neg c11] at H
      have c11b0 : decide (a0_0 ≤ 2) = false := decide_eq_false c11
      clear c11
      (first | rw [c11b0] | (simp only [i64_w, i32_w]; rw [c11b0]) | skip)
      by_cases c29 : a0_0 = 3
      ·
       rw [if_pos c29] at H
       have c29b0 : (a0_0 == 3) = true := beq_iff_eq.mpr c29
       have c29b1 : (a0_0 != 3) = false := bne_eq_false_iff_eq.mpr c29
       clear c29
       by_cases c30 : (l0_1.length : Int) < 2
       ·
        rw [if_pos c30] at H
        have c30b0 : decide ((l0_1.length : Int) < 2) = true := decide_eq_true c30
        have c30b1 : decide (l0_1.length < 2) = true := decide_eq_true (by omega)
        clear c30
        have H' := Aside0.mk H
        clear H
        have hcz31_0 : wc.cell? ⟨gb196, 0, none⟩ = some (.int .i64 a0_0) := (blk_cell BK196.out 0).trans rfl
        have hcz31_1 : wc.cell? ⟨gb196, 1, none⟩ = some (.slice A0_1 l0_1.length c0_1) := (blk_cell BK196.out 1).trans rfl
        have hcz31_2 : wc.cell? ⟨gb196, 2, none⟩ = some (.int .i64 a0_2) := (blk_cell BK196.out 2).trans rfl
        have hcz31_3 : wc.cell? ⟨gb196, 3, none⟩ = some (.int .u64 a0_3) := (blk_cell BK196.out 3).trans rfl
        have hcz31_4 : wc.cell? ⟨gb196, 4, none⟩ = some (.int .u64 a0_4) := (blk_cell BK196.out 4).trans rfl
        have hcz31_5 : wc.cell? ⟨gb196, 5, none⟩ = some (.int .u64 a0_5) := (blk_cell BK196.out 5).trans rfl
        have hcz31_6 : wc.cell? ⟨gb196, 6, none⟩ = some (.int .u64 a0_6) := (blk_cell BK196.out 6).trans rfl
        have hfz31_0 := blk_frozen BK196.out 0
        have hfz31_1 := blk_frozen BK196.out 1
        have hfz31_2 := blk_frozen BK196.out 2
        have hfz31_3 := blk_frozen BK196.out 3
        have hfz31_4 := blk_frozen BK196.out 4
        have hfz31_5 := blk_frozen BK196.out 5
        have hfz31_6 := blk_frozen BK196.out 6
        go_wp2
        go_meet
        case rel => exact ⟨_, (true), (by first | rfl | (simp; done) | (simp [*]; done)), H', ⟨by have := HJ2.out; first | omega | exact Nat.le_refl _⟩, ⟨by (with_reducible repeat (first | refine blk_drewN ?_ _ | refine blk_drew ?_ | refine blk_alloc ?_ _)); exact BK196.out⟩, ⟨by repeat (first | (with_reducible first | exact HB.out | apply below_alloc | apply pw_below_drewN | apply below_drew1 | refine below_set ?_ GE196.out) | exact HB.out)⟩⟩
       ·
        rw [if_neg c30] at H
        have c30b0 : decide ((l0_1.length : Int) < 2) = false := decide_eq_false c30
        have c30b1 : decide (l0_1.length < 2) = false := decide_eq_false (by omega)
        clear c30
        by_cases c32 : a0_0 ≥ 5
        ·
         rw [if_pos c32] at H
         have c32b0 : decide (5 ≤ a0_0) = true := decide_eq_true c32
         clear c32
         have H' := Aside0.mk H
         clear H
         have hcz33_0 : wc.cell? ⟨gb196, 0, none⟩ = some (.int .i64 a0_0) := (blk_cell BK196.out 0).trans rfl
         have hcz33_1 : wc.cell? ⟨gb196, 1, none⟩ = some (.slice A0_1 l0_1.length c0_1) := (blk_cell BK196.out 1).trans rfl
         have hcz33_2 : wc.cell? ⟨gb196, 2, none⟩ = some (.int .i64 a0_2) := (blk_cell BK196.out 2).trans rfl
         have hcz33_3 : wc.cell? ⟨gb196, 3, none⟩ = some (.int .u64 a0_3) := (blk_cell BK196.out 3).trans rfl
         have hcz33_4 : wc.cell? ⟨gb196, 4, none⟩ = some (.int .u64 a0_4) := (blk_cell BK196.out 4).trans rfl
         have hcz33_5 : wc.cell? ⟨gb196, 5, none⟩ = some (.int .u64 a0_5) := (blk_cell BK196.out 5).trans rfl
         have hcz33_6 : wc.cell? ⟨gb196, 6, none⟩ = some (.int .u64 a0_6) := (blk_cell BK196.out 6).trans rfl
         have hfz33_0 := blk_frozen BK196.out 0
         have hfz33_1 := blk_frozen BK196.out 1
         have hfz33_2 := blk_frozen BK196.out 2
         have hfz33_3 := blk_frozen BK196.out 3
         have hfz33_4 := blk_frozen BK196.out 4
         have hfz33_5 := blk_frozen BK196.out 5
         have hfz33_6 := blk_frozen BK196.out 6
         go_wp2
         go_meet
         case rel => exact ⟨_, (((l0_1.length : Int) != 1)), (by first | rfl | (simp; done) | (simp [*]; done)), H', ⟨by have := HJ2.out; first | omega | exact Nat.le_refl _⟩, ⟨by (with_reducible repeat (first | refine blk_drewN ?_ _ | refine blk_drew ?_ | refine blk_alloc ?_ _)); exact BK196.out⟩, ⟨by repeat (first | (with_reducible first | exact HB.out | apply below_alloc | apply pw_below_drewN | apply below_drew1 | refine below_set ?_ GE196.out) | exact HB.out)⟩⟩
        ·
         rw [if_neg c32] at H
         have c32b0 : decide (5 ≤ a0_0) = false := decide_eq_false c32
         clear c32
         have H' := Aside0.mk H
         clear H
         have hcz34_0 : wc.cell? ⟨gb196, 0, none⟩ = some (.int .i64 a0_0) := (blk_cell BK196.out 0).trans rfl
         have hcz34_1 : wc.cell? ⟨gb196, 1, none⟩ = some (.slice A0_1 l0_1.length c0_1) := (blk_cell BK196.out 1).trans rfl
         have hcz34_2 : wc.cell? ⟨gb196, 2, none⟩ = some (.int .i64 a0_2) := (blk_cell BK196.out 2).trans rfl
         have hcz34_3 : wc.cell? ⟨gb196, 3, none⟩ = some (.int .u64 a0_3) := (blk_cell BK196.out 3).trans rfl
         have hcz34_4 : wc.cell? ⟨gb196, 4, none⟩ = some (.int .u64 a0_4) := (blk_cell BK196.out 4).trans rfl
         have hcz34_5 : wc.cell? ⟨gb196, 5, none⟩ = some (.int .u64 a0_5) := (blk_cell BK196.out 5).trans rfl
         have hcz34_6 : wc.cell? ⟨gb196, 6, none⟩ = some (.int .u64 a0_6) := (blk_cell BK196.out 6).trans rfl
         have hfz34_0 := blk_frozen BK196.out 0
         have hfz34_1 := blk_frozen BK196.out 1
         have hfz34_2 := blk_frozen BK196.out 2
         have hfz34_3 := blk_frozen BK196.out 3
         have hfz34_4 := blk_frozen BK196.out 4
         have hfz34_5 := blk_frozen BK196.out 5
         have hfz34_6 := blk_frozen BK196.out 6
         go_wp2
         go_meet
         case rel => exact ⟨_, (false), (by first | rfl | (simp; done) | (simp [*]; done)), H', ⟨by have := HJ2.out; first | omega | exact Nat.le_refl _⟩, ⟨by (with_reducible repeat (first | refine blk_drewN ?_ _ | refine blk_drew ?_ | refine blk_alloc ?_ _)); exact BK196.out⟩, ⟨by repeat (first | (with_reducible first | exact HB.out | apply below_alloc | apply pw_below_drewN | apply below_drew1 | refine below_set ?_ GE196.out) | exact HB.out)⟩⟩
      ·
       rw [if_neg c29] at H
       have c29b0 : (a0_0 == 3) = false := beq_eq_false_iff_ne.mpr c29
       have c29b1 : (a0_0 != 3) = true := bne_iff_ne.mpr c29
       by_cases c35 : a0_0 = 4
       ·
        rw [if_pos c35] at H
        have c35b0 : (a0_0 == 4) = true := beq_iff_eq.mpr c35
        have c35b1 : (a0_0 != 4) = false := bne_eq_false_iff_eq.mpr c35
        clear c35
        by_cases c36 : (l0_1.length : Int) < 2
        ·
         rw [if_pos c36] at H
         have c36b0 : decide ((l0_1.length : Int) < 2) = true := decide_eq_true c36
         have c36b1 : decide (l0_1.length < 2) = true := decide_eq_true (by omega)
         clear c36
         have H' := Aside0.mk H
         clear H
         have hcz37_0 : wc.cell? ⟨gb196, 0, none⟩ = some (.int .i64 a0_0) := (blk_cell BK196.out 0).trans rfl
         have hcz37_1 : wc.cell? ⟨gb196, 1, none⟩ = some (.slice A0_1 l0_1.length c0_1) := (blk_cell BK196.out 1).trans rfl
         have hcz37_2 : wc.cell? ⟨gb196, 2, none⟩ = some (.int .i64 a0_2) := (blk_cell BK196.out 2).trans rfl
         have hcz37_3 : wc.cell? ⟨gb196, 3, none⟩ = some (.int .u64 a0_3) := (blk_cell BK196.out 3).trans rfl
         have hcz37_4 : wc.cell? ⟨gb196, 4, none⟩ = some (.int .u64 a0_4) := (blk_cell BK196.out 4).trans rfl
         have hcz37_5 : wc.cell? ⟨gb196, 5, none⟩ = some (.int .u64 a0_5) := (blk_cell BK196.out 5).trans rfl
         have hcz37_6 : wc.cell? ⟨gb196, 6, none⟩ = some (.int .u64 a0_6) := (blk_cell BK196.out 6).trans rfl
         have hfz37_0 := blk_frozen BK196.out 0
         have hfz37_1 := blk_frozen BK196.out 1
         have hfz37_2 := blk_frozen BK196.out 2
         have hfz37_3 := blk_frozen BK196.out 3
         have hfz37_4 := blk_frozen BK196.out 4
         have hfz37_5 := blk_frozen BK196.out 5
         have hfz37_6 := blk_frozen BK196.out 6
         go_wp2
         go_meet
         case rel => exact ⟨_, (true), (by first | rfl | (simp; done) | (simp [*]; done)), H', ⟨by have := HJ2.out; first | omega | exact Nat.le_refl _⟩, ⟨by (with_reducible repeat (first | refine blk_drewN ?_ _ | refine blk_drew ?_ | refine blk_alloc ?_ _)); exact BK196.out⟩, ⟨by repeat (first | (with_reducible first | exact HB.out | apply below_alloc | apply pw_below_drewN | apply below_drew1 | refine below_set ?_ GE196.out) | exact HB.out)⟩⟩
        ·
         rw [if_neg c36] at H
         have c36b0 : decide ((l0_1.length : Int) < 2) = false := decide_eq_false c36
         have c36b1 : decide (l0_1.length < 2) = false := decide_eq_false (by omega)
         clear c36
         by_cases c38 : a0_0 ≥ 5
         ·
          rw [if_pos c38] at H
          have c38b0 : decide (5 ≤ a0_0) = true := decide_eq_true c38
          clear c38
          have H' := Aside0.mk H
          clear H
          have hcz39_0 : wc.cell? ⟨gb196, 0, none⟩ = some (.int .i64 a0_0) := (blk_cell BK196.out 0).trans rfl
          have hcz39_1 : wc.cell? ⟨gb196, 1, none⟩ = some (.slice A0_1 l0_1.length c0_1) := (blk_cell BK196.out 1).trans rfl
          have hcz39_2 : wc.cell? ⟨gb196, 2, none⟩ = some (.int .i64 a0_2) := (blk_cell BK196.out 2).trans rfl
          have hcz39_3 : wc.cell? ⟨gb196, 3, none⟩ = some (.int .u64 a0_3) := (blk_cell BK196.out 3).trans rfl
          have hcz39_4 : wc.cell? ⟨gb196, 4, none⟩ = some (.int .u64 a0_4) := (blk_cell BK196.out 4).trans rfl
          have hcz39_5 : wc.cell? ⟨gb196, 5, none⟩ = some (.int .u64 a0_5) := (blk_cell BK196.out 5).trans rfl
          have hcz39_6 : wc.cell? ⟨gb196, 6, none⟩ = some (.int .u64 a0_6) := (blk_cell BK196.out 6).trans rfl
          have hfz39_0 := blk_frozen BK196.out 0
          have hfz39_1 := blk_frozen BK196.out 1
          have hfz39_2 := blk_frozen BK196.out 2
          have hfz39_3 := blk_frozen BK196.out 3
          have hfz39_4 := blk_frozen BK196.out 4
          have hfz39_5 := blk_frozen BK196.out 5
          have hfz39_6 := blk_frozen BK196.out 6
          go_wp2
          go_meet
          case rel => exact ⟨_, (((l0_1.length : Int) != 1)), (by first | rfl | (simp; done) | (simp [*]; done)), H', ⟨by have := HJ2.out; first | omega | exact Nat.le_refl _⟩, ⟨by (with_reducible repeat (first | refine blk_drewN ?_ _ | refine blk_drew ?_ | refine blk_alloc ?_ _)); exact BK196.out⟩, ⟨by repeat (first | (with_reducible first | exact HB.out | apply below_alloc | apply pw_below_drewN | apply below_drew1 | refine below_set ?_ GE196.out) | exact HB.out)⟩⟩
         ·
          rw [if_neg c38] at H
          have c38b0 : decide (5 ≤ a0_0) = false := decide_eq_false c38
          clear c38
          have H' := Aside0.mk H
          clear H
          have hcz40_0 : wc.cell? ⟨gb196, 0, none⟩ = some (.int .i64 a0_0) := (blk_cell BK196.out 0).trans rfl
          have hcz40_1 : wc.cell? ⟨gb196, 1, none⟩ = some (.slice A0_1 l0_1.length c0_1) := (blk_cell BK196.out 1).trans rfl
          have hcz40_2 : wc.cell? ⟨gb196, 2, none⟩ = some (.int .i64 a0_2) := (blk_cell BK196.out 2).trans rfl
          have hcz40_3 : wc.cell? ⟨gb196, 3, none⟩ = some (.int .u64 a0_3) := (blk_cell BK196.out 3).trans rfl
          have hcz40_4 : wc.cell? ⟨gb196, 4, none⟩ = some (.int .u64 a0_4) := (blk_cell BK196.out 4).trans rfl
          have hcz40_5 : wc.cell? ⟨gb196, 5, none⟩ = some (.int .u64 a0_5) := (blk_cell BK196.out 5).trans rfl
          have hcz40_6 : wc.cell? ⟨gb196, 6, none⟩ = some (.int .u64 a0_6) := (blk_cell BK196.out 6).trans rfl
          have hfz40_0 := blk_frozen BK196.out 0
          have hfz40_1 := blk_frozen BK196.out 1
          have hfz40_2 := blk_frozen BK196.out 2
          have hfz40_3 := blk_frozen BK196.out 3
          have hfz40_4 := blk_frozen BK196.out 4
          have hfz40_5 := blk_frozen BK196.out 5
          have hfz40_6 := blk_frozen BK196.out 6
          go_wp2
          go_meet
          case rel => exact ⟨_, (false), (by first | rfl | (simp; done) | (simp [*]; done)), H', ⟨by have := HJ2.out; first | omega | exact Nat.le_refl _⟩, ⟨by (with_reducible repeat (first | refine blk_drewN ?_ _ | refine blk_drew ?_ | refine blk_alloc ?_ _)); exact BK196.out⟩, ⟨by repeat (first | (with_reducible first | exact HB.out | apply below_alloc | apply pw_below_drewN | apply below_drew1 | refine below_set ?_ GE196.out) | exact HB.out)⟩⟩
       ·
        rw [if_neg c35] at H
        have c35b0 : (a0_0 == 4) = false := beq_eq_false_iff_ne.mpr c35
        have c35b1 : (a0_0 != 4) = true := bne_iff_ne.mpr c35
        by_cases c41 : a0_0 ≥ 5
        ·
         rw [if_pos c41] at H
         have c41b0 : decide (5 ≤ a0_0) = true := decide_eq_true c41
         clear c41
         have H' := Aside0.mk H
         clear H
         have hcz42_0 : wc.cell? ⟨gb196, 0, none⟩ = some (.int .i64 a0_0) := (blk_cell BK196.out 0).trans rfl
         have hcz42_1 : wc.cell? ⟨gb196, 1, none⟩ = some (.slice A0_1 l0_1.length c0_1) := (blk_cell BK196.out 1).trans rfl
         have hcz42_2 : wc.cell? ⟨gb196, 2, none⟩ = some (.int .i64 a0_2) := (blk_cell BK196.out 2).trans rfl
         have hcz42_3 : wc.cell? ⟨gb196, 3, none⟩ = some (.int .u64 a0_3) := (blk_cell BK196.out 3).trans rfl
         have hcz42_4 : wc.cell? ⟨gb196, 4, none⟩ = some (.int .u64 a0_4) := (blk_cell BK196.out 4).trans rfl
         have hcz42_5 : wc.cell? ⟨gb196, 5, none⟩ = some (.int .u64 a0_5) := (blk_cell BK196.out 5).trans rfl
         have hcz42_6 : wc.cell? ⟨gb196, 6, none⟩ = some (.int .u64 a0_6) := (blk_cell BK196.out 6).trans rfl
         have hfz42_0 := blk_frozen BK196.out 0
         have hfz42_1 := blk_frozen BK196.out 1
         have hfz42_2 := blk_frozen BK196.out 2
         have hfz42_3 := blk_frozen BK196.out 3
         have hfz42_4 := blk_frozen BK196.out 4
         have hfz42_5 := blk_frozen BK196.out 5
         have hfz42_6 := blk_frozen BK196.out 6
         go_wp2
         go_meet
         case rel => exact ⟨_, (((l0_1.length : Int) != 1)), (by first | rfl | (simp; done) | (simp [*]; done)), H', ⟨by have := HJ2.out; first | omega | exact Nat.le_refl _⟩, ⟨by (with_reducible repeat (first | refine blk_drewN ?_ _ | refine blk_drew ?_ | refine blk_alloc ?_ _)); exact BK196.out⟩, ⟨by repeat (first | (with_reducible first | exact HB.out | apply below_alloc | apply pw_below_drewN | apply below_drew1 | refine below_set ?_ GE196.out) | exact HB.out)⟩⟩
        ·
         rw [if_neg c41] at H
         have c41b0 : decide (5 ≤ a0_0) = false := decide_eq_false c41
         clear c41
         have H' := Aside0.mk H
         clear H
         have hcz43_0 : wc.cell? ⟨gb196, 0, none⟩ = some (.int .i64 a0_0) := (blk_cell BK196.out 0).trans rfl
         have hcz43_1 : wc.cell? ⟨gb196, 1, none⟩ = some (.slice A0_1 l0_1.length c0_1) := (blk_cell BK196.out 1).trans rfl
         have hcz43_2 : wc.cell? ⟨gb196, 2, none⟩ = some (.int .i64 a0_2) := (blk_cell BK196.out 2).trans rfl
         have hcz43_3 : wc.cell? ⟨gb196, 3, none⟩ = some (.int .u64 a0_3) := (blk_cell BK196.out 3).trans rfl
         have hcz43_4 : wc.cell? ⟨gb196, 4, none⟩ = some (.int .u64 a0_4) := (blk_cell BK196.out 4).trans rfl
         have hcz43_5 : wc.cell? ⟨gb196, 5, none⟩ = some (.int .u64 a0_5) := (blk_cell BK196.out 5).trans rfl
         have hcz43_6 : wc.cell? ⟨gb196, 6, none⟩ = some (.int .u64 a0_6) := (blk_cell BK196.out 6).trans rfl
         have hfz43_0 := blk_frozen BK196.out 0
         have hfz43_1 := blk_frozen BK196.out 1
         have hfz43_2 := blk_frozen BK196.out 2
         have hfz43_3 := blk_frozen BK196.out 3
         have hfz43_4 := blk_frozen BK196.out 4
         have hfz43_5 := blk_frozen BK196.out 5
         have hfz43_6 := blk_frozen BK196.out 6
         go_wp2
         go_meet
         case rel => exact ⟨_, (false), (by first | rfl | (simp; done) | (simp [*]; done)), H', ⟨by have := HJ2.out; first | omega | exact Nat.le_refl _⟩, ⟨by (with_reducible repeat (first | refine blk_drewN ?_ _ | refine blk_drew ?_ | refine blk_alloc ?_ _)); exact BK196.out⟩, ⟨by repeat (first | (with_reducible first | exact HB.out | apply below_alloc | apply pw_below_drewN | apply below_drew1 | refine below_set ?_ GE196.out) | exact HB.out)⟩⟩
    case rest =>
     clear HC9
     try clear c1
     try clear c2
     try clear p2
     try clear c3
     try clear c4
     try clear c5
     try clear c5b0
     try clear c8
     try clear c11
     try clear c11b0
     try clear c12
     try clear c12b0
     try clear c12b1
     try clear c12b2
     try clear c13
     try clear c13b0
     try clear c13b1
     try clear c14
     try clear c14b0
     try clear c14b1
     try clear c16
     try clear c16b0
     try clear c19
     try clear c19b0
     try clear c19b1
     try clear c20
     try clear c20b0
     try clear c20b1
     try clear c22
     try clear c22b0
     try clear c25
     try clear c25b0
     try clear c29
     try clear c29b0
     try clear c29b1
     try clear c30
     try clear c30b0
     try clear c30b1
     try clear c32
     try clear c32b0
     try clear c35
     try clear c35b0
     try clear c35b1
     try clear c36
     try clear c36b0
     try clear c36b1
     try clear c37
     try clear c38
     try clear c38b0
     try clear c41
     try clear c41b0
     try clear hcz10_0
     try clear hcz10_1
     try clear hcz10_2
     try clear hcz10_3
     try clear hcz10_4
     try clear hcz10_5
     try clear hcz10_6
     try clear hcz15_0
     try clear hcz15_1
     try clear hcz15_2
     try clear hcz15_3
     try clear hcz15_4
     try clear hcz15_5
     try clear hcz15_6
     try clear hcz17_0
     try clear hcz17_1
     try clear hcz17_2
     try clear hcz17_3
     try clear hcz17_4
     try clear hcz17_5
     try clear hcz17_6
     try clear hcz18_0
     try clear hcz18_1
     try clear hcz18_2
     try clear hcz18_3
     try clear hcz18_4
     try clear hcz18_5
     try clear hcz18_6
     try clear hcz21_0
     try clear hcz21_1
     try clear hcz21_2
     try clear hcz21_3
     try clear hcz21_4
     try clear hcz21_5
     try clear hcz21_6
     try clear hcz23_0
     try clear hcz23_1
     try clear hcz23_2
     try clear hcz23_3
     try clear hcz23_4
     try clear hcz23_5
     try clear hcz23_6
     try clear hcz24_0
     try clear hcz24_1
     try clear hcz24_2
     try clear hcz24_3
     try clear hcz24_4
     try clear hcz24_5
     try clear hcz24_6
     try clear hcz26_0
     try clear hcz26_1
     try clear hcz26_2
     try clear hcz26_3
     try clear hcz26_4
     try clear hcz26_5
     try clear hcz26_6
     try clear hcz27_0
     try clear hcz27_1
     try clear hcz27_2
     try clear hcz27_3
     try clear hcz27_4
     try clear hcz27_5
     try clear hcz27_6
     try clear hcz28_0
     try clear hcz28_1
     try clear hcz28_2
     try clear hcz28_3
     try clear hcz28_4
     try clear hcz28_5
     try clear hcz28_6
     try clear hcz31_0
     try clear hcz31_1
     try clear hcz31_2
     try clear hcz31_3
     try clear hcz31_4
     try clear hcz31_5
     try clear hcz31_6
     try clear hcz33_0
     try clear hcz33_1
     try clear hcz33_2
     try clear hcz33_3
     try clear hcz33_4
     try clear hcz33_5
     try clear hcz33_6
     try clear hcz34_0
     try clear hcz34_1
     try clear hcz34_2
     try clear hcz34_3
     try clear hcz34_4
     try clear hcz34_5
     try clear hcz34_6
     try clear hcz37_0
     try clear hcz37_1
     try clear hcz37_2
     try clear hcz37_3
     try clear hcz37_4
     try clear hcz37_5
     try clear hcz37_6
     try clear hcz39_0
     try clear hcz39_1
     try clear hcz39_2
     try clear hcz39_3
     try clear hcz39_4
     try clear hcz39_5
     try clear hcz39_6
     try clear hcz40_0
     try clear hcz40_1
     try clear hcz40_2
     try clear hcz40_3
     try clear hcz40_4
     try clear hcz40_5
     try clear hcz40_6
     try clear hcz42_0
     try clear hcz42_1
     try clear hcz42_2
     try clear hcz42_3
     try clear hcz42_4
     try clear hcz42_5
     try clear hcz42_6
     try clear hcz43_0
     try clear hcz43_1
     try clear hcz43_2
     try clear hcz43_3
     try clear hcz43_4
     try clear hcz43_5
     try clear hcz43_6
     try clear hcz6_0
     try clear hcz6_1
     try clear hcz6_2
     try clear hcz6_3
     try clear hcz6_4
     try clear hcz6_5
     try clear hcz6_6
     try clear hcz7_0
     try clear hcz7_1
     try clear hcz7_2
     try clear hcz7_3
     try clear hcz7_4
     try clear hcz7_5
     try clear hcz7_6
     try clear hfz10_0
     try clear hfz10_1
     try clear hfz10_2
     try clear hfz10_3
     try clear hfz10_4
     try clear hfz10_5
     try clear hfz10_6
     try clear hfz15_0
     try clear hfz15_1
     try clear hfz15_2
     try clear hfz15_3
     try clear hfz15_4
     try clear hfz15_5
     try clear hfz15_6
     try clear hfz17_0
     try clear hfz17_1
     try clear hfz17_2
     try clear hfz17_3
     try clear hfz17_4
     try clear hfz17_5
     try clear hfz17_6
     try clear hfz18_0
     try clear hfz18_1
     try clear hfz18_2
     try clear hfz18_3
     try clear hfz18_4
     try clear hfz18_5
     try clear hfz18_6
     try clear hfz21_0
     try clear hfz21_1
     try clear hfz21_2
     try clear hfz21_3
     try clear hfz21_4
     try clear hfz21_5
     try clear hfz21_6
     try clear hfz23_0
     try clear hfz23_1
     try clear hfz23_2
     try clear hfz23_3
     try clear hfz23_4
     try clear hfz23_5
     try clear hfz23_6
     try clear hfz24_0
     try clear hfz24_1
     try clear hfz24_2
     try clear hfz24_3
     try clear hfz24_4
     try clear hfz24_5
     try clear hfz24_6
     try clear hfz26_0
     try clear hfz26_1
     try clear hfz26_2
     try clear hfz26_3
     try clear hfz26_4
     try clear hfz26_5
     try clear hfz26_6
     try clear hfz27_0
     try clear hfz27_1
     try clear hfz27_2
     try clear hfz27_3
     try clear hfz27_4
     try clear hfz27_5
     try clear hfz27_6
     try clear hfz28_0
     try clear hfz28_1
     try clear hfz28_2
     try clear hfz28_3
     try clear hfz28_4
     try clear hfz28_5
     try clear hfz28_6
     try clear hfz31_0
     try clear hfz31_1
     try clear hfz31_2
     try clear hfz31_3
     try clear hfz31_4
     try clear hfz31_5
     try clear hfz31_6
     try clear hfz33_0
     try clear hfz33_1
     try clear hfz33_2
     try clear hfz33_3
     try clear hfz33_4
     try clear hfz33_5
     try clear hfz33_6
     try clear hfz34_0
     try clear hfz34_1
     try clear hfz34_2
     try clear hfz34_3
     try clear hfz34_4
     try clear hfz34_5
     try clear hfz34_6
     try clear hfz37_0
     try clear hfz37_1
     try clear hfz37_2
     try clear hfz37_3
     try clear hfz37_4
     try clear hfz37_5
     try clear hfz37_6
     try clear hfz39_0
     try clear hfz39_1
     try clear hfz39_2
     try clear hfz39_3
     try clear hfz39_4
     try clear hfz39_5
     try clear hfz39_6
     try clear hfz40_0
     try clear hfz40_1
     try clear hfz40_2
     try clear hfz40_3
     try clear hfz40_4
     try clear hfz40_5
     try clear hfz40_6
     try clear hfz42_0
     try clear hfz42_1
     try clear hfz42_2
     try clear hfz42_3
     try clear hfz42_4
     try clear hfz42_5
     try clear hfz42_6
     try clear hfz43_0
     try clear hfz43_1
     try clear hfz43_2
     try clear hfz43_3
     try clear hfz43_4
     try clear hfz43_5
     try clear hfz43_6
     try clear hfz6_0
     try clear hfz6_1
     try clear hfz6_2
     try clear hfz6_3
     try clear hfz6_4
     try clear hfz6_5
     try clear hfz6_6
     try clear hfz7_0
     try clear hfz7_1
     try clear hfz7_2
     try clear hfz7_3
     try clear hfz7_4
     try clear hfz7_5
     try clear hfz7_6
     try clear p2
     obtain ⟨kq, x46_8, rfl, HA, HJ8, BK196, HB⟩ := hcut
     cases kq with
     | zero => exact absurd HA.out (by simp [vetchref05_Made.j1])
     | succ kj8 =>
      have H := HA.out
      clear HA
      simp only [vetchref05_Made.j1] at H
      by_cases c44 : x46_8 = true
      ·
       subst c44
       have H1 : (some false) = some r := by rw [if_pos rfl] at H; exact H
       clear H
       have H := H1
       clear H1
       obtain rfl := Option.some.inj H
       go_wp2
       go_ret
       exact ⟨by first | rfl | (simp [errW_none, errW_some] <;> rfl) | (simp [*, errW_none, errW_some] <;> rfl), by repeat (first | (with_reducible first | exact HB.out | apply below_alloc | apply pw_below_drewN | apply below_drew1 | refine below_set ?_ GE196.out) | exact HB.out)⟩
      ·
       replace c44 := Bool.eq_false_iff.mpr c44
       subst c44
       have H1 : (if a0_0 = 2 then (if a0_2 < 0 then (some false) else (if a0_2 ≥ a1 then (some false) else (if a0_0 = 1 then (some true) else (some (a0_3 == 0 && (a0_4 == 0 && (a0_5 == 0 && (a0_6 == 0)))))))) else (if a0_2 = 0 then (if a0_0 = 1 then (some true) else (some (a0_3 == 0 && (a0_4 == 0 && (a0_5 == 0 && (a0_6 == 0)))))) else (some false))) = some r := by rw [if_neg (show ¬ (false = true) by decide)] at H; exact H
       clear H
       have H := H1
       clear H1
       by_cases c45 : a0_0 = 2
       ·
        rw [if_pos c45] at H
        have c45b0 : (a0_0 == 2) = true := beq_iff_eq.mpr c45
        have c45b1 : (a0_0 != 2) = false := bne_eq_false_iff_eq.mpr c45
        clear c45
        by_cases c46 : a0_2 < 0
        ·
         rw [if_pos c46] at H
         have c46b0 : decide (a0_2 < 0) = true := decide_eq_true c46
         clear c46
         obtain rfl := Option.some.inj H
         have hcz47_0 : wc.cell? ⟨gb196, 0, none⟩ = some (.int .i64 a0_0) := (blk_cell BK196.out 0).trans rfl
         have hcz47_1 : wc.cell? ⟨gb196, 1, none⟩ = some (.slice A0_1 l0_1.length c0_1) := (blk_cell BK196.out 1).trans rfl
         have hcz47_2 : wc.cell? ⟨gb196, 2, none⟩ = some (.int .i64 a0_2) := (blk_cell BK196.out 2).trans rfl
         have hcz47_3 : wc.cell? ⟨gb196, 3, none⟩ = some (.int .u64 a0_3) := (blk_cell BK196.out 3).trans rfl
         have hcz47_4 : wc.cell? ⟨gb196, 4, none⟩ = some (.int .u64 a0_4) := (blk_cell BK196.out 4).trans rfl
         have hcz47_5 : wc.cell? ⟨gb196, 5, none⟩ = some (.int .u64 a0_5) := (blk_cell BK196.out 5).trans rfl
         have hcz47_6 : wc.cell? ⟨gb196, 6, none⟩ = some (.int .u64 a0_6) := (blk_cell BK196.out 6).trans rfl
         have hfz47_0 := blk_frozen BK196.out 0
         have hfz47_1 := blk_frozen BK196.out 1
         have hfz47_2 := blk_frozen BK196.out 2
         have hfz47_3 := blk_frozen BK196.out 3
         have hfz47_4 := blk_frozen BK196.out 4
         have hfz47_5 := blk_frozen BK196.out 5
         have hfz47_6 := blk_frozen BK196.out 6
         go_wp2
         go_ret
         exact ⟨by first | rfl | (simp [errW_none, errW_some] <;> rfl) | (simp [*, errW_none, errW_some] <;> rfl), by repeat (first | (with_reducible first | exact HB.out | apply below_alloc | apply pw_below_drewN | apply below_drew1 | refine below_set ?_ GE196.out) | exact HB.out)⟩
        ·
         rw [if_neg c46] at H
         have c46b0 : decide (a0_2 < 0) = false := decide_eq_false c46
         clear c46
         by_cases c48 : a0_2 ≥ a1
         ·
          rw [if_pos c48] at H
          have c48b0 : decide (a1 ≤ a0_2) = true := decide_eq_true c48
          clear c48
          obtain rfl := Option.some.inj H
          have hcz49_0 : wc.cell? ⟨gb196, 0, none⟩ = some (.int .i64 a0_0) := (blk_cell BK196.out 0).trans rfl
          have hcz49_1 : wc.cell? ⟨gb196, 1, none⟩ = some (.slice A0_1 l0_1.length c0_1) := (blk_cell BK196.out 1).trans rfl
          have hcz49_2 : wc.cell? ⟨gb196, 2, none⟩ = some (.int .i64 a0_2) := (blk_cell BK196.out 2).trans rfl
          have hcz49_3 : wc.cell? ⟨gb196, 3, none⟩ = some (.int .u64 a0_3) := (blk_cell BK196.out 3).trans rfl
          have hcz49_4 : wc.cell? ⟨gb196, 4, none⟩ = some (.int .u64 a0_4) := (blk_cell BK196.out 4).trans rfl
          have hcz49_5 : wc.cell? ⟨gb196, 5, none⟩ = some (.int .u64 a0_5) := (blk_cell BK196.out 5).trans rfl
          have hcz49_6 : wc.cell? ⟨gb196, 6, none⟩ = some (.int .u64 a0_6) := (blk_cell BK196.out 6).trans rfl
          have hfz49_0 := blk_frozen BK196.out 0
          have hfz49_1 := blk_frozen BK196.out 1
          have hfz49_2 := blk_frozen BK196.out 2
          have hfz49_3 := blk_frozen BK196.out 3
          have hfz49_4 := blk_frozen BK196.out 4
          have hfz49_5 := blk_frozen BK196.out 5
          have hfz49_6 := blk_frozen BK196.out 6
          go_wp2
          go_ret
          exact ⟨by first | rfl | (simp [errW_none, errW_some] <;> rfl) | (simp [*, errW_none, errW_some] <;> rfl), by repeat (first | (with_reducible first | exact HB.out | apply below_alloc | apply pw_below_drewN | apply below_drew1 | refine below_set ?_ GE196.out) | exact HB.out)⟩
         ·
          rw [if_neg c48] at H
          have c48b0 : decide (a1 ≤ a0_2) = false := decide_eq_false c48
          clear c48
          by_cases c50 : a0_0 = 1
          ·
           rw [if_pos c50] at H
           have c50b0 : (a0_0 == 1) = true := beq_iff_eq.mpr c50
           have c50b1 : (a0_0 != 1) = false := bne_eq_false_iff_eq.mpr c50
           clear c50
           obtain rfl := Option.some.inj H
           have hcz51_0 : wc.cell? ⟨gb196, 0, none⟩ = some (.int .i64 a0_0) := (blk_cell BK196.out 0).trans rfl
           have hcz51_1 : wc.cell? ⟨gb196, 1, none⟩ = some (.slice A0_1 l0_1.length c0_1) := (blk_cell BK196.out 1).trans rfl
           have hcz51_2 : wc.cell? ⟨gb196, 2, none⟩ = some (.int .i64 a0_2) := (blk_cell BK196.out 2).trans rfl
           have hcz51_3 : wc.cell? ⟨gb196, 3, none⟩ = some (.int .u64 a0_3) := (blk_cell BK196.out 3).trans rfl
           have hcz51_4 : wc.cell? ⟨gb196, 4, none⟩ = some (.int .u64 a0_4) := (blk_cell BK196.out 4).trans rfl
           have hcz51_5 : wc.cell? ⟨gb196, 5, none⟩ = some (.int .u64 a0_5) := (blk_cell BK196.out 5).trans rfl
           have hcz51_6 : wc.cell? ⟨gb196, 6, none⟩ = some (.int .u64 a0_6) := (blk_cell BK196.out 6).trans rfl
           have hfz51_0 := blk_frozen BK196.out 0
           have hfz51_1 := blk_frozen BK196.out 1
           have hfz51_2 := blk_frozen BK196.out 2
           have hfz51_3 := blk_frozen BK196.out 3
           have hfz51_4 := blk_frozen BK196.out 4
           have hfz51_5 := blk_frozen BK196.out 5
           have hfz51_6 := blk_frozen BK196.out 6
           go_wp2
           go_ret
           exact ⟨by first | rfl | (simp [errW_none, errW_some] <;> rfl) | (simp [*, errW_none, errW_some] <;> rfl), by repeat (first | (with_reducible first | exact HB.out | apply below_alloc | apply pw_below_drewN | apply below_drew1 | refine below_set ?_ GE196.out) | exact HB.out)⟩
          ·
           rw [if_neg c50] at H
           have c50b0 : (a0_0 == 1) = false := beq_eq_false_iff_ne.mpr c50
           have c50b1 : (a0_0 != 1) = true := bne_iff_ne.mpr c50
           obtain rfl := Option.some.inj H
           have hcz52_0 : wc.cell? ⟨gb196, 0, none⟩ = some (.int .i64 a0_0) := (blk_cell BK196.out 0).trans rfl
           have hcz52_1 : wc.cell? ⟨gb196, 1, none⟩ = some (.slice A0_1 l0_1.length c0_1) := (blk_cell BK196.out 1).trans rfl
           have hcz52_2 : wc.cell? ⟨gb196, 2, none⟩ = some (.int .i64 a0_2) := (blk_cell BK196.out 2).trans rfl
           have hcz52_3 : wc.cell? ⟨gb196, 3, none⟩ = some (.int .u64 a0_3) := (blk_cell BK196.out 3).trans rfl
           have hcz52_4 : wc.cell? ⟨gb196, 4, none⟩ = some (.int .u64 a0_4) := (blk_cell BK196.out 4).trans rfl
           have hcz52_5 : wc.cell? ⟨gb196, 5, none⟩ = some (.int .u64 a0_5) := (blk_cell BK196.out 5).trans rfl
           have hcz52_6 : wc.cell? ⟨gb196, 6, none⟩ = some (.int .u64 a0_6) := (blk_cell BK196.out 6).trans rfl
           have hfz52_0 := blk_frozen BK196.out 0
           have hfz52_1 := blk_frozen BK196.out 1
           have hfz52_2 := blk_frozen BK196.out 2
           have hfz52_3 := blk_frozen BK196.out 3
           have hfz52_4 := blk_frozen BK196.out 4
           have hfz52_5 := blk_frozen BK196.out 5
           have hfz52_6 := blk_frozen BK196.out 6
           go_wp2
           go_ret
           exact ⟨by first | rfl | (simp [errW_none, errW_some] <;> rfl) | (simp [*, errW_none, errW_some] <;> rfl), by repeat (first | (with_reducible first | exact HB.out | apply below_alloc | apply pw_below_drewN | apply below_drew1 | refine below_set ?_ GE196.out) | exact HB.out)⟩
       ·
        rw [if_neg c45] at H
        have c45b0 : (a0_0 == 2) = false := beq_eq_false_iff_ne.mpr c45
        have c45b1 : (a0_0 != 2) = true := bne_iff_ne.mpr c45
        by_cases c53 : a0_2 = 0
        ·
         rw [if_pos c53] at H
         have c53b0 : (a0_2 == 0) = true := beq_iff_eq.mpr c53
         have c53b1 : (a0_2 != 0) = false := bne_eq_false_iff_eq.mpr c53
         clear c53
         by_cases c54 : a0_0 = 1
         ·
          rw [if_pos c54] at H
          have c54b0 : (a0_0 == 1) = true := beq_iff_eq.mpr c54
          have c54b1 : (a0_0 != 1) = false := bne_eq_false_iff_eq.mpr c54
          clear c54
          obtain rfl := Option.some.inj H
          have hcz55_0 : wc.cell? ⟨gb196, 0, none⟩ = some (.int .i64 a0_0) := (blk_cell BK196.out 0).trans rfl
          have hcz55_1 : wc.cell? ⟨gb196, 1, none⟩ = some (.slice A0_1 l0_1.length c0_1) := (blk_cell BK196.out 1).trans rfl
          have hcz55_2 : wc.cell? ⟨gb196, 2, none⟩ = some (.int .i64 a0_2) := (blk_cell BK196.out 2).trans rfl
          have hcz55_3 : wc.cell? ⟨gb196, 3, none⟩ = some (.int .u64 a0_3) := (blk_cell BK196.out 3).trans rfl
          have hcz55_4 : wc.cell? ⟨gb196, 4, none⟩ = some (.int .u64 a0_4) := (blk_cell BK196.out 4).trans rfl
          have hcz55_5 : wc.cell? ⟨gb196, 5, none⟩ = some (.int .u64 a0_5) := (blk_cell BK196.out 5).trans rfl
          have hcz55_6 : wc.cell? ⟨gb196, 6, none⟩ = some (.int .u64 a0_6) := (blk_cell BK196.out 6).trans rfl
          have hfz55_0 := blk_frozen BK196.out 0
          have hfz55_1 := blk_frozen BK196.out 1
          have hfz55_2 := blk_frozen BK196.out 2
          have hfz55_3 := blk_frozen BK196.out 3
          have hfz55_4 := blk_frozen BK196.out 4
          have hfz55_5 := blk_frozen BK196.out 5
          have hfz55_6 := blk_frozen BK196.out 6
          go_wp2
          go_ret
          exact ⟨by first | rfl | (simp [errW_none, errW_some] <;> rfl) | (simp [*, errW_none, errW_some] <;> rfl), by repeat (first | (with_reducible first | exact HB.out | apply below_alloc | apply pw_below_drewN | apply below_drew1 | refine below_set ?_ GE196.out) | exact HB.out)⟩
         ·
          rw [if_neg c54] at H
          have c54b0 : (a0_0 == 1) = false := beq_eq_false_iff_ne.mpr c54
          have c54b1 : (a0_0 != 1) = true := bne_iff_ne.mpr c54
          obtain rfl := Option.some.inj H
          have hcz56_0 : wc.cell? ⟨gb196, 0, none⟩ = some (.int .i64 a0_0) := (blk_cell BK196.out 0).trans rfl
          have hcz56_1 : wc.cell? ⟨gb196, 1, none⟩ = some (.slice A0_1 l0_1.length c0_1) := (blk_cell BK196.out 1).trans rfl
          have hcz56_2 : wc.cell? ⟨gb196, 2, none⟩ = some (.int .i64 a0_2) := (blk_cell BK196.out 2).trans rfl
          have hcz56_3 : wc.cell? ⟨gb196, 3, none⟩ = some (.int .u64 a0_3) := (blk_cell BK196.out 3).trans rfl
          have hcz56_4 : wc.cell? ⟨gb196, 4, none⟩ = some (.int .u64 a0_4) := (blk_cell BK196.out 4).trans rfl
          have hcz56_5 : wc.cell? ⟨gb196, 5, none⟩ = some (.int .u64 a0_5) := (blk_cell BK196.out 5).trans rfl
          have hcz56_6 : wc.cell? ⟨gb196, 6, none⟩ = some (.int .u64 a0_6) := (blk_cell BK196.out 6).trans rfl
          have hfz56_0 := blk_frozen BK196.out 0
          have hfz56_1 := blk_frozen BK196.out 1
          have hfz56_2 := blk_frozen BK196.out 2
          have hfz56_3 := blk_frozen BK196.out 3
          have hfz56_4 := blk_frozen BK196.out 4
          have hfz56_5 := blk_frozen BK196.out 5
          have hfz56_6 := blk_frozen BK196.out 6
          go_wp2
          go_ret
          exact ⟨by first | rfl | (simp [errW_none, errW_some] <;> rfl) | (simp [*, errW_none, errW_some] <;> rfl), by repeat (first | (with_reducible first | exact HB.out | apply below_alloc | apply pw_below_drewN | apply below_drew1 | refine below_set ?_ GE196.out) | exact HB.out)⟩
        ·
         rw [if_neg c53] at H
         have c53b0 : (a0_2 == 0) = false := beq_eq_false_iff_ne.mpr c53
         have c53b1 : (a0_2 != 0) = true := bne_iff_ne.mpr c53
         obtain rfl := Option.some.inj H
         have hcz57_0 : wc.cell? ⟨gb196, 0, none⟩ = some (.int .i64 a0_0) := (blk_cell BK196.out 0).trans rfl
         have hcz57_1 : wc.cell? ⟨gb196, 1, none⟩ = some (.slice A0_1 l0_1.length c0_1) := (blk_cell BK196.out 1).trans rfl
         have hcz57_2 : wc.cell? ⟨gb196, 2, none⟩ = some (.int .i64 a0_2) := (blk_cell BK196.out 2).trans rfl
         have hcz57_3 : wc.cell? ⟨gb196, 3, none⟩ = some (.int .u64 a0_3) := (blk_cell BK196.out 3).trans rfl
         have hcz57_4 : wc.cell? ⟨gb196, 4, none⟩ = some (.int .u64 a0_4) := (blk_cell BK196.out 4).trans rfl
         have hcz57_5 : wc.cell? ⟨gb196, 5, none⟩ = some (.int .u64 a0_5) := (blk_cell BK196.out 5).trans rfl
         have hcz57_6 : wc.cell? ⟨gb196, 6, none⟩ = some (.int .u64 a0_6) := (blk_cell BK196.out 6).trans rfl
         have hfz57_0 := blk_frozen BK196.out 0
         have hfz57_1 := blk_frozen BK196.out 1
         have hfz57_2 := blk_frozen BK196.out 2
         have hfz57_3 := blk_frozen BK196.out 3
         have hfz57_4 := blk_frozen BK196.out 4
         have hfz57_5 := blk_frozen BK196.out 5
         have hfz57_6 := blk_frozen BK196.out 6
         go_wp2
         go_ret
         exact ⟨by first | rfl | (simp [errW_none, errW_some] <;> rfl) | (simp [*, errW_none, errW_some] <;> rfl), by repeat (first | (with_reducible first | exact HB.out | apply below_alloc | apply pw_below_drewN | apply below_drew1 | refine below_set ?_ GE196.out) | exact HB.out)⟩
end Go.Proofs.Ythgedejnpgcacaa.V
namespace Go.Proofs.Ythgedejnpgcacaa.V
open Go.RowKit Go.Proofs.YthgedejnpgcacaaW.PrintWords Go.Proofs.YthgedejnpgcacaaW.PrintLast Go.Proofs.YthgedejnpgcacaaW.PrintMore
attribute [local go_sem] max2_int min2_int max_two min_two max_three min_three max_four min_four tdiv_most
set_option linter.unusedVariables false
set_option linter.unusedSimpArgs false
mutual
def vetchref05_Expression.l0 : Nat → Int → Int → Int → List (S51) → List (S56) → Option (Int)
 | 0, _, _, _, _, _ => none
 | k + 1, x1, x5, x6, x198000, x198001 => if x6 ≥ 0 then (if 0 ≤ x1 then (if x1 < (x198001.length : Int) then (if 0 ≤ x6 then (if x6 < (((rd_T56 x198001 x1).f1).length : Int) then (if (rd ((rd_T56 x198001 x1).f1) x6) = x5 then ((vetchref05_Expression.f k x198000 x198001 x5).bind fun t201 => (if t201 = (-2) then (some (-2)) else (vetchref05_Expression.l0 k x1 t201 (wrap64 (x6 - 1)) x198000 x198001))) else (some (-2))) else (none)) else (none)) else (none)) else (none)) else (some x5)
def vetchref05_Expression.f : Nat → List (S51) → List (S56) → Int → Option (Int)
 | 0, _, _, _ => none
 | k + 1, l0_0, l0_1, a1 => if a1 < 0 then (some (-2)) else (if 0 ≤ a1 then (if a1 < (l0_1.length : Int) then (vetchref05_Expression.l0 k a1 (wrap64 (a1 - 1)) (wrap64 ((((rd_T56 l0_1 a1).f1).length : Int) - 1)) l0_0 l0_1) else (none)) else (none))
end
theorem vetchref05_Expression.mono_l : ∀ k, (∀ y0 y1 y2, LeO (vetchref05_Expression.f k y0 y1 y2) (vetchref05_Expression.f (k + 1) y0 y1 y2)) ∧ (∀ y0 y1 y2 y3 y4, LeO (vetchref05_Expression.l0 k y0 y1 y2 y3 y4) (vetchref05_Expression.l0 (k + 1) y0 y1 y2 y3 y4))
 | 0 => ⟨fun _ _ _ r h => by simp [vetchref05_Expression.f] at h, fun _ _ _ _ _ r h => by simp [vetchref05_Expression.l0] at h⟩
 | k + 1 => by
  obtain ⟨ih0, ih1⟩ := vetchref05_Expression.mono_l k
  refine ⟨?_, ?_⟩
  ·
   intro y0 y1 y2
   unfold vetchref05_Expression.f
   repeat' first
   | (with_reducible exact ih0 _ _ _)
   | (with_reducible exact ih1 _ _ _ _ _)
   | (with_reducible exact LeO.refl _)
   | (with_reducible exact LeO.none _)
   | (with_reducible refine LeO.ite ?_ ?_)
   | (with_reducible refine LeO.bind ?_ (fun _ => ?_))
   | exact ih0 _ _ _
   | exact ih1 _ _ _ _ _
   | exact LeO.none _
   | refine LeO.ite ?_ ?_
   | refine LeO.bind ?_ (fun _ => ?_)
  ·
   intro y0 y1 y2 y3 y4
   unfold vetchref05_Expression.l0
   repeat' first
   | (with_reducible exact ih0 _ _ _)
   | (with_reducible exact ih1 _ _ _ _ _)
   | (with_reducible exact LeO.refl _)
   | (with_reducible exact LeO.none _)
   | (with_reducible refine LeO.ite ?_ ?_)
   | (with_reducible refine LeO.bind ?_ (fun _ => ?_))
   | exact ih0 _ _ _
   | exact ih1 _ _ _ _ _
   | exact LeO.none _
   | refine LeO.ite ?_ ?_
   | refine LeO.bind ?_ (fun _ => ?_)
theorem vetchref05_Expression.mono : ∀ a0 a1 a2 k, LeO (vetchref05_Expression.f k a0 a1 a2) (vetchref05_Expression.f (k + 1) a0 a1 a2) := by
 intro a0 a1 a2 k
 obtain ⟨ih0, ih1⟩ := vetchref05_Expression.mono_l k
 exact ih0 a0 a1 a2
set_option maxHeartbeats 8000000 in
set_option maxRecDepth 100000 in
theorem vetchref05_Expression.calls (k : Nat) : ∀ (A0_0 : Option Addr) (c0_0 : Nat) (l0_0 : List (S51)) (A0_1 : Option Addr) (c0_1 : Nat) (l0_1 : List (S56)) (a1 : Int) (r : Int) (w : World) (hr0_0 : Kd.C k51 w A0_0 l0_0.length l0_0) (hc0_0 : l0_0.length ≤ c0_0) (hr0_1 : Kd.C k56 w A0_1 l0_1.length l0_1) (hc0_1 : l0_1.length ≤ c0_1) (h : vetchref05_Expression.f k l0_0 l0_1 a1 = some r),
 Calls Try.prog 42 #[.agg #[.slice A0_0 l0_0.length c0_0, .slice A0_1 l0_1.length c0_1], .int .i64 a1] w fun e w' => e = .returned (.int .i64 r) ∧ Below w.heap.size w w' := by
 induction k using Nat.strongRecOn with
 | _ k ih =>
 intro A0_0 c0_0 l0_0 A0_1 c0_1 l0_1 a1 r w hr0_0 hc0_0 hr0_1 hc0_1 h
 cases k with
 | zero => exact absurd h (by simp [vetchref05_Expression.f])
 | succ k =>
 simp only [vetchref05_Expression.f] at h
 have hu25 := Try.underlying25
 have HR0_0 := Aside0.mk hr0_0
 have HC0_0 := Aside0.mk hc0_0
 clear hr0_0 hc0_0
 have HR0_1 := Aside0.mk hr0_1
 have HC0_1 := Aside0.mk hc0_1
 clear hr0_1 hc0_1
 have HB := Aside0.mk (Below.refl w.heap.size w)
 have H : (if a1 < 0 then (some (-2)) else (if 0 ≤ a1 then (if a1 < (l0_1.length : Int) then (vetchref05_Expression.l0 k a1 (wrap64 (a1 - 1)) (wrap64 ((((rd_T56 l0_1 a1).f1).length : Int) - 1)) l0_0 l0_1) else (none)) else (none))) = some r := h
 clear h
 by_cases c3 : a1 < 0
 ·
  rw [if_pos c3] at H
  have c3b0 : decide (a1 < 0) = true := decide_eq_true c3
  clear c3
  obtain rfl := Option.some.inj H
  go_enter Try.func42, Try.ntmps42
  go_wp2_with (first | ((with_reducible refine gate_dst (N := 2) rfl ?_); refine box_event ?hg (N := 2) ?hd (cs := #[.slice A0_0 l0_0.length c0_0, .slice A0_1 l0_1.length c0_1]) (t := 25) ?hr ?_; (case hd => rfl); (case hg => rfl); (case hr => first | (go_simp; done) | (go_simp; rfl)); intro gb197 hg w4 hbox hb; have n0_ := Aside0.mk (below_step (by repeat (first | (with_reducible first | exact HB.out | apply below_alloc | apply pw_below_drewN | apply below_drew1) | exact HB.out)) hb); have n1_ := Aside0.mk (hbox); have n2_ := Aside0.mk ((by rw [hg]; exact (below_size (by repeat (first | (with_reducible first | exact HB.out | apply below_alloc | apply pw_below_drewN | apply below_drew1) | exact HB.out))) : w.heap.size ≤ gb197)); have n3_ := Aside0.mk ((by rw [hg]; exact (below_size (by repeat (first | (with_reducible first | exact HB.out | apply below_alloc | apply pw_below_drewN | apply below_drew1) | exact HB.out))) : w.heap.size ≤ gb197)); clear HB; have HB := n0_; have BK197 := n1_; have GW197 := n2_; have GE197 := n3_; clear n0_ n1_ n2_ n3_; clear hb hbox hg))
  go_ret
  exact ⟨by first | rfl | (simp [errW_none, errW_some] <;> rfl) | (simp [*, errW_none, errW_some] <;> rfl), by repeat (first | (with_reducible first | exact HB.out | apply below_alloc | apply pw_below_drewN | apply below_drew1 | refine below_set ?_ GE197.out) | exact HB.out)⟩
 ·
  rw [if_neg c3] at H
  have c3b0 : decide (a1 < 0) = false := decide_eq_false c3
  clear c3
  by_cases c5 : 0 ≤ a1
  ·
   rw [if_pos c5] at H
   have c5b0 : decide (0 ≤ a1) = true := decide_eq_true c5
   clear c5
   by_cases c6 : a1 < (l0_1.length : Int)
   ·
    rw [if_pos c6] at H
    have c6b0 : decide (a1 < (l0_1.length : Int)) = true := decide_eq_true c6
    clear c6
    have H' := Aside0.mk H
    clear H
    go_enter Try.func42, Try.ntmps42
    go_wp2_with (first | ((with_reducible refine gate_dst (N := 2) rfl ?_); refine box_event ?hg (N := 2) ?hd (cs := #[.slice A0_0 l0_0.length c0_0, .slice A0_1 l0_1.length c0_1]) (t := 25) ?hr ?_; (case hd => rfl); (case hg => rfl); (case hr => first | (go_simp; done) | (go_simp; rfl)); intro gb197 hg w7 hbox hb; have n0_ := Aside0.mk (below_step (by repeat (first | (with_reducible first | exact HB.out | apply below_alloc | apply pw_below_drewN | apply below_drew1) | exact HB.out)) hb); have n1_ := Aside0.mk (hbox); have n2_ := Aside0.mk ((by rw [hg]; exact (below_size (by repeat (first | (with_reducible first | exact HB.out | apply below_alloc | apply pw_below_drewN | apply below_drew1) | exact HB.out))) : w.heap.size ≤ gb197)); have n3_ := Aside0.mk ((by rw [hg]; exact (below_size (by repeat (first | (with_reducible first | exact HB.out | apply below_alloc | apply pw_below_drewN | apply below_drew1) | exact HB.out))) : w.heap.size ≤ gb197)); clear HB; have HB := n0_; have BK197 := n1_; have GW197 := n2_; have GE197 := n3_; clear n0_ n1_ n2_ n3_; clear hb hbox hg; have hcz8_0 : w7.cell? ⟨gb197, 0, none⟩ = some (.slice A0_0 l0_0.length c0_0) := (blk_cell BK197.out 0).trans rfl; have hcz8_1 : w7.cell? ⟨gb197, 1, none⟩ = some (.slice A0_1 l0_1.length c0_1) := (blk_cell BK197.out 1).trans rfl; have hfz8_0 := blk_frozen BK197.out 0; have hfz8_1 := blk_frozen BK197.out 1; have p198 : 0 ≤ (a1 : Int) := of_decide_eq_true (by first | (with_reducible assumption) | assumption); have q198 : a1 < (l0_1.length : Int) := of_decide_eq_true (by first | (with_reducible assumption) | assumption); obtain ⟨ad198, A198_1, c198_1, e198, hx198_0, hx198_1, hx198_2, hx198_3, hx198_4, hx198_5, hx198_6, hl198_1, hi198_1⟩ := at_T56 HR0_1.out a1 p198 q198; cases e198; replace hx198_0 := (HB.out.cell (World.block_lt_of_cell? w _ hx198_0)).trans hx198_0; replace hx198_1 := (HB.out.cell (World.block_lt_of_cell? w _ hx198_1)).trans hx198_1; replace hx198_2 := (HB.out.cell (World.block_lt_of_cell? w _ hx198_2)).trans hx198_2; replace hx198_3 := (HB.out.cell (World.block_lt_of_cell? w _ hx198_3)).trans hx198_3; replace hx198_4 := (HB.out.cell (World.block_lt_of_cell? w _ hx198_4)).trans hx198_4; replace hx198_5 := (HB.out.cell (World.block_lt_of_cell? w _ hx198_5)).trans hx198_5; replace hx198_6 := (HB.out.cell (World.block_lt_of_cell? w _ hx198_6)).trans hx198_6; have HR198_1 := Aside0.mk hi198_1; have HC198_1 := Aside0.mk hl198_1; clear hi198_1 hl198_1; replace p198 := eq_true p198; replace q198 := eq_true q198))
    go_loopg [5, 6] k (fun kq v5 v6 w' => ∃ (x5_1 : Int) (x6_1 : Int), v5 = .int .i64 x5_1 ∧ v6 = .int .i64 x6_1 ∧ Aside0 (vetchref05_Expression.l0 kq a1 x5_1 x6_1 l0_0 l0_1 = some r) ∧ Aside0 (kq ≤ k) ∧ Aside0 (w'.heap[gb197]? = some (.cells #[(.slice A0_0 l0_0.length c0_0), (.slice (some ad198) l0_1.length c0_1)] 25 (0, 0))) ∧ Aside0 (Below w.heap.size w w'))
    case atStart => exact ⟨(wrap64 (a1 - 1)), (wrap64 ((((rd_T56 l0_1 a1).f1).length : Int) - 1)), (by first | rfl | (simp; done) | (simp [*]; done)), (by first | rfl | (simp; done) | (simp [*]; done)), H', ⟨Nat.le_refl _⟩, ⟨by (with_reducible repeat (first | refine blk_drewN ?_ _ | refine blk_drew ?_ | refine blk_alloc ?_ _)); exact BK197.out⟩, ⟨by repeat (first | (with_reducible first | exact HB.out | apply below_alloc | apply pw_below_drewN | apply below_drew1 | refine below_set ?_ GE197.out) | exact HB.out)⟩⟩
    case round =>
     clear H'
     try clear c1
     try clear p1
     try clear q1
     try clear hx1
     try clear p2
     try clear c3
     try clear c3b0
     try clear c4
     try clear c5
     try clear c5b0
     try clear c6
     try clear c6b0
     try clear p6
     try clear hcz8_0
     try clear hcz8_1
     try clear hfz8_0
     try clear hfz8_1
     try clear hx198_0
     try clear hx198_1
     try clear hx198_2
     try clear hx198_3
     try clear hx198_4
     try clear hx198_5
     try clear hx198_6
     try clear p198
     try clear q198
     obtain ⟨x5_1, x6_1, rfl, rfl, HA, HK1, BK197, HB⟩ := hrel
     cases gk with
     | zero => exact absurd HA.out (by simp [vetchref05_Expression.l0])
     | succ k1 =>
      have H := HA.out
      clear HA
      simp only [vetchref05_Expression.l0] at H
      by_cases c9 : x6_1 ≥ 0
      ·
       rw [if_pos c9] at H
       have c9b0 : decide (0 ≤ x6_1) = true := decide_eq_true c9
       clear c9
       by_cases c10 : 0 ≤ a1
       ·
        rw [if_pos c10] at H
        have c10b0 : decide (0 ≤ a1) = true := decide_eq_true c10
        clear c10
        by_cases c11 : a1 < (l0_1.length : Int)
        ·
         rw [if_pos c11] at H
         have c11b0 : decide (a1 < (l0_1.length : Int)) = true := decide_eq_true c11
         clear c11
         by_cases c12 : 0 ≤ x6_1
         ·
          rw [if_pos c12] at H
          have c12b0 : decide (0 ≤ x6_1) = true := decide_eq_true c12
          clear c12
          by_cases c13 : x6_1 < (((rd_T56 l0_1 a1).f1).length : Int)
          ·
           rw [if_pos c13] at H
           have c13b0 : decide (x6_1 < (((rd_T56 l0_1 a1).f1).length : Int)) = true := decide_eq_true c13
           clear c13
           by_cases c14 : (rd ((rd_T56 l0_1 a1).f1) x6_1) = x5_1
           ·
            rw [if_pos c14] at H
            have c14b0 : ((rd ((rd_T56 l0_1 a1).f1) x6_1) == x5_1) = true := beq_iff_eq.mpr c14
            have c14b1 : ((rd ((rd_T56 l0_1 a1).f1) x6_1) != x5_1) = false := bne_eq_false_iff_eq.mpr c14
            clear c14
            replace H := Option.bind_eq_some_iff.mp H
            obtain ⟨t201, A150, H⟩ := H
            replace H : (if t201 = (-2) then (some (-2)) else (vetchref05_Expression.l0 k1 a1 t201 (wrap64 (x6_1 - 1)) l0_0 l0_1)) = some r := H
            have A15 := Aside0.mk A150
            clear A150
            by_cases c16 : t201 = (-2)
            ·
             rw [if_pos c16] at H
             have c16b0 : (t201 == (-2)) = true := beq_iff_eq.mpr c16
             have c16b1 : (t201 != (-2)) = false := bne_eq_false_iff_eq.mpr c16
             clear c16
             obtain rfl := Option.some.inj H
             have hcz17_0 : wr.cell? ⟨gb197, 0, none⟩ = some (.slice A0_0 l0_0.length c0_0) := (blk_cell BK197.out 0).trans rfl
             have hcz17_1 : wr.cell? ⟨gb197, 1, none⟩ = some (.slice (some ad198) l0_1.length c0_1) := (blk_cell BK197.out 1).trans rfl
             have hfz17_0 := blk_frozen BK197.out 0
             have hfz17_1 := blk_frozen BK197.out 1
             have p199 : 0 ≤ (a1 : Int) := of_decide_eq_true (by first | (with_reducible assumption) | assumption)
             have q199 : a1 < (l0_1.length : Int) := of_decide_eq_true (by first | (with_reducible assumption) | assumption)
             obtain ⟨ad199, A199_1, c199_1, e199, hx199_0, hx199_1, hx199_2, hx199_3, hx199_4, hx199_5, hx199_6, hl199_1, hi199_1⟩ := at_T56 HR0_1.out a1 p199 q199
             obtain rfl : ad198 = ad199 := (by injection e199)
             replace hx199_0 := (HB.out.cell (World.block_lt_of_cell? w _ hx199_0)).trans hx199_0
             replace hx199_1 := (HB.out.cell (World.block_lt_of_cell? w _ hx199_1)).trans hx199_1
             replace hx199_2 := (HB.out.cell (World.block_lt_of_cell? w _ hx199_2)).trans hx199_2
             replace hx199_3 := (HB.out.cell (World.block_lt_of_cell? w _ hx199_3)).trans hx199_3
             replace hx199_4 := (HB.out.cell (World.block_lt_of_cell? w _ hx199_4)).trans hx199_4
             replace hx199_5 := (HB.out.cell (World.block_lt_of_cell? w _ hx199_5)).trans hx199_5
             replace hx199_6 := (HB.out.cell (World.block_lt_of_cell? w _ hx199_6)).trans hx199_6
             have HR199_1 := Aside0.mk hi199_1
             have HC199_1 := Aside0.mk hl199_1
             clear hi199_1 hl199_1
             replace p199 := eq_true p199
             replace q199 := eq_true q199
             have p200 : 0 ≤ (x6_1 : Int) := of_decide_eq_true (by first | (with_reducible assumption) | assumption)
             have q200 : x6_1 < (((rd_T56 l0_1 a1).f1).length : Int) := of_decide_eq_true (by first | (with_reducible assumption) | assumption)
             obtain ⟨ad200, e200, hx200_0⟩ := Kd.at_int HR199_1.out x6_1 p200 q200
             cases e200
             replace hx200_0 := (HB.out.cell (World.block_lt_of_cell? w _ hx200_0)).trans hx200_0
             replace p200 := eq_true p200
             replace q200 := eq_true q200
             go_wp2_with (first | ((with_reducible refine gate_callee (f := 42) rfl ?_); refine goesL_ (some 36) rfl rfl Try.func42 (by kernel_rfl) rfl #[.agg #[.slice A0_0 l0_0.length c0_0, .slice (some ad198) l0_1.length c0_1], .int .i64 x5_1] rfl (by (try simp only [List.map_toArray, List.map_cons, List.map_nil]); first | done | rfl | (simp only [List.length_drop, List.length_take]; rfl)) ?_; (with_reducible refine (ih k1 (by have := HK1.out; omega) _ _ l0_0 _ _ l0_1 x5_1 t201 _ ?side1 ?side2 ?side3 ?side4 A15.out).mono ?_); (case side1 => repeat (first | exact (Kd.C_below HR0_0.out HB.out) | (with_reducible refine Kd.C_alloc ?_ _) | (with_reducible refine Kd.C_drewN ?_ _) | (with_reducible refine Kd.C_drew ?_))); (case side2 => exact HC0_0.out); (case side3 => repeat (first | exact (Kd.C_below HR0_1.out HB.out) | (with_reducible refine Kd.C_alloc ?_ _) | (with_reducible refine Kd.C_drewN ?_ _) | (with_reducible refine Kd.C_drew ?_))); (case side4 => exact HC0_1.out); rintro e w18 ⟨rfl, hb⟩; refine ⟨_, rfl, ?_⟩; have n0_ := Aside0.mk (blk_below (g := gb197) (o := .cells #[.slice A0_0 l0_0.length c0_0, .slice (some ad198) l0_1.length c0_1] 25 (0, 0)) (by (with_reducible repeat (first | refine blk_drewN ?_ _ | refine blk_drew ?_ | refine blk_alloc ?_ _)); exact BK197.out) hb); have n1_ := Aside0.mk (below_step (by repeat (first | (with_reducible first | exact HB.out | apply below_alloc | apply pw_below_drewN | apply below_drew1 | refine below_set ?_ GE197.out) | exact HB.out)) hb); clear BK197; clear HB; have BK197 := n0_; have HB := n1_; clear n0_ n1_; (try clear hb); (try clear hb2); (try clear hk); (try clear hi)))
             go_ret
             exact ⟨by first | rfl | (simp [errW_none, errW_some] <;> rfl) | (simp [*, errW_none, errW_some] <;> rfl), by repeat (first | (with_reducible first | exact HB.out | apply below_alloc | apply pw_below_drewN | apply below_drew1 | refine below_set ?_ GE197.out) | exact HB.out)⟩
            ·
             rw [if_neg c16] at H
             have c16b0 : (t201 == (-2)) = false := beq_eq_false_iff_ne.mpr c16
             have c16b1 : (t201 != (-2)) = true := bne_iff_ne.mpr c16
             have H' := Aside0.mk H
             clear H
             have hcz19_0 : wr.cell? ⟨gb197, 0, none⟩ = some (.slice A0_0 l0_0.length c0_0) := (blk_cell BK197.out 0).trans rfl
             have hcz19_1 : wr.cell? ⟨gb197, 1, none⟩ = some (.slice (some ad198) l0_1.length c0_1) := (blk_cell BK197.out 1).trans rfl
             have hfz19_0 := blk_frozen BK197.out 0
             have hfz19_1 := blk_frozen BK197.out 1
             have p199 : 0 ≤ (a1 : Int) := of_decide_eq_true (by first | (with_reducible assumption) | assumption)
             have q199 : a1 < (l0_1.length : Int) := of_decide_eq_true (by first | (with_reducible assumption) | assumption)
             obtain ⟨ad199, A199_1, c199_1, e199, hx199_0, hx199_1, hx199_2, hx199_3, hx199_4, hx199_5, hx199_6, hl199_1, hi199_1⟩ := at_T56 HR0_1.out a1 p199 q199
             obtain rfl : ad198 = ad199 := (by injection e199)
             replace hx199_0 := (HB.out.cell (World.block_lt_of_cell? w _ hx199_0)).trans hx199_0
             replace hx199_1 := (HB.out.cell (World.block_lt_of_cell? w _ hx199_1)).trans hx199_1
             replace hx199_2 := (HB.out.cell (World.block_lt_of_cell? w _ hx199_2)).trans hx199_2
             replace hx199_3 := (HB.out.cell (World.block_lt_of_cell? w _ hx199_3)).trans hx199_3
             replace hx199_4 := (HB.out.cell (World.block_lt_of_cell? w _ hx199_4)).trans hx199_4
             replace hx199_5 := (HB.out.cell (World.block_lt_of_cell? w _ hx199_5)).trans hx199_5
             replace hx199_6 := (HB.out.cell (World.block_lt_of_cell? w _ hx199_6)).trans hx199_6
             have HR199_1 := Aside0.mk hi199_1
             have HC199_1 := Aside0.mk hl199_1
             clear hi199_1 hl199_1
             replace p199 := eq_true p199
             replace q199 := eq_true q199
             have p200 : 0 ≤ (x6_1 : Int) := of_decide_eq_true (by first | (with_reducible assumption) | assumption)
             have q200 : x6_1 < (((rd_T56 l0_1 a1).f1).length : Int) := of_decide_eq_true (by first | (with_reducible assumption) | assumption)
             obtain ⟨ad200, e200, hx200_0⟩ := Kd.at_int HR199_1.out x6_1 p200 q200
             cases e200
             replace hx200_0 := (HB.out.cell (World.block_lt_of_cell? w _ hx200_0)).trans hx200_0
             replace p200 := eq_true p200
             replace q200 := eq_true q200
             go_wp2_with (first | ((with_reducible refine gate_callee (f := 42) rfl ?_); refine goesL_ (some 36) rfl rfl Try.func42 (by kernel_rfl) rfl #[.agg #[.slice A0_0 l0_0.length c0_0, .slice (some ad198) l0_1.length c0_1], .int .i64 x5_1] rfl (by (try simp only [List.map_toArray, List.map_cons, List.map_nil]); first | done | rfl | (simp only [List.length_drop, List.length_take]; rfl)) ?_; (with_reducible refine (ih k1 (by have := HK1.out; omega) _ _ l0_0 _ _ l0_1 x5_1 t201 _ ?side1 ?side2 ?side3 ?side4 A15.out).mono ?_); (case side1 => repeat (first | exact (Kd.C_below HR0_0.out HB.out) | (with_reducible refine Kd.C_alloc ?_ _) | (with_reducible refine Kd.C_drewN ?_ _) | (with_reducible refine Kd.C_drew ?_))); (case side2 => exact HC0_0.out); (case side3 => repeat (first | exact (Kd.C_below HR0_1.out HB.out) | (with_reducible refine Kd.C_alloc ?_ _) | (with_reducible refine Kd.C_drewN ?_ _) | (with_reducible refine Kd.C_drew ?_))); (case side4 => exact HC0_1.out); rintro e w20 ⟨rfl, hb⟩; refine ⟨_, rfl, ?_⟩; have n0_ := Aside0.mk (blk_below (g := gb197) (o := .cells #[.slice A0_0 l0_0.length c0_0, .slice (some ad198) l0_1.length c0_1] 25 (0, 0)) (by (with_reducible repeat (first | refine blk_drewN ?_ _ | refine blk_drew ?_ | refine blk_alloc ?_ _)); exact BK197.out) hb); have n1_ := Aside0.mk (below_step (by repeat (first | (with_reducible first | exact HB.out | apply below_alloc | apply pw_below_drewN | apply below_drew1 | refine below_set ?_ GE197.out) | exact HB.out)) hb); clear BK197; clear HB; have BK197 := n0_; have HB := n1_; clear n0_ n1_; (try clear hb); (try clear hb2); (try clear hk); (try clear hi)))
             go_roundg k1
             case measure => have := HK1.out; omega
             case rel => exact ⟨(t201), (wrap64 (x6_1 - 1)), (by first | rfl | (simp; done) | (simp [*]; done)), (by first | rfl | (simp; done) | (simp [*]; done)), H', ⟨by have := HK1.out; omega⟩, ⟨by (with_reducible repeat (first | refine blk_drewN ?_ _ | refine blk_drew ?_ | refine blk_alloc ?_ _)); exact BK197.out⟩, ⟨by repeat (first | (with_reducible first | exact HB.out | apply below_alloc | apply pw_below_drewN | apply below_drew1 | refine below_set ?_ GE197.out) | exact HB.out)⟩⟩
           ·
            rw [if_neg c14] at H
            have c14b0 : ((rd ((rd_T56 l0_1 a1).f1) x6_1) == x5_1) = false := beq_eq_false_iff_ne.mpr c14
            have c14b1 : ((rd ((rd_T56 l0_1 a1).f1) x6_1) != x5_1) = true := bne_iff_ne.mpr c14
            obtain rfl := Option.some.inj H
            have hcz21_0 : wr.cell? ⟨gb197, 0, none⟩ = some (.slice A0_0 l0_0.length c0_0) := (blk_cell BK197.out 0).trans rfl
            have hcz21_1 : wr.cell? ⟨gb197, 1, none⟩ = some (.slice (some ad198) l0_1.length c0_1) := (blk_cell BK197.out 1).trans rfl
            have hfz21_0 := blk_frozen BK197.out 0
            have hfz21_1 := blk_frozen BK197.out 1
            have p199 : 0 ≤ (a1 : Int) := of_decide_eq_true (by first | (with_reducible assumption) | assumption)
            have q199 : a1 < (l0_1.length : Int) := of_decide_eq_true (by first | (with_reducible assumption) | assumption)
            obtain ⟨ad199, A199_1, c199_1, e199, hx199_0, hx199_1, hx199_2, hx199_3, hx199_4, hx199_5, hx199_6, hl199_1, hi199_1⟩ := at_T56 HR0_1.out a1 p199 q199
            obtain rfl : ad198 = ad199 := (by injection e199)
            replace hx199_0 := (HB.out.cell (World.block_lt_of_cell? w _ hx199_0)).trans hx199_0
            replace hx199_1 := (HB.out.cell (World.block_lt_of_cell? w _ hx199_1)).trans hx199_1
            replace hx199_2 := (HB.out.cell (World.block_lt_of_cell? w _ hx199_2)).trans hx199_2
            replace hx199_3 := (HB.out.cell (World.block_lt_of_cell? w _ hx199_3)).trans hx199_3
            replace hx199_4 := (HB.out.cell (World.block_lt_of_cell? w _ hx199_4)).trans hx199_4
            replace hx199_5 := (HB.out.cell (World.block_lt_of_cell? w _ hx199_5)).trans hx199_5
            replace hx199_6 := (HB.out.cell (World.block_lt_of_cell? w _ hx199_6)).trans hx199_6
            have HR199_1 := Aside0.mk hi199_1
            have HC199_1 := Aside0.mk hl199_1
            clear hi199_1 hl199_1
            replace p199 := eq_true p199
            replace q199 := eq_true q199
            have p200 : 0 ≤ (x6_1 : Int) := of_decide_eq_true (by first | (with_reducible assumption) | assumption)
            have q200 : x6_1 < (((rd_T56 l0_1 a1).f1).length : Int) := of_decide_eq_true (by first | (with_reducible assumption) | assumption)
            obtain ⟨ad200, e200, hx200_0⟩ := Kd.at_int HR199_1.out x6_1 p200 q200
            cases e200
            replace hx200_0 := (HB.out.cell (World.block_lt_of_cell? w _ hx200_0)).trans hx200_0
            replace p200 := eq_true p200
            replace q200 := eq_true q200
            go_wp2
            go_ret
            exact ⟨by first | rfl | (simp [errW_none, errW_some] <;> rfl) | (simp [*, errW_none, errW_some] <;> rfl), by repeat (first | (with_reducible first | exact HB.out | apply below_alloc | apply pw_below_drewN | apply below_drew1 | refine below_set ?_ GE197.out) | exact HB.out)⟩
          ·
           rw [if_neg c13] at H
           exact absurd H (by simp)
         ·
          rw [if_neg c12] at H
          exact absurd H (by simp)
        ·
         rw [if_neg c11] at H
         exact absurd H (by simp)
       ·
        rw [if_neg c10] at H
        exact absurd H (by simp)
      ·
       rw [if_neg c9] at H
       have c9b0 : decide (0 ≤ x6_1) = false := decide_eq_false c9
       clear c9
       obtain rfl := Option.some.inj H
       go_wp2
       go_ret
       exact ⟨by first | rfl | (simp [errW_none, errW_some] <;> rfl) | (simp [*, errW_none, errW_some] <;> rfl), by repeat (first | (with_reducible first | exact HB.out | apply below_alloc | apply pw_below_drewN | apply below_drew1 | refine below_set ?_ GE197.out) | exact HB.out)⟩
   ·
    rw [if_neg c6] at H
    exact absurd H (by simp)
  ·
   rw [if_neg c5] at H
   exact absurd H (by simp)
end Go.Proofs.Ythgedejnpgcacaa.V
namespace Go.Proofs.Ythgedejnpgcacaa.V
open Go.RowKit Go.Proofs.YthgedejnpgcacaaW.PrintWords Go.Proofs.YthgedejnpgcacaaW.PrintLast Go.Proofs.YthgedejnpgcacaaW.PrintMore
attribute [local go_sem] max2_int min2_int max_two min_two max_three min_three max_four min_four tdiv_most
set_option linter.unusedVariables false
set_option linter.unusedSimpArgs false
def vetchref05_Ordered.l0 : Nat → Int → Int → List (S51) → List (S56) → Option (Bool)
 | 0, _, _, _, _ => none
 | k + 1, x3, x4, x203000, x203001 => if x4 < (x203000.length : Int) then (if 0 ≤ x4 then (if ((rd_T51 x203000 x4).f1) ≤ x3 then (some false) else (if ((rd_T51 x203000 x4).f1) ≥ (x203001.length : Int) then (some false) else ((vetchref05_Expression.f k x203000 x203001 ((rd_T51 x203000 x4).f1)).bind fun t204 => (if t204 = x3 then (vetchref05_Ordered.l0 k ((rd_T51 x203000 x4).f1) (wrap64 (x4 + 1)) x203000 x203001) else (some false))))) else (none)) else (some (x3 == (wrap64 ((x203001.length : Int) - 1))))
def vetchref05_Ordered.f (k : Nat) (l0_0 : List (S51)) (l0_1 : List (S56)) : Option (Bool) := vetchref05_Ordered.l0 k (-1) 0 l0_0 l0_1
set_option maxHeartbeats 8000000 in
set_option maxRecDepth 100000 in
theorem vetchref05_Ordered.calls (k : Nat) (A0_0 : Option Addr) (c0_0 : Nat) (l0_0 : List (S51)) (A0_1 : Option Addr) (c0_1 : Nat) (l0_1 : List (S56)) (r : Bool) (w : World) (hr0_0 : Kd.C k51 w A0_0 l0_0.length l0_0) (hc0_0 : l0_0.length ≤ c0_0) (hr0_1 : Kd.C k56 w A0_1 l0_1.length l0_1) (hc0_1 : l0_1.length ≤ c0_1) (h : vetchref05_Ordered.f k l0_0 l0_1 = some r) :
 Calls Try.prog 38 #[.agg #[.slice A0_0 l0_0.length c0_0, .slice A0_1 l0_1.length c0_1]] w fun e w' => e = .returned (.bool r) ∧ Below w.heap.size w w' := by
 have hu25 := Try.underlying25
 have HR0_0 := Aside0.mk hr0_0
 have HC0_0 := Aside0.mk hc0_0
 clear hr0_0 hc0_0
 have HR0_1 := Aside0.mk hr0_1
 have HC0_1 := Aside0.mk hc0_1
 clear hr0_1 hc0_1
 have HB := Aside0.mk (Below.refl w.heap.size w)
 have H : (vetchref05_Ordered.l0 k (-1) 0 l0_0 l0_1) = some r := h
 clear h
 have H' := Aside0.mk H
 clear H
 go_enter Try.func38, Try.ntmps38
 go_wp2_with (first | ((with_reducible refine gate_dst (N := 1) rfl ?_); (try (refine gate_guard (by rfl) ?_; dsimp only)); refine box_event ?hg (N := 1) ?hd (cs := #[.slice A0_0 l0_0.length c0_0, .slice A0_1 l0_1.length c0_1]) (t := 25) ?hr ?_; (case hd => rfl); (case hg => rfl); (case hr => first | (go_simp; done) | (go_simp; rfl)); intro gb202 hg w2 hbox hb; have n0_ := Aside0.mk (below_step (by repeat (first | (with_reducible first | exact HB.out | apply below_alloc | apply pw_below_drewN | apply below_drew1) | exact HB.out)) hb); have n1_ := Aside0.mk (hbox); have n2_ := Aside0.mk ((by rw [hg]; exact (below_size (by repeat (first | (with_reducible first | exact HB.out | apply below_alloc | apply pw_below_drewN | apply below_drew1) | exact HB.out))) : w.heap.size ≤ gb202)); have n3_ := Aside0.mk ((by rw [hg]; exact (below_size (by repeat (first | (with_reducible first | exact HB.out | apply below_alloc | apply pw_below_drewN | apply below_drew1) | exact HB.out))) : w.heap.size ≤ gb202)); clear HB; have HB := n0_; have BK202 := n1_; have GW202 := n2_; have GE202 := n3_; clear n0_ n1_ n2_ n3_; clear hb hbox hg))
 go_loopg [3, 4] k (fun kq v3 v4 w' => ∃ (x3_1 : Int) (x4_1 : Int), v3 = .int .i64 x3_1 ∧ v4 = .int .i64 x4_1 ∧ Aside0 (vetchref05_Ordered.l0 kq x3_1 x4_1 l0_0 l0_1 = some r) ∧ Aside0 (kq ≤ k) ∧ Aside0 (w'.heap[gb202]? = some (.cells #[(.slice A0_0 l0_0.length c0_0), (.slice A0_1 l0_1.length c0_1)] 25 (0, 0))) ∧ Aside0 (Below w.heap.size w w'))
 case atStart => exact ⟨((-1)), (0), (by first | rfl | (simp; done) | (simp [*]; done)), (by first | rfl | (simp; done) | (simp [*]; done)), H', ⟨Nat.le_refl _⟩, ⟨by (with_reducible repeat (first | refine blk_drewN ?_ _ | refine blk_drew ?_ | refine blk_alloc ?_ _)); exact BK202.out⟩, ⟨by repeat (first | (with_reducible first | exact HB.out | apply below_alloc | apply pw_below_drewN | apply below_drew1 | refine below_set ?_ GE202.out) | exact HB.out)⟩⟩
 case round =>
  clear H'
  try clear p2
  obtain ⟨x3_1, x4_1, rfl, rfl, HA, HK1, BK202, HB⟩ := hrel
  cases gk with
  | zero => exact absurd HA.out (by simp [vetchref05_Ordered.l0])
  | succ k1 =>
   have H := HA.out
   clear HA
   simp only [vetchref05_Ordered.l0] at H
   by_cases c3 : x4_1 < (l0_0.length : Int)
   ·
    rw [if_pos c3] at H
    have c3b0 : decide (x4_1 < (l0_0.length : Int)) = true := decide_eq_true c3
    clear c3
    by_cases c4 : 0 ≤ x4_1
    ·
     rw [if_pos c4] at H
     have c4b0 : decide (0 ≤ x4_1) = true := decide_eq_true c4
     clear c4
     by_cases c5 : ((rd_T51 l0_0 x4_1).f1) ≤ x3_1
     ·
      rw [if_pos c5] at H
      have c5b0 : decide (((rd_T51 l0_0 x4_1).f1) ≤ x3_1) = true := decide_eq_true c5
      clear c5
      obtain rfl := Option.some.inj H
      have hcz6_0 : wr.cell? ⟨gb202, 0, none⟩ = some (.slice A0_0 l0_0.length c0_0) := (blk_cell BK202.out 0).trans rfl
      have hcz6_1 : wr.cell? ⟨gb202, 1, none⟩ = some (.slice A0_1 l0_1.length c0_1) := (blk_cell BK202.out 1).trans rfl
      have hfz6_0 := blk_frozen BK202.out 0
      have hfz6_1 := blk_frozen BK202.out 1
      have p203 : 0 ≤ (x4_1 : Int) := of_decide_eq_true (by first | (with_reducible assumption) | assumption)
      have q203 : x4_1 < (l0_0.length : Int) := of_decide_eq_true (by first | (with_reducible assumption) | assumption)
      obtain ⟨ad203, e203, hx203_0, hx203_1⟩ := at_T51 HR0_0.out x4_1 p203 q203
      cases e203
      replace hx203_0 := (HB.out.cell (World.block_lt_of_cell? w _ hx203_0)).trans hx203_0
      replace hx203_1 := (HB.out.cell (World.block_lt_of_cell? w _ hx203_1)).trans hx203_1
      replace p203 := eq_true p203
      replace q203 := eq_true q203
      go_wp2
      go_ret
      exact ⟨by first | rfl | (simp [errW_none, errW_some] <;> rfl) | (simp [*, errW_none, errW_some] <;> rfl), by repeat (first | (with_reducible first | exact HB.out | apply below_alloc | apply pw_below_drewN | apply below_drew1 | refine below_set ?_ GE202.out) | exact HB.out)⟩
     ·
      rw [if_neg c5] at H
      have c5b0 : decide (((rd_T51 l0_0 x4_1).f1) ≤ x3_1) = false := decide_eq_false c5
      clear c5
      by_cases c7 : ((rd_T51 l0_0 x4_1).f1) ≥ (l0_1.length : Int)
      ·
       rw [if_pos c7] at H
       have c7b0 : decide ((l0_1.length : Int) ≤ ((rd_T51 l0_0 x4_1).f1)) = true := decide_eq_true c7
       clear c7
       obtain rfl := Option.some.inj H
       have hcz8_0 : wr.cell? ⟨gb202, 0, none⟩ = some (.slice A0_0 l0_0.length c0_0) := (blk_cell BK202.out 0).trans rfl
       have hcz8_1 : wr.cell? ⟨gb202, 1, none⟩ = some (.slice A0_1 l0_1.length c0_1) := (blk_cell BK202.out 1).trans rfl
       have hfz8_0 := blk_frozen BK202.out 0
       have hfz8_1 := blk_frozen BK202.out 1
       have p203 : 0 ≤ (x4_1 : Int) := of_decide_eq_true (by first | (with_reducible assumption) | assumption)
       have q203 : x4_1 < (l0_0.length : Int) := of_decide_eq_true (by first | (with_reducible assumption) | assumption)
       obtain ⟨ad203, e203, hx203_0, hx203_1⟩ := at_T51 HR0_0.out x4_1 p203 q203
       cases e203
       replace hx203_0 := (HB.out.cell (World.block_lt_of_cell? w _ hx203_0)).trans hx203_0
       replace hx203_1 := (HB.out.cell (World.block_lt_of_cell? w _ hx203_1)).trans hx203_1
       replace p203 := eq_true p203
       replace q203 := eq_true q203
       go_wp2
       go_ret
       exact ⟨by first | rfl | (simp [errW_none, errW_some] <;> rfl) | (simp [*, errW_none, errW_some] <;> rfl), by repeat (first | (with_reducible first | exact HB.out | apply below_alloc | apply pw_below_drewN | apply below_drew1 | refine below_set ?_ GE202.out) | exact HB.out)⟩
      ·
       rw [if_neg c7] at H
       have c7b0 : decide ((l0_1.length : Int) ≤ ((rd_T51 l0_0 x4_1).f1)) = false := decide_eq_false c7
       clear c7
       replace H := Option.bind_eq_some_iff.mp H
       obtain ⟨t204, A90, H⟩ := H
       replace H : (if t204 = x3_1 then (vetchref05_Ordered.l0 k1 ((rd_T51 l0_0 x4_1).f1) (wrap64 (x4_1 + 1)) l0_0 l0_1) else (some false)) = some r := H
       have A9 := Aside0.mk A90
       clear A90
       by_cases c10 : t204 = x3_1
       ·
        rw [if_pos c10] at H
        have c10b0 : (t204 == x3_1) = true := beq_iff_eq.mpr c10
        have c10b1 : (t204 != x3_1) = false := bne_eq_false_iff_eq.mpr c10
        clear c10
        have H' := Aside0.mk H
        clear H
        have hcz11_0 : wr.cell? ⟨gb202, 0, none⟩ = some (.slice A0_0 l0_0.length c0_0) := (blk_cell BK202.out 0).trans rfl
        have hcz11_1 : wr.cell? ⟨gb202, 1, none⟩ = some (.slice A0_1 l0_1.length c0_1) := (blk_cell BK202.out 1).trans rfl
        have hfz11_0 := blk_frozen BK202.out 0
        have hfz11_1 := blk_frozen BK202.out 1
        have p203 : 0 ≤ (x4_1 : Int) := of_decide_eq_true (by first | (with_reducible assumption) | assumption)
        have q203 : x4_1 < (l0_0.length : Int) := of_decide_eq_true (by first | (with_reducible assumption) | assumption)
        obtain ⟨ad203, e203, hx203_0, hx203_1⟩ := at_T51 HR0_0.out x4_1 p203 q203
        cases e203
        replace hx203_0 := (HB.out.cell (World.block_lt_of_cell? w _ hx203_0)).trans hx203_0
        replace hx203_1 := (HB.out.cell (World.block_lt_of_cell? w _ hx203_1)).trans hx203_1
        replace p203 := eq_true p203
        replace q203 := eq_true q203
        go_wp2_with (first | (go_at_call 42; (with_reducible refine (vetchref05_Expression.calls k1 _ _ l0_0 _ _ l0_1 ((rd_T51 l0_0 x4_1).f1) t204 _ ?side1 ?side2 ?side3 ?side4 A9.out).mono ?_); (case side1 => repeat (first | exact (Kd.C_below HR0_0.out HB.out) | (with_reducible refine Kd.C_alloc ?_ _) | (with_reducible refine Kd.C_drewN ?_ _) | (with_reducible refine Kd.C_drew ?_))); (case side2 => exact HC0_0.out); (case side3 => repeat (first | exact (Kd.C_below HR0_1.out HB.out) | (with_reducible refine Kd.C_alloc ?_ _) | (with_reducible refine Kd.C_drewN ?_ _) | (with_reducible refine Kd.C_drew ?_))); (case side4 => exact HC0_1.out); rintro e w12 ⟨rfl, hb⟩; have n0_ := Aside0.mk (blk_below (g := gb202) (o := .cells #[.slice (some ad203) l0_0.length c0_0, .slice A0_1 l0_1.length c0_1] 25 (0, 0)) (by (with_reducible repeat (first | refine blk_drewN ?_ _ | refine blk_drew ?_ | refine blk_alloc ?_ _)); exact BK202.out) hb); have n1_ := Aside0.mk (below_step (by repeat (first | (with_reducible first | exact HB.out | apply below_alloc | apply pw_below_drewN | apply below_drew1 | refine below_set ?_ GE202.out) | exact HB.out)) hb); clear BK202; clear HB; have BK202 := n0_; have HB := n1_; clear n0_ n1_; (try clear hb); (try clear hb2); (try clear hk); (try clear hi)))
        go_roundg k1
        case measure => have := HK1.out; omega
        case rel => exact ⟨((rd_T51 l0_0 x4_1).f1), (wrap64 (x4_1 + 1)), (by first | rfl | (simp; done) | (simp [*]; done)), (by first | rfl | (simp; done) | (simp [*]; done)), H', ⟨by have := HK1.out; omega⟩, ⟨by (with_reducible repeat (first | refine blk_drewN ?_ _ | refine blk_drew ?_ | refine blk_alloc ?_ _)); exact BK202.out⟩, ⟨by repeat (first | (with_reducible first | exact HB.out | apply below_alloc | apply pw_below_drewN | apply below_drew1 | refine below_set ?_ GE202.out) | exact HB.out)⟩⟩
       ·
        rw [if_neg c10] at H
        have c10b0 : (t204 == x3_1) = false := beq_eq_false_iff_ne.mpr c10
        have c10b1 : (t204 != x3_1) = true := bne_iff_ne.mpr c10
        obtain rfl := Option.some.inj H
        have hcz13_0 : wr.cell? ⟨gb202, 0, none⟩ = some (.slice A0_0 l0_0.length c0_0) := (blk_cell BK202.out 0).trans rfl
        have hcz13_1 : wr.cell? ⟨gb202, 1, none⟩ = some (.slice A0_1 l0_1.length c0_1) := (blk_cell BK202.out 1).trans rfl
        have hfz13_0 := blk_frozen BK202.out 0
        have hfz13_1 := blk_frozen BK202.out 1
        have p203 : 0 ≤ (x4_1 : Int) := of_decide_eq_true (by first | (with_reducible assumption) | assumption)
        have q203 : x4_1 < (l0_0.length : Int) := of_decide_eq_true (by first | (with_reducible assumption) | assumption)
        obtain ⟨ad203, e203, hx203_0, hx203_1⟩ := at_T51 HR0_0.out x4_1 p203 q203
        cases e203
        replace hx203_0 := (HB.out.cell (World.block_lt_of_cell? w _ hx203_0)).trans hx203_0
        replace hx203_1 := (HB.out.cell (World.block_lt_of_cell? w _ hx203_1)).trans hx203_1
        replace p203 := eq_true p203
        replace q203 := eq_true q203
        go_wp2_with (first | (go_at_call 42; (with_reducible refine (vetchref05_Expression.calls k1 _ _ l0_0 _ _ l0_1 ((rd_T51 l0_0 x4_1).f1) t204 _ ?side1 ?side2 ?side3 ?side4 A9.out).mono ?_); (case side1 => repeat (first | exact (Kd.C_below HR0_0.out HB.out) | (with_reducible refine Kd.C_alloc ?_ _) | (with_reducible refine Kd.C_drewN ?_ _) | (with_reducible refine Kd.C_drew ?_))); (case side2 => exact HC0_0.out); (case side3 => repeat (first | exact (Kd.C_below HR0_1.out HB.out) | (with_reducible refine Kd.C_alloc ?_ _) | (with_reducible refine Kd.C_drewN ?_ _) | (with_reducible refine Kd.C_drew ?_))); (case side4 => exact HC0_1.out); rintro e w14 ⟨rfl, hb⟩; have n0_ := Aside0.mk (blk_below (g := gb202) (o := .cells #[.slice (some ad203) l0_0.length c0_0, .slice A0_1 l0_1.length c0_1] 25 (0, 0)) (by (with_reducible repeat (first | refine blk_drewN ?_ _ | refine blk_drew ?_ | refine blk_alloc ?_ _)); exact BK202.out) hb); have n1_ := Aside0.mk (below_step (by repeat (first | (with_reducible first | exact HB.out | apply below_alloc | apply pw_below_drewN | apply below_drew1 | refine below_set ?_ GE202.out) | exact HB.out)) hb); clear BK202; clear HB; have BK202 := n0_; have HB := n1_; clear n0_ n1_; (try clear hb); (try clear hb2); (try clear hk); (try clear hi)))
        go_ret
        exact ⟨by first | rfl | (simp [errW_none, errW_some] <;> rfl) | (simp [*, errW_none, errW_some] <;> rfl), by repeat (first | (with_reducible first | exact HB.out | apply below_alloc | apply pw_below_drewN | apply below_drew1 | refine below_set ?_ GE202.out) | exact HB.out)⟩
    ·
     rw [if_neg c4] at H
     exact absurd H (by simp)
   ·
    rw [if_neg c3] at H
    have c3b0 : decide (x4_1 < (l0_0.length : Int)) = false := decide_eq_false c3
    clear c3
    obtain rfl := Option.some.inj H
    have hcz15_0 : wr.cell? ⟨gb202, 0, none⟩ = some (.slice A0_0 l0_0.length c0_0) := (blk_cell BK202.out 0).trans rfl
    have hcz15_1 : wr.cell? ⟨gb202, 1, none⟩ = some (.slice A0_1 l0_1.length c0_1) := (blk_cell BK202.out 1).trans rfl
    have hfz15_0 := blk_frozen BK202.out 0
    have hfz15_1 := blk_frozen BK202.out 1
    go_wp2
    go_ret
    exact ⟨by first | rfl | (simp [errW_none, errW_some] <;> rfl) | (simp [*, errW_none, errW_some] <;> rfl), by repeat (first | (with_reducible first | exact HB.out | apply below_alloc | apply pw_below_drewN | apply below_drew1 | refine below_set ?_ GE202.out) | exact HB.out)⟩
end Go.Proofs.Ythgedejnpgcacaa.V
namespace Go.Proofs.Ythgedejnpgcacaa.V
open Go.RowKit Go.Proofs.YthgedejnpgcacaaW.PrintWords Go.Proofs.YthgedejnpgcacaaW.PrintLast Go.Proofs.YthgedejnpgcacaaW.PrintMore
attribute [local go_sem] max2_int min2_int max_two min_two max_three min_three max_four min_four tdiv_most
set_option linter.unusedVariables false
set_option linter.unusedSimpArgs false
mutual
def vetchref05_Depth.l0 : Nat → Int → Int → Int → Int → List (S51) → List (S56) → Option (Int)
 | 0, _, _, _, _, _, _ => none
 | k + 1, x1, x2, x7, x8, x206000, x206001 => if 0 ≤ x1 then (if x1 < (x206001.length : Int) then (if x8 < (((rd_T56 x206001 x1).f1).length : Int) then (if x2 > 0 then (if 0 ≤ x8 then ((vetchref05_Depth.f k x206000 x206001 (rd ((rd_T56 x206001 x1).f1) x8) (wrap64 (x2 - 1))).bind fun t209 => (vetchref05_Depth.l0 k x1 x2 (mx x7 t209) (wrap64 (x8 + 1)) x206000 x206001)) else (none)) else (some (wrap64 (x7 + 1)))) else (some (wrap64 (x7 + 1)))) else (none)) else (none)
def vetchref05_Depth.f : Nat → List (S51) → List (S56) → Int → Int → Option (Int)
 | 0, _, _, _, _ => none
 | k + 1, l0_0, l0_1, a1, a2 => vetchref05_Depth.l0 k a1 a2 0 0 l0_0 l0_1
end
def vetchref05_Depth.T5 : Bool × List (List Nat × List Nat) := (true, [([], []), ([], []), ([], []), ([2], [2]), ([], []), ([3, 4], [3, 4]), ([5], [5]), ([6], [6]), ([], []), ([7, 8], [7, 8]), ([9], [9]), ([], []), ([11], [11]), ([1, 10, 12], [1, 10, 12]), ([0, 13], [0, 13]), ([14, 13, 0, 1, 2, 3, 4, 5, 6, 7, 8, 9, 10, 11, 12, 13, 14], [0, 14])])
def vetchref05_Depth.B5 : List Nat := [0, 0, 0, 4, 0, 28, 60, 124, 0, 508, 1020, 0, 2048, 8190, 16383, 32767]
theorem vetchref05_Depth.tab5 : rtab .any (opsOf Try.f39 5) = vetchref05_Depth.T5 := by kernel_rfl
theorem vetchref05_Depth.bits5 : waitsOk vetchref05_Depth.T5.2 vetchref05_Depth.B5 = true := by kernel_rfl
set_option maxHeartbeats 8000000 in
set_option maxRecDepth 100000 in
theorem vetchref05_Depth.calls (k : Nat) : ∀ (A0_0 : Option Addr) (c0_0 : Nat) (l0_0 : List (S51)) (A0_1 : Option Addr) (c0_1 : Nat) (l0_1 : List (S56)) (a1 : Int) (a2 : Int) (r : Int) (w : World) (hr0_0 : Kd.C k51 w A0_0 l0_0.length l0_0) (hc0_0 : l0_0.length ≤ c0_0) (hr0_1 : Kd.C k56 w A0_1 l0_1.length l0_1) (hc0_1 : l0_1.length ≤ c0_1) (h : vetchref05_Depth.f k l0_0 l0_1 a1 a2 = some r),
 Calls Try.prog 39 #[.agg #[.slice A0_0 l0_0.length c0_0, .slice A0_1 l0_1.length c0_1], .int .i64 a1, .int .i64 a2] w fun e w' => e = .returned (.int .i64 r) ∧ Below w.heap.size w w' := by
 induction k using Nat.strongRecOn with
 | _ k ih =>
 intro A0_0 c0_0 l0_0 A0_1 c0_1 l0_1 a1 a2 r w hr0_0 hc0_0 hr0_1 hc0_1 h
 cases k with
 | zero => exact absurd h (by simp [vetchref05_Depth.f])
 | succ k =>
 simp only [vetchref05_Depth.f] at h
 have hu25 := Try.underlying25
 have HR0_0 := Aside0.mk hr0_0
 have HC0_0 := Aside0.mk hc0_0
 clear hr0_0 hc0_0
 have HR0_1 := Aside0.mk hr0_1
 have HC0_1 := Aside0.mk hc0_1
 clear hr0_1 hc0_1
 have HB := Aside0.mk (Below.refl w.heap.size w)
 have H : (vetchref05_Depth.l0 k a1 a2 0 0 l0_0 l0_1) = some r := h
 clear h
 have H' := Aside0.mk H
 clear H
 go_enter Try.func39, Try.ntmps39
 go_wp2_with (first | ((with_reducible refine gate_dst (N := 3) rfl ?_); refine box_event ?hg (N := 3) ?hd (cs := #[.slice A0_0 l0_0.length c0_0, .slice A0_1 l0_1.length c0_1]) (t := 25) ?hr ?_; (case hd => rfl); (case hg => rfl); (case hr => first | (go_simp; done) | (go_simp; rfl)); intro gb205 hg w4 hbox hb; have n0_ := Aside0.mk (below_step (by repeat (first | (with_reducible first | exact HB.out | apply below_alloc | apply pw_below_drewN | apply below_drew1) | exact HB.out)) hb); have n1_ := Aside0.mk (hbox); have n2_ := Aside0.mk ((by rw [hg]; exact (below_size (by repeat (first | (with_reducible first | exact HB.out | apply below_alloc | apply pw_below_drewN | apply below_drew1) | exact HB.out))) : w.heap.size ≤ gb205)); have n3_ := Aside0.mk ((by rw [hg]; exact (below_size (by repeat (first | (with_reducible first | exact HB.out | apply below_alloc | apply pw_below_drewN | apply below_drew1) | exact HB.out))) : w.heap.size ≤ gb205)); clear HB; have HB := n0_; have BK205 := n1_; have GW205 := n2_; have GE205 := n3_; clear n0_ n1_ n2_ n3_; clear hb hbox hg))
 go_loopg [7, 8] k (fun kq v7 v8 w' => ∃ (x7_1 : Int) (x8_1 : Int), v7 = .int .i64 x7_1 ∧ v8 = .int .i64 x8_1 ∧ Aside0 (vetchref05_Depth.l0 kq a1 a2 x7_1 x8_1 l0_0 l0_1 = some r) ∧ Aside0 (kq ≤ k) ∧ Aside0 (w'.heap[gb205]? = some (.cells #[(.slice A0_0 l0_0.length c0_0), (.slice A0_1 l0_1.length c0_1)] 25 (0, 0))) ∧ Aside0 (Below w.heap.size w w'))
 case atStart => exact ⟨(0), (0), (by first | rfl | (simp; done) | (simp [*]; done)), (by first | rfl | (simp; done) | (simp [*]; done)), H', ⟨Nat.le_refl _⟩, ⟨by (with_reducible repeat (first | refine blk_drewN ?_ _ | refine blk_drew ?_ | refine blk_alloc ?_ _)); exact BK205.out⟩, ⟨by repeat (first | (with_reducible first | exact HB.out | apply below_alloc | apply pw_below_drewN | apply below_drew1 | refine below_set ?_ GE205.out) | exact HB.out)⟩⟩
 case round =>
  clear H'
  try clear p2
  try clear c3
  obtain ⟨x7_1, x8_1, rfl, rfl, HA, HK1, BK205, HB⟩ := hrel
  cases gk with
  | zero => exact absurd HA.out (by simp [vetchref05_Depth.l0])
  | succ k1 =>
   have H := HA.out
   clear HA
   simp only [vetchref05_Depth.l0] at H
   by_cases c5 : 0 ≤ a1
   ·
    rw [if_pos c5] at H
    have c5b0 : decide (0 ≤ a1) = true := decide_eq_true c5
    clear c5
    by_cases c6 : a1 < (l0_1.length : Int)
    ·
     rw [if_pos c6] at H
     have c6b0 : decide (a1 < (l0_1.length : Int)) = true := decide_eq_true c6
     clear c6
     by_cases c7 : x8_1 < (((rd_T56 l0_1 a1).f1).length : Int)
     ·
      rw [if_pos c7] at H
      have c7b0 : decide (x8_1 < (((rd_T56 l0_1 a1).f1).length : Int)) = true := decide_eq_true c7
      clear c7
      by_cases c8 : a2 > 0
      ·
       rw [if_pos c8] at H
       have c8b0 : decide (0 < a2) = true := decide_eq_true c8
       clear c8
       by_cases c9 : 0 ≤ x8_1
       ·
        rw [if_pos c9] at H
        have c9b0 : decide (0 ≤ x8_1) = true := decide_eq_true c9
        clear c9
        replace H := Option.bind_eq_some_iff.mp H
        obtain ⟨t209, A100, H⟩ := H
        replace H : (vetchref05_Depth.l0 k1 a1 a2 (mx x7_1 t209) (wrap64 (x8_1 + 1)) l0_0 l0_1) = some r := H
        have A10 := Aside0.mk A100
        clear A100
        obtain ⟨ji11, hji11⟩ : ∃ j_ : Int, (mx x7_1 t209) = j_ := ⟨_, rfl⟩
        replace H : (vetchref05_Depth.l0 k1 a1 a2 ji11 (wrap64 (x8_1 + 1)) l0_0 l0_1) = some r := by first | (rw [hji11] at H; exact H) | (simp only [hji11] at H ⊢; exact H)
        (try rw [hji11] at A10)
        have hji11_ : (if x7_1 < t209 then t209 else x7_1) = ji11 := hji11
        have H' := Aside0.mk H
        clear H
        have hcz12_0 : wr.cell? ⟨gb205, 0, none⟩ = some (.slice A0_0 l0_0.length c0_0) := (blk_cell BK205.out 0).trans rfl
        have hcz12_1 : wr.cell? ⟨gb205, 1, none⟩ = some (.slice A0_1 l0_1.length c0_1) := (blk_cell BK205.out 1).trans rfl
        have hfz12_0 := blk_frozen BK205.out 0
        have hfz12_1 := blk_frozen BK205.out 1
        have p206 : 0 ≤ (a1 : Int) := of_decide_eq_true (by first | (with_reducible assumption) | assumption)
        have q206 : a1 < (l0_1.length : Int) := of_decide_eq_true (by first | (with_reducible assumption) | assumption)
        obtain ⟨ad206, A206_1, c206_1, e206, hx206_0, hx206_1, hx206_2, hx206_3, hx206_4, hx206_5, hx206_6, hl206_1, hi206_1⟩ := at_T56 HR0_1.out a1 p206 q206
        cases e206
        replace hx206_0 := (HB.out.cell (World.block_lt_of_cell? w _ hx206_0)).trans hx206_0
        replace hx206_1 := (HB.out.cell (World.block_lt_of_cell? w _ hx206_1)).trans hx206_1
        replace hx206_2 := (HB.out.cell (World.block_lt_of_cell? w _ hx206_2)).trans hx206_2
        replace hx206_3 := (HB.out.cell (World.block_lt_of_cell? w _ hx206_3)).trans hx206_3
        replace hx206_4 := (HB.out.cell (World.block_lt_of_cell? w _ hx206_4)).trans hx206_4
        replace hx206_5 := (HB.out.cell (World.block_lt_of_cell? w _ hx206_5)).trans hx206_5
        replace hx206_6 := (HB.out.cell (World.block_lt_of_cell? w _ hx206_6)).trans hx206_6
        have HR206_1 := Aside0.mk hi206_1
        have HC206_1 := Aside0.mk hl206_1
        clear hi206_1 hl206_1
        replace p206 := eq_true p206
        replace q206 := eq_true q206
        try go_wp2
        have n0_ := Aside0.mk (blk_drew BK205.out)
        have n1_ := Aside0.mk (below_drew1 HB.out)
        clear BK205
        clear HB
        have BK205 := n0_
        have HB := n1_
        clear n0_ n1_
        have p207 : 0 ≤ (a1 : Int) := of_decide_eq_true (by first | (with_reducible assumption) | assumption)
        have q207 : a1 < (l0_1.length : Int) := of_decide_eq_true (by first | (with_reducible assumption) | assumption)
        obtain ⟨ad207, A207_1, c207_1, e207, hx207_0, hx207_1, hx207_2, hx207_3, hx207_4, hx207_5, hx207_6, hl207_1, hi207_1⟩ := at_T56 HR0_1.out a1 p207 q207
        have hw207_6 := hx207_6
        have hw207_5 := hx207_5
        have hw207_4 := hx207_4
        have hw207_3 := hx207_3
        have hw207_2 := hx207_2
        have hw207_1 := hx207_1
        have hw207_0 := hx207_0
        obtain rfl : ad206 = ad207 := (by injection e207)
        replace hx207_0 := (HB.out.cell (World.block_lt_of_cell? w _ hx207_0)).trans hx207_0
        replace hx207_1 := (HB.out.cell (World.block_lt_of_cell? w _ hx207_1)).trans hx207_1
        replace hx207_2 := (HB.out.cell (World.block_lt_of_cell? w _ hx207_2)).trans hx207_2
        replace hx207_3 := (HB.out.cell (World.block_lt_of_cell? w _ hx207_3)).trans hx207_3
        replace hx207_4 := (HB.out.cell (World.block_lt_of_cell? w _ hx207_4)).trans hx207_4
        replace hx207_5 := (HB.out.cell (World.block_lt_of_cell? w _ hx207_5)).trans hx207_5
        replace hx207_6 := (HB.out.cell (World.block_lt_of_cell? w _ hx207_6)).trans hx207_6
        have HR207_1 := Aside0.mk hi207_1
        have HC207_1 := Aside0.mk hl207_1
        clear hi207_1 hl207_1
        replace p207 := eq_true p207
        replace q207 := eq_true q207
        have p208 : 0 ≤ (x8_1 : Int) := of_decide_eq_true (by first | (with_reducible assumption) | assumption)
        have q208 : x8_1 < (((rd_T56 l0_1 a1).f1).length : Int) := of_decide_eq_true (by first | (with_reducible assumption) | assumption)
        obtain ⟨ad208, e208, hx208_0⟩ := Kd.at_int HR207_1.out x8_1 p208 q208
        have hw208_0 := hx208_0
        cases e208
        replace hx208_0 := (HB.out.cell (World.block_lt_of_cell? w _ hx208_0)).trans hx208_0
        replace p208 := eq_true p208
        replace q208 := eq_true q208
        refine start_ (n := 16) (S := fun w' => w'.cell? ⟨gb205, 0, none⟩ = some (.slice A0_0 l0_0.length c0_0) ∧ w'.cell? ⟨gb205, 1, none⟩ = some (.slice (some ad206) l0_1.length c0_1) ∧ w'.cell? (ad206.add ((a1).toNat * 7)) = some (.int .i64 ((rd_T56 l0_1 a1).f0)) ∧ w'.cell? ⟨(ad206.add ((a1).toNat * 7)).block, (ad206.add ((a1).toNat * 7)).off + 1, none⟩ = some (.slice (some ad208) ((rd_T56 l0_1 a1).f1).length c207_1) ∧ w'.cell? ⟨(ad206.add ((a1).toNat * 7)).block, (ad206.add ((a1).toNat * 7)).off + 2, none⟩ = some (.int .i64 ((rd_T56 l0_1 a1).f2)) ∧ w'.cell? ⟨(ad206.add ((a1).toNat * 7)).block, (ad206.add ((a1).toNat * 7)).off + 3, none⟩ = some (.int .u64 ((rd_T56 l0_1 a1).f3.f0)) ∧ w'.cell? ⟨(ad206.add ((a1).toNat * 7)).block, (ad206.add ((a1).toNat * 7)).off + 4, none⟩ = some (.int .u64 ((rd_T56 l0_1 a1).f3.f1)) ∧ w'.cell? ⟨(ad206.add ((a1).toNat * 7)).block, (ad206.add ((a1).toNat * 7)).off + 5, none⟩ = some (.int .u64 ((rd_T56 l0_1 a1).f3.f2)) ∧ w'.cell? ⟨(ad206.add ((a1).toNat * 7)).block, (ad206.add ((a1).toNat * 7)).off + 6, none⟩ = some (.int .u64 ((rd_T56 l0_1 a1).f3.f3)) ∧ w'.cell? (ad208.add (x8_1).toNat) = some (.int .i64 (rd ((rd_T56 l0_1 a1).f1) x8_1))) (ds := []) #[false, false, false, false, false, false, false, false, false, false, false, false, false, false, false, false] (by kernel_rfl) rfl rfl ⟨(blk_cell BK205.out 0).trans rfl, (blk_cell BK205.out 1).trans rfl, ((HB.out.cell (World.block_lt_of_cell? w _ hw207_0)).trans hw207_0), ((HB.out.cell (World.block_lt_of_cell? w _ hw207_1)).trans hw207_1), ((HB.out.cell (World.block_lt_of_cell? w _ hw207_2)).trans hw207_2), ((HB.out.cell (World.block_lt_of_cell? w _ hw207_3)).trans hw207_3), ((HB.out.cell (World.block_lt_of_cell? w _ hw207_4)).trans hw207_4), ((HB.out.cell (World.block_lt_of_cell? w _ hw207_5)).trans hw207_5), ((HB.out.cell (World.block_lt_of_cell? w _ hw207_6)).trans hw207_6), ((HB.out.cell (World.block_lt_of_cell? w _ hw208_0)).trans hw208_0)⟩ (fun hHeld => ?_); refine with_tabW vetchref05_Depth.tab5 vetchref05_Depth.bits5 (fun HT_ HW_ => ?_)
        generalize wr.drew = w13 at BK205 HB HR207_1 hx207_0 hx207_1 hx207_2 hx207_3 hx207_4 hx207_5 hx207_6 hx208_0 hHeld ⊢
        refine pure_ (i := 0) (N := some 24) (v := ?_) (a' := ?_) #[true, false, false, false, false, false, false, false, false, false, false, false, false, false, false, false] rfl rfl (any_of HT_.out (by kernel_rfl)) (fun _ _ _ h => h) (Or.inl ⟨by rfl, ?_⟩) ?_ ?_
        rotate_left
        ·
         intro w'
         go_simp
         with_reducible rfl
        rotate_left
        ·
         simp only [Act.put, List.setIfInBounds_toArray, List.set_cons_zero, List.set_cons_succ, i64_w, i32_w]
         rfl
        refine pure_ (i := 2) (N := some 26) (v := ?_) (a' := ?_) #[true, false, true, false, false, false, false, false, false, false, false, false, false, false, false, false] rfl rfl (any_of HT_.out (by kernel_rfl)) (fun _ _ _ h => h) (Or.inl ⟨by rfl, ?_⟩) ?_ ?_
        rotate_left
        ·
         intro w'
         go_simp
         with_reducible rfl
        rotate_left
        ·
         simp only [Act.put, List.setIfInBounds_toArray, List.set_cons_zero, List.set_cons_succ, i64_w, i32_w]
         rfl
        refine pure_ (i := 4) (N := some 28) (v := ?_) (a' := ?_) #[true, false, true, false, true, false, false, false, false, false, false, false, false, false, false, false] rfl rfl (any_of HT_.out (by kernel_rfl)) (fun _ _ _ h => h) (Or.inl ⟨by rfl, ?_⟩) ?_ ?_
        rotate_left
        ·
         intro w'
         go_simp
         with_reducible rfl
        rotate_left
        ·
         simp only [Act.put, List.setIfInBounds_toArray, List.set_cons_zero, List.set_cons_succ, i64_w, i32_w]
         rfl
        refine pure_ (i := 8) (N := some 32) (v := ?_) (a' := ?_) #[true, false, true, false, true, false, false, false, true, false, false, false, false, false, false, false] rfl rfl (any_of HT_.out (by kernel_rfl)) (fun _ _ _ h => h) (Or.inl ⟨by rfl, ?_⟩) ?_ ?_
        rotate_left
        ·
         intro w'
         go_simp
         with_reducible rfl
        rotate_left
        ·
         simp only [Act.put, List.setIfInBounds_toArray, List.set_cons_zero, List.set_cons_succ, i64_w, i32_w]
         rfl
        refine pure_ (i := 11) (N := some 35) (v := ?_) (a' := ?_) #[true, false, true, false, true, false, false, false, true, false, false, true, false, false, false, false] rfl rfl (any_of HT_.out (by kernel_rfl)) (fun _ _ _ h => h) (Or.inl ⟨by rfl, ?_⟩) ?_ ?_
        rotate_left
        ·
         intro w'
         go_simp
         with_reducible rfl
        rotate_left
        ·
         simp only [Act.put, List.setIfInBounds_toArray, List.set_cons_zero, List.set_cons_succ, i64_w, i32_w]
         rfl
        refine pure_ (i := 12) (N := some 36) (v := ?_) (a' := ?_) #[true, false, true, false, true, false, false, false, true, false, false, true, true, false, false, false] rfl rfl (any_of HT_.out (by kernel_rfl)) (fun _ _ _ h => h) (Or.inl ⟨by rfl, ?_⟩) ?_ ?_
        rotate_left
        ·
         intro w'
         go_simp
         with_reducible rfl
        rotate_left
        ·
         simp only [Act.put, List.setIfInBounds_toArray, List.set_cons_zero, List.set_cons_succ, i64_w, i32_w]
         rfl
        refine take_ (i := 1) (N := some 25) (v := ?_) (a' := ?_) #[true, true, true, false, true, false, false, false, true, false, false, true, true, false, false, false] rfl rfl (take_ofW HT_.out HW_.out (by kernel_rfl)) (fun _ _ _ h => h) (Or.inl ⟨by rfl, ?_⟩) hHeld ?_ ?_
        rotate_left
        ·
         rintro w' ⟨s0, s1, s2, s3, s4, s5, s6, s7, s8, s9⟩
         go_simp
         with_reducible rfl
        rotate_left
        ·
         simp only [Act.put, List.setIfInBounds_toArray, List.set_cons_zero, List.set_cons_succ, i64_w, i32_w]
         rfl
        refine take_ (i := 3) (N := some 27) (v := ?_) (a' := ?_) #[true, true, true, true, true, false, false, false, true, false, false, true, true, false, false, false] rfl rfl (take_ofW HT_.out HW_.out (by kernel_rfl)) (fun _ _ _ h => h) (Or.inl ⟨by rfl, ?_⟩) hHeld ?_ ?_
        rotate_left
        ·
         rintro w' ⟨s0, s1, s2, s3, s4, s5, s6, s7, s8, s9⟩
         go_simp
         with_reducible rfl
        rotate_left
        ·
         simp only [Act.put, List.setIfInBounds_toArray, List.set_cons_zero, List.set_cons_succ, i64_w, i32_w]
         rfl
        refine pure_ (i := 5) (N := some 29) (v := ?_) (a' := ?_) #[true, true, true, true, true, true, false, false, true, false, false, true, true, false, false, false] rfl rfl (any_of HT_.out (by kernel_rfl)) (fun _ _ _ h => h) (Or.inl ⟨by rfl, ?_⟩) ?_ ?_
        rotate_left
        ·
         intro w'
         go_simp
         with_reducible rfl
        rotate_left
        ·
         simp only [Act.put, List.setIfInBounds_toArray, List.set_cons_zero, List.set_cons_succ, i64_w, i32_w]
         rfl
        refine pure_ (i := 6) (N := some 30) (v := ?_) (a' := ?_) #[true, true, true, true, true, true, true, false, true, false, false, true, true, false, false, false] rfl rfl (any_of HT_.out (by kernel_rfl)) (fun _ _ _ h => h) (Or.inl ⟨by rfl, ?_⟩) ?_ ?_
        rotate_left
        ·
         intro w'
         go_simp
         with_reducible rfl
        rotate_left
        ·
         simp only [Act.put, List.setIfInBounds_toArray, List.set_cons_zero, List.set_cons_succ, i64_w, i32_w]
         rfl
        refine take_ (i := 7) (N := some 31) (v := ?_) (a' := ?_) #[true, true, true, true, true, true, true, true, true, false, false, true, true, false, false, false] rfl rfl (take_ofW HT_.out HW_.out (by kernel_rfl)) (fun _ _ _ h => h) (Or.inl ⟨by rfl, ?_⟩) hHeld ?_ ?_
        rotate_left
        ·
         rintro w' ⟨s0, s1, s2, s3, s4, s5, s6, s7, s8, s9⟩
         go_simp
         with_reducible rfl
        rotate_left
        ·
         simp only [Act.put, List.setIfInBounds_toArray, List.set_cons_zero, List.set_cons_succ, i64_w, i32_w]
         rfl
        refine pure_ (i := 9) (N := some 33) (v := ?_) (a' := ?_) #[true, true, true, true, true, true, true, true, true, true, false, true, true, false, false, false] rfl rfl (any_of HT_.out (by kernel_rfl)) (fun _ _ _ h => h) (Or.inl ⟨by rfl, ?_⟩) ?_ ?_
        rotate_left
        ·
         intro w'
         go_simp
         with_reducible rfl
        rotate_left
        ·
         simp only [Act.put, List.setIfInBounds_toArray, List.set_cons_zero, List.set_cons_succ, i64_w, i32_w]
         rfl
        refine take_ (i := 10) (N := some 34) (v := ?_) (a' := ?_) #[true, true, true, true, true, true, true, true, true, true, true, true, true, false, false, false] rfl rfl (take_ofW HT_.out HW_.out (by kernel_rfl)) (fun _ _ _ h => h) (Or.inl ⟨by rfl, ?_⟩) hHeld ?_ ?_
        rotate_left
        ·
         rintro w' ⟨s0, s1, s2, s3, s4, s5, s6, s7, s8, s9⟩
         go_simp
         with_reducible rfl
        rotate_left
        ·
         simp only [Act.put, List.setIfInBounds_toArray, List.set_cons_zero, List.set_cons_succ, i64_w, i32_w]
         rfl
        refine one_ (i := 13) (N := some 37) #[true, true, true, true, true, true, true, true, true, true, true, true, true, true, false, false] rfl rfl (one_of HT_.out (by kernel_rfl)) (by decide) (fun K hK => ?_)
        refine goes_ Try.func39 (by kernel_rfl) rfl #[.agg #[.slice A0_0 l0_0.length c0_0, .slice (some ad206) l0_1.length c0_1], .int .i64 (rd ((rd_T56 l0_1 a1).f1) x8_1), .int .i64 (wrap64 (a2 - 1))] (by rfl) rfl rfl (by (try simp only [List.map_toArray, List.map_cons, List.map_nil]); first | done | rfl | (simp only [List.length_drop, List.length_take]; rfl)) ?_
        with_reducible refine (ih k1 (by have := HK1.out; omega) _ _ l0_0 _ _ l0_1 (rd ((rd_T56 l0_1 a1).f1) x8_1) (wrap64 (a2 - 1)) t209 _ ?side1 ?side2 ?side3 ?side4 A10.out).mono ?_
        (case side1 => repeat (first | exact (Kd.C_below HR0_0.out HB.out) | (with_reducible refine Kd.C_alloc ?_ _) | (with_reducible refine Kd.C_drewN ?_ _) | (with_reducible refine Kd.C_drew ?_)))
        (case side2 => exact HC0_0.out)
        (case side3 => repeat (first | exact (Kd.C_below HR0_1.out HB.out) | (with_reducible refine Kd.C_alloc ?_ _) | (with_reducible refine Kd.C_drewN ?_ _) | (with_reducible refine Kd.C_drew ?_)))
        (case side4 => exact HC0_1.out)
        rintro e w14 ⟨rfl, hb⟩
        refine ⟨_, rfl, ?_⟩
        have n0_ := Aside0.mk (blk_below (g := gb205) (o := .cells #[.slice A0_0 l0_0.length c0_0, .slice (some ad206) l0_1.length c0_1] 25 (0, 0)) (by (with_reducible repeat (first | refine blk_drewN ?_ _ | refine blk_drew ?_ | refine blk_alloc ?_ _)); exact BK205.out) hb)
        have n1_ := Aside0.mk (below_step (by repeat (first | (with_reducible first | exact HB.out | apply below_alloc | apply pw_below_drewN | apply below_drew1 | refine below_set ?_ GE205.out) | exact HB.out)) hb)
        clear BK205
        clear HB
        have BK205 := n0_
        have HB := n1_
        clear n0_ n1_
        (try clear hb)
        (try clear hb2)
        (try clear hk)
        (try clear hi)
        refine hK.out _ _ ⟨(blk_cell BK205.out 0).trans rfl, (blk_cell BK205.out 1).trans rfl, ((HB.out.cell (World.block_lt_of_cell? w _ hw207_0)).trans hw207_0), ((HB.out.cell (World.block_lt_of_cell? w _ hw207_1)).trans hw207_1), ((HB.out.cell (World.block_lt_of_cell? w _ hw207_2)).trans hw207_2), ((HB.out.cell (World.block_lt_of_cell? w _ hw207_3)).trans hw207_3), ((HB.out.cell (World.block_lt_of_cell? w _ hw207_4)).trans hw207_4), ((HB.out.cell (World.block_lt_of_cell? w _ hw207_5)).trans hw207_5), ((HB.out.cell (World.block_lt_of_cell? w _ hw207_6)).trans hw207_6), ((HB.out.cell (World.block_lt_of_cell? w _ hw208_0)).trans hw208_0)⟩ (fun hHeld => ?_)
        clear hK K
        refine norm_ (a' := ?_) ?_ ?_
        rotate_left
        ·
         show Act.put _ (some 37) _ = _
         simp only [Act.put, List.setIfInBounds_toArray, List.set_cons_zero, List.set_cons_succ, i64_w, i32_w]
         rfl
        refine pure_ (i := 14) (N := some 38) (v := ?_) (a' := ?_) #[true, true, true, true, true, true, true, true, true, true, true, true, true, true, true, false] rfl rfl (any_of HT_.out (by kernel_rfl)) (fun _ _ _ h => h) (Or.inl ⟨by rfl, ?_⟩) ?_ ?_
        rotate_left
        ·
         intro w'
         go_simp
         with_reducible rfl
        rotate_left
        ·
         simp only [Act.put, List.setIfInBounds_toArray, List.set_cons_zero, List.set_cons_succ, i64_w, i32_w]
         rfl
        refine pure_ (i := 15) (N := some 7) (v := ?_) (a' := ?_) #[true, true, true, true, true, true, true, true, true, true, true, true, true, true, true, true] rfl rfl (any_of HT_.out (by kernel_rfl)) (fun _ _ _ h => h) (Or.inl ⟨by rfl, ?_⟩) ?_ ?_
        rotate_left
        ·
         intro w'
         go_simp
         with_reducible rfl
        rotate_left
        ·
         simp only [Act.put, List.setIfInBounds_toArray, List.set_cons_zero, List.set_cons_succ, i64_w, i32_w]
         rfl
        refine done_ (done_of HT_.out (by kernel_rfl)) ?_
        try go_wp2
        go_roundg k1
        case measure => have := HK1.out; omega
        case rel => exact ⟨(ji11), (wrap64 (x8_1 + 1)), (by first | rfl | (simp; done) | (simp only [← hji11] <;> (first | rfl | simp)) | (simp [*]; done)), (by first | rfl | (simp; done) | (simp [*]; done)), H', ⟨by have := HK1.out; omega⟩, ⟨by (with_reducible repeat (first | refine blk_drewN ?_ _ | refine blk_drew ?_ | refine blk_alloc ?_ _)); exact BK205.out⟩, ⟨by repeat (first | (with_reducible first | exact HB.out | apply below_alloc | apply pw_below_drewN | apply below_drew1 | refine below_set ?_ GE205.out) | exact HB.out)⟩⟩
       ·
        rw [if_neg c9] at H
        exact absurd H (by simp)
      ·
       rw [if_neg c8] at H
       have c8b0 : decide (0 < a2) = false := decide_eq_false c8
       clear c8
       obtain rfl := Option.some.inj H
       have hcz15_0 : wr.cell? ⟨gb205, 0, none⟩ = some (.slice A0_0 l0_0.length c0_0) := (blk_cell BK205.out 0).trans rfl
       have hcz15_1 : wr.cell? ⟨gb205, 1, none⟩ = some (.slice A0_1 l0_1.length c0_1) := (blk_cell BK205.out 1).trans rfl
       have hfz15_0 := blk_frozen BK205.out 0
       have hfz15_1 := blk_frozen BK205.out 1
       have p206 : 0 ≤ (a1 : Int) := of_decide_eq_true (by first | (with_reducible assumption) | assumption)
       have q206 : a1 < (l0_1.length : Int) := of_decide_eq_true (by first | (with_reducible assumption) | assumption)
       obtain ⟨ad206, A206_1, c206_1, e206, hx206_0, hx206_1, hx206_2, hx206_3, hx206_4, hx206_5, hx206_6, hl206_1, hi206_1⟩ := at_T56 HR0_1.out a1 p206 q206
       cases e206
       replace hx206_0 := (HB.out.cell (World.block_lt_of_cell? w _ hx206_0)).trans hx206_0
       replace hx206_1 := (HB.out.cell (World.block_lt_of_cell? w _ hx206_1)).trans hx206_1
       replace hx206_2 := (HB.out.cell (World.block_lt_of_cell? w _ hx206_2)).trans hx206_2
       replace hx206_3 := (HB.out.cell (World.block_lt_of_cell? w _ hx206_3)).trans hx206_3
       replace hx206_4 := (HB.out.cell (World.block_lt_of_cell? w _ hx206_4)).trans hx206_4
       replace hx206_5 := (HB.out.cell (World.block_lt_of_cell? w _ hx206_5)).trans hx206_5
       replace hx206_6 := (HB.out.cell (World.block_lt_of_cell? w _ hx206_6)).trans hx206_6
       have HR206_1 := Aside0.mk hi206_1
       have HC206_1 := Aside0.mk hl206_1
       clear hi206_1 hl206_1
       replace p206 := eq_true p206
       replace q206 := eq_true q206
       go_wp2
       go_ret
       exact ⟨by first | rfl | (simp [errW_none, errW_some] <;> rfl) | (simp [*, errW_none, errW_some] <;> rfl), by repeat (first | (with_reducible first | exact HB.out | apply below_alloc | apply pw_below_drewN | apply below_drew1 | refine below_set ?_ GE205.out) | exact HB.out)⟩
     ·
      rw [if_neg c7] at H
      have c7b0 : decide (x8_1 < (((rd_T56 l0_1 a1).f1).length : Int)) = false := decide_eq_false c7
      clear c7
      obtain rfl := Option.some.inj H
      have hcz16_0 : wr.cell? ⟨gb205, 0, none⟩ = some (.slice A0_0 l0_0.length c0_0) := (blk_cell BK205.out 0).trans rfl
      have hcz16_1 : wr.cell? ⟨gb205, 1, none⟩ = some (.slice A0_1 l0_1.length c0_1) := (blk_cell BK205.out 1).trans rfl
      have hfz16_0 := blk_frozen BK205.out 0
      have hfz16_1 := blk_frozen BK205.out 1
      have p206 : 0 ≤ (a1 : Int) := of_decide_eq_true (by first | (with_reducible assumption) | assumption)
      have q206 : a1 < (l0_1.length : Int) := of_decide_eq_true (by first | (with_reducible assumption) | assumption)
      obtain ⟨ad206, A206_1, c206_1, e206, hx206_0, hx206_1, hx206_2, hx206_3, hx206_4, hx206_5, hx206_6, hl206_1, hi206_1⟩ := at_T56 HR0_1.out a1 p206 q206
      cases e206
      replace hx206_0 := (HB.out.cell (World.block_lt_of_cell? w _ hx206_0)).trans hx206_0
      replace hx206_1 := (HB.out.cell (World.block_lt_of_cell? w _ hx206_1)).trans hx206_1
      replace hx206_2 := (HB.out.cell (World.block_lt_of_cell? w _ hx206_2)).trans hx206_2
      replace hx206_3 := (HB.out.cell (World.block_lt_of_cell? w _ hx206_3)).trans hx206_3
      replace hx206_4 := (HB.out.cell (World.block_lt_of_cell? w _ hx206_4)).trans hx206_4
      replace hx206_5 := (HB.out.cell (World.block_lt_of_cell? w _ hx206_5)).trans hx206_5
      replace hx206_6 := (HB.out.cell (World.block_lt_of_cell? w _ hx206_6)).trans hx206_6
      have HR206_1 := Aside0.mk hi206_1
      have HC206_1 := Aside0.mk hl206_1
      clear hi206_1 hl206_1
      replace p206 := eq_true p206
      replace q206 := eq_true q206
      go_wp2
      go_ret
      exact ⟨by first | rfl | (simp [errW_none, errW_some] <;> rfl) | (simp [*, errW_none, errW_some] <;> rfl), by repeat (first | (with_reducible first | exact HB.out | apply below_alloc | apply pw_below_drewN | apply below_drew1 | refine below_set ?_ GE205.out) | exact HB.out)⟩
    ·
     rw [if_neg c6] at H
     exact absurd H (by simp)
   ·
    rw [if_neg c5] at H
    exact absurd H (by simp)
end Go.Proofs.Ythgedejnpgcacaa.V
