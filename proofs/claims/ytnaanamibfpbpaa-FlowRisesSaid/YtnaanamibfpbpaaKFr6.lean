/- The law FlowRises returns true whatever comes in, and leaves its arguments as they were. No condition. -/
import Derived.Test.YtnaanamibfpbpaaKFr5
import Derived.Test.YtnaanamibfpbpaaRows
import Derived.WalkKit
import Derived.ProofKit
import Derived.OpenShut
import Derived.ShutString
import Derived.ChangeOld
import Derived.Below
import Derived.SizedLaws
import Derived.Carry
namespace Go.Proofs.Ytnaanamibfpbpaa.V
open Go.RowKit Go.Proofs.YtnaanamibfpbpaaW.PrintWords Go.Proofs.YtnaanamibfpbpaaW.PrintLast Go.Proofs.YtnaanamibfpbpaaW.PrintMore
attribute [local go_sem] max2_int min2_int max_two min_two max_three min_three max_four min_four tdiv_most
set_option linter.unusedVariables false
set_option linter.unusedSimpArgs false
mutual
def Qi1.j0 : Nat → List (S35) → List (S35) → Bool → List (S39) → List (S53) → Option (Bool)
 | 0, _, _, _, _, _ => none
 | k + 1, x1, x2, x33, x267000, x267001 => if x33 = true then ((Qj1.f k).bind fun t269 => (some t269)) else (Qi1.l0 k x1 x2 ([] : List (S35)) 0 x267000 x267001)
def Qi1.l0 : Nat → List (S35) → List (S35) → List (S35) → Int → List (S39) → List (S53) → Option (Bool)
 | 0, _, _, _, _, _, _ => none
 | k + 1, x1, x2, x7, x8, x267000, x267001 => if x8 < (x1.length : Int) then (if 0 ≤ x8 then (if (Qp x1 x8).f0 = true then (if (Qp x1 x8).f1 = true then (if (Qp x1 x8).f2 = true then (if x7.length < 46912496118442 then (Qi1.l0 k x1 x2 (x7 ++ [(⟨true, true, true⟩ : S35)]) (wrap64 (x8 + 1)) x267000 x267001) else (none)) else (if x8 < (x2.length : Int) then (if x7.length < 46912496118442 then (Qi1.l0 k x1 x2 (x7 ++ [(⟨true, true, (Qp x2 x8).f2⟩ : S35)]) (wrap64 (x8 + 1)) x267000 x267001) else (none)) else (none))) else (if x8 < (x2.length : Int) then (if (Qp x1 x8).f2 = true then (if x7.length < 46912496118442 then (Qi1.l0 k x1 x2 (x7 ++ [(⟨true, (Qp x2 x8).f1, true⟩ : S35)]) (wrap64 (x8 + 1)) x267000 x267001) else (none)) else (if x7.length < 46912496118442 then (Qi1.l0 k x1 x2 (x7 ++ [(⟨true, (Qp x2 x8).f1, (Qp x2 x8).f2⟩ : S35)]) (wrap64 (x8 + 1)) x267000 x267001) else (none))) else (none))) else (if x8 < (x2.length : Int) then (if (Qp x1 x8).f1 = true then (if (Qp x1 x8).f2 = true then (if x7.length < 46912496118442 then (Qi1.l0 k x1 x2 (x7 ++ [(⟨(Qp x2 x8).f0, true, true⟩ : S35)]) (wrap64 (x8 + 1)) x267000 x267001) else (none)) else (if x7.length < 46912496118442 then (Qi1.l0 k x1 x2 (x7 ++ [(⟨(Qp x2 x8).f0, true, (Qp x2 x8).f2⟩ : S35)]) (wrap64 (x8 + 1)) x267000 x267001) else (none))) else (if (Qp x1 x8).f2 = true then (if x7.length < 46912496118442 then (Qi1.l0 k x1 x2 (x7 ++ [(⟨(Qp x2 x8).f0, (Qp x2 x8).f1, true⟩ : S35)]) (wrap64 (x8 + 1)) x267000 x267001) else (none)) else (if x7.length < 46912496118442 then (Qi1.l0 k x1 x2 (x7 ++ [(⟨(Qp x2 x8).f0, (Qp x2 x8).f1, (Qp x2 x8).f2⟩ : S35)]) (wrap64 (x8 + 1)) x267000 x267001) else (none)))) else (none))) else (none)) else ((Qr1.f k x1).bind fun t308 => ((flow_Step.f k x267000 x267001 t308).bind fun t311 => ((Qn1.f k t311).bind fun t314 => ((Qr1.f k x7).bind fun t317 => ((flow_Step.f k x267000 x267001 t317).bind fun t320 => ((Qn1.f k t320).bind fun t323 => ((Qu.f k t314 t323).bind fun t326 => (if t326 = true then ((Qu.f k t323 x7).bind fun t327 => (if t327 = true then ((flow_Of.f k x267000 x267001).bind fun t328 => ((Qn1.f k t328).bind fun t331 => ((Qu.f k t331 x7).bind fun t334 => (some t334)))) else (some true))) else (some false)))))))))
end
def Qi1.f (k : Nat) (l0_0 : List (S39)) (l0_1 : List (S53)) (l1 : List (S35)) (l2 : List (S35)) : Option (Bool) := (Qj1.f k).bind fun t267 => (if t267 = true then ((vetchref05_Small.f k l0_0 l0_1).bind fun t268 => (if t268 = true then (if (l1.length : Int) = (l0_1.length : Int) then (Qi1.j0 k l1 l2 ((l2.length : Int) != (l0_1.length : Int)) l0_0 l0_1) else (Qi1.j0 k l1 l2 true l0_0 l0_1)) else (Qi1.j0 k l1 l2 true l0_0 l0_1))) else (Qi1.j0 k l1 l2 true l0_0 l0_1))
def Qi1.T7 : Bool × List (List Nat × List Nat) := (true, [([], []), ([], []), ([], []), ([1, 2], [1, 2]), ([3], [3]), ([4], [4]), ([5], [5]), ([6], [6]), ([6], [6]), ([7, 8, 6], [6, 7, 8]), ([9, 6], [6, 9]), ([10, 6], [6, 10]), ([6, 11], [6, 11]), ([], []), ([], []), ([13, 14], [13, 14]), ([15], [15]), ([16], [16]), ([17, 6], [17]), ([18], [18]), ([18], [18]), ([19, 20, 18], [18, 19, 20]), ([21, 18], [18, 21]), ([22, 18], [18, 22]), ([18, 23], [18, 23]), ([], []), ([], []), ([25, 26], [25, 26]), ([27], [27]), ([28], [28]), ([29, 18], [29]), ([30], [30]), ([30], [30]), ([31, 32, 30], [30, 31, 32]), ([33, 30], [30, 33]), ([34, 30], [30, 34]), ([30, 35], [30, 35]), ([12, 24, 36], [12, 24, 36]), ([37], [37]), ([0, 38, 30], [0, 38]), ([39, 39, 0, 1, 2, 3, 4, 5, 6, 7, 8, 9, 10, 11, 12, 13, 14, 15, 16, 17, 18, 19, 20, 21, 22, 23, 24, 25, 26, 27, 28, 29, 30, 31, 32, 33, 34, 35, 36, 37, 38, 39], [0, 39])])
def Qi1.B7 : List Nat := [0, 0, 0, 6, 14, 30, 62, 126, 126, 510, 1022, 2046, 4094, 0, 0, 24576, 57344, 122880, 254078, 516222, 516222, 2089086, 4186238, 8380542, 16769150, 0, 0, 100663296, 234881024, 503316480, 1040703614, 2114445438, 2114445438, 8556896382, 17146830974, 34326700158, 68686438526, 137438953470, 274877906942, 549755813887, 1099511627775]
theorem Qi1.tab7 : rtab .any (opsOf Try.f6 7) = Qi1.T7 := by kernel_rfl
theorem Qi1.bits7 : waitsOk Qi1.T7.2 Qi1.B7 = true := by kernel_rfl
set_option maxHeartbeats 8000000 in
set_option maxRecDepth 100000 in
theorem Qi1.calls (k : Nat) (A0_0 : Option Addr) (c0_0 : Nat) (l0_0 : List (S39)) (A0_1 : Option Addr) (c0_1 : Nat) (l0_1 : List (S53)) (A1 : Option Addr) (c1 : Nat) (l1 : List (S35)) (A2 : Option Addr) (c2 : Nat) (l2 : List (S35)) (r : Bool) (w : World) (hr0_0 : Kd.C k39 w A0_0 l0_0.length l0_0) (hc0_0 : l0_0.length ≤ c0_0) (hr0_1 : Kd.C k53 w A0_1 l0_1.length l0_1) (hc0_1 : l0_1.length ≤ c0_1) (hr1 : Kd.C k35 w A1 l1.length l1) (hc1 : l1.length ≤ c1) (hr2 : Kd.C k35 w A2 l2.length l2) (hc2 : l2.length ≤ c2) (h : Qi1.f k l0_0 l0_1 l1 l2 = some r) :
 Calls Try.prog 6 #[.agg #[.slice A0_0 l0_0.length c0_0, .slice A0_1 l0_1.length c0_1], .slice A1 l1.length c1, .slice A2 l2.length c2] w fun e w' => e = .returned (.bool r) ∧ Below w.heap.size w w' := by
 have hu25 := Try.underlying25
 have hu35 := Try.underlying35
 have HR0_0 := Qa.mk hr0_0
 have HC0_0 := Qa.mk hc0_0
 clear hr0_0 hc0_0
 have HR0_1 := Qa.mk hr0_1
 have HC0_1 := Qa.mk hc0_1
 clear hr0_1 hc0_1
 have HR1 := Qa.mk hr1
 have HC1 := Qa.mk hc1
 clear hr1 hc1
 have HR2 := Qa.mk hr2
 have HC2 := Qa.mk hc2
 clear hr2 hc2
 have HB := Qa.mk (Below.refl w.heap.size w)
 have H : ((Qj1.f k).bind fun t267 => (if t267 = true then ((vetchref05_Small.f k l0_0 l0_1).bind fun t268 => (if t268 = true then (if (l1.length : Int) = (l0_1.length : Int) then (Qi1.j0 k l1 l2 ((l2.length : Int) != (l0_1.length : Int)) l0_0 l0_1) else (Qi1.j0 k l1 l2 true l0_0 l0_1)) else (Qi1.j0 k l1 l2 true l0_0 l0_1))) else (Qi1.j0 k l1 l2 true l0_0 l0_1))) = some r := h
 clear h
 have HC4 := Qa.mk H
 clear H
 go_enter Try.func6, Try.ntmps6
 go_upto_region 1 with (first | ((with_reducible refine Qg1 (N := 3) rfl ?_); (try (refine gate_guard (by rfl) ?_; dsimp only)); refine Qh1 ?hg (N := 3) ?hd (cs := #[.slice A0_0 l0_0.length c0_0, .slice A0_1 l0_1.length c0_1]) (t := 25) ?hr ?_; (case hd => rfl); (case hg => rfl); (case hr => first | (go_simp; done) | (go_simp; rfl)); intro gb266 hg w5 hbox hb; have n0_ := Qa.mk (Qv (by with_reducible repeat (first | exact HB.out | apply Qk | apply Ql | apply Qj)) hb); have n1_ := Qa.mk (hbox); have n2_ := Qa.mk ((by rw [hg]; exact (Qb1 (by with_reducible repeat (first | exact HB.out | apply Qk | apply Ql | apply Qj))) : w.heap.size ≤ gb266)); have n3_ := n2_; clear HB; have HB := n0_; have BK266 := n1_; have GW266 := n2_; have GE266 := n3_; clear n0_ n1_ n2_ n3_; clear hb hbox hg))
 (try simp only [Act.put, List.setIfInBounds_toArray, List.set_cons_zero, List.set_cons_succ])
 go_cut [33] (fun v33 wc => ∃ (kq : Nat) (x33_3 : Bool), v33 = .bool x33_3 ∧ Qa (Qi1.j0 kq l1 l2 x33_3 l0_0 l0_1 = some r) ∧ Qa (kq ≤ k) ∧ Qa (x33_3 = false → l1.length = l2.length) ∧ Qa (wc.heap[gb266]? = some (.cells #[(.slice A0_0 l0_0.length c0_0), (.slice A0_1 l0_1.length c0_1)] 25 (0, 0))) ∧ Qa (Below w.heap.size w wc))
 case first =>
  have H := HC4.out
  clear HC4
  replace H := Option.bind_eq_some_iff.mp H
  obtain ⟨t267, A60, H⟩ := H
  replace H : (if t267 = true then ((vetchref05_Small.f k l0_0 l0_1).bind fun t268 => (if t268 = true then (if (l1.length : Int) = (l0_1.length : Int) then (Qi1.j0 k l1 l2 ((l2.length : Int) != (l0_1.length : Int)) l0_0 l0_1) else (Qi1.j0 k l1 l2 true l0_0 l0_1)) else (Qi1.j0 k l1 l2 true l0_0 l0_1))) else (Qi1.j0 k l1 l2 true l0_0 l0_1)) = some r := H
  have A6 := Qa.mk A60
  clear A60
  by_cases c7 : t267 = true
  rotate_left
  ·
   replace c7 := Bool.eq_false_iff.mpr c7
   subst c7
   have H1 : (Qi1.j0 k l1 l2 true l0_0 l0_1) = some r := by rw [if_neg (show ¬ (false = true) by decide)] at H; exact H
   clear H
   have H := H1
   clear H1
   have H' := Qa.mk H
   clear H
   go_wp2_with (first | ((with_reducible refine gate_callee (f := 8) rfl ?_); refine goesL_ (some 11) rfl rfl Try.func8 (by kernel_rfl) rfl #[] rfl (by (try simp only [List.map_toArray, List.map_cons, List.map_nil]); first | done | rfl | (simp only [List.length_drop, List.length_take]; rfl)) ?_; (with_reducible refine (Qj1.calls k  false _ A6.out).mono ?_); rintro e w22 ⟨rfl, hb⟩; refine ⟨_, rfl, ?_⟩; have n0_ := Qa.mk (Qs (g := gb266) (o := .cells #[.slice A0_0 l0_0.length c0_0, .slice A0_1 l0_1.length c0_1] 25 (0, 0)) (by (with_reducible repeat (first | refine Qd ?_ _ | refine Qb ?_ | refine Qc ?_ _)); exact BK266.out) hb); have n1_ := Qa.mk (Qv (by with_reducible repeat (first | exact HB.out | apply Qk | apply Ql | apply Qj | refine Qi ?_ GE266.out)) hb); clear BK266; clear HB; have BK266 := n0_; have HB := n1_; clear n0_ n1_; (try clear hb); (try clear hb2); (try clear hk); (try clear hi)))
   go_meet
   case rel => exact ⟨_, (true), (by first | rfl | (simp; done) | (simp [*]; done)), H', ⟨by first | omega | exact Nat.le_refl _⟩, ⟨fun h => by cases h⟩, ⟨by (with_reducible repeat (first | refine Qd ?_ _ | refine Qb ?_ | refine Qc ?_ _)); exact BK266.out⟩, ⟨by with_reducible repeat (first | exact HB.out | apply Qk | apply Ql | apply Qj | refine Qi ?_ GE266.out)⟩⟩
  subst c7
  have H1 : ((vetchref05_Small.f k l0_0 l0_1).bind fun t268 => (if t268 = true then (if (l1.length : Int) = (l0_1.length : Int) then (Qi1.j0 k l1 l2 ((l2.length : Int) != (l0_1.length : Int)) l0_0 l0_1) else (Qi1.j0 k l1 l2 true l0_0 l0_1)) else (Qi1.j0 k l1 l2 true l0_0 l0_1))) = some r := by rw [if_pos rfl] at H; exact H
  clear H
  have H := H1
  clear H1
  replace H := Option.bind_eq_some_iff.mp H
  obtain ⟨t268, A80, H⟩ := H
  replace H : (if t268 = true then (if (l1.length : Int) = (l0_1.length : Int) then (Qi1.j0 k l1 l2 ((l2.length : Int) != (l0_1.length : Int)) l0_0 l0_1) else (Qi1.j0 k l1 l2 true l0_0 l0_1)) else (Qi1.j0 k l1 l2 true l0_0 l0_1)) = some r := H
  have A8 := Qa.mk A80
  clear A80
  by_cases c9 : t268 = true
  rotate_left
  ·
   replace c9 := Bool.eq_false_iff.mpr c9
   subst c9
   have H1 : (Qi1.j0 k l1 l2 true l0_0 l0_1) = some r := by rw [if_neg (show ¬ (false = true) by decide)] at H; exact H
   clear H
   have H := H1
   clear H1
   have H' := Qa.mk H
   clear H
   go_wp2_with (first | ((with_reducible refine gate_callee (f := 8) rfl ?_); refine goesL_ (some 11) rfl rfl Try.func8 (by kernel_rfl) rfl #[] rfl (by (try simp only [List.map_toArray, List.map_cons, List.map_nil]); first | done | rfl | (simp only [List.length_drop, List.length_take]; rfl)) ?_; (with_reducible refine (Qj1.calls k  true _ A6.out).mono ?_); rintro e w19 ⟨rfl, hb⟩; refine ⟨_, rfl, ?_⟩; have n0_ := Qa.mk (Qs (g := gb266) (o := .cells #[.slice A0_0 l0_0.length c0_0, .slice A0_1 l0_1.length c0_1] 25 (0, 0)) (by (with_reducible repeat (first | refine Qd ?_ _ | refine Qb ?_ | refine Qc ?_ _)); exact BK266.out) hb); have n1_ := Qa.mk (Qv (by with_reducible repeat (first | exact HB.out | apply Qk | apply Ql | apply Qj | refine Qi ?_ GE266.out)) hb); clear BK266; clear HB; have BK266 := n0_; have HB := n1_; clear n0_ n1_; (try clear hb); (try clear hb2); (try clear hk); (try clear hi); have hcz20_0 : w19.cell? ⟨gb266, 0, none⟩ = some (.slice A0_0 l0_0.length c0_0) := (Qe BK266.out 0).trans rfl; have hcz20_1 : w19.cell? ⟨gb266, 1, none⟩ = some (.slice A0_1 l0_1.length c0_1) := (Qe BK266.out 1).trans rfl; have hfz20_0 := Qf BK266.out 0; have hfz20_1 := Qf BK266.out 1) | (go_at_call 9; (with_reducible refine (vetchref05_Small.calls k _ _ l0_0 _ _ l0_1 false _ ?side1 ?side2 ?side3 ?side4 A8.out).mono ?_); (case side1 => repeat (first | exact (Kd.C_below HR0_0.out HB.out) | (with_reducible refine Kd.Qf1 ?_ _) | (with_reducible refine Kd.Qe1 ?_ _) | (with_reducible refine Kd.C_drew ?_))); (case side2 => exact HC0_0.out); (case side3 => repeat (first | exact (Kd.C_below HR0_1.out HB.out) | (with_reducible refine Kd.Qf1 ?_ _) | (with_reducible refine Kd.Qe1 ?_ _) | (with_reducible refine Kd.C_drew ?_))); (case side4 => exact HC0_1.out); rintro e w21 ⟨rfl, hb⟩; have n0_ := Qa.mk (Qs (g := gb266) (o := .cells #[.slice A0_0 l0_0.length c0_0, .slice A0_1 l0_1.length c0_1] 25 (0, 0)) (by (with_reducible repeat (first | refine Qd ?_ _ | refine Qb ?_ | refine Qc ?_ _)); exact BK266.out) hb); have n1_ := Qa.mk (Qv (by with_reducible repeat (first | exact HB.out | apply Qk | apply Ql | apply Qj | refine Qi ?_ GE266.out)) hb); clear BK266; clear HB; have BK266 := n0_; have HB := n1_; clear n0_ n1_; (try clear hb); (try clear hb2); (try clear hk); (try clear hi)))
   go_meet
   case rel => exact ⟨_, (true), (by first | rfl | (simp; done) | (simp [*]; done)), H', ⟨by first | omega | exact Nat.le_refl _⟩, ⟨fun h => by cases h⟩, ⟨by (with_reducible repeat (first | refine Qd ?_ _ | refine Qb ?_ | refine Qc ?_ _)); exact BK266.out⟩, ⟨by with_reducible repeat (first | exact HB.out | apply Qk | apply Ql | apply Qj | refine Qi ?_ GE266.out)⟩⟩
  subst c9
  have H1 : (if (l1.length : Int) = (l0_1.length : Int) then (Qi1.j0 k l1 l2 ((l2.length : Int) != (l0_1.length : Int)) l0_0 l0_1) else (Qi1.j0 k l1 l2 true l0_0 l0_1)) = some r := by rw [if_pos rfl] at H; exact H
  clear H
  have H := H1
  clear H1
  by_cases c10 : (l1.length : Int) = (l0_1.length : Int)
  ·
   rw [if_pos c10] at H
   have c10b0 : ((l1.length : Int) == (l0_1.length : Int)) = true := beq_iff_eq.mpr c10
   have hlen0 := Qa.mk c10
   have c10b1 : ((l1.length : Int) != (l0_1.length : Int)) = false := bne_eq_false_iff_eq.mpr c10
   have c10b2 : (l1.length == l0_1.length) = true := by first | simpa using c10 | (simp at c10 ⊢; omega)
   clear c10
   (first | rw [c10b0] | (simp only [i64_w, i32_w]; rw [c10b0]) | skip)
   have H' := Qa.mk H
   clear H
   go_wp2_with (first | ((with_reducible refine gate_callee (f := 8) rfl ?_); refine goesL_ (some 11) rfl rfl Try.func8 (by kernel_rfl) rfl #[] rfl (by (try simp only [List.map_toArray, List.map_cons, List.map_nil]); first | done | rfl | (simp only [List.length_drop, List.length_take]; rfl)) ?_; (with_reducible refine (Qj1.calls k  true _ A6.out).mono ?_); rintro e w11 ⟨rfl, hb⟩; refine ⟨_, rfl, ?_⟩; have n0_ := Qa.mk (Qs (g := gb266) (o := .cells #[.slice A0_0 l0_0.length c0_0, .slice A0_1 l0_1.length c0_1] 25 (0, 0)) (by (with_reducible repeat (first | refine Qd ?_ _ | refine Qb ?_ | refine Qc ?_ _)); exact BK266.out) hb); have n1_ := Qa.mk (Qv (by with_reducible repeat (first | exact HB.out | apply Qk | apply Ql | apply Qj | refine Qi ?_ GE266.out)) hb); clear BK266; clear HB; have BK266 := n0_; have HB := n1_; clear n0_ n1_; (try clear hb); (try clear hb2); (try clear hk); (try clear hi); have hcz12_0 : w11.cell? ⟨gb266, 0, none⟩ = some (.slice A0_0 l0_0.length c0_0) := (Qe BK266.out 0).trans rfl; have hcz12_1 : w11.cell? ⟨gb266, 1, none⟩ = some (.slice A0_1 l0_1.length c0_1) := (Qe BK266.out 1).trans rfl; have hfz12_0 := Qf BK266.out 0; have hfz12_1 := Qf BK266.out 1) | (go_at_call 9; (with_reducible refine (vetchref05_Small.calls k _ _ l0_0 _ _ l0_1 true _ ?side1 ?side2 ?side3 ?side4 A8.out).mono ?_); (case side1 => repeat (first | exact (Kd.C_below HR0_0.out HB.out) | (with_reducible refine Kd.Qf1 ?_ _) | (with_reducible refine Kd.Qe1 ?_ _) | (with_reducible refine Kd.C_drew ?_))); (case side2 => exact HC0_0.out); (case side3 => repeat (first | exact (Kd.C_below HR0_1.out HB.out) | (with_reducible refine Kd.Qf1 ?_ _) | (with_reducible refine Kd.Qe1 ?_ _) | (with_reducible refine Kd.C_drew ?_))); (case side4 => exact HC0_1.out); rintro e w13 ⟨rfl, hb⟩; have n0_ := Qa.mk (Qs (g := gb266) (o := .cells #[.slice A0_0 l0_0.length c0_0, .slice A0_1 l0_1.length c0_1] 25 (0, 0)) (by (with_reducible repeat (first | refine Qd ?_ _ | refine Qb ?_ | refine Qc ?_ _)); exact BK266.out) hb); have n1_ := Qa.mk (Qv (by with_reducible repeat (first | exact HB.out | apply Qk | apply Ql | apply Qj | refine Qi ?_ GE266.out)) hb); clear BK266; clear HB; have BK266 := n0_; have HB := n1_; clear n0_ n1_; (try clear hb); (try clear hb2); (try clear hk); (try clear hi); have hcz14_0 : w13.cell? ⟨gb266, 0, none⟩ = some (.slice A0_0 l0_0.length c0_0) := (Qe BK266.out 0).trans rfl; have hcz14_1 : w13.cell? ⟨gb266, 1, none⟩ = some (.slice A0_1 l0_1.length c0_1) := (Qe BK266.out 1).trans rfl; have hfz14_0 := Qf BK266.out 0; have hfz14_1 := Qf BK266.out 1))
   go_meet
   case rel => exact ⟨_, (((l2.length : Int) != (l0_1.length : Int))), (by first | rfl | (simp; done) | (simp [*]; done)), H', ⟨by first | omega | exact Nat.le_refl _⟩, ⟨fun h => by have h1 := bne_eq_false_iff_eq.1 h; have h2 := hlen0.out; omega⟩, ⟨by (with_reducible repeat (first | refine Qd ?_ _ | refine Qb ?_ | refine Qc ?_ _)); exact BK266.out⟩, ⟨by with_reducible repeat (first | exact HB.out | apply Qk | apply Ql | apply Qj | refine Qi ?_ GE266.out)⟩⟩
  rw [if_neg c10] at H
  have c10b0 : ((l1.length : Int) == (l0_1.length : Int)) = false := beq_eq_false_iff_ne.mpr c10
  have c10b1 : ((l1.length : Int) != (l0_1.length : Int)) = true := bne_iff_ne.mpr c10
  have c10b2 : (l1.length == l0_1.length) = false := by first | simpa using c10 | (simp at c10 ⊢; omega)
  (first | rw [c10b0] | (simp only [i64_w, i32_w]; rw [c10b0]) | skip)
  have H' := Qa.mk H
  clear H
  go_wp2_with (first | ((with_reducible refine gate_callee (f := 8) rfl ?_); refine goesL_ (some 11) rfl rfl Try.func8 (by kernel_rfl) rfl #[] rfl (by (try simp only [List.map_toArray, List.map_cons, List.map_nil]); first | done | rfl | (simp only [List.length_drop, List.length_take]; rfl)) ?_; (with_reducible refine (Qj1.calls k  true _ A6.out).mono ?_); rintro e w15 ⟨rfl, hb⟩; refine ⟨_, rfl, ?_⟩; have n0_ := Qa.mk (Qs (g := gb266) (o := .cells #[.slice A0_0 l0_0.length c0_0, .slice A0_1 l0_1.length c0_1] 25 (0, 0)) (by (with_reducible repeat (first | refine Qd ?_ _ | refine Qb ?_ | refine Qc ?_ _)); exact BK266.out) hb); have n1_ := Qa.mk (Qv (by with_reducible repeat (first | exact HB.out | apply Qk | apply Ql | apply Qj | refine Qi ?_ GE266.out)) hb); clear BK266; clear HB; have BK266 := n0_; have HB := n1_; clear n0_ n1_; (try clear hb); (try clear hb2); (try clear hk); (try clear hi); have hcz16_0 : w15.cell? ⟨gb266, 0, none⟩ = some (.slice A0_0 l0_0.length c0_0) := (Qe BK266.out 0).trans rfl; have hcz16_1 : w15.cell? ⟨gb266, 1, none⟩ = some (.slice A0_1 l0_1.length c0_1) := (Qe BK266.out 1).trans rfl; have hfz16_0 := Qf BK266.out 0; have hfz16_1 := Qf BK266.out 1) | (go_at_call 9; (with_reducible refine (vetchref05_Small.calls k _ _ l0_0 _ _ l0_1 true _ ?side1 ?side2 ?side3 ?side4 A8.out).mono ?_); (case side1 => repeat (first | exact (Kd.C_below HR0_0.out HB.out) | (with_reducible refine Kd.Qf1 ?_ _) | (with_reducible refine Kd.Qe1 ?_ _) | (with_reducible refine Kd.C_drew ?_))); (case side2 => exact HC0_0.out); (case side3 => repeat (first | exact (Kd.C_below HR0_1.out HB.out) | (with_reducible refine Kd.Qf1 ?_ _) | (with_reducible refine Kd.Qe1 ?_ _) | (with_reducible refine Kd.C_drew ?_))); (case side4 => exact HC0_1.out); rintro e w17 ⟨rfl, hb⟩; have n0_ := Qa.mk (Qs (g := gb266) (o := .cells #[.slice A0_0 l0_0.length c0_0, .slice A0_1 l0_1.length c0_1] 25 (0, 0)) (by (with_reducible repeat (first | refine Qd ?_ _ | refine Qb ?_ | refine Qc ?_ _)); exact BK266.out) hb); have n1_ := Qa.mk (Qv (by with_reducible repeat (first | exact HB.out | apply Qk | apply Ql | apply Qj | refine Qi ?_ GE266.out)) hb); clear BK266; clear HB; have BK266 := n0_; have HB := n1_; clear n0_ n1_; (try clear hb); (try clear hb2); (try clear hk); (try clear hi); have hcz18_0 : w17.cell? ⟨gb266, 0, none⟩ = some (.slice A0_0 l0_0.length c0_0) := (Qe BK266.out 0).trans rfl; have hcz18_1 : w17.cell? ⟨gb266, 1, none⟩ = some (.slice A0_1 l0_1.length c0_1) := (Qe BK266.out 1).trans rfl; have hfz18_0 := Qf BK266.out 0; have hfz18_1 := Qf BK266.out 1))
  go_meet
  case rel => exact ⟨_, (true), (by first | rfl | (simp; done) | (simp [*]; done)), H', ⟨by first | omega | exact Nat.le_refl _⟩, ⟨fun h => by cases h⟩, ⟨by (with_reducible repeat (first | refine Qd ?_ _ | refine Qb ?_ | refine Qc ?_ _)); exact BK266.out⟩, ⟨by with_reducible repeat (first | exact HB.out | apply Qk | apply Ql | apply Qj | refine Qi ?_ GE266.out)⟩⟩
 case rest =>
  clear HC4
  (try clear c1; try clear c2; try clear p2; try clear c6; try clear c7; try clear c8; try clear c9; try clear c10; try clear c10b0; try clear c10b1; try clear c10b2; try clear hcz12_0; try clear hcz12_1; try clear hcz14_0; try clear hcz14_1; try clear hcz16_0; try clear hcz16_1; try clear hcz18_0; try clear hcz18_1; try clear hcz20_0; try clear hcz20_1; try clear hfz12_0; try clear hfz12_1; try clear hfz14_0; try clear hfz14_1; try clear hfz16_0; try clear hfz16_1; try clear hfz18_0; try clear hfz18_1; try clear hfz20_0; try clear hfz20_1)
  obtain ⟨kq, x33_3, rfl, HA, HJ3, HLE, BK266, HB⟩ := hcut
  cases kq with
  | zero => exact absurd HA.out (by simp [Qi1.j0])
  | succ kj3 =>
   have H := HA.out
   clear HA
   simp only [Qi1.j0] at H
   by_cases c23 : x33_3 = true
   ·
    subst c23
    have H1 : ((Qj1.f kj3).bind fun t269 => (some t269)) = some r := by rw [if_pos rfl] at H; exact H
    clear H
    have H := H1
    clear H1
    replace H := Option.bind_eq_some_iff.mp H
    obtain ⟨t269, A240, H⟩ := H
    replace H : (some t269) = some r := H
    have A24 := Qa.mk A240
    clear A240
    obtain rfl := Option.some.inj H
    go_wp2_with (first | ((with_reducible refine gate_callee (f := 8) rfl ?_); refine goesL_ (some 34) rfl rfl Try.func8 (by kernel_rfl) rfl #[] rfl (by (try simp only [List.map_toArray, List.map_cons, List.map_nil]); first | done | rfl | (simp only [List.length_drop, List.length_take]; rfl)) ?_; (with_reducible refine (Qj1.calls kj3  t269 _ A24.out).mono ?_); rintro e w25 ⟨rfl, hb⟩; refine ⟨_, rfl, ?_⟩; have n0_ := Qa.mk (Qs (g := gb266) (o := .cells #[.slice A0_0 l0_0.length c0_0, .slice A0_1 l0_1.length c0_1] 25 (0, 0)) (by (with_reducible repeat (first | refine Qd ?_ _ | refine Qb ?_ | refine Qc ?_ _)); exact BK266.out) hb); have n1_ := Qa.mk (Qv (by with_reducible repeat (first | exact HB.out | apply Qk | apply Ql | apply Qj | refine Qi ?_ GE266.out)) hb); clear BK266; clear HB; have BK266 := n0_; have HB := n1_; clear n0_ n1_; (try clear hb); (try clear hb2); (try clear hk); (try clear hi)))
    go_ret
    exact ⟨by first | rfl | (simp [Qw, Qx] <;> rfl) | (simp [*, Qw, Qx] <;> rfl), by with_reducible repeat (first | exact HB.out | apply Qk | apply Ql | apply Qj | refine Qi ?_ GE266.out)⟩
   replace c23 := Bool.eq_false_iff.mpr c23
   have HLN := Qa.mk (HLE.out c23)
   clear HLE
   subst c23
   have H1 : (Qi1.l0 kj3 l1 l2 ([] : List (S35)) 0 l0_0 l0_1) = some r := by rw [if_neg (show ¬ (false = true) by decide)] at H; exact H
   clear H
   have H := H1
   clear H1
   have H' := Qa.mk H
   clear H
   go_wp2
   go_loopg [7, 8] kj3 (fun kq v7 v8 w' => ∃ (x7_2 : List (S35)) (x8_2 : Int), v8 = .int .i64 x8_2 ∧ Qa (Qi1.l0 kq l1 l2 x7_2 x8_2 l0_0 l0_1 = some r) ∧ Qa (kq ≤ kj3) ∧ Qa (Kd.R k35 35 w' w.heap.size (fun _ => True) v7 x7_2) ∧ Qa (w'.heap[gb266]? = some (.cells #[(.slice A0_0 l0_0.length c0_0), (.slice A0_1 l0_1.length c0_1)] 25 (0, 0))) ∧ Qa (Below w.heap.size w w'))
   case atStart => exact ⟨(([] : List (S35))), (0), (by first | rfl | (simp; done) | (simp [*]; done)), H', ⟨Nat.le_refl _⟩, ⟨by first | exact Kd.R_nil _ _ _ _ _ | exact Kd.N_nil _ _ _ _ _ | exact Kd.V_nil _ _ _ _ _ | exact Kd.Q_nil _ _ _ _ _ | exact Kd.S_nil _ _ _ _ _⟩, ⟨by (with_reducible repeat (first | refine Qd ?_ _ | refine Qb ?_ | refine Qc ?_ _)); exact BK266.out⟩, ⟨by with_reducible repeat (first | exact HB.out | apply Qk | apply Ql | apply Qj | refine Qi ?_ GE266.out)⟩⟩
   case round =>
    clear H'
    (try clear c1; try clear c2; try clear p2; try clear c6; try clear c7; try clear c8; try clear c9; try clear c10; try clear c10b0; try clear c10b1; try clear c10b2; try clear c23; try clear hcz12_0; try clear hcz12_1; try clear hcz14_0; try clear hcz14_1; try clear hcz16_0; try clear hcz16_1; try clear hcz18_0; try clear hcz18_1; try clear hcz20_0; try clear hcz20_1; try clear hfz12_0; try clear hfz12_1; try clear hfz14_0; try clear hfz14_1; try clear hfz16_0; try clear hfz16_1; try clear hfz18_0; try clear hfz18_1; try clear hfz20_0; try clear hfz20_1; try clear p2)
    obtain ⟨x7_2, x8_2, rfl, HA, HK2, HO_7, BK266, HB⟩ := hrel
    cases gk with
    | zero => exact absurd HA.out (by simp [Qi1.l0])
    | succ k2 =>
     have H := HA.out
     clear HA
     simp only [Qi1.l0] at H
     by_cases c26 : x8_2 < (l1.length : Int)
     ·
      rw [if_pos c26] at H
      have c26b0 : decide (x8_2 < (l1.length : Int)) = true := decide_eq_true c26
      clear c26
      have HC27 := Qa.mk H
      clear H
      go_upto_region 7 with (fail)
      have H := HC27.out
      clear HC27
      by_cases c28 : 0 ≤ x8_2
      rotate_left
      ·
       rw [if_neg c28] at H
       exact absurd H (by simp)
      rw [if_pos c28] at H
      have c28b0 : decide (0 ≤ x8_2) = true := decide_eq_true c28
      clear c28
      (first | rw [c28b0] | (simp only [i64_w, i32_w]; rw [c28b0]) | skip)
      have hm : x8_2 < (l2.length : Int) := by have h1 := HLN.out; have h2 := of_decide_eq_true c26b0; omega
      obtain ⟨b0, hb0⟩ : ∃ b_ : Bool, b_ = (Qp l1 x8_2).f0 := ⟨_, rfl⟩
      obtain ⟨b1, hb1⟩ : ∃ b_ : Bool, b_ = (Qp l1 x8_2).f1 := ⟨_, rfl⟩
      obtain ⟨b2, hb2⟩ : ∃ b_ : Bool, b_ = (Qp l1 x8_2).f2 := ⟨_, rfl⟩
      obtain ⟨g0, hg0⟩ : ∃ b_ : Bool, b_ = (Qp l2 x8_2).f0 := ⟨_, rfl⟩
      obtain ⟨g1, hg1⟩ : ∃ b_ : Bool, b_ = (Qp l2 x8_2).f1 := ⟨_, rfl⟩
      obtain ⟨g2, hg2⟩ : ∃ b_ : Bool, b_ = (Qp l2 x8_2).f2 := ⟨_, rfl⟩
      obtain ⟨n0, hn0⟩ : ∃ b_ : Bool, b_ = (b0 || g0) := ⟨_, rfl⟩
      obtain ⟨n1, hn1⟩ : ∃ b_ : Bool, b_ = (b1 || g1) := ⟨_, rfl⟩
      obtain ⟨n2, hn2⟩ : ∃ b_ : Bool, b_ = (b2 || g2) := ⟨_, rfl⟩
      have hH : x7_2.length < 46912496118442 ∧ Qi1.l0 k2 l1 l2 (x7_2 ++ [(⟨n0, n1, n2⟩ : S35)]) (wrap64 (x8_2 + 1)) l0_0 l0_1 = some r := by
       rw [← hb0, ← hb1, ← hb2] at H
       simp only [← hg0, ← hg1, ← hg2, if_pos hm] at H
       rw [hn0, hn1, hn2]
       clear hb0 hb1 hb2 hg0 hg1 hg2 hn0 hn1 hn2
       by_cases hl : x7_2.length < 46912496118442
       · refine ⟨hl, ?_⟩; simp only [if_pos hl] at H; cases b0 <;> cases b1 <;> cases b2 <;> exact H
       · exfalso; simp only [if_neg hl] at H; cases b0 <;> cases b1 <;> cases b2 <;> cases H
      clear H
      obtain ⟨hl, H⟩ := hH
      have LM := Qa.mk hl
      clear hl
      obtain ⟨yv, hyv⟩ : ∃ y_ : List (S35), y_ = (x7_2 ++ [(⟨n0, n1, n2⟩ : S35)]) := ⟨_, rfl⟩
      rw [← hyv] at H
      have Nyv := Qa.mk hyv
      clear hyv
      have En0 := Qa.mk hn0
      have En1 := Qa.mk hn1
      have En2 := Qa.mk hn2
      clear hn0 hn1 hn2
      have H' := Qa.mk H
      clear H
      try go_wp2
      have n0_ := Qa.mk (Kd.Qo HO_7.out)
      have n1_ := Qa.mk (Qb BK266.out)
      have n2_ := Qa.mk (Qj HB.out)
      clear HO_7 BK266 HB
      have HO_7 := n0_
      have BK266 := n1_
      have HB := n2_
      clear n0_ n1_ n2_
      have p270 : 0 ≤ (x8_2 : Int) := of_decide_eq_true (by assumption)
      have q270 : x8_2 < (l1.length : Int) := of_decide_eq_true (by assumption)
      obtain ⟨ad270, e_, hbx0, hbx1, hbx2⟩ := at_T35 HR1.out x8_2 p270 q270
      rw [← hb0] at hbx0
      rw [← hb1] at hbx1
      rw [← hb2] at hbx2
      cases e_
      have Hbx0 := Qa.mk hbx0
      have Hbx1 := Qa.mk hbx1
      have Hbx2 := Qa.mk hbx2
      replace hbx0 := (HB.out.cell (World.block_lt_of_cell? w _ hbx0)).trans hbx0
      replace hbx1 := (HB.out.cell (World.block_lt_of_cell? w _ hbx1)).trans hbx1
      replace hbx2 := (HB.out.cell (World.block_lt_of_cell? w _ hbx2)).trans hbx2
      obtain ⟨ad289, e_, hgx0, hgx1, hgx2⟩ := at_T35 HR2.out x8_2 p270 hm
      rw [← hg0] at hgx0
      rw [← hg1] at hgx1
      rw [← hg2] at hgx2
      cases e_
      have Hgx0 := Qa.mk hgx0
      have Hgx1 := Qa.mk hgx1
      have Hgx2 := Qa.mk hgx2
      replace hgx0 := (HB.out.cell (World.block_lt_of_cell? w _ hgx0)).trans hgx0
      replace hgx1 := (HB.out.cell (World.block_lt_of_cell? w _ hgx1)).trans hgx1
      replace hgx2 := (HB.out.cell (World.block_lt_of_cell? w _ hgx2)).trans hgx2
      have HBq := Qa.mk (And.intro hb0 (And.intro hb1 (And.intro hb2 (And.intro hg0 (And.intro hg1 hg2)))))
      clear hb0 hb1 hb2 hg0 hg1 hg2 HBq
      have p270b := decide_eq_true p270
      have q289b := decide_eq_true hm
      replace p270 := eq_true p270
      replace q270 := eq_true q270
      have q289 := eq_true hm
      clear hm
      refine start_ (n := 41) (S := fun w' => w'.cell? (ad270.add ((x8_2).toNat * 3)) = some (.bool b0) ∧ w'.cell? ⟨(ad270.add ((x8_2).toNat * 3)).block, (ad270.add ((x8_2).toNat * 3)).off + 1, none⟩ = some (.bool b1) ∧ w'.cell? ⟨(ad270.add ((x8_2).toNat * 3)).block, (ad270.add ((x8_2).toNat * 3)).off + 2, none⟩ = some (.bool b2) ∧ w'.cell? (ad289.add ((x8_2).toNat * 3)) = some (.bool g0) ∧ w'.cell? ⟨(ad289.add ((x8_2).toNat * 3)).block, (ad289.add ((x8_2).toNat * 3)).off + 1, none⟩ = some (.bool g1) ∧ w'.cell? ⟨(ad289.add ((x8_2).toNat * 3)).block, (ad289.add ((x8_2).toNat * 3)).off + 2, none⟩ = some (.bool g2)) (ds := []) #[Y, Y, Y, Y, Y, Y, Y, Y, Y, Y, Y, Y, Y, Y, Y, Y, Y, Y, Y, Y, Y, Y, Y, Y, Y, Y, Y, Y, Y, Y, Y, Y, Y, Y, Y, Y, Y, Y, Y, Y, Y] (by kernel_rfl) rfl rfl ⟨((HB.out.cell (World.block_lt_of_cell? w _ Hbx0.out)).trans Hbx0.out), ((HB.out.cell (World.block_lt_of_cell? w _ Hbx1.out)).trans Hbx1.out), ((HB.out.cell (World.block_lt_of_cell? w _ Hbx2.out)).trans Hbx2.out), ((HB.out.cell (World.block_lt_of_cell? w _ Hgx0.out)).trans Hgx0.out), ((HB.out.cell (World.block_lt_of_cell? w _ Hgx1.out)).trans Hgx1.out), ((HB.out.cell (World.block_lt_of_cell? w _ Hgx2.out)).trans Hgx2.out)⟩ (fun hHeld => ?_); refine with_tabW Qi1.tab7 Qi1.bits7 (fun HT_ HW_ => ?_)
      generalize wr.drew = w36 at HO_7 BK266 HB hbx0 hbx1 hbx2 hgx0 hgx1 hgx2 hHeld ⊢
      cases b0 <;> cases b1 <;> cases b2
      all_goals (refine pure_ (i := 0) (N := some 41) (v := ?_) (a' := ?_) #[J, Y, Y, Y, Y, Y, Y, Y, Y, Y, Y, Y, Y, Y, Y, Y, Y, Y, Y, Y, Y, Y, Y, Y, Y, Y, Y, Y, Y, Y, Y, Y, Y, Y, Y, Y, Y, Y, Y, Y, Y] rfl rfl (Qm HT_.out (by kernel_rfl)) (fun _ _ _ h => h) (Or.inl ⟨by rfl, ?_⟩) ?_ ?_; rotate_left; (· intro w'; go_simp; with_reducible rfl); rotate_left; (· simp only [Act.put, List.setIfInBounds_toArray, List.set_cons_zero, List.set_cons_succ, i64_w, i32_w]; rfl))
      all_goals (refine pure_ (i := 1) (N := some 42) (v := ?_) (a' := ?_) #[J, J, Y, Y, Y, Y, Y, Y, Y, Y, Y, Y, Y, Y, Y, Y, Y, Y, Y, Y, Y, Y, Y, Y, Y, Y, Y, Y, Y, Y, Y, Y, Y, Y, Y, Y, Y, Y, Y, Y, Y] rfl rfl (Qm HT_.out (by kernel_rfl)) (fun _ _ _ h => h) (Or.inl ⟨by rfl, ?_⟩) ?_ ?_; rotate_left; (· intro w'; go_simp; with_reducible rfl); rotate_left; (· simp only [Act.put, List.setIfInBounds_toArray, List.set_cons_zero, List.set_cons_succ, i64_w, i32_w]; rfl))
      all_goals (refine pure_ (i := 2) (N := some 43) (v := ?_) (a' := ?_) #[J, J, J, Y, Y, Y, Y, Y, Y, Y, Y, Y, Y, Y, Y, Y, Y, Y, Y, Y, Y, Y, Y, Y, Y, Y, Y, Y, Y, Y, Y, Y, Y, Y, Y, Y, Y, Y, Y, Y, Y] rfl rfl (Qm HT_.out (by kernel_rfl)) (fun _ _ _ h => h) (Or.inl ⟨by rfl, ?_⟩) ?_ ?_; rotate_left; (· intro w'; go_simp; with_reducible rfl); rotate_left; (· simp only [Act.put, List.setIfInBounds_toArray, List.set_cons_zero, List.set_cons_succ, i64_w, i32_w]; rfl))
      all_goals (refine pure_ (i := 3) (N := some 44) (v := ?_) (a' := ?_) #[J, J, J, J, Y, Y, Y, Y, Y, Y, Y, Y, Y, Y, Y, Y, Y, Y, Y, Y, Y, Y, Y, Y, Y, Y, Y, Y, Y, Y, Y, Y, Y, Y, Y, Y, Y, Y, Y, Y, Y] rfl rfl (Qm HT_.out (by kernel_rfl)) (fun _ _ _ h => h) (Or.inl ⟨by rfl, ?_⟩) ?_ ?_; rotate_left; (· intro w'; go_simp; with_reducible rfl); rotate_left; (· simp only [Act.put, List.setIfInBounds_toArray, List.set_cons_zero, List.set_cons_succ, i64_w, i32_w]; rfl))
      all_goals (refine pure_ (i := 4) (N := some 45) (v := ?_) (a' := ?_) #[J, J, J, J, J, Y, Y, Y, Y, Y, Y, Y, Y, Y, Y, Y, Y, Y, Y, Y, Y, Y, Y, Y, Y, Y, Y, Y, Y, Y, Y, Y, Y, Y, Y, Y, Y, Y, Y, Y, Y] rfl rfl (Qm HT_.out (by kernel_rfl)) (fun _ _ _ h => h) (Or.inl ⟨by rfl, ?_⟩) ?_ ?_; rotate_left; (· intro w'; go_simp; with_reducible rfl); rotate_left; (· simp only [Act.put, List.setIfInBounds_toArray, List.set_cons_zero, List.set_cons_succ, i64_w, i32_w]; rfl))
      all_goals (refine take_ (i := 5) (N := some 46) (v := ?_) (a' := ?_) #[J, J, J, J, J, J, Y, Y, Y, Y, Y, Y, Y, Y, Y, Y, Y, Y, Y, Y, Y, Y, Y, Y, Y, Y, Y, Y, Y, Y, Y, Y, Y, Y, Y, Y, Y, Y, Y, Y, Y] rfl rfl (Qm1 HT_.out HW_.out (by kernel_rfl)) (fun _ _ _ h => h) (Or.inl ⟨by rfl, ?_⟩) hHeld ?_ ?_; rotate_left; (· rintro w' ⟨s0, s1, s2, s3, s4, s5⟩; go_simp; with_reducible rfl); rotate_left; (· simp only [Act.put, List.setIfInBounds_toArray, List.set_cons_zero, List.set_cons_succ, i64_w, i32_w]; rfl))
      all_goals (refine pure_ (i := 6) (N := some 47) (v := ?_) (a' := ?_) #[J, J, J, J, J, J, J, Y, Y, Y, Y, Y, Y, Y, Y, Y, Y, Y, Y, Y, Y, Y, Y, Y, Y, Y, Y, Y, Y, Y, Y, Y, Y, Y, Y, Y, Y, Y, Y, Y, Y] rfl rfl (Qm HT_.out (by kernel_rfl)) (fun _ _ _ h => h) (Or.inl ⟨by rfl, ?_⟩) ?_ ?_; rotate_left; (· intro w'; go_simp; with_reducible rfl); rotate_left; (· simp only [Act.put, List.setIfInBounds_toArray, List.set_cons_zero, List.set_cons_succ, i64_w, i32_w]; rfl))
      all_goals first | (refine pure_ (i := 7) (N := some 48) (v := ?_) (a' := ?_) #[J, J, J, J, J, J, J, J, Y, Y, Y, Y, Y, Y, Y, Y, Y, Y, Y, Y, Y, Y, Y, Y, Y, Y, Y, Y, Y, Y, Y, Y, Y, Y, Y, Y, Y, Y, Y, Y, Y] rfl rfl (Qm HT_.out (by kernel_rfl)) (fun _ _ _ h => h) (Or.inl ⟨by rfl, ?_⟩) ?_ ?_; rotate_left; (· intro w'; go_simp; with_reducible rfl); rotate_left; (· simp only [Act.put, List.setIfInBounds_toArray, List.set_cons_zero, List.set_cons_succ, i64_w, i32_w]; rfl)) | (refine pure_ (i := 7) (N := some 48) (v := undef) (a' := ?_) #[J, J, J, J, J, J, J, J, Y, Y, Y, Y, Y, Y, Y, Y, Y, Y, Y, Y, Y, Y, Y, Y, Y, Y, Y, Y, Y, Y, Y, Y, Y, Y, Y, Y, Y, Y, Y, Y, Y] rfl rfl (Qm HT_.out (by kernel_rfl)) (fun _ _ _ h => h) (Or.inr ⟨by rfl, rfl⟩) ?_ ?_; rotate_left; (· simp only [Act.put, List.setIfInBounds_toArray, List.set_cons_zero, List.set_cons_succ, i64_w, i32_w]; rfl))
      all_goals first | (refine pure_ (i := 8) (N := some 49) (v := ?_) (a' := ?_) #[J, J, J, J, J, J, J, J, J, Y, Y, Y, Y, Y, Y, Y, Y, Y, Y, Y, Y, Y, Y, Y, Y, Y, Y, Y, Y, Y, Y, Y, Y, Y, Y, Y, Y, Y, Y, Y, Y] rfl rfl (Qm HT_.out (by kernel_rfl)) (fun _ _ _ h => h) (Or.inl ⟨by rfl, ?_⟩) ?_ ?_; rotate_left; (· intro w'; go_simp; with_reducible rfl); rotate_left; (· simp only [Act.put, List.setIfInBounds_toArray, List.set_cons_zero, List.set_cons_succ, i64_w, i32_w]; rfl)) | (refine pure_ (i := 8) (N := some 49) (v := undef) (a' := ?_) #[J, J, J, J, J, J, J, J, J, Y, Y, Y, Y, Y, Y, Y, Y, Y, Y, Y, Y, Y, Y, Y, Y, Y, Y, Y, Y, Y, Y, Y, Y, Y, Y, Y, Y, Y, Y, Y, Y] rfl rfl (Qm HT_.out (by kernel_rfl)) (fun _ _ _ h => h) (Or.inr ⟨by rfl, rfl⟩) ?_ ?_; rotate_left; (· simp only [Act.put, List.setIfInBounds_toArray, List.set_cons_zero, List.set_cons_succ, i64_w, i32_w]; rfl))
      all_goals first | (refine pure_ (i := 9) (N := some 50) (v := ?_) (a' := ?_) #[J, J, J, J, J, J, J, J, J, J, Y, Y, Y, Y, Y, Y, Y, Y, Y, Y, Y, Y, Y, Y, Y, Y, Y, Y, Y, Y, Y, Y, Y, Y, Y, Y, Y, Y, Y, Y, Y] rfl rfl (Qm HT_.out (by kernel_rfl)) (fun _ _ _ h => h) (Or.inl ⟨by rfl, ?_⟩) ?_ ?_; rotate_left; (· intro w'; go_simp; with_reducible rfl); rotate_left; (· simp only [Act.put, List.setIfInBounds_toArray, List.set_cons_zero, List.set_cons_succ, i64_w, i32_w]; rfl)) | (refine pure_ (i := 9) (N := some 50) (v := undef) (a' := ?_) #[J, J, J, J, J, J, J, J, J, J, Y, Y, Y, Y, Y, Y, Y, Y, Y, Y, Y, Y, Y, Y, Y, Y, Y, Y, Y, Y, Y, Y, Y, Y, Y, Y, Y, Y, Y, Y, Y] rfl rfl (Qm HT_.out (by kernel_rfl)) (fun _ _ _ h => h) (Or.inr ⟨by rfl, rfl⟩) ?_ ?_; rotate_left; (· simp only [Act.put, List.setIfInBounds_toArray, List.set_cons_zero, List.set_cons_succ, i64_w, i32_w]; rfl))
      all_goals first | (refine pure_ (i := 10) (N := some 51) (v := ?_) (a' := ?_) #[J, J, J, J, J, J, J, J, J, J, J, Y, Y, Y, Y, Y, Y, Y, Y, Y, Y, Y, Y, Y, Y, Y, Y, Y, Y, Y, Y, Y, Y, Y, Y, Y, Y, Y, Y, Y, Y] rfl rfl (Qm HT_.out (by kernel_rfl)) (fun _ _ _ h => h) (Or.inl ⟨by rfl, ?_⟩) ?_ ?_; rotate_left; (· intro w'; go_simp; with_reducible rfl); rotate_left; (· simp only [Act.put, List.setIfInBounds_toArray, List.set_cons_zero, List.set_cons_succ, i64_w, i32_w]; rfl)) | (refine pure_ (i := 10) (N := some 51) (v := undef) (a' := ?_) #[J, J, J, J, J, J, J, J, J, J, J, Y, Y, Y, Y, Y, Y, Y, Y, Y, Y, Y, Y, Y, Y, Y, Y, Y, Y, Y, Y, Y, Y, Y, Y, Y, Y, Y, Y, Y, Y] rfl rfl (Qm HT_.out (by kernel_rfl)) (fun _ _ _ h => h) (Or.inr ⟨by rfl, rfl⟩) ?_ ?_; rotate_left; (· simp only [Act.put, List.setIfInBounds_toArray, List.set_cons_zero, List.set_cons_succ, i64_w, i32_w]; rfl))
      all_goals first | (refine take_ (i := 11) (N := some 52) (v := ?_) (a' := ?_) #[J, J, J, J, J, J, J, J, J, J, J, J, Y, Y, Y, Y, Y, Y, Y, Y, Y, Y, Y, Y, Y, Y, Y, Y, Y, Y, Y, Y, Y, Y, Y, Y, Y, Y, Y, Y, Y] rfl rfl (Qm1 HT_.out HW_.out (by kernel_rfl)) (fun _ _ _ h => h) (Or.inl ⟨by rfl, ?_⟩) hHeld ?_ ?_; rotate_left; (· rintro w' ⟨s0, s1, s2, s3, s4, s5⟩; go_simp; with_reducible rfl); rotate_left; (· simp only [Act.put, List.setIfInBounds_toArray, List.set_cons_zero, List.set_cons_succ, i64_w, i32_w]; rfl)) | (refine pure_ (i := 11) (N := some 52) (v := undef) (a' := ?_) #[J, J, J, J, J, J, J, J, J, J, J, J, Y, Y, Y, Y, Y, Y, Y, Y, Y, Y, Y, Y, Y, Y, Y, Y, Y, Y, Y, Y, Y, Y, Y, Y, Y, Y, Y, Y, Y] rfl rfl (Qm HT_.out (by kernel_rfl)) (fun _ _ _ h => h) (Or.inr ⟨by rfl, rfl⟩) ?_ ?_; rotate_left; (· simp only [Act.put, List.setIfInBounds_toArray, List.set_cons_zero, List.set_cons_succ, i64_w, i32_w]; rfl))
      all_goals (refine pure_ (i := 12) (N := some 53) (v := .bool n0) (a' := ?_) #[J, J, J, J, J, J, J, J, J, J, J, J, J, Y, Y, Y, Y, Y, Y, Y, Y, Y, Y, Y, Y, Y, Y, Y, Y, Y, Y, Y, Y, Y, Y, Y, Y, Y, Y, Y, Y] rfl rfl (Qm HT_.out (by kernel_rfl)) (fun _ _ _ h => h) (Or.inl ⟨by rfl, ?_⟩) ?_ ?_; (· intro w'; go_simp; rw [En0.out]; rfl); rotate_left; (· simp only [Act.put, List.setIfInBounds_toArray, List.set_cons_zero, List.set_cons_succ, i64_w, i32_w]; rfl))
      all_goals (refine pure_ (i := 13) (N := some 54) (v := ?_) (a' := ?_) #[J, J, J, J, J, J, J, J, J, J, J, J, J, J, Y, Y, Y, Y, Y, Y, Y, Y, Y, Y, Y, Y, Y, Y, Y, Y, Y, Y, Y, Y, Y, Y, Y, Y, Y, Y, Y] rfl rfl (Qm HT_.out (by kernel_rfl)) (fun _ _ _ h => h) (Or.inl ⟨by rfl, ?_⟩) ?_ ?_; rotate_left; (· intro w'; go_simp; with_reducible rfl); rotate_left; (· simp only [Act.put, List.setIfInBounds_toArray, List.set_cons_zero, List.set_cons_succ, i64_w, i32_w]; rfl))
      all_goals (refine pure_ (i := 14) (N := some 55) (v := ?_) (a' := ?_) #[J, J, J, J, J, J, J, J, J, J, J, J, J, J, J, Y, Y, Y, Y, Y, Y, Y, Y, Y, Y, Y, Y, Y, Y, Y, Y, Y, Y, Y, Y, Y, Y, Y, Y, Y, Y] rfl rfl (Qm HT_.out (by kernel_rfl)) (fun _ _ _ h => h) (Or.inl ⟨by rfl, ?_⟩) ?_ ?_; rotate_left; (· intro w'; go_simp; with_reducible rfl); rotate_left; (· simp only [Act.put, List.setIfInBounds_toArray, List.set_cons_zero, List.set_cons_succ, i64_w, i32_w]; rfl))
      all_goals (refine pure_ (i := 15) (N := some 56) (v := ?_) (a' := ?_) #[J, J, J, J, J, J, J, J, J, J, J, J, J, J, J, J, Y, Y, Y, Y, Y, Y, Y, Y, Y, Y, Y, Y, Y, Y, Y, Y, Y, Y, Y, Y, Y, Y, Y, Y, Y] rfl rfl (Qm HT_.out (by kernel_rfl)) (fun _ _ _ h => h) (Or.inl ⟨by rfl, ?_⟩) ?_ ?_; rotate_left; (· intro w'; go_simp; with_reducible rfl); rotate_left; (· simp only [Act.put, List.setIfInBounds_toArray, List.set_cons_zero, List.set_cons_succ, i64_w, i32_w]; rfl))
      all_goals (refine pure_ (i := 16) (N := some 57) (v := ?_) (a' := ?_) #[J, J, J, J, J, J, J, J, J, J, J, J, J, J, J, J, J, Y, Y, Y, Y, Y, Y, Y, Y, Y, Y, Y, Y, Y, Y, Y, Y, Y, Y, Y, Y, Y, Y, Y, Y] rfl rfl (Qm HT_.out (by kernel_rfl)) (fun _ _ _ h => h) (Or.inl ⟨by rfl, ?_⟩) ?_ ?_; rotate_left; (· intro w'; go_simp; with_reducible rfl); rotate_left; (· simp only [Act.put, List.setIfInBounds_toArray, List.set_cons_zero, List.set_cons_succ, i64_w, i32_w]; rfl))
      all_goals (refine take_ (i := 17) (N := some 58) (v := ?_) (a' := ?_) #[J, J, J, J, J, J, J, J, J, J, J, J, J, J, J, J, J, J, Y, Y, Y, Y, Y, Y, Y, Y, Y, Y, Y, Y, Y, Y, Y, Y, Y, Y, Y, Y, Y, Y, Y] rfl rfl (Qm1 HT_.out HW_.out (by kernel_rfl)) (fun _ _ _ h => h) (Or.inl ⟨by rfl, ?_⟩) hHeld ?_ ?_; rotate_left; (· rintro w' ⟨s0, s1, s2, s3, s4, s5⟩; go_simp; with_reducible rfl); rotate_left; (· simp only [Act.put, List.setIfInBounds_toArray, List.set_cons_zero, List.set_cons_succ, i64_w, i32_w]; rfl))
      all_goals (refine pure_ (i := 18) (N := some 59) (v := ?_) (a' := ?_) #[J, J, J, J, J, J, J, J, J, J, J, J, J, J, J, J, J, J, J, Y, Y, Y, Y, Y, Y, Y, Y, Y, Y, Y, Y, Y, Y, Y, Y, Y, Y, Y, Y, Y, Y] rfl rfl (Qm HT_.out (by kernel_rfl)) (fun _ _ _ h => h) (Or.inl ⟨by rfl, ?_⟩) ?_ ?_; rotate_left; (· intro w'; go_simp; with_reducible rfl); rotate_left; (· simp only [Act.put, List.setIfInBounds_toArray, List.set_cons_zero, List.set_cons_succ, i64_w, i32_w]; rfl))
      all_goals first | (refine pure_ (i := 19) (N := some 60) (v := ?_) (a' := ?_) #[J, J, J, J, J, J, J, J, J, J, J, J, J, J, J, J, J, J, J, J, Y, Y, Y, Y, Y, Y, Y, Y, Y, Y, Y, Y, Y, Y, Y, Y, Y, Y, Y, Y, Y] rfl rfl (Qm HT_.out (by kernel_rfl)) (fun _ _ _ h => h) (Or.inl ⟨by rfl, ?_⟩) ?_ ?_; rotate_left; (· intro w'; go_simp; with_reducible rfl); rotate_left; (· simp only [Act.put, List.setIfInBounds_toArray, List.set_cons_zero, List.set_cons_succ, i64_w, i32_w]; rfl)) | (refine pure_ (i := 19) (N := some 60) (v := undef) (a' := ?_) #[J, J, J, J, J, J, J, J, J, J, J, J, J, J, J, J, J, J, J, J, Y, Y, Y, Y, Y, Y, Y, Y, Y, Y, Y, Y, Y, Y, Y, Y, Y, Y, Y, Y, Y] rfl rfl (Qm HT_.out (by kernel_rfl)) (fun _ _ _ h => h) (Or.inr ⟨by rfl, rfl⟩) ?_ ?_; rotate_left; (· simp only [Act.put, List.setIfInBounds_toArray, List.set_cons_zero, List.set_cons_succ, i64_w, i32_w]; rfl))
      all_goals first | (refine pure_ (i := 20) (N := some 61) (v := ?_) (a' := ?_) #[J, J, J, J, J, J, J, J, J, J, J, J, J, J, J, J, J, J, J, J, J, Y, Y, Y, Y, Y, Y, Y, Y, Y, Y, Y, Y, Y, Y, Y, Y, Y, Y, Y, Y] rfl rfl (Qm HT_.out (by kernel_rfl)) (fun _ _ _ h => h) (Or.inl ⟨by rfl, ?_⟩) ?_ ?_; rotate_left; (· intro w'; go_simp; with_reducible rfl); rotate_left; (· simp only [Act.put, List.setIfInBounds_toArray, List.set_cons_zero, List.set_cons_succ, i64_w, i32_w]; rfl)) | (refine pure_ (i := 20) (N := some 61) (v := undef) (a' := ?_) #[J, J, J, J, J, J, J, J, J, J, J, J, J, J, J, J, J, J, J, J, J, Y, Y, Y, Y, Y, Y, Y, Y, Y, Y, Y, Y, Y, Y, Y, Y, Y, Y, Y, Y] rfl rfl (Qm HT_.out (by kernel_rfl)) (fun _ _ _ h => h) (Or.inr ⟨by rfl, rfl⟩) ?_ ?_; rotate_left; (· simp only [Act.put, List.setIfInBounds_toArray, List.set_cons_zero, List.set_cons_succ, i64_w, i32_w]; rfl))
      all_goals first | (refine pure_ (i := 21) (N := some 62) (v := ?_) (a' := ?_) #[J, J, J, J, J, J, J, J, J, J, J, J, J, J, J, J, J, J, J, J, J, J, Y, Y, Y, Y, Y, Y, Y, Y, Y, Y, Y, Y, Y, Y, Y, Y, Y, Y, Y] rfl rfl (Qm HT_.out (by kernel_rfl)) (fun _ _ _ h => h) (Or.inl ⟨by rfl, ?_⟩) ?_ ?_; rotate_left; (· intro w'; go_simp; with_reducible rfl); rotate_left; (· simp only [Act.put, List.setIfInBounds_toArray, List.set_cons_zero, List.set_cons_succ, i64_w, i32_w]; rfl)) | (refine pure_ (i := 21) (N := some 62) (v := undef) (a' := ?_) #[J, J, J, J, J, J, J, J, J, J, J, J, J, J, J, J, J, J, J, J, J, J, Y, Y, Y, Y, Y, Y, Y, Y, Y, Y, Y, Y, Y, Y, Y, Y, Y, Y, Y] rfl rfl (Qm HT_.out (by kernel_rfl)) (fun _ _ _ h => h) (Or.inr ⟨by rfl, rfl⟩) ?_ ?_; rotate_left; (· simp only [Act.put, List.setIfInBounds_toArray, List.set_cons_zero, List.set_cons_succ, i64_w, i32_w]; rfl))
      all_goals first | (refine pure_ (i := 22) (N := some 63) (v := ?_) (a' := ?_) #[J, J, J, J, J, J, J, J, J, J, J, J, J, J, J, J, J, J, J, J, J, J, J, Y, Y, Y, Y, Y, Y, Y, Y, Y, Y, Y, Y, Y, Y, Y, Y, Y, Y] rfl rfl (Qm HT_.out (by kernel_rfl)) (fun _ _ _ h => h) (Or.inl ⟨by rfl, ?_⟩) ?_ ?_; rotate_left; (· intro w'; go_simp; with_reducible rfl); rotate_left; (· simp only [Act.put, List.setIfInBounds_toArray, List.set_cons_zero, List.set_cons_succ, i64_w, i32_w]; rfl)) | (refine pure_ (i := 22) (N := some 63) (v := undef) (a' := ?_) #[J, J, J, J, J, J, J, J, J, J, J, J, J, J, J, J, J, J, J, J, J, J, J, Y, Y, Y, Y, Y, Y, Y, Y, Y, Y, Y, Y, Y, Y, Y, Y, Y, Y] rfl rfl (Qm HT_.out (by kernel_rfl)) (fun _ _ _ h => h) (Or.inr ⟨by rfl, rfl⟩) ?_ ?_; rotate_left; (· simp only [Act.put, List.setIfInBounds_toArray, List.set_cons_zero, List.set_cons_succ, i64_w, i32_w]; rfl))
      all_goals first | (refine take_ (i := 23) (N := some 64) (v := ?_) (a' := ?_) #[J, J, J, J, J, J, J, J, J, J, J, J, J, J, J, J, J, J, J, J, J, J, J, J, Y, Y, Y, Y, Y, Y, Y, Y, Y, Y, Y, Y, Y, Y, Y, Y, Y] rfl rfl (Qm1 HT_.out HW_.out (by kernel_rfl)) (fun _ _ _ h => h) (Or.inl ⟨by rfl, ?_⟩) hHeld ?_ ?_; rotate_left; (· rintro w' ⟨s0, s1, s2, s3, s4, s5⟩; go_simp; with_reducible rfl); rotate_left; (· simp only [Act.put, List.setIfInBounds_toArray, List.set_cons_zero, List.set_cons_succ, i64_w, i32_w]; rfl)) | (refine pure_ (i := 23) (N := some 64) (v := undef) (a' := ?_) #[J, J, J, J, J, J, J, J, J, J, J, J, J, J, J, J, J, J, J, J, J, J, J, J, Y, Y, Y, Y, Y, Y, Y, Y, Y, Y, Y, Y, Y, Y, Y, Y, Y] rfl rfl (Qm HT_.out (by kernel_rfl)) (fun _ _ _ h => h) (Or.inr ⟨by rfl, rfl⟩) ?_ ?_; rotate_left; (· simp only [Act.put, List.setIfInBounds_toArray, List.set_cons_zero, List.set_cons_succ, i64_w, i32_w]; rfl))
      all_goals (refine pure_ (i := 24) (N := some 65) (v := .bool n1) (a' := ?_) #[J, J, J, J, J, J, J, J, J, J, J, J, J, J, J, J, J, J, J, J, J, J, J, J, J, Y, Y, Y, Y, Y, Y, Y, Y, Y, Y, Y, Y, Y, Y, Y, Y] rfl rfl (Qm HT_.out (by kernel_rfl)) (fun _ _ _ h => h) (Or.inl ⟨by rfl, ?_⟩) ?_ ?_; (· intro w'; go_simp; rw [En1.out]; rfl); rotate_left; (· simp only [Act.put, List.setIfInBounds_toArray, List.set_cons_zero, List.set_cons_succ, i64_w, i32_w]; rfl))
      all_goals (refine pure_ (i := 25) (N := some 66) (v := ?_) (a' := ?_) #[J, J, J, J, J, J, J, J, J, J, J, J, J, J, J, J, J, J, J, J, J, J, J, J, J, J, Y, Y, Y, Y, Y, Y, Y, Y, Y, Y, Y, Y, Y, Y, Y] rfl rfl (Qm HT_.out (by kernel_rfl)) (fun _ _ _ h => h) (Or.inl ⟨by rfl, ?_⟩) ?_ ?_; rotate_left; (· intro w'; go_simp; with_reducible rfl); rotate_left; (· simp only [Act.put, List.setIfInBounds_toArray, List.set_cons_zero, List.set_cons_succ, i64_w, i32_w]; rfl))
      all_goals (refine pure_ (i := 26) (N := some 67) (v := ?_) (a' := ?_) #[J, J, J, J, J, J, J, J, J, J, J, J, J, J, J, J, J, J, J, J, J, J, J, J, J, J, J, Y, Y, Y, Y, Y, Y, Y, Y, Y, Y, Y, Y, Y, Y] rfl rfl (Qm HT_.out (by kernel_rfl)) (fun _ _ _ h => h) (Or.inl ⟨by rfl, ?_⟩) ?_ ?_; rotate_left; (· intro w'; go_simp; with_reducible rfl); rotate_left; (· simp only [Act.put, List.setIfInBounds_toArray, List.set_cons_zero, List.set_cons_succ, i64_w, i32_w]; rfl))
      all_goals (refine pure_ (i := 27) (N := some 68) (v := ?_) (a' := ?_) #[J, J, J, J, J, J, J, J, J, J, J, J, J, J, J, J, J, J, J, J, J, J, J, J, J, J, J, J, Y, Y, Y, Y, Y, Y, Y, Y, Y, Y, Y, Y, Y] rfl rfl (Qm HT_.out (by kernel_rfl)) (fun _ _ _ h => h) (Or.inl ⟨by rfl, ?_⟩) ?_ ?_; rotate_left; (· intro w'; go_simp; with_reducible rfl); rotate_left; (· simp only [Act.put, List.setIfInBounds_toArray, List.set_cons_zero, List.set_cons_succ, i64_w, i32_w]; rfl))
      all_goals (refine pure_ (i := 28) (N := some 69) (v := ?_) (a' := ?_) #[J, J, J, J, J, J, J, J, J, J, J, J, J, J, J, J, J, J, J, J, J, J, J, J, J, J, J, J, J, Y, Y, Y, Y, Y, Y, Y, Y, Y, Y, Y, Y] rfl rfl (Qm HT_.out (by kernel_rfl)) (fun _ _ _ h => h) (Or.inl ⟨by rfl, ?_⟩) ?_ ?_; rotate_left; (· intro w'; go_simp; with_reducible rfl); rotate_left; (· simp only [Act.put, List.setIfInBounds_toArray, List.set_cons_zero, List.set_cons_succ, i64_w, i32_w]; rfl))
      all_goals (refine take_ (i := 29) (N := some 70) (v := ?_) (a' := ?_) #[J, J, J, J, J, J, J, J, J, J, J, J, J, J, J, J, J, J, J, J, J, J, J, J, J, J, J, J, J, J, Y, Y, Y, Y, Y, Y, Y, Y, Y, Y, Y] rfl rfl (Qm1 HT_.out HW_.out (by kernel_rfl)) (fun _ _ _ h => h) (Or.inl ⟨by rfl, ?_⟩) hHeld ?_ ?_; rotate_left; (· rintro w' ⟨s0, s1, s2, s3, s4, s5⟩; go_simp; with_reducible rfl); rotate_left; (· simp only [Act.put, List.setIfInBounds_toArray, List.set_cons_zero, List.set_cons_succ, i64_w, i32_w]; rfl))
      all_goals (refine pure_ (i := 30) (N := some 71) (v := ?_) (a' := ?_) #[J, J, J, J, J, J, J, J, J, J, J, J, J, J, J, J, J, J, J, J, J, J, J, J, J, J, J, J, J, J, J, Y, Y, Y, Y, Y, Y, Y, Y, Y, Y] rfl rfl (Qm HT_.out (by kernel_rfl)) (fun _ _ _ h => h) (Or.inl ⟨by rfl, ?_⟩) ?_ ?_; rotate_left; (· intro w'; go_simp; with_reducible rfl); rotate_left; (· simp only [Act.put, List.setIfInBounds_toArray, List.set_cons_zero, List.set_cons_succ, i64_w, i32_w]; rfl))
      all_goals first | (refine pure_ (i := 31) (N := some 72) (v := ?_) (a' := ?_) #[J, J, J, J, J, J, J, J, J, J, J, J, J, J, J, J, J, J, J, J, J, J, J, J, J, J, J, J, J, J, J, J, Y, Y, Y, Y, Y, Y, Y, Y, Y] rfl rfl (Qm HT_.out (by kernel_rfl)) (fun _ _ _ h => h) (Or.inl ⟨by rfl, ?_⟩) ?_ ?_; rotate_left; (· intro w'; go_simp; with_reducible rfl); rotate_left; (· simp only [Act.put, List.setIfInBounds_toArray, List.set_cons_zero, List.set_cons_succ, i64_w, i32_w]; rfl)) | (refine pure_ (i := 31) (N := some 72) (v := undef) (a' := ?_) #[J, J, J, J, J, J, J, J, J, J, J, J, J, J, J, J, J, J, J, J, J, J, J, J, J, J, J, J, J, J, J, J, Y, Y, Y, Y, Y, Y, Y, Y, Y] rfl rfl (Qm HT_.out (by kernel_rfl)) (fun _ _ _ h => h) (Or.inr ⟨by rfl, rfl⟩) ?_ ?_; rotate_left; (· simp only [Act.put, List.setIfInBounds_toArray, List.set_cons_zero, List.set_cons_succ, i64_w, i32_w]; rfl))
      all_goals first | (refine pure_ (i := 32) (N := some 73) (v := ?_) (a' := ?_) #[J, J, J, J, J, J, J, J, J, J, J, J, J, J, J, J, J, J, J, J, J, J, J, J, J, J, J, J, J, J, J, J, J, Y, Y, Y, Y, Y, Y, Y, Y] rfl rfl (Qm HT_.out (by kernel_rfl)) (fun _ _ _ h => h) (Or.inl ⟨by rfl, ?_⟩) ?_ ?_; rotate_left; (· intro w'; go_simp; with_reducible rfl); rotate_left; (· simp only [Act.put, List.setIfInBounds_toArray, List.set_cons_zero, List.set_cons_succ, i64_w, i32_w]; rfl)) | (refine pure_ (i := 32) (N := some 73) (v := undef) (a' := ?_) #[J, J, J, J, J, J, J, J, J, J, J, J, J, J, J, J, J, J, J, J, J, J, J, J, J, J, J, J, J, J, J, J, J, Y, Y, Y, Y, Y, Y, Y, Y] rfl rfl (Qm HT_.out (by kernel_rfl)) (fun _ _ _ h => h) (Or.inr ⟨by rfl, rfl⟩) ?_ ?_; rotate_left; (· simp only [Act.put, List.setIfInBounds_toArray, List.set_cons_zero, List.set_cons_succ, i64_w, i32_w]; rfl))
      all_goals first | (refine pure_ (i := 33) (N := some 74) (v := ?_) (a' := ?_) #[J, J, J, J, J, J, J, J, J, J, J, J, J, J, J, J, J, J, J, J, J, J, J, J, J, J, J, J, J, J, J, J, J, J, Y, Y, Y, Y, Y, Y, Y] rfl rfl (Qm HT_.out (by kernel_rfl)) (fun _ _ _ h => h) (Or.inl ⟨by rfl, ?_⟩) ?_ ?_; rotate_left; (· intro w'; go_simp; with_reducible rfl); rotate_left; (· simp only [Act.put, List.setIfInBounds_toArray, List.set_cons_zero, List.set_cons_succ, i64_w, i32_w]; rfl)) | (refine pure_ (i := 33) (N := some 74) (v := undef) (a' := ?_) #[J, J, J, J, J, J, J, J, J, J, J, J, J, J, J, J, J, J, J, J, J, J, J, J, J, J, J, J, J, J, J, J, J, J, Y, Y, Y, Y, Y, Y, Y] rfl rfl (Qm HT_.out (by kernel_rfl)) (fun _ _ _ h => h) (Or.inr ⟨by rfl, rfl⟩) ?_ ?_; rotate_left; (· simp only [Act.put, List.setIfInBounds_toArray, List.set_cons_zero, List.set_cons_succ, i64_w, i32_w]; rfl))
      all_goals first | (refine pure_ (i := 34) (N := some 75) (v := ?_) (a' := ?_) #[J, J, J, J, J, J, J, J, J, J, J, J, J, J, J, J, J, J, J, J, J, J, J, J, J, J, J, J, J, J, J, J, J, J, J, Y, Y, Y, Y, Y, Y] rfl rfl (Qm HT_.out (by kernel_rfl)) (fun _ _ _ h => h) (Or.inl ⟨by rfl, ?_⟩) ?_ ?_; rotate_left; (· intro w'; go_simp; with_reducible rfl); rotate_left; (· simp only [Act.put, List.setIfInBounds_toArray, List.set_cons_zero, List.set_cons_succ, i64_w, i32_w]; rfl)) | (refine pure_ (i := 34) (N := some 75) (v := undef) (a' := ?_) #[J, J, J, J, J, J, J, J, J, J, J, J, J, J, J, J, J, J, J, J, J, J, J, J, J, J, J, J, J, J, J, J, J, J, J, Y, Y, Y, Y, Y, Y] rfl rfl (Qm HT_.out (by kernel_rfl)) (fun _ _ _ h => h) (Or.inr ⟨by rfl, rfl⟩) ?_ ?_; rotate_left; (· simp only [Act.put, List.setIfInBounds_toArray, List.set_cons_zero, List.set_cons_succ, i64_w, i32_w]; rfl))
      all_goals first | (refine take_ (i := 35) (N := some 76) (v := ?_) (a' := ?_) #[J, J, J, J, J, J, J, J, J, J, J, J, J, J, J, J, J, J, J, J, J, J, J, J, J, J, J, J, J, J, J, J, J, J, J, J, Y, Y, Y, Y, Y] rfl rfl (Qm1 HT_.out HW_.out (by kernel_rfl)) (fun _ _ _ h => h) (Or.inl ⟨by rfl, ?_⟩) hHeld ?_ ?_; rotate_left; (· rintro w' ⟨s0, s1, s2, s3, s4, s5⟩; go_simp; with_reducible rfl); rotate_left; (· simp only [Act.put, List.setIfInBounds_toArray, List.set_cons_zero, List.set_cons_succ, i64_w, i32_w]; rfl)) | (refine pure_ (i := 35) (N := some 76) (v := undef) (a' := ?_) #[J, J, J, J, J, J, J, J, J, J, J, J, J, J, J, J, J, J, J, J, J, J, J, J, J, J, J, J, J, J, J, J, J, J, J, J, Y, Y, Y, Y, Y] rfl rfl (Qm HT_.out (by kernel_rfl)) (fun _ _ _ h => h) (Or.inr ⟨by rfl, rfl⟩) ?_ ?_; rotate_left; (· simp only [Act.put, List.setIfInBounds_toArray, List.set_cons_zero, List.set_cons_succ, i64_w, i32_w]; rfl))
      all_goals (refine pure_ (i := 36) (N := some 77) (v := .bool n2) (a' := ?_) #[J, J, J, J, J, J, J, J, J, J, J, J, J, J, J, J, J, J, J, J, J, J, J, J, J, J, J, J, J, J, J, J, J, J, J, J, J, Y, Y, Y, Y] rfl rfl (Qm HT_.out (by kernel_rfl)) (fun _ _ _ h => h) (Or.inl ⟨by rfl, ?_⟩) ?_ ?_; (· intro w'; go_simp; rw [En2.out]; rfl); rotate_left; (· simp only [Act.put, List.setIfInBounds_toArray, List.set_cons_zero, List.set_cons_succ, i64_w, i32_w]; rfl))
      all_goals (refine pure_ (i := 37) (N := some 78) (v := ?_) (a' := ?_) #[J, J, J, J, J, J, J, J, J, J, J, J, J, J, J, J, J, J, J, J, J, J, J, J, J, J, J, J, J, J, J, J, J, J, J, J, J, J, Y, Y, Y] rfl rfl (Qm HT_.out (by kernel_rfl)) (fun _ _ _ h => h) (Or.inl ⟨by rfl, ?_⟩) ?_ ?_; rotate_left; (· intro w'; go_simp; with_reducible rfl); rotate_left; (· simp only [Act.put, List.setIfInBounds_toArray, List.set_cons_zero, List.set_cons_succ, i64_w, i32_w]; rfl))
      all_goals (refine one_ (i := 38) (N := some 79) #[J, J, J, J, J, J, J, J, J, J, J, J, J, J, J, J, J, J, J, J, J, J, J, J, J, J, J, J, J, J, J, J, J, J, J, J, J, J, J, Y, Y] rfl rfl (one_of HT_.out (by kernel_rfl)) (by decide) (fun K hK => ?_); refine value_ (w1 := ?_) (v := ?_) (by rfl) rfl ?_ ?_; rotate_left 2; (· go_simp; constructor; (· rfl); (· rfl)); refine hK.out _ _ ⟨(World.cell?_alloc_lt _ _ _ (World.block_lt_of_cell? _ _ (((HB.out.cell (World.block_lt_of_cell? w _ Hbx0.out)).trans Hbx0.out)))).trans (((HB.out.cell (World.block_lt_of_cell? w _ Hbx0.out)).trans Hbx0.out)), (World.cell?_alloc_lt _ _ _ (World.block_lt_of_cell? _ _ (((HB.out.cell (World.block_lt_of_cell? w _ Hbx1.out)).trans Hbx1.out)))).trans (((HB.out.cell (World.block_lt_of_cell? w _ Hbx1.out)).trans Hbx1.out)), (World.cell?_alloc_lt _ _ _ (World.block_lt_of_cell? _ _ (((HB.out.cell (World.block_lt_of_cell? w _ Hbx2.out)).trans Hbx2.out)))).trans (((HB.out.cell (World.block_lt_of_cell? w _ Hbx2.out)).trans Hbx2.out)), (World.cell?_alloc_lt _ _ _ (World.block_lt_of_cell? _ _ (((HB.out.cell (World.block_lt_of_cell? w _ Hgx0.out)).trans Hgx0.out)))).trans (((HB.out.cell (World.block_lt_of_cell? w _ Hgx0.out)).trans Hgx0.out)), (World.cell?_alloc_lt _ _ _ (World.block_lt_of_cell? _ _ (((HB.out.cell (World.block_lt_of_cell? w _ Hgx1.out)).trans Hgx1.out)))).trans (((HB.out.cell (World.block_lt_of_cell? w _ Hgx1.out)).trans Hgx1.out)), (World.cell?_alloc_lt _ _ _ (World.block_lt_of_cell? _ _ (((HB.out.cell (World.block_lt_of_cell? w _ Hgx2.out)).trans Hgx2.out)))).trans (((HB.out.cell (World.block_lt_of_cell? w _ Hgx2.out)).trans Hgx2.out))⟩ (fun hHeld => ?_); clear hK K; refine norm_ (a' := ?_) ?_ ?_; rotate_left; (· show Act.put _ (some 79) _ = _; simp only [Act.put, List.setIfInBounds_toArray, List.set_cons_zero, List.set_cons_succ, i64_w, i32_w]; rfl))
      all_goals (refine one_ (i := 39) (N := some 80) #[J, J, J, J, J, J, J, J, J, J, J, J, J, J, J, J, J, J, J, J, J, J, J, J, J, J, J, J, J, J, J, J, J, J, J, J, J, J, J, J, Y] rfl rfl (one_of HT_.out (by kernel_rfl)) (by decide) (fun K hK => ?_); refine Kd.R_append_step k35 (w0 := w) w.heap.size (by rfl) (.tmp 41) (.tmp 79) 28 35 (.agg #[(.bool false), (.bool false), (.bool false)]) 3 rfl Try.underlying28 info35 rfl (by decide) (by omega) u7 x7_2 (⟨n0, n1, n2⟩ : S35) [.bool n0, .bool n1, .bool n2] (fun _ => True) (fun _ => False) rfl rfl ?aP (fun _ hk => hk.elim) ?aF ?aO ?aB ?aS ?aL ?_; (case aP => exact k35_mkM _ _ _ (⟨n0, n1, n2⟩ : S35)); (case aB => exact (by with_reducible repeat (first | exact HB.out | apply Qk | apply Ql | apply Qj | refine Qi ?_ GE266.out))); (case aF => exact (fun _ _ => trivial)); (case aO => exact (by (with_reducible repeat (first | apply Kd.Qq | apply Kd.Qr | apply Kd.Qo)); exact HO_7.out)); (case aS => exact (Qb1 (by with_reducible repeat (first | exact HB.out | apply Qk | apply Ql | apply Qj | refine Qi ?_ GE266.out)))); (case aL => have := LM.out; omega); intro v306 w69 ho hb hg hat; rw [← Nyv.out] at ho; have n0_ := Qa.mk (blk_grown (g := gb266) (o := .cells #[.slice A0_0 l0_0.length c0_0, .slice A0_1 l0_1.length c0_1] 25 (0, 0)) (by (with_reducible repeat (first | refine Qd ?_ _ | refine Qb ?_ | refine Qc ?_ _)); exact BK266.out) hg (Kd.R_ne HO_7.out BK266.out (by decide))); have n1_ := Qa.mk (hb); have n2_ := Qa.mk (ho); clear BK266 HB HO_7; have BK266 := n0_; have HB := n1_; have HOn := n2_; clear n0_ n1_ n2_ ho hb hg hat; refine hK.out _ _ ⟨((HB.out.cell (World.block_lt_of_cell? w _ Hbx0.out)).trans Hbx0.out), ((HB.out.cell (World.block_lt_of_cell? w _ Hbx1.out)).trans Hbx1.out), ((HB.out.cell (World.block_lt_of_cell? w _ Hbx2.out)).trans Hbx2.out), ((HB.out.cell (World.block_lt_of_cell? w _ Hgx0.out)).trans Hgx0.out), ((HB.out.cell (World.block_lt_of_cell? w _ Hgx1.out)).trans Hgx1.out), ((HB.out.cell (World.block_lt_of_cell? w _ Hgx2.out)).trans Hgx2.out)⟩ (fun hHeld => ?_); clear hK K; refine norm_ (a' := ?_) ?_ ?_; rotate_left; (· show Act.put _ (some 80) _ = _; simp only [Act.put, List.setIfInBounds_toArray, List.set_cons_zero, List.set_cons_succ, i64_w, i32_w]; rfl))
      all_goals (refine pure_ (i := 40) (N := some 7) (v := ?_) (a' := ?_) #[J, J, J, J, J, J, J, J, J, J, J, J, J, J, J, J, J, J, J, J, J, J, J, J, J, J, J, J, J, J, J, J, J, J, J, J, J, J, J, J, J] rfl rfl (Qm HT_.out (by kernel_rfl)) (fun _ _ _ h => h) (Or.inl ⟨by rfl, ?_⟩) ?_ ?_; rotate_left; (· intro w'; go_simp; with_reducible rfl); rotate_left; (· simp only [Act.put, List.setIfInBounds_toArray, List.set_cons_zero, List.set_cons_succ, i64_w, i32_w]; rfl))
      all_goals (refine done_ (done_of HT_.out (by kernel_rfl)) ?_; (try go_wp2); go_roundg k2; (case measure => have := HJ3.out; have := HK2.out; omega); (case rel => exact ⟨(yv), (wrap64 (x8_2 + 1)), (by first | rfl | (simp; done) | (simp [*]; done)), H', ⟨by have := HJ3.out; have := HK2.out; omega⟩, ⟨by (with_reducible repeat (first | apply Kd.Qq | apply Kd.Qr | apply Kd.Qo)); exact HOn.out⟩, ⟨by (with_reducible repeat (first | refine Qd ?_ _ | refine Qb ?_ | refine Qc ?_ _)); exact BK266.out⟩, ⟨by with_reducible repeat (first | exact HB.out | apply Qk | apply Ql | apply Qj | refine Qi ?_ GE266.out)⟩⟩))
     rw [if_neg c26] at H
     have c26b0 : decide (x8_2 < (l1.length : Int)) = false := decide_eq_false c26
     clear c26
     replace H := Option.bind_eq_some_iff.mp H
     obtain ⟨t308, A700, H⟩ := H
     replace H : ((flow_Step.f k2 l0_0 l0_1 t308).bind fun t311 => ((Qn1.f k2 t311).bind fun t314 => ((Qr1.f k2 x7_2).bind fun t317 => ((flow_Step.f k2 l0_0 l0_1 t317).bind fun t320 => ((Qn1.f k2 t320).bind fun t323 => ((Qu.f k2 t314 t323).bind fun t326 => (if t326 = true then ((Qu.f k2 t323 x7_2).bind fun t327 => (if t327 = true then ((flow_Of.f k2 l0_0 l0_1).bind fun t328 => ((Qn1.f k2 t328).bind fun t331 => ((Qu.f k2 t331 x7_2).bind fun t334 => (some t334)))) else (some true))) else (some false)))))))) = some r := H
     have A70 := Qa.mk A700
     clear A700
     replace H := Option.bind_eq_some_iff.mp H
     obtain ⟨t311, A710, H⟩ := H
     replace H : ((Qn1.f k2 t311).bind fun t314 => ((Qr1.f k2 x7_2).bind fun t317 => ((flow_Step.f k2 l0_0 l0_1 t317).bind fun t320 => ((Qn1.f k2 t320).bind fun t323 => ((Qu.f k2 t314 t323).bind fun t326 => (if t326 = true then ((Qu.f k2 t323 x7_2).bind fun t327 => (if t327 = true then ((flow_Of.f k2 l0_0 l0_1).bind fun t328 => ((Qn1.f k2 t328).bind fun t331 => ((Qu.f k2 t331 x7_2).bind fun t334 => (some t334)))) else (some true))) else (some false))))))) = some r := H
     have A71 := Qa.mk A710
     clear A710
     replace H := Option.bind_eq_some_iff.mp H
     obtain ⟨t314, A720, H⟩ := H
     replace H : ((Qr1.f k2 x7_2).bind fun t317 => ((flow_Step.f k2 l0_0 l0_1 t317).bind fun t320 => ((Qn1.f k2 t320).bind fun t323 => ((Qu.f k2 t314 t323).bind fun t326 => (if t326 = true then ((Qu.f k2 t323 x7_2).bind fun t327 => (if t327 = true then ((flow_Of.f k2 l0_0 l0_1).bind fun t328 => ((Qn1.f k2 t328).bind fun t331 => ((Qu.f k2 t331 x7_2).bind fun t334 => (some t334)))) else (some true))) else (some false)))))) = some r := H
     have A72 := Qa.mk A720
     clear A720
     replace H := Option.bind_eq_some_iff.mp H
     obtain ⟨t317, A730, H⟩ := H
     replace H : ((flow_Step.f k2 l0_0 l0_1 t317).bind fun t320 => ((Qn1.f k2 t320).bind fun t323 => ((Qu.f k2 t314 t323).bind fun t326 => (if t326 = true then ((Qu.f k2 t323 x7_2).bind fun t327 => (if t327 = true then ((flow_Of.f k2 l0_0 l0_1).bind fun t328 => ((Qn1.f k2 t328).bind fun t331 => ((Qu.f k2 t331 x7_2).bind fun t334 => (some t334)))) else (some true))) else (some false))))) = some r := H
     have A73 := Qa.mk A730
     clear A730
     replace H := Option.bind_eq_some_iff.mp H
     obtain ⟨t320, A740, H⟩ := H
     replace H : ((Qn1.f k2 t320).bind fun t323 => ((Qu.f k2 t314 t323).bind fun t326 => (if t326 = true then ((Qu.f k2 t323 x7_2).bind fun t327 => (if t327 = true then ((flow_Of.f k2 l0_0 l0_1).bind fun t328 => ((Qn1.f k2 t328).bind fun t331 => ((Qu.f k2 t331 x7_2).bind fun t334 => (some t334)))) else (some true))) else (some false)))) = some r := H
     have A74 := Qa.mk A740
     clear A740
     replace H := Option.bind_eq_some_iff.mp H
     obtain ⟨t323, A750, H⟩ := H
     replace H : ((Qu.f k2 t314 t323).bind fun t326 => (if t326 = true then ((Qu.f k2 t323 x7_2).bind fun t327 => (if t327 = true then ((flow_Of.f k2 l0_0 l0_1).bind fun t328 => ((Qn1.f k2 t328).bind fun t331 => ((Qu.f k2 t331 x7_2).bind fun t334 => (some t334)))) else (some true))) else (some false))) = some r := H
     have A75 := Qa.mk A750
     clear A750
     replace H := Option.bind_eq_some_iff.mp H
     obtain ⟨t326, A760, H⟩ := H
     replace H : (if t326 = true then ((Qu.f k2 t323 x7_2).bind fun t327 => (if t327 = true then ((flow_Of.f k2 l0_0 l0_1).bind fun t328 => ((Qn1.f k2 t328).bind fun t331 => ((Qu.f k2 t331 x7_2).bind fun t334 => (some t334)))) else (some true))) else (some false)) = some r := H
     have A76 := Qa.mk A760
     clear A760
     by_cases c77 : t326 = true
     ·
      subst c77
      have H1 : ((Qu.f k2 t323 x7_2).bind fun t327 => (if t327 = true then ((flow_Of.f k2 l0_0 l0_1).bind fun t328 => ((Qn1.f k2 t328).bind fun t331 => ((Qu.f k2 t331 x7_2).bind fun t334 => (some t334)))) else (some true))) = some r := by rw [if_pos rfl] at H; exact H
      clear H
      have H := H1
      clear H1
      have HC78 := Qa.mk H
      clear H
      try go_wp2
      have n0_ := Qa.mk (Kd.Qo HO_7.out)
      have n1_ := Qa.mk (Qb BK266.out)
      have n2_ := Qa.mk (Qj HB.out)
      clear HO_7
      clear BK266
      clear HB
      have HO_7 := n0_
      have BK266 := n1_
      have HB := n2_
      clear n0_ n1_ n2_
      refine start_ (n := 6) (S := fun w' => w'.cell? ⟨gb266, 0, none⟩ = some (.slice A0_0 l0_0.length c0_0) ∧ w'.cell? ⟨gb266, 1, none⟩ = some (.slice A0_1 l0_1.length c0_1)) (ds := []) #[Y, Y, Y, Y, Y, Y] (by kernel_rfl) rfl rfl ⟨(Qe BK266.out 0).trans rfl, (Qe BK266.out 1).trans rfl⟩ (fun hHeld => ?_)
      generalize wr.drew = w79 at HO_7 BK266 HB hHeld ⊢
      refine pure_ (i := 1) (N := some 82) (v := ?_) (a' := ?_) #[Y, J, Y, Y, Y, Y] rfl rfl (by kernel_rfl) (fun _ _ _ h => h) (Or.inl ⟨by rfl, ?_⟩) ?_ ?_
      rotate_left
      ·
       intro w'
       go_simp
       with_reducible rfl
      rotate_left
      ·
       simp only [Act.put, List.setIfInBounds_toArray, List.set_cons_zero, List.set_cons_succ, i64_w, i32_w]
       rfl
      refine take_ (i := 0) (N := some 81) (v := ?_) (a' := ?_) #[J, J, Y, Y, Y, Y] rfl rfl (by kernel_rfl) (fun _ _ _ h => h) (Or.inl ⟨by rfl, ?_⟩) hHeld ?_ ?_
      rotate_left
      ·
       rintro w' ⟨s0, s1⟩
       go_simp
       with_reducible rfl
      rotate_left
      ·
       simp only [Act.put, List.setIfInBounds_toArray, List.set_cons_zero, List.set_cons_succ, i64_w, i32_w]
       rfl
      refine one_ (i := 2) (N := some 83) #[J, J, J, Y, Y, Y] rfl rfl (by kernel_rfl) (by decide) (fun K hK => ?_)
      refine goes_ Try.func16 (by kernel_rfl) rfl #[.slice A1 l1.length c1] (by rfl) rfl rfl (by (try simp only [List.map_toArray, List.map_cons, List.map_nil]); first | done | rfl | (simp only [List.length_drop, List.length_take]; rfl)) ?_
      with_reducible refine (Qr1.calls k2 _ _ l1 t308 _ ?side1 ?side2 A70.out).mono ?_
      (case side1 => repeat (first | exact (Kd.C_below HR1.out HB.out) | (with_reducible refine Kd.Qf1 ?_ _) | (with_reducible refine Kd.Qe1 ?_ _) | (with_reducible refine Kd.C_drew ?_)))
      (case side2 => exact HC1.out)
      rintro e w80 ⟨v309, rfl, ho0, hb⟩
      refine ⟨_, rfl, ?_⟩
      have n0_ := Qa.mk (Kd.Qd1 (by (with_reducible repeat (first | apply Kd.Qq | apply Kd.Qr | apply Kd.Qo)); exact HO_7.out) hb)
      have n1_ := Qa.mk (Kd.R_lower ho0 (Qb1 (by with_reducible repeat (first | exact HB.out | apply Qk | apply Ql | apply Qj | refine Qi ?_ GE266.out))))
      have n2_ := Qa.mk (Qs (g := gb266) (o := .cells #[.slice A0_0 l0_0.length c0_0, .slice A0_1 l0_1.length c0_1] 25 (0, 0)) (by (with_reducible repeat (first | refine Qd ?_ _ | refine Qb ?_ | refine Qc ?_ _)); exact BK266.out) hb)
      have n3_ := Qa.mk (Qv (by with_reducible repeat (first | exact HB.out | apply Qk | apply Ql | apply Qj | refine Qi ?_ GE266.out)) hb)
      clear HO_7
      clear BK266
      clear HB
      have HO_7 := n0_
      have HO310 := n1_
      have BK266 := n2_
      have HB := n3_
      clear n0_ n1_ n2_ n3_
      (try clear hb; try clear hb2; try clear hk; try clear hi; try clear ho0)
      obtain ⟨Ao81, co81, eo81⟩ := Kd.R_slice HO310.out
      (first | subst eo81 | (injection eo81 with f1_ f2_ f3_; have f4_ := f1_.symm; have f5_ := f3_.symm; clear f1_ f2_ f3_; subst f4_; subst f5_))
      refine hK.out _ _ ⟨(Qe BK266.out 0).trans rfl, (Qe BK266.out 1).trans rfl⟩ (fun hHeld => ?_)
      clear hK K
      refine norm_ (a' := ?_) ?_ ?_
      rotate_left
      ·
       show Act.put _ (some 83) _ = _
       simp only [Act.put, List.setIfInBounds_toArray, List.set_cons_zero, List.set_cons_succ, i64_w, i32_w]
       rfl
      refine one_ (i := 3) (N := some 84) #[J, J, J, J, Y, Y] rfl rfl (by kernel_rfl) (by decide) (fun K hK => ?_)
      refine goes_ Try.func15 (by kernel_rfl) rfl #[.agg #[.slice A0_0 l0_0.length c0_0, .slice A0_1 l0_1.length c0_1], .slice Ao81 t308.length co81] (by rfl) rfl rfl (by (try simp only [List.map_toArray, List.map_cons, List.map_nil]); first | done | rfl | (simp only [List.length_drop, List.length_take]; rfl)) ?_
      with_reducible refine (flow_Step.calls k2 _ _ l0_0 _ _ l0_1 _ _ t308 t311 _ ?side1 ?side2 ?side3 ?side4 ?side5 ?side6 A71.out).mono ?_
      (case side1 => repeat (first | exact (Kd.C_below HR0_0.out HB.out) | (with_reducible refine Kd.Qf1 ?_ _) | (with_reducible refine Kd.Qe1 ?_ _) | (with_reducible refine Kd.C_drew ?_)))
      (case side2 => exact HC0_0.out)
      (case side3 => repeat (first | exact (Kd.C_below HR0_1.out HB.out) | (with_reducible refine Kd.Qf1 ?_ _) | (with_reducible refine Kd.Qe1 ?_ _) | (with_reducible refine Kd.C_drew ?_)))
      (case side4 => exact HC0_1.out)
      (case side5 => repeat (first | exact (Kd.R_reads' HO310.out).2.2 | (with_reducible refine Kd.Qf1 ?_ _) | (with_reducible refine Kd.Qe1 ?_ _) | (with_reducible refine Kd.C_drew ?_)))
      (case side6 => exact (Kd.R_reads' HO310.out).2.1)
      rintro e w82 ⟨v312, rfl, ho0, hb⟩
      refine ⟨_, rfl, ?_⟩
      have n0_ := Qa.mk (Kd.Qd1 (by (with_reducible repeat (first | apply Kd.Qq | apply Kd.Qr | apply Kd.Qo)); exact HO_7.out) hb)
      have n1_ := Qa.mk (Kd.R_elder' (by (with_reducible repeat (first | apply Kd.Qq | apply Kd.Qr | apply Kd.Qo)); exact HO310.out) (Kd.R_base ho0) hb)
      have n2_ := Qa.mk (Kd.R_lower (Kd.R_new' ho0 (Kd.R_lt (by (with_reducible repeat (first | apply Kd.Qq | apply Kd.Qr | apply Kd.Qo)); exact HO310.out))) (Qb1 (by with_reducible repeat (first | exact HB.out | apply Qk | apply Ql | apply Qj | refine Qi ?_ GE266.out))))
      have n3_ := Qa.mk (Qs (g := gb266) (o := .cells #[.slice A0_0 l0_0.length c0_0, .slice A0_1 l0_1.length c0_1] 25 (0, 0)) (by (with_reducible repeat (first | refine Qd ?_ _ | refine Qb ?_ | refine Qc ?_ _)); exact BK266.out) hb)
      have n4_ := Qa.mk (Qv (by with_reducible repeat (first | exact HB.out | apply Qk | apply Ql | apply Qj | refine Qi ?_ GE266.out)) hb)
      clear HO_7
      clear HO310
      clear BK266
      clear HB
      have HO_7 := n0_
      have HO310 := n1_
      have HO313 := n2_
      have BK266 := n3_
      have HB := n4_
      clear n0_ n1_ n2_ n3_ n4_
      (try clear hb; try clear hb2; try clear hk; try clear hi; try clear ho0)
      obtain ⟨Ao83, co83, eo83⟩ := Kd.R_slice HO313.out
      (first | subst eo83 | (injection eo83 with f1_ f2_ f3_; have f4_ := f1_.symm; have f5_ := f3_.symm; clear f1_ f2_ f3_; subst f4_; subst f5_))
      refine hK.out _ _ ⟨(Qe BK266.out 0).trans rfl, (Qe BK266.out 1).trans rfl⟩ (fun hHeld => ?_)
      clear hK K
      refine norm_ (a' := ?_) ?_ ?_
      rotate_left
      ·
       show Act.put _ (some 84) _ = _
       simp only [Act.put, List.setIfInBounds_toArray, List.set_cons_zero, List.set_cons_succ, i64_w, i32_w]
       rfl
      refine one_ (i := 4) (N := some 85) #[J, J, J, J, J, Y] rfl rfl (by kernel_rfl) (by decide) (fun K hK => ?_)
      refine goes_ Try.func12 (by kernel_rfl) rfl #[.slice Ao83 t311.length co83] (by rfl) rfl rfl (by (try simp only [List.map_toArray, List.map_cons, List.map_nil]); first | done | rfl | (simp only [List.length_drop, List.length_take]; rfl)) ?_
      with_reducible refine (Qn1.calls k2 _ _ t311 t314 _ ?side1 ?side2 A72.out).mono ?_
      (case side1 => repeat (first | exact (Kd.R_reads' HO313.out).2.2 | (with_reducible refine Kd.Qf1 ?_ _) | (with_reducible refine Kd.Qe1 ?_ _) | (with_reducible refine Kd.C_drew ?_)))
      (case side2 => exact (Kd.R_reads' HO313.out).2.1)
      rintro e w84 ⟨v315, rfl, ho0, hb⟩
      refine ⟨_, rfl, ?_⟩
      have n0_ := Qa.mk (Kd.R_elder' (by (with_reducible repeat (first | apply Kd.Qq | apply Kd.Qr | apply Kd.Qo)); exact HO_7.out) (Kd.R_base ho0) hb)
      have n1_ := Qa.mk (Kd.Qd1 (by (with_reducible repeat (first | apply Kd.Qq | apply Kd.Qr | apply Kd.Qo)); exact HO310.out) hb)
      have n2_ := Qa.mk (Kd.Qd1 (by (with_reducible repeat (first | apply Kd.Qq | apply Kd.Qr | apply Kd.Qo)); exact HO313.out) hb)
      have n3_ := Qa.mk (Kd.R_lower (Kd.R_new' ho0 (Kd.R_lt (by (with_reducible repeat (first | apply Kd.Qq | apply Kd.Qr | apply Kd.Qo)); exact HO_7.out))) (Qb1 (by with_reducible repeat (first | exact HB.out | apply Qk | apply Ql | apply Qj | refine Qi ?_ GE266.out))))
      have n4_ := Qa.mk (Qs (g := gb266) (o := .cells #[.slice A0_0 l0_0.length c0_0, .slice A0_1 l0_1.length c0_1] 25 (0, 0)) (by (with_reducible repeat (first | refine Qd ?_ _ | refine Qb ?_ | refine Qc ?_ _)); exact BK266.out) hb)
      have n5_ := Qa.mk (Qv (by with_reducible repeat (first | exact HB.out | apply Qk | apply Ql | apply Qj | refine Qi ?_ GE266.out)) hb)
      clear HO_7
      clear HO310
      clear HO313
      clear BK266
      clear HB
      have HO_7 := n0_
      have HO310 := n1_
      have HO313 := n2_
      have HO316 := n3_
      have BK266 := n4_
      have HB := n5_
      clear n0_ n1_ n2_ n3_ n4_ n5_
      (try clear hb; try clear hb2; try clear hk; try clear hi; try clear ho0)
      refine hK.out _ _ ⟨(Qe BK266.out 0).trans rfl, (Qe BK266.out 1).trans rfl⟩ (fun hHeld => ?_)
      clear hK K
      refine norm_ (a' := ?_) ?_ ?_
      rotate_left
      ·
       show Act.put _ (some 85) _ = _
       simp only [Act.put, List.setIfInBounds_toArray, List.set_cons_zero, List.set_cons_succ, i64_w, i32_w]
       rfl
      refine pure_ (i := 5) (N := some 9) (v := ?_) (a' := ?_) #[J, J, J, J, J, J] rfl rfl (by kernel_rfl) (fun _ _ _ h => h) (Or.inl ⟨by rfl, ?_⟩) ?_ ?_
      rotate_left
      ·
       intro w'
       go_simp
       with_reducible rfl
      rotate_left
      ·
       simp only [Act.put, List.setIfInBounds_toArray, List.set_cons_zero, List.set_cons_succ, i64_w, i32_w]
       rfl
      refine done_ (by kernel_rfl) ?_
      try go_wp2
      have n0_ := Qa.mk (Kd.Qo HO_7.out)
      have n1_ := Qa.mk (Kd.Qo HO310.out)
      have n2_ := Qa.mk (Kd.Qo HO313.out)
      have n3_ := Qa.mk (Kd.Qo HO316.out)
      have n4_ := Qa.mk (Qb BK266.out)
      have n5_ := Qa.mk (Qj HB.out)
      clear HO_7
      clear HO310
      clear HO313
      clear HO316
      clear BK266
      clear HB
      have HO_7 := n0_
      have HO310 := n1_
      have HO313 := n2_
      have HO316 := n3_
      have BK266 := n4_
      have HB := n5_
      clear n0_ n1_ n2_ n3_ n4_ n5_
      obtain ⟨Ao86, co86, eo86⟩ := Kd.R_slice HO_7.out
      (first | subst eo86 | (injection eo86 with f1_ f2_ f3_; have f4_ := f1_.symm; have f5_ := f3_.symm; clear f1_ f2_ f3_; subst f4_; subst f5_))
      refine start_ (n := 6) (S := fun w' => w'.cell? ⟨gb266, 0, none⟩ = some (.slice A0_0 l0_0.length c0_0) ∧ w'.cell? ⟨gb266, 1, none⟩ = some (.slice A0_1 l0_1.length c0_1)) (ds := []) #[Y, Y, Y, Y, Y, Y] (by kernel_rfl) rfl rfl ⟨(Qe BK266.out 0).trans rfl, (Qe BK266.out 1).trans rfl⟩ (fun hHeld => ?_)
      generalize w84.drew = w85 at HO_7 HO310 HO313 HO316 BK266 HB hHeld ⊢
      refine pure_ (i := 1) (N := some 87) (v := ?_) (a' := ?_) #[Y, J, Y, Y, Y, Y] rfl rfl (by kernel_rfl) (fun _ _ _ h => h) (Or.inl ⟨by rfl, ?_⟩) ?_ ?_
      rotate_left
      ·
       intro w'
       go_simp
       with_reducible rfl
      rotate_left
      ·
       simp only [Act.put, List.setIfInBounds_toArray, List.set_cons_zero, List.set_cons_succ, i64_w, i32_w]
       rfl
      refine take_ (i := 0) (N := some 86) (v := ?_) (a' := ?_) #[J, J, Y, Y, Y, Y] rfl rfl (by kernel_rfl) (fun _ _ _ h => h) (Or.inl ⟨by rfl, ?_⟩) hHeld ?_ ?_
      rotate_left
      ·
       rintro w' ⟨s0, s1⟩
       go_simp
       with_reducible rfl
      rotate_left
      ·
       simp only [Act.put, List.setIfInBounds_toArray, List.set_cons_zero, List.set_cons_succ, i64_w, i32_w]
       rfl
      refine one_ (i := 2) (N := some 88) #[J, J, J, Y, Y, Y] rfl rfl (by kernel_rfl) (by decide) (fun K hK => ?_)
      refine goes_ Try.func16 (by kernel_rfl) rfl #[.slice Ao86 x7_2.length co86] (by rfl) rfl rfl (by (try simp only [List.map_toArray, List.map_cons, List.map_nil]); first | done | rfl | (simp only [List.length_drop, List.length_take]; rfl)) ?_
      with_reducible refine (Qr1.calls k2 _ _ x7_2 t317 _ ?side1 ?side2 A73.out).mono ?_
      (case side1 => repeat (first | exact (Kd.R_reads' HO_7.out).2.2 | (with_reducible refine Kd.Qf1 ?_ _) | (with_reducible refine Kd.Qe1 ?_ _) | (with_reducible refine Kd.C_drew ?_)))
      (case side2 => exact (Kd.R_reads' HO_7.out).2.1)
      rintro e w87 ⟨v318, rfl, ho0, hb⟩
      refine ⟨_, rfl, ?_⟩
      have n0_ := Qa.mk (Kd.Qd1 (by (with_reducible repeat (first | apply Kd.Qq | apply Kd.Qr | apply Kd.Qo)); exact HO_7.out) hb)
      have n1_ := Qa.mk (Kd.R_elder' (by (with_reducible repeat (first | apply Kd.Qq | apply Kd.Qr | apply Kd.Qo)); exact HO310.out) (Kd.R_base ho0) hb)
      have n2_ := Qa.mk (Kd.R_elder' (by (with_reducible repeat (first | apply Kd.Qq | apply Kd.Qr | apply Kd.Qo)); exact HO313.out) (Kd.R_base ho0) hb)
      have n3_ := Qa.mk (Kd.Qd1 (by (with_reducible repeat (first | apply Kd.Qq | apply Kd.Qr | apply Kd.Qo)); exact HO316.out) hb)
      have n4_ := Qa.mk (Kd.R_lower (Kd.R_new' (Kd.R_new' ho0 (Kd.R_lt (by (with_reducible repeat (first | apply Kd.Qq | apply Kd.Qr | apply Kd.Qo)); exact HO310.out))) (Kd.R_lt (by (with_reducible repeat (first | apply Kd.Qq | apply Kd.Qr | apply Kd.Qo)); exact HO313.out))) (Qb1 (by with_reducible repeat (first | exact HB.out | apply Qk | apply Ql | apply Qj | refine Qi ?_ GE266.out))))
      have n5_ := Qa.mk (Qs (g := gb266) (o := .cells #[.slice A0_0 l0_0.length c0_0, .slice A0_1 l0_1.length c0_1] 25 (0, 0)) (by (with_reducible repeat (first | refine Qd ?_ _ | refine Qb ?_ | refine Qc ?_ _)); exact BK266.out) hb)
      have n6_ := Qa.mk (Qv (by with_reducible repeat (first | exact HB.out | apply Qk | apply Ql | apply Qj | refine Qi ?_ GE266.out)) hb)
      clear HO_7
      clear HO310
      clear HO313
      clear HO316
      clear BK266
      clear HB
      have HO_7 := n0_
      have HO310 := n1_
      have HO313 := n2_
      have HO316 := n3_
      have HO319 := n4_
      have BK266 := n5_
      have HB := n6_
      clear n0_ n1_ n2_ n3_ n4_ n5_ n6_
      (try clear hb; try clear hb2; try clear hk; try clear hi; try clear ho0)
      obtain ⟨Ao88, co88, eo88⟩ := Kd.R_slice HO319.out
      (first | subst eo88 | (injection eo88 with f1_ f2_ f3_; have f4_ := f1_.symm; have f5_ := f3_.symm; clear f1_ f2_ f3_; subst f4_; subst f5_))
      refine hK.out _ _ ⟨(Qe BK266.out 0).trans rfl, (Qe BK266.out 1).trans rfl⟩ (fun hHeld => ?_)
      clear hK K
      refine norm_ (a' := ?_) ?_ ?_
      rotate_left
      ·
       show Act.put _ (some 88) _ = _
       simp only [Act.put, List.setIfInBounds_toArray, List.set_cons_zero, List.set_cons_succ, i64_w, i32_w]
       rfl
      refine one_ (i := 3) (N := some 89) #[J, J, J, J, Y, Y] rfl rfl (by kernel_rfl) (by decide) (fun K hK => ?_)
      refine goes_ Try.func15 (by kernel_rfl) rfl #[.agg #[.slice A0_0 l0_0.length c0_0, .slice A0_1 l0_1.length c0_1], .slice Ao88 t317.length co88] (by rfl) rfl rfl (by (try simp only [List.map_toArray, List.map_cons, List.map_nil]); first | done | rfl | (simp only [List.length_drop, List.length_take]; rfl)) ?_
      with_reducible refine (flow_Step.calls k2 _ _ l0_0 _ _ l0_1 _ _ t317 t320 _ ?side1 ?side2 ?side3 ?side4 ?side5 ?side6 A74.out).mono ?_
      (case side1 => repeat (first | exact (Kd.C_below HR0_0.out HB.out) | (with_reducible refine Kd.Qf1 ?_ _) | (with_reducible refine Kd.Qe1 ?_ _) | (with_reducible refine Kd.C_drew ?_)))
      (case side2 => exact HC0_0.out)
      (case side3 => repeat (first | exact (Kd.C_below HR0_1.out HB.out) | (with_reducible refine Kd.Qf1 ?_ _) | (with_reducible refine Kd.Qe1 ?_ _) | (with_reducible refine Kd.C_drew ?_)))
      (case side4 => exact HC0_1.out)
      (case side5 => repeat (first | exact (Kd.R_reads' HO319.out).2.2 | (with_reducible refine Kd.Qf1 ?_ _) | (with_reducible refine Kd.Qe1 ?_ _) | (with_reducible refine Kd.C_drew ?_)))
      (case side6 => exact (Kd.R_reads' HO319.out).2.1)
      rintro e w89 ⟨v321, rfl, ho0, hb⟩
      refine ⟨_, rfl, ?_⟩
      have n0_ := Qa.mk (Kd.Qd1 (by (with_reducible repeat (first | apply Kd.Qq | apply Kd.Qr | apply Kd.Qo)); exact HO_7.out) hb)
      have n1_ := Qa.mk (Kd.R_elder' (by (with_reducible repeat (first | apply Kd.Qq | apply Kd.Qr | apply Kd.Qo)); exact HO310.out) (Kd.R_base ho0) hb)
      have n2_ := Qa.mk (Kd.R_elder' (by (with_reducible repeat (first | apply Kd.Qq | apply Kd.Qr | apply Kd.Qo)); exact HO313.out) (Kd.R_base ho0) hb)
      have n3_ := Qa.mk (Kd.Qd1 (by (with_reducible repeat (first | apply Kd.Qq | apply Kd.Qr | apply Kd.Qo)); exact HO316.out) hb)
      have n4_ := Qa.mk (Kd.R_elder' (by (with_reducible repeat (first | apply Kd.Qq | apply Kd.Qr | apply Kd.Qo)); exact HO319.out) (Kd.R_base ho0) hb)
      have n5_ := Qa.mk (Kd.R_lower (Kd.R_new' (Kd.R_new' (Kd.R_new' ho0 (Kd.R_lt (by (with_reducible repeat (first | apply Kd.Qq | apply Kd.Qr | apply Kd.Qo)); exact HO310.out))) (Kd.R_lt (by (with_reducible repeat (first | apply Kd.Qq | apply Kd.Qr | apply Kd.Qo)); exact HO313.out))) (Kd.R_lt (by (with_reducible repeat (first | apply Kd.Qq | apply Kd.Qr | apply Kd.Qo)); exact HO319.out))) (Qb1 (by with_reducible repeat (first | exact HB.out | apply Qk | apply Ql | apply Qj | refine Qi ?_ GE266.out))))
      have n6_ := Qa.mk (Qs (g := gb266) (o := .cells #[.slice A0_0 l0_0.length c0_0, .slice A0_1 l0_1.length c0_1] 25 (0, 0)) (by (with_reducible repeat (first | refine Qd ?_ _ | refine Qb ?_ | refine Qc ?_ _)); exact BK266.out) hb)
      have n7_ := Qa.mk (Qv (by with_reducible repeat (first | exact HB.out | apply Qk | apply Ql | apply Qj | refine Qi ?_ GE266.out)) hb)
      clear HO_7
      clear HO310
      clear HO313
      clear HO316
      clear HO319
      clear BK266
      clear HB
      have HO_7 := n0_
      have HO310 := n1_
      have HO313 := n2_
      have HO316 := n3_
      have HO319 := n4_
      have HO322 := n5_
      have BK266 := n6_
      have HB := n7_
      clear n0_ n1_ n2_ n3_ n4_ n5_ n6_ n7_
      (try clear hb; try clear hb2; try clear hk; try clear hi; try clear ho0)
      obtain ⟨Ao90, co90, eo90⟩ := Kd.R_slice HO322.out
      (first | subst eo90 | (injection eo90 with f1_ f2_ f3_; have f4_ := f1_.symm; have f5_ := f3_.symm; clear f1_ f2_ f3_; subst f4_; subst f5_))
      refine hK.out _ _ ⟨(Qe BK266.out 0).trans rfl, (Qe BK266.out 1).trans rfl⟩ (fun hHeld => ?_)
      clear hK K
      refine norm_ (a' := ?_) ?_ ?_
      rotate_left
      ·
       show Act.put _ (some 89) _ = _
       simp only [Act.put, List.setIfInBounds_toArray, List.set_cons_zero, List.set_cons_succ, i64_w, i32_w]
       rfl
      refine one_ (i := 4) (N := some 90) #[J, J, J, J, J, Y] rfl rfl (by kernel_rfl) (by decide) (fun K hK => ?_)
      refine goes_ Try.func12 (by kernel_rfl) rfl #[.slice Ao90 t320.length co90] (by rfl) rfl rfl (by (try simp only [List.map_toArray, List.map_cons, List.map_nil]); first | done | rfl | (simp only [List.length_drop, List.length_take]; rfl)) ?_
      with_reducible refine (Qn1.calls k2 _ _ t320 t323 _ ?side1 ?side2 A75.out).mono ?_
      (case side1 => repeat (first | exact (Kd.R_reads' HO322.out).2.2 | (with_reducible refine Kd.Qf1 ?_ _) | (with_reducible refine Kd.Qe1 ?_ _) | (with_reducible refine Kd.C_drew ?_)))
      (case side2 => exact (Kd.R_reads' HO322.out).2.1)
      rintro e w91 ⟨v324, rfl, ho0, hb⟩
      refine ⟨_, rfl, ?_⟩
      have n0_ := Qa.mk (Kd.R_elder' (by (with_reducible repeat (first | apply Kd.Qq | apply Kd.Qr | apply Kd.Qo)); exact HO_7.out) (Kd.R_base ho0) hb)
      have n1_ := Qa.mk (Kd.Qd1 (by (with_reducible repeat (first | apply Kd.Qq | apply Kd.Qr | apply Kd.Qo)); exact HO310.out) hb)
      have n2_ := Qa.mk (Kd.Qd1 (by (with_reducible repeat (first | apply Kd.Qq | apply Kd.Qr | apply Kd.Qo)); exact HO313.out) hb)
      have n3_ := Qa.mk (Kd.R_elder' (by (with_reducible repeat (first | apply Kd.Qq | apply Kd.Qr | apply Kd.Qo)); exact HO316.out) (Kd.R_base ho0) hb)
      have n4_ := Qa.mk (Kd.Qd1 (by (with_reducible repeat (first | apply Kd.Qq | apply Kd.Qr | apply Kd.Qo)); exact HO319.out) hb)
      have n5_ := Qa.mk (Kd.Qd1 (by (with_reducible repeat (first | apply Kd.Qq | apply Kd.Qr | apply Kd.Qo)); exact HO322.out) hb)
      have n6_ := Qa.mk (Kd.R_lower (Kd.R_new' (Kd.R_new' ho0 (Kd.R_lt (by (with_reducible repeat (first | apply Kd.Qq | apply Kd.Qr | apply Kd.Qo)); exact HO_7.out))) (Kd.R_lt (by (with_reducible repeat (first | apply Kd.Qq | apply Kd.Qr | apply Kd.Qo)); exact HO316.out))) (Qb1 (by with_reducible repeat (first | exact HB.out | apply Qk | apply Ql | apply Qj | refine Qi ?_ GE266.out))))
      have n7_ := Qa.mk (Qs (g := gb266) (o := .cells #[.slice A0_0 l0_0.length c0_0, .slice A0_1 l0_1.length c0_1] 25 (0, 0)) (by (with_reducible repeat (first | refine Qd ?_ _ | refine Qb ?_ | refine Qc ?_ _)); exact BK266.out) hb)
      have n8_ := Qa.mk (Qv (by with_reducible repeat (first | exact HB.out | apply Qk | apply Ql | apply Qj | refine Qi ?_ GE266.out)) hb)
      clear HO_7
      clear HO310
      clear HO313
      clear HO316
      clear HO319
      clear HO322
      clear BK266
      clear HB
      have HO_7 := n0_
      have HO310 := n1_
      have HO313 := n2_
      have HO316 := n3_
      have HO319 := n4_
      have HO322 := n5_
      have HO325 := n6_
      have BK266 := n7_
      have HB := n8_
      clear n0_ n1_ n2_ n3_ n4_ n5_ n6_ n7_ n8_
      (try clear hb; try clear hb2; try clear hk; try clear hi; try clear ho0)
      refine hK.out _ _ ⟨(Qe BK266.out 0).trans rfl, (Qe BK266.out 1).trans rfl⟩ (fun hHeld => ?_)
      clear hK K
      refine norm_ (a' := ?_) ?_ ?_
      rotate_left
      ·
       show Act.put _ (some 90) _ = _
       simp only [Act.put, List.setIfInBounds_toArray, List.set_cons_zero, List.set_cons_succ, i64_w, i32_w]
       rfl
      refine pure_ (i := 5) (N := some 10) (v := ?_) (a' := ?_) #[J, J, J, J, J, J] rfl rfl (by kernel_rfl) (fun _ _ _ h => h) (Or.inl ⟨by rfl, ?_⟩) ?_ ?_
      rotate_left
      ·
       intro w'
       go_simp
       with_reducible rfl
      rotate_left
      ·
       simp only [Act.put, List.setIfInBounds_toArray, List.set_cons_zero, List.set_cons_succ, i64_w, i32_w]
       rfl
      refine done_ (by kernel_rfl) ?_
      obtain ⟨Ao92, co92, eo92⟩ := Kd.R_slice HO316.out
      subst eo92
      obtain ⟨Ao93, co93, eo93⟩ := Kd.R_slice HO325.out
      subst eo93
      go_upto_region 12 with (first | ((with_reducible refine gate_callee (f := 18) rfl ?_); refine goesL_ (some 93) rfl rfl Try.func18 (by kernel_rfl) rfl #[.slice Ao92 t314.length co92, .slice Ao93 t323.length co93] rfl (by (try simp only [List.map_toArray, List.map_cons, List.map_nil]); first | done | rfl | (simp only [List.length_drop, List.length_take]; rfl)) ?_; (with_reducible refine (Qu.calls k2 _ _ t314 _ _ t323 true _ ?side1 ?side2 ?side3 ?side4 A76.out).mono ?_); (case side1 => repeat (first | exact (Kd.R_reads' HO316.out).2.2 | (with_reducible refine Kd.Qf1 ?_ _) | (with_reducible refine Kd.Qe1 ?_ _) | (with_reducible refine Kd.C_drew ?_))); (case side2 => exact (Kd.R_reads' HO316.out).2.1); (case side3 => repeat (first | exact (Kd.R_reads' HO325.out).2.2 | (with_reducible refine Kd.Qf1 ?_ _) | (with_reducible refine Kd.Qe1 ?_ _) | (with_reducible refine Kd.C_drew ?_))); (case side4 => exact (Kd.R_reads' HO325.out).2.1); rintro e w' ⟨rfl, ⟨nd, rfl⟩⟩; refine ⟨_, rfl, ?_⟩))
      (try simp only [Act.put, List.setIfInBounds_toArray, List.set_cons_zero, List.set_cons_succ])
      have H := HC78.out
      clear HC78
      replace H := Option.bind_eq_some_iff.mp H
      obtain ⟨t327, A940, H⟩ := H
      replace H : (if t327 = true then ((flow_Of.f k2 l0_0 l0_1).bind fun t328 => ((Qn1.f k2 t328).bind fun t331 => ((Qu.f k2 t331 x7_2).bind fun t334 => (some t334)))) else (some true)) = some r := H
      have A94 := Qa.mk A940
      clear A940
      by_cases c95 : t327 = true
      rotate_left
      ·
       replace c95 := Bool.eq_false_iff.mpr c95
       subst c95
       have H1 : (some true) = some r := by rw [if_neg (show ¬ (false = true) by decide)] at H; exact H
       clear H
       have H := H1
       clear H1
       obtain rfl := Option.some.inj H
       go_wp2_with (first | ((with_reducible refine gate_callee (f := 18) rfl ?_); refine goesL_ (some 97) rfl rfl Try.func18 (by kernel_rfl) rfl #[.slice Ao93 t323.length co93, .slice Ao86 x7_2.length co86] rfl (by (try simp only [List.map_toArray, List.map_cons, List.map_nil]); first | done | rfl | (simp only [List.length_drop, List.length_take]; rfl)) ?_; (with_reducible refine (Qu.calls k2 _ _ t323 _ _ x7_2 false _ ?side1 ?side2 ?side3 ?side4 A94.out).mono ?_); (case side1 => repeat (first | exact (Kd.R_reads' HO325.out).2.2 | (with_reducible refine Kd.Qf1 ?_ _) | (with_reducible refine Kd.Qe1 ?_ _) | (with_reducible refine Kd.C_drew ?_))); (case side2 => exact (Kd.R_reads' HO325.out).2.1); (case side3 => repeat (first | exact (Kd.R_reads' HO_7.out).2.2 | (with_reducible refine Kd.Qf1 ?_ _) | (with_reducible refine Kd.Qe1 ?_ _) | (with_reducible refine Kd.C_drew ?_))); (case side4 => exact (Kd.R_reads' HO_7.out).2.1); rintro e w' ⟨rfl, ⟨nd, rfl⟩⟩; refine ⟨_, rfl, ?_⟩))
       go_ret
       exact ⟨by first | rfl | (simp [Qw, Qx] <;> rfl) | (simp [*, Qw, Qx] <;> rfl), by with_reducible repeat (first | exact HB.out | apply Qk | apply Ql | apply Qj | refine Qi ?_ GE266.out)⟩
      subst c95
      have H1 : ((flow_Of.f k2 l0_0 l0_1).bind fun t328 => ((Qn1.f k2 t328).bind fun t331 => ((Qu.f k2 t331 x7_2).bind fun t334 => (some t334)))) = some r := by rw [if_pos rfl] at H; exact H
      clear H
      have H := H1
      clear H1
      replace H := Option.bind_eq_some_iff.mp H
      obtain ⟨t328, A960, H⟩ := H
      replace H : ((Qn1.f k2 t328).bind fun t331 => ((Qu.f k2 t331 x7_2).bind fun t334 => (some t334))) = some r := H
      have A96 := Qa.mk A960
      clear A960
      replace H := Option.bind_eq_some_iff.mp H
      obtain ⟨t331, A970, H⟩ := H
      replace H : ((Qu.f k2 t331 x7_2).bind fun t334 => (some t334)) = some r := H
      have A97 := Qa.mk A970
      clear A970
      replace H := Option.bind_eq_some_iff.mp H
      obtain ⟨t334, A980, H⟩ := H
      replace H : (some t334) = some r := H
      have A98 := Qa.mk A980
      clear A980
      obtain rfl := Option.some.inj H
      go_wp2_with (first | ((with_reducible refine gate_callee (f := 18) rfl ?_); refine goesL_ (some 97) rfl rfl Try.func18 (by kernel_rfl) rfl #[.slice Ao93 t323.length co93, .slice Ao86 x7_2.length co86] rfl (by (try simp only [List.map_toArray, List.map_cons, List.map_nil]); first | done | rfl | (simp only [List.length_drop, List.length_take]; rfl)) ?_; (with_reducible refine (Qu.calls k2 _ _ t323 _ _ x7_2 true _ ?side1 ?side2 ?side3 ?side4 A94.out).mono ?_); (case side1 => repeat (first | exact (Kd.R_reads' HO325.out).2.2 | (with_reducible refine Kd.Qf1 ?_ _) | (with_reducible refine Kd.Qe1 ?_ _) | (with_reducible refine Kd.C_drew ?_))); (case side2 => exact (Kd.R_reads' HO325.out).2.1); (case side3 => repeat (first | exact (Kd.R_reads' HO_7.out).2.2 | (with_reducible refine Kd.Qf1 ?_ _) | (with_reducible refine Kd.Qe1 ?_ _) | (with_reducible refine Kd.C_drew ?_))); (case side4 => exact (Kd.R_reads' HO_7.out).2.1); rintro e w' ⟨rfl, ⟨nd, rfl⟩⟩; refine ⟨_, rfl, ?_⟩; have hcz99_0 : w91.cell? ⟨gb266, 0, none⟩ = some (.slice A0_0 l0_0.length c0_0) := (Qe BK266.out 0).trans rfl; have hcz99_1 : w91.cell? ⟨gb266, 1, none⟩ = some (.slice A0_1 l0_1.length c0_1) := (Qe BK266.out 1).trans rfl; have hfz99_0 := Qf BK266.out 0; have hfz99_1 := Qf BK266.out 1) | (go_at_call 13; (with_reducible refine (flow_Of.calls k2 _ _ l0_0 _ _ l0_1 t328 _ ?side1 ?side2 ?side3 ?side4 A96.out).mono ?_); (case side1 => repeat (first | exact (Kd.C_below HR0_0.out (by with_reducible repeat (first | exact HB.out | apply Qk | apply Ql | apply Qj | refine Qi ?_ GE266.out))) | (with_reducible refine Kd.Qf1 ?_ _) | (with_reducible refine Kd.Qe1 ?_ _) | (with_reducible refine Kd.C_drew ?_))); (case side2 => exact HC0_0.out); (case side3 => repeat (first | exact (Kd.C_below HR0_1.out (by with_reducible repeat (first | exact HB.out | apply Qk | apply Ql | apply Qj | refine Qi ?_ GE266.out))) | (with_reducible refine Kd.Qf1 ?_ _) | (with_reducible refine Kd.Qe1 ?_ _) | (with_reducible refine Kd.C_drew ?_))); (case side4 => exact HC0_1.out); rintro e w100 ⟨v329, rfl, ho0, hb⟩; have n0_ := Qa.mk (Kd.Qd1 (by (with_reducible repeat (first | apply Kd.Qq | apply Kd.Qr | apply Kd.Qo)); exact HO_7.out) hb); have n1_ := Qa.mk (Kd.R_elder' (by (with_reducible repeat (first | apply Kd.Qq | apply Kd.Qr | apply Kd.Qo)); exact HO310.out) (Kd.R_base ho0) hb); have n2_ := Qa.mk (Kd.R_elder' (by (with_reducible repeat (first | apply Kd.Qq | apply Kd.Qr | apply Kd.Qo)); exact HO313.out) (Kd.R_base ho0) hb); have n3_ := Qa.mk (Kd.Qd1 (by (with_reducible repeat (first | apply Kd.Qq | apply Kd.Qr | apply Kd.Qo)); exact HO316.out) hb); have n4_ := Qa.mk (Kd.R_elder' (by (with_reducible repeat (first | apply Kd.Qq | apply Kd.Qr | apply Kd.Qo)); exact HO319.out) (Kd.R_base ho0) hb); have n5_ := Qa.mk (Kd.R_elder' (by (with_reducible repeat (first | apply Kd.Qq | apply Kd.Qr | apply Kd.Qo)); exact HO322.out) (Kd.R_base ho0) hb); have n6_ := Qa.mk (Kd.Qd1 (by (with_reducible repeat (first | apply Kd.Qq | apply Kd.Qr | apply Kd.Qo)); exact HO325.out) hb); have n7_ := Qa.mk (Kd.R_lower (Kd.R_new' (Kd.R_new' (Kd.R_new' (Kd.R_new' ho0 (Kd.R_lt (by (with_reducible repeat (first | apply Kd.Qq | apply Kd.Qr | apply Kd.Qo)); exact HO310.out))) (Kd.R_lt (by (with_reducible repeat (first | apply Kd.Qq | apply Kd.Qr | apply Kd.Qo)); exact HO313.out))) (Kd.R_lt (by (with_reducible repeat (first | apply Kd.Qq | apply Kd.Qr | apply Kd.Qo)); exact HO319.out))) (Kd.R_lt (by (with_reducible repeat (first | apply Kd.Qq | apply Kd.Qr | apply Kd.Qo)); exact HO322.out))) (Qb1 (by with_reducible repeat (first | exact HB.out | apply Qk | apply Ql | apply Qj | refine Qi ?_ GE266.out)))); have n8_ := Qa.mk (Qs (g := gb266) (o := .cells #[.slice A0_0 l0_0.length c0_0, .slice A0_1 l0_1.length c0_1] 25 (0, 0)) (by (with_reducible repeat (first | refine Qd ?_ _ | refine Qb ?_ | refine Qc ?_ _)); exact BK266.out) hb); have n9_ := Qa.mk (Qv (by with_reducible repeat (first | exact HB.out | apply Qk | apply Ql | apply Qj | refine Qi ?_ GE266.out)) hb); clear HO_7; clear HO310; clear HO313; clear HO316; clear HO319; clear HO322; clear HO325; clear BK266; clear HB; have HO_7 := n0_; have HO310 := n1_; have HO313 := n2_; have HO316 := n3_; have HO319 := n4_; have HO322 := n5_; have HO325 := n6_; have HO330 := n7_; have BK266 := n8_; have HB := n9_; clear n0_ n1_ n2_ n3_ n4_ n5_ n6_ n7_ n8_ n9_; (try clear hb); (try clear hb2); (try clear hk); (try clear hi); (try clear ho0); obtain ⟨Ao101, co101, eo101⟩ := Kd.R_slice HO330.out; subst eo101) | (go_at_call 12; (with_reducible refine (Qn1.calls k2 _ _ t328 t331 _ ?side1 ?side2 A97.out).mono ?_); (case side1 => repeat (first | exact (Kd.R_reads' HO330.out).2.2 | (with_reducible refine Kd.Qf1 ?_ _) | (with_reducible refine Kd.Qe1 ?_ _) | (with_reducible refine Kd.C_drew ?_))); (case side2 => exact (Kd.R_reads' HO330.out).2.1); rintro e w102 ⟨v332, rfl, ho0, hb⟩; have n0_ := Qa.mk (Kd.R_elder' (by (with_reducible repeat (first | apply Kd.Qq | apply Kd.Qr | apply Kd.Qo)); exact HO_7.out) (Kd.R_base ho0) hb); have n1_ := Qa.mk (Kd.Qd1 (by (with_reducible repeat (first | apply Kd.Qq | apply Kd.Qr | apply Kd.Qo)); exact HO310.out) hb); have n2_ := Qa.mk (Kd.Qd1 (by (with_reducible repeat (first | apply Kd.Qq | apply Kd.Qr | apply Kd.Qo)); exact HO313.out) hb); have n3_ := Qa.mk (Kd.R_elder' (by (with_reducible repeat (first | apply Kd.Qq | apply Kd.Qr | apply Kd.Qo)); exact HO316.out) (Kd.R_base ho0) hb); have n4_ := Qa.mk (Kd.Qd1 (by (with_reducible repeat (first | apply Kd.Qq | apply Kd.Qr | apply Kd.Qo)); exact HO319.out) hb); have n5_ := Qa.mk (Kd.Qd1 (by (with_reducible repeat (first | apply Kd.Qq | apply Kd.Qr | apply Kd.Qo)); exact HO322.out) hb); have n6_ := Qa.mk (Kd.R_elder' (by (with_reducible repeat (first | apply Kd.Qq | apply Kd.Qr | apply Kd.Qo)); exact HO325.out) (Kd.R_base ho0) hb); have n7_ := Qa.mk (Kd.Qd1 (by (with_reducible repeat (first | apply Kd.Qq | apply Kd.Qr | apply Kd.Qo)); exact HO330.out) hb); have n8_ := Qa.mk (Kd.R_lower (Kd.R_new' (Kd.R_new' (Kd.R_new' ho0 (Kd.R_lt (by (with_reducible repeat (first | apply Kd.Qq | apply Kd.Qr | apply Kd.Qo)); exact HO_7.out))) (Kd.R_lt (by (with_reducible repeat (first | apply Kd.Qq | apply Kd.Qr | apply Kd.Qo)); exact HO316.out))) (Kd.R_lt (by (with_reducible repeat (first | apply Kd.Qq | apply Kd.Qr | apply Kd.Qo)); exact HO325.out))) (Qb1 (by with_reducible repeat (first | exact HB.out | apply Qk | apply Ql | apply Qj | refine Qi ?_ GE266.out)))); have n9_ := Qa.mk (Qs (g := gb266) (o := .cells #[.slice A0_0 l0_0.length c0_0, .slice A0_1 l0_1.length c0_1] 25 (0, 0)) (by (with_reducible repeat (first | refine Qd ?_ _ | refine Qb ?_ | refine Qc ?_ _)); exact BK266.out) hb); have n10_ := Qa.mk (Qv (by with_reducible repeat (first | exact HB.out | apply Qk | apply Ql | apply Qj | refine Qi ?_ GE266.out)) hb); clear HO_7; clear HO310; clear HO313; clear HO316; clear HO319; clear HO322; clear HO325; clear HO330; clear BK266; clear HB; have HO_7 := n0_; have HO310 := n1_; have HO313 := n2_; have HO316 := n3_; have HO319 := n4_; have HO322 := n5_; have HO325 := n6_; have HO330 := n7_; have HO333 := n8_; have BK266 := n9_; have HB := n10_; clear n0_ n1_ n2_ n3_ n4_ n5_ n6_ n7_ n8_ n9_ n10_; (try clear hb); (try clear hb2); (try clear hk); (try clear hi); (try clear ho0); obtain ⟨Ao103, co103, eo103⟩ := Kd.R_slice HO333.out; subst eo103) | (go_at_call 18; (with_reducible refine (Qu.calls k2 _ _ t331 _ _ x7_2 t334 _ ?side1 ?side2 ?side3 ?side4 A98.out).mono ?_); (case side1 => repeat (first | exact (Kd.R_reads' HO333.out).2.2 | (with_reducible refine Kd.Qf1 ?_ _) | (with_reducible refine Kd.Qe1 ?_ _) | (with_reducible refine Kd.C_drew ?_))); (case side2 => exact (Kd.R_reads' HO333.out).2.1); (case side3 => repeat (first | exact (Kd.R_reads' HO_7.out).2.2 | (with_reducible refine Kd.Qf1 ?_ _) | (with_reducible refine Kd.Qe1 ?_ _) | (with_reducible refine Kd.C_drew ?_))); (case side4 => exact (Kd.R_reads' HO_7.out).2.1); rintro e w' ⟨rfl, ⟨nd, rfl⟩⟩))
      go_ret
      exact ⟨by first | rfl | (simp [Qw, Qx] <;> rfl) | (simp [*, Qw, Qx] <;> rfl), by with_reducible repeat (first | exact HB.out | apply Qk | apply Ql | apply Qj | refine Qi ?_ GE266.out)⟩
     replace c77 := Bool.eq_false_iff.mpr c77
     subst c77
     have H1 : (some false) = some r := by rw [if_neg (show ¬ (false = true) by decide)] at H; exact H
     clear H
     have H := H1
     clear H1
     obtain rfl := Option.some.inj H
     try go_wp2
     have n0_ := Qa.mk (Kd.Qo HO_7.out)
     have n1_ := Qa.mk (Qb BK266.out)
     have n2_ := Qa.mk (Qj HB.out)
     clear HO_7
     clear BK266
     clear HB
     have HO_7 := n0_
     have BK266 := n1_
     have HB := n2_
     clear n0_ n1_ n2_
     refine start_ (n := 6) (S := fun w' => w'.cell? ⟨gb266, 0, none⟩ = some (.slice A0_0 l0_0.length c0_0) ∧ w'.cell? ⟨gb266, 1, none⟩ = some (.slice A0_1 l0_1.length c0_1)) (ds := []) #[Y, Y, Y, Y, Y, Y] (by kernel_rfl) rfl rfl ⟨(Qe BK266.out 0).trans rfl, (Qe BK266.out 1).trans rfl⟩ (fun hHeld => ?_)
     generalize wr.drew = w104 at HO_7 BK266 HB hHeld ⊢
     refine pure_ (i := 1) (N := some 82) (v := ?_) (a' := ?_) #[Y, J, Y, Y, Y, Y] rfl rfl (by kernel_rfl) (fun _ _ _ h => h) (Or.inl ⟨by rfl, ?_⟩) ?_ ?_
     rotate_left
     ·
      intro w'
      go_simp
      with_reducible rfl
     rotate_left
     ·
      simp only [Act.put, List.setIfInBounds_toArray, List.set_cons_zero, List.set_cons_succ, i64_w, i32_w]
      rfl
     refine take_ (i := 0) (N := some 81) (v := ?_) (a' := ?_) #[J, J, Y, Y, Y, Y] rfl rfl (by kernel_rfl) (fun _ _ _ h => h) (Or.inl ⟨by rfl, ?_⟩) hHeld ?_ ?_
     rotate_left
     ·
      rintro w' ⟨s0, s1⟩
      go_simp
      with_reducible rfl
     rotate_left
     ·
      simp only [Act.put, List.setIfInBounds_toArray, List.set_cons_zero, List.set_cons_succ, i64_w, i32_w]
      rfl
     refine one_ (i := 2) (N := some 83) #[J, J, J, Y, Y, Y] rfl rfl (by kernel_rfl) (by decide) (fun K hK => ?_)
     refine goes_ Try.func16 (by kernel_rfl) rfl #[.slice A1 l1.length c1] (by rfl) rfl rfl (by (try simp only [List.map_toArray, List.map_cons, List.map_nil]); first | done | rfl | (simp only [List.length_drop, List.length_take]; rfl)) ?_
     with_reducible refine (Qr1.calls k2 _ _ l1 t308 _ ?side1 ?side2 A70.out).mono ?_
     (case side1 => repeat (first | exact (Kd.C_below HR1.out HB.out) | (with_reducible refine Kd.Qf1 ?_ _) | (with_reducible refine Kd.Qe1 ?_ _) | (with_reducible refine Kd.C_drew ?_)))
     (case side2 => exact HC1.out)
     rintro e w105 ⟨v309, rfl, ho0, hb⟩
     refine ⟨_, rfl, ?_⟩
     have n0_ := Qa.mk (Kd.Qd1 (by (with_reducible repeat (first | apply Kd.Qq | apply Kd.Qr | apply Kd.Qo)); exact HO_7.out) hb)
     have n1_ := Qa.mk (Kd.R_lower ho0 (Qb1 (by with_reducible repeat (first | exact HB.out | apply Qk | apply Ql | apply Qj | refine Qi ?_ GE266.out))))
     have n2_ := Qa.mk (Qs (g := gb266) (o := .cells #[.slice A0_0 l0_0.length c0_0, .slice A0_1 l0_1.length c0_1] 25 (0, 0)) (by (with_reducible repeat (first | refine Qd ?_ _ | refine Qb ?_ | refine Qc ?_ _)); exact BK266.out) hb)
     have n3_ := Qa.mk (Qv (by with_reducible repeat (first | exact HB.out | apply Qk | apply Ql | apply Qj | refine Qi ?_ GE266.out)) hb)
     clear HO_7
     clear BK266
     clear HB
     have HO_7 := n0_
     have HO310 := n1_
     have BK266 := n2_
     have HB := n3_
     clear n0_ n1_ n2_ n3_
     (try clear hb; try clear hb2; try clear hk; try clear hi; try clear ho0)
     obtain ⟨Ao106, co106, eo106⟩ := Kd.R_slice HO310.out
     (first | subst eo106 | (injection eo106 with f1_ f2_ f3_; have f4_ := f1_.symm; have f5_ := f3_.symm; clear f1_ f2_ f3_; subst f4_; subst f5_))
     refine hK.out _ _ ⟨(Qe BK266.out 0).trans rfl, (Qe BK266.out 1).trans rfl⟩ (fun hHeld => ?_)
     clear hK K
     refine norm_ (a' := ?_) ?_ ?_
     rotate_left
     ·
      show Act.put _ (some 83) _ = _
      simp only [Act.put, List.setIfInBounds_toArray, List.set_cons_zero, List.set_cons_succ, i64_w, i32_w]
      rfl
     refine one_ (i := 3) (N := some 84) #[J, J, J, J, Y, Y] rfl rfl (by kernel_rfl) (by decide) (fun K hK => ?_)
     refine goes_ Try.func15 (by kernel_rfl) rfl #[.agg #[.slice A0_0 l0_0.length c0_0, .slice A0_1 l0_1.length c0_1], .slice Ao106 t308.length co106] (by rfl) rfl rfl (by (try simp only [List.map_toArray, List.map_cons, List.map_nil]); first | done | rfl | (simp only [List.length_drop, List.length_take]; rfl)) ?_
     with_reducible refine (flow_Step.calls k2 _ _ l0_0 _ _ l0_1 _ _ t308 t311 _ ?side1 ?side2 ?side3 ?side4 ?side5 ?side6 A71.out).mono ?_
     (case side1 => repeat (first | exact (Kd.C_below HR0_0.out HB.out) | (with_reducible refine Kd.Qf1 ?_ _) | (with_reducible refine Kd.Qe1 ?_ _) | (with_reducible refine Kd.C_drew ?_)))
     (case side2 => exact HC0_0.out)
     (case side3 => repeat (first | exact (Kd.C_below HR0_1.out HB.out) | (with_reducible refine Kd.Qf1 ?_ _) | (with_reducible refine Kd.Qe1 ?_ _) | (with_reducible refine Kd.C_drew ?_)))
     (case side4 => exact HC0_1.out)
     (case side5 => repeat (first | exact (Kd.R_reads' HO310.out).2.2 | (with_reducible refine Kd.Qf1 ?_ _) | (with_reducible refine Kd.Qe1 ?_ _) | (with_reducible refine Kd.C_drew ?_)))
     (case side6 => exact (Kd.R_reads' HO310.out).2.1)
     rintro e w107 ⟨v312, rfl, ho0, hb⟩
     refine ⟨_, rfl, ?_⟩
     have n0_ := Qa.mk (Kd.Qd1 (by (with_reducible repeat (first | apply Kd.Qq | apply Kd.Qr | apply Kd.Qo)); exact HO_7.out) hb)
     have n1_ := Qa.mk (Kd.R_elder' (by (with_reducible repeat (first | apply Kd.Qq | apply Kd.Qr | apply Kd.Qo)); exact HO310.out) (Kd.R_base ho0) hb)
     have n2_ := Qa.mk (Kd.R_lower (Kd.R_new' ho0 (Kd.R_lt (by (with_reducible repeat (first | apply Kd.Qq | apply Kd.Qr | apply Kd.Qo)); exact HO310.out))) (Qb1 (by with_reducible repeat (first | exact HB.out | apply Qk | apply Ql | apply Qj | refine Qi ?_ GE266.out))))
     have n3_ := Qa.mk (Qs (g := gb266) (o := .cells #[.slice A0_0 l0_0.length c0_0, .slice A0_1 l0_1.length c0_1] 25 (0, 0)) (by (with_reducible repeat (first | refine Qd ?_ _ | refine Qb ?_ | refine Qc ?_ _)); exact BK266.out) hb)
     have n4_ := Qa.mk (Qv (by with_reducible repeat (first | exact HB.out | apply Qk | apply Ql | apply Qj | refine Qi ?_ GE266.out)) hb)
     clear HO_7
     clear HO310
     clear BK266
     clear HB
     have HO_7 := n0_
     have HO310 := n1_
     have HO313 := n2_
     have BK266 := n3_
     have HB := n4_
     clear n0_ n1_ n2_ n3_ n4_
     (try clear hb; try clear hb2; try clear hk; try clear hi; try clear ho0)
     obtain ⟨Ao108, co108, eo108⟩ := Kd.R_slice HO313.out
     (first | subst eo108 | (injection eo108 with f1_ f2_ f3_; have f4_ := f1_.symm; have f5_ := f3_.symm; clear f1_ f2_ f3_; subst f4_; subst f5_))
     refine hK.out _ _ ⟨(Qe BK266.out 0).trans rfl, (Qe BK266.out 1).trans rfl⟩ (fun hHeld => ?_)
     clear hK K
     refine norm_ (a' := ?_) ?_ ?_
     rotate_left
     ·
      show Act.put _ (some 84) _ = _
      simp only [Act.put, List.setIfInBounds_toArray, List.set_cons_zero, List.set_cons_succ, i64_w, i32_w]
      rfl
     refine one_ (i := 4) (N := some 85) #[J, J, J, J, J, Y] rfl rfl (by kernel_rfl) (by decide) (fun K hK => ?_)
     refine goes_ Try.func12 (by kernel_rfl) rfl #[.slice Ao108 t311.length co108] (by rfl) rfl rfl (by (try simp only [List.map_toArray, List.map_cons, List.map_nil]); first | done | rfl | (simp only [List.length_drop, List.length_take]; rfl)) ?_
     with_reducible refine (Qn1.calls k2 _ _ t311 t314 _ ?side1 ?side2 A72.out).mono ?_
     (case side1 => repeat (first | exact (Kd.R_reads' HO313.out).2.2 | (with_reducible refine Kd.Qf1 ?_ _) | (with_reducible refine Kd.Qe1 ?_ _) | (with_reducible refine Kd.C_drew ?_)))
     (case side2 => exact (Kd.R_reads' HO313.out).2.1)
     rintro e w109 ⟨v315, rfl, ho0, hb⟩
     refine ⟨_, rfl, ?_⟩
     have n0_ := Qa.mk (Kd.R_elder' (by (with_reducible repeat (first | apply Kd.Qq | apply Kd.Qr | apply Kd.Qo)); exact HO_7.out) (Kd.R_base ho0) hb)
     have n1_ := Qa.mk (Kd.Qd1 (by (with_reducible repeat (first | apply Kd.Qq | apply Kd.Qr | apply Kd.Qo)); exact HO310.out) hb)
     have n2_ := Qa.mk (Kd.Qd1 (by (with_reducible repeat (first | apply Kd.Qq | apply Kd.Qr | apply Kd.Qo)); exact HO313.out) hb)
     have n3_ := Qa.mk (Kd.R_lower (Kd.R_new' ho0 (Kd.R_lt (by (with_reducible repeat (first | apply Kd.Qq | apply Kd.Qr | apply Kd.Qo)); exact HO_7.out))) (Qb1 (by with_reducible repeat (first | exact HB.out | apply Qk | apply Ql | apply Qj | refine Qi ?_ GE266.out))))
     have n4_ := Qa.mk (Qs (g := gb266) (o := .cells #[.slice A0_0 l0_0.length c0_0, .slice A0_1 l0_1.length c0_1] 25 (0, 0)) (by (with_reducible repeat (first | refine Qd ?_ _ | refine Qb ?_ | refine Qc ?_ _)); exact BK266.out) hb)
     have n5_ := Qa.mk (Qv (by with_reducible repeat (first | exact HB.out | apply Qk | apply Ql | apply Qj | refine Qi ?_ GE266.out)) hb)
     clear HO_7
     clear HO310
     clear HO313
     clear BK266
     clear HB
     have HO_7 := n0_
     have HO310 := n1_
     have HO313 := n2_
     have HO316 := n3_
     have BK266 := n4_
     have HB := n5_
     clear n0_ n1_ n2_ n3_ n4_ n5_
     (try clear hb; try clear hb2; try clear hk; try clear hi; try clear ho0)
     refine hK.out _ _ ⟨(Qe BK266.out 0).trans rfl, (Qe BK266.out 1).trans rfl⟩ (fun hHeld => ?_)
     clear hK K
     refine norm_ (a' := ?_) ?_ ?_
     rotate_left
     ·
      show Act.put _ (some 85) _ = _
      simp only [Act.put, List.setIfInBounds_toArray, List.set_cons_zero, List.set_cons_succ, i64_w, i32_w]
      rfl
     refine pure_ (i := 5) (N := some 9) (v := ?_) (a' := ?_) #[J, J, J, J, J, J] rfl rfl (by kernel_rfl) (fun _ _ _ h => h) (Or.inl ⟨by rfl, ?_⟩) ?_ ?_
     rotate_left
     ·
      intro w'
      go_simp
      with_reducible rfl
     rotate_left
     ·
      simp only [Act.put, List.setIfInBounds_toArray, List.set_cons_zero, List.set_cons_succ, i64_w, i32_w]
      rfl
     refine done_ (by kernel_rfl) ?_
     try go_wp2
     have n0_ := Qa.mk (Kd.Qo HO_7.out)
     have n1_ := Qa.mk (Kd.Qo HO310.out)
     have n2_ := Qa.mk (Kd.Qo HO313.out)
     have n3_ := Qa.mk (Kd.Qo HO316.out)
     have n4_ := Qa.mk (Qb BK266.out)
     have n5_ := Qa.mk (Qj HB.out)
     clear HO_7
     clear HO310
     clear HO313
     clear HO316
     clear BK266
     clear HB
     have HO_7 := n0_
     have HO310 := n1_
     have HO313 := n2_
     have HO316 := n3_
     have BK266 := n4_
     have HB := n5_
     clear n0_ n1_ n2_ n3_ n4_ n5_
     obtain ⟨Ao111, co111, eo111⟩ := Kd.R_slice HO_7.out
     (first | subst eo111 | (injection eo111 with f1_ f2_ f3_; have f4_ := f1_.symm; have f5_ := f3_.symm; clear f1_ f2_ f3_; subst f4_; subst f5_))
     refine start_ (n := 6) (S := fun w' => w'.cell? ⟨gb266, 0, none⟩ = some (.slice A0_0 l0_0.length c0_0) ∧ w'.cell? ⟨gb266, 1, none⟩ = some (.slice A0_1 l0_1.length c0_1)) (ds := []) #[Y, Y, Y, Y, Y, Y] (by kernel_rfl) rfl rfl ⟨(Qe BK266.out 0).trans rfl, (Qe BK266.out 1).trans rfl⟩ (fun hHeld => ?_)
     generalize w109.drew = w110 at HO_7 HO310 HO313 HO316 BK266 HB hHeld ⊢
     refine pure_ (i := 1) (N := some 87) (v := ?_) (a' := ?_) #[Y, J, Y, Y, Y, Y] rfl rfl (by kernel_rfl) (fun _ _ _ h => h) (Or.inl ⟨by rfl, ?_⟩) ?_ ?_
     rotate_left
     ·
      intro w'
      go_simp
      with_reducible rfl
     rotate_left
     ·
      simp only [Act.put, List.setIfInBounds_toArray, List.set_cons_zero, List.set_cons_succ, i64_w, i32_w]
      rfl
     refine take_ (i := 0) (N := some 86) (v := ?_) (a' := ?_) #[J, J, Y, Y, Y, Y] rfl rfl (by kernel_rfl) (fun _ _ _ h => h) (Or.inl ⟨by rfl, ?_⟩) hHeld ?_ ?_
     rotate_left
     ·
      rintro w' ⟨s0, s1⟩
      go_simp
      with_reducible rfl
     rotate_left
     ·
      simp only [Act.put, List.setIfInBounds_toArray, List.set_cons_zero, List.set_cons_succ, i64_w, i32_w]
      rfl
     refine one_ (i := 2) (N := some 88) #[J, J, J, Y, Y, Y] rfl rfl (by kernel_rfl) (by decide) (fun K hK => ?_)
     refine goes_ Try.func16 (by kernel_rfl) rfl #[.slice Ao111 x7_2.length co111] (by rfl) rfl rfl (by (try simp only [List.map_toArray, List.map_cons, List.map_nil]); first | done | rfl | (simp only [List.length_drop, List.length_take]; rfl)) ?_
     with_reducible refine (Qr1.calls k2 _ _ x7_2 t317 _ ?side1 ?side2 A73.out).mono ?_
     (case side1 => repeat (first | exact (Kd.R_reads' HO_7.out).2.2 | (with_reducible refine Kd.Qf1 ?_ _) | (with_reducible refine Kd.Qe1 ?_ _) | (with_reducible refine Kd.C_drew ?_)))
     (case side2 => exact (Kd.R_reads' HO_7.out).2.1)
     rintro e w112 ⟨v318, rfl, ho0, hb⟩
     refine ⟨_, rfl, ?_⟩
     have n0_ := Qa.mk (Kd.Qd1 (by (with_reducible repeat (first | apply Kd.Qq | apply Kd.Qr | apply Kd.Qo)); exact HO_7.out) hb)
     have n1_ := Qa.mk (Kd.R_elder' (by (with_reducible repeat (first | apply Kd.Qq | apply Kd.Qr | apply Kd.Qo)); exact HO310.out) (Kd.R_base ho0) hb)
     have n2_ := Qa.mk (Kd.R_elder' (by (with_reducible repeat (first | apply Kd.Qq | apply Kd.Qr | apply Kd.Qo)); exact HO313.out) (Kd.R_base ho0) hb)
     have n3_ := Qa.mk (Kd.Qd1 (by (with_reducible repeat (first | apply Kd.Qq | apply Kd.Qr | apply Kd.Qo)); exact HO316.out) hb)
     have n4_ := Qa.mk (Kd.R_lower (Kd.R_new' (Kd.R_new' ho0 (Kd.R_lt (by (with_reducible repeat (first | apply Kd.Qq | apply Kd.Qr | apply Kd.Qo)); exact HO310.out))) (Kd.R_lt (by (with_reducible repeat (first | apply Kd.Qq | apply Kd.Qr | apply Kd.Qo)); exact HO313.out))) (Qb1 (by with_reducible repeat (first | exact HB.out | apply Qk | apply Ql | apply Qj | refine Qi ?_ GE266.out))))
     have n5_ := Qa.mk (Qs (g := gb266) (o := .cells #[.slice A0_0 l0_0.length c0_0, .slice A0_1 l0_1.length c0_1] 25 (0, 0)) (by (with_reducible repeat (first | refine Qd ?_ _ | refine Qb ?_ | refine Qc ?_ _)); exact BK266.out) hb)
     have n6_ := Qa.mk (Qv (by with_reducible repeat (first | exact HB.out | apply Qk | apply Ql | apply Qj | refine Qi ?_ GE266.out)) hb)
     clear HO_7
     clear HO310
     clear HO313
     clear HO316
     clear BK266
     clear HB
     have HO_7 := n0_
     have HO310 := n1_
     have HO313 := n2_
     have HO316 := n3_
     have HO319 := n4_
     have BK266 := n5_
     have HB := n6_
     clear n0_ n1_ n2_ n3_ n4_ n5_ n6_
     (try clear hb; try clear hb2; try clear hk; try clear hi; try clear ho0)
     obtain ⟨Ao113, co113, eo113⟩ := Kd.R_slice HO319.out
     (first | subst eo113 | (injection eo113 with f1_ f2_ f3_; have f4_ := f1_.symm; have f5_ := f3_.symm; clear f1_ f2_ f3_; subst f4_; subst f5_))
     refine hK.out _ _ ⟨(Qe BK266.out 0).trans rfl, (Qe BK266.out 1).trans rfl⟩ (fun hHeld => ?_)
     clear hK K
     refine norm_ (a' := ?_) ?_ ?_
     rotate_left
     ·
      show Act.put _ (some 88) _ = _
      simp only [Act.put, List.setIfInBounds_toArray, List.set_cons_zero, List.set_cons_succ, i64_w, i32_w]
      rfl
     refine one_ (i := 3) (N := some 89) #[J, J, J, J, Y, Y] rfl rfl (by kernel_rfl) (by decide) (fun K hK => ?_)
     refine goes_ Try.func15 (by kernel_rfl) rfl #[.agg #[.slice A0_0 l0_0.length c0_0, .slice A0_1 l0_1.length c0_1], .slice Ao113 t317.length co113] (by rfl) rfl rfl (by (try simp only [List.map_toArray, List.map_cons, List.map_nil]); first | done | rfl | (simp only [List.length_drop, List.length_take]; rfl)) ?_
     with_reducible refine (flow_Step.calls k2 _ _ l0_0 _ _ l0_1 _ _ t317 t320 _ ?side1 ?side2 ?side3 ?side4 ?side5 ?side6 A74.out).mono ?_
     (case side1 => repeat (first | exact (Kd.C_below HR0_0.out HB.out) | (with_reducible refine Kd.Qf1 ?_ _) | (with_reducible refine Kd.Qe1 ?_ _) | (with_reducible refine Kd.C_drew ?_)))
     (case side2 => exact HC0_0.out)
     (case side3 => repeat (first | exact (Kd.C_below HR0_1.out HB.out) | (with_reducible refine Kd.Qf1 ?_ _) | (with_reducible refine Kd.Qe1 ?_ _) | (with_reducible refine Kd.C_drew ?_)))
     (case side4 => exact HC0_1.out)
     (case side5 => repeat (first | exact (Kd.R_reads' HO319.out).2.2 | (with_reducible refine Kd.Qf1 ?_ _) | (with_reducible refine Kd.Qe1 ?_ _) | (with_reducible refine Kd.C_drew ?_)))
     (case side6 => exact (Kd.R_reads' HO319.out).2.1)
     rintro e w114 ⟨v321, rfl, ho0, hb⟩
     refine ⟨_, rfl, ?_⟩
     have n0_ := Qa.mk (Kd.Qd1 (by (with_reducible repeat (first | apply Kd.Qq | apply Kd.Qr | apply Kd.Qo)); exact HO_7.out) hb)
     have n1_ := Qa.mk (Kd.R_elder' (by (with_reducible repeat (first | apply Kd.Qq | apply Kd.Qr | apply Kd.Qo)); exact HO310.out) (Kd.R_base ho0) hb)
     have n2_ := Qa.mk (Kd.R_elder' (by (with_reducible repeat (first | apply Kd.Qq | apply Kd.Qr | apply Kd.Qo)); exact HO313.out) (Kd.R_base ho0) hb)
     have n3_ := Qa.mk (Kd.Qd1 (by (with_reducible repeat (first | apply Kd.Qq | apply Kd.Qr | apply Kd.Qo)); exact HO316.out) hb)
     have n4_ := Qa.mk (Kd.R_elder' (by (with_reducible repeat (first | apply Kd.Qq | apply Kd.Qr | apply Kd.Qo)); exact HO319.out) (Kd.R_base ho0) hb)
     have n5_ := Qa.mk (Kd.R_lower (Kd.R_new' (Kd.R_new' (Kd.R_new' ho0 (Kd.R_lt (by (with_reducible repeat (first | apply Kd.Qq | apply Kd.Qr | apply Kd.Qo)); exact HO310.out))) (Kd.R_lt (by (with_reducible repeat (first | apply Kd.Qq | apply Kd.Qr | apply Kd.Qo)); exact HO313.out))) (Kd.R_lt (by (with_reducible repeat (first | apply Kd.Qq | apply Kd.Qr | apply Kd.Qo)); exact HO319.out))) (Qb1 (by with_reducible repeat (first | exact HB.out | apply Qk | apply Ql | apply Qj | refine Qi ?_ GE266.out))))
     have n6_ := Qa.mk (Qs (g := gb266) (o := .cells #[.slice A0_0 l0_0.length c0_0, .slice A0_1 l0_1.length c0_1] 25 (0, 0)) (by (with_reducible repeat (first | refine Qd ?_ _ | refine Qb ?_ | refine Qc ?_ _)); exact BK266.out) hb)
     have n7_ := Qa.mk (Qv (by with_reducible repeat (first | exact HB.out | apply Qk | apply Ql | apply Qj | refine Qi ?_ GE266.out)) hb)
     clear HO_7
     clear HO310
     clear HO313
     clear HO316
     clear HO319
     clear BK266
     clear HB
     have HO_7 := n0_
     have HO310 := n1_
     have HO313 := n2_
     have HO316 := n3_
     have HO319 := n4_
     have HO322 := n5_
     have BK266 := n6_
     have HB := n7_
     clear n0_ n1_ n2_ n3_ n4_ n5_ n6_ n7_
     (try clear hb; try clear hb2; try clear hk; try clear hi; try clear ho0)
     obtain ⟨Ao115, co115, eo115⟩ := Kd.R_slice HO322.out
     (first | subst eo115 | (injection eo115 with f1_ f2_ f3_; have f4_ := f1_.symm; have f5_ := f3_.symm; clear f1_ f2_ f3_; subst f4_; subst f5_))
     refine hK.out _ _ ⟨(Qe BK266.out 0).trans rfl, (Qe BK266.out 1).trans rfl⟩ (fun hHeld => ?_)
     clear hK K
     refine norm_ (a' := ?_) ?_ ?_
     rotate_left
     ·
      show Act.put _ (some 89) _ = _
      simp only [Act.put, List.setIfInBounds_toArray, List.set_cons_zero, List.set_cons_succ, i64_w, i32_w]
      rfl
     refine one_ (i := 4) (N := some 90) #[J, J, J, J, J, Y] rfl rfl (by kernel_rfl) (by decide) (fun K hK => ?_)
     refine goes_ Try.func12 (by kernel_rfl) rfl #[.slice Ao115 t320.length co115] (by rfl) rfl rfl (by (try simp only [List.map_toArray, List.map_cons, List.map_nil]); first | done | rfl | (simp only [List.length_drop, List.length_take]; rfl)) ?_
     with_reducible refine (Qn1.calls k2 _ _ t320 t323 _ ?side1 ?side2 A75.out).mono ?_
     (case side1 => repeat (first | exact (Kd.R_reads' HO322.out).2.2 | (with_reducible refine Kd.Qf1 ?_ _) | (with_reducible refine Kd.Qe1 ?_ _) | (with_reducible refine Kd.C_drew ?_)))
     (case side2 => exact (Kd.R_reads' HO322.out).2.1)
     rintro e w116 ⟨v324, rfl, ho0, hb⟩
     refine ⟨_, rfl, ?_⟩
     have n0_ := Qa.mk (Kd.R_elder' (by (with_reducible repeat (first | apply Kd.Qq | apply Kd.Qr | apply Kd.Qo)); exact HO_7.out) (Kd.R_base ho0) hb)
     have n1_ := Qa.mk (Kd.Qd1 (by (with_reducible repeat (first | apply Kd.Qq | apply Kd.Qr | apply Kd.Qo)); exact HO310.out) hb)
     have n2_ := Qa.mk (Kd.Qd1 (by (with_reducible repeat (first | apply Kd.Qq | apply Kd.Qr | apply Kd.Qo)); exact HO313.out) hb)
     have n3_ := Qa.mk (Kd.R_elder' (by (with_reducible repeat (first | apply Kd.Qq | apply Kd.Qr | apply Kd.Qo)); exact HO316.out) (Kd.R_base ho0) hb)
     have n4_ := Qa.mk (Kd.Qd1 (by (with_reducible repeat (first | apply Kd.Qq | apply Kd.Qr | apply Kd.Qo)); exact HO319.out) hb)
     have n5_ := Qa.mk (Kd.Qd1 (by (with_reducible repeat (first | apply Kd.Qq | apply Kd.Qr | apply Kd.Qo)); exact HO322.out) hb)
     have n6_ := Qa.mk (Kd.R_lower (Kd.R_new' (Kd.R_new' ho0 (Kd.R_lt (by (with_reducible repeat (first | apply Kd.Qq | apply Kd.Qr | apply Kd.Qo)); exact HO_7.out))) (Kd.R_lt (by (with_reducible repeat (first | apply Kd.Qq | apply Kd.Qr | apply Kd.Qo)); exact HO316.out))) (Qb1 (by with_reducible repeat (first | exact HB.out | apply Qk | apply Ql | apply Qj | refine Qi ?_ GE266.out))))
     have n7_ := Qa.mk (Qs (g := gb266) (o := .cells #[.slice A0_0 l0_0.length c0_0, .slice A0_1 l0_1.length c0_1] 25 (0, 0)) (by (with_reducible repeat (first | refine Qd ?_ _ | refine Qb ?_ | refine Qc ?_ _)); exact BK266.out) hb)
     have n8_ := Qa.mk (Qv (by with_reducible repeat (first | exact HB.out | apply Qk | apply Ql | apply Qj | refine Qi ?_ GE266.out)) hb)
     clear HO_7
     clear HO310
     clear HO313
     clear HO316
     clear HO319
     clear HO322
     clear BK266
     clear HB
     have HO_7 := n0_
     have HO310 := n1_
     have HO313 := n2_
     have HO316 := n3_
     have HO319 := n4_
     have HO322 := n5_
     have HO325 := n6_
     have BK266 := n7_
     have HB := n8_
     clear n0_ n1_ n2_ n3_ n4_ n5_ n6_ n7_ n8_
     (try clear hb; try clear hb2; try clear hk; try clear hi; try clear ho0)
     refine hK.out _ _ ⟨(Qe BK266.out 0).trans rfl, (Qe BK266.out 1).trans rfl⟩ (fun hHeld => ?_)
     clear hK K
     refine norm_ (a' := ?_) ?_ ?_
     rotate_left
     ·
      show Act.put _ (some 90) _ = _
      simp only [Act.put, List.setIfInBounds_toArray, List.set_cons_zero, List.set_cons_succ, i64_w, i32_w]
      rfl
     refine pure_ (i := 5) (N := some 10) (v := ?_) (a' := ?_) #[J, J, J, J, J, J] rfl rfl (by kernel_rfl) (fun _ _ _ h => h) (Or.inl ⟨by rfl, ?_⟩) ?_ ?_
     rotate_left
     ·
      intro w'
      go_simp
      with_reducible rfl
     rotate_left
     ·
      simp only [Act.put, List.setIfInBounds_toArray, List.set_cons_zero, List.set_cons_succ, i64_w, i32_w]
      rfl
     refine done_ (by kernel_rfl) ?_
     obtain ⟨Ao117, co117, eo117⟩ := Kd.R_slice HO316.out
     subst eo117
     obtain ⟨Ao118, co118, eo118⟩ := Kd.R_slice HO325.out
     subst eo118
     try go_wp2_with (first | ((with_reducible refine gate_callee (f := 18) rfl ?_); refine goesL_ (some 93) rfl rfl Try.func18 (by kernel_rfl) rfl #[.slice Ao117 t314.length co117, .slice Ao118 t323.length co118] rfl (by (try simp only [List.map_toArray, List.map_cons, List.map_nil]); first | done | rfl | (simp only [List.length_drop, List.length_take]; rfl)) ?_; (with_reducible refine (Qu.calls k2 _ _ t314 _ _ t323 false _ ?side1 ?side2 ?side3 ?side4 A76.out).mono ?_); (case side1 => repeat (first | exact (Kd.R_reads' HO316.out).2.2 | (with_reducible refine Kd.Qf1 ?_ _) | (with_reducible refine Kd.Qe1 ?_ _) | (with_reducible refine Kd.C_drew ?_))); (case side2 => exact (Kd.R_reads' HO316.out).2.1); (case side3 => repeat (first | exact (Kd.R_reads' HO325.out).2.2 | (with_reducible refine Kd.Qf1 ?_ _) | (with_reducible refine Kd.Qe1 ?_ _) | (with_reducible refine Kd.C_drew ?_))); (case side4 => exact (Kd.R_reads' HO325.out).2.1); rintro e w' ⟨rfl, ⟨nd, rfl⟩⟩; refine ⟨_, rfl, ?_⟩))
     go_ret
     exact ⟨by first | rfl | (simp [Qw, Qx] <;> rfl) | (simp [*, Qw, Qx] <;> rfl), by with_reducible repeat (first | exact HB.out | apply Qk | apply Ql | apply Qj | refine Qi ?_ GE266.out)⟩
end Go.Proofs.Ytnaanamibfpbpaa.V
namespace Go.Proofs.Ytnaanamibfpbpaa.V
open Go.RowKit Go.Proofs.YtnaanamibfpbpaaW.PrintWords
set_option linter.unusedVariables false
set_option linter.unusedSimpArgs false
set_option linter.unusedSectionVars false
theorem few_ev (R : List RuleT) (G : List NodeT) (hR : R.length ≤ maxLen) (hG : G.length ≤ maxLen) : ∃ v, Ev (fun k => Qp1.f k R G) v ∧ (v = true → R.length ≤ 30 ∧ G.length ≤ 300 ∧ ∀ i : Int, 0 ≤ i → i < (G.length : Int) → (nodeAt G i).f1.length ≤ 60) := by
  have hG' : G.length ≤ 9223372036854775807 := hG
  have hR' : R.length ≤ 9223372036854775807 := hR
  have l1 : ∀ (n : Nat) (i : Int), 0 ≤ i → i.toNat + n = G.length → (∀ p : Int, 0 ≤ p → p < i → (nodeAt G p).f1.length ≤ 60) → ∃ v, Ev (fun k => Qp1.l1 k i R G) v ∧ (v = true → R.length ≤ 30 ∧ G.length ≤ 300 ∧ ∀ i : Int, 0 ≤ i → i < (G.length : Int) → (nodeAt G i).f1.length ≤ 60) := by
    intro n
    induction n with
    | zero =>
      intro i h0 hn hp
      by_cases c : (R.length : Int) ≤ 30
      · exact ⟨_, Ev.succ (g := fun _ => some (decide ((G.length : Int) ≤ 300))) (fun k => by rw [Qp1.l1, if_neg (by omega), if_pos c]) (Ev.const _), fun h => ⟨by omega, by have := of_decide_eq_true h; omega, fun p h1 h2 => hp p h1 (by omega)⟩⟩
      · exact ⟨false, Ev.succ (g := fun _ => some false) (fun k => by rw [Qp1.l1, if_neg (by omega), if_neg c]) (Ev.const _), fun h => absurd h (by decide)⟩
    | succ n ih =>
      intro i h0 hn hp
      by_cases c : (((nodeAt G i).f1).length : Int) > 60
      · exact ⟨false, Ev.succ (g := fun _ => some false) (fun k => by rw [Qp1.l1, if_pos (by omega), if_pos h0, if_pos c]) (Ev.const _), fun h => absurd h (by decide)⟩
      · obtain ⟨v, hv, hs⟩ := ih (i + 1) (by omega) (by omega) (fun p h1 h2 => by
          by_cases e : p = i
          · subst e; omega
          · exact hp p h1 (by omega))
        refine ⟨v, Ev.succ (fun k => by rw [Qp1.l1, if_pos (by omega), if_pos h0, if_neg c]) ?_, hs⟩
        rw [w64p _ (by omega)]
        exact hv
  have l0 : ∀ (n : Nat) (i : Int), 0 ≤ i → i.toNat + n = R.length → ∃ v, Ev (fun k => Qp1.l0 k i R G) v ∧ (v = true → R.length ≤ 30 ∧ G.length ≤ 300 ∧ ∀ i : Int, 0 ≤ i → i < (G.length : Int) → (nodeAt G i).f1.length ≤ 60) := by
    intro n
    induction n with
    | zero =>
      intro i h0 hn
      obtain ⟨v, hv, hs⟩ := l1 G.length 0 (Int.le_refl _) (by simp) (fun p h1 h2 => absurd h2 (by omega))
      exact ⟨v, Ev.succ (fun k => by rw [Qp1.l0, if_neg (by omega)]) hv, hs⟩
    | succ n ih =>
      intro i h0 hn
      by_cases c : (((ruleAt R i).f0).size : Int) > 100
      · exact ⟨false, Ev.succ (g := fun _ => some false) (fun k => by rw [Qp1.l0, if_pos (by omega), if_pos h0, if_pos c]) (Ev.const _), fun h => absurd h (by decide)⟩
      · obtain ⟨v, hv, hs⟩ := ih (i + 1) (by omega) (by omega)
        refine ⟨v, Ev.succ (fun k => by rw [Qp1.l0, if_pos (by omega), if_pos h0, if_neg c]) ?_, hs⟩
        rw [w64p _ (by omega)]
        exact hv
  obtain ⟨v, hv, hs⟩ := l0 R.length 0 (Int.le_refl _) (by simp)
  exact ⟨v, hv, hs⟩
structure Small (R : List RuleT) (G : List NodeT) : Prop where
  wf : WF R G
  rules : R.length ≤ 30
  nodes : G.length ≤ 300
  kids : ∀ i : Int, 0 ≤ i → i < (G.length : Int) → (nodeAt G i).f1.length ≤ 60
theorem small_ev {R : List RuleT} {G : List NodeT} (hR : R.length ≤ maxLen ∧ ∀ y ∈ R, Ok39 y) (hG : G.length ≤ maxLen ∧ ∀ y ∈ G, Ok53 y) : ∃ v, Ev (fun k => vetchref05_Small.f k R G) v ∧ (v = true → Small R G) := by
  obtain ⟨b, hb, hbs⟩ := few_ev R G hR.1 hG.1
  cases b with
  | false => exact ⟨false, Ev.bind hb (Ev.of_eq fun _ => if_neg (by decide)), fun h => absurd h (by decide)⟩
  | true =>
    obtain ⟨v, hv, hs⟩ := valid_ev R G hR hG
    exact ⟨v, Ev.bind hb (Ev.congr (fun k => if_pos rfl) (Ev.bind hv (Ev.const _))), fun h => ⟨hs h, (hbs rfl).1, (hbs rfl).2.1, (hbs rfl).2.2⟩⟩
end Go.Proofs.Ytnaanamibfpbpaa.V
namespace Go.Proofs.Ytnaanamibfpbpaa.V
open Go.RowKit Go.Proofs.YtnaanamibfpbpaaW.PrintWords
set_option linter.unusedVariables false
set_option linter.unusedSimpArgs false
set_option linter.unusedSectionVars false
theorem at_ofR (l : List FactT) (i : Int) : flowAt (l.map ofR) i = ofR (Qz l i) := by
  show (l.map ofR).getD i.toNat _ = ofR (l.getD i.toNat _)
  rw [List.getD_eq_getElem?_getD, List.getD_eq_getElem?_getD, List.getElem?_map]
  cases l[i.toNat]? <;> rfl
theorem map_toR_ofR (l : List FactT) : (l.map ofR).map toR = l := by
  rw [List.map_map, show toR ∘ ofR = id from rfl, List.map_id]
theorem take_map_succ {α β : Type} (f : α → β) (g : Int → α) (l : List α) (j : Nat) (h : j < l.length) (hg : g (j : Int) = l[j]) : (l.take (j + 1)).map f = (l.take j).map f ++ [f (g (j : Int))] := by
  rw [List.take_succ_eq_append_getElem h, List.map_append, hg]
  rfl
theorem back_ev (O : List FlowT) (hO : O.length ≤ 1000000) : Ev (fun k => Qn1.f k O) (O.map toR) := by
  have l0 : ∀ (d j : Nat), j + d = O.length → Ev (fun k => Qn1.l0 k O ((O.take j).map toR) (j : Int)) (O.map toR) := by
    intro d
    induction d with
    | zero =>
      intro j hj
      rw [List.take_of_length_le (by omega)]
      exact Ev.succ (g := fun _ => some _) (fun k => by rw [Qn1.l0, if_neg (by omega)]) (Ev.const _)
    | succ d ih =>
      intro j hj
      have hjl : j < O.length := by omega
      have hl : ((O.take j).map toR).length < 46912496118442 := by simp; omega
      refine Ev.succ (fun k => by rw [Qn1.l0, if_pos (by omega), if_pos (by omega), if_pos hl, w64p _ (by omega), show (j : Int) + 1 = ((j + 1 : Nat) : Int) by omega]) ?_
      have := ih (j + 1) (by omega)
      rw [take_map_succ toR (flowAt O) O j hjl (by show O.getD ((j : Int).toNat) _ = _; rw [List.getD_eq_getElem?_getD, Int.toNat_natCast, List.getElem?_eq_getElem hjl]; rfl)] at this
      exact this
  exact l0 O.length 0 (by omega)
theorem facts_ev (L : List FactT) (hL : L.length ≤ 1000000) : Ev (fun k => Qr1.f k L) (L.map ofR) := by
  have l0 : ∀ (d j : Nat), j + d = L.length → Ev (fun k => Qr1.l0 k L ((L.take j).map ofR) (j : Int)) (L.map ofR) := by
    intro d
    induction d with
    | zero =>
      intro j hj
      rw [List.take_of_length_le (by omega)]
      exact Ev.succ (g := fun _ => some _) (fun k => by rw [Qr1.l0, if_neg (by omega)]) (Ev.const _)
    | succ d ih =>
      intro j hj
      have hjl : j < L.length := by omega
      have hl : ((L.take j).map ofR).length < 46912496118442 := by simp; omega
      refine Ev.succ (fun k => by rw [Qr1.l0, if_pos (by omega), if_pos (by omega), if_pos hl, w64p _ (by omega), show (j : Int) + 1 = ((j + 1 : Nat) : Int) by omega]) ?_
      have := ih (j + 1) (by omega)
      rw [take_map_succ ofR (Qz L) L j hjl (by show L.getD ((j : Int).toNat) _ = _; rw [List.getD_eq_getElem?_getD, Int.toNat_natCast, List.getElem?_eq_getElem hjl]; rfl)] at this
      exact this
  exact l0 L.length 0 (by omega)
theorem within_ev (a b : List FactT) (hl : a.length = b.length) (ha : a.length ≤ 1000000) : ∃ v, Ev (fun k => Qu.f k a b) v ∧ (v = true ↔ ∀ i : Int, FLe (Qz a i) (Qz b i)) := by
  have l0 : ∀ (d j : Nat), j + d = a.length → (∀ i : Int, 0 ≤ i → i < (j : Int) → FLe (Qz a i) (Qz b i)) → ∃ v, Ev (fun k => Qu.l0 k a b (j : Int)) v ∧ (v = true ↔ ∀ i : Int, FLe (Qz a i) (Qz b i)) := by
    intro d
    induction d with
    | zero =>
      intro j hj hp
      refine ⟨true, Ev.succ (g := fun k => Qu.j1 k a b (j : Int) false) (fun k => by rw [Qu.l0, if_neg (by omega)]) (Ev.succ (g := fun _ => some true) (fun k => by rw [Qu.j1, if_neg (by decide), hl]; simp) (Ev.const _)), fun _ i => ?_, fun _ => rfl⟩
      by_cases h : (i.toNat : Int) < (a.length : Int)
      · rw [fact_neg, fact_neg b]
        exact hp _ (by omega) (by omega)
      · rw [fact_out a i (by omega)]
        exact ⟨fun h => absurd h (by decide), fun h => absurd h (by decide), fun h => absurd h (by decide)⟩
    | succ d ih =>
      intro j hj hp
      have e1 : ∀ k, Qu.l0 (k + 2) a b (j : Int) = Qu.j1 (k + 1) a b (j : Int) true := fun k => by
        rw [Qu.l0, if_pos (by omega), decide_eq_true (show (j : Int) < (b.length : Int) by omega)]
      by_cases hle : FLe (Qz a (j : Int)) (Qz b (j : Int))
      · obtain ⟨v, hv, hs⟩ := ih (j + 1) (by omega) (fun i h0 h1 => by
          by_cases e : i = (j : Int)
          · subst e; exact hle
          · exact hp i h0 (by omega))
        refine ⟨v, ?_, hs⟩
        refine Ev.succ (g := fun k => Qu.j1 k a b (j : Int) true) (fun k => by rw [Qu.l0, if_pos (by omega), decide_eq_true (show (j : Int) < (b.length : Int) by omega)]) (Ev.succ (fun k => ?_) hv)
        obtain ⟨g0, g1, g2⟩ := hle
        rw [Qu.j1, if_pos rfl, if_pos (by omega), if_pos (by omega), w64p _ (by omega), show (j : Int) + 1 = ((j + 1 : Nat) : Int) by omega]
        have hb : (j : Int) < (b.length : Int) := by omega
        change (Qz a (j : Int)).f0 = true → (Qp b (j : Int)).f0 = true at g0
        change (Qz a (j : Int)).f1 = true → (Qp b (j : Int)).f1 = true at g1
        change (Qz a (j : Int)).f2 = true → (Qp b (j : Int)).f2 = true at g2
        change (Qp a (j : Int)).f0 = true → _ at g0
        change (Qp a (j : Int)).f1 = true → _ at g1
        change (Qp a (j : Int)).f2 = true → _ at g2
        generalize Qp a (j : Int) = x at g0 g1 g2 ⊢
        generalize Qp b (j : Int) = y at g0 g1 g2 ⊢
        obtain ⟨x0, x1, x2⟩ := x
        obtain ⟨y0, y1, y2⟩ := y
        cases x0 <;> cases x1 <;> cases x2 <;> simp_all
      · refine ⟨false, ?_, fun h => absurd h (by decide), fun h => absurd (h (j : Int)) hle⟩
        refine Ev.succ (g := fun k => Qu.j1 k a b (j : Int) true) (fun k => by rw [Qu.l0, if_pos (by omega), decide_eq_true (show (j : Int) < (b.length : Int) by omega)]) (Ev.succ (g := fun _ => some false) (fun k => ?_) (Ev.const _))
        have hb : (j : Int) < (b.length : Int) := by omega
        rw [Qu.j1, if_pos rfl, if_pos (by omega), if_pos (by omega)]
        change ¬ FLe (Qp a (j : Int)) (Qp b (j : Int)) at hle
        generalize Qp a (j : Int) = x at hle ⊢
        generalize Qp b (j : Int) = y at hle ⊢
        obtain ⟨x0, x1, x2⟩ := x
        obtain ⟨y0, y1, y2⟩ := y
        unfold FLe at hle
        cases x0 <;> cases x1 <;> cases x2 <;> cases y0 <;> cases y1 <;> cases y2 <;> simp_all
  exact l0 a.length 0 (by omega) (fun i h0 h1 => absurd h1 (by omega))
section
variable {R : List RuleT} {G : List NodeT} (hs : Small R G)
include hs
theorem small_fit : fitB R G = true := by
  unfold fitB
  rw [Bool.and_eq_true, decide_eq_true_eq, List.all_eq_true]
  refine ⟨⟨hs.wf.nodes.1, hs.nodes⟩, fun nd hm => ?_⟩
  obtain ⟨i, hi, rfl⟩ := List.getElem_of_mem hm
  have e : nodeAt G (i : Int) = G[i] := by
    show G.getD ((i : Int).toNat) _ = _
    rw [List.getD_eq_getElem?_getD, Int.toNat_natCast, List.getElem?_eq_getElem hi]
    rfl
  rw [← e, fit_iff]
  have hm := hs.wf.made (i : Int) (by omega) (by omega)
  refine ⟨hm.1, hm.2.1, hs.kids _ (by omega) (by omega), fun c hc => by have := hs.wf.kids (i : Int) (by omega) (by omega) c hc; omega, ?_, ?_⟩
  · by_cases c : (nodeAt G (i : Int)).f0 ≤ 4
    · exact .inl c
    · have := hm.2.2.2.2.2.1 (by omega)
      exact .inr (by omega)
  · by_cases c : (nodeAt G (i : Int)).f0 = 2
    · obtain ⟨a, b⟩ := hm.2.2.2.2.2.2.1 c
      have := hs.wf.roots _ a b
      exact .inr ⟨a, b, this.1, this.2⟩
    · exact .inl c
theorem flow_of_ev : Ev (fun k => flow_Of.f k R G) ((leastL R G).map ofR) := ⟨20000, fun j hj => by
  show flow_Of.f j R G = _
  unfold flow_Of.f
  rw [if_pos ⟨small_fit hs, hj⟩]⟩
theorem flow_step_ev (L : List FlowT) (hL : L.length = G.length) : Ev (fun k => flow_Step.f k R G L) ((stepL R G (L.map toR)).map ofR) := by
  have hf := fit_of (small_fit hs)
  have hn := hs.nodes
  have hst : ((stepL R G (L.map toR)).map ofR).length = G.length := by rw [List.length_map, step_length]
  have l0 : ∀ (d j : Nat), j + d = G.length → Ev (fun k => flow_Step.l0 k L (((stepL R G (L.map toR)).map ofR).take j ++ List.replicate d z36) (G.length : Int) (j : Int) R G) ((stepL R G (L.map toR)).map ofR) := by
    intro d
    induction d with
    | zero =>
      intro j hj
      rw [List.take_of_length_le (by omega), List.replicate_zero, List.append_nil]
      exact Ev.succ (g := fun _ => some _) (fun k => by rw [flow_Step.l0, if_neg (by omega)]) (Ev.const _)
    | succ d ih =>
      intro j hj
      have hjl : j < ((stepL R G (L.map toR)).map ofR).length := by omega
      have hnode : Ev (fun k => flow_node.f k R G (j : Int) L) (Ql1.p R (L.map toR) (nodeAt G (j : Int))) := ⟨200, fun k hk => node_val hf L hL (j : Int) (by omega) (by omega) k hk⟩
      have hlen : (((stepL R G (L.map toR)).map ofR).take j ++ List.replicate (d + 1) z36).length = G.length := by rw [List.length_append, List.length_take, List.length_replicate]; omega
      refine Ev.succ (fun k => by rw [flow_Step.l0, if_pos (by omega)]) (Ev.bind hnode (Ev.congr (fun k => by rw [if_pos (by omega), if_pos (by omega), w64p _ (by omega), show (j : Int) + 1 = ((j + 1 : Nat) : Int) by omega]) ?_))
      have := ih (j + 1) (by omega)
      rw [List.take_succ_eq_append_getElem hjl, List.append_assoc] at this
      have e : ((stepL R G (L.map toR)).map ofR)[j] = (⟨(Ql1.p R (L.map toR) (nodeAt G (j : Int))).1, (Ql1.p R (L.map toR) (nodeAt G (j : Int))).2.1, (Ql1.p R (L.map toR) (nodeAt G (j : Int))).2.2⟩ : FlowT) := by
        have h1 := at_ofR (stepL R G (L.map toR)) (j : Int)
        rw [fact_step R G _ (j : Int) (by omega) (by omega)] at h1
        have h2 : flowAt ((stepL R G (L.map toR)).map ofR) (j : Int) = ((stepL R G (L.map toR)).map ofR)[j] := by
          show List.getD _ ((j : Int).toNat) _ = _
          rw [List.getD_eq_getElem?_getD, Int.toNat_natCast, List.getElem?_eq_getElem hjl]
          rfl
        rw [← h2, h1]
        rfl
      rw [e] at this
      have e2 : (((stepL R G (L.map toR)).map ofR).take j ++ List.replicate (d + 1) z36).set ((j : Int).toNat) (⟨(Ql1.p R (L.map toR) (nodeAt G (j : Int))).1, (Ql1.p R (L.map toR) (nodeAt G (j : Int))).2.1, (Ql1.p R (L.map toR) (nodeAt G (j : Int))).2.2⟩ : FlowT) = ((stepL R G (L.map toR)).map ofR).take j ++ ([(⟨(Ql1.p R (L.map toR) (nodeAt G (j : Int))).1, (Ql1.p R (L.map toR) (nodeAt G (j : Int))).2.1, (Ql1.p R (L.map toR) (nodeAt G (j : Int))).2.2⟩ : FlowT)] ++ List.replicate d z36) := by
        rw [Int.toNat_natCast, List.set_append_right _ _ (by rw [List.length_take]; omega), List.length_take, show j - min j ((stepL R G (L.map toR)).map ofR).length = 0 by omega, List.replicate_succ]
        rfl
      rw [e2]
      exact this
  unfold flow_Step.f
  rw [show (fun k => if 0 ≤ (G.length : Int) then (if ((G.length : Int) : Int).toNat ≤ 93824992236885 then ((some (List.replicate ((G.length : Int) : Int).toNat z36 : List FlowT)).bind fun y170 => (flow_Step.l0 k L y170 (y170.length : Int) 0 R G)) else none) else none) = fun k => flow_Step.l0 k L (List.replicate G.length z36) (G.length : Int) 0 R G from by
    funext k
    rw [if_pos (by omega), if_pos (by omega), show ((G.length : Int) : Int).toNat = G.length by omega, Option.bind_some, List.length_replicate]]
  have := l0 G.length 0 (by omega)
  rw [List.take_zero, List.nil_append] at this
  exact this
end
set_option maxRecDepth 100000 in
theorem awake_ev : Ev (fun k => Qj1.f k) true := Ev.of_mono (k := 20040) (fun k => Qj1.mono k) (by kernel_rfl)
end Go.Proofs.Ytnaanamibfpbpaa.V
namespace Go.Proofs.Ytnaanamibfpbpaa.V
open Go.RowKit Go.Proofs.YtnaanamibfpbpaaW.PrintWords
set_option linter.unusedVariables false
set_option linter.unusedSimpArgs false
def joinF (a b : FactT) : FactT := ⟨a.f0 || b.f0, a.f1 || b.f1, a.f2 || b.f2⟩
def hiL (A B : List FactT) : List FactT := (List.range A.length).map fun (i : Nat) => joinF (Qz A (i : Int)) (Qz B (i : Int))
theorem hiL_length (A B : List FactT) : (hiL A B).length = A.length := by simp [hiL]
theorem hiL_at (A B : List FactT) (i : Nat) (h : i < A.length) : (hiL A B)[i]? = some (joinF (Qz A (i : Int)) (Qz B (i : Int))) := by
  simp [hiL, h]
theorem hiL_up (A B : List FactT) (i : Int) : FLe (Qz A i) (Qz (hiL A B) i) := by
  rw [fact_neg A i, fact_neg (hiL A B) i]
  by_cases h : i.toNat < A.length
  · have e : Qz (hiL A B) (i.toNat : Int) = joinF (Qz A (i.toNat : Int)) (Qz B (i.toNat : Int)) := by
      show List.getD _ ((i.toNat : Int).toNat) _ = _
      rw [List.getD_eq_getElem?_getD, Int.toNat_natCast, hiL_at A B _ h]
      rfl
    rw [e]
    exact ⟨fun x => by show (_ || _) = true; rw [x]; rfl, fun x => by show (_ || _) = true; rw [x]; rfl, fun x => by show (_ || _) = true; rw [x]; rfl⟩
  · rw [fact_out A _ (by omega)]
    exact ⟨fun h => absurd h (by decide), fun h => absurd h (by decide), fun h => absurd h (by decide)⟩
theorem rises_step (k : Nat) (R : List RuleT) (G : List NodeT) (A B x : List FactT) (j : Nat) (hA : j < A.length) (hB : j < B.length) (hs : A.length ≤ 1000000) (hx : x.length < 46912496118442) :
    Qi1.l0 (k + 1) A B x (j : Int) R G = Qi1.l0 k A B (x ++ [joinF (Qz A (j : Int)) (Qz B (j : Int))]) ((j + 1 : Nat) : Int) R G := by
  have hB' : (j : Int) < (B.length : Int) := by omega
  rw [Qi1.l0, if_pos (by omega), if_pos (by omega), w64p ((j : Int) + 1) (by omega), show (j : Int) + 1 = ((j + 1 : Nat) : Int) by omega]
  simp only [if_pos hx, if_pos hB']
  unfold joinF
  simp only [show ∀ (l : List FactT) (i : Int), Qz l i = Qp l i from fun _ _ => rfl]
  generalize Qp A (j : Int) = a
  generalize Qp B (j : Int) = b
  obtain ⟨a0, a1, a2⟩ := a
  obtain ⟨b0, b1, b2⟩ := b
  cases a0 <;> cases a1 <;> cases a2 <;> rfl
theorem rises_ev {R : List RuleT} {G : List NodeT} (hs : Small R G) (A B : List FactT) (hA : A.length = G.length) (hB : B.length = G.length) :
    Ev (fun k => Qi1.l0 k A B ([] : List FactT) 0 R G) true := by
  have hn := hs.nodes
  have hl := hiL_length A B
  have last : Ev (fun k => Qi1.l0 k A B (hiL A B) (A.length : Int) R G) true := by
    have s1 := flow_step_ev hs (A.map ofR) (by rw [List.length_map]; exact hA)
    have s2 := flow_step_ev hs ((hiL A B).map ofR) (by rw [List.length_map]; omega)
    rw [map_toR_ofR] at s1 s2
    have b1 := back_ev ((stepL R G A).map ofR) (by rw [List.length_map, step_length]; omega)
    have b2 := back_ev ((stepL R G (hiL A B)).map ofR) (by rw [List.length_map, step_length]; omega)
    have hll : (leastL R G).length = G.length := itL_length R G _
    have b3 := back_ev ((leastL R G).map ofR) (by rw [List.length_map]; omega)
    rw [map_toR_ofR] at b1 b2 b3
    obtain ⟨v, hv, hvs⟩ := within_ev (stepL R G A) (stepL R G (hiL A B)) (by rw [step_length, step_length]) (by rw [step_length]; omega)
    have hv1 : v = true := hvs.2 (step_mono R G (hiL_up A B))
    subst hv1
    obtain ⟨u, hu, hus⟩ := within_ev (stepL R G (hiL A B)) (hiL A B) (by rw [step_length]; omega) (by rw [step_length]; omega)
    obtain ⟨t, ht, hts⟩ := within_ev (leastL R G) (hiL A B) (by omega) (by omega)
    refine Ev.succ (fun k => by rw [Qi1.l0, if_neg (by omega)]) (Ev.bind (facts_ev A (by omega)) (Ev.bind s1 (Ev.bind b1 (Ev.bind (facts_ev (hiL A B) (by omega)) (Ev.bind s2 (Ev.bind b2 (Ev.bind hv (Ev.congr (fun k => if_pos rfl) (Ev.bind hu ?_)))))))))
    cases u with
    | false => exact Ev.congr (fun k => if_neg (by decide)) (Ev.const _)
    | true =>
      have ht1 : t = true := hts.2 (itL_low R G _ (hus.1 rfl) _)
      subst ht1
      exact Ev.congr (fun k => if_pos rfl) (Ev.bind (flow_of_ev hs) (Ev.bind b3 (Ev.bind ht (Ev.const _))))
  have l0 : ∀ (d j : Nat), j + d = A.length → Ev (fun k => Qi1.l0 k A B ((hiL A B).take j) (j : Int) R G) true := by
    intro d
    induction d with
    | zero =>
      intro j hj
      obtain rfl : j = A.length := by omega
      rw [List.take_of_length_le (by omega)]
      exact last
    | succ d ih =>
      intro j hj
      have hjl : j < (hiL A B).length := by omega
      have := ih (j + 1) (by omega)
      have e : (hiL A B)[j] = joinF (Qz A (j : Int)) (Qz B (j : Int)) := by
        have h1 := hiL_at A B j (by omega)
        rw [List.getElem?_eq_getElem hjl] at h1
        exact Option.some.inj h1
      rw [List.take_succ_eq_append_getElem hjl, e] at this
      exact Ev.succ (fun k => rises_step k R G A B _ j (by omega) (by omega) (by omega) (by rw [List.length_take]; omega)) this
  exact l0 A.length 0 (by omega)
theorem Pure.PureFlowRises : ∀ (l0_0 : List RuleT) (l0_1 : List NodeT) (l1 : List FactT) (l2 : List FactT), (l0_0.length ≤ maxLen ∧ ∀ y ∈ l0_0, Ok39 y) → (l0_1.length ≤ maxLen ∧ ∀ y ∈ l0_1, Ok53 y) → (l1.length ≤ maxLen ∧ ∀ y ∈ l1, Ok35 y) → (l2.length ≤ maxLen ∧ ∀ y ∈ l2, Ok35 y) → ∃ k, Qi1.f k l0_0 l0_1 l1 l2 = some true := by
  intro R G A B hR hG hA hB
  obtain ⟨b, hb, hbs⟩ := small_ev hR hG
  have no : Ev (fun k => Qi1.j0 k A B true R G) true := Ev.succ (fun k => by rw [Qi1.j0, if_pos rfl]) (Ev.bind (g := fun _ t => some t) awake_ev (Ev.const _))
  have fin : Ev (fun k => if b = true then (if (A.length : Int) = (G.length : Int) then (Qi1.j0 k A B ((B.length : Int) != (G.length : Int)) R G) else (Qi1.j0 k A B true R G)) else (Qi1.j0 k A B true R G)) true := by
    cases b with
    | false => exact Ev.congr (fun k => if_neg (by decide)) no
    | true =>
      have hs := hbs rfl
      have hn := hs.nodes
      refine Ev.congr (fun k => if_pos rfl) ?_
      by_cases cA : (A.length : Int) = (G.length : Int)
      · refine Ev.congr (fun k => if_pos cA) ?_
        by_cases cB : (B.length : Int) = (G.length : Int)
        · rw [bne_eq_false_iff_eq.2 cB]
          exact Ev.succ (fun k => by rw [Qi1.j0, if_neg (by decide)]) (rises_ev hs A B (by omega) (by omega))
        · rw [bne_iff_ne.2 cB]
          exact no
      · exact Ev.congr (fun k => if_neg cA) no
  exact (Ev.bind awake_ev (Ev.congr (fun k => if_pos rfl) (Ev.bind hb fin))).out
end Go.Proofs.Ytnaanamibfpbpaa.V
namespace Go.Proofs.Ytnaanamibfpbpaa.flowRises
open Go.ChangeShapes Go.WideShapes Go.ChangeAt Go.RowKit Go.Proofs.Ytnaanamibfpbpaa.Opens Go.Proofs.Ytnaanamibfpbpaa.V Go.Proofs.YtnaanamibfpbpaaW.PrintWords
open Go.ChangeMaps (open_string shut_string)
set_option linter.unusedVariables false
theorem own : ownKnob Try.prog.godebug = none := by kernel_rfl
theorem laidOut : laidOutB Try.prog = true := by kernel_rfl
set_option maxRecDepth 100000 in
theorem lifted (os : Os) (started : os.Started) (H : Type) (enc : TypeId × Value → H) :
    ReturnsInHanded {} Try.checked os 6 .any (Rows.flowRisesSpec.pre6 enc Try.prog Try.f6 Rows.flowRisesRow.domain false) (Rows.flowRisesSpec.post enc Try.prog Try.f6 false true false false) := by
  refine returnsInHanded_of_change_sized (C := Try.checked) own started (by kernel_rfl) Try.func6
    (ChangeSpec.witness6 (enc := enc) (C := Try.checked) false ⟨#[], #[.agg #[.slice none 0 0, .slice none 0 0], .slice none 0 0, .slice none 0 0], []⟩ 8 (by kernel_rfl) (by kernel_rfl) (by kernel_rfl) (by kernel_rfl)) ?_
  intro W base args ds gs before hval0 hW hcnd hsz0 _
  have hval : ∀ (j : Nat) t v, Try.f6.params[j]? = some t → args[j]? = some v → Value.okWide Try.prog W .any base t v := hval0
  have hW' := hW
  obtain ⟨p, q, hA0, hV, rfl, hfz, hnd⟩ := hW
  have hA : DataW.TrodAll enc Try.prog W 0 (fun _ => true) true Try.f6.params.toList args.toList ds p := hA0
  rw [Try.params6] at hA hval
  obtain ⟨v0, vs0, d0, ds0, p0, q0, hargs, rfl, rfl, h0, r0⟩ := trodAll_cons hA
  obtain ⟨v1, vs1, d1, ds1, p1, q1, rfl, rfl, rfl, h1, r1⟩ := trodAll_cons r0
  obtain ⟨v2, vs2, d2, ds2, p2, q2, rfl, rfl, rfl, h2, r2⟩ := trodAll_cons r1
  obtain ⟨rfl, rfl, rfl⟩ := trodAll_nil r2
  obtain rfl : args = #[v0, v1, v2] := by cases args; simp_all
  obtain ⟨rfl, rfl⟩ := trodVars_none hV
  have lt0 := trod_lts h0
  obtain ⟨cs0, rfl, _⟩ := okWide_struct Try.underlying25 (hval 0 25 v0 rfl rfl)
  obtain ⟨b0, hK0, ok0⟩ := Opn.arg (opn25 W) h0
  obtain ⟨L0, hL0⟩ : ∃ L, L = cs0.toList := ⟨_, rfl⟩
  replace hK0 : ((Kd.pair (Kd.slice 39 k39) (Kd.slice 53 k53))).K W b0 L0 := by rw [hL0]; exact hK0
  obtain ⟨l0_0, l0_1⟩ := b0
  obtain ⟨_, _, rfl, ⟨A0_0, c0_0, rfl, lc0_0, g0_0⟩, ⟨A0_1, c0_1, rfl, lc0_1, g0_1⟩⟩ := hK0
  obtain ⟨w0_0, w0_1⟩ := ok0
  obtain rfl : cs0 = #[.slice A0_0 l0_0.length c0_0, .slice A0_1 l0_1.length c0_1] := by cases cs0; simp_all
  have lt1 := trod_lts h1
  obtain ⟨la1, len1, cap1, rfl⟩ := okWide_slice Try.underlying28 (hval 1 28 v1 rfl rfl)
  obtain ⟨l1, ⟨A1, c1, hcs1, lc1, g1⟩, w1⟩ := Opn.arg (Opn.slice 35 Try.underlying28 (by kernel_rfl) (opn35 W)) h1
  simp [Value.cells] at hcs1
  obtain ⟨rfl, rfl, rfl⟩ := hcs1
  have lt2 := trod_lts h2
  obtain ⟨la2, len2, cap2, rfl⟩ := okWide_slice Try.underlying28 (hval 2 28 v2 rfl rfl)
  obtain ⟨l2, ⟨A2, c2, hcs2, lc2, g2⟩, w2⟩ := Opn.arg (Opn.slice 35 Try.underlying28 (by kernel_rfl) (opn35 W)) h2
  simp [Value.cells] at hcs2
  obtain ⟨rfl, rfl, rfl⟩ := hcs2
  clear hA0 hval0 hsz0
  obtain ⟨k, hk⟩ := Pure.PureFlowRises l0_0 l0_1 l1 l2 w0_0 w0_1 w1 w2
  refine (Qi1.calls k A0_0 c0_0 l0_0 A0_1 c0_1 l0_1 la1 cap1 l1 la2 cap2 l2 true W g0_0 lc0_0 g0_1 lc0_1 g1 lc1 g2 lc2 hk).mono fun e W' ⟨he, bel⟩ => ?_
  subst he
  exact ⟨_, rfl, _, _, _, [], _, [], hW', trodAll_mk1 (shut_bool Try.underlying4 _), (trodAll_cons_mk (Below.trod laidOut (by kernel_rfl) (of_decide_eq_true (by kernel_rfl)) h0 bel lt0) (trodAll_cons_mk (Below.trod laidOut (by kernel_rfl) (of_decide_eq_true (by kernel_rfl)) h1 bel lt1) (trodAll_cons_mk (Below.trod laidOut (by kernel_rfl) (of_decide_eq_true (by kernel_rfl)) h2 bel lt2) trodAll_mk0))), rfl, bel.frame _, fun h => by cases h⟩
theorem over : Rows.flowRisesRow.holds Try.pinned (OpenSpec.ofChange Rows.flowRisesSpec) :=
  OpenClaim.holds_of_wide 6 Try.f6 rfl rfl rfl rfl rfl rfl rfl ⟨rfl, rfl, rfl, rfl, rfl⟩ rfl rfl rfl rfl rfl (by kernel_rfl) Try.func6 (by kernel_rfl)
    (of_decide_eq_true (by kernel_rfl)) (by unfold Func.isWrapper; first | (rw [if_pos (by decide +kernel)]; kernel_rfl) | (rw [if_neg (by decide +kernel)]; exact ⟨rfl, rfl⟩))
    (fun os started H enc _ => lifted os started H enc)
end Go.Proofs.Ytnaanamibfpbpaa.flowRises
namespace Go.Proofs.Ytnaanamibfpbpaa
theorem flowRises_holds : Rows.FlowRisesSaid := flowRises.over
#print axioms flowRises_holds
end Go.Proofs.Ytnaanamibfpbpaa
