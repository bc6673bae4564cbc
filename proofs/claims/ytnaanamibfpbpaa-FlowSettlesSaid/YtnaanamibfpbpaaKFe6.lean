/- The law FlowSettles returns true whatever comes in, and leaves its arguments as they were. No condition. -/
import Derived.Test.YtnaanamibfpbpaaKFe5
import Derived.Test.YtnaanamibfpbpaaRows
import Derived.WalkKit
import Derived.ProofKit
import Derived.OpenShut
import Derived.ShutString
import Derived.ChangeOld
import Derived.Below
import Derived.SizedLaws
import Derived.Carry
namespace Go.Proofs.Ytnaanamibfpbpaa.V
open Go.RowKit Go.Proofs.YtnaanamibfpbpaaW.PrintWords Go.Proofs.YtnaanamibfpbpaaW.PrintLast Go.Proofs.YtnaanamibfpbpaaW.PrintMore
attribute [local go_sem] max2_int min2_int max_two min_two max_three min_three max_four min_four tdiv_most
set_option linter.unusedVariables false
set_option linter.unusedSimpArgs false
mutual
def Qm1.j0 : Nat → Bool → List (S39) → List (S53) → Option (Bool)
 | 0, _, _, _ => none
 | k + 1, x12, x321000, x321001 => if x12 = true then ((Qj1.f k).bind fun t323 => (some t323)) else ((flow_Of.f k x321000 x321001).bind fun t324 => (if (t324.length : Int) = (x321001.length : Int) then ((flow_Step.f k x321000 x321001 t324).bind fun t327 => ((Qo1.f k t327).bind fun t330 => ((Qo1.f k t324).bind fun t333 => ((Qs1.f k t330 t333).bind fun t336 => (Qm1.j1 k t324 (!t336) x321000 x321001))))) else (Qm1.j1 k t324 true x321000 x321001)))
def Qm1.j1 : Nat → List (S36) → Bool → List (S39) → List (S53) → Option (Bool)
 | 0, _, _, _, _ => none
 | k + 1, x3, x31, x321000, x321001 => if x31 = true then (some false) else (if 0 ≤ (x321001.length : Int) then (if ((x321001.length : Int) : Int).toNat ≤ 93824992236885 then (Qm1.l0 k x3 (List.replicate ((x321001.length : Int) : Int).toNat z36) 0 x321000 x321001) else (none)) else (none))
def Qm1.l0 : Nat → List (S36) → List (S36) → Int → List (S39) → List (S53) → Option (Bool)
 | 0, _, _, _, _, _ => none
 | k + 1, x3, x4, x5, x321000, x321001 => if x5 < (wrap64 (3 * (x321001.length : Int))) then ((flow_Step.f k x321000 x321001 x4).bind fun t347 => (if (t347.length : Int) = (x321001.length : Int) then ((Qo1.f k t347).bind fun t350 => ((Qo1.f k x3).bind fun t353 => ((Qa1.f k t350 t353).bind fun t356 => (if t356 = true then (Qm1.l0 k x3 t347 (wrap64 (x5 + 1)) x321000 x321001) else (some false))))) else (some false))) else ((Qo1.f k x4).bind fun t340 => ((Qo1.f k x3).bind fun t343 => ((Qs1.f k t340 t343).bind fun t346 => (some t346))))
end
def Qm1.f (k : Nat) (l0_0 : List (S39)) (l0_1 : List (S53)) : Option (Bool) := (Qj1.f k).bind fun t321 => (if t321 = true then ((vetchref05_Small.f k l0_0 l0_1).bind fun t322 => (Qm1.j0 k (!t322) l0_0 l0_1)) else (Qm1.j0 k true l0_0 l0_1))
set_option maxHeartbeats 8000000 in
set_option maxRecDepth 100000 in
theorem Qm1.calls (k : Nat) (A0_0 : Option Addr) (c0_0 : Nat) (l0_0 : List (S39)) (A0_1 : Option Addr) (c0_1 : Nat) (l0_1 : List (S53)) (r : Bool) (w : World) (hr0_0 : Kd.C k39 w A0_0 l0_0.length l0_0) (hc0_0 : l0_0.length ≤ c0_0) (hr0_1 : Kd.C k53 w A0_1 l0_1.length l0_1) (hc0_1 : l0_1.length ≤ c0_1) (h : Qm1.f k l0_0 l0_1 = some r) :
 Calls Try.prog 5 #[.agg #[.slice A0_0 l0_0.length c0_0, .slice A0_1 l0_1.length c0_1]] w fun e w' => e = .returned (.bool r) ∧ Below w.heap.size w w' := by
 have hu25 := Try.underlying25
 have HR0_0 := Qa.mk hr0_0
 have HC0_0 := Qa.mk hc0_0
 clear hr0_0 hc0_0
 have HR0_1 := Qa.mk hr0_1
 have HC0_1 := Qa.mk hc0_1
 clear hr0_1 hc0_1
 have HB := Qa.mk (Below.refl w.heap.size w)
 have H : ((Qj1.f k).bind fun t321 => (if t321 = true then ((vetchref05_Small.f k l0_0 l0_1).bind fun t322 => (Qm1.j0 k (!t322) l0_0 l0_1)) else (Qm1.j0 k true l0_0 l0_1))) = some r := h
 clear h
 have HC2 := Qa.mk H
 clear H
 go_enter Try.func5, Try.ntmps5
 go_upto_region 1 with (first | ((with_reducible refine Qf1 (N := 1) rfl ?_); refine Qi1 ?hg (N := 1) ?hd (cs := #[.slice A0_0 l0_0.length c0_0, .slice A0_1 l0_1.length c0_1]) (t := 25) ?hr ?_; (case hd => rfl); (case hg => rfl); (case hr => first | (go_simp; done) | (go_simp; rfl)); intro gb320 hg w3 hbox hb; have n0_ := Qa.mk (Qs (by repeat (first | (with_reducible first | exact HB.out | apply Qk | apply Ql | apply Qj) | exact HB.out)) hb); have n1_ := Qa.mk (hbox); have n2_ := Qa.mk ((by rw [hg]; exact (Qc1 (by repeat (first | (with_reducible first | exact HB.out | apply Qk | apply Ql | apply Qj) | exact HB.out))) : w.heap.size ≤ gb320)); have n3_ := n2_; clear HB; have HB := n0_; have BK320 := n1_; have GW320 := n2_; have GE320 := n3_; clear n0_ n1_ n2_ n3_; clear hb hbox hg))
 (try simp only [Act.put, List.setIfInBounds_toArray, List.set_cons_zero, List.set_cons_succ])
 go_cut [12] (fun v12 wc => ∃ (kq : Nat) (x12_1 : Bool), v12 = .bool x12_1 ∧ Qa (Qm1.j0 kq x12_1 l0_0 l0_1 = some r) ∧ Qa (kq ≤ k) ∧ Qa (wc.heap[gb320]? = some (.cells #[(.slice A0_0 l0_0.length c0_0), (.slice A0_1 l0_1.length c0_1)] 25 (0, 0))) ∧ Qa (Below w.heap.size w wc))
 case first =>
  have H := HC2.out
  clear HC2
  replace H := Option.bind_eq_some_iff.mp H
  obtain ⟨t321, A40, H⟩ := H
  replace H : (if t321 = true then ((vetchref05_Small.f k l0_0 l0_1).bind fun t322 => (Qm1.j0 k (!t322) l0_0 l0_1)) else (Qm1.j0 k true l0_0 l0_1)) = some r := H
  have A4 := Qa.mk A40
  clear A40
  by_cases c5 : t321 = true
  ·
   subst c5
   have H1 : ((vetchref05_Small.f k l0_0 l0_1).bind fun t322 => (Qm1.j0 k (!t322) l0_0 l0_1)) = some r := by rw [if_pos rfl] at H; exact H
   clear H
   have H := H1
   clear H1
   replace H := Option.bind_eq_some_iff.mp H
   obtain ⟨t322, A60, H⟩ := H
   replace H : (Qm1.j0 k (!t322) l0_0 l0_1) = some r := H
   have A6 := Qa.mk A60
   clear A60
   have H' := Qa.mk H
   clear H
   go_wp2_with (first | ((with_reducible refine gate_callee (f := 8) rfl ?_); refine goesL_ (some 6) rfl rfl Try.func8 (by kernel_rfl) rfl #[] rfl (by (try simp only [List.map_toArray, List.map_cons, List.map_nil]); first | done | rfl | (simp only [List.length_drop, List.length_take]; rfl)) ?_; (with_reducible refine (Qj1.calls k  true _ A4.out).mono ?_); rintro e w7 ⟨rfl, hb⟩; refine ⟨_, rfl, ?_⟩; have n0_ := Qa.mk (Qq (g := gb320) (o := .cells #[.slice A0_0 l0_0.length c0_0, .slice A0_1 l0_1.length c0_1] 25 (0, 0)) (by (with_reducible repeat (first | refine Qc ?_ _ | refine Qb ?_ | refine Qd ?_ _)); exact BK320.out) hb); have n1_ := Qa.mk (Qs (by repeat (first | (with_reducible first | exact HB.out | apply Qk | apply Ql | apply Qj | refine Qi ?_ GE320.out) | exact HB.out)) hb); clear BK320; clear HB; have BK320 := n0_; have HB := n1_; clear n0_ n1_; (try clear hb); (try clear hb2); (try clear hk); (try clear hi); have hcz8_0 : w7.cell? ⟨gb320, 0, none⟩ = some (.slice A0_0 l0_0.length c0_0) := (Qe BK320.out 0).trans rfl; have hcz8_1 : w7.cell? ⟨gb320, 1, none⟩ = some (.slice A0_1 l0_1.length c0_1) := (Qe BK320.out 1).trans rfl; have hfz8_0 := Qf BK320.out 0; have hfz8_1 := Qf BK320.out 1) | (go_at_call 9; (with_reducible refine (vetchref05_Small.calls k _ _ l0_0 _ _ l0_1 t322 _ ?side1 ?side2 ?side3 ?side4 A6.out).mono ?_); (case side1 => repeat (first | exact (Kd.C_below HR0_0.out HB.out) | (with_reducible refine Kd.Qg1 ?_ _) | (with_reducible refine Kd.Qh1 ?_ _) | (with_reducible refine Kd.C_drew ?_))); (case side2 => exact HC0_0.out); (case side3 => repeat (first | exact (Kd.C_below HR0_1.out HB.out) | (with_reducible refine Kd.Qg1 ?_ _) | (with_reducible refine Kd.Qh1 ?_ _) | (with_reducible refine Kd.C_drew ?_))); (case side4 => exact HC0_1.out); rintro e w9 ⟨rfl, hb⟩; have n0_ := Qa.mk (Qq (g := gb320) (o := .cells #[.slice A0_0 l0_0.length c0_0, .slice A0_1 l0_1.length c0_1] 25 (0, 0)) (by (with_reducible repeat (first | refine Qc ?_ _ | refine Qb ?_ | refine Qd ?_ _)); exact BK320.out) hb); have n1_ := Qa.mk (Qs (by repeat (first | (with_reducible first | exact HB.out | apply Qk | apply Ql | apply Qj | refine Qi ?_ GE320.out) | exact HB.out)) hb); clear BK320; clear HB; have BK320 := n0_; have HB := n1_; clear n0_ n1_; (try clear hb); (try clear hb2); (try clear hk); (try clear hi)))
   go_meet
   case rel => exact ⟨_, (!t322), (by first | rfl | (simp; done) | (simp [*]; done)), H', ⟨by first | omega | exact Nat.le_refl _⟩, ⟨by (with_reducible repeat (first | refine Qc ?_ _ | refine Qb ?_ | refine Qd ?_ _)); exact BK320.out⟩, ⟨by repeat (first | (with_reducible first | exact HB.out | apply Qk | apply Ql | apply Qj | refine Qi ?_ GE320.out) | exact HB.out)⟩⟩
  replace c5 := Bool.eq_false_iff.mpr c5
  subst c5
  have H1 : (Qm1.j0 k true l0_0 l0_1) = some r := by rw [if_neg (show ¬ (false = true) by decide)] at H; exact H
  clear H
  have H := H1
  clear H1
  have H' := Qa.mk H
  clear H
  go_wp2_with (first | ((with_reducible refine gate_callee (f := 8) rfl ?_); refine goesL_ (some 6) rfl rfl Try.func8 (by kernel_rfl) rfl #[] rfl (by (try simp only [List.map_toArray, List.map_cons, List.map_nil]); first | done | rfl | (simp only [List.length_drop, List.length_take]; rfl)) ?_; (with_reducible refine (Qj1.calls k  false _ A4.out).mono ?_); rintro e w10 ⟨rfl, hb⟩; refine ⟨_, rfl, ?_⟩; have n0_ := Qa.mk (Qq (g := gb320) (o := .cells #[.slice A0_0 l0_0.length c0_0, .slice A0_1 l0_1.length c0_1] 25 (0, 0)) (by (with_reducible repeat (first | refine Qc ?_ _ | refine Qb ?_ | refine Qd ?_ _)); exact BK320.out) hb); have n1_ := Qa.mk (Qs (by repeat (first | (with_reducible first | exact HB.out | apply Qk | apply Ql | apply Qj | refine Qi ?_ GE320.out) | exact HB.out)) hb); clear BK320; clear HB; have BK320 := n0_; have HB := n1_; clear n0_ n1_; (try clear hb); (try clear hb2); (try clear hk); (try clear hi)))
  go_meet
  case rel => exact ⟨_, (true), (by first | rfl | (simp; done) | (simp [*]; done)), H', ⟨by first | omega | exact Nat.le_refl _⟩, ⟨by (with_reducible repeat (first | refine Qc ?_ _ | refine Qb ?_ | refine Qd ?_ _)); exact BK320.out⟩, ⟨by repeat (first | (with_reducible first | exact HB.out | apply Qk | apply Ql | apply Qj | refine Qi ?_ GE320.out) | exact HB.out)⟩⟩
 case rest =>
  clear HC2
  try clear p2
  try clear c5
  try clear c8
  try clear hcz8_0
  try clear hcz8_1
  try clear hfz8_0
  try clear hfz8_1
  obtain ⟨kq, x12_1, rfl, HA, HJ1, BK320, HB⟩ := hcut
  cases kq with
  | zero => exact absurd HA.out (by simp [Qm1.j0])
  | succ kj1 =>
   have H := HA.out
   clear HA
   simp only [Qm1.j0] at H
   by_cases c11 : x12_1 = true
   ·
    subst c11
    have H1 : ((Qj1.f kj1).bind fun t323 => (some t323)) = some r := by rw [if_pos rfl] at H; exact H
    clear H
    have H := H1
    clear H1
    replace H := Option.bind_eq_some_iff.mp H
    obtain ⟨t323, A120, H⟩ := H
    replace H : (some t323) = some r := H
    have A12 := Qa.mk A120
    clear A120
    obtain rfl := Option.some.inj H
    go_wp2_with (first | ((with_reducible refine gate_callee (f := 8) rfl ?_); refine goesL_ (some 13) rfl rfl Try.func8 (by kernel_rfl) rfl #[] rfl (by (try simp only [List.map_toArray, List.map_cons, List.map_nil]); first | done | rfl | (simp only [List.length_drop, List.length_take]; rfl)) ?_; (with_reducible refine (Qj1.calls kj1  t323 _ A12.out).mono ?_); rintro e w13 ⟨rfl, hb⟩; refine ⟨_, rfl, ?_⟩; have n0_ := Qa.mk (Qq (g := gb320) (o := .cells #[.slice A0_0 l0_0.length c0_0, .slice A0_1 l0_1.length c0_1] 25 (0, 0)) (by (with_reducible repeat (first | refine Qc ?_ _ | refine Qb ?_ | refine Qd ?_ _)); exact BK320.out) hb); have n1_ := Qa.mk (Qs (by repeat (first | (with_reducible first | exact HB.out | apply Qk | apply Ql | apply Qj | refine Qi ?_ GE320.out) | exact HB.out)) hb); clear BK320; clear HB; have BK320 := n0_; have HB := n1_; clear n0_ n1_; (try clear hb); (try clear hb2); (try clear hk); (try clear hi)))
    go_ret
    exact ⟨by first | rfl | (simp [Qt, Qu] <;> rfl) | (simp [*, Qt, Qu] <;> rfl), by repeat (first | (with_reducible first | exact HB.out | apply Qk | apply Ql | apply Qj | refine Qi ?_ GE320.out) | exact HB.out)⟩
   replace c11 := Bool.eq_false_iff.mpr c11
   subst c11
   have H1 : ((flow_Of.f kj1 l0_0 l0_1).bind fun t324 => (if (t324.length : Int) = (l0_1.length : Int) then ((flow_Step.f kj1 l0_0 l0_1 t324).bind fun t327 => ((Qo1.f kj1 t327).bind fun t330 => ((Qo1.f kj1 t324).bind fun t333 => ((Qs1.f kj1 t330 t333).bind fun t336 => (Qm1.j1 kj1 t324 (!t336) l0_0 l0_1))))) else (Qm1.j1 kj1 t324 true l0_0 l0_1))) = some r := by rw [if_neg (show ¬ (false = true) by decide)] at H; exact H
   clear H
   have H := H1
   clear H1
   replace H := Option.bind_eq_some_iff.mp H
   obtain ⟨t324, A140, H⟩ := H
   replace H : (if (t324.length : Int) = (l0_1.length : Int) then ((flow_Step.f kj1 l0_0 l0_1 t324).bind fun t327 => ((Qo1.f kj1 t327).bind fun t330 => ((Qo1.f kj1 t324).bind fun t333 => ((Qs1.f kj1 t330 t333).bind fun t336 => (Qm1.j1 kj1 t324 (!t336) l0_0 l0_1))))) else (Qm1.j1 kj1 t324 true l0_0 l0_1)) = some r := H
   have A14 := Qa.mk A140
   clear A140
   have HC15 := Qa.mk H
   clear H
   have hcz16_0 : wc.cell? ⟨gb320, 0, none⟩ = some (.slice A0_0 l0_0.length c0_0) := (Qe BK320.out 0).trans rfl
   have hcz16_1 : wc.cell? ⟨gb320, 1, none⟩ = some (.slice A0_1 l0_1.length c0_1) := (Qe BK320.out 1).trans rfl
   have hfz16_0 := Qf BK320.out 0
   have hfz16_1 := Qf BK320.out 1
   go_upto_region 4 with (first | ((with_reducible refine gate_callee (f := 13) rfl ?_); refine goesL_ (some 15) rfl rfl Try.func13 (by kernel_rfl) rfl #[.agg #[.slice A0_0 l0_0.length c0_0, .slice A0_1 l0_1.length c0_1]] rfl (by (try simp only [List.map_toArray, List.map_cons, List.map_nil]); first | done | rfl | (simp only [List.length_drop, List.length_take]; rfl)) ?_; (with_reducible refine (flow_Of.calls kj1 _ _ l0_0 _ _ l0_1 t324 _ ?side1 ?side2 ?side3 ?side4 A14.out).mono ?_); (case side1 => repeat (first | exact (Kd.C_below HR0_0.out HB.out) | (with_reducible refine Kd.Qg1 ?_ _) | (with_reducible refine Kd.Qh1 ?_ _) | (with_reducible refine Kd.C_drew ?_))); (case side2 => exact HC0_0.out); (case side3 => repeat (first | exact (Kd.C_below HR0_1.out HB.out) | (with_reducible refine Kd.Qg1 ?_ _) | (with_reducible refine Kd.Qh1 ?_ _) | (with_reducible refine Kd.C_drew ?_))); (case side4 => exact HC0_1.out); rintro e w17 ⟨v325, rfl, ho0, hb⟩; refine ⟨_, rfl, ?_⟩; have n0_ := Qa.mk (Kd.R_lower ho0 (Qc1 (by repeat (first | (with_reducible first | exact HB.out | apply Qk | apply Ql | apply Qj | refine Qi ?_ GE320.out) | exact HB.out)))); have n1_ := Qa.mk (Qq (g := gb320) (o := .cells #[.slice A0_0 l0_0.length c0_0, .slice A0_1 l0_1.length c0_1] 25 (0, 0)) (by (with_reducible repeat (first | refine Qc ?_ _ | refine Qb ?_ | refine Qd ?_ _)); exact BK320.out) hb); have n2_ := Qa.mk (Qs (by repeat (first | (with_reducible first | exact HB.out | apply Qk | apply Ql | apply Qj | refine Qi ?_ GE320.out) | exact HB.out)) hb); clear BK320; clear HB; have HO326 := n0_; have BK320 := n1_; have HB := n2_; clear n0_ n1_ n2_; (try clear hb); (try clear hb2); (try clear hk); (try clear hi); (try clear ho0)))
   (try simp only [Act.put, List.setIfInBounds_toArray, List.set_cons_zero, List.set_cons_succ])
   go_cut [31] (fun v31 wc => ∃ (kq : Nat) (x31_14 : Bool), v31 = .bool x31_14 ∧ Qa (Qm1.j1 kq t324 x31_14 l0_0 l0_1 = some r) ∧ Qa (kq ≤ kj1) ∧ Qa (Kd.R k36 36 wc w.heap.size (fun _ => True) v325 t324) ∧ Qa (wc.heap[gb320]? = some (.cells #[(.slice A0_0 l0_0.length c0_0), (.slice A0_1 l0_1.length c0_1)] 25 (0, 0))) ∧ Qa (Below w.heap.size w wc))
   case first =>
    have H := HC15.out
    clear HC15
    by_cases c18 : (t324.length : Int) = (l0_1.length : Int)
    rotate_left
    ·
     rw [if_neg c18] at H
     have c18b0 : ((t324.length : Int) == (l0_1.length : Int)) = false := beq_eq_false_iff_ne.mpr c18
     have c18b1 : ((t324.length : Int) != (l0_1.length : Int)) = true := bne_iff_ne.mpr c18
     have c18b2 : (t324.length == l0_1.length) = false := by first | simpa using c18 | (simp at c18 ⊢; omega)
     (first | rw [c18b0] | (simp only [i64_w, i32_w]; rw [c18b0]) | skip)
     have H' := Qa.mk H
     clear H
     obtain ⟨Ao31, co31, eo31⟩ := Kd.R_slice HO326.out
     subst eo31
     have hcz32_0 : w17.cell? ⟨gb320, 0, none⟩ = some (.slice A0_0 l0_0.length c0_0) := (Qe BK320.out 0).trans rfl
     have hcz32_1 : w17.cell? ⟨gb320, 1, none⟩ = some (.slice A0_1 l0_1.length c0_1) := (Qe BK320.out 1).trans rfl
     have hfz32_0 := Qf BK320.out 0
     have hfz32_1 := Qf BK320.out 1
     go_wp2
     go_meet
     case rel => exact ⟨_, (true), (by first | rfl | (simp; done) | (simp [*]; done)), H', ⟨by have := HJ1.out; first | omega | exact Nat.le_refl _⟩, ⟨by (with_reducible repeat (first | apply Kd.Qv | apply Kd.Qw | apply Kd.Qr)); exact HO326.out⟩, ⟨by (with_reducible repeat (first | refine Qc ?_ _ | refine Qb ?_ | refine Qd ?_ _)); exact BK320.out⟩, ⟨by repeat (first | (with_reducible first | exact HB.out | apply Qk | apply Ql | apply Qj | refine Qi ?_ GE320.out) | exact HB.out)⟩⟩
    rw [if_pos c18] at H
    have c18b0 : ((t324.length : Int) == (l0_1.length : Int)) = true := beq_iff_eq.mpr c18
    have c18b1 : ((t324.length : Int) != (l0_1.length : Int)) = false := bne_eq_false_iff_eq.mpr c18
    have c18b2 : (t324.length == l0_1.length) = true := by first | simpa using c18 | (simp at c18 ⊢; omega)
    clear c18
    (first | rw [c18b0] | (simp only [i64_w, i32_w]; rw [c18b0]) | skip)
    replace H := Option.bind_eq_some_iff.mp H
    obtain ⟨t327, A190, H⟩ := H
    replace H : ((Qo1.f kj1 t327).bind fun t330 => ((Qo1.f kj1 t324).bind fun t333 => ((Qs1.f kj1 t330 t333).bind fun t336 => (Qm1.j1 kj1 t324 (!t336) l0_0 l0_1)))) = some r := H
    have A19 := Qa.mk A190
    clear A190
    replace H := Option.bind_eq_some_iff.mp H
    obtain ⟨t330, A200, H⟩ := H
    replace H : ((Qo1.f kj1 t324).bind fun t333 => ((Qs1.f kj1 t330 t333).bind fun t336 => (Qm1.j1 kj1 t324 (!t336) l0_0 l0_1))) = some r := H
    have A20 := Qa.mk A200
    clear A200
    replace H := Option.bind_eq_some_iff.mp H
    obtain ⟨t333, A210, H⟩ := H
    replace H : ((Qs1.f kj1 t330 t333).bind fun t336 => (Qm1.j1 kj1 t324 (!t336) l0_0 l0_1)) = some r := H
    have A21 := Qa.mk A210
    clear A210
    replace H := Option.bind_eq_some_iff.mp H
    obtain ⟨t336, A220, H⟩ := H
    replace H : (Qm1.j1 kj1 t324 (!t336) l0_0 l0_1) = some r := H
    have A22 := Qa.mk A220
    clear A220
    have H' := Qa.mk H
    clear H
    obtain ⟨Ao23, co23, eo23⟩ := Kd.R_slice HO326.out
    subst eo23
    have hcz24_0 : w17.cell? ⟨gb320, 0, none⟩ = some (.slice A0_0 l0_0.length c0_0) := (Qe BK320.out 0).trans rfl
    have hcz24_1 : w17.cell? ⟨gb320, 1, none⟩ = some (.slice A0_1 l0_1.length c0_1) := (Qe BK320.out 1).trans rfl
    have hfz24_0 := Qf BK320.out 0
    have hfz24_1 := Qf BK320.out 1
    go_wp2_with (first | (go_at_call 15; (with_reducible refine (flow_Step.calls kj1 _ _ l0_0 _ _ l0_1 _ _ t324 t327 _ ?side1 ?side2 ?side3 ?side4 ?side5 ?side6 A19.out).mono ?_); (case side1 => repeat (first | exact (Kd.C_below HR0_0.out HB.out) | (with_reducible refine Kd.Qg1 ?_ _) | (with_reducible refine Kd.Qh1 ?_ _) | (with_reducible refine Kd.C_drew ?_))); (case side2 => exact HC0_0.out); (case side3 => repeat (first | exact (Kd.C_below HR0_1.out HB.out) | (with_reducible refine Kd.Qg1 ?_ _) | (with_reducible refine Kd.Qh1 ?_ _) | (with_reducible refine Kd.C_drew ?_))); (case side4 => exact HC0_1.out); (case side5 => repeat (first | exact (Kd.R_reads' HO326.out).2.2 | (with_reducible refine Kd.Qg1 ?_ _) | (with_reducible refine Kd.Qh1 ?_ _) | (with_reducible refine Kd.C_drew ?_))); (case side6 => exact (Kd.R_reads' HO326.out).2.1); rintro e w25 ⟨v328, rfl, ho0, hb⟩; have n0_ := Qa.mk (Kd.R_elder' (by (with_reducible repeat (first | apply Kd.Qv | apply Kd.Qw | apply Kd.Qr)); exact HO326.out) (Kd.R_base ho0) hb); have n1_ := Qa.mk (Kd.R_lower (Kd.R_new' ho0 (Kd.R_lt (by (with_reducible repeat (first | apply Kd.Qv | apply Kd.Qw | apply Kd.Qr)); exact HO326.out))) (Qc1 (by repeat (first | (with_reducible first | exact HB.out | apply Qk | apply Ql | apply Qj | refine Qi ?_ GE320.out) | exact HB.out)))); have n2_ := Qa.mk (Qq (g := gb320) (o := .cells #[.slice A0_0 l0_0.length c0_0, .slice A0_1 l0_1.length c0_1] 25 (0, 0)) (by (with_reducible repeat (first | refine Qc ?_ _ | refine Qb ?_ | refine Qd ?_ _)); exact BK320.out) hb); have n3_ := Qa.mk (Qs (by repeat (first | (with_reducible first | exact HB.out | apply Qk | apply Ql | apply Qj | refine Qi ?_ GE320.out) | exact HB.out)) hb); clear HO326; clear BK320; clear HB; have HO326 := n0_; have HO329 := n1_; have BK320 := n2_; have HB := n3_; clear n0_ n1_ n2_ n3_; (try clear hb); (try clear hb2); (try clear hk); (try clear hi); (try clear ho0); obtain ⟨Ao26, co26, eo26⟩ := Kd.R_slice HO329.out; subst eo26) | (go_at_call 12; (with_reducible refine (Qo1.calls kj1 _ _ t327 t330 _ ?side1 ?side2 A20.out).mono ?_); (case side1 => repeat (first | exact (Kd.R_reads' HO329.out).2.2 | (with_reducible refine Kd.Qg1 ?_ _) | (with_reducible refine Kd.Qh1 ?_ _) | (with_reducible refine Kd.C_drew ?_))); (case side2 => exact (Kd.R_reads' HO329.out).2.1); rintro e w27 ⟨v331, rfl, ho0, hb⟩; have n0_ := Qa.mk (Kd.Qe1 (by (with_reducible repeat (first | apply Kd.Qv | apply Kd.Qw | apply Kd.Qr)); exact HO326.out) hb); have n1_ := Qa.mk (Kd.Qe1 (by (with_reducible repeat (first | apply Kd.Qv | apply Kd.Qw | apply Kd.Qr)); exact HO329.out) hb); have n2_ := Qa.mk (Kd.R_lower ho0 (Qc1 (by repeat (first | (with_reducible first | exact HB.out | apply Qk | apply Ql | apply Qj | refine Qi ?_ GE320.out) | exact HB.out)))); have n3_ := Qa.mk (Qq (g := gb320) (o := .cells #[.slice A0_0 l0_0.length c0_0, .slice A0_1 l0_1.length c0_1] 25 (0, 0)) (by (with_reducible repeat (first | refine Qc ?_ _ | refine Qb ?_ | refine Qd ?_ _)); exact BK320.out) hb); have n4_ := Qa.mk (Qs (by repeat (first | (with_reducible first | exact HB.out | apply Qk | apply Ql | apply Qj | refine Qi ?_ GE320.out) | exact HB.out)) hb); clear HO326; clear HO329; clear BK320; clear HB; have HO326 := n0_; have HO329 := n1_; have HO332 := n2_; have BK320 := n3_; have HB := n4_; clear n0_ n1_ n2_ n3_ n4_; (try clear hb); (try clear hb2); (try clear hk); (try clear hi); (try clear ho0)) | (go_at_call 12; (with_reducible refine (Qo1.calls kj1 _ _ t324 t333 _ ?side1 ?side2 A21.out).mono ?_); (case side1 => repeat (first | exact (Kd.R_reads' HO326.out).2.2 | (with_reducible refine Kd.Qg1 ?_ _) | (with_reducible refine Kd.Qh1 ?_ _) | (with_reducible refine Kd.C_drew ?_))); (case side2 => exact (Kd.R_reads' HO326.out).2.1); rintro e w28 ⟨v334, rfl, ho0, hb⟩; have n0_ := Qa.mk (Kd.Qe1 (by (with_reducible repeat (first | apply Kd.Qv | apply Kd.Qw | apply Kd.Qr)); exact HO326.out) hb); have n1_ := Qa.mk (Kd.Qe1 (by (with_reducible repeat (first | apply Kd.Qv | apply Kd.Qw | apply Kd.Qr)); exact HO329.out) hb); have n2_ := Qa.mk (Kd.R_elder' (by (with_reducible repeat (first | apply Kd.Qv | apply Kd.Qw | apply Kd.Qr)); exact HO332.out) (Kd.R_base ho0) hb); have n3_ := Qa.mk (Kd.R_lower (Kd.R_new' ho0 (Kd.R_lt (by (with_reducible repeat (first | apply Kd.Qv | apply Kd.Qw | apply Kd.Qr)); exact HO332.out))) (Qc1 (by repeat (first | (with_reducible first | exact HB.out | apply Qk | apply Ql | apply Qj | refine Qi ?_ GE320.out) | exact HB.out)))); have n4_ := Qa.mk (Qq (g := gb320) (o := .cells #[.slice A0_0 l0_0.length c0_0, .slice A0_1 l0_1.length c0_1] 25 (0, 0)) (by (with_reducible repeat (first | refine Qc ?_ _ | refine Qb ?_ | refine Qd ?_ _)); exact BK320.out) hb); have n5_ := Qa.mk (Qs (by repeat (first | (with_reducible first | exact HB.out | apply Qk | apply Ql | apply Qj | refine Qi ?_ GE320.out) | exact HB.out)) hb); clear HO326; clear HO329; clear HO332; clear BK320; clear HB; have HO326 := n0_; have HO329 := n1_; have HO332 := n2_; have HO335 := n3_; have BK320 := n4_; have HB := n5_; clear n0_ n1_ n2_ n3_ n4_ n5_; (try clear hb); (try clear hb2); (try clear hk); (try clear hi); (try clear ho0); obtain ⟨Ao29, co29, eo29⟩ := Kd.R_slice HO332.out; subst eo29; obtain ⟨Ao30, co30, eo30⟩ := Kd.R_slice HO335.out; subst eo30) | (go_at_call 11; (with_reducible refine (Qs1.calls kj1 _ _ t330 _ _ t333 t336 _ ?side1 ?side2 ?side3 ?side4 A22.out).mono ?_); (case side1 => repeat (first | exact (Kd.R_reads' HO332.out).2.2 | (with_reducible refine Kd.Qg1 ?_ _) | (with_reducible refine Kd.Qh1 ?_ _) | (with_reducible refine Kd.C_drew ?_))); (case side2 => exact (Kd.R_reads' HO332.out).2.1); (case side3 => repeat (first | exact (Kd.R_reads' HO335.out).2.2 | (with_reducible refine Kd.Qg1 ?_ _) | (with_reducible refine Kd.Qh1 ?_ _) | (with_reducible refine Kd.C_drew ?_))); (case side4 => exact (Kd.R_reads' HO335.out).2.1); rintro e w' ⟨rfl, ⟨nd, rfl⟩⟩))
    go_meet
    case rel => exact ⟨_, (!t336), (by first | rfl | (simp; done) | (simp [*]; done)), H', ⟨by have := HJ1.out; first | omega | exact Nat.le_refl _⟩, ⟨by (with_reducible repeat (first | apply Kd.Qv | apply Kd.Qw | apply Kd.Qr)); exact Kd.R_mono HO326.out (fun _ hk => trivial)⟩, ⟨by (with_reducible repeat (first | refine Qc ?_ _ | refine Qb ?_ | refine Qd ?_ _)); exact BK320.out⟩, ⟨by repeat (first | (with_reducible first | exact HB.out | apply Qk | apply Ql | apply Qj | refine Qi ?_ GE320.out) | exact HB.out)⟩⟩
   case rest =>
    clear HC15
    try clear c1
    try clear p2
    try clear c5
    try clear c8
    try clear c11
    try clear c13
    try clear c18
    try clear c18b0
    try clear c18b1
    try clear c18b2
    try clear hcz16_0
    try clear hcz16_1
    try clear hcz24_0
    try clear hcz24_1
    try clear hcz32_0
    try clear hcz32_1
    try clear hcz8_0
    try clear hcz8_1
    try clear hfz16_0
    try clear hfz16_1
    try clear hfz24_0
    try clear hfz24_1
    try clear hfz32_0
    try clear hfz32_1
    try clear hfz8_0
    try clear hfz8_1
    try clear p2
    obtain ⟨kq, x31_14, rfl, HA, HJ14, HO_3, BK320, HB⟩ := hcut
    cases kq with
    | zero => exact absurd HA.out (by simp [Qm1.j1])
    | succ kj14 =>
     have H := HA.out
     clear HA
     simp only [Qm1.j1] at H
     by_cases c33 : x31_14 = true
     ·
      subst c33
      have H1 : (some false) = some r := by rw [if_pos rfl] at H; exact H
      clear H
      have H := H1
      clear H1
      obtain rfl := Option.some.inj H
      go_wp2
      go_ret
      exact ⟨by first | rfl | (simp [Qt, Qu] <;> rfl) | (simp [*, Qt, Qu] <;> rfl), by repeat (first | (with_reducible first | exact HB.out | apply Qk | apply Ql | apply Qj | refine Qi ?_ GE320.out) | exact HB.out)⟩
     replace c33 := Bool.eq_false_iff.mpr c33
     subst c33
     have H1 : (if 0 ≤ (l0_1.length : Int) then (if ((l0_1.length : Int) : Int).toNat ≤ 93824992236885 then (Qm1.l0 kj14 t324 (List.replicate ((l0_1.length : Int) : Int).toNat z36) 0 l0_0 l0_1) else (none)) else (none)) = some r := by rw [if_neg (show ¬ (false = true) by decide)] at H; exact H
     clear H
     have H := H1
     clear H1
     by_cases c34 : 0 ≤ (l0_1.length : Int)
     rotate_left
     ·
      rw [if_neg c34] at H
      exact absurd H (by simp)
     rw [if_pos c34] at H
     have c34b0 := eq_true c34
     have c34b1 : decide (0 ≤ (l0_1.length : Int)) = true := decide_eq_true c34
     clear c34
     by_cases c35 : ((l0_1.length : Int) : Int).toNat ≤ 93824992236885
     rotate_left
     ·
      rw [if_neg c35] at H
      exact absurd H (by simp)
     rw [if_pos c35] at H
     have c35b0 := eq_true c35
     have c35b1 : decide (((l0_1.length : Int) : Int).toNat ≤ 93824992236885) = true := decide_eq_true c35
     clear c35
     obtain ⟨y337, hy337⟩ : ∃ y_ : List (S36), y_ = (List.replicate ((l0_1.length : Int) : Int).toNat z36) := ⟨_, rfl⟩
     replace H : (Qm1.l0 kj14 t324 y337 0 l0_0 l0_1) = some r := by first | (rw [hy337]; with_reducible exact H) | (have H2_ := (Option.bind_some _ _).symm.trans H; rw [hy337]; with_reducible exact H2_) | (have H2_ := (Option.bind_some _ _).symm.trans H; with_reducible exact H2_) | with_reducible exact H | (rw [hy337]; exact H) | exact H
     have Ny337 := Qa.mk hy337
     clear hy337
     have H' := Qa.mk H
     clear H
     have hcz36_0 : wc.cell? ⟨gb320, 0, none⟩ = some (.slice A0_0 l0_0.length c0_0) := (Qe BK320.out 0).trans rfl
     have hcz36_1 : wc.cell? ⟨gb320, 1, none⟩ = some (.slice A0_1 l0_1.length c0_1) := (Qe BK320.out 1).trans rfl
     have hfz36_0 := Qf BK320.out 0
     have hfz36_1 := Qf BK320.out 1
     go_wp2_with (first | ((with_reducible refine Qf1 (N := 35) rfl ?_); refine Kd.R_make k36 _ 36 rfl (N := 35) rfl 32 _ _ rfl (l0_1.length : Int) rfl rfl Try.underlying32 (.agg #[(.bool false), (.bool false), (.bool false)]) 3 info36 rfl (by decide) (by omega) z36 (ok := fun _ => True) (okp := fun _ => True) (k36_mkM _ _ _ z36 ) (fun _ hk => hk) trivial (of_decide_eq_true (by assumption)) (Nat.le_trans (Nat.mul_le_mul_right _ (of_decide_eq_true (by assumption) : (l0_1.length : Int).toNat ≤ 93824992236885)) (by omega)) (Below.refl _ _) (Nat.le_refl _) ?_; intro v338 w37 ho38 hb hg_ hnew_; clear hg_ hnew_; (first | rw [← Ny337.out] at ho38 | (simp only [Int.reduceToNat] at ho38; rw [← Ny337.out] at ho38)); have n0_ := Qa.mk (Kd.R_elder' (by (with_reducible repeat (first | apply Kd.Qv | apply Kd.Qw | apply Kd.Qr)); exact HO_3.out) (Kd.R_base ho38) hb); have n1_ := Qa.mk (Kd.R_lower (Kd.R_new' ho38 (Kd.R_lt (by (with_reducible repeat (first | apply Kd.Qv | apply Kd.Qw | apply Kd.Qr)); exact HO_3.out))) (Qc1 (by repeat (first | (with_reducible first | exact HB.out | apply Qk | apply Ql | apply Qj | refine Qi ?_ GE320.out) | exact HB.out)))); have n2_ := Qa.mk (Qq (g := gb320) (o := .cells #[.slice A0_0 l0_0.length c0_0, .slice A0_1 l0_1.length c0_1] 25 (0, 0)) (by (with_reducible repeat (first | refine Qc ?_ _ | refine Qb ?_ | refine Qd ?_ _)); exact BK320.out) hb); have n3_ := Qa.mk (Qs (by repeat (first | (with_reducible first | exact HB.out | apply Qk | apply Ql | apply Qj | refine Qi ?_ GE320.out) | exact HB.out)) hb); clear HO_3; clear BK320; clear HB; have HO_3 := n0_; have HO339 := n1_; have BK320 := n2_; have HB := n3_; clear n0_ n1_ n2_ n3_; clear hb ho38))
     go_loopg [4, 5] kj14 (fun kq v4 v5 w' => ∃ (x4_3 : List (S36)) (x5_3 : Int), v5 = .int .i64 x5_3 ∧ Qa (Qm1.l0 kq t324 x4_3 x5_3 l0_0 l0_1 = some r) ∧ Qa (kq ≤ kj14) ∧ Qa (Kd.R k36 36 w' w.heap.size (fun k_ => some k_ ≠ (v4 : Value).ownBlock) v325 t324) ∧ Qa (Kd.R k36 36 w' w.heap.size (fun k_ => some k_ ≠ (v325 : Value).ownBlock) v4 x4_3) ∧ Qa (w'.heap[gb320]? = some (.cells #[(.slice A0_0 l0_0.length c0_0), (.slice A0_1 l0_1.length c0_1)] 25 (0, 0))) ∧ Qa (Below w.heap.size w w'))
     case atStart => exact ⟨(y337), (0), (by first | rfl | (simp; done) | (simp [*]; done)), H', ⟨Nat.le_refl _⟩, ⟨by (with_reducible repeat (first | apply Kd.Qv | apply Kd.Qw | apply Kd.Qr)); exact Kd.R_mono HO_3.out (fun _ hk => hk.2)⟩, ⟨by (with_reducible repeat (first | apply Kd.Qv | apply Kd.Qw | apply Kd.Qr)); exact Kd.R_mono HO339.out (fun _ hk => hk.2)⟩, ⟨by (with_reducible repeat (first | refine Qc ?_ _ | refine Qb ?_ | refine Qd ?_ _)); exact BK320.out⟩, ⟨by repeat (first | (with_reducible first | exact HB.out | apply Qk | apply Ql | apply Qj | refine Qi ?_ GE320.out) | exact HB.out)⟩⟩
     case round =>
      clear H'
      try clear c1
      try clear p2
      try clear c3
      try clear c5
      try clear c8
      try clear c11
      try clear c13
      try clear c18
      try clear c18b0
      try clear c18b1
      try clear c18b2
      try clear c33
      try clear c34
      try clear c34b0
      try clear c34b1
      try clear c35
      try clear c35b0
      try clear c35b1
      try clear hcz16_0
      try clear hcz16_1
      try clear hcz24_0
      try clear hcz24_1
      try clear hcz32_0
      try clear hcz32_1
      try clear hcz36_0
      try clear hcz36_1
      try clear hcz8_0
      try clear hcz8_1
      try clear hfz16_0
      try clear hfz16_1
      try clear hfz24_0
      try clear hfz24_1
      try clear hfz32_0
      try clear hfz32_1
      try clear hfz36_0
      try clear hfz36_1
      try clear hfz8_0
      try clear hfz8_1
      try clear p2
      obtain ⟨x4_3, x5_3, rfl, HA, HK3, HO_3, HO_4, BK320, HB⟩ := hrel
      cases gk with
      | zero => exact absurd HA.out (by simp [Qm1.l0])
      | succ k3 =>
       have H := HA.out
       clear HA
       simp only [Qm1.l0] at H
       by_cases c39 : x5_3 < (wrap64 (3 * (l0_1.length : Int)))
       rotate_left
       ·
        rw [if_neg c39] at H
        have c39b0 : decide (x5_3 < (wrap64 (3 * (l0_1.length : Int)))) = false := decide_eq_false c39
        clear c39
        replace H := Option.bind_eq_some_iff.mp H
        obtain ⟨t340, A710, H⟩ := H
        replace H : ((Qo1.f k3 t324).bind fun t343 => ((Qs1.f k3 t340 t343).bind fun t346 => (some t346))) = some r := H
        have A71 := Qa.mk A710
        clear A710
        replace H := Option.bind_eq_some_iff.mp H
        obtain ⟨t343, A720, H⟩ := H
        replace H : ((Qs1.f k3 t340 t343).bind fun t346 => (some t346)) = some r := H
        have A72 := Qa.mk A720
        clear A720
        replace H := Option.bind_eq_some_iff.mp H
        obtain ⟨t346, A730, H⟩ := H
        replace H : (some t346) = some r := H
        have A73 := Qa.mk A730
        clear A730
        obtain rfl := Option.some.inj H
        have hcz74_0 : wr.cell? ⟨gb320, 0, none⟩ = some (.slice A0_0 l0_0.length c0_0) := (Qe BK320.out 0).trans rfl
        have hcz74_1 : wr.cell? ⟨gb320, 1, none⟩ = some (.slice A0_1 l0_1.length c0_1) := (Qe BK320.out 1).trans rfl
        have hfz74_0 := Qf BK320.out 0
        have hfz74_1 := Qf BK320.out 1
        obtain ⟨Ao75, co75, eo75⟩ := Kd.R_slice HO_4.out
        subst eo75
        go_wp2_with (first | ((with_reducible refine gate_callee (f := 12) rfl ?_); refine goesL_ (some 62) rfl rfl Try.func12 (by kernel_rfl) rfl #[.slice Ao75 x4_3.length co75] rfl (by (try simp only [List.map_toArray, List.map_cons, List.map_nil]); first | done | rfl | (simp only [List.length_drop, List.length_take]; rfl)) ?_; (with_reducible refine (Qo1.calls k3 _ _ x4_3 t340 _ ?side1 ?side2 A71.out).mono ?_); (case side1 => repeat (first | exact (Kd.R_reads' HO_4.out).2.2 | (with_reducible refine Kd.Qg1 ?_ _) | (with_reducible refine Kd.Qh1 ?_ _) | (with_reducible refine Kd.C_drew ?_))); (case side2 => exact (Kd.R_reads' HO_4.out).2.1); rintro e w76 ⟨v341, rfl, ho0, hb⟩; refine ⟨_, rfl, ?_⟩; have n0_ := Qa.mk (Kd.Qe1 (by (with_reducible repeat (first | apply Kd.Qv | apply Kd.Qw | apply Kd.Qr)); exact HO_3.out) hb); have n1_ := Qa.mk (Kd.Qe1 (by (with_reducible repeat (first | apply Kd.Qv | apply Kd.Qw | apply Kd.Qr)); exact HO_4.out) hb); have n2_ := Qa.mk (Kd.R_lower ho0 (Qc1 (by repeat (first | (with_reducible first | exact HB.out | apply Qk | apply Ql | apply Qj | refine Qi ?_ GE320.out) | exact HB.out)))); have n3_ := Qa.mk (Qq (g := gb320) (o := .cells #[.slice A0_0 l0_0.length c0_0, .slice A0_1 l0_1.length c0_1] 25 (0, 0)) (by (with_reducible repeat (first | refine Qc ?_ _ | refine Qb ?_ | refine Qd ?_ _)); exact BK320.out) hb); have n4_ := Qa.mk (Qs (by repeat (first | (with_reducible first | exact HB.out | apply Qk | apply Ql | apply Qj | refine Qi ?_ GE320.out) | exact HB.out)) hb); clear HO_3; clear HO_4; clear BK320; clear HB; have HO_3 := n0_; have HO_4 := n1_; have HO342 := n2_; have BK320 := n3_; have HB := n4_; clear n0_ n1_ n2_ n3_ n4_; (try clear hb); (try clear hb2); (try clear hk); (try clear hi); (try clear ho0); obtain ⟨Ao77, co77, eo77⟩ := Kd.R_slice HO_3.out; subst eo77) | ((with_reducible refine gate_callee (f := 12) rfl ?_); refine goesL_ (some 64) rfl rfl Try.func12 (by kernel_rfl) rfl #[.slice Ao77 t324.length co77] rfl (by (try simp only [List.map_toArray, List.map_cons, List.map_nil]); first | done | rfl | (simp only [List.length_drop, List.length_take]; rfl)) ?_; (with_reducible refine (Qo1.calls k3 _ _ t324 t343 _ ?side1 ?side2 A72.out).mono ?_); (case side1 => repeat (first | exact (Kd.R_reads' HO_3.out).2.2 | (with_reducible refine Kd.Qg1 ?_ _) | (with_reducible refine Kd.Qh1 ?_ _) | (with_reducible refine Kd.C_drew ?_))); (case side2 => exact (Kd.R_reads' HO_3.out).2.1); rintro e w78 ⟨v344, rfl, ho0, hb⟩; refine ⟨_, rfl, ?_⟩; have n0_ := Qa.mk (Kd.Qe1 (by (with_reducible repeat (first | apply Kd.Qv | apply Kd.Qw | apply Kd.Qr)); exact HO_3.out) hb); have n1_ := Qa.mk (Kd.Qe1 (by (with_reducible repeat (first | apply Kd.Qv | apply Kd.Qw | apply Kd.Qr)); exact HO_4.out) hb); have n2_ := Qa.mk (Kd.R_elder' (by (with_reducible repeat (first | apply Kd.Qv | apply Kd.Qw | apply Kd.Qr)); exact HO342.out) (Kd.R_base ho0) hb); have n3_ := Qa.mk (Kd.R_lower (Kd.R_new' ho0 (Kd.R_lt (by (with_reducible repeat (first | apply Kd.Qv | apply Kd.Qw | apply Kd.Qr)); exact HO342.out))) (Qc1 (by repeat (first | (with_reducible first | exact HB.out | apply Qk | apply Ql | apply Qj | refine Qi ?_ GE320.out) | exact HB.out)))); have n4_ := Qa.mk (Qq (g := gb320) (o := .cells #[.slice A0_0 l0_0.length c0_0, .slice A0_1 l0_1.length c0_1] 25 (0, 0)) (by (with_reducible repeat (first | refine Qc ?_ _ | refine Qb ?_ | refine Qd ?_ _)); exact BK320.out) hb); have n5_ := Qa.mk (Qs (by repeat (first | (with_reducible first | exact HB.out | apply Qk | apply Ql | apply Qj | refine Qi ?_ GE320.out) | exact HB.out)) hb); clear HO_3; clear HO_4; clear HO342; clear BK320; clear HB; have HO_3 := n0_; have HO_4 := n1_; have HO342 := n2_; have HO345 := n3_; have BK320 := n4_; have HB := n5_; clear n0_ n1_ n2_ n3_ n4_ n5_; (try clear hb); (try clear hb2); (try clear hk); (try clear hi); (try clear ho0); obtain ⟨Ao79, co79, eo79⟩ := Kd.R_slice HO342.out; subst eo79; obtain ⟨Ao80, co80, eo80⟩ := Kd.R_slice HO345.out; subst eo80) | ((with_reducible refine gate_callee (f := 11) rfl ?_); refine goesL_ (some 65) rfl rfl Try.func11 (by kernel_rfl) rfl #[.slice Ao79 t340.length co79, .slice Ao80 t343.length co80] rfl (by (try simp only [List.map_toArray, List.map_cons, List.map_nil]); first | done | rfl | (simp only [List.length_drop, List.length_take]; rfl)) ?_; (with_reducible refine (Qs1.calls k3 _ _ t340 _ _ t343 t346 _ ?side1 ?side2 ?side3 ?side4 A73.out).mono ?_); (case side1 => repeat (first | exact (Kd.R_reads' HO342.out).2.2 | (with_reducible refine Kd.Qg1 ?_ _) | (with_reducible refine Kd.Qh1 ?_ _) | (with_reducible refine Kd.C_drew ?_))); (case side2 => exact (Kd.R_reads' HO342.out).2.1); (case side3 => repeat (first | exact (Kd.R_reads' HO345.out).2.2 | (with_reducible refine Kd.Qg1 ?_ _) | (with_reducible refine Kd.Qh1 ?_ _) | (with_reducible refine Kd.C_drew ?_))); (case side4 => exact (Kd.R_reads' HO345.out).2.1); rintro e w' ⟨rfl, ⟨nd, rfl⟩⟩; refine ⟨_, rfl, ?_⟩))
        go_ret
        exact ⟨by first | rfl | (simp [Qt, Qu] <;> rfl) | (simp [*, Qt, Qu] <;> rfl), by repeat (first | (with_reducible first | exact HB.out | apply Qk | apply Ql | apply Qj | refine Qi ?_ GE320.out) | exact HB.out)⟩
       rw [if_pos c39] at H
       have c39b0 : decide (x5_3 < (wrap64 (3 * (l0_1.length : Int)))) = true := decide_eq_true c39
       clear c39
       replace H := Option.bind_eq_some_iff.mp H
       obtain ⟨t347, A400, H⟩ := H
       replace H : (if (t347.length : Int) = (l0_1.length : Int) then ((Qo1.f k3 t347).bind fun t350 => ((Qo1.f k3 t324).bind fun t353 => ((Qa1.f k3 t350 t353).bind fun t356 => (if t356 = true then (Qm1.l0 k3 t324 t347 (wrap64 (x5_3 + 1)) l0_0 l0_1) else (some false))))) else (some false)) = some r := H
       have A40 := Qa.mk A400
       clear A400
       by_cases c41 : (t347.length : Int) = (l0_1.length : Int)
       rotate_left
       ·
        rw [if_neg c41] at H
        have c41b0 : ((t347.length : Int) == (l0_1.length : Int)) = false := beq_eq_false_iff_ne.mpr c41
        have c41b1 : ((t347.length : Int) != (l0_1.length : Int)) = true := bne_iff_ne.mpr c41
        have c41b2 : (t347.length == l0_1.length) = false := by first | simpa using c41 | (simp at c41 ⊢; omega)
        obtain rfl := Option.some.inj H
        have hcz66_0 : wr.cell? ⟨gb320, 0, none⟩ = some (.slice A0_0 l0_0.length c0_0) := (Qe BK320.out 0).trans rfl
        have hcz66_1 : wr.cell? ⟨gb320, 1, none⟩ = some (.slice A0_1 l0_1.length c0_1) := (Qe BK320.out 1).trans rfl
        have hfz66_0 := Qf BK320.out 0
        have hfz66_1 := Qf BK320.out 1
        obtain ⟨Ao67, co67, eo67⟩ := Kd.R_slice HO_4.out
        subst eo67
        go_wp2_with (first | ((with_reducible refine gate_callee (f := 15) rfl ?_); refine goesL_ (some 46) rfl rfl Try.func15 (by kernel_rfl) rfl #[.agg #[.slice A0_0 l0_0.length c0_0, .slice A0_1 l0_1.length c0_1], .slice Ao67 x4_3.length co67] rfl (by (try simp only [List.map_toArray, List.map_cons, List.map_nil]); first | done | rfl | (simp only [List.length_drop, List.length_take]; rfl)) ?_; (with_reducible refine (flow_Step.calls k3 _ _ l0_0 _ _ l0_1 _ _ x4_3 t347 _ ?side1 ?side2 ?side3 ?side4 ?side5 ?side6 A40.out).mono ?_); (case side1 => repeat (first | exact (Kd.C_below HR0_0.out HB.out) | (with_reducible refine Kd.Qg1 ?_ _) | (with_reducible refine Kd.Qh1 ?_ _) | (with_reducible refine Kd.C_drew ?_))); (case side2 => exact HC0_0.out); (case side3 => repeat (first | exact (Kd.C_below HR0_1.out HB.out) | (with_reducible refine Kd.Qg1 ?_ _) | (with_reducible refine Kd.Qh1 ?_ _) | (with_reducible refine Kd.C_drew ?_))); (case side4 => exact HC0_1.out); (case side5 => repeat (first | exact (Kd.R_reads' HO_4.out).2.2 | (with_reducible refine Kd.Qg1 ?_ _) | (with_reducible refine Kd.Qh1 ?_ _) | (with_reducible refine Kd.C_drew ?_))); (case side6 => exact (Kd.R_reads' HO_4.out).2.1); rintro e w68 ⟨v348, rfl, ho0, hb⟩; refine ⟨_, rfl, ?_⟩; have n0_ := Qa.mk (Kd.R_elder' (by (with_reducible repeat (first | apply Kd.Qv | apply Kd.Qw | apply Kd.Qr)); exact HO_3.out) (Kd.R_base ho0) hb); have n1_ := Qa.mk (Kd.R_elder' (by (with_reducible repeat (first | apply Kd.Qv | apply Kd.Qw | apply Kd.Qr)); exact HO_4.out) (Kd.R_base ho0) hb); have n2_ := Qa.mk (Kd.R_lower (Kd.R_new' (Kd.R_new' ho0 (Kd.R_lt (by (with_reducible repeat (first | apply Kd.Qv | apply Kd.Qw | apply Kd.Qr)); exact HO_3.out))) (Kd.R_lt (by (with_reducible repeat (first | apply Kd.Qv | apply Kd.Qw | apply Kd.Qr)); exact HO_4.out))) (Qc1 (by repeat (first | (with_reducible first | exact HB.out | apply Qk | apply Ql | apply Qj | refine Qi ?_ GE320.out) | exact HB.out)))); have n3_ := Qa.mk (Qq (g := gb320) (o := .cells #[.slice A0_0 l0_0.length c0_0, .slice A0_1 l0_1.length c0_1] 25 (0, 0)) (by (with_reducible repeat (first | refine Qc ?_ _ | refine Qb ?_ | refine Qd ?_ _)); exact BK320.out) hb); have n4_ := Qa.mk (Qs (by repeat (first | (with_reducible first | exact HB.out | apply Qk | apply Ql | apply Qj | refine Qi ?_ GE320.out) | exact HB.out)) hb); clear HO_3; clear HO_4; clear BK320; clear HB; have HO_3 := n0_; have HO_4 := n1_; have HO349 := n2_; have BK320 := n3_; have HB := n4_; clear n0_ n1_ n2_ n3_ n4_; (try clear hb); (try clear hb2); (try clear hk); (try clear hi); (try clear ho0); obtain ⟨Ao69, co69, eo69⟩ := Kd.R_slice HO349.out; subst eo69; have hcz70_0 : w68.cell? ⟨gb320, 0, none⟩ = some (.slice A0_0 l0_0.length c0_0) := (Qe BK320.out 0).trans rfl; have hcz70_1 : w68.cell? ⟨gb320, 1, none⟩ = some (.slice A0_1 l0_1.length c0_1) := (Qe BK320.out 1).trans rfl; have hfz70_0 := Qf BK320.out 0; have hfz70_1 := Qf BK320.out 1))
        go_ret
        exact ⟨by first | rfl | (simp [Qt, Qu] <;> rfl) | (simp [*, Qt, Qu] <;> rfl), by repeat (first | (with_reducible first | exact HB.out | apply Qk | apply Ql | apply Qj | refine Qi ?_ GE320.out) | exact HB.out)⟩
       rw [if_pos c41] at H
       have c41b0 : ((t347.length : Int) == (l0_1.length : Int)) = true := beq_iff_eq.mpr c41
       have c41b1 : ((t347.length : Int) != (l0_1.length : Int)) = false := bne_eq_false_iff_eq.mpr c41
       have c41b2 : (t347.length == l0_1.length) = true := by first | simpa using c41 | (simp at c41 ⊢; omega)
       clear c41
       replace H := Option.bind_eq_some_iff.mp H
       obtain ⟨t350, A420, H⟩ := H
       replace H : ((Qo1.f k3 t324).bind fun t353 => ((Qa1.f k3 t350 t353).bind fun t356 => (if t356 = true then (Qm1.l0 k3 t324 t347 (wrap64 (x5_3 + 1)) l0_0 l0_1) else (some false)))) = some r := H
       have A42 := Qa.mk A420
       clear A420
       replace H := Option.bind_eq_some_iff.mp H
       obtain ⟨t353, A430, H⟩ := H
       replace H : ((Qa1.f k3 t350 t353).bind fun t356 => (if t356 = true then (Qm1.l0 k3 t324 t347 (wrap64 (x5_3 + 1)) l0_0 l0_1) else (some false))) = some r := H
       have A43 := Qa.mk A430
       clear A430
       replace H := Option.bind_eq_some_iff.mp H
       obtain ⟨t356, A440, H⟩ := H
       replace H : (if t356 = true then (Qm1.l0 k3 t324 t347 (wrap64 (x5_3 + 1)) l0_0 l0_1) else (some false)) = some r := H
       have A44 := Qa.mk A440
       clear A440
       by_cases c45 : t356 = true
       ·
        subst c45
        have H1 : (Qm1.l0 k3 t324 t347 (wrap64 (x5_3 + 1)) l0_0 l0_1) = some r := by rw [if_pos rfl] at H; exact H
        clear H
        have H := H1
        clear H1
        have H' := Qa.mk H
        clear H
        have hcz46_0 : wr.cell? ⟨gb320, 0, none⟩ = some (.slice A0_0 l0_0.length c0_0) := (Qe BK320.out 0).trans rfl
        have hcz46_1 : wr.cell? ⟨gb320, 1, none⟩ = some (.slice A0_1 l0_1.length c0_1) := (Qe BK320.out 1).trans rfl
        have hfz46_0 := Qf BK320.out 0
        have hfz46_1 := Qf BK320.out 1
        obtain ⟨Ao47, co47, eo47⟩ := Kd.R_slice HO_4.out
        subst eo47
        go_wp2_with (first | ((with_reducible refine gate_callee (f := 15) rfl ?_); refine goesL_ (some 46) rfl rfl Try.func15 (by kernel_rfl) rfl #[.agg #[.slice A0_0 l0_0.length c0_0, .slice A0_1 l0_1.length c0_1], .slice Ao47 x4_3.length co47] rfl (by (try simp only [List.map_toArray, List.map_cons, List.map_nil]); first | done | rfl | (simp only [List.length_drop, List.length_take]; rfl)) ?_; (with_reducible refine (flow_Step.calls k3 _ _ l0_0 _ _ l0_1 _ _ x4_3 t347 _ ?side1 ?side2 ?side3 ?side4 ?side5 ?side6 A40.out).mono ?_); (case side1 => repeat (first | exact (Kd.C_below HR0_0.out HB.out) | (with_reducible refine Kd.Qg1 ?_ _) | (with_reducible refine Kd.Qh1 ?_ _) | (with_reducible refine Kd.C_drew ?_))); (case side2 => exact HC0_0.out); (case side3 => repeat (first | exact (Kd.C_below HR0_1.out HB.out) | (with_reducible refine Kd.Qg1 ?_ _) | (with_reducible refine Kd.Qh1 ?_ _) | (with_reducible refine Kd.C_drew ?_))); (case side4 => exact HC0_1.out); (case side5 => repeat (first | exact (Kd.R_reads' HO_4.out).2.2 | (with_reducible refine Kd.Qg1 ?_ _) | (with_reducible refine Kd.Qh1 ?_ _) | (with_reducible refine Kd.C_drew ?_))); (case side6 => exact (Kd.R_reads' HO_4.out).2.1); rintro e w48 ⟨v348, rfl, ho0, hb⟩; refine ⟨_, rfl, ?_⟩; have n0_ := Qa.mk (Kd.R_elder' (by (with_reducible repeat (first | apply Kd.Qv | apply Kd.Qw | apply Kd.Qr)); exact HO_3.out) (Kd.R_base ho0) hb); have n1_ := Qa.mk (Kd.R_elder' (by (with_reducible repeat (first | apply Kd.Qv | apply Kd.Qw | apply Kd.Qr)); exact HO_4.out) (Kd.R_base ho0) hb); have n2_ := Qa.mk (Kd.R_lower (Kd.R_new' (Kd.R_new' ho0 (Kd.R_lt (by (with_reducible repeat (first | apply Kd.Qv | apply Kd.Qw | apply Kd.Qr)); exact HO_3.out))) (Kd.R_lt (by (with_reducible repeat (first | apply Kd.Qv | apply Kd.Qw | apply Kd.Qr)); exact HO_4.out))) (Qc1 (by repeat (first | (with_reducible first | exact HB.out | apply Qk | apply Ql | apply Qj | refine Qi ?_ GE320.out) | exact HB.out)))); have n3_ := Qa.mk (Qq (g := gb320) (o := .cells #[.slice A0_0 l0_0.length c0_0, .slice A0_1 l0_1.length c0_1] 25 (0, 0)) (by (with_reducible repeat (first | refine Qc ?_ _ | refine Qb ?_ | refine Qd ?_ _)); exact BK320.out) hb); have n4_ := Qa.mk (Qs (by repeat (first | (with_reducible first | exact HB.out | apply Qk | apply Ql | apply Qj | refine Qi ?_ GE320.out) | exact HB.out)) hb); clear HO_3; clear HO_4; clear BK320; clear HB; have HO_3 := n0_; have HO_4 := n1_; have HO349 := n2_; have BK320 := n3_; have HB := n4_; clear n0_ n1_ n2_ n3_ n4_; (try clear hb); (try clear hb2); (try clear hk); (try clear hi); (try clear ho0); obtain ⟨Ao49, co49, eo49⟩ := Kd.R_slice HO349.out; subst eo49; have hcz50_0 : w48.cell? ⟨gb320, 0, none⟩ = some (.slice A0_0 l0_0.length c0_0) := (Qe BK320.out 0).trans rfl; have hcz50_1 : w48.cell? ⟨gb320, 1, none⟩ = some (.slice A0_1 l0_1.length c0_1) := (Qe BK320.out 1).trans rfl; have hfz50_0 := Qf BK320.out 0; have hfz50_1 := Qf BK320.out 1) | (go_at_call 12; (with_reducible refine (Qo1.calls k3 _ _ t347 t350 _ ?side1 ?side2 A42.out).mono ?_); (case side1 => repeat (first | exact (Kd.R_reads' HO349.out).2.2 | (with_reducible refine Kd.Qg1 ?_ _) | (with_reducible refine Kd.Qh1 ?_ _) | (with_reducible refine Kd.C_drew ?_))); (case side2 => exact (Kd.R_reads' HO349.out).2.1); rintro e w51 ⟨v351, rfl, ho0, hb⟩; have n0_ := Qa.mk (Kd.Qe1 (by (with_reducible repeat (first | apply Kd.Qv | apply Kd.Qw | apply Kd.Qr)); exact HO_3.out) hb); have n1_ := Qa.mk (Kd.Qe1 (by (with_reducible repeat (first | apply Kd.Qv | apply Kd.Qw | apply Kd.Qr)); exact HO_4.out) hb); have n2_ := Qa.mk (Kd.Qe1 (by (with_reducible repeat (first | apply Kd.Qv | apply Kd.Qw | apply Kd.Qr)); exact HO349.out) hb); have n3_ := Qa.mk (Kd.R_lower ho0 (Qc1 (by repeat (first | (with_reducible first | exact HB.out | apply Qk | apply Ql | apply Qj | refine Qi ?_ GE320.out) | exact HB.out)))); have n4_ := Qa.mk (Qq (g := gb320) (o := .cells #[.slice A0_0 l0_0.length c0_0, .slice A0_1 l0_1.length c0_1] 25 (0, 0)) (by (with_reducible repeat (first | refine Qc ?_ _ | refine Qb ?_ | refine Qd ?_ _)); exact BK320.out) hb); have n5_ := Qa.mk (Qs (by repeat (first | (with_reducible first | exact HB.out | apply Qk | apply Ql | apply Qj | refine Qi ?_ GE320.out) | exact HB.out)) hb); clear HO_3; clear HO_4; clear HO349; clear BK320; clear HB; have HO_3 := n0_; have HO_4 := n1_; have HO349 := n2_; have HO352 := n3_; have BK320 := n4_; have HB := n5_; clear n0_ n1_ n2_ n3_ n4_ n5_; (try clear hb); (try clear hb2); (try clear hk); (try clear hi); (try clear ho0); obtain ⟨Ao52, co52, eo52⟩ := Kd.R_slice HO_3.out; subst eo52) | (go_at_call 12; (with_reducible refine (Qo1.calls k3 _ _ t324 t353 _ ?side1 ?side2 A43.out).mono ?_); (case side1 => repeat (first | exact (Kd.R_reads' HO_3.out).2.2 | (with_reducible refine Kd.Qg1 ?_ _) | (with_reducible refine Kd.Qh1 ?_ _) | (with_reducible refine Kd.C_drew ?_))); (case side2 => exact (Kd.R_reads' HO_3.out).2.1); rintro e w53 ⟨v354, rfl, ho0, hb⟩; have n0_ := Qa.mk (Kd.Qe1 (by (with_reducible repeat (first | apply Kd.Qv | apply Kd.Qw | apply Kd.Qr)); exact HO_3.out) hb); have n1_ := Qa.mk (Kd.Qe1 (by (with_reducible repeat (first | apply Kd.Qv | apply Kd.Qw | apply Kd.Qr)); exact HO_4.out) hb); have n2_ := Qa.mk (Kd.Qe1 (by (with_reducible repeat (first | apply Kd.Qv | apply Kd.Qw | apply Kd.Qr)); exact HO349.out) hb); have n3_ := Qa.mk (Kd.R_elder' (by (with_reducible repeat (first | apply Kd.Qv | apply Kd.Qw | apply Kd.Qr)); exact HO352.out) (Kd.R_base ho0) hb); have n4_ := Qa.mk (Kd.R_lower (Kd.R_new' ho0 (Kd.R_lt (by (with_reducible repeat (first | apply Kd.Qv | apply Kd.Qw | apply Kd.Qr)); exact HO352.out))) (Qc1 (by repeat (first | (with_reducible first | exact HB.out | apply Qk | apply Ql | apply Qj | refine Qi ?_ GE320.out) | exact HB.out)))); have n5_ := Qa.mk (Qq (g := gb320) (o := .cells #[.slice A0_0 l0_0.length c0_0, .slice A0_1 l0_1.length c0_1] 25 (0, 0)) (by (with_reducible repeat (first | refine Qc ?_ _ | refine Qb ?_ | refine Qd ?_ _)); exact BK320.out) hb); have n6_ := Qa.mk (Qs (by repeat (first | (with_reducible first | exact HB.out | apply Qk | apply Ql | apply Qj | refine Qi ?_ GE320.out) | exact HB.out)) hb); clear HO_3; clear HO_4; clear HO349; clear HO352; clear BK320; clear HB; have HO_3 := n0_; have HO_4 := n1_; have HO349 := n2_; have HO352 := n3_; have HO355 := n4_; have BK320 := n5_; have HB := n6_; clear n0_ n1_ n2_ n3_ n4_ n5_ n6_; (try clear hb); (try clear hb2); (try clear hk); (try clear hi); (try clear ho0); obtain ⟨Ao54, co54, eo54⟩ := Kd.R_slice HO352.out; subst eo54; obtain ⟨Ao55, co55, eo55⟩ := Kd.R_slice HO355.out; subst eo55) | (go_at_call 18; (with_reducible refine (Qa1.calls k3 _ _ t350 _ _ t353 true _ ?side1 ?side2 ?side3 ?side4 A44.out).mono ?_); (case side1 => repeat (first | exact (Kd.R_reads' HO352.out).2.2 | (with_reducible refine Kd.Qg1 ?_ _) | (with_reducible refine Kd.Qh1 ?_ _) | (with_reducible refine Kd.C_drew ?_))); (case side2 => exact (Kd.R_reads' HO352.out).2.1); (case side3 => repeat (first | exact (Kd.R_reads' HO355.out).2.2 | (with_reducible refine Kd.Qg1 ?_ _) | (with_reducible refine Kd.Qh1 ?_ _) | (with_reducible refine Kd.C_drew ?_))); (case side4 => exact (Kd.R_reads' HO355.out).2.1); rintro e w' ⟨rfl, ⟨nd, rfl⟩⟩))
        go_roundg k3
        case measure => have := HJ1.out; have := HJ14.out; have := HK3.out; omega
        case rel => exact ⟨(t347), (wrap64 (x5_3 + 1)), (by first | rfl | (simp; done) | (simp [*]; done)), H', ⟨by have := HJ1.out; have := HJ14.out; have := HK3.out; omega⟩, ⟨by (with_reducible repeat (first | apply Kd.Qv | apply Kd.Qw | apply Kd.Qr)); exact Kd.R_mono HO_3.out (fun _ hk => hk.2)⟩, ⟨by (with_reducible repeat (first | apply Kd.Qv | apply Kd.Qw | apply Kd.Qr)); exact Kd.R_mono HO349.out (fun _ hk => hk.1.2)⟩, ⟨by (with_reducible repeat (first | refine Qc ?_ _ | refine Qb ?_ | refine Qd ?_ _)); exact BK320.out⟩, ⟨by repeat (first | (with_reducible first | exact HB.out | apply Qk | apply Ql | apply Qj | refine Qi ?_ GE320.out) | exact HB.out)⟩⟩
       replace c45 := Bool.eq_false_iff.mpr c45
       subst c45
       have H1 : (some false) = some r := by rw [if_neg (show ¬ (false = true) by decide)] at H; exact H
       clear H
       have H := H1
       clear H1
       obtain rfl := Option.some.inj H
       have hcz56_0 : wr.cell? ⟨gb320, 0, none⟩ = some (.slice A0_0 l0_0.length c0_0) := (Qe BK320.out 0).trans rfl
       have hcz56_1 : wr.cell? ⟨gb320, 1, none⟩ = some (.slice A0_1 l0_1.length c0_1) := (Qe BK320.out 1).trans rfl
       have hfz56_0 := Qf BK320.out 0
       have hfz56_1 := Qf BK320.out 1
       obtain ⟨Ao57, co57, eo57⟩ := Kd.R_slice HO_4.out
       subst eo57
       go_wp2_with (first | ((with_reducible refine gate_callee (f := 15) rfl ?_); refine goesL_ (some 46) rfl rfl Try.func15 (by kernel_rfl) rfl #[.agg #[.slice A0_0 l0_0.length c0_0, .slice A0_1 l0_1.length c0_1], .slice Ao57 x4_3.length co57] rfl (by (try simp only [List.map_toArray, List.map_cons, List.map_nil]); first | done | rfl | (simp only [List.length_drop, List.length_take]; rfl)) ?_; (with_reducible refine (flow_Step.calls k3 _ _ l0_0 _ _ l0_1 _ _ x4_3 t347 _ ?side1 ?side2 ?side3 ?side4 ?side5 ?side6 A40.out).mono ?_); (case side1 => repeat (first | exact (Kd.C_below HR0_0.out HB.out) | (with_reducible refine Kd.Qg1 ?_ _) | (with_reducible refine Kd.Qh1 ?_ _) | (with_reducible refine Kd.C_drew ?_))); (case side2 => exact HC0_0.out); (case side3 => repeat (first | exact (Kd.C_below HR0_1.out HB.out) | (with_reducible refine Kd.Qg1 ?_ _) | (with_reducible refine Kd.Qh1 ?_ _) | (with_reducible refine Kd.C_drew ?_))); (case side4 => exact HC0_1.out); (case side5 => repeat (first | exact (Kd.R_reads' HO_4.out).2.2 | (with_reducible refine Kd.Qg1 ?_ _) | (with_reducible refine Kd.Qh1 ?_ _) | (with_reducible refine Kd.C_drew ?_))); (case side6 => exact (Kd.R_reads' HO_4.out).2.1); rintro e w58 ⟨v348, rfl, ho0, hb⟩; refine ⟨_, rfl, ?_⟩; have n0_ := Qa.mk (Kd.R_elder' (by (with_reducible repeat (first | apply Kd.Qv | apply Kd.Qw | apply Kd.Qr)); exact HO_3.out) (Kd.R_base ho0) hb); have n1_ := Qa.mk (Kd.R_elder' (by (with_reducible repeat (first | apply Kd.Qv | apply Kd.Qw | apply Kd.Qr)); exact HO_4.out) (Kd.R_base ho0) hb); have n2_ := Qa.mk (Kd.R_lower (Kd.R_new' (Kd.R_new' ho0 (Kd.R_lt (by (with_reducible repeat (first | apply Kd.Qv | apply Kd.Qw | apply Kd.Qr)); exact HO_3.out))) (Kd.R_lt (by (with_reducible repeat (first | apply Kd.Qv | apply Kd.Qw | apply Kd.Qr)); exact HO_4.out))) (Qc1 (by repeat (first | (with_reducible first | exact HB.out | apply Qk | apply Ql | apply Qj | refine Qi ?_ GE320.out) | exact HB.out)))); have n3_ := Qa.mk (Qq (g := gb320) (o := .cells #[.slice A0_0 l0_0.length c0_0, .slice A0_1 l0_1.length c0_1] 25 (0, 0)) (by (with_reducible repeat (first | refine Qc ?_ _ | refine Qb ?_ | refine Qd ?_ _)); exact BK320.out) hb); have n4_ := Qa.mk (Qs (by repeat (first | (with_reducible first | exact HB.out | apply Qk | apply Ql | apply Qj | refine Qi ?_ GE320.out) | exact HB.out)) hb); clear HO_3; clear HO_4; clear BK320; clear HB; have HO_3 := n0_; have HO_4 := n1_; have HO349 := n2_; have BK320 := n3_; have HB := n4_; clear n0_ n1_ n2_ n3_ n4_; (try clear hb); (try clear hb2); (try clear hk); (try clear hi); (try clear ho0); obtain ⟨Ao59, co59, eo59⟩ := Kd.R_slice HO349.out; subst eo59; have hcz60_0 : w58.cell? ⟨gb320, 0, none⟩ = some (.slice A0_0 l0_0.length c0_0) := (Qe BK320.out 0).trans rfl; have hcz60_1 : w58.cell? ⟨gb320, 1, none⟩ = some (.slice A0_1 l0_1.length c0_1) := (Qe BK320.out 1).trans rfl; have hfz60_0 := Qf BK320.out 0; have hfz60_1 := Qf BK320.out 1) | (go_at_call 12; (with_reducible refine (Qo1.calls k3 _ _ t347 t350 _ ?side1 ?side2 A42.out).mono ?_); (case side1 => repeat (first | exact (Kd.R_reads' HO349.out).2.2 | (with_reducible refine Kd.Qg1 ?_ _) | (with_reducible refine Kd.Qh1 ?_ _) | (with_reducible refine Kd.C_drew ?_))); (case side2 => exact (Kd.R_reads' HO349.out).2.1); rintro e w61 ⟨v351, rfl, ho0, hb⟩; have n0_ := Qa.mk (Kd.Qe1 (by (with_reducible repeat (first | apply Kd.Qv | apply Kd.Qw | apply Kd.Qr)); exact HO_3.out) hb); have n1_ := Qa.mk (Kd.Qe1 (by (with_reducible repeat (first | apply Kd.Qv | apply Kd.Qw | apply Kd.Qr)); exact HO_4.out) hb); have n2_ := Qa.mk (Kd.Qe1 (by (with_reducible repeat (first | apply Kd.Qv | apply Kd.Qw | apply Kd.Qr)); exact HO349.out) hb); have n3_ := Qa.mk (Kd.R_lower ho0 (Qc1 (by repeat (first | (with_reducible first | exact HB.out | apply Qk | apply Ql | apply Qj | refine Qi ?_ GE320.out) | exact HB.out)))); have n4_ := Qa.mk (Qq (g := gb320) (o := .cells #[.slice A0_0 l0_0.length c0_0, .slice A0_1 l0_1.length c0_1] 25 (0, 0)) (by (with_reducible repeat (first | refine Qc ?_ _ | refine Qb ?_ | refine Qd ?_ _)); exact BK320.out) hb); have n5_ := Qa.mk (Qs (by repeat (first | (with_reducible first | exact HB.out | apply Qk | apply Ql | apply Qj | refine Qi ?_ GE320.out) | exact HB.out)) hb); clear HO_3; clear HO_4; clear HO349; clear BK320; clear HB; have HO_3 := n0_; have HO_4 := n1_; have HO349 := n2_; have HO352 := n3_; have BK320 := n4_; have HB := n5_; clear n0_ n1_ n2_ n3_ n4_ n5_; (try clear hb); (try clear hb2); (try clear hk); (try clear hi); (try clear ho0); obtain ⟨Ao62, co62, eo62⟩ := Kd.R_slice HO_3.out; subst eo62) | (go_at_call 12; (with_reducible refine (Qo1.calls k3 _ _ t324 t353 _ ?side1 ?side2 A43.out).mono ?_); (case side1 => repeat (first | exact (Kd.R_reads' HO_3.out).2.2 | (with_reducible refine Kd.Qg1 ?_ _) | (with_reducible refine Kd.Qh1 ?_ _) | (with_reducible refine Kd.C_drew ?_))); (case side2 => exact (Kd.R_reads' HO_3.out).2.1); rintro e w63 ⟨v354, rfl, ho0, hb⟩; have n0_ := Qa.mk (Kd.Qe1 (by (with_reducible repeat (first | apply Kd.Qv | apply Kd.Qw | apply Kd.Qr)); exact HO_3.out) hb); have n1_ := Qa.mk (Kd.Qe1 (by (with_reducible repeat (first | apply Kd.Qv | apply Kd.Qw | apply Kd.Qr)); exact HO_4.out) hb); have n2_ := Qa.mk (Kd.Qe1 (by (with_reducible repeat (first | apply Kd.Qv | apply Kd.Qw | apply Kd.Qr)); exact HO349.out) hb); have n3_ := Qa.mk (Kd.R_elder' (by (with_reducible repeat (first | apply Kd.Qv | apply Kd.Qw | apply Kd.Qr)); exact HO352.out) (Kd.R_base ho0) hb); have n4_ := Qa.mk (Kd.R_lower (Kd.R_new' ho0 (Kd.R_lt (by (with_reducible repeat (first | apply Kd.Qv | apply Kd.Qw | apply Kd.Qr)); exact HO352.out))) (Qc1 (by repeat (first | (with_reducible first | exact HB.out | apply Qk | apply Ql | apply Qj | refine Qi ?_ GE320.out) | exact HB.out)))); have n5_ := Qa.mk (Qq (g := gb320) (o := .cells #[.slice A0_0 l0_0.length c0_0, .slice A0_1 l0_1.length c0_1] 25 (0, 0)) (by (with_reducible repeat (first | refine Qc ?_ _ | refine Qb ?_ | refine Qd ?_ _)); exact BK320.out) hb); have n6_ := Qa.mk (Qs (by repeat (first | (with_reducible first | exact HB.out | apply Qk | apply Ql | apply Qj | refine Qi ?_ GE320.out) | exact HB.out)) hb); clear HO_3; clear HO_4; clear HO349; clear HO352; clear BK320; clear HB; have HO_3 := n0_; have HO_4 := n1_; have HO349 := n2_; have HO352 := n3_; have HO355 := n4_; have BK320 := n5_; have HB := n6_; clear n0_ n1_ n2_ n3_ n4_ n5_ n6_; (try clear hb); (try clear hb2); (try clear hk); (try clear hi); (try clear ho0); obtain ⟨Ao64, co64, eo64⟩ := Kd.R_slice HO352.out; subst eo64; obtain ⟨Ao65, co65, eo65⟩ := Kd.R_slice HO355.out; subst eo65) | (go_at_call 18; (with_reducible refine (Qa1.calls k3 _ _ t350 _ _ t353 false _ ?side1 ?side2 ?side3 ?side4 A44.out).mono ?_); (case side1 => repeat (first | exact (Kd.R_reads' HO352.out).2.2 | (with_reducible refine Kd.Qg1 ?_ _) | (with_reducible refine Kd.Qh1 ?_ _) | (with_reducible refine Kd.C_drew ?_))); (case side2 => exact (Kd.R_reads' HO352.out).2.1); (case side3 => repeat (first | exact (Kd.R_reads' HO355.out).2.2 | (with_reducible refine Kd.Qg1 ?_ _) | (with_reducible refine Kd.Qh1 ?_ _) | (with_reducible refine Kd.C_drew ?_))); (case side4 => exact (Kd.R_reads' HO355.out).2.1); rintro e w' ⟨rfl, ⟨nd, rfl⟩⟩))
       go_ret
       exact ⟨by first | rfl | (simp [Qt, Qu] <;> rfl) | (simp [*, Qt, Qu] <;> rfl), by repeat (first | (with_reducible first | exact HB.out | apply Qk | apply Ql | apply Qj | refine Qi ?_ GE320.out) | exact HB.out)⟩
end Go.Proofs.Ytnaanamibfpbpaa.V
namespace Go.Proofs.Ytnaanamibfpbpaa.V
open Go.RowKit Go.Proofs.YtnaanamibfpbpaaW.PrintWords
set_option linter.unusedVariables false
set_option linter.unusedSimpArgs false
set_option linter.unusedSectionVars false
theorem few_ev (R : List RuleT) (G : List NodeT) (hR : R.length ≤ maxLen) (hG : G.length ≤ maxLen) : ∃ v, Ev (fun k => Qq1.f k R G) v ∧ (v = true → R.length ≤ 30 ∧ G.length ≤ 300 ∧ ∀ i : Int, 0 ≤ i → i < (G.length : Int) → (nodeAt G i).f1.length ≤ 60) := by
  have hG' : G.length ≤ 9223372036854775807 := hG
  have hR' : R.length ≤ 9223372036854775807 := hR
  have l1 : ∀ (n : Nat) (i : Int), 0 ≤ i → i.toNat + n = G.length → (∀ p : Int, 0 ≤ p → p < i → (nodeAt G p).f1.length ≤ 60) → ∃ v, Ev (fun k => Qq1.l1 k i R G) v ∧ (v = true → R.length ≤ 30 ∧ G.length ≤ 300 ∧ ∀ i : Int, 0 ≤ i → i < (G.length : Int) → (nodeAt G i).f1.length ≤ 60) := by
    intro n
    induction n with
    | zero =>
      intro i h0 hn hp
      by_cases c : (R.length : Int) ≤ 30
      · exact ⟨_, Ev.succ (g := fun _ => some (decide ((G.length : Int) ≤ 300))) (fun k => by rw [Qq1.l1, if_neg (by omega), if_pos c]) (Ev.const _), fun h => ⟨by omega, by have := of_decide_eq_true h; omega, fun p h1 h2 => hp p h1 (by omega)⟩⟩
      · exact ⟨false, Ev.succ (g := fun _ => some false) (fun k => by rw [Qq1.l1, if_neg (by omega), if_neg c]) (Ev.const _), fun h => absurd h (by decide)⟩
    | succ n ih =>
      intro i h0 hn hp
      by_cases c : (((nodeAt G i).f1).length : Int) > 60
      · exact ⟨false, Ev.succ (g := fun _ => some false) (fun k => by rw [Qq1.l1, if_pos (by omega), if_pos h0, if_pos c]) (Ev.const _), fun h => absurd h (by decide)⟩
      · obtain ⟨v, hv, hs⟩ := ih (i + 1) (by omega) (by omega) (fun p h1 h2 => by
          by_cases e : p = i
          · subst e; omega
          · exact hp p h1 (by omega))
        refine ⟨v, Ev.succ (fun k => by rw [Qq1.l1, if_pos (by omega), if_pos h0, if_neg c]) ?_, hs⟩
        rw [w64p _ (by omega)]
        exact hv
  have l0 : ∀ (n : Nat) (i : Int), 0 ≤ i → i.toNat + n = R.length → ∃ v, Ev (fun k => Qq1.l0 k i R G) v ∧ (v = true → R.length ≤ 30 ∧ G.length ≤ 300 ∧ ∀ i : Int, 0 ≤ i → i < (G.length : Int) → (nodeAt G i).f1.length ≤ 60) := by
    intro n
    induction n with
    | zero =>
      intro i h0 hn
      obtain ⟨v, hv, hs⟩ := l1 G.length 0 (Int.le_refl _) (by simp) (fun p h1 h2 => absurd h2 (by omega))
      exact ⟨v, Ev.succ (fun k => by rw [Qq1.l0, if_neg (by omega)]) hv, hs⟩
    | succ n ih =>
      intro i h0 hn
      by_cases c : (((ruleAt R i).f0).size : Int) > 100
      · exact ⟨false, Ev.succ (g := fun _ => some false) (fun k => by rw [Qq1.l0, if_pos (by omega), if_pos h0, if_pos c]) (Ev.const _), fun h => absurd h (by decide)⟩
      · obtain ⟨v, hv, hs⟩ := ih (i + 1) (by omega) (by omega)
        refine ⟨v, Ev.succ (fun k => by rw [Qq1.l0, if_pos (by omega), if_pos h0, if_neg c]) ?_, hs⟩
        rw [w64p _ (by omega)]
        exact hv
  obtain ⟨v, hv, hs⟩ := l0 R.length 0 (Int.le_refl _) (by simp)
  exact ⟨v, hv, hs⟩
structure Small (R : List RuleT) (G : List NodeT) : Prop where
  wf : WF R G
  rules : R.length ≤ 30
  nodes : G.length ≤ 300
  kids : ∀ i : Int, 0 ≤ i → i < (G.length : Int) → (nodeAt G i).f1.length ≤ 60
theorem small_ev {R : List RuleT} {G : List NodeT} (hR : R.length ≤ maxLen ∧ ∀ y ∈ R, Ok39 y) (hG : G.length ≤ maxLen ∧ ∀ y ∈ G, Ok53 y) : ∃ v, Ev (fun k => vetchref05_Small.f k R G) v ∧ (v = true → Small R G) := by
  obtain ⟨b, hb, hbs⟩ := few_ev R G hR.1 hG.1
  cases b with
  | false => exact ⟨false, Ev.bind hb (Ev.of_eq fun _ => if_neg (by decide)), fun h => absurd h (by decide)⟩
  | true =>
    obtain ⟨v, hv, hs⟩ := valid_ev R G hR hG
    exact ⟨v, Ev.bind hb (Ev.congr (fun k => if_pos rfl) (Ev.bind hv (Ev.const _))), fun h => ⟨hs h, (hbs rfl).1, (hbs rfl).2.1, (hbs rfl).2.2⟩⟩
end Go.Proofs.Ytnaanamibfpbpaa.V
namespace Go.Proofs.Ytnaanamibfpbpaa.V
open Go.RowKit Go.Proofs.YtnaanamibfpbpaaW.PrintWords Go.Proofs.YtnaanamibfpbpaaW.PrintLast Go.Proofs.YtnaanamibfpbpaaW.PrintMore
attribute [local go_sem] max2_int min2_int max_two min_two max_three min_three max_four min_four tdiv_most
set_option linter.unusedVariables false
set_option linter.unusedSimpArgs false
end Go.Proofs.Ytnaanamibfpbpaa.V
namespace Go.Proofs.Ytnaanamibfpbpaa.V
open Go.RowKit Go.Proofs.YtnaanamibfpbpaaW.PrintWords
set_option linter.unusedVariables false
set_option linter.unusedSimpArgs false
set_option linter.unusedSectionVars false
theorem at_ofR (l : List FactT) (i : Int) : flowAt (l.map ofR) i = ofR (Qz l i) := by
  show (l.map ofR).getD i.toNat _ = ofR (l.getD i.toNat _)
  rw [List.getD_eq_getElem?_getD, List.getD_eq_getElem?_getD, List.getElem?_map]
  cases l[i.toNat]? <;> rfl
theorem map_toR_ofR (l : List FactT) : (l.map ofR).map toR = l := by
  rw [List.map_map, show toR ∘ ofR = id from rfl, List.map_id]
theorem take_map_succ {α β : Type} (f : α → β) (g : Int → α) (l : List α) (j : Nat) (h : j < l.length) (hg : g (j : Int) = l[j]) : (l.take (j + 1)).map f = (l.take j).map f ++ [f (g (j : Int))] := by
  rw [List.take_succ_eq_append_getElem h, List.map_append, hg]
  rfl
theorem back_ev (O : List FlowT) (hO : O.length ≤ 1000000) : Ev (fun k => Qo1.f k O) (O.map toR) := by
  have l0 : ∀ (d j : Nat), j + d = O.length → Ev (fun k => Qo1.l0 k O ((O.take j).map toR) (j : Int)) (O.map toR) := by
    intro d
    induction d with
    | zero =>
      intro j hj
      rw [List.take_of_length_le (by omega)]
      exact Ev.succ (g := fun _ => some _) (fun k => by rw [Qo1.l0, if_neg (by omega)]) (Ev.const _)
    | succ d ih =>
      intro j hj
      have hjl : j < O.length := by omega
      have hl : ((O.take j).map toR).length < 46912496118442 := by simp; omega
      refine Ev.succ (fun k => by rw [Qo1.l0, if_pos (by omega), if_pos (by omega), if_pos hl, w64p _ (by omega), show (j : Int) + 1 = ((j + 1 : Nat) : Int) by omega]) ?_
      have := ih (j + 1) (by omega)
      rw [take_map_succ toR (flowAt O) O j hjl (by show O.getD ((j : Int).toNat) _ = _; rw [List.getD_eq_getElem?_getD, Int.toNat_natCast, List.getElem?_eq_getElem hjl]; rfl)] at this
      exact this
  exact l0 O.length 0 (by omega)
theorem within_ev (a b : List FactT) (hl : a.length = b.length) (ha : a.length ≤ 1000000) : ∃ v, Ev (fun k => Qa1.f k a b) v ∧ (v = true ↔ ∀ i : Int, FLe (Qz a i) (Qz b i)) := by
  have l0 : ∀ (d j : Nat), j + d = a.length → (∀ i : Int, 0 ≤ i → i < (j : Int) → FLe (Qz a i) (Qz b i)) → ∃ v, Ev (fun k => Qa1.l0 k a b (j : Int)) v ∧ (v = true ↔ ∀ i : Int, FLe (Qz a i) (Qz b i)) := by
    intro d
    induction d with
    | zero =>
      intro j hj hp
      refine ⟨true, Ev.succ (g := fun k => Qa1.j1 k a b (j : Int) false) (fun k => by rw [Qa1.l0, if_neg (by omega)]) (Ev.succ (g := fun _ => some true) (fun k => by rw [Qa1.j1, if_neg (by decide), hl]; simp) (Ev.const _)), fun _ i => ?_, fun _ => rfl⟩
      by_cases h : (i.toNat : Int) < (a.length : Int)
      · rw [fact_neg, fact_neg b]
        exact hp _ (by omega) (by omega)
      · rw [fact_out a i (by omega)]
        exact ⟨fun h => absurd h (by decide), fun h => absurd h (by decide), fun h => absurd h (by decide)⟩
    | succ d ih =>
      intro j hj hp
      have e1 : ∀ k, Qa1.l0 (k + 2) a b (j : Int) = Qa1.j1 (k + 1) a b (j : Int) true := fun k => by
        rw [Qa1.l0, if_pos (by omega), decide_eq_true (show (j : Int) < (b.length : Int) by omega)]
      by_cases hle : FLe (Qz a (j : Int)) (Qz b (j : Int))
      · obtain ⟨v, hv, hs⟩ := ih (j + 1) (by omega) (fun i h0 h1 => by
          by_cases e : i = (j : Int)
          · subst e; exact hle
          · exact hp i h0 (by omega))
        refine ⟨v, ?_, hs⟩
        refine Ev.succ (g := fun k => Qa1.j1 k a b (j : Int) true) (fun k => by rw [Qa1.l0, if_pos (by omega), decide_eq_true (show (j : Int) < (b.length : Int) by omega)]) (Ev.succ (fun k => ?_) hv)
        obtain ⟨g0, g1, g2⟩ := hle
        rw [Qa1.j1, if_pos rfl, if_pos (by omega), if_pos (by omega), w64p _ (by omega), show (j : Int) + 1 = ((j + 1 : Nat) : Int) by omega]
        have hb : (j : Int) < (b.length : Int) := by omega
        change (Qz a (j : Int)).f0 = true → (Qo b (j : Int)).f0 = true at g0
        change (Qz a (j : Int)).f1 = true → (Qo b (j : Int)).f1 = true at g1
        change (Qz a (j : Int)).f2 = true → (Qo b (j : Int)).f2 = true at g2
        change (Qo a (j : Int)).f0 = true → _ at g0
        change (Qo a (j : Int)).f1 = true → _ at g1
        change (Qo a (j : Int)).f2 = true → _ at g2
        generalize Qo a (j : Int) = x at g0 g1 g2 ⊢
        generalize Qo b (j : Int) = y at g0 g1 g2 ⊢
        obtain ⟨x0, x1, x2⟩ := x
        obtain ⟨y0, y1, y2⟩ := y
        cases x0 <;> cases x1 <;> cases x2 <;> simp_all
      · refine ⟨false, ?_, fun h => absurd h (by decide), fun h => absurd (h (j : Int)) hle⟩
        refine Ev.succ (g := fun k => Qa1.j1 k a b (j : Int) true) (fun k => by rw [Qa1.l0, if_pos (by omega), decide_eq_true (show (j : Int) < (b.length : Int) by omega)]) (Ev.succ (g := fun _ => some false) (fun k => ?_) (Ev.const _))
        have hb : (j : Int) < (b.length : Int) := by omega
        rw [Qa1.j1, if_pos rfl, if_pos (by omega), if_pos (by omega)]
        change ¬ FLe (Qo a (j : Int)) (Qo b (j : Int)) at hle
        generalize Qo a (j : Int) = x at hle ⊢
        generalize Qo b (j : Int) = y at hle ⊢
        obtain ⟨x0, x1, x2⟩ := x
        obtain ⟨y0, y1, y2⟩ := y
        unfold FLe at hle
        cases x0 <;> cases x1 <;> cases x2 <;> cases y0 <;> cases y1 <;> cases y2 <;> simp_all
  exact l0 a.length 0 (by omega) (fun i h0 h1 => absurd h1 (by omega))
section
variable {R : List RuleT} {G : List NodeT} (hs : Small R G)
include hs
theorem small_fit : fitB R G = true := by
  unfold fitB
  rw [Bool.and_eq_true, decide_eq_true_eq, List.all_eq_true]
  refine ⟨⟨hs.wf.nodes.1, hs.nodes⟩, fun nd hm => ?_⟩
  obtain ⟨i, hi, rfl⟩ := List.getElem_of_mem hm
  have e : nodeAt G (i : Int) = G[i] := by
    show G.getD ((i : Int).toNat) _ = _
    rw [List.getD_eq_getElem?_getD, Int.toNat_natCast, List.getElem?_eq_getElem hi]
    rfl
  rw [← e, fit_iff]
  have hm := hs.wf.made (i : Int) (by omega) (by omega)
  refine ⟨hm.1, hm.2.1, hs.kids _ (by omega) (by omega), fun c hc => by have := hs.wf.kids (i : Int) (by omega) (by omega) c hc; omega, ?_, ?_⟩
  · by_cases c : (nodeAt G (i : Int)).f0 ≤ 4
    · exact .inl c
    · have := hm.2.2.2.2.2.1 (by omega)
      exact .inr (by omega)
  · by_cases c : (nodeAt G (i : Int)).f0 = 2
    · obtain ⟨a, b⟩ := hm.2.2.2.2.2.2.1 c
      have := hs.wf.roots _ a b
      exact .inr ⟨a, b, this.1, this.2⟩
    · exact .inl c
theorem flow_of_ev : Ev (fun k => flow_Of.f k R G) ((leastL R G).map ofR) := ⟨20000, fun j hj => by
  show flow_Of.f j R G = _
  unfold flow_Of.f
  rw [if_pos ⟨small_fit hs, hj⟩]⟩
theorem flow_step_ev (L : List FlowT) (hL : L.length = G.length) : Ev (fun k => flow_Step.f k R G L) ((stepL R G (L.map toR)).map ofR) := by
  have hf := fit_of (small_fit hs)
  have hn := hs.nodes
  have hst : ((stepL R G (L.map toR)).map ofR).length = G.length := by rw [List.length_map, step_length]
  have l0 : ∀ (d j : Nat), j + d = G.length → Ev (fun k => flow_Step.l0 k L (((stepL R G (L.map toR)).map ofR).take j ++ List.replicate d z36) (G.length : Int) (j : Int) R G) ((stepL R G (L.map toR)).map ofR) := by
    intro d
    induction d with
    | zero =>
      intro j hj
      rw [List.take_of_length_le (by omega), List.replicate_zero, List.append_nil]
      exact Ev.succ (g := fun _ => some _) (fun k => by rw [flow_Step.l0, if_neg (by omega)]) (Ev.const _)
    | succ d ih =>
      intro j hj
      have hjl : j < ((stepL R G (L.map toR)).map ofR).length := by omega
      have hnode : Ev (fun k => flow_node.f k R G (j : Int) L) (Ql1.p R (L.map toR) (nodeAt G (j : Int))) := ⟨200, fun k hk => node_val hf L hL (j : Int) (by omega) (by omega) k hk⟩
      have hlen : (((stepL R G (L.map toR)).map ofR).take j ++ List.replicate (d + 1) z36).length = G.length := by rw [List.length_append, List.length_take, List.length_replicate]; omega
      refine Ev.succ (fun k => by rw [flow_Step.l0, if_pos (by omega)]) (Ev.bind hnode (Ev.congr (fun k => by rw [if_pos (by omega), if_pos (by omega), w64p _ (by omega), show (j : Int) + 1 = ((j + 1 : Nat) : Int) by omega]) ?_))
      have := ih (j + 1) (by omega)
      rw [List.take_succ_eq_append_getElem hjl, List.append_assoc] at this
      have e : ((stepL R G (L.map toR)).map ofR)[j] = (⟨(Ql1.p R (L.map toR) (nodeAt G (j : Int))).1, (Ql1.p R (L.map toR) (nodeAt G (j : Int))).2.1, (Ql1.p R (L.map toR) (nodeAt G (j : Int))).2.2⟩ : FlowT) := by
        have h1 := at_ofR (stepL R G (L.map toR)) (j : Int)
        rw [fact_step R G _ (j : Int) (by omega) (by omega)] at h1
        have h2 : flowAt ((stepL R G (L.map toR)).map ofR) (j : Int) = ((stepL R G (L.map toR)).map ofR)[j] := by
          show List.getD _ ((j : Int).toNat) _ = _
          rw [List.getD_eq_getElem?_getD, Int.toNat_natCast, List.getElem?_eq_getElem hjl]
          rfl
        rw [← h2, h1]
        rfl
      rw [e] at this
      have e2 : (((stepL R G (L.map toR)).map ofR).take j ++ List.replicate (d + 1) z36).set ((j : Int).toNat) (⟨(Ql1.p R (L.map toR) (nodeAt G (j : Int))).1, (Ql1.p R (L.map toR) (nodeAt G (j : Int))).2.1, (Ql1.p R (L.map toR) (nodeAt G (j : Int))).2.2⟩ : FlowT) = ((stepL R G (L.map toR)).map ofR).take j ++ ([(⟨(Ql1.p R (L.map toR) (nodeAt G (j : Int))).1, (Ql1.p R (L.map toR) (nodeAt G (j : Int))).2.1, (Ql1.p R (L.map toR) (nodeAt G (j : Int))).2.2⟩ : FlowT)] ++ List.replicate d z36) := by
        rw [Int.toNat_natCast, List.set_append_right _ _ (by rw [List.length_take]; omega), List.length_take, show j - min j ((stepL R G (L.map toR)).map ofR).length = 0 by omega, List.replicate_succ]
        rfl
      rw [e2]
      exact this
  unfold flow_Step.f
  rw [show (fun k => if 0 ≤ (G.length : Int) then (if ((G.length : Int) : Int).toNat ≤ 93824992236885 then ((some (List.replicate ((G.length : Int) : Int).toNat z36 : List FlowT)).bind fun y170 => (flow_Step.l0 k L y170 (y170.length : Int) 0 R G)) else none) else none) = fun k => flow_Step.l0 k L (List.replicate G.length z36) (G.length : Int) 0 R G from by
    funext k
    rw [if_pos (by omega), if_pos (by omega), show ((G.length : Int) : Int).toNat = G.length by omega, Option.bind_some, List.length_replicate]]
  have := l0 G.length 0 (by omega)
  rw [List.take_zero, List.nil_append] at this
  exact this
end
set_option maxRecDepth 100000 in
theorem awake_ev : Ev (fun k => Qj1.f k) true := Ev.of_mono (k := 20040) (fun k => Qj1.mono k) (by kernel_rfl)
end Go.Proofs.Ytnaanamibfpbpaa.V
namespace Go.Proofs.Ytnaanamibfpbpaa.V
open Go.RowKit Go.Proofs.YtnaanamibfpbpaaW.PrintWords
set_option linter.unusedVariables false
theorem Pure.PureFlowSettles : ∀ (l0_0 : List RuleT) (l0_1 : List NodeT), (l0_0.length ≤ maxLen ∧ ∀ y ∈ l0_0, Ok39 y) → (l0_1.length ≤ maxLen ∧ ∀ y ∈ l0_1, Ok53 y) → ∃ k, Qm1.f k l0_0 l0_1 = some true := by
  intro R G hR hG
  obtain ⟨b, hb, hbs⟩ := small_ev hR hG
  have fin : Ev (fun k => Qm1.j0 k (!b) R G) true := by
    cases b with
    | false => exact Ev.succ (fun k => by rw [Qm1.j0, if_pos (by decide)]) (Ev.bind (g := fun _ t => some t) awake_ev (Ev.const _))
    | true =>
      have hs := hbs rfl
      have hn := hs.nodes
      have hl : ∀ t, (itL R G t).length = G.length := itL_length R G
      have hll : (leastL R G).length = G.length := hl _
      have hst : ∀ t, Ev (fun k => flow_Step.f k R G ((itL R G t).map ofR)) ((itL R G (t + 1)).map ofR) := fun t => by
        have := flow_step_ev hs ((itL R G t).map ofR) (by rw [List.length_map]; exact hl t)
        rwa [map_toR_ofR] at this
      have hback : ∀ L : List FactT, L.length = G.length → Ev (fun k => Qo1.f k (L.map ofR)) L := fun L h => by
        have := back_ev (L.map ofR) (by rw [List.length_map]; omega)
        rwa [map_toR_ofR] at this
      have hfix : Ev (fun k => flow_Step.f k R G ((leastL R G).map ofR)) ((leastL R G).map ofR) := by
        have := hst (3 * G.length)
        rwa [show itL R G (3 * G.length + 1) = leastL R G from leastL_fix R G] at this
      have hsame := same_ev (leastL R G) (leastL R G) rfl (by omega)
      rw [decide_eq_true rfl] at hsame
      have loop : ∀ (d t : Nat), t + d = 3 * G.length → Ev (fun k => Qm1.l0 k ((leastL R G).map ofR) ((itL R G t).map ofR) (t : Int) R G) true := by
        intro d
        induction d with
        | zero =>
          intro t ht
          obtain rfl : t = 3 * G.length := by omega
          exact Ev.succ (fun k => by rw [Qm1.l0, if_neg (by rw [w64p _ (by omega)]; omega)]) (Ev.bind (hback _ (hl _)) (Ev.bind (hback _ hll) (Ev.bind hsame (Ev.const _))))
        | succ d ih =>
          intro t ht
          obtain ⟨v, hv, hvs⟩ := within_ev (itL R G (t + 1)) (leastL R G) (by rw [hl, hll]) (by rw [hl]; omega)
          have hv1 : v = true := hvs.2 (itL_low R G _ (fun i => by rw [leastL_fix]; exact FLe.refl _) (t + 1))
          subst hv1
          have hnext := ih (t + 1) (by omega)
          have hc : (((itL R G (t + 1)).map ofR).length : Int) = (G.length : Int) := by rw [List.length_map, hl]
          refine Ev.succ (fun k => by rw [Qm1.l0, if_pos (by rw [w64p _ (by omega)]; omega), w64p ((t : Int) + 1) (by omega), show (t : Int) + 1 = ((t + 1 : Nat) : Int) by omega]) (Ev.bind (hst t) (Ev.congr (fun k => if_pos hc) (Ev.bind (hback _ (hl _)) (Ev.bind (hback _ hll) (Ev.bind hv (Ev.congr (fun k => if_pos rfl) hnext))))))
      have e0 : List.replicate G.length z36 = (itL R G 0).map ofR := by
        show _ = (bot G).map ofR
        unfold bot
        rw [List.map_replicate]
        rfl
      have hj1 : Ev (fun k => Qm1.j1 k ((leastL R G).map ofR) (!true) R G) true := by
        refine Ev.succ (fun k => by rw [Qm1.j1, if_neg (by decide), if_pos (by omega), if_pos (by omega), show ((G.length : Int) : Int).toNat = G.length by omega, e0]) ?_
        exact loop (3 * G.length) 0 (by omega)
      have hc : (((leastL R G).map ofR).length : Int) = (G.length : Int) := by rw [List.length_map, hll]
      exact Ev.succ (fun k => by rw [Qm1.j0, if_neg (by decide)]) (Ev.bind (flow_of_ev hs) (Ev.congr (fun k => if_pos hc) (Ev.bind hfix (Ev.bind (hback _ hll) (Ev.bind (hback _ hll) (Ev.bind hsame hj1))))))
  exact (Ev.bind awake_ev (Ev.congr (fun k => if_pos rfl) (Ev.bind hb fin))).out
end Go.Proofs.Ytnaanamibfpbpaa.V
namespace Go.Proofs.Ytnaanamibfpbpaa.flowSettles
open Go.ChangeShapes Go.WideShapes Go.ChangeAt Go.RowKit Go.Proofs.Ytnaanamibfpbpaa.Opens Go.Proofs.Ytnaanamibfpbpaa.V Go.Proofs.YtnaanamibfpbpaaW.PrintWords
open Go.ChangeMaps (open_string shut_string)
set_option linter.unusedVariables false
theorem own : ownKnob Try.prog.godebug = none := by kernel_rfl
theorem laidOut : laidOutB Try.prog = true := by kernel_rfl
set_option maxRecDepth 100000 in
theorem lifted (os : Os) (started : os.Started) (H : Type) (enc : TypeId × Value → H) :
    ReturnsInHanded {} Try.checked os 5 .any (Rows.flowSettlesSpec.pre6 enc Try.prog Try.f5 Rows.flowSettlesRow.domain false) (Rows.flowSettlesSpec.post enc Try.prog Try.f5 false true false false) := by
  refine returnsInHanded_of_change_sized (C := Try.checked) own started (by kernel_rfl) Try.func5
    (ChangeSpec.witness6 (enc := enc) (C := Try.checked) false ⟨#[], #[.agg #[.slice none 0 0, .slice none 0 0]], []⟩ 8 (by kernel_rfl) (by kernel_rfl) (by kernel_rfl) (by kernel_rfl)) ?_
  intro W base args ds gs before hval0 hW hcnd hsz0 _
  have hval : ∀ (j : Nat) t v, Try.f5.params[j]? = some t → args[j]? = some v → Value.okWide Try.prog W .any base t v := hval0
  have hW' := hW
  obtain ⟨p, q, hA0, hV, rfl, hfz, hnd⟩ := hW
  have hA : DataW.TrodAll enc Try.prog W 0 (fun _ => true) true Try.f5.params.toList args.toList ds p := hA0
  rw [Try.params5] at hA hval
  obtain ⟨v0, vs0, d0, ds0, p0, q0, hargs, rfl, rfl, h0, r0⟩ := trodAll_cons hA
  obtain ⟨rfl, rfl, rfl⟩ := trodAll_nil r0
  obtain rfl : args = #[v0] := by cases args; simp_all
  obtain ⟨rfl, rfl⟩ := trodVars_none hV
  have lt0 := trod_lts h0
  obtain ⟨cs0, rfl, _⟩ := okWide_struct Try.underlying25 (hval 0 25 v0 rfl rfl)
  obtain ⟨b0, hK0, ok0⟩ := Opn.arg (opn25 W) h0
  obtain ⟨L0, hL0⟩ : ∃ L, L = cs0.toList := ⟨_, rfl⟩
  replace hK0 : ((Kd.pair (Kd.slice 39 k39) (Kd.slice 53 k53))).K W b0 L0 := by rw [hL0]; exact hK0
  obtain ⟨l0_0, l0_1⟩ := b0
  obtain ⟨_, _, rfl, ⟨A0_0, c0_0, rfl, lc0_0, g0_0⟩, ⟨A0_1, c0_1, rfl, lc0_1, g0_1⟩⟩ := hK0
  obtain ⟨w0_0, w0_1⟩ := ok0
  obtain rfl : cs0 = #[.slice A0_0 l0_0.length c0_0, .slice A0_1 l0_1.length c0_1] := by cases cs0; simp_all
  clear hA0 hval0 hsz0
  obtain ⟨k, hk⟩ := Pure.PureFlowSettles l0_0 l0_1 w0_0 w0_1
  refine (Qm1.calls k A0_0 c0_0 l0_0 A0_1 c0_1 l0_1 true W g0_0 lc0_0 g0_1 lc0_1 hk).mono fun e W' ⟨he, bel⟩ => ?_
  subst he
  exact ⟨_, rfl, _, _, _, [], _, [], hW', trodAll_mk1 (shut_bool Try.underlying4 _), (trodAll_cons_mk (Below.trod laidOut (by kernel_rfl) (of_decide_eq_true (by kernel_rfl)) h0 bel lt0) trodAll_mk0), rfl, bel.frame _, fun h => by cases h⟩
theorem over : Rows.flowSettlesRow.holds Try.pinned (OpenSpec.ofChange Rows.flowSettlesSpec) :=
  OpenClaim.holds_of_wide 5 Try.f5 rfl rfl rfl rfl rfl rfl rfl ⟨rfl, rfl, rfl, rfl, rfl⟩ rfl rfl rfl rfl rfl (by kernel_rfl) Try.func5 (by kernel_rfl)
    (of_decide_eq_true (by kernel_rfl)) (by unfold Func.isWrapper; first | (rw [if_pos (by decide +kernel)]; kernel_rfl) | (rw [if_neg (by decide +kernel)]; exact ⟨rfl, rfl⟩))
    (fun os started H enc _ => lifted os started H enc)
end Go.Proofs.Ytnaanamibfpbpaa.flowSettles
namespace Go.Proofs.Ytnaanamibfpbpaa
theorem flowSettles_holds : Rows.FlowSettlesSaid := flowSettles.over
#print axioms flowSettles_holds
end Go.Proofs.Ytnaanamibfpbpaa
