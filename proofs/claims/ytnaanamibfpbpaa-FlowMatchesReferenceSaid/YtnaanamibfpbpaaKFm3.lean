/- The law FlowMatchesReference returns true whatever comes in, and leaves its arguments as they were. No condition. -/
import Derived.Test.YtnaanamibfpbpaaKFm2
import Derived.OpenShut
import Derived.Carry
import Derived.Deep.Slices
import Derived.DataElems
import Derived.StillTailTactics
namespace Go.Proofs.Ytnaanamibfpbpaa.V
open Go.RowKit Go.Proofs.YtnaanamibfpbpaaW.PrintWords Go.Proofs.YtnaanamibfpbpaaW.PrintLast Go.Proofs.YtnaanamibfpbpaaW.PrintMore
attribute [local go_sem] max2_int min2_int max_two min_two max_three min_three max_four min_four tdiv_most
set_option linter.unusedVariables false
set_option linter.unusedSimpArgs false
mutual
def Qp1.l0 : Nat → Int → Int → Int → List (S39) → List (S53) → Option (Int)
 | 0, _, _, _, _, _ => none
 | k + 1, x1, x5, x6, x216000, x216001 => if x6 ≥ 0 then (if 0 ≤ x1 then (if x1 < (x216001.length : Int) then (if 0 ≤ x6 then (if x6 < (((Qh x216001 x1).f1).length : Int) then (if (rd ((Qh x216001 x1).f1) x6) = x5 then ((Qp1.f k x216000 x216001 x5).bind fun t219 => (if t219 = (-2) then (some (-2)) else (Qp1.l0 k x1 t219 (wrap64 (x6 - 1)) x216000 x216001))) else (some (-2))) else (none)) else (none)) else (none)) else (none)) else (some x5)
def Qp1.f : Nat → List (S39) → List (S53) → Int → Option (Int)
 | 0, _, _, _ => none
 | k + 1, l0_0, l0_1, a1 => if a1 < 0 then (some (-2)) else (if 0 ≤ a1 then (if a1 < (l0_1.length : Int) then (Qp1.l0 k a1 (wrap64 (a1 - 1)) (wrap64 ((((Qh l0_1 a1).f1).length : Int) - 1)) l0_0 l0_1) else (none)) else (none))
end
set_option maxHeartbeats 8000000 in
set_option maxRecDepth 100000 in
theorem Qp1.calls (k : Nat) : ∀ (A0_0 : Option Addr) (c0_0 : Nat) (l0_0 : List (S39)) (A0_1 : Option Addr) (c0_1 : Nat) (l0_1 : List (S53)) (a1 : Int) (r : Int) (w : World) (hr0_0 : Kd.C k39 w A0_0 l0_0.length l0_0) (hc0_0 : l0_0.length ≤ c0_0) (hr0_1 : Kd.C k53 w A0_1 l0_1.length l0_1) (hc0_1 : l0_1.length ≤ c0_1) (h : Qp1.f k l0_0 l0_1 a1 = some r),
 Calls Try.prog 42 #[.agg #[.slice A0_0 l0_0.length c0_0, .slice A0_1 l0_1.length c0_1], .int .i64 a1] w fun e w' => e = .returned (.int .i64 r) ∧ Below w.heap.size w w' := by
 induction k using Nat.strongRecOn with
 | _ k ih =>
 intro A0_0 c0_0 l0_0 A0_1 c0_1 l0_1 a1 r w hr0_0 hc0_0 hr0_1 hc0_1 h
 cases k with
 | zero => exact absurd h (by simp [Qp1.f])
 | succ k =>
 simp only [Qp1.f] at h
 have hu25 := Try.underlying25
 have HR0_0 := Qa.mk hr0_0
 have HC0_0 := Qa.mk hc0_0
 clear hr0_0 hc0_0
 have HR0_1 := Qa.mk hr0_1
 have HC0_1 := Qa.mk hc0_1
 clear hr0_1 hc0_1
 have HB := Qa.mk (Below.refl w.heap.size w)
 have H : (if a1 < 0 then (some (-2)) else (if 0 ≤ a1 then (if a1 < (l0_1.length : Int) then (Qp1.l0 k a1 (wrap64 (a1 - 1)) (wrap64 ((((Qh l0_1 a1).f1).length : Int) - 1)) l0_0 l0_1) else (none)) else (none))) = some r := h
 clear h
 by_cases c3 : a1 < 0
 ·
  rw [if_pos c3] at H
  have c3b0 : decide (a1 < 0) = true := decide_eq_true c3
  clear c3
  obtain rfl := Option.some.inj H
  go_enter Try.func42, Try.ntmps42
  go_wp2_with (first | ((with_reducible refine Qd1 (N := 2) rfl ?_); refine Qg1 ?hg (N := 2) ?hd (cs := #[.slice A0_0 l0_0.length c0_0, .slice A0_1 l0_1.length c0_1]) (t := 25) ?hr ?_; (case hd => rfl); (case hg => rfl); (case hr => first | (go_simp; done) | (go_simp; rfl)); intro gb215 hg w4 hbox hb; have n0_ := Qa.mk (Qr (by with_reducible repeat (first | exact HB.out | apply Qj | apply Ql | apply Qk)) hb); have n1_ := Qa.mk (hbox); have n2_ := Qa.mk ((by rw [hg]; exact (Qc1 (by with_reducible repeat (first | exact HB.out | apply Qj | apply Ql | apply Qk))) : w.heap.size ≤ gb215)); have n3_ := n2_; clear HB; have HB := n0_; have BK215 := n1_; have GW215 := n2_; have GE215 := n3_; clear n0_ n1_ n2_ n3_; clear hb hbox hg))
  go_ret
  exact ⟨by first | rfl | (simp [Qt, Qs] <;> rfl) | (simp [*, Qt, Qs] <;> rfl), by with_reducible repeat (first | exact HB.out | apply Qj | apply Ql | apply Qk | refine Qi ?_ GE215.out)⟩
 rw [if_neg c3] at H
 have c3b0 : decide (a1 < 0) = false := decide_eq_false c3
 clear c3
 by_cases c5 : 0 ≤ a1
 rotate_left
 ·
  rw [if_neg c5] at H
  exact absurd H (by simp)
 rw [if_pos c5] at H
 have c5b0 : decide (0 ≤ a1) = true := decide_eq_true c5
 clear c5
 by_cases c6 : a1 < (l0_1.length : Int)
 rotate_left
 ·
  rw [if_neg c6] at H
  exact absurd H (by simp)
 rw [if_pos c6] at H
 have c6b0 : decide (a1 < (l0_1.length : Int)) = true := decide_eq_true c6
 clear c6
 have H' := Qa.mk H
 clear H
 go_enter Try.func42, Try.ntmps42
 go_wp2_with (first | ((with_reducible refine Qd1 (N := 2) rfl ?_); refine Qg1 ?hg (N := 2) ?hd (cs := #[.slice A0_0 l0_0.length c0_0, .slice A0_1 l0_1.length c0_1]) (t := 25) ?hr ?_; (case hd => rfl); (case hg => rfl); (case hr => first | (go_simp; done) | (go_simp; rfl)); intro gb215 hg w7 hbox hb; have n0_ := Qa.mk (Qr (by with_reducible repeat (first | exact HB.out | apply Qj | apply Ql | apply Qk)) hb); have n1_ := Qa.mk (hbox); have n2_ := Qa.mk ((by rw [hg]; exact (Qc1 (by with_reducible repeat (first | exact HB.out | apply Qj | apply Ql | apply Qk))) : w.heap.size ≤ gb215)); have n3_ := n2_; clear HB; have HB := n0_; have BK215 := n1_; have GW215 := n2_; have GE215 := n3_; clear n0_ n1_ n2_ n3_; clear hb hbox hg; have hcz8_0 : w7.cell? ⟨gb215, 0, none⟩ = some (.slice A0_0 l0_0.length c0_0) := (Qb BK215.out 0).trans rfl; have hcz8_1 : w7.cell? ⟨gb215, 1, none⟩ = some (.slice A0_1 l0_1.length c0_1) := (Qb BK215.out 1).trans rfl; have hfz8_0 := Qf BK215.out 0; have hfz8_1 := Qf BK215.out 1; have p216 : 0 ≤ (a1 : Int) := of_decide_eq_true (by assumption); have q216 : a1 < (l0_1.length : Int) := of_decide_eq_true (by assumption); obtain ⟨ad216, A216_1, c216_1, e216, hx216_0, hx216_1, hx216_2, hx216_3, hx216_4, hx216_5, hx216_6, hl216_1, hi216_1⟩ := at_T53 HR0_1.out a1 p216 q216; cases e216; replace hx216_0 := (HB.out.cell (World.block_lt_of_cell? w _ hx216_0)).trans hx216_0; replace hx216_1 := (HB.out.cell (World.block_lt_of_cell? w _ hx216_1)).trans hx216_1; replace hx216_2 := (HB.out.cell (World.block_lt_of_cell? w _ hx216_2)).trans hx216_2; replace hx216_3 := (HB.out.cell (World.block_lt_of_cell? w _ hx216_3)).trans hx216_3; replace hx216_4 := (HB.out.cell (World.block_lt_of_cell? w _ hx216_4)).trans hx216_4; replace hx216_5 := (HB.out.cell (World.block_lt_of_cell? w _ hx216_5)).trans hx216_5; replace hx216_6 := (HB.out.cell (World.block_lt_of_cell? w _ hx216_6)).trans hx216_6; have HR216_1 := Qa.mk hi216_1; have HC216_1 := Qa.mk hl216_1; clear hi216_1 hl216_1; replace p216 := eq_true p216; replace q216 := eq_true q216))
 go_loopg [5, 6] k (fun kq v5 v6 w' => ∃ (x5_1 : Int) (x6_1 : Int), v5 = .int .i64 x5_1 ∧ v6 = .int .i64 x6_1 ∧ Qa (Qp1.l0 kq a1 x5_1 x6_1 l0_0 l0_1 = some r) ∧ Qa (kq ≤ k) ∧ Qa (w'.heap[gb215]? = some (.cells #[(.slice A0_0 l0_0.length c0_0), (.slice (some ad216) l0_1.length c0_1)] 25 (0, 0))) ∧ Qa (Below w.heap.size w w'))
 case atStart => exact ⟨(wrap64 (a1 - 1)), (wrap64 ((((Qh l0_1 a1).f1).length : Int) - 1)), (by first | rfl | (simp; done) | (simp [*]; done)), (by first | rfl | (simp; done) | (simp [*]; done)), H', ⟨Nat.le_refl _⟩, ⟨by (with_reducible repeat (first | refine Qe ?_ _ | refine Qc ?_ | refine Qd ?_ _)); exact BK215.out⟩, ⟨by with_reducible repeat (first | exact HB.out | apply Qj | apply Ql | apply Qk | refine Qi ?_ GE215.out)⟩⟩
 case round =>
  clear H'
  (try clear c2; try clear p2; try clear q2; try clear hx2; try clear c3; try clear c3b0; try clear c4; try clear c5; try clear c5b0; try clear c6; try clear c6b0; try clear p6; try clear hcz8_0; try clear hcz8_1; try clear hfz8_0; try clear hfz8_1; try clear hx216_0; try clear hx216_1; try clear hx216_2; try clear hx216_3; try clear hx216_4; try clear hx216_5; try clear hx216_6; try clear p216; try clear q216)
  obtain ⟨x5_1, x6_1, rfl, rfl, HA, HK1, BK215, HB⟩ := hrel
  cases gk with
  | zero => exact absurd HA.out (by simp [Qp1.l0])
  | succ k1 =>
   have H := HA.out
   clear HA
   simp only [Qp1.l0] at H
   by_cases c9 : x6_1 ≥ 0
   rotate_left
   ·
    rw [if_neg c9] at H
    have c9b0 : decide (0 ≤ x6_1) = false := decide_eq_false c9
    clear c9
    obtain rfl := Option.some.inj H
    go_wp2
    go_ret
    exact ⟨by first | rfl | (simp [Qt, Qs] <;> rfl) | (simp [*, Qt, Qs] <;> rfl), by with_reducible repeat (first | exact HB.out | apply Qj | apply Ql | apply Qk | refine Qi ?_ GE215.out)⟩
   rw [if_pos c9] at H
   have c9b0 : decide (0 ≤ x6_1) = true := decide_eq_true c9
   clear c9
   by_cases c10 : 0 ≤ a1
   rotate_left
   ·
    rw [if_neg c10] at H
    exact absurd H (by simp)
   rw [if_pos c10] at H
   have c10b0 : decide (0 ≤ a1) = true := decide_eq_true c10
   clear c10
   by_cases c11 : a1 < (l0_1.length : Int)
   rotate_left
   ·
    rw [if_neg c11] at H
    exact absurd H (by simp)
   rw [if_pos c11] at H
   have c11b0 : decide (a1 < (l0_1.length : Int)) = true := decide_eq_true c11
   clear c11
   by_cases c12 : 0 ≤ x6_1
   rotate_left
   ·
    rw [if_neg c12] at H
    exact absurd H (by simp)
   rw [if_pos c12] at H
   have c12b0 : decide (0 ≤ x6_1) = true := decide_eq_true c12
   clear c12
   by_cases c13 : x6_1 < (((Qh l0_1 a1).f1).length : Int)
   rotate_left
   ·
    rw [if_neg c13] at H
    exact absurd H (by simp)
   rw [if_pos c13] at H
   have c13b0 : decide (x6_1 < (((Qh l0_1 a1).f1).length : Int)) = true := decide_eq_true c13
   clear c13
   by_cases c14 : (rd ((Qh l0_1 a1).f1) x6_1) = x5_1
   rotate_left
   ·
    rw [if_neg c14] at H
    have c14b0 : ((rd ((Qh l0_1 a1).f1) x6_1) == x5_1) = false := beq_eq_false_iff_ne.mpr c14
    have c14b1 : ((rd ((Qh l0_1 a1).f1) x6_1) != x5_1) = true := bne_iff_ne.mpr c14
    obtain rfl := Option.some.inj H
    have hcz21_0 : wr.cell? ⟨gb215, 0, none⟩ = some (.slice A0_0 l0_0.length c0_0) := (Qb BK215.out 0).trans rfl
    have hcz21_1 : wr.cell? ⟨gb215, 1, none⟩ = some (.slice (some ad216) l0_1.length c0_1) := (Qb BK215.out 1).trans rfl
    have hfz21_0 := Qf BK215.out 0
    have hfz21_1 := Qf BK215.out 1
    have p217 : 0 ≤ (a1 : Int) := of_decide_eq_true (by assumption)
    have q217 : a1 < (l0_1.length : Int) := of_decide_eq_true (by assumption)
    obtain ⟨ad217, A217_1, c217_1, e217, hx217_0, hx217_1, hx217_2, hx217_3, hx217_4, hx217_5, hx217_6, hl217_1, hi217_1⟩ := at_T53 HR0_1.out a1 p217 q217
    obtain rfl : ad216 = ad217 := (by injection e217)
    replace hx217_0 := (HB.out.cell (World.block_lt_of_cell? w _ hx217_0)).trans hx217_0
    replace hx217_1 := (HB.out.cell (World.block_lt_of_cell? w _ hx217_1)).trans hx217_1
    replace hx217_2 := (HB.out.cell (World.block_lt_of_cell? w _ hx217_2)).trans hx217_2
    replace hx217_3 := (HB.out.cell (World.block_lt_of_cell? w _ hx217_3)).trans hx217_3
    replace hx217_4 := (HB.out.cell (World.block_lt_of_cell? w _ hx217_4)).trans hx217_4
    replace hx217_5 := (HB.out.cell (World.block_lt_of_cell? w _ hx217_5)).trans hx217_5
    replace hx217_6 := (HB.out.cell (World.block_lt_of_cell? w _ hx217_6)).trans hx217_6
    have HR217_1 := Qa.mk hi217_1
    have HC217_1 := Qa.mk hl217_1
    clear hi217_1 hl217_1
    replace p217 := eq_true p217
    replace q217 := eq_true q217
    have p218 : 0 ≤ (x6_1 : Int) := of_decide_eq_true (by assumption)
    have q218 : x6_1 < (((Qh l0_1 a1).f1).length : Int) := of_decide_eq_true (by assumption)
    obtain ⟨ad218, e218, hx218_0⟩ := Kd.at_int HR217_1.out x6_1 p218 q218
    cases e218
    replace hx218_0 := (HB.out.cell (World.block_lt_of_cell? w _ hx218_0)).trans hx218_0
    replace p218 := eq_true p218
    replace q218 := eq_true q218
    go_wp2
    go_ret
    exact ⟨by first | rfl | (simp [Qt, Qs] <;> rfl) | (simp [*, Qt, Qs] <;> rfl), by with_reducible repeat (first | exact HB.out | apply Qj | apply Ql | apply Qk | refine Qi ?_ GE215.out)⟩
   rw [if_pos c14] at H
   have c14b0 : ((rd ((Qh l0_1 a1).f1) x6_1) == x5_1) = true := beq_iff_eq.mpr c14
   have c14b1 : ((rd ((Qh l0_1 a1).f1) x6_1) != x5_1) = false := bne_eq_false_iff_eq.mpr c14
   clear c14
   replace H := Option.bind_eq_some_iff.mp H
   obtain ⟨t219, A150, H⟩ := H
   replace H : (if t219 = (-2) then (some (-2)) else (Qp1.l0 k1 a1 t219 (wrap64 (x6_1 - 1)) l0_0 l0_1)) = some r := H
   have A15 := Qa.mk A150
   clear A150
   by_cases c16 : t219 = (-2)
   ·
    rw [if_pos c16] at H
    have c16b0 : (t219 == (-2)) = true := beq_iff_eq.mpr c16
    have c16b1 : (t219 != (-2)) = false := bne_eq_false_iff_eq.mpr c16
    clear c16
    obtain rfl := Option.some.inj H
    have hcz17_0 : wr.cell? ⟨gb215, 0, none⟩ = some (.slice A0_0 l0_0.length c0_0) := (Qb BK215.out 0).trans rfl
    have hcz17_1 : wr.cell? ⟨gb215, 1, none⟩ = some (.slice (some ad216) l0_1.length c0_1) := (Qb BK215.out 1).trans rfl
    have hfz17_0 := Qf BK215.out 0
    have hfz17_1 := Qf BK215.out 1
    have p217 : 0 ≤ (a1 : Int) := of_decide_eq_true (by assumption)
    have q217 : a1 < (l0_1.length : Int) := of_decide_eq_true (by assumption)
    obtain ⟨ad217, A217_1, c217_1, e217, hx217_0, hx217_1, hx217_2, hx217_3, hx217_4, hx217_5, hx217_6, hl217_1, hi217_1⟩ := at_T53 HR0_1.out a1 p217 q217
    obtain rfl : ad216 = ad217 := (by injection e217)
    replace hx217_0 := (HB.out.cell (World.block_lt_of_cell? w _ hx217_0)).trans hx217_0
    replace hx217_1 := (HB.out.cell (World.block_lt_of_cell? w _ hx217_1)).trans hx217_1
    replace hx217_2 := (HB.out.cell (World.block_lt_of_cell? w _ hx217_2)).trans hx217_2
    replace hx217_3 := (HB.out.cell (World.block_lt_of_cell? w _ hx217_3)).trans hx217_3
    replace hx217_4 := (HB.out.cell (World.block_lt_of_cell? w _ hx217_4)).trans hx217_4
    replace hx217_5 := (HB.out.cell (World.block_lt_of_cell? w _ hx217_5)).trans hx217_5
    replace hx217_6 := (HB.out.cell (World.block_lt_of_cell? w _ hx217_6)).trans hx217_6
    have HR217_1 := Qa.mk hi217_1
    have HC217_1 := Qa.mk hl217_1
    clear hi217_1 hl217_1
    replace p217 := eq_true p217
    replace q217 := eq_true q217
    have p218 : 0 ≤ (x6_1 : Int) := of_decide_eq_true (by assumption)
    have q218 : x6_1 < (((Qh l0_1 a1).f1).length : Int) := of_decide_eq_true (by assumption)
    obtain ⟨ad218, e218, hx218_0⟩ := Kd.at_int HR217_1.out x6_1 p218 q218
    cases e218
    replace hx218_0 := (HB.out.cell (World.block_lt_of_cell? w _ hx218_0)).trans hx218_0
    replace p218 := eq_true p218
    replace q218 := eq_true q218
    go_wp2_with (first | ((with_reducible refine gate_callee (f := 42) rfl ?_); refine goesL_ (some 36) rfl rfl Try.func42 (by kernel_rfl) rfl #[.agg #[.slice A0_0 l0_0.length c0_0, .slice (some ad216) l0_1.length c0_1], .int .i64 x5_1] rfl (by (try simp only [List.map_toArray, List.map_cons, List.map_nil]); first | done | rfl | (simp only [List.length_drop, List.length_take]; rfl)) ?_; (with_reducible refine (ih k1 (by have := HK1.out; omega) _ _ l0_0 _ _ l0_1 x5_1 t219 _ ?side1 ?side2 ?side3 ?side4 A15.out).mono ?_); (case side1 => repeat (first | exact (Kd.Qw HR0_0.out HB.out) | (with_reducible refine Kd.Qf1 ?_ _) | (with_reducible refine Kd.Qe1 ?_ _) | (with_reducible refine Kd.C_drew ?_))); (case side2 => exact HC0_0.out); (case side3 => repeat (first | exact (Kd.Qw HR0_1.out HB.out) | (with_reducible refine Kd.Qf1 ?_ _) | (with_reducible refine Kd.Qe1 ?_ _) | (with_reducible refine Kd.C_drew ?_))); (case side4 => exact HC0_1.out); rintro e w18 ⟨rfl, hb⟩; refine ⟨_, rfl, ?_⟩; have n0_ := Qa.mk (Qo (g := gb215) (o := .cells #[.slice A0_0 l0_0.length c0_0, .slice (some ad216) l0_1.length c0_1] 25 (0, 0)) (by (with_reducible repeat (first | refine Qe ?_ _ | refine Qc ?_ | refine Qd ?_ _)); exact BK215.out) hb); have n1_ := Qa.mk (Qr (by with_reducible repeat (first | exact HB.out | apply Qj | apply Ql | apply Qk | refine Qi ?_ GE215.out)) hb); clear BK215; clear HB; have BK215 := n0_; have HB := n1_; clear n0_ n1_; (try clear hb); (try clear hb2); (try clear hk); (try clear hi)))
    go_ret
    exact ⟨by first | rfl | (simp [Qt, Qs] <;> rfl) | (simp [*, Qt, Qs] <;> rfl), by with_reducible repeat (first | exact HB.out | apply Qj | apply Ql | apply Qk | refine Qi ?_ GE215.out)⟩
   rw [if_neg c16] at H
   have c16b0 : (t219 == (-2)) = false := beq_eq_false_iff_ne.mpr c16
   have c16b1 : (t219 != (-2)) = true := bne_iff_ne.mpr c16
   have H' := Qa.mk H
   clear H
   have hcz19_0 : wr.cell? ⟨gb215, 0, none⟩ = some (.slice A0_0 l0_0.length c0_0) := (Qb BK215.out 0).trans rfl
   have hcz19_1 : wr.cell? ⟨gb215, 1, none⟩ = some (.slice (some ad216) l0_1.length c0_1) := (Qb BK215.out 1).trans rfl
   have hfz19_0 := Qf BK215.out 0
   have hfz19_1 := Qf BK215.out 1
   have p217 : 0 ≤ (a1 : Int) := of_decide_eq_true (by assumption)
   have q217 : a1 < (l0_1.length : Int) := of_decide_eq_true (by assumption)
   obtain ⟨ad217, A217_1, c217_1, e217, hx217_0, hx217_1, hx217_2, hx217_3, hx217_4, hx217_5, hx217_6, hl217_1, hi217_1⟩ := at_T53 HR0_1.out a1 p217 q217
   obtain rfl : ad216 = ad217 := (by injection e217)
   replace hx217_0 := (HB.out.cell (World.block_lt_of_cell? w _ hx217_0)).trans hx217_0
   replace hx217_1 := (HB.out.cell (World.block_lt_of_cell? w _ hx217_1)).trans hx217_1
   replace hx217_2 := (HB.out.cell (World.block_lt_of_cell? w _ hx217_2)).trans hx217_2
   replace hx217_3 := (HB.out.cell (World.block_lt_of_cell? w _ hx217_3)).trans hx217_3
   replace hx217_4 := (HB.out.cell (World.block_lt_of_cell? w _ hx217_4)).trans hx217_4
   replace hx217_5 := (HB.out.cell (World.block_lt_of_cell? w _ hx217_5)).trans hx217_5
   replace hx217_6 := (HB.out.cell (World.block_lt_of_cell? w _ hx217_6)).trans hx217_6
   have HR217_1 := Qa.mk hi217_1
   have HC217_1 := Qa.mk hl217_1
   clear hi217_1 hl217_1
   replace p217 := eq_true p217
   replace q217 := eq_true q217
   have p218 : 0 ≤ (x6_1 : Int) := of_decide_eq_true (by assumption)
   have q218 : x6_1 < (((Qh l0_1 a1).f1).length : Int) := of_decide_eq_true (by assumption)
   obtain ⟨ad218, e218, hx218_0⟩ := Kd.at_int HR217_1.out x6_1 p218 q218
   cases e218
   replace hx218_0 := (HB.out.cell (World.block_lt_of_cell? w _ hx218_0)).trans hx218_0
   replace p218 := eq_true p218
   replace q218 := eq_true q218
   go_wp2_with (first | ((with_reducible refine gate_callee (f := 42) rfl ?_); refine goesL_ (some 36) rfl rfl Try.func42 (by kernel_rfl) rfl #[.agg #[.slice A0_0 l0_0.length c0_0, .slice (some ad216) l0_1.length c0_1], .int .i64 x5_1] rfl (by (try simp only [List.map_toArray, List.map_cons, List.map_nil]); first | done | rfl | (simp only [List.length_drop, List.length_take]; rfl)) ?_; (with_reducible refine (ih k1 (by have := HK1.out; omega) _ _ l0_0 _ _ l0_1 x5_1 t219 _ ?side1 ?side2 ?side3 ?side4 A15.out).mono ?_); (case side1 => repeat (first | exact (Kd.Qw HR0_0.out HB.out) | (with_reducible refine Kd.Qf1 ?_ _) | (with_reducible refine Kd.Qe1 ?_ _) | (with_reducible refine Kd.C_drew ?_))); (case side2 => exact HC0_0.out); (case side3 => repeat (first | exact (Kd.Qw HR0_1.out HB.out) | (with_reducible refine Kd.Qf1 ?_ _) | (with_reducible refine Kd.Qe1 ?_ _) | (with_reducible refine Kd.C_drew ?_))); (case side4 => exact HC0_1.out); rintro e w20 ⟨rfl, hb⟩; refine ⟨_, rfl, ?_⟩; have n0_ := Qa.mk (Qo (g := gb215) (o := .cells #[.slice A0_0 l0_0.length c0_0, .slice (some ad216) l0_1.length c0_1] 25 (0, 0)) (by (with_reducible repeat (first | refine Qe ?_ _ | refine Qc ?_ | refine Qd ?_ _)); exact BK215.out) hb); have n1_ := Qa.mk (Qr (by with_reducible repeat (first | exact HB.out | apply Qj | apply Ql | apply Qk | refine Qi ?_ GE215.out)) hb); clear BK215; clear HB; have BK215 := n0_; have HB := n1_; clear n0_ n1_; (try clear hb); (try clear hb2); (try clear hk); (try clear hi)))
   go_roundg k1
   case measure => have := HK1.out; omega
   case rel => exact ⟨(t219), (wrap64 (x6_1 - 1)), (by first | rfl | (simp; done) | (simp [*]; done)), (by first | rfl | (simp; done) | (simp [*]; done)), H', ⟨by have := HK1.out; omega⟩, ⟨by (with_reducible repeat (first | refine Qe ?_ _ | refine Qc ?_ | refine Qd ?_ _)); exact BK215.out⟩, ⟨by with_reducible repeat (first | exact HB.out | apply Qj | apply Ql | apply Qk | refine Qi ?_ GE215.out)⟩⟩
def Qs1.l0 : Nat → Int → Int → List (S39) → List (S53) → Option (Bool)
 | 0, _, _, _, _ => none
 | k + 1, x3, x4, x221000, x221001 => if x4 < (x221000.length : Int) then (if 0 ≤ x4 then (if ((Qp x221000 x4).f1) ≤ x3 then (some false) else (if ((Qp x221000 x4).f1) ≥ (x221001.length : Int) then (some false) else ((Qp1.f k x221000 x221001 ((Qp x221000 x4).f1)).bind fun t222 => (if t222 = x3 then (Qs1.l0 k ((Qp x221000 x4).f1) (wrap64 (x4 + 1)) x221000 x221001) else (some false))))) else (none)) else (some (x3 == (wrap64 ((x221001.length : Int) - 1))))
def Qs1.f (k : Nat) (l0_0 : List (S39)) (l0_1 : List (S53)) : Option (Bool) := Qs1.l0 k (-1) 0 l0_0 l0_1
set_option maxHeartbeats 8000000 in
set_option maxRecDepth 100000 in
theorem Qs1.calls (k : Nat) (A0_0 : Option Addr) (c0_0 : Nat) (l0_0 : List (S39)) (A0_1 : Option Addr) (c0_1 : Nat) (l0_1 : List (S53)) (r : Bool) (w : World) (hr0_0 : Kd.C k39 w A0_0 l0_0.length l0_0) (hc0_0 : l0_0.length ≤ c0_0) (hr0_1 : Kd.C k53 w A0_1 l0_1.length l0_1) (hc0_1 : l0_1.length ≤ c0_1) (h : Qs1.f k l0_0 l0_1 = some r) :
 Calls Try.prog 37 #[.agg #[.slice A0_0 l0_0.length c0_0, .slice A0_1 l0_1.length c0_1]] w fun e w' => e = .returned (.bool r) ∧ Below w.heap.size w w' := by
 have hu25 := Try.underlying25
 have HR0_0 := Qa.mk hr0_0
 have HC0_0 := Qa.mk hc0_0
 clear hr0_0 hc0_0
 have HR0_1 := Qa.mk hr0_1
 have HC0_1 := Qa.mk hc0_1
 clear hr0_1 hc0_1
 have HB := Qa.mk (Below.refl w.heap.size w)
 have H : (Qs1.l0 k (-1) 0 l0_0 l0_1) = some r := h
 clear h
 have H' := Qa.mk H
 clear H
 go_enter Try.func37, Try.ntmps37
 go_wp2_with (first | ((with_reducible refine Qd1 (N := 1) rfl ?_); (try (refine gate_guard (by rfl) ?_; dsimp only)); refine Qg1 ?hg (N := 1) ?hd (cs := #[.slice A0_0 l0_0.length c0_0, .slice A0_1 l0_1.length c0_1]) (t := 25) ?hr ?_; (case hd => rfl); (case hg => rfl); (case hr => first | (go_simp; done) | (go_simp; rfl)); intro gb220 hg w2 hbox hb; have n0_ := Qa.mk (Qr (by with_reducible repeat (first | exact HB.out | apply Qj | apply Ql | apply Qk)) hb); have n1_ := Qa.mk (hbox); have n2_ := Qa.mk ((by rw [hg]; exact (Qc1 (by with_reducible repeat (first | exact HB.out | apply Qj | apply Ql | apply Qk))) : w.heap.size ≤ gb220)); have n3_ := n2_; clear HB; have HB := n0_; have BK220 := n1_; have GW220 := n2_; have GE220 := n3_; clear n0_ n1_ n2_ n3_; clear hb hbox hg))
 go_loopg [3, 4] k (fun kq v3 v4 w' => ∃ (x3_1 : Int) (x4_1 : Int), v3 = .int .i64 x3_1 ∧ v4 = .int .i64 x4_1 ∧ Qa (Qs1.l0 kq x3_1 x4_1 l0_0 l0_1 = some r) ∧ Qa (kq ≤ k) ∧ Qa (w'.heap[gb220]? = some (.cells #[(.slice A0_0 l0_0.length c0_0), (.slice A0_1 l0_1.length c0_1)] 25 (0, 0))) ∧ Qa (Below w.heap.size w w'))
 case atStart => exact ⟨((-1)), (0), (by first | rfl | (simp; done) | (simp [*]; done)), (by first | rfl | (simp; done) | (simp [*]; done)), H', ⟨Nat.le_refl _⟩, ⟨by (with_reducible repeat (first | refine Qe ?_ _ | refine Qc ?_ | refine Qd ?_ _)); exact BK220.out⟩, ⟨by with_reducible repeat (first | exact HB.out | apply Qj | apply Ql | apply Qk | refine Qi ?_ GE220.out)⟩⟩
 case round =>
  clear H'
  try clear p2
  obtain ⟨x3_1, x4_1, rfl, rfl, HA, HK1, BK220, HB⟩ := hrel
  cases gk with
  | zero => exact absurd HA.out (by simp [Qs1.l0])
  | succ k1 =>
   have H := HA.out
   clear HA
   simp only [Qs1.l0] at H
   by_cases c3 : x4_1 < (l0_0.length : Int)
   rotate_left
   ·
    rw [if_neg c3] at H
    have c3b0 : decide (x4_1 < (l0_0.length : Int)) = false := decide_eq_false c3
    clear c3
    obtain rfl := Option.some.inj H
    have hcz15_0 : wr.cell? ⟨gb220, 0, none⟩ = some (.slice A0_0 l0_0.length c0_0) := (Qb BK220.out 0).trans rfl
    have hcz15_1 : wr.cell? ⟨gb220, 1, none⟩ = some (.slice A0_1 l0_1.length c0_1) := (Qb BK220.out 1).trans rfl
    have hfz15_0 := Qf BK220.out 0
    have hfz15_1 := Qf BK220.out 1
    go_wp2
    go_ret
    exact ⟨by first | rfl | (simp [Qt, Qs] <;> rfl) | (simp [*, Qt, Qs] <;> rfl), by with_reducible repeat (first | exact HB.out | apply Qj | apply Ql | apply Qk | refine Qi ?_ GE220.out)⟩
   rw [if_pos c3] at H
   have c3b0 : decide (x4_1 < (l0_0.length : Int)) = true := decide_eq_true c3
   clear c3
   by_cases c4 : 0 ≤ x4_1
   rotate_left
   ·
    rw [if_neg c4] at H
    exact absurd H (by simp)
   rw [if_pos c4] at H
   have c4b0 : decide (0 ≤ x4_1) = true := decide_eq_true c4
   clear c4
   by_cases c5 : ((Qp l0_0 x4_1).f1) ≤ x3_1
   ·
    rw [if_pos c5] at H
    have c5b0 : decide (((Qp l0_0 x4_1).f1) ≤ x3_1) = true := decide_eq_true c5
    clear c5
    obtain rfl := Option.some.inj H
    have hcz6_0 : wr.cell? ⟨gb220, 0, none⟩ = some (.slice A0_0 l0_0.length c0_0) := (Qb BK220.out 0).trans rfl
    have hcz6_1 : wr.cell? ⟨gb220, 1, none⟩ = some (.slice A0_1 l0_1.length c0_1) := (Qb BK220.out 1).trans rfl
    have hfz6_0 := Qf BK220.out 0
    have hfz6_1 := Qf BK220.out 1
    have p221 : 0 ≤ (x4_1 : Int) := of_decide_eq_true (by assumption)
    have q221 : x4_1 < (l0_0.length : Int) := of_decide_eq_true (by assumption)
    obtain ⟨ad221, e221, hx221_0, hx221_1⟩ := at_T39 HR0_0.out x4_1 p221 q221
    cases e221
    replace hx221_0 := (HB.out.cell (World.block_lt_of_cell? w _ hx221_0)).trans hx221_0
    replace hx221_1 := (HB.out.cell (World.block_lt_of_cell? w _ hx221_1)).trans hx221_1
    replace p221 := eq_true p221
    replace q221 := eq_true q221
    go_wp2
    go_ret
    exact ⟨by first | rfl | (simp [Qt, Qs] <;> rfl) | (simp [*, Qt, Qs] <;> rfl), by with_reducible repeat (first | exact HB.out | apply Qj | apply Ql | apply Qk | refine Qi ?_ GE220.out)⟩
   rw [if_neg c5] at H
   have c5b0 : decide (((Qp l0_0 x4_1).f1) ≤ x3_1) = false := decide_eq_false c5
   clear c5
   by_cases c7 : ((Qp l0_0 x4_1).f1) ≥ (l0_1.length : Int)
   ·
    rw [if_pos c7] at H
    have c7b0 : decide ((l0_1.length : Int) ≤ ((Qp l0_0 x4_1).f1)) = true := decide_eq_true c7
    clear c7
    obtain rfl := Option.some.inj H
    have hcz8_0 : wr.cell? ⟨gb220, 0, none⟩ = some (.slice A0_0 l0_0.length c0_0) := (Qb BK220.out 0).trans rfl
    have hcz8_1 : wr.cell? ⟨gb220, 1, none⟩ = some (.slice A0_1 l0_1.length c0_1) := (Qb BK220.out 1).trans rfl
    have hfz8_0 := Qf BK220.out 0
    have hfz8_1 := Qf BK220.out 1
    have p221 : 0 ≤ (x4_1 : Int) := of_decide_eq_true (by assumption)
    have q221 : x4_1 < (l0_0.length : Int) := of_decide_eq_true (by assumption)
    obtain ⟨ad221, e221, hx221_0, hx221_1⟩ := at_T39 HR0_0.out x4_1 p221 q221
    cases e221
    replace hx221_0 := (HB.out.cell (World.block_lt_of_cell? w _ hx221_0)).trans hx221_0
    replace hx221_1 := (HB.out.cell (World.block_lt_of_cell? w _ hx221_1)).trans hx221_1
    replace p221 := eq_true p221
    replace q221 := eq_true q221
    go_wp2
    go_ret
    exact ⟨by first | rfl | (simp [Qt, Qs] <;> rfl) | (simp [*, Qt, Qs] <;> rfl), by with_reducible repeat (first | exact HB.out | apply Qj | apply Ql | apply Qk | refine Qi ?_ GE220.out)⟩
   rw [if_neg c7] at H
   have c7b0 : decide ((l0_1.length : Int) ≤ ((Qp l0_0 x4_1).f1)) = false := decide_eq_false c7
   clear c7
   replace H := Option.bind_eq_some_iff.mp H
   obtain ⟨t222, A90, H⟩ := H
   replace H : (if t222 = x3_1 then (Qs1.l0 k1 ((Qp l0_0 x4_1).f1) (wrap64 (x4_1 + 1)) l0_0 l0_1) else (some false)) = some r := H
   have A9 := Qa.mk A90
   clear A90
   by_cases c10 : t222 = x3_1
   ·
    rw [if_pos c10] at H
    have c10b0 : (t222 == x3_1) = true := beq_iff_eq.mpr c10
    have c10b1 : (t222 != x3_1) = false := bne_eq_false_iff_eq.mpr c10
    clear c10
    have H' := Qa.mk H
    clear H
    have hcz11_0 : wr.cell? ⟨gb220, 0, none⟩ = some (.slice A0_0 l0_0.length c0_0) := (Qb BK220.out 0).trans rfl
    have hcz11_1 : wr.cell? ⟨gb220, 1, none⟩ = some (.slice A0_1 l0_1.length c0_1) := (Qb BK220.out 1).trans rfl
    have hfz11_0 := Qf BK220.out 0
    have hfz11_1 := Qf BK220.out 1
    have p221 : 0 ≤ (x4_1 : Int) := of_decide_eq_true (by assumption)
    have q221 : x4_1 < (l0_0.length : Int) := of_decide_eq_true (by assumption)
    obtain ⟨ad221, e221, hx221_0, hx221_1⟩ := at_T39 HR0_0.out x4_1 p221 q221
    cases e221
    replace hx221_0 := (HB.out.cell (World.block_lt_of_cell? w _ hx221_0)).trans hx221_0
    replace hx221_1 := (HB.out.cell (World.block_lt_of_cell? w _ hx221_1)).trans hx221_1
    replace p221 := eq_true p221
    replace q221 := eq_true q221
    go_wp2_with (first | (go_at_call 42; (with_reducible refine (Qp1.calls k1 _ _ l0_0 _ _ l0_1 ((Qp l0_0 x4_1).f1) t222 _ ?side1 ?side2 ?side3 ?side4 A9.out).mono ?_); (case side1 => repeat (first | exact (Kd.Qw HR0_0.out HB.out) | (with_reducible refine Kd.Qf1 ?_ _) | (with_reducible refine Kd.Qe1 ?_ _) | (with_reducible refine Kd.C_drew ?_))); (case side2 => exact HC0_0.out); (case side3 => repeat (first | exact (Kd.Qw HR0_1.out HB.out) | (with_reducible refine Kd.Qf1 ?_ _) | (with_reducible refine Kd.Qe1 ?_ _) | (with_reducible refine Kd.C_drew ?_))); (case side4 => exact HC0_1.out); rintro e w12 ⟨rfl, hb⟩; have n0_ := Qa.mk (Qo (g := gb220) (o := .cells #[.slice (some ad221) l0_0.length c0_0, .slice A0_1 l0_1.length c0_1] 25 (0, 0)) (by (with_reducible repeat (first | refine Qe ?_ _ | refine Qc ?_ | refine Qd ?_ _)); exact BK220.out) hb); have n1_ := Qa.mk (Qr (by with_reducible repeat (first | exact HB.out | apply Qj | apply Ql | apply Qk | refine Qi ?_ GE220.out)) hb); clear BK220; clear HB; have BK220 := n0_; have HB := n1_; clear n0_ n1_; (try clear hb); (try clear hb2); (try clear hk); (try clear hi)))
    go_roundg k1
    case measure => have := HK1.out; omega
    case rel => exact ⟨((Qp l0_0 x4_1).f1), (wrap64 (x4_1 + 1)), (by first | rfl | (simp; done) | (simp [*]; done)), (by first | rfl | (simp; done) | (simp [*]; done)), H', ⟨by have := HK1.out; omega⟩, ⟨by (with_reducible repeat (first | refine Qe ?_ _ | refine Qc ?_ | refine Qd ?_ _)); exact BK220.out⟩, ⟨by with_reducible repeat (first | exact HB.out | apply Qj | apply Ql | apply Qk | refine Qi ?_ GE220.out)⟩⟩
   rw [if_neg c10] at H
   have c10b0 : (t222 == x3_1) = false := beq_eq_false_iff_ne.mpr c10
   have c10b1 : (t222 != x3_1) = true := bne_iff_ne.mpr c10
   obtain rfl := Option.some.inj H
   have hcz13_0 : wr.cell? ⟨gb220, 0, none⟩ = some (.slice A0_0 l0_0.length c0_0) := (Qb BK220.out 0).trans rfl
   have hcz13_1 : wr.cell? ⟨gb220, 1, none⟩ = some (.slice A0_1 l0_1.length c0_1) := (Qb BK220.out 1).trans rfl
   have hfz13_0 := Qf BK220.out 0
   have hfz13_1 := Qf BK220.out 1
   have p221 : 0 ≤ (x4_1 : Int) := of_decide_eq_true (by assumption)
   have q221 : x4_1 < (l0_0.length : Int) := of_decide_eq_true (by assumption)
   obtain ⟨ad221, e221, hx221_0, hx221_1⟩ := at_T39 HR0_0.out x4_1 p221 q221
   cases e221
   replace hx221_0 := (HB.out.cell (World.block_lt_of_cell? w _ hx221_0)).trans hx221_0
   replace hx221_1 := (HB.out.cell (World.block_lt_of_cell? w _ hx221_1)).trans hx221_1
   replace p221 := eq_true p221
   replace q221 := eq_true q221
   go_wp2_with (first | (go_at_call 42; (with_reducible refine (Qp1.calls k1 _ _ l0_0 _ _ l0_1 ((Qp l0_0 x4_1).f1) t222 _ ?side1 ?side2 ?side3 ?side4 A9.out).mono ?_); (case side1 => repeat (first | exact (Kd.Qw HR0_0.out HB.out) | (with_reducible refine Kd.Qf1 ?_ _) | (with_reducible refine Kd.Qe1 ?_ _) | (with_reducible refine Kd.C_drew ?_))); (case side2 => exact HC0_0.out); (case side3 => repeat (first | exact (Kd.Qw HR0_1.out HB.out) | (with_reducible refine Kd.Qf1 ?_ _) | (with_reducible refine Kd.Qe1 ?_ _) | (with_reducible refine Kd.C_drew ?_))); (case side4 => exact HC0_1.out); rintro e w14 ⟨rfl, hb⟩; have n0_ := Qa.mk (Qo (g := gb220) (o := .cells #[.slice (some ad221) l0_0.length c0_0, .slice A0_1 l0_1.length c0_1] 25 (0, 0)) (by (with_reducible repeat (first | refine Qe ?_ _ | refine Qc ?_ | refine Qd ?_ _)); exact BK220.out) hb); have n1_ := Qa.mk (Qr (by with_reducible repeat (first | exact HB.out | apply Qj | apply Ql | apply Qk | refine Qi ?_ GE220.out)) hb); clear BK220; clear HB; have BK220 := n0_; have HB := n1_; clear n0_ n1_; (try clear hb); (try clear hb2); (try clear hk); (try clear hi)))
   go_ret
   exact ⟨by first | rfl | (simp [Qt, Qs] <;> rfl) | (simp [*, Qt, Qs] <;> rfl), by with_reducible repeat (first | exact HB.out | apply Qj | apply Ql | apply Qk | refine Qi ?_ GE220.out)⟩
end Go.Proofs.Ytnaanamibfpbpaa.V
namespace Go.Proofs.Ytnaanamibfpbpaa.V
open Go.RowKit Go.Proofs.YtnaanamibfpbpaaW.PrintWords Go.Proofs.YtnaanamibfpbpaaW.PrintLast Go.Proofs.YtnaanamibfpbpaaW.PrintMore
attribute [local go_sem] max2_int min2_int max_two min_two max_three min_three max_four min_four tdiv_most
set_option linter.unusedVariables false
set_option linter.unusedSimpArgs false
mutual
def Qm1.l0 : Nat → Int → Int → Int → Int → List (S39) → List (S53) → Option (Int)
 | 0, _, _, _, _, _, _ => none
 | k + 1, x1, x2, x7, x8, x224000, x224001 => if 0 ≤ x1 then (if x1 < (x224001.length : Int) then (if x8 < (((Qh x224001 x1).f1).length : Int) then (if x2 > 0 then (if 0 ≤ x8 then ((Qm1.f k x224000 x224001 (rd ((Qh x224001 x1).f1) x8) (wrap64 (x2 - 1))).bind fun t227 => (Qm1.l0 k x1 x2 (mx x7 t227) (wrap64 (x8 + 1)) x224000 x224001)) else (none)) else (some (wrap64 (x7 + 1)))) else (some (wrap64 (x7 + 1)))) else (none)) else (none)
def Qm1.f : Nat → List (S39) → List (S53) → Int → Int → Option (Int)
 | 0, _, _, _, _ => none
 | k + 1, l0_0, l0_1, a1, a2 => Qm1.l0 k a1 a2 0 0 l0_0 l0_1
end
def Qm1.T5 : Bool × List (List Nat × List Nat) := (true, [([], []), ([], []), ([], []), ([2], [2]), ([], []), ([3, 4], [3, 4]), ([5], [5]), ([6], [6]), ([], []), ([7, 8], [7, 8]), ([9], [9]), ([], []), ([11], [11]), ([1, 10, 12], [1, 10, 12]), ([0, 13], [0, 13]), ([14, 13, 0, 1, 2, 3, 4, 5, 6, 7, 8, 9, 10, 11, 12, 13, 14], [0, 14])])
def Qm1.B5 : List Nat := [0, 0, 0, 4, 0, 28, 60, 124, 0, 508, 1020, 0, 2048, 8190, 16383, 32767]
theorem Qm1.tab5 : rtab .any (opsOf Try.f38 5) = Qm1.T5 := by kernel_rfl
theorem Qm1.bits5 : waitsOk Qm1.T5.2 Qm1.B5 = true := by kernel_rfl
set_option maxHeartbeats 8000000 in
set_option maxRecDepth 100000 in
theorem Qm1.calls (k : Nat) : ∀ (A0_0 : Option Addr) (c0_0 : Nat) (l0_0 : List (S39)) (A0_1 : Option Addr) (c0_1 : Nat) (l0_1 : List (S53)) (a1 : Int) (a2 : Int) (r : Int) (w : World) (hr0_0 : Kd.C k39 w A0_0 l0_0.length l0_0) (hc0_0 : l0_0.length ≤ c0_0) (hr0_1 : Kd.C k53 w A0_1 l0_1.length l0_1) (hc0_1 : l0_1.length ≤ c0_1) (h : Qm1.f k l0_0 l0_1 a1 a2 = some r),
 Calls Try.prog 38 #[.agg #[.slice A0_0 l0_0.length c0_0, .slice A0_1 l0_1.length c0_1], .int .i64 a1, .int .i64 a2] w fun e w' => e = .returned (.int .i64 r) ∧ Below w.heap.size w w' := by
 induction k using Nat.strongRecOn with
 | _ k ih =>
 intro A0_0 c0_0 l0_0 A0_1 c0_1 l0_1 a1 a2 r w hr0_0 hc0_0 hr0_1 hc0_1 h
 cases k with
 | zero => exact absurd h (by simp [Qm1.f])
 | succ k =>
 simp only [Qm1.f] at h
 have hu25 := Try.underlying25
 have HR0_0 := Qa.mk hr0_0
 have HC0_0 := Qa.mk hc0_0
 clear hr0_0 hc0_0
 have HR0_1 := Qa.mk hr0_1
 have HC0_1 := Qa.mk hc0_1
 clear hr0_1 hc0_1
 have HB := Qa.mk (Below.refl w.heap.size w)
 have H : (Qm1.l0 k a1 a2 0 0 l0_0 l0_1) = some r := h
 clear h
 have H' := Qa.mk H
 clear H
 go_enter Try.func38, Try.ntmps38
 go_wp2_with (first | ((with_reducible refine Qd1 (N := 3) rfl ?_); refine Qg1 ?hg (N := 3) ?hd (cs := #[.slice A0_0 l0_0.length c0_0, .slice A0_1 l0_1.length c0_1]) (t := 25) ?hr ?_; (case hd => rfl); (case hg => rfl); (case hr => first | (go_simp; done) | (go_simp; rfl)); intro gb223 hg w4 hbox hb; have n0_ := Qa.mk (Qr (by with_reducible repeat (first | exact HB.out | apply Qj | apply Ql | apply Qk)) hb); have n1_ := Qa.mk (hbox); have n2_ := Qa.mk ((by rw [hg]; exact (Qc1 (by with_reducible repeat (first | exact HB.out | apply Qj | apply Ql | apply Qk))) : w.heap.size ≤ gb223)); have n3_ := n2_; clear HB; have HB := n0_; have BK223 := n1_; have GW223 := n2_; have GE223 := n3_; clear n0_ n1_ n2_ n3_; clear hb hbox hg))
 go_loopg [7, 8] k (fun kq v7 v8 w' => ∃ (x7_1 : Int) (x8_1 : Int), v7 = .int .i64 x7_1 ∧ v8 = .int .i64 x8_1 ∧ Qa (Qm1.l0 kq a1 a2 x7_1 x8_1 l0_0 l0_1 = some r) ∧ Qa (kq ≤ k) ∧ Qa (w'.heap[gb223]? = some (.cells #[(.slice A0_0 l0_0.length c0_0), (.slice A0_1 l0_1.length c0_1)] 25 (0, 0))) ∧ Qa (Below w.heap.size w w'))
 case atStart => exact ⟨(0), (0), (by first | rfl | (simp; done) | (simp [*]; done)), (by first | rfl | (simp; done) | (simp [*]; done)), H', ⟨Nat.le_refl _⟩, ⟨by (with_reducible repeat (first | refine Qe ?_ _ | refine Qc ?_ | refine Qd ?_ _)); exact BK223.out⟩, ⟨by with_reducible repeat (first | exact HB.out | apply Qj | apply Ql | apply Qk | refine Qi ?_ GE223.out)⟩⟩
 case round =>
  clear H'
  (try clear p2; try clear c3)
  obtain ⟨x7_1, x8_1, rfl, rfl, HA, HK1, BK223, HB⟩ := hrel
  cases gk with
  | zero => exact absurd HA.out (by simp [Qm1.l0])
  | succ k1 =>
   have H := HA.out
   clear HA
   simp only [Qm1.l0] at H
   by_cases c5 : 0 ≤ a1
   rotate_left
   ·
    rw [if_neg c5] at H
    exact absurd H (by simp)
   rw [if_pos c5] at H
   have c5b0 : decide (0 ≤ a1) = true := decide_eq_true c5
   clear c5
   by_cases c6 : a1 < (l0_1.length : Int)
   rotate_left
   ·
    rw [if_neg c6] at H
    exact absurd H (by simp)
   rw [if_pos c6] at H
   have c6b0 : decide (a1 < (l0_1.length : Int)) = true := decide_eq_true c6
   clear c6
   by_cases c7 : x8_1 < (((Qh l0_1 a1).f1).length : Int)
   rotate_left
   ·
    rw [if_neg c7] at H
    have c7b0 : decide (x8_1 < (((Qh l0_1 a1).f1).length : Int)) = false := decide_eq_false c7
    clear c7
    obtain rfl := Option.some.inj H
    have hcz16_0 : wr.cell? ⟨gb223, 0, none⟩ = some (.slice A0_0 l0_0.length c0_0) := (Qb BK223.out 0).trans rfl
    have hcz16_1 : wr.cell? ⟨gb223, 1, none⟩ = some (.slice A0_1 l0_1.length c0_1) := (Qb BK223.out 1).trans rfl
    have hfz16_0 := Qf BK223.out 0
    have hfz16_1 := Qf BK223.out 1
    have p224 : 0 ≤ (a1 : Int) := of_decide_eq_true (by assumption)
    have q224 : a1 < (l0_1.length : Int) := of_decide_eq_true (by assumption)
    obtain ⟨ad224, A224_1, c224_1, e224, hx224_0, hx224_1, hx224_2, hx224_3, hx224_4, hx224_5, hx224_6, hl224_1, hi224_1⟩ := at_T53 HR0_1.out a1 p224 q224
    cases e224
    replace hx224_0 := (HB.out.cell (World.block_lt_of_cell? w _ hx224_0)).trans hx224_0
    replace hx224_1 := (HB.out.cell (World.block_lt_of_cell? w _ hx224_1)).trans hx224_1
    replace hx224_2 := (HB.out.cell (World.block_lt_of_cell? w _ hx224_2)).trans hx224_2
    replace hx224_3 := (HB.out.cell (World.block_lt_of_cell? w _ hx224_3)).trans hx224_3
    replace hx224_4 := (HB.out.cell (World.block_lt_of_cell? w _ hx224_4)).trans hx224_4
    replace hx224_5 := (HB.out.cell (World.block_lt_of_cell? w _ hx224_5)).trans hx224_5
    replace hx224_6 := (HB.out.cell (World.block_lt_of_cell? w _ hx224_6)).trans hx224_6
    have HR224_1 := Qa.mk hi224_1
    have HC224_1 := Qa.mk hl224_1
    clear hi224_1 hl224_1
    replace p224 := eq_true p224
    replace q224 := eq_true q224
    go_wp2
    go_ret
    exact ⟨by first | rfl | (simp [Qt, Qs] <;> rfl) | (simp [*, Qt, Qs] <;> rfl), by with_reducible repeat (first | exact HB.out | apply Qj | apply Ql | apply Qk | refine Qi ?_ GE223.out)⟩
   rw [if_pos c7] at H
   have c7b0 : decide (x8_1 < (((Qh l0_1 a1).f1).length : Int)) = true := decide_eq_true c7
   clear c7
   by_cases c8 : a2 > 0
   rotate_left
   ·
    rw [if_neg c8] at H
    have c8b0 : decide (0 < a2) = false := decide_eq_false c8
    clear c8
    obtain rfl := Option.some.inj H
    have hcz15_0 : wr.cell? ⟨gb223, 0, none⟩ = some (.slice A0_0 l0_0.length c0_0) := (Qb BK223.out 0).trans rfl
    have hcz15_1 : wr.cell? ⟨gb223, 1, none⟩ = some (.slice A0_1 l0_1.length c0_1) := (Qb BK223.out 1).trans rfl
    have hfz15_0 := Qf BK223.out 0
    have hfz15_1 := Qf BK223.out 1
    have p224 : 0 ≤ (a1 : Int) := of_decide_eq_true (by assumption)
    have q224 : a1 < (l0_1.length : Int) := of_decide_eq_true (by assumption)
    obtain ⟨ad224, A224_1, c224_1, e224, hx224_0, hx224_1, hx224_2, hx224_3, hx224_4, hx224_5, hx224_6, hl224_1, hi224_1⟩ := at_T53 HR0_1.out a1 p224 q224
    cases e224
    replace hx224_0 := (HB.out.cell (World.block_lt_of_cell? w _ hx224_0)).trans hx224_0
    replace hx224_1 := (HB.out.cell (World.block_lt_of_cell? w _ hx224_1)).trans hx224_1
    replace hx224_2 := (HB.out.cell (World.block_lt_of_cell? w _ hx224_2)).trans hx224_2
    replace hx224_3 := (HB.out.cell (World.block_lt_of_cell? w _ hx224_3)).trans hx224_3
    replace hx224_4 := (HB.out.cell (World.block_lt_of_cell? w _ hx224_4)).trans hx224_4
    replace hx224_5 := (HB.out.cell (World.block_lt_of_cell? w _ hx224_5)).trans hx224_5
    replace hx224_6 := (HB.out.cell (World.block_lt_of_cell? w _ hx224_6)).trans hx224_6
    have HR224_1 := Qa.mk hi224_1
    have HC224_1 := Qa.mk hl224_1
    clear hi224_1 hl224_1
    replace p224 := eq_true p224
    replace q224 := eq_true q224
    go_wp2
    go_ret
    exact ⟨by first | rfl | (simp [Qt, Qs] <;> rfl) | (simp [*, Qt, Qs] <;> rfl), by with_reducible repeat (first | exact HB.out | apply Qj | apply Ql | apply Qk | refine Qi ?_ GE223.out)⟩
   rw [if_pos c8] at H
   have c8b0 : decide (0 < a2) = true := decide_eq_true c8
   clear c8
   by_cases c9 : 0 ≤ x8_1
   rotate_left
   ·
    rw [if_neg c9] at H
    exact absurd H (by simp)
   rw [if_pos c9] at H
   have c9b0 : decide (0 ≤ x8_1) = true := decide_eq_true c9
   clear c9
   replace H := Option.bind_eq_some_iff.mp H
   obtain ⟨t227, A100, H⟩ := H
   replace H : (Qm1.l0 k1 a1 a2 (mx x7_1 t227) (wrap64 (x8_1 + 1)) l0_0 l0_1) = some r := H
   have A10 := Qa.mk A100
   clear A100
   obtain ⟨ji11, hji11⟩ : ∃ j_ : Int, (mx x7_1 t227) = j_ := ⟨_, rfl⟩
   replace H : (Qm1.l0 k1 a1 a2 ji11 (wrap64 (x8_1 + 1)) l0_0 l0_1) = some r := by first | (rw [hji11] at H; exact H) | (simp only [hji11] at H ⊢; exact H)
   (try rw [hji11] at A10)
   have hji11_ : (if x7_1 < t227 then t227 else x7_1) = ji11 := hji11
   have H' := Qa.mk H
   clear H
   have hcz12_0 : wr.cell? ⟨gb223, 0, none⟩ = some (.slice A0_0 l0_0.length c0_0) := (Qb BK223.out 0).trans rfl
   have hcz12_1 : wr.cell? ⟨gb223, 1, none⟩ = some (.slice A0_1 l0_1.length c0_1) := (Qb BK223.out 1).trans rfl
   have hfz12_0 := Qf BK223.out 0
   have hfz12_1 := Qf BK223.out 1
   have p224 : 0 ≤ (a1 : Int) := of_decide_eq_true (by assumption)
   have q224 : a1 < (l0_1.length : Int) := of_decide_eq_true (by assumption)
   obtain ⟨ad224, A224_1, c224_1, e224, hx224_0, hx224_1, hx224_2, hx224_3, hx224_4, hx224_5, hx224_6, hl224_1, hi224_1⟩ := at_T53 HR0_1.out a1 p224 q224
   cases e224
   replace hx224_0 := (HB.out.cell (World.block_lt_of_cell? w _ hx224_0)).trans hx224_0
   replace hx224_1 := (HB.out.cell (World.block_lt_of_cell? w _ hx224_1)).trans hx224_1
   replace hx224_2 := (HB.out.cell (World.block_lt_of_cell? w _ hx224_2)).trans hx224_2
   replace hx224_3 := (HB.out.cell (World.block_lt_of_cell? w _ hx224_3)).trans hx224_3
   replace hx224_4 := (HB.out.cell (World.block_lt_of_cell? w _ hx224_4)).trans hx224_4
   replace hx224_5 := (HB.out.cell (World.block_lt_of_cell? w _ hx224_5)).trans hx224_5
   replace hx224_6 := (HB.out.cell (World.block_lt_of_cell? w _ hx224_6)).trans hx224_6
   have HR224_1 := Qa.mk hi224_1
   have HC224_1 := Qa.mk hl224_1
   clear hi224_1 hl224_1
   replace p224 := eq_true p224
   replace q224 := eq_true q224
   try go_wp2
   have n0_ := Qa.mk (Qc BK223.out)
   have n1_ := Qa.mk (Qk HB.out)
   clear BK223
   clear HB
   have BK223 := n0_
   have HB := n1_
   clear n0_ n1_
   have p225 : 0 ≤ (a1 : Int) := of_decide_eq_true (by assumption)
   have q225 : a1 < (l0_1.length : Int) := of_decide_eq_true (by assumption)
   obtain ⟨ad225, A225_1, c225_1, e225, hx225_0, hx225_1, hx225_2, hx225_3, hx225_4, hx225_5, hx225_6, hl225_1, hi225_1⟩ := at_T53 HR0_1.out a1 p225 q225
   have hw225_6 := hx225_6
   have hw225_5 := hx225_5
   have hw225_4 := hx225_4
   have hw225_3 := hx225_3
   have hw225_2 := hx225_2
   have hw225_1 := hx225_1
   have hw225_0 := hx225_0
   obtain rfl : ad224 = ad225 := (by injection e225)
   replace hx225_0 := (HB.out.cell (World.block_lt_of_cell? w _ hx225_0)).trans hx225_0
   replace hx225_1 := (HB.out.cell (World.block_lt_of_cell? w _ hx225_1)).trans hx225_1
   replace hx225_2 := (HB.out.cell (World.block_lt_of_cell? w _ hx225_2)).trans hx225_2
   replace hx225_3 := (HB.out.cell (World.block_lt_of_cell? w _ hx225_3)).trans hx225_3
   replace hx225_4 := (HB.out.cell (World.block_lt_of_cell? w _ hx225_4)).trans hx225_4
   replace hx225_5 := (HB.out.cell (World.block_lt_of_cell? w _ hx225_5)).trans hx225_5
   replace hx225_6 := (HB.out.cell (World.block_lt_of_cell? w _ hx225_6)).trans hx225_6
   have HR225_1 := Qa.mk hi225_1
   have HC225_1 := Qa.mk hl225_1
   clear hi225_1 hl225_1
   replace p225 := eq_true p225
   replace q225 := eq_true q225
   have p226 : 0 ≤ (x8_1 : Int) := of_decide_eq_true (by assumption)
   have q226 : x8_1 < (((Qh l0_1 a1).f1).length : Int) := of_decide_eq_true (by assumption)
   obtain ⟨ad226, e226, hx226_0⟩ := Kd.at_int HR225_1.out x8_1 p226 q226
   have hw226_0 := hx226_0
   cases e226
   replace hx226_0 := (HB.out.cell (World.block_lt_of_cell? w _ hx226_0)).trans hx226_0
   replace p226 := eq_true p226
   replace q226 := eq_true q226
   refine start_ (n := 16) (S := fun w' => w'.cell? ⟨gb223, 0, none⟩ = some (.slice A0_0 l0_0.length c0_0) ∧ w'.cell? ⟨gb223, 1, none⟩ = some (.slice (some ad224) l0_1.length c0_1) ∧ w'.cell? (ad224.add ((a1).toNat * 7)) = some (.int .i64 ((Qh l0_1 a1).f0)) ∧ w'.cell? ⟨(ad224.add ((a1).toNat * 7)).block, (ad224.add ((a1).toNat * 7)).off + 1, none⟩ = some (.slice (some ad226) ((Qh l0_1 a1).f1).length c225_1) ∧ w'.cell? ⟨(ad224.add ((a1).toNat * 7)).block, (ad224.add ((a1).toNat * 7)).off + 2, none⟩ = some (.int .i64 ((Qh l0_1 a1).f2)) ∧ w'.cell? ⟨(ad224.add ((a1).toNat * 7)).block, (ad224.add ((a1).toNat * 7)).off + 3, none⟩ = some (.int .u64 ((Qh l0_1 a1).f3.f0)) ∧ w'.cell? ⟨(ad224.add ((a1).toNat * 7)).block, (ad224.add ((a1).toNat * 7)).off + 4, none⟩ = some (.int .u64 ((Qh l0_1 a1).f3.f1)) ∧ w'.cell? ⟨(ad224.add ((a1).toNat * 7)).block, (ad224.add ((a1).toNat * 7)).off + 5, none⟩ = some (.int .u64 ((Qh l0_1 a1).f3.f2)) ∧ w'.cell? ⟨(ad224.add ((a1).toNat * 7)).block, (ad224.add ((a1).toNat * 7)).off + 6, none⟩ = some (.int .u64 ((Qh l0_1 a1).f3.f3)) ∧ w'.cell? (ad226.add (x8_1).toNat) = some (.int .i64 (rd ((Qh l0_1 a1).f1) x8_1))) (ds := []) #[Y, Y, Y, Y, Y, Y, Y, Y, Y, Y, Y, Y, Y, Y, Y, Y] (by kernel_rfl) rfl rfl ⟨(Qb BK223.out 0).trans rfl, (Qb BK223.out 1).trans rfl, ((HB.out.cell (World.block_lt_of_cell? w _ hw225_0)).trans hw225_0), ((HB.out.cell (World.block_lt_of_cell? w _ hw225_1)).trans hw225_1), ((HB.out.cell (World.block_lt_of_cell? w _ hw225_2)).trans hw225_2), ((HB.out.cell (World.block_lt_of_cell? w _ hw225_3)).trans hw225_3), ((HB.out.cell (World.block_lt_of_cell? w _ hw225_4)).trans hw225_4), ((HB.out.cell (World.block_lt_of_cell? w _ hw225_5)).trans hw225_5), ((HB.out.cell (World.block_lt_of_cell? w _ hw225_6)).trans hw225_6), ((HB.out.cell (World.block_lt_of_cell? w _ hw226_0)).trans hw226_0)⟩ (fun hHeld => ?_); refine with_tabW Qm1.tab5 Qm1.bits5 (fun HT_ HW_ => ?_)
   generalize wr.drew = w13 at BK223 HB HR225_1 hx225_0 hx225_1 hx225_2 hx225_3 hx225_4 hx225_5 hx225_6 hx226_0 hHeld ⊢
   refine pure_ (i := 0) (N := some 24) (v := ?_) (a' := ?_) #[J, Y, Y, Y, Y, Y, Y, Y, Y, Y, Y, Y, Y, Y, Y, Y] rfl rfl (Qm HT_.out (by kernel_rfl)) (fun _ _ _ h => h) (Or.inl ⟨by rfl, ?_⟩) ?_ ?_
   rotate_left
   ·
    intro w'
    go_simp
    with_reducible rfl
   rotate_left
   ·
    simp only [Act.put, List.setIfInBounds_toArray, List.set_cons_zero, List.set_cons_succ, i64_w, i32_w]
    rfl
   refine pure_ (i := 2) (N := some 26) (v := ?_) (a' := ?_) #[J, Y, J, Y, Y, Y, Y, Y, Y, Y, Y, Y, Y, Y, Y, Y] rfl rfl (Qm HT_.out (by kernel_rfl)) (fun _ _ _ h => h) (Or.inl ⟨by rfl, ?_⟩) ?_ ?_
   rotate_left
   ·
    intro w'
    go_simp
    with_reducible rfl
   rotate_left
   ·
    simp only [Act.put, List.setIfInBounds_toArray, List.set_cons_zero, List.set_cons_succ, i64_w, i32_w]
    rfl
   refine pure_ (i := 4) (N := some 28) (v := ?_) (a' := ?_) #[J, Y, J, Y, J, Y, Y, Y, Y, Y, Y, Y, Y, Y, Y, Y] rfl rfl (Qm HT_.out (by kernel_rfl)) (fun _ _ _ h => h) (Or.inl ⟨by rfl, ?_⟩) ?_ ?_
   rotate_left
   ·
    intro w'
    go_simp
    with_reducible rfl
   rotate_left
   ·
    simp only [Act.put, List.setIfInBounds_toArray, List.set_cons_zero, List.set_cons_succ, i64_w, i32_w]
    rfl
   refine pure_ (i := 8) (N := some 32) (v := ?_) (a' := ?_) #[J, Y, J, Y, J, Y, Y, Y, J, Y, Y, Y, Y, Y, Y, Y] rfl rfl (Qm HT_.out (by kernel_rfl)) (fun _ _ _ h => h) (Or.inl ⟨by rfl, ?_⟩) ?_ ?_
   rotate_left
   ·
    intro w'
    go_simp
    with_reducible rfl
   rotate_left
   ·
    simp only [Act.put, List.setIfInBounds_toArray, List.set_cons_zero, List.set_cons_succ, i64_w, i32_w]
    rfl
   refine pure_ (i := 11) (N := some 35) (v := ?_) (a' := ?_) #[J, Y, J, Y, J, Y, Y, Y, J, Y, Y, J, Y, Y, Y, Y] rfl rfl (Qm HT_.out (by kernel_rfl)) (fun _ _ _ h => h) (Or.inl ⟨by rfl, ?_⟩) ?_ ?_
   rotate_left
   ·
    intro w'
    go_simp
    with_reducible rfl
   rotate_left
   ·
    simp only [Act.put, List.setIfInBounds_toArray, List.set_cons_zero, List.set_cons_succ, i64_w, i32_w]
    rfl
   refine pure_ (i := 12) (N := some 36) (v := ?_) (a' := ?_) #[J, Y, J, Y, J, Y, Y, Y, J, Y, Y, J, J, Y, Y, Y] rfl rfl (Qm HT_.out (by kernel_rfl)) (fun _ _ _ h => h) (Or.inl ⟨by rfl, ?_⟩) ?_ ?_
   rotate_left
   ·
    intro w'
    go_simp
    with_reducible rfl
   rotate_left
   ·
    simp only [Act.put, List.setIfInBounds_toArray, List.set_cons_zero, List.set_cons_succ, i64_w, i32_w]
    rfl
   refine take_ (i := 1) (N := some 25) (v := ?_) (a' := ?_) #[J, J, J, Y, J, Y, Y, Y, J, Y, Y, J, J, Y, Y, Y] rfl rfl (Qk1 HT_.out HW_.out (by kernel_rfl)) (fun _ _ _ h => h) (Or.inl ⟨by rfl, ?_⟩) hHeld ?_ ?_
   rotate_left
   ·
    rintro w' ⟨s0, s1, s2, s3, s4, s5, s6, s7, s8, s9⟩
    go_simp
    with_reducible rfl
   rotate_left
   ·
    simp only [Act.put, List.setIfInBounds_toArray, List.set_cons_zero, List.set_cons_succ, i64_w, i32_w]
    rfl
   refine take_ (i := 3) (N := some 27) (v := ?_) (a' := ?_) #[J, J, J, J, J, Y, Y, Y, J, Y, Y, J, J, Y, Y, Y] rfl rfl (Qk1 HT_.out HW_.out (by kernel_rfl)) (fun _ _ _ h => h) (Or.inl ⟨by rfl, ?_⟩) hHeld ?_ ?_
   rotate_left
   ·
    rintro w' ⟨s0, s1, s2, s3, s4, s5, s6, s7, s8, s9⟩
    go_simp
    with_reducible rfl
   rotate_left
   ·
    simp only [Act.put, List.setIfInBounds_toArray, List.set_cons_zero, List.set_cons_succ, i64_w, i32_w]
    rfl
   refine pure_ (i := 5) (N := some 29) (v := ?_) (a' := ?_) #[J, J, J, J, J, J, Y, Y, J, Y, Y, J, J, Y, Y, Y] rfl rfl (Qm HT_.out (by kernel_rfl)) (fun _ _ _ h => h) (Or.inl ⟨by rfl, ?_⟩) ?_ ?_
   rotate_left
   ·
    intro w'
    go_simp
    with_reducible rfl
   rotate_left
   ·
    simp only [Act.put, List.setIfInBounds_toArray, List.set_cons_zero, List.set_cons_succ, i64_w, i32_w]
    rfl
   refine pure_ (i := 6) (N := some 30) (v := ?_) (a' := ?_) #[J, J, J, J, J, J, J, Y, J, Y, Y, J, J, Y, Y, Y] rfl rfl (Qm HT_.out (by kernel_rfl)) (fun _ _ _ h => h) (Or.inl ⟨by rfl, ?_⟩) ?_ ?_
   rotate_left
   ·
    intro w'
    go_simp
    with_reducible rfl
   rotate_left
   ·
    simp only [Act.put, List.setIfInBounds_toArray, List.set_cons_zero, List.set_cons_succ, i64_w, i32_w]
    rfl
   refine take_ (i := 7) (N := some 31) (v := ?_) (a' := ?_) #[J, J, J, J, J, J, J, J, J, Y, Y, J, J, Y, Y, Y] rfl rfl (Qk1 HT_.out HW_.out (by kernel_rfl)) (fun _ _ _ h => h) (Or.inl ⟨by rfl, ?_⟩) hHeld ?_ ?_
   rotate_left
   ·
    rintro w' ⟨s0, s1, s2, s3, s4, s5, s6, s7, s8, s9⟩
    go_simp
    with_reducible rfl
   rotate_left
   ·
    simp only [Act.put, List.setIfInBounds_toArray, List.set_cons_zero, List.set_cons_succ, i64_w, i32_w]
    rfl
   refine pure_ (i := 9) (N := some 33) (v := ?_) (a' := ?_) #[J, J, J, J, J, J, J, J, J, J, Y, J, J, Y, Y, Y] rfl rfl (Qm HT_.out (by kernel_rfl)) (fun _ _ _ h => h) (Or.inl ⟨by rfl, ?_⟩) ?_ ?_
   rotate_left
   ·
    intro w'
    go_simp
    with_reducible rfl
   rotate_left
   ·
    simp only [Act.put, List.setIfInBounds_toArray, List.set_cons_zero, List.set_cons_succ, i64_w, i32_w]
    rfl
   refine take_ (i := 10) (N := some 34) (v := ?_) (a' := ?_) #[J, J, J, J, J, J, J, J, J, J, J, J, J, Y, Y, Y] rfl rfl (Qk1 HT_.out HW_.out (by kernel_rfl)) (fun _ _ _ h => h) (Or.inl ⟨by rfl, ?_⟩) hHeld ?_ ?_
   rotate_left
   ·
    rintro w' ⟨s0, s1, s2, s3, s4, s5, s6, s7, s8, s9⟩
    go_simp
    with_reducible rfl
   rotate_left
   ·
    simp only [Act.put, List.setIfInBounds_toArray, List.set_cons_zero, List.set_cons_succ, i64_w, i32_w]
    rfl
   refine one_ (i := 13) (N := some 37) #[J, J, J, J, J, J, J, J, J, J, J, J, J, J, Y, Y] rfl rfl (one_of HT_.out (by kernel_rfl)) (by decide) (fun K hK => ?_)
   refine goes_ Try.func38 (by kernel_rfl) rfl #[.agg #[.slice A0_0 l0_0.length c0_0, .slice (some ad224) l0_1.length c0_1], .int .i64 (rd ((Qh l0_1 a1).f1) x8_1), .int .i64 (wrap64 (a2 - 1))] (by rfl) rfl rfl (by (try simp only [List.map_toArray, List.map_cons, List.map_nil]); first | done | rfl | (simp only [List.length_drop, List.length_take]; rfl)) ?_
   with_reducible refine (ih k1 (by have := HK1.out; omega) _ _ l0_0 _ _ l0_1 (rd ((Qh l0_1 a1).f1) x8_1) (wrap64 (a2 - 1)) t227 _ ?side1 ?side2 ?side3 ?side4 A10.out).mono ?_
   (case side1 => repeat (first | exact (Kd.Qw HR0_0.out HB.out) | (with_reducible refine Kd.Qf1 ?_ _) | (with_reducible refine Kd.Qe1 ?_ _) | (with_reducible refine Kd.C_drew ?_)))
   (case side2 => exact HC0_0.out)
   (case side3 => repeat (first | exact (Kd.Qw HR0_1.out HB.out) | (with_reducible refine Kd.Qf1 ?_ _) | (with_reducible refine Kd.Qe1 ?_ _) | (with_reducible refine Kd.C_drew ?_)))
   (case side4 => exact HC0_1.out)
   rintro e w14 ⟨rfl, hb⟩
   refine ⟨_, rfl, ?_⟩
   have n0_ := Qa.mk (Qo (g := gb223) (o := .cells #[.slice A0_0 l0_0.length c0_0, .slice (some ad224) l0_1.length c0_1] 25 (0, 0)) (by (with_reducible repeat (first | refine Qe ?_ _ | refine Qc ?_ | refine Qd ?_ _)); exact BK223.out) hb)
   have n1_ := Qa.mk (Qr (by with_reducible repeat (first | exact HB.out | apply Qj | apply Ql | apply Qk | refine Qi ?_ GE223.out)) hb)
   clear BK223
   clear HB
   have BK223 := n0_
   have HB := n1_
   clear n0_ n1_
   (try clear hb; try clear hb2; try clear hk; try clear hi)
   refine hK.out _ _ ⟨(Qb BK223.out 0).trans rfl, (Qb BK223.out 1).trans rfl, ((HB.out.cell (World.block_lt_of_cell? w _ hw225_0)).trans hw225_0), ((HB.out.cell (World.block_lt_of_cell? w _ hw225_1)).trans hw225_1), ((HB.out.cell (World.block_lt_of_cell? w _ hw225_2)).trans hw225_2), ((HB.out.cell (World.block_lt_of_cell? w _ hw225_3)).trans hw225_3), ((HB.out.cell (World.block_lt_of_cell? w _ hw225_4)).trans hw225_4), ((HB.out.cell (World.block_lt_of_cell? w _ hw225_5)).trans hw225_5), ((HB.out.cell (World.block_lt_of_cell? w _ hw225_6)).trans hw225_6), ((HB.out.cell (World.block_lt_of_cell? w _ hw226_0)).trans hw226_0)⟩ (fun hHeld => ?_)
   clear hK K
   refine norm_ (a' := ?_) ?_ ?_
   rotate_left
   ·
    show Act.put _ (some 37) _ = _
    simp only [Act.put, List.setIfInBounds_toArray, List.set_cons_zero, List.set_cons_succ, i64_w, i32_w]
    rfl
   refine pure_ (i := 14) (N := some 38) (v := ?_) (a' := ?_) #[J, J, J, J, J, J, J, J, J, J, J, J, J, J, J, Y] rfl rfl (Qm HT_.out (by kernel_rfl)) (fun _ _ _ h => h) (Or.inl ⟨by rfl, ?_⟩) ?_ ?_
   rotate_left
   ·
    intro w'
    go_simp
    with_reducible rfl
   rotate_left
   ·
    simp only [Act.put, List.setIfInBounds_toArray, List.set_cons_zero, List.set_cons_succ, i64_w, i32_w]
    rfl
   refine pure_ (i := 15) (N := some 7) (v := ?_) (a' := ?_) #[J, J, J, J, J, J, J, J, J, J, J, J, J, J, J, J] rfl rfl (Qm HT_.out (by kernel_rfl)) (fun _ _ _ h => h) (Or.inl ⟨by rfl, ?_⟩) ?_ ?_
   rotate_left
   ·
    intro w'
    go_simp
    with_reducible rfl
   rotate_left
   ·
    simp only [Act.put, List.setIfInBounds_toArray, List.set_cons_zero, List.set_cons_succ, i64_w, i32_w]
    rfl
   refine done_ (done_of HT_.out (by kernel_rfl)) ?_
   try go_wp2
   go_roundg k1
   case measure => have := HK1.out; omega
   case rel => exact ⟨(ji11), (wrap64 (x8_1 + 1)), (by first | rfl | (simp; done) | (simp only [← hji11] <;> (first | rfl | simp)) | (simp [*]; done)), (by first | rfl | (simp; done) | (simp [*]; done)), H', ⟨by have := HK1.out; omega⟩, ⟨by (with_reducible repeat (first | refine Qe ?_ _ | refine Qc ?_ | refine Qd ?_ _)); exact BK223.out⟩, ⟨by with_reducible repeat (first | exact HB.out | apply Qj | apply Ql | apply Qk | refine Qi ?_ GE223.out)⟩⟩
end Go.Proofs.Ytnaanamibfpbpaa.V
namespace Go.Proofs.Ytnaanamibfpbpaa.V
open Go.RowKit Go.Proofs.YtnaanamibfpbpaaW.PrintWords Go.Proofs.YtnaanamibfpbpaaW.PrintLast Go.Proofs.YtnaanamibfpbpaaW.PrintMore
attribute [local go_sem] max2_int min2_int max_two min_two max_three min_three max_four min_four tdiv_most
set_option linter.unusedVariables false
set_option linter.unusedSimpArgs false
mutual
def Qb1.j0 : Nat → Bool → List (S39) → List (S53) → Option (ByteArray × Int × Int)
 | 0, _, _, _ => none
 | k + 1, x18, x229000, x229001 => if x18 = true then (some ((⟨#[]⟩ : ByteArray), 4, 0)) else (if (x229000.length : Int) = 0 then (some ((⟨#[114, 117, 108, 101, 115]⟩ : ByteArray), 10, 0)) else (Qb1.l0 k 0 x229000 x229001))
def Qb1.l0 : Nat → Int → List (S39) → List (S53) → Option (ByteArray × Int × Int)
 | 0, _, _, _ => none
 | k + 1, x5, x229000, x229001 => if x5 < (x229000.length : Int) then (if 0 ≤ x5 then ((Qu1.f k ((Qp x229000 x5).f0)).bind fun t230 => (if t230 = true then (Qb1.l1 k x5 0 x229000 x229001) else (some ((⟨#[114, 117, 108, 101, 115]⟩ : ByteArray), 10, x5)))) else (none)) else (Qb1.l2 k 0 x229000 x229001)
def Qb1.l1 : Nat → Int → Int → List (S39) → List (S53) → Option (ByteArray × Int × Int)
 | 0, _, _, _, _ => none
 | k + 1, x5, x6, x229000, x229001 => if x6 < x5 then (if 0 ≤ x6 then (if x6 < (x229000.length : Int) then (if 0 ≤ x5 then (if x5 < (x229000.length : Int) then (if ((Qp x229000 x6).f0).toList = ((Qp x229000 x5).f0).toList then (some ((⟨#[114, 117, 108, 101, 115]⟩ : ByteArray), 10, x5)) else (Qb1.l1 k x5 (wrap64 (x6 + 1)) x229000 x229001)) else (none)) else (none)) else (none)) else (none)) else (Qb1.l0 k (wrap64 (x5 + 1)) x229000 x229001)
def Qb1.l2 : Nat → Int → List (S39) → List (S53) → Option (ByteArray × Int × Int)
 | 0, _, _, _ => none
 | k + 1, x7, x229000, x229001 => if x7 < (x229001.length : Int) then (if 0 ≤ x7 then ((Qj1.f k ((Qh x229001 x7).f0) ((Qh x229001 x7).f1) ((Qh x229001 x7).f2) ((Qh x229001 x7).f3.f0) ((Qh x229001 x7).f3.f1) ((Qh x229001 x7).f3.f2) ((Qh x229001 x7).f3.f3) (x229000.length : Int)).bind fun t234 => (if t234 = true then (Qb1.l2 k (wrap64 (x7 + 1)) x229000 x229001) else (some ((⟨#[110, 111, 100, 101, 115]⟩ : ByteArray), 10, x7)))) else (none)) else ((Qs1.f k x229000 x229001).bind fun t235 => (if t235 = true then (Qb1.l3 k 0 x229000 x229001) else (some ((⟨#[]⟩ : ByteArray), 10, 0))))
def Qb1.l3 : Nat → Int → List (S39) → List (S53) → Option (ByteArray × Int × Int)
 | 0, _, _, _ => none
 | k + 1, x8, x229000, x229001 => if x8 < (x229001.length : Int) then ((Qm1.f k x229000 x229001 x8 205).bind fun t236 => (if t236 > 200 then (some ((⟨#[110, 111, 100, 101, 115]⟩ : ByteArray), 5, x8)) else (Qb1.l3 k (wrap64 (x8 + 1)) x229000 x229001))) else (some ((⟨#[]⟩ : ByteArray), 0, 0))
end
def Qb1.f (k : Nat) (l0_0 : List (S39)) (l0_1 : List (S53)) : Option (ByteArray × Int × Int) := if (l0_0.length : Int) > 1000 then (Qb1.j0 k true l0_0 l0_1) else (Qb1.j0 k (decide ((l0_1.length : Int) > 10000)) l0_0 l0_1)
def Qb1.T13 : Bool × List (List Nat × List Nat) := (true, [([], []), ([0], [0]), ([], []), ([1, 2], [1, 2]), ([3], [3]), ([4], [4]), ([], []), ([6], [6]), ([], []), ([7, 8], [7, 8]), ([9], [9]), ([10], [10]), ([5, 11], [5, 11])])
def Qb1.B13 : List Nat := [0, 1, 0, 7, 15, 31, 0, 64, 0, 448, 960, 1984, 4095]
theorem Qb1.tab13 : rtab .any (opsOf Try.f28 13) = Qb1.T13 := by kernel_rfl
theorem Qb1.bits13 : waitsOk Qb1.T13.2 Qb1.B13 = true := by kernel_rfl
def Qb1.T18 : Bool × List (List Nat × List Nat) := (true, [([], []), ([0], [0]), ([], []), ([1, 2], [1, 2]), ([3], [3]), ([], []), ([5], [5]), ([6], [6]), ([4, 7], [4, 7]), ([8], [8])])
def Qb1.B18 : List Nat := [0, 1, 0, 7, 15, 0, 32, 96, 255, 511]
theorem Qb1.tab18 : rtab .any (opsOf Try.f28 18) = Qb1.T18 := by kernel_rfl
theorem Qb1.bits18 : waitsOk Qb1.T18.2 Qb1.B18 = true := by kernel_rfl
set_option maxHeartbeats 8000000 in
set_option maxRecDepth 100000 in
theorem Qb1.calls (k : Nat) (A0_0 : Option Addr) (c0_0 : Nat) (l0_0 : List (S39)) (A0_1 : Option Addr) (c0_1 : Nat) (l0_1 : List (S53)) (r1 : ByteArray) (r2 : Int) (r3 : Int) (w : World) (hr0_0 : Kd.C k39 w A0_0 l0_0.length l0_0) (hc0_0 : l0_0.length ≤ c0_0) (hr0_1 : Kd.C k53 w A0_1 l0_1.length l0_1) (hc0_1 : l0_1.length ≤ c0_1) (h : Qb1.f k l0_0 l0_1 = some (r1, r2, r3)) :
 Calls Try.prog 28 #[.agg #[.slice A0_0 l0_0.length c0_0, .slice A0_1 l0_1.length c0_1]] w fun e w' => e = .returned (.tuple #[.string r1, .int .i64 r2, .int .i64 r3]) ∧ Below w.heap.size w w' := by
 have hu25 := Try.underlying25
 have hu53 := Try.underlying53
 have HR0_0 := Qa.mk hr0_0
 have HC0_0 := Qa.mk hc0_0
 clear hr0_0 hc0_0
 have HR0_1 := Qa.mk hr0_1
 have HC0_1 := Qa.mk hc0_1
 clear hr0_1 hc0_1
 have HB := Qa.mk (Below.refl w.heap.size w)
 have H : (if (l0_0.length : Int) > 1000 then (Qb1.j0 k true l0_0 l0_1) else (Qb1.j0 k (decide ((l0_1.length : Int) > 10000)) l0_0 l0_1)) = some (r1, r2, r3) := h
 clear h
 have HC2 := Qa.mk H
 clear H
 go_enter Try.func28, Try.ntmps28
 go_upto_region 1 with (first | ((with_reducible refine Qd1 (N := 1) rfl ?_); (try (refine gate_guard (by rfl) ?_; dsimp only)); refine Qg1 ?hg (N := 1) ?hd (cs := #[.slice A0_0 l0_0.length c0_0, .slice A0_1 l0_1.length c0_1]) (t := 25) ?hr ?_; (case hd => rfl); (case hg => rfl); (case hr => first | (go_simp; done) | (go_simp; rfl)); intro gb228 hg w3 hbox hb; have n0_ := Qa.mk (Qr (by with_reducible repeat (first | exact HB.out | apply Qj | apply Ql | apply Qk)) hb); have n1_ := Qa.mk (hbox); have n2_ := Qa.mk ((by rw [hg]; exact (Qc1 (by with_reducible repeat (first | exact HB.out | apply Qj | apply Ql | apply Qk))) : w.heap.size ≤ gb228)); have n3_ := n2_; clear HB; have HB := n0_; have BK228 := n1_; have GW228 := n2_; have GE228 := n3_; clear n0_ n1_ n2_ n3_; clear hb hbox hg))
 (try simp only [Act.put, List.setIfInBounds_toArray, List.set_cons_zero, List.set_cons_succ])
 go_cut [18] (fun v18 wc => ∃ (kq : Nat) (x18_1 : Bool), v18 = .bool x18_1 ∧ Qa (Qb1.j0 kq x18_1 l0_0 l0_1 = some (r1, r2, r3)) ∧ Qa (kq ≤ k) ∧ Qa (wc.heap[gb228]? = some (.cells #[(.slice A0_0 l0_0.length c0_0), (.slice A0_1 l0_1.length c0_1)] 25 (0, 0))) ∧ Qa (Below w.heap.size w wc))
 case first =>
  have H := HC2.out
  clear HC2
  by_cases c4 : (l0_0.length : Int) > 1000
  ·
   rw [if_pos c4] at H
   have c4b0 : decide (1000 < (l0_0.length : Int)) = true := decide_eq_true c4
   have c4b1 : decide (1000 < l0_0.length) = true := decide_eq_true (by omega)
   clear c4
   (first | rw [c4b0] | (simp only [i64_w, i32_w]; rw [c4b0]) | skip)
   have H' := Qa.mk H
   clear H
   have hcz5_0 : w3.cell? ⟨gb228, 0, none⟩ = some (.slice A0_0 l0_0.length c0_0) := (Qb BK228.out 0).trans rfl
   have hcz5_1 : w3.cell? ⟨gb228, 1, none⟩ = some (.slice A0_1 l0_1.length c0_1) := (Qb BK228.out 1).trans rfl
   have hfz5_0 := Qf BK228.out 0
   have hfz5_1 := Qf BK228.out 1
   go_wp2
   go_meet
   case rel => exact ⟨_, (true), (by first | rfl | (simp; done) | (simp [*]; done)), H', ⟨by first | omega | exact Nat.le_refl _⟩, ⟨by (with_reducible repeat (first | refine Qe ?_ _ | refine Qc ?_ | refine Qd ?_ _)); exact BK228.out⟩, ⟨by with_reducible repeat (first | exact HB.out | apply Qj | apply Ql | apply Qk | refine Qi ?_ GE228.out)⟩⟩
  rw [if_neg c4] at H
  have c4b0 : decide (1000 < (l0_0.length : Int)) = false := decide_eq_false c4
  have c4b1 : decide (1000 < l0_0.length) = false := decide_eq_false (by omega)
  clear c4
  (first | rw [c4b0] | (simp only [i64_w, i32_w]; rw [c4b0]) | skip)
  have H' := Qa.mk H
  clear H
  have hcz6_0 : w3.cell? ⟨gb228, 0, none⟩ = some (.slice A0_0 l0_0.length c0_0) := (Qb BK228.out 0).trans rfl
  have hcz6_1 : w3.cell? ⟨gb228, 1, none⟩ = some (.slice A0_1 l0_1.length c0_1) := (Qb BK228.out 1).trans rfl
  have hfz6_0 := Qf BK228.out 0
  have hfz6_1 := Qf BK228.out 1
  go_wp2
  go_meet
  case rel => exact ⟨_, (decide ((l0_1.length : Int) > 10000)), (by first | rfl | (simp; done) | (simp [*]; done)), H', ⟨by first | omega | exact Nat.le_refl _⟩, ⟨by (with_reducible repeat (first | refine Qe ?_ _ | refine Qc ?_ | refine Qd ?_ _)); exact BK228.out⟩, ⟨by with_reducible repeat (first | exact HB.out | apply Qj | apply Ql | apply Qk | refine Qi ?_ GE228.out)⟩⟩
 case rest =>
  clear HC2
  (try clear c2; try clear p2; try clear c4; try clear c4b0; try clear c4b1; try clear hcz5_0; try clear hcz5_1; try clear hcz6_0; try clear hcz6_1; try clear hfz5_0; try clear hfz5_1; try clear hfz6_0; try clear hfz6_1)
  obtain ⟨kq, x18_1, rfl, HA, HJ1, BK228, HB⟩ := hcut
  cases kq with
  | zero => exact absurd HA.out (by simp [Qb1.j0])
  | succ kj1 =>
   have H := HA.out
   clear HA
   simp only [Qb1.j0] at H
   by_cases c7 : x18_1 = true
   ·
    subst c7
    have H1 : (some ((⟨#[]⟩ : ByteArray), 4, 0)) = some (r1, r2, r3) := by rw [if_pos rfl] at H; exact H
    clear H
    have H := H1
    clear H1
    simp only [Option.some.injEq, Prod.mk.injEq] at H
    obtain ⟨rfl, rfl, rfl⟩ := H
    go_wp2
    go_ret3
    exact ⟨by first | rfl | (simp [Qt, Qs] <;> rfl) | (simp [*, Qt, Qs] <;> rfl), by with_reducible repeat (first | exact HB.out | apply Qj | apply Ql | apply Qk | refine Qi ?_ GE228.out)⟩
   replace c7 := Bool.eq_false_iff.mpr c7
   subst c7
   have H1 : (if (l0_0.length : Int) = 0 then (some ((⟨#[114, 117, 108, 101, 115]⟩ : ByteArray), 10, 0)) else (Qb1.l0 kj1 0 l0_0 l0_1)) = some (r1, r2, r3) := by rw [if_neg (show ¬ (false = true) by decide)] at H; exact H
   clear H
   have H := H1
   clear H1
   by_cases c8 : (l0_0.length : Int) = 0
   ·
    rw [if_pos c8] at H
    have c8b0 : ((l0_0.length : Int) == 0) = true := beq_iff_eq.mpr c8
    have c8b1 : ((l0_0.length : Int) != 0) = false := bne_eq_false_iff_eq.mpr c8
    clear c8
    simp only [Option.some.injEq, Prod.mk.injEq] at H
    obtain ⟨rfl, rfl, rfl⟩ := H
    have hcz9_0 : wc.cell? ⟨gb228, 0, none⟩ = some (.slice A0_0 l0_0.length c0_0) := (Qb BK228.out 0).trans rfl
    have hcz9_1 : wc.cell? ⟨gb228, 1, none⟩ = some (.slice A0_1 l0_1.length c0_1) := (Qb BK228.out 1).trans rfl
    have hfz9_0 := Qf BK228.out 0
    have hfz9_1 := Qf BK228.out 1
    go_wp2
    go_ret3
    exact ⟨by first | rfl | (simp [Qt, Qs] <;> rfl) | (simp [*, Qt, Qs] <;> rfl), by with_reducible repeat (first | exact HB.out | apply Qj | apply Ql | apply Qk | refine Qi ?_ GE228.out)⟩
   rw [if_neg c8] at H
   have c8b0 : ((l0_0.length : Int) == 0) = false := beq_eq_false_iff_ne.mpr c8
   have c8b1 : ((l0_0.length : Int) != 0) = true := bne_iff_ne.mpr c8
   have c8b2 : ¬ (l0_0 = []) := fun h_ => c8 (by rw [h_]; rfl)
   have H' := Qa.mk H
   clear H
   have hcz10_0 : wc.cell? ⟨gb228, 0, none⟩ = some (.slice A0_0 l0_0.length c0_0) := (Qb BK228.out 0).trans rfl
   have hcz10_1 : wc.cell? ⟨gb228, 1, none⟩ = some (.slice A0_1 l0_1.length c0_1) := (Qb BK228.out 1).trans rfl
   have hfz10_0 := Qf BK228.out 0
   have hfz10_1 := Qf BK228.out 1
   go_wp2
   go_loopg [5] kj1 (fun kq v5 w' => ∃ (x5_2 : Int), v5 = .int .i64 x5_2 ∧ Qa (Qb1.l0 kq x5_2 l0_0 l0_1 = some (r1, r2, r3)) ∧ Qa (kq ≤ kj1) ∧ Qa (w'.heap[gb228]? = some (.cells #[(.slice A0_0 l0_0.length c0_0), (.slice A0_1 l0_1.length c0_1)] 25 (0, 0))) ∧ Qa (Below w.heap.size w w'))
   case atStart => exact ⟨(0), (by first | rfl | (simp; done) | (simp [*]; done)), H', ⟨Nat.le_refl _⟩, ⟨by (with_reducible repeat (first | refine Qe ?_ _ | refine Qc ?_ | refine Qd ?_ _)); exact BK228.out⟩, ⟨by with_reducible repeat (first | exact HB.out | apply Qj | apply Ql | apply Qk | refine Qi ?_ GE228.out)⟩⟩
   case round =>
    clear H'
    (try clear c2; try clear p2; try clear c4; try clear c4b0; try clear c4b1; try clear c7; try clear c8; try clear c8b0; try clear c8b1; try clear c8b2; try clear hcz10_0; try clear hcz10_1; try clear hcz5_0; try clear hcz5_1; try clear hcz6_0; try clear hcz6_1; try clear hcz9_0; try clear hcz9_1; try clear hfz10_0; try clear hfz10_1; try clear hfz5_0; try clear hfz5_1; try clear hfz6_0; try clear hfz6_1; try clear hfz9_0; try clear hfz9_1; try clear p2)
    obtain ⟨x5_2, rfl, HA, HK2, BK228, HB⟩ := hrel
    cases gk with
    | zero => exact absurd HA.out (by simp [Qb1.l0])
    | succ k2 =>
     have H := HA.out
     clear HA
     simp only [Qb1.l0] at H
     by_cases c11 : x5_2 < (l0_0.length : Int)
     ·
      rw [if_pos c11] at H
      have c11b0 : decide (x5_2 < (l0_0.length : Int)) = true := decide_eq_true c11
      clear c11
      by_cases c12 : 0 ≤ x5_2
      rotate_left
      ·
       rw [if_neg c12] at H
       exact absurd H (by simp)
      rw [if_pos c12] at H
      have c12b0 : decide (0 ≤ x5_2) = true := decide_eq_true c12
      clear c12
      replace H := Option.bind_eq_some_iff.mp H
      obtain ⟨t230, A130, H⟩ := H
      replace H : (if t230 = true then (Qb1.l1 k2 x5_2 0 l0_0 l0_1) else (some ((⟨#[114, 117, 108, 101, 115]⟩ : ByteArray), 10, x5_2))) = some (r1, r2, r3) := H
      have A13 := Qa.mk A130
      clear A130
      by_cases c14 : t230 = true
      rotate_left
      ·
       replace c14 := Bool.eq_false_iff.mpr c14
       subst c14
       have H1 : (some ((⟨#[114, 117, 108, 101, 115]⟩ : ByteArray), 10, x5_2)) = some (r1, r2, r3) := by rw [if_neg (show ¬ (false = true) by decide)] at H; exact H
       clear H
       have H := H1
       clear H1
       simp only [Option.some.injEq, Prod.mk.injEq] at H
       obtain ⟨rfl, rfl, rfl⟩ := H
       have hcz24_0 : wr.cell? ⟨gb228, 0, none⟩ = some (.slice A0_0 l0_0.length c0_0) := (Qb BK228.out 0).trans rfl
       have hcz24_1 : wr.cell? ⟨gb228, 1, none⟩ = some (.slice A0_1 l0_1.length c0_1) := (Qb BK228.out 1).trans rfl
       have hfz24_0 := Qf BK228.out 0
       have hfz24_1 := Qf BK228.out 1
       have p229 : 0 ≤ (x5_2 : Int) := of_decide_eq_true (by assumption)
       have q229 : x5_2 < (l0_0.length : Int) := of_decide_eq_true (by assumption)
       obtain ⟨ad229, e229, hx229_0, hx229_1⟩ := at_T39 HR0_0.out x5_2 p229 q229
       cases e229
       replace hx229_0 := (HB.out.cell (World.block_lt_of_cell? w _ hx229_0)).trans hx229_0
       replace hx229_1 := (HB.out.cell (World.block_lt_of_cell? w _ hx229_1)).trans hx229_1
       replace p229 := eq_true p229
       replace q229 := eq_true q229
       go_wp2_with (first | ((with_reducible refine gate_callee (f := 35) rfl ?_); refine goesL_ (some 36) rfl rfl Try.func35 (by kernel_rfl) rfl #[.string ((Qp l0_0 x5_2).f0)] rfl (by (try simp only [List.map_toArray, List.map_cons, List.map_nil]); first | done | rfl | (simp only [List.length_drop, List.length_take]; rfl)) ?_; (with_reducible refine (Qu1.calls k2 ((Qp l0_0 x5_2).f0) false _ A13.out).mono ?_); rintro e w' ⟨rfl, ⟨nd, rfl⟩⟩; refine ⟨_, rfl, ?_⟩))
       go_ret3
       exact ⟨by first | rfl | (simp [Qt, Qs] <;> rfl) | (simp [*, Qt, Qs] <;> rfl), by with_reducible repeat (first | exact HB.out | apply Qj | apply Ql | apply Qk | refine Qi ?_ GE228.out)⟩
      subst c14
      have H1 : (Qb1.l1 k2 x5_2 0 l0_0 l0_1) = some (r1, r2, r3) := by rw [if_pos rfl] at H; exact H
      clear H
      have H := H1
      clear H1
      have H' := Qa.mk H
      clear H
      have hcz15_0 : wr.cell? ⟨gb228, 0, none⟩ = some (.slice A0_0 l0_0.length c0_0) := (Qb BK228.out 0).trans rfl
      have hcz15_1 : wr.cell? ⟨gb228, 1, none⟩ = some (.slice A0_1 l0_1.length c0_1) := (Qb BK228.out 1).trans rfl
      have hfz15_0 := Qf BK228.out 0
      have hfz15_1 := Qf BK228.out 1
      have p229 : 0 ≤ (x5_2 : Int) := of_decide_eq_true (by assumption)
      have q229 : x5_2 < (l0_0.length : Int) := of_decide_eq_true (by assumption)
      obtain ⟨ad229, e229, hx229_0, hx229_1⟩ := at_T39 HR0_0.out x5_2 p229 q229
      cases e229
      replace hx229_0 := (HB.out.cell (World.block_lt_of_cell? w _ hx229_0)).trans hx229_0
      replace hx229_1 := (HB.out.cell (World.block_lt_of_cell? w _ hx229_1)).trans hx229_1
      replace p229 := eq_true p229
      replace q229 := eq_true q229
      go_wp2_with (first | ((with_reducible refine gate_callee (f := 35) rfl ?_); refine goesL_ (some 36) rfl rfl Try.func35 (by kernel_rfl) rfl #[.string ((Qp l0_0 x5_2).f0)] rfl (by (try simp only [List.map_toArray, List.map_cons, List.map_nil]); first | done | rfl | (simp only [List.length_drop, List.length_take]; rfl)) ?_; (with_reducible refine (Qu1.calls k2 ((Qp l0_0 x5_2).f0) true _ A13.out).mono ?_); rintro e w' ⟨rfl, ⟨nd, rfl⟩⟩; refine ⟨_, rfl, ?_⟩))
      go_loopg [6] k2 (fun kq v6 w' => ∃ (x6_3 : Int), v6 = .int .i64 x6_3 ∧ Qa (Qb1.l1 kq x5_2 x6_3 l0_0 l0_1 = some (r1, r2, r3)) ∧ Qa (kq ≤ k2) ∧ Qa (w'.heap[gb228]? = some (.cells #[(.slice (some ad229) l0_0.length c0_0), (.slice A0_1 l0_1.length c0_1)] 25 (0, 0))) ∧ Qa (Below w.heap.size w w'))
      case atStart => exact ⟨(0), (by first | rfl | (simp; done) | (simp [*]; done)), H', ⟨Nat.le_refl _⟩, ⟨by (with_reducible repeat (first | refine Qe ?_ _ | refine Qc ?_ | refine Qd ?_ _)); exact BK228.out⟩, ⟨by with_reducible repeat (first | exact HB.out | apply Qj | apply Ql | apply Qk | refine Qi ?_ GE228.out)⟩⟩
      case round =>
       clear H'
       (try clear c1; try clear c2; try clear p2; try clear q2; try clear hx2; try clear c3; try clear c4; try clear c4b0; try clear c4b1; try clear c7; try clear c8; try clear c8b0; try clear c8b1; try clear c8b2; try clear c11; try clear c11b0; try clear c12; try clear c12b0; try clear c14; try clear hcz10_0; try clear hcz10_1; try clear hcz15_0; try clear hcz15_1; try clear hcz5_0; try clear hcz5_1; try clear hcz6_0; try clear hcz6_1; try clear hcz9_0; try clear hcz9_1; try clear hfz10_0; try clear hfz10_1; try clear hfz15_0; try clear hfz15_1; try clear hfz5_0; try clear hfz5_1; try clear hfz6_0; try clear hfz6_1; try clear hfz9_0; try clear hfz9_1; try clear hx229_0; try clear hx229_1; try clear p2; try clear p229; try clear q229)
       obtain ⟨x6_3, rfl, HA, HK3, BK228, HB⟩ := hrel
       cases gk with
       | zero => exact absurd HA.out (by simp [Qb1.l1])
       | succ k3 =>
        have H := HA.out
        clear HA
        simp only [Qb1.l1] at H
        by_cases c16 : x6_3 < x5_2
        rotate_left
        ·
         rw [if_neg c16] at H
         have c16b0 : decide (x6_3 < x5_2) = false := decide_eq_false c16
         clear c16
         have H' := Qa.mk H
         clear H
         go_wp2
         go_roundg k3
         case measure => have := HJ1.out; have := HK2.out; have := HK3.out; omega
         case rel => exact ⟨(wrap64 (x5_2 + 1)), (by first | rfl | (simp; done) | (simp [*]; done)), H', ⟨by have := HJ1.out; have := HK2.out; have := HK3.out; omega⟩, ⟨by (with_reducible repeat (first | refine Qe ?_ _ | refine Qc ?_ | refine Qd ?_ _)); exact BK228.out⟩, ⟨by with_reducible repeat (first | exact HB.out | apply Qj | apply Ql | apply Qk | refine Qi ?_ GE228.out)⟩⟩
        rw [if_pos c16] at H
        have c16b0 : decide (x6_3 < x5_2) = true := decide_eq_true c16
        clear c16
        by_cases c17 : 0 ≤ x6_3
        rotate_left
        ·
         rw [if_neg c17] at H
         exact absurd H (by simp)
        rw [if_pos c17] at H
        have c17b0 : decide (0 ≤ x6_3) = true := decide_eq_true c17
        clear c17
        by_cases c18 : x6_3 < (l0_0.length : Int)
        rotate_left
        ·
         rw [if_neg c18] at H
         exact absurd H (by simp)
        rw [if_pos c18] at H
        have c18b0 : decide (x6_3 < (l0_0.length : Int)) = true := decide_eq_true c18
        clear c18
        by_cases c19 : 0 ≤ x5_2
        rotate_left
        ·
         rw [if_neg c19] at H
         exact absurd H (by simp)
        rw [if_pos c19] at H
        have c19b0 : decide (0 ≤ x5_2) = true := decide_eq_true c19
        clear c19
        by_cases c20 : x5_2 < (l0_0.length : Int)
        rotate_left
        ·
         rw [if_neg c20] at H
         exact absurd H (by simp)
        rw [if_pos c20] at H
        have c20b0 : decide (x5_2 < (l0_0.length : Int)) = true := decide_eq_true c20
        clear c20
        by_cases c21 : ((Qp l0_0 x6_3).f0).toList = ((Qp l0_0 x5_2).f0).toList
        ·
         rw [if_pos c21] at H
         have c21b0 : (((Qp l0_0 x6_3).f0).toList == ((Qp l0_0 x5_2).f0).toList) = true := beq_iff_eq.mpr c21
         have c21b1 : (((Qp l0_0 x6_3).f0).toList != ((Qp l0_0 x5_2).f0).toList) = false := bne_eq_false_iff_eq.mpr c21
         clear c21
         simp only [Option.some.injEq, Prod.mk.injEq] at H
         obtain ⟨rfl, rfl, rfl⟩ := H
         try go_wp2
         have n0_ := Qa.mk (Qc BK228.out)
         have n1_ := Qa.mk (Qk HB.out)
         clear BK228
         clear HB
         have BK228 := n0_
         have HB := n1_
         clear n0_ n1_
         have p231 : 0 ≤ (x6_3 : Int) := of_decide_eq_true (by assumption)
         have q231 : x6_3 < (l0_0.length : Int) := of_decide_eq_true (by assumption)
         obtain ⟨ad231, e231, hx231_0, hx231_1⟩ := at_T39 HR0_0.out x6_3 p231 q231
         have hw231_1 := hx231_1
         have hw231_0 := hx231_0
         obtain rfl : ad229 = ad231 := (by injection e231)
         replace hx231_0 := (HB.out.cell (World.block_lt_of_cell? w _ hx231_0)).trans hx231_0
         replace hx231_1 := (HB.out.cell (World.block_lt_of_cell? w _ hx231_1)).trans hx231_1
         replace p231 := eq_true p231
         replace q231 := eq_true q231
         have p232 : 0 ≤ (x5_2 : Int) := of_decide_eq_true (by assumption)
         have q232 : x5_2 < (l0_0.length : Int) := of_decide_eq_true (by assumption)
         obtain ⟨ad232, e232, hx232_0, hx232_1⟩ := at_T39 HR0_0.out x5_2 p232 q232
         have hw232_1 := hx232_1
         have hw232_0 := hx232_0
         obtain rfl : ad229 = ad232 := (by injection e232)
         replace hx232_0 := (HB.out.cell (World.block_lt_of_cell? w _ hx232_0)).trans hx232_0
         replace hx232_1 := (HB.out.cell (World.block_lt_of_cell? w _ hx232_1)).trans hx232_1
         replace p232 := eq_true p232
         replace q232 := eq_true q232
         refine start_ (n := 13) (S := fun w' => w'.cell? ⟨gb228, 0, none⟩ = some (.slice (some ad229) l0_0.length c0_0) ∧ w'.cell? ⟨gb228, 1, none⟩ = some (.slice A0_1 l0_1.length c0_1) ∧ w'.cell? (ad229.add ((x6_3).toNat * 2)) = some (.string ((Qp l0_0 x6_3).f0)) ∧ w'.cell? ⟨(ad229.add ((x6_3).toNat * 2)).block, (ad229.add ((x6_3).toNat * 2)).off + 1, none⟩ = some (.int .i64 ((Qp l0_0 x6_3).f1)) ∧ w'.cell? (ad229.add ((x5_2).toNat * 2)) = some (.string ((Qp l0_0 x5_2).f0)) ∧ w'.cell? ⟨(ad229.add ((x5_2).toNat * 2)).block, (ad229.add ((x5_2).toNat * 2)).off + 1, none⟩ = some (.int .i64 ((Qp l0_0 x5_2).f1))) (ds := []) #[Y, Y, Y, Y, Y, Y, Y, Y, Y, Y, Y, Y, Y] (by kernel_rfl) rfl rfl ⟨(Qb BK228.out 0).trans rfl, (Qb BK228.out 1).trans rfl, ((HB.out.cell (World.block_lt_of_cell? w _ hw231_0)).trans hw231_0), ((HB.out.cell (World.block_lt_of_cell? w _ hw231_1)).trans hw231_1), ((HB.out.cell (World.block_lt_of_cell? w _ hw232_0)).trans hw232_0), ((HB.out.cell (World.block_lt_of_cell? w _ hw232_1)).trans hw232_1)⟩ (fun hHeld => ?_); refine with_tabW Qb1.tab13 Qb1.bits13 (fun HT_ HW_ => ?_)
         generalize wr.drew = w22 at BK228 HB hx231_0 hx231_1 hx232_0 hx232_1 hHeld ⊢
         refine pure_ (i := 0) (N := some 44) (v := ?_) (a' := ?_) #[J, Y, Y, Y, Y, Y, Y, Y, Y, Y, Y, Y, Y] rfl rfl (Qm HT_.out (by kernel_rfl)) (fun _ _ _ h => h) (Or.inl ⟨by rfl, ?_⟩) ?_ ?_
         rotate_left
         ·
          intro w'
          go_simp
          with_reducible rfl
         rotate_left
         ·
          simp only [Act.put, List.setIfInBounds_toArray, List.set_cons_zero, List.set_cons_succ, i64_w, i32_w]
          rfl
         refine pure_ (i := 2) (N := some 46) (v := ?_) (a' := ?_) #[J, Y, J, Y, Y, Y, Y, Y, Y, Y, Y, Y, Y] rfl rfl (Qm HT_.out (by kernel_rfl)) (fun _ _ _ h => h) (Or.inl ⟨by rfl, ?_⟩) ?_ ?_
         rotate_left
         ·
          intro w'
          go_simp
          with_reducible rfl
         rotate_left
         ·
          simp only [Act.put, List.setIfInBounds_toArray, List.set_cons_zero, List.set_cons_succ, i64_w, i32_w]
          rfl
         refine pure_ (i := 6) (N := some 50) (v := ?_) (a' := ?_) #[J, Y, J, Y, Y, Y, J, Y, Y, Y, Y, Y, Y] rfl rfl (Qm HT_.out (by kernel_rfl)) (fun _ _ _ h => h) (Or.inl ⟨by rfl, ?_⟩) ?_ ?_
         rotate_left
         ·
          intro w'
          go_simp
          with_reducible rfl
         rotate_left
         ·
          simp only [Act.put, List.setIfInBounds_toArray, List.set_cons_zero, List.set_cons_succ, i64_w, i32_w]
          rfl
         refine pure_ (i := 8) (N := some 52) (v := ?_) (a' := ?_) #[J, Y, J, Y, Y, Y, J, Y, J, Y, Y, Y, Y] rfl rfl (Qm HT_.out (by kernel_rfl)) (fun _ _ _ h => h) (Or.inl ⟨by rfl, ?_⟩) ?_ ?_
         rotate_left
         ·
          intro w'
          go_simp
          with_reducible rfl
         rotate_left
         ·
          simp only [Act.put, List.setIfInBounds_toArray, List.set_cons_zero, List.set_cons_succ, i64_w, i32_w]
          rfl
         refine take_ (i := 1) (N := some 45) (v := ?_) (a' := ?_) #[J, J, J, Y, Y, Y, J, Y, J, Y, Y, Y, Y] rfl rfl (Qk1 HT_.out HW_.out (by kernel_rfl)) (fun _ _ _ h => h) (Or.inl ⟨by rfl, ?_⟩) hHeld ?_ ?_
         rotate_left
         ·
          rintro w' ⟨s0, s1, s2, s3, s4, s5⟩
          go_simp
          with_reducible rfl
         rotate_left
         ·
          simp only [Act.put, List.setIfInBounds_toArray, List.set_cons_zero, List.set_cons_succ, i64_w, i32_w]
          rfl
         refine pure_ (i := 3) (N := some 47) (v := ?_) (a' := ?_) #[J, J, J, J, Y, Y, J, Y, J, Y, Y, Y, Y] rfl rfl (Qm HT_.out (by kernel_rfl)) (fun _ _ _ h => h) (Or.inl ⟨by rfl, ?_⟩) ?_ ?_
         rotate_left
         ·
          intro w'
          go_simp
          with_reducible rfl
         rotate_left
         ·
          simp only [Act.put, List.setIfInBounds_toArray, List.set_cons_zero, List.set_cons_succ, i64_w, i32_w]
          rfl
         refine pure_ (i := 4) (N := some 48) (v := ?_) (a' := ?_) #[J, J, J, J, J, Y, J, Y, J, Y, Y, Y, Y] rfl rfl (Qm HT_.out (by kernel_rfl)) (fun _ _ _ h => h) (Or.inl ⟨by rfl, ?_⟩) ?_ ?_
         rotate_left
         ·
          intro w'
          go_simp
          with_reducible rfl
         rotate_left
         ·
          simp only [Act.put, List.setIfInBounds_toArray, List.set_cons_zero, List.set_cons_succ, i64_w, i32_w]
          rfl
         refine take_ (i := 5) (N := some 49) (v := ?_) (a' := ?_) #[J, J, J, J, J, J, J, Y, J, Y, Y, Y, Y] rfl rfl (Qk1 HT_.out HW_.out (by kernel_rfl)) (fun _ _ _ h => h) (Or.inl ⟨by rfl, ?_⟩) hHeld ?_ ?_
         rotate_left
         ·
          rintro w' ⟨s0, s1, s2, s3, s4, s5⟩
          go_simp
          with_reducible rfl
         rotate_left
         ·
          simp only [Act.put, List.setIfInBounds_toArray, List.set_cons_zero, List.set_cons_succ, i64_w, i32_w]
          rfl
         refine take_ (i := 7) (N := some 51) (v := ?_) (a' := ?_) #[J, J, J, J, J, J, J, J, J, Y, Y, Y, Y] rfl rfl (Qk1 HT_.out HW_.out (by kernel_rfl)) (fun _ _ _ h => h) (Or.inl ⟨by rfl, ?_⟩) hHeld ?_ ?_
         rotate_left
         ·
          rintro w' ⟨s0, s1, s2, s3, s4, s5⟩
          go_simp
          with_reducible rfl
         rotate_left
         ·
          simp only [Act.put, List.setIfInBounds_toArray, List.set_cons_zero, List.set_cons_succ, i64_w, i32_w]
          rfl
         refine pure_ (i := 9) (N := some 53) (v := ?_) (a' := ?_) #[J, J, J, J, J, J, J, J, J, J, Y, Y, Y] rfl rfl (Qm HT_.out (by kernel_rfl)) (fun _ _ _ h => h) (Or.inl ⟨by rfl, ?_⟩) ?_ ?_
         rotate_left
         ·
          intro w'
          go_simp
          with_reducible rfl
         rotate_left
         ·
          simp only [Act.put, List.setIfInBounds_toArray, List.set_cons_zero, List.set_cons_succ, i64_w, i32_w]
          rfl
         refine pure_ (i := 10) (N := some 54) (v := ?_) (a' := ?_) #[J, J, J, J, J, J, J, J, J, J, J, Y, Y] rfl rfl (Qm HT_.out (by kernel_rfl)) (fun _ _ _ h => h) (Or.inl ⟨by rfl, ?_⟩) ?_ ?_
         rotate_left
         ·
          intro w'
          go_simp
          with_reducible rfl
         rotate_left
         ·
          simp only [Act.put, List.setIfInBounds_toArray, List.set_cons_zero, List.set_cons_succ, i64_w, i32_w]
          rfl
         refine take_ (i := 11) (N := some 55) (v := ?_) (a' := ?_) #[J, J, J, J, J, J, J, J, J, J, J, J, Y] rfl rfl (Qk1 HT_.out HW_.out (by kernel_rfl)) (fun _ _ _ h => h) (Or.inl ⟨by rfl, ?_⟩) hHeld ?_ ?_
         rotate_left
         ·
          rintro w' ⟨s0, s1, s2, s3, s4, s5⟩
          go_simp
          with_reducible rfl
         rotate_left
         ·
          simp only [Act.put, List.setIfInBounds_toArray, List.set_cons_zero, List.set_cons_succ, i64_w, i32_w]
          rfl
         refine pure_ (i := 12) (N := some 56) (v := ?_) (a' := ?_) #[J, J, J, J, J, J, J, J, J, J, J, J, J] rfl rfl (Qm HT_.out (by kernel_rfl)) (fun _ _ _ h => h) (Or.inl ⟨by rfl, ?_⟩) ?_ ?_
         rotate_left
         ·
          intro w'
          go_simp
          with_reducible rfl
         rotate_left
         ·
          simp only [Act.put, List.setIfInBounds_toArray, List.set_cons_zero, List.set_cons_succ, i64_w, i32_w]
          rfl
         refine done_ (done_of HT_.out (by kernel_rfl)) ?_
         try go_wp2
         go_ret3
         exact ⟨by first | rfl | (simp [Qt, Qs] <;> rfl) | (simp [*, Qt, Qs] <;> rfl), by with_reducible repeat (first | exact HB.out | apply Qj | apply Ql | apply Qk | refine Qi ?_ GE228.out)⟩
        rw [if_neg c21] at H
        have c21b0 : (((Qp l0_0 x6_3).f0).toList == ((Qp l0_0 x5_2).f0).toList) = false := beq_eq_false_iff_ne.mpr c21
        have c21b1 : (((Qp l0_0 x6_3).f0).toList != ((Qp l0_0 x5_2).f0).toList) = true := bne_iff_ne.mpr c21
        have H' := Qa.mk H
        clear H
        try go_wp2
        have n0_ := Qa.mk (Qc BK228.out)
        have n1_ := Qa.mk (Qk HB.out)
        clear BK228
        clear HB
        have BK228 := n0_
        have HB := n1_
        clear n0_ n1_
        have p231 : 0 ≤ (x6_3 : Int) := of_decide_eq_true (by assumption)
        have q231 : x6_3 < (l0_0.length : Int) := of_decide_eq_true (by assumption)
        obtain ⟨ad231, e231, hx231_0, hx231_1⟩ := at_T39 HR0_0.out x6_3 p231 q231
        have hw231_1 := hx231_1
        have hw231_0 := hx231_0
        obtain rfl : ad229 = ad231 := (by injection e231)
        replace hx231_0 := (HB.out.cell (World.block_lt_of_cell? w _ hx231_0)).trans hx231_0
        replace hx231_1 := (HB.out.cell (World.block_lt_of_cell? w _ hx231_1)).trans hx231_1
        replace p231 := eq_true p231
        replace q231 := eq_true q231
        have p232 : 0 ≤ (x5_2 : Int) := of_decide_eq_true (by assumption)
        have q232 : x5_2 < (l0_0.length : Int) := of_decide_eq_true (by assumption)
        obtain ⟨ad232, e232, hx232_0, hx232_1⟩ := at_T39 HR0_0.out x5_2 p232 q232
        have hw232_1 := hx232_1
        have hw232_0 := hx232_0
        obtain rfl : ad229 = ad232 := (by injection e232)
        replace hx232_0 := (HB.out.cell (World.block_lt_of_cell? w _ hx232_0)).trans hx232_0
        replace hx232_1 := (HB.out.cell (World.block_lt_of_cell? w _ hx232_1)).trans hx232_1
        replace p232 := eq_true p232
        replace q232 := eq_true q232
        refine start_ (n := 13) (S := fun w' => w'.cell? ⟨gb228, 0, none⟩ = some (.slice (some ad229) l0_0.length c0_0) ∧ w'.cell? ⟨gb228, 1, none⟩ = some (.slice A0_1 l0_1.length c0_1) ∧ w'.cell? (ad229.add ((x6_3).toNat * 2)) = some (.string ((Qp l0_0 x6_3).f0)) ∧ w'.cell? ⟨(ad229.add ((x6_3).toNat * 2)).block, (ad229.add ((x6_3).toNat * 2)).off + 1, none⟩ = some (.int .i64 ((Qp l0_0 x6_3).f1)) ∧ w'.cell? (ad229.add ((x5_2).toNat * 2)) = some (.string ((Qp l0_0 x5_2).f0)) ∧ w'.cell? ⟨(ad229.add ((x5_2).toNat * 2)).block, (ad229.add ((x5_2).toNat * 2)).off + 1, none⟩ = some (.int .i64 ((Qp l0_0 x5_2).f1))) (ds := []) #[Y, Y, Y, Y, Y, Y, Y, Y, Y, Y, Y, Y, Y] (by kernel_rfl) rfl rfl ⟨(Qb BK228.out 0).trans rfl, (Qb BK228.out 1).trans rfl, ((HB.out.cell (World.block_lt_of_cell? w _ hw231_0)).trans hw231_0), ((HB.out.cell (World.block_lt_of_cell? w _ hw231_1)).trans hw231_1), ((HB.out.cell (World.block_lt_of_cell? w _ hw232_0)).trans hw232_0), ((HB.out.cell (World.block_lt_of_cell? w _ hw232_1)).trans hw232_1)⟩ (fun hHeld => ?_); refine with_tabW Qb1.tab13 Qb1.bits13 (fun HT_ HW_ => ?_)
        generalize wr.drew = w23 at BK228 HB hx231_0 hx231_1 hx232_0 hx232_1 hHeld ⊢
        refine pure_ (i := 0) (N := some 44) (v := ?_) (a' := ?_) #[J, Y, Y, Y, Y, Y, Y, Y, Y, Y, Y, Y, Y] rfl rfl (Qm HT_.out (by kernel_rfl)) (fun _ _ _ h => h) (Or.inl ⟨by rfl, ?_⟩) ?_ ?_
        rotate_left
        ·
         intro w'
         go_simp
         with_reducible rfl
        rotate_left
        ·
         simp only [Act.put, List.setIfInBounds_toArray, List.set_cons_zero, List.set_cons_succ, i64_w, i32_w]
         rfl
        refine pure_ (i := 2) (N := some 46) (v := ?_) (a' := ?_) #[J, Y, J, Y, Y, Y, Y, Y, Y, Y, Y, Y, Y] rfl rfl (Qm HT_.out (by kernel_rfl)) (fun _ _ _ h => h) (Or.inl ⟨by rfl, ?_⟩) ?_ ?_
        rotate_left
        ·
         intro w'
         go_simp
         with_reducible rfl
        rotate_left
        ·
         simp only [Act.put, List.setIfInBounds_toArray, List.set_cons_zero, List.set_cons_succ, i64_w, i32_w]
         rfl
        refine pure_ (i := 6) (N := some 50) (v := ?_) (a' := ?_) #[J, Y, J, Y, Y, Y, J, Y, Y, Y, Y, Y, Y] rfl rfl (Qm HT_.out (by kernel_rfl)) (fun _ _ _ h => h) (Or.inl ⟨by rfl, ?_⟩) ?_ ?_
        rotate_left
        ·
         intro w'
         go_simp
         with_reducible rfl
        rotate_left
        ·
         simp only [Act.put, List.setIfInBounds_toArray, List.set_cons_zero, List.set_cons_succ, i64_w, i32_w]
         rfl
        refine pure_ (i := 8) (N := some 52) (v := ?_) (a' := ?_) #[J, Y, J, Y, Y, Y, J, Y, J, Y, Y, Y, Y] rfl rfl (Qm HT_.out (by kernel_rfl)) (fun _ _ _ h => h) (Or.inl ⟨by rfl, ?_⟩) ?_ ?_
        rotate_left
        ·
         intro w'
         go_simp
         with_reducible rfl
        rotate_left
        ·
         simp only [Act.put, List.setIfInBounds_toArray, List.set_cons_zero, List.set_cons_succ, i64_w, i32_w]
         rfl
        refine take_ (i := 1) (N := some 45) (v := ?_) (a' := ?_) #[J, J, J, Y, Y, Y, J, Y, J, Y, Y, Y, Y] rfl rfl (Qk1 HT_.out HW_.out (by kernel_rfl)) (fun _ _ _ h => h) (Or.inl ⟨by rfl, ?_⟩) hHeld ?_ ?_
        rotate_left
        ·
         rintro w' ⟨s0, s1, s2, s3, s4, s5⟩
         go_simp
         with_reducible rfl
        rotate_left
        ·
         simp only [Act.put, List.setIfInBounds_toArray, List.set_cons_zero, List.set_cons_succ, i64_w, i32_w]
         rfl
        refine pure_ (i := 3) (N := some 47) (v := ?_) (a' := ?_) #[J, J, J, J, Y, Y, J, Y, J, Y, Y, Y, Y] rfl rfl (Qm HT_.out (by kernel_rfl)) (fun _ _ _ h => h) (Or.inl ⟨by rfl, ?_⟩) ?_ ?_
        rotate_left
        ·
         intro w'
         go_simp
         with_reducible rfl
        rotate_left
        ·
         simp only [Act.put, List.setIfInBounds_toArray, List.set_cons_zero, List.set_cons_succ, i64_w, i32_w]
         rfl
        refine pure_ (i := 4) (N := some 48) (v := ?_) (a' := ?_) #[J, J, J, J, J, Y, J, Y, J, Y, Y, Y, Y] rfl rfl (Qm HT_.out (by kernel_rfl)) (fun _ _ _ h => h) (Or.inl ⟨by rfl, ?_⟩) ?_ ?_
        rotate_left
        ·
         intro w'
         go_simp
         with_reducible rfl
        rotate_left
        ·
         simp only [Act.put, List.setIfInBounds_toArray, List.set_cons_zero, List.set_cons_succ, i64_w, i32_w]
         rfl
        refine take_ (i := 5) (N := some 49) (v := ?_) (a' := ?_) #[J, J, J, J, J, J, J, Y, J, Y, Y, Y, Y] rfl rfl (Qk1 HT_.out HW_.out (by kernel_rfl)) (fun _ _ _ h => h) (Or.inl ⟨by rfl, ?_⟩) hHeld ?_ ?_
        rotate_left
        ·
         rintro w' ⟨s0, s1, s2, s3, s4, s5⟩
         go_simp
         with_reducible rfl
        rotate_left
        ·
         simp only [Act.put, List.setIfInBounds_toArray, List.set_cons_zero, List.set_cons_succ, i64_w, i32_w]
         rfl
        refine take_ (i := 7) (N := some 51) (v := ?_) (a' := ?_) #[J, J, J, J, J, J, J, J, J, Y, Y, Y, Y] rfl rfl (Qk1 HT_.out HW_.out (by kernel_rfl)) (fun _ _ _ h => h) (Or.inl ⟨by rfl, ?_⟩) hHeld ?_ ?_
        rotate_left
        ·
         rintro w' ⟨s0, s1, s2, s3, s4, s5⟩
         go_simp
         with_reducible rfl
        rotate_left
        ·
         simp only [Act.put, List.setIfInBounds_toArray, List.set_cons_zero, List.set_cons_succ, i64_w, i32_w]
         rfl
        refine pure_ (i := 9) (N := some 53) (v := ?_) (a' := ?_) #[J, J, J, J, J, J, J, J, J, J, Y, Y, Y] rfl rfl (Qm HT_.out (by kernel_rfl)) (fun _ _ _ h => h) (Or.inl ⟨by rfl, ?_⟩) ?_ ?_
        rotate_left
        ·
         intro w'
         go_simp
         with_reducible rfl
        rotate_left
        ·
         simp only [Act.put, List.setIfInBounds_toArray, List.set_cons_zero, List.set_cons_succ, i64_w, i32_w]
         rfl
        refine pure_ (i := 10) (N := some 54) (v := ?_) (a' := ?_) #[J, J, J, J, J, J, J, J, J, J, J, Y, Y] rfl rfl (Qm HT_.out (by kernel_rfl)) (fun _ _ _ h => h) (Or.inl ⟨by rfl, ?_⟩) ?_ ?_
        rotate_left
        ·
         intro w'
         go_simp
         with_reducible rfl
        rotate_left
        ·
         simp only [Act.put, List.setIfInBounds_toArray, List.set_cons_zero, List.set_cons_succ, i64_w, i32_w]
         rfl
        refine take_ (i := 11) (N := some 55) (v := ?_) (a' := ?_) #[J, J, J, J, J, J, J, J, J, J, J, J, Y] rfl rfl (Qk1 HT_.out HW_.out (by kernel_rfl)) (fun _ _ _ h => h) (Or.inl ⟨by rfl, ?_⟩) hHeld ?_ ?_
        rotate_left
        ·
         rintro w' ⟨s0, s1, s2, s3, s4, s5⟩
         go_simp
         with_reducible rfl
        rotate_left
        ·
         simp only [Act.put, List.setIfInBounds_toArray, List.set_cons_zero, List.set_cons_succ, i64_w, i32_w]
         rfl
        refine pure_ (i := 12) (N := some 56) (v := ?_) (a' := ?_) #[J, J, J, J, J, J, J, J, J, J, J, J, J] rfl rfl (Qm HT_.out (by kernel_rfl)) (fun _ _ _ h => h) (Or.inl ⟨by rfl, ?_⟩) ?_ ?_
        rotate_left
        ·
         intro w'
         go_simp
         with_reducible rfl
        rotate_left
        ·
         simp only [Act.put, List.setIfInBounds_toArray, List.set_cons_zero, List.set_cons_succ, i64_w, i32_w]
         rfl
        refine done_ (done_of HT_.out (by kernel_rfl)) ?_
        try go_wp2
        go_roundg k3
        case measure => have := HJ1.out; have := HK2.out; have := HK3.out; omega
        case rel => exact ⟨(wrap64 (x6_3 + 1)), (by first | rfl | (simp; done) | (simp [*]; done)), H', ⟨by have := HJ1.out; have := HK2.out; have := HK3.out; omega⟩, ⟨by (with_reducible repeat (first | refine Qe ?_ _ | refine Qc ?_ | refine Qd ?_ _)); exact BK228.out⟩, ⟨by with_reducible repeat (first | exact HB.out | apply Qj | apply Ql | apply Qk | refine Qi ?_ GE228.out)⟩⟩
     rw [if_neg c11] at H
     have c11b0 : decide (x5_2 < (l0_0.length : Int)) = false := decide_eq_false c11
     clear c11
     have H' := Qa.mk H
     clear H
     have hcz25_0 : wr.cell? ⟨gb228, 0, none⟩ = some (.slice A0_0 l0_0.length c0_0) := (Qb BK228.out 0).trans rfl
     have hcz25_1 : wr.cell? ⟨gb228, 1, none⟩ = some (.slice A0_1 l0_1.length c0_1) := (Qb BK228.out 1).trans rfl
     have hfz25_0 := Qf BK228.out 0
     have hfz25_1 := Qf BK228.out 1
     go_wp2
     go_loopg [7] k2 (fun kq v7 w' => ∃ (x7_3 : Int), v7 = .int .i64 x7_3 ∧ Qa (Qb1.l2 kq x7_3 l0_0 l0_1 = some (r1, r2, r3)) ∧ Qa (kq ≤ k2) ∧ Qa (w'.heap[gb228]? = some (.cells #[(.slice A0_0 l0_0.length c0_0), (.slice A0_1 l0_1.length c0_1)] 25 (0, 0))) ∧ Qa (Below w.heap.size w w'))
     case atStart => exact ⟨(0), (by first | rfl | (simp; done) | (simp [*]; done)), H', ⟨Nat.le_refl _⟩, ⟨by (with_reducible repeat (first | refine Qe ?_ _ | refine Qc ?_ | refine Qd ?_ _)); exact BK228.out⟩, ⟨by with_reducible repeat (first | exact HB.out | apply Qj | apply Ql | apply Qk | refine Qi ?_ GE228.out)⟩⟩
     case round =>
      clear H'
      (try clear c1; try clear c2; try clear p2; try clear q2; try clear hx2; try clear c3; try clear c4; try clear c4b0; try clear c4b1; try clear p6; try clear c7; try clear c8; try clear c8b0; try clear c8b1; try clear c8b2; try clear c11; try clear c11b0; try clear c12; try clear c12b0; try clear c14; try clear c16; try clear c16b0; try clear c17; try clear c17b0; try clear c18; try clear c18b0; try clear c19; try clear c19b0; try clear c20; try clear c20b0; try clear c21; try clear c21b0; try clear c21b1; try clear p22; try clear q22; try clear hx22; try clear p23; try clear q23; try clear hx23; try clear hcz10_0; try clear hcz10_1; try clear hcz15_0; try clear hcz15_1; try clear hcz24_0; try clear hcz24_1; try clear hcz25_0; try clear hcz25_1; try clear hcz5_0; try clear hcz5_1; try clear hcz6_0; try clear hcz6_1; try clear hcz9_0; try clear hcz9_1; try clear hfz10_0; try clear hfz10_1; try clear hfz15_0; try clear hfz15_1; try clear hfz24_0; try clear hfz24_1; try clear hfz25_0; try clear hfz25_1; try clear hfz5_0; try clear hfz5_1; try clear hfz6_0; try clear hfz6_1; try clear hfz9_0; try clear hfz9_1; try clear hx229_0; try clear hx229_1; try clear hx231_0; try clear hx231_1; try clear hx232_0; try clear hx232_1; try clear p2; try clear p229; try clear p231; try clear p232; try clear q2; try clear q229; try clear q231; try clear q232)
      obtain ⟨x7_3, rfl, HA, HK3, BK228, HB⟩ := hrel
      cases gk with
      | zero => exact absurd HA.out (by simp [Qb1.l2])
      | succ k3 =>
       have H := HA.out
       clear HA
       simp only [Qb1.l2] at H
       by_cases c26 : x7_3 < (l0_1.length : Int)
       ·
        rw [if_pos c26] at H
        have c26b0 : decide (x7_3 < (l0_1.length : Int)) = true := decide_eq_true c26
        clear c26
        by_cases c27 : 0 ≤ x7_3
        rotate_left
        ·
         rw [if_neg c27] at H
         exact absurd H (by simp)
        rw [if_pos c27] at H
        have c27b0 : decide (0 ≤ x7_3) = true := decide_eq_true c27
        clear c27
        replace H := Option.bind_eq_some_iff.mp H
        obtain ⟨t234, A280, H⟩ := H
        replace H : (if t234 = true then (Qb1.l2 k3 (wrap64 (x7_3 + 1)) l0_0 l0_1) else (some ((⟨#[110, 111, 100, 101, 115]⟩ : ByteArray), 10, x7_3))) = some (r1, r2, r3) := H
        have A28 := Qa.mk A280
        clear A280
        by_cases c29 : t234 = true
        ·
         subst c29
         have H1 : (Qb1.l2 k3 (wrap64 (x7_3 + 1)) l0_0 l0_1) = some (r1, r2, r3) := by rw [if_pos rfl] at H; exact H
         clear H
         have H := H1
         clear H1
         have H' := Qa.mk H
         clear H
         have hcz30_0 : wr.cell? ⟨gb228, 0, none⟩ = some (.slice A0_0 l0_0.length c0_0) := (Qb BK228.out 0).trans rfl
         have hcz30_1 : wr.cell? ⟨gb228, 1, none⟩ = some (.slice A0_1 l0_1.length c0_1) := (Qb BK228.out 1).trans rfl
         have hfz30_0 := Qf BK228.out 0
         have hfz30_1 := Qf BK228.out 1
         try go_wp2
         have n0_ := Qa.mk (Qc BK228.out)
         have n1_ := Qa.mk (Qk HB.out)
         clear BK228
         clear HB
         have BK228 := n0_
         have HB := n1_
         clear n0_ n1_
         have p233 : 0 ≤ (x7_3 : Int) := of_decide_eq_true (by assumption)
         have q233 : x7_3 < (l0_1.length : Int) := of_decide_eq_true (by assumption)
         obtain ⟨ad233, A233_1, c233_1, e233, hx233_0, hx233_1, hx233_2, hx233_3, hx233_4, hx233_5, hx233_6, hl233_1, hi233_1⟩ := at_T53 HR0_1.out x7_3 p233 q233
         have hw233_6 := hx233_6
         have hw233_5 := hx233_5
         have hw233_4 := hx233_4
         have hw233_3 := hx233_3
         have hw233_2 := hx233_2
         have hw233_1 := hx233_1
         have hw233_0 := hx233_0
         cases e233
         replace hx233_0 := (HB.out.cell (World.block_lt_of_cell? w _ hx233_0)).trans hx233_0
         replace hx233_1 := (HB.out.cell (World.block_lt_of_cell? w _ hx233_1)).trans hx233_1
         replace hx233_2 := (HB.out.cell (World.block_lt_of_cell? w _ hx233_2)).trans hx233_2
         replace hx233_3 := (HB.out.cell (World.block_lt_of_cell? w _ hx233_3)).trans hx233_3
         replace hx233_4 := (HB.out.cell (World.block_lt_of_cell? w _ hx233_4)).trans hx233_4
         replace hx233_5 := (HB.out.cell (World.block_lt_of_cell? w _ hx233_5)).trans hx233_5
         replace hx233_6 := (HB.out.cell (World.block_lt_of_cell? w _ hx233_6)).trans hx233_6
         have HR233_1 := Qa.mk hi233_1
         have HC233_1 := Qa.mk hl233_1
         clear hi233_1 hl233_1
         replace p233 := eq_true p233
         replace q233 := eq_true q233
         refine start_ (n := 10) (S := fun w' => w'.cell? ⟨gb228, 0, none⟩ = some (.slice A0_0 l0_0.length c0_0) ∧ w'.cell? ⟨gb228, 1, none⟩ = some (.slice (some ad233) l0_1.length c0_1) ∧ w'.cell? (ad233.add ((x7_3).toNat * 7)) = some (.int .i64 ((Qh l0_1 x7_3).f0)) ∧ w'.cell? ⟨(ad233.add ((x7_3).toNat * 7)).block, (ad233.add ((x7_3).toNat * 7)).off + 1, none⟩ = some (.slice A233_1 ((Qh l0_1 x7_3).f1).length c233_1) ∧ w'.cell? ⟨(ad233.add ((x7_3).toNat * 7)).block, (ad233.add ((x7_3).toNat * 7)).off + 2, none⟩ = some (.int .i64 ((Qh l0_1 x7_3).f2)) ∧ w'.cell? ⟨(ad233.add ((x7_3).toNat * 7)).block, (ad233.add ((x7_3).toNat * 7)).off + 3, none⟩ = some (.int .u64 ((Qh l0_1 x7_3).f3.f0)) ∧ w'.cell? ⟨(ad233.add ((x7_3).toNat * 7)).block, (ad233.add ((x7_3).toNat * 7)).off + 4, none⟩ = some (.int .u64 ((Qh l0_1 x7_3).f3.f1)) ∧ w'.cell? ⟨(ad233.add ((x7_3).toNat * 7)).block, (ad233.add ((x7_3).toNat * 7)).off + 5, none⟩ = some (.int .u64 ((Qh l0_1 x7_3).f3.f2)) ∧ w'.cell? ⟨(ad233.add ((x7_3).toNat * 7)).block, (ad233.add ((x7_3).toNat * 7)).off + 6, none⟩ = some (.int .u64 ((Qh l0_1 x7_3).f3.f3))) (ds := []) #[Y, Y, Y, Y, Y, Y, Y, Y, Y, Y] (by kernel_rfl) rfl rfl ⟨(Qb BK228.out 0).trans rfl, (Qb BK228.out 1).trans rfl, ((HB.out.cell (World.block_lt_of_cell? w _ hw233_0)).trans hw233_0), ((HB.out.cell (World.block_lt_of_cell? w _ hw233_1)).trans hw233_1), ((HB.out.cell (World.block_lt_of_cell? w _ hw233_2)).trans hw233_2), ((HB.out.cell (World.block_lt_of_cell? w _ hw233_3)).trans hw233_3), ((HB.out.cell (World.block_lt_of_cell? w _ hw233_4)).trans hw233_4), ((HB.out.cell (World.block_lt_of_cell? w _ hw233_5)).trans hw233_5), ((HB.out.cell (World.block_lt_of_cell? w _ hw233_6)).trans hw233_6)⟩ (fun hHeld => ?_); refine with_tabW Qb1.tab18 Qb1.bits18 (fun HT_ HW_ => ?_)
         generalize wr.drew = w31 at BK228 HB HR233_1 hx233_0 hx233_1 hx233_2 hx233_3 hx233_4 hx233_5 hx233_6 hHeld ⊢
         refine pure_ (i := 0) (N := some 65) (v := ?_) (a' := ?_) #[J, Y, Y, Y, Y, Y, Y, Y, Y, Y] rfl rfl (Qm HT_.out (by kernel_rfl)) (fun _ _ _ h => h) (Or.inl ⟨by rfl, ?_⟩) ?_ ?_
         rotate_left
         ·
          intro w'
          go_simp
          with_reducible rfl
         rotate_left
         ·
          simp only [Act.put, List.setIfInBounds_toArray, List.set_cons_zero, List.set_cons_succ, i64_w, i32_w]
          rfl
         refine pure_ (i := 2) (N := some 67) (v := ?_) (a' := ?_) #[J, Y, J, Y, Y, Y, Y, Y, Y, Y] rfl rfl (Qm HT_.out (by kernel_rfl)) (fun _ _ _ h => h) (Or.inl ⟨by rfl, ?_⟩) ?_ ?_
         rotate_left
         ·
          intro w'
          go_simp
          with_reducible rfl
         rotate_left
         ·
          simp only [Act.put, List.setIfInBounds_toArray, List.set_cons_zero, List.set_cons_succ, i64_w, i32_w]
          rfl
         refine pure_ (i := 5) (N := some 70) (v := ?_) (a' := ?_) #[J, Y, J, Y, Y, J, Y, Y, Y, Y] rfl rfl (Qm HT_.out (by kernel_rfl)) (fun _ _ _ h => h) (Or.inl ⟨by rfl, ?_⟩) ?_ ?_
         rotate_left
         ·
          intro w'
          go_simp
          with_reducible rfl
         rotate_left
         ·
          simp only [Act.put, List.setIfInBounds_toArray, List.set_cons_zero, List.set_cons_succ, i64_w, i32_w]
          rfl
         refine take_ (i := 1) (N := some 66) (v := ?_) (a' := ?_) #[J, J, J, Y, Y, J, Y, Y, Y, Y] rfl rfl (Qk1 HT_.out HW_.out (by kernel_rfl)) (fun _ _ _ h => h) (Or.inl ⟨by rfl, ?_⟩) hHeld ?_ ?_
         rotate_left
         ·
          rintro w' ⟨s0, s1, s2, s3, s4, s5, s6, s7, s8⟩
          go_simp
          with_reducible rfl
         rotate_left
         ·
          simp only [Act.put, List.setIfInBounds_toArray, List.set_cons_zero, List.set_cons_succ, i64_w, i32_w]
          rfl
         refine pure_ (i := 3) (N := some 68) (v := ?_) (a' := ?_) #[J, J, J, J, Y, J, Y, Y, Y, Y] rfl rfl (Qm HT_.out (by kernel_rfl)) (fun _ _ _ h => h) (Or.inl ⟨by rfl, ?_⟩) ?_ ?_
         rotate_left
         ·
          intro w'
          go_simp
          with_reducible rfl
         rotate_left
         ·
          simp only [Act.put, List.setIfInBounds_toArray, List.set_cons_zero, List.set_cons_succ, i64_w, i32_w]
          rfl
         refine take_ (i := 4) (N := some 69) (v := ?_) (a' := ?_) #[J, J, J, J, J, J, Y, Y, Y, Y] rfl rfl (Qk1 HT_.out HW_.out (by kernel_rfl)) (fun _ _ _ h => h) (Or.inl ⟨by rfl, ?_⟩) hHeld ?_ ?_
         rotate_left
         ·
          rintro w' ⟨s0, s1, s2, s3, s4, s5, s6, s7, s8⟩
          go_simp
          with_reducible rfl
         rotate_left
         ·
          simp only [Act.put, List.setIfInBounds_toArray, List.set_cons_zero, List.set_cons_succ, i64_w, i32_w]
          rfl
         refine take_ (i := 6) (N := some 71) (v := ?_) (a' := ?_) #[J, J, J, J, J, J, J, Y, Y, Y] rfl rfl (Qk1 HT_.out HW_.out (by kernel_rfl)) (fun _ _ _ h => h) (Or.inl ⟨by rfl, ?_⟩) hHeld ?_ ?_
         rotate_left
         ·
          rintro w' ⟨s0, s1, s2, s3, s4, s5, s6, s7, s8⟩
          go_simp
          with_reducible rfl
         rotate_left
         ·
          simp only [Act.put, List.setIfInBounds_toArray, List.set_cons_zero, List.set_cons_succ, i64_w, i32_w]
          rfl
         refine pure_ (i := 7) (N := some 72) (v := ?_) (a' := ?_) #[J, J, J, J, J, J, J, J, Y, Y] rfl rfl (Qm HT_.out (by kernel_rfl)) (fun _ _ _ h => h) (Or.inl ⟨by rfl, ?_⟩) ?_ ?_
         rotate_left
         ·
          intro w'
          go_simp
          with_reducible rfl
         rotate_left
         ·
          simp only [Act.put, List.setIfInBounds_toArray, List.set_cons_zero, List.set_cons_succ, i64_w, i32_w]
          rfl
         refine one_ (i := 8) (N := some 73) #[J, J, J, J, J, J, J, J, J, Y] rfl rfl (one_of HT_.out (by kernel_rfl)) (by decide) (fun K hK => ?_)
         refine goes_ Try.func36 (by kernel_rfl) rfl #[.agg #[.int .i64 ((Qh l0_1 x7_3).f0), .slice A233_1 ((Qh l0_1 x7_3).f1).length c233_1, .int .i64 ((Qh l0_1 x7_3).f2), .int .u64 ((Qh l0_1 x7_3).f3.f0), .int .u64 ((Qh l0_1 x7_3).f3.f1), .int .u64 ((Qh l0_1 x7_3).f3.f2), .int .u64 ((Qh l0_1 x7_3).f3.f3)], .int .i64 (l0_0.length : Int)] (by rfl) rfl rfl (by (try simp only [List.map_toArray, List.map_cons, List.map_nil]); first | done | rfl | (simp only [List.length_drop, List.length_take]; rfl)) ?_
         with_reducible refine (Qj1.calls k3 ((Qh l0_1 x7_3).f0) _ _ ((Qh l0_1 x7_3).f1) ((Qh l0_1 x7_3).f2) ((Qh l0_1 x7_3).f3.f0) ((Qh l0_1 x7_3).f3.f1) ((Qh l0_1 x7_3).f3.f2) ((Qh l0_1 x7_3).f3.f3) (l0_0.length : Int) true _ ?side1 ?side2 A28.out).mono ?_
         (case side1 => repeat (first | exact (Kd.Qw HR233_1.out HB.out) | (with_reducible refine Kd.Qf1 ?_ _) | (with_reducible refine Kd.Qe1 ?_ _) | (with_reducible refine Kd.C_drew ?_)))
         (case side2 => exact HC233_1.out)
         rintro e w32 ⟨rfl, hb⟩
         refine ⟨_, rfl, ?_⟩
         have n0_ := Qa.mk (Qo (g := gb228) (o := .cells #[.slice A0_0 l0_0.length c0_0, .slice (some ad233) l0_1.length c0_1] 25 (0, 0)) (by (with_reducible repeat (first | refine Qe ?_ _ | refine Qc ?_ | refine Qd ?_ _)); exact BK228.out) hb)
         have n1_ := Qa.mk (Qr (by with_reducible repeat (first | exact HB.out | apply Qj | apply Ql | apply Qk | refine Qi ?_ GE228.out)) hb)
         clear BK228
         clear HB
         have BK228 := n0_
         have HB := n1_
         clear n0_ n1_
         (try clear hb; try clear hb2; try clear hk; try clear hi)
         refine hK.out _ _ ⟨(Qb BK228.out 0).trans rfl, (Qb BK228.out 1).trans rfl, ((HB.out.cell (World.block_lt_of_cell? w _ hw233_0)).trans hw233_0), ((HB.out.cell (World.block_lt_of_cell? w _ hw233_1)).trans hw233_1), ((HB.out.cell (World.block_lt_of_cell? w _ hw233_2)).trans hw233_2), ((HB.out.cell (World.block_lt_of_cell? w _ hw233_3)).trans hw233_3), ((HB.out.cell (World.block_lt_of_cell? w _ hw233_4)).trans hw233_4), ((HB.out.cell (World.block_lt_of_cell? w _ hw233_5)).trans hw233_5), ((HB.out.cell (World.block_lt_of_cell? w _ hw233_6)).trans hw233_6)⟩ (fun hHeld => ?_)
         clear hK K
         refine norm_ (a' := ?_) ?_ ?_
         rotate_left
         ·
          show Act.put _ (some 73) _ = _
          simp only [Act.put, List.setIfInBounds_toArray, List.set_cons_zero, List.set_cons_succ, i64_w, i32_w]
          rfl
         refine pure_ (i := 9) (N := some 74) (v := ?_) (a' := ?_) #[J, J, J, J, J, J, J, J, J, J] rfl rfl (Qm HT_.out (by kernel_rfl)) (fun _ _ _ h => h) (Or.inl ⟨by rfl, ?_⟩) ?_ ?_
         rotate_left
         ·
          intro w'
          go_simp
          with_reducible rfl
         rotate_left
         ·
          simp only [Act.put, List.setIfInBounds_toArray, List.set_cons_zero, List.set_cons_succ, i64_w, i32_w]
          rfl
         refine done_ (done_of HT_.out (by kernel_rfl)) ?_
         try go_wp2
         go_roundg k3
         case measure => have := HJ1.out; have := HK2.out; have := HK3.out; omega
         case rel => exact ⟨(wrap64 (x7_3 + 1)), (by first | rfl | (simp; done) | (simp [*]; done)), H', ⟨by have := HJ1.out; have := HK2.out; have := HK3.out; omega⟩, ⟨by (with_reducible repeat (first | refine Qe ?_ _ | refine Qc ?_ | refine Qd ?_ _)); exact BK228.out⟩, ⟨by with_reducible repeat (first | exact HB.out | apply Qj | apply Ql | apply Qk | refine Qi ?_ GE228.out)⟩⟩
        replace c29 := Bool.eq_false_iff.mpr c29
        subst c29
        have H1 : (some ((⟨#[110, 111, 100, 101, 115]⟩ : ByteArray), 10, x7_3)) = some (r1, r2, r3) := by rw [if_neg (show ¬ (false = true) by decide)] at H; exact H
        clear H
        have H := H1
        clear H1
        simp only [Option.some.injEq, Prod.mk.injEq] at H
        obtain ⟨rfl, rfl, rfl⟩ := H
        have hcz33_0 : wr.cell? ⟨gb228, 0, none⟩ = some (.slice A0_0 l0_0.length c0_0) := (Qb BK228.out 0).trans rfl
        have hcz33_1 : wr.cell? ⟨gb228, 1, none⟩ = some (.slice A0_1 l0_1.length c0_1) := (Qb BK228.out 1).trans rfl
        have hfz33_0 := Qf BK228.out 0
        have hfz33_1 := Qf BK228.out 1
        try go_wp2
        have n0_ := Qa.mk (Qc BK228.out)
        have n1_ := Qa.mk (Qk HB.out)
        clear BK228
        clear HB
        have BK228 := n0_
        have HB := n1_
        clear n0_ n1_
        have p233 : 0 ≤ (x7_3 : Int) := of_decide_eq_true (by assumption)
        have q233 : x7_3 < (l0_1.length : Int) := of_decide_eq_true (by assumption)
        obtain ⟨ad233, A233_1, c233_1, e233, hx233_0, hx233_1, hx233_2, hx233_3, hx233_4, hx233_5, hx233_6, hl233_1, hi233_1⟩ := at_T53 HR0_1.out x7_3 p233 q233
        have hw233_6 := hx233_6
        have hw233_5 := hx233_5
        have hw233_4 := hx233_4
        have hw233_3 := hx233_3
        have hw233_2 := hx233_2
        have hw233_1 := hx233_1
        have hw233_0 := hx233_0
        cases e233
        replace hx233_0 := (HB.out.cell (World.block_lt_of_cell? w _ hx233_0)).trans hx233_0
        replace hx233_1 := (HB.out.cell (World.block_lt_of_cell? w _ hx233_1)).trans hx233_1
        replace hx233_2 := (HB.out.cell (World.block_lt_of_cell? w _ hx233_2)).trans hx233_2
        replace hx233_3 := (HB.out.cell (World.block_lt_of_cell? w _ hx233_3)).trans hx233_3
        replace hx233_4 := (HB.out.cell (World.block_lt_of_cell? w _ hx233_4)).trans hx233_4
        replace hx233_5 := (HB.out.cell (World.block_lt_of_cell? w _ hx233_5)).trans hx233_5
        replace hx233_6 := (HB.out.cell (World.block_lt_of_cell? w _ hx233_6)).trans hx233_6
        have HR233_1 := Qa.mk hi233_1
        have HC233_1 := Qa.mk hl233_1
        clear hi233_1 hl233_1
        replace p233 := eq_true p233
        replace q233 := eq_true q233
        refine start_ (n := 10) (S := fun w' => w'.cell? ⟨gb228, 0, none⟩ = some (.slice A0_0 l0_0.length c0_0) ∧ w'.cell? ⟨gb228, 1, none⟩ = some (.slice (some ad233) l0_1.length c0_1) ∧ w'.cell? (ad233.add ((x7_3).toNat * 7)) = some (.int .i64 ((Qh l0_1 x7_3).f0)) ∧ w'.cell? ⟨(ad233.add ((x7_3).toNat * 7)).block, (ad233.add ((x7_3).toNat * 7)).off + 1, none⟩ = some (.slice A233_1 ((Qh l0_1 x7_3).f1).length c233_1) ∧ w'.cell? ⟨(ad233.add ((x7_3).toNat * 7)).block, (ad233.add ((x7_3).toNat * 7)).off + 2, none⟩ = some (.int .i64 ((Qh l0_1 x7_3).f2)) ∧ w'.cell? ⟨(ad233.add ((x7_3).toNat * 7)).block, (ad233.add ((x7_3).toNat * 7)).off + 3, none⟩ = some (.int .u64 ((Qh l0_1 x7_3).f3.f0)) ∧ w'.cell? ⟨(ad233.add ((x7_3).toNat * 7)).block, (ad233.add ((x7_3).toNat * 7)).off + 4, none⟩ = some (.int .u64 ((Qh l0_1 x7_3).f3.f1)) ∧ w'.cell? ⟨(ad233.add ((x7_3).toNat * 7)).block, (ad233.add ((x7_3).toNat * 7)).off + 5, none⟩ = some (.int .u64 ((Qh l0_1 x7_3).f3.f2)) ∧ w'.cell? ⟨(ad233.add ((x7_3).toNat * 7)).block, (ad233.add ((x7_3).toNat * 7)).off + 6, none⟩ = some (.int .u64 ((Qh l0_1 x7_3).f3.f3))) (ds := []) #[Y, Y, Y, Y, Y, Y, Y, Y, Y, Y] (by kernel_rfl) rfl rfl ⟨(Qb BK228.out 0).trans rfl, (Qb BK228.out 1).trans rfl, ((HB.out.cell (World.block_lt_of_cell? w _ hw233_0)).trans hw233_0), ((HB.out.cell (World.block_lt_of_cell? w _ hw233_1)).trans hw233_1), ((HB.out.cell (World.block_lt_of_cell? w _ hw233_2)).trans hw233_2), ((HB.out.cell (World.block_lt_of_cell? w _ hw233_3)).trans hw233_3), ((HB.out.cell (World.block_lt_of_cell? w _ hw233_4)).trans hw233_4), ((HB.out.cell (World.block_lt_of_cell? w _ hw233_5)).trans hw233_5), ((HB.out.cell (World.block_lt_of_cell? w _ hw233_6)).trans hw233_6)⟩ (fun hHeld => ?_); refine with_tabW Qb1.tab18 Qb1.bits18 (fun HT_ HW_ => ?_)
        generalize wr.drew = w34 at BK228 HB HR233_1 hx233_0 hx233_1 hx233_2 hx233_3 hx233_4 hx233_5 hx233_6 hHeld ⊢
        refine pure_ (i := 0) (N := some 65) (v := ?_) (a' := ?_) #[J, Y, Y, Y, Y, Y, Y, Y, Y, Y] rfl rfl (Qm HT_.out (by kernel_rfl)) (fun _ _ _ h => h) (Or.inl ⟨by rfl, ?_⟩) ?_ ?_
        rotate_left
        ·
         intro w'
         go_simp
         with_reducible rfl
        rotate_left
        ·
         simp only [Act.put, List.setIfInBounds_toArray, List.set_cons_zero, List.set_cons_succ, i64_w, i32_w]
         rfl
        refine pure_ (i := 2) (N := some 67) (v := ?_) (a' := ?_) #[J, Y, J, Y, Y, Y, Y, Y, Y, Y] rfl rfl (Qm HT_.out (by kernel_rfl)) (fun _ _ _ h => h) (Or.inl ⟨by rfl, ?_⟩) ?_ ?_
        rotate_left
        ·
         intro w'
         go_simp
         with_reducible rfl
        rotate_left
        ·
         simp only [Act.put, List.setIfInBounds_toArray, List.set_cons_zero, List.set_cons_succ, i64_w, i32_w]
         rfl
        refine pure_ (i := 5) (N := some 70) (v := ?_) (a' := ?_) #[J, Y, J, Y, Y, J, Y, Y, Y, Y] rfl rfl (Qm HT_.out (by kernel_rfl)) (fun _ _ _ h => h) (Or.inl ⟨by rfl, ?_⟩) ?_ ?_
        rotate_left
        ·
         intro w'
         go_simp
         with_reducible rfl
        rotate_left
        ·
         simp only [Act.put, List.setIfInBounds_toArray, List.set_cons_zero, List.set_cons_succ, i64_w, i32_w]
         rfl
        refine take_ (i := 1) (N := some 66) (v := ?_) (a' := ?_) #[J, J, J, Y, Y, J, Y, Y, Y, Y] rfl rfl (Qk1 HT_.out HW_.out (by kernel_rfl)) (fun _ _ _ h => h) (Or.inl ⟨by rfl, ?_⟩) hHeld ?_ ?_
        rotate_left
        ·
         rintro w' ⟨s0, s1, s2, s3, s4, s5, s6, s7, s8⟩
         go_simp
         with_reducible rfl
        rotate_left
        ·
         simp only [Act.put, List.setIfInBounds_toArray, List.set_cons_zero, List.set_cons_succ, i64_w, i32_w]
         rfl
        refine pure_ (i := 3) (N := some 68) (v := ?_) (a' := ?_) #[J, J, J, J, Y, J, Y, Y, Y, Y] rfl rfl (Qm HT_.out (by kernel_rfl)) (fun _ _ _ h => h) (Or.inl ⟨by rfl, ?_⟩) ?_ ?_
        rotate_left
        ·
         intro w'
         go_simp
         with_reducible rfl
        rotate_left
        ·
         simp only [Act.put, List.setIfInBounds_toArray, List.set_cons_zero, List.set_cons_succ, i64_w, i32_w]
         rfl
        refine take_ (i := 4) (N := some 69) (v := ?_) (a' := ?_) #[J, J, J, J, J, J, Y, Y, Y, Y] rfl rfl (Qk1 HT_.out HW_.out (by kernel_rfl)) (fun _ _ _ h => h) (Or.inl ⟨by rfl, ?_⟩) hHeld ?_ ?_
        rotate_left
        ·
         rintro w' ⟨s0, s1, s2, s3, s4, s5, s6, s7, s8⟩
         go_simp
         with_reducible rfl
        rotate_left
        ·
         simp only [Act.put, List.setIfInBounds_toArray, List.set_cons_zero, List.set_cons_succ, i64_w, i32_w]
         rfl
        refine take_ (i := 6) (N := some 71) (v := ?_) (a' := ?_) #[J, J, J, J, J, J, J, Y, Y, Y] rfl rfl (Qk1 HT_.out HW_.out (by kernel_rfl)) (fun _ _ _ h => h) (Or.inl ⟨by rfl, ?_⟩) hHeld ?_ ?_
        rotate_left
        ·
         rintro w' ⟨s0, s1, s2, s3, s4, s5, s6, s7, s8⟩
         go_simp
         with_reducible rfl
        rotate_left
        ·
         simp only [Act.put, List.setIfInBounds_toArray, List.set_cons_zero, List.set_cons_succ, i64_w, i32_w]
         rfl
        refine pure_ (i := 7) (N := some 72) (v := ?_) (a' := ?_) #[J, J, J, J, J, J, J, J, Y, Y] rfl rfl (Qm HT_.out (by kernel_rfl)) (fun _ _ _ h => h) (Or.inl ⟨by rfl, ?_⟩) ?_ ?_
        rotate_left
        ·
         intro w'
         go_simp
         with_reducible rfl
        rotate_left
        ·
         simp only [Act.put, List.setIfInBounds_toArray, List.set_cons_zero, List.set_cons_succ, i64_w, i32_w]
         rfl
        refine one_ (i := 8) (N := some 73) #[J, J, J, J, J, J, J, J, J, Y] rfl rfl (one_of HT_.out (by kernel_rfl)) (by decide) (fun K hK => ?_)
        refine goes_ Try.func36 (by kernel_rfl) rfl #[.agg #[.int .i64 ((Qh l0_1 x7_3).f0), .slice A233_1 ((Qh l0_1 x7_3).f1).length c233_1, .int .i64 ((Qh l0_1 x7_3).f2), .int .u64 ((Qh l0_1 x7_3).f3.f0), .int .u64 ((Qh l0_1 x7_3).f3.f1), .int .u64 ((Qh l0_1 x7_3).f3.f2), .int .u64 ((Qh l0_1 x7_3).f3.f3)], .int .i64 (l0_0.length : Int)] (by rfl) rfl rfl (by (try simp only [List.map_toArray, List.map_cons, List.map_nil]); first | done | rfl | (simp only [List.length_drop, List.length_take]; rfl)) ?_
        with_reducible refine (Qj1.calls k3 ((Qh l0_1 x7_3).f0) _ _ ((Qh l0_1 x7_3).f1) ((Qh l0_1 x7_3).f2) ((Qh l0_1 x7_3).f3.f0) ((Qh l0_1 x7_3).f3.f1) ((Qh l0_1 x7_3).f3.f2) ((Qh l0_1 x7_3).f3.f3) (l0_0.length : Int) false _ ?side1 ?side2 A28.out).mono ?_
        (case side1 => repeat (first | exact (Kd.Qw HR233_1.out HB.out) | (with_reducible refine Kd.Qf1 ?_ _) | (with_reducible refine Kd.Qe1 ?_ _) | (with_reducible refine Kd.C_drew ?_)))
        (case side2 => exact HC233_1.out)
        rintro e w35 ⟨rfl, hb⟩
        refine ⟨_, rfl, ?_⟩
        have n0_ := Qa.mk (Qo (g := gb228) (o := .cells #[.slice A0_0 l0_0.length c0_0, .slice (some ad233) l0_1.length c0_1] 25 (0, 0)) (by (with_reducible repeat (first | refine Qe ?_ _ | refine Qc ?_ | refine Qd ?_ _)); exact BK228.out) hb)
        have n1_ := Qa.mk (Qr (by with_reducible repeat (first | exact HB.out | apply Qj | apply Ql | apply Qk | refine Qi ?_ GE228.out)) hb)
        clear BK228
        clear HB
        have BK228 := n0_
        have HB := n1_
        clear n0_ n1_
        (try clear hb; try clear hb2; try clear hk; try clear hi)
        refine hK.out _ _ ⟨(Qb BK228.out 0).trans rfl, (Qb BK228.out 1).trans rfl, ((HB.out.cell (World.block_lt_of_cell? w _ hw233_0)).trans hw233_0), ((HB.out.cell (World.block_lt_of_cell? w _ hw233_1)).trans hw233_1), ((HB.out.cell (World.block_lt_of_cell? w _ hw233_2)).trans hw233_2), ((HB.out.cell (World.block_lt_of_cell? w _ hw233_3)).trans hw233_3), ((HB.out.cell (World.block_lt_of_cell? w _ hw233_4)).trans hw233_4), ((HB.out.cell (World.block_lt_of_cell? w _ hw233_5)).trans hw233_5), ((HB.out.cell (World.block_lt_of_cell? w _ hw233_6)).trans hw233_6)⟩ (fun hHeld => ?_)
        clear hK K
        refine norm_ (a' := ?_) ?_ ?_
        rotate_left
        ·
         show Act.put _ (some 73) _ = _
         simp only [Act.put, List.setIfInBounds_toArray, List.set_cons_zero, List.set_cons_succ, i64_w, i32_w]
         rfl
        refine pure_ (i := 9) (N := some 74) (v := ?_) (a' := ?_) #[J, J, J, J, J, J, J, J, J, J] rfl rfl (Qm HT_.out (by kernel_rfl)) (fun _ _ _ h => h) (Or.inl ⟨by rfl, ?_⟩) ?_ ?_
        rotate_left
        ·
         intro w'
         go_simp
         with_reducible rfl
        rotate_left
        ·
         simp only [Act.put, List.setIfInBounds_toArray, List.set_cons_zero, List.set_cons_succ, i64_w, i32_w]
         rfl
        refine done_ (done_of HT_.out (by kernel_rfl)) ?_
        try go_wp2
        go_ret3
        exact ⟨by first | rfl | (simp [Qt, Qs] <;> rfl) | (simp [*, Qt, Qs] <;> rfl), by with_reducible repeat (first | exact HB.out | apply Qj | apply Ql | apply Qk | refine Qi ?_ GE228.out)⟩
       rw [if_neg c26] at H
       have c26b0 : decide (x7_3 < (l0_1.length : Int)) = false := decide_eq_false c26
       clear c26
       replace H := Option.bind_eq_some_iff.mp H
       obtain ⟨t235, A360, H⟩ := H
       replace H : (if t235 = true then (Qb1.l3 k3 0 l0_0 l0_1) else (some ((⟨#[]⟩ : ByteArray), 10, 0))) = some (r1, r2, r3) := H
       have A36 := Qa.mk A360
       clear A360
       by_cases c37 : t235 = true
       rotate_left
       ·
        replace c37 := Bool.eq_false_iff.mpr c37
        subst c37
        have H1 : (some ((⟨#[]⟩ : ByteArray), 10, 0)) = some (r1, r2, r3) := by rw [if_neg (show ¬ (false = true) by decide)] at H; exact H
        clear H
        have H := H1
        clear H1
        simp only [Option.some.injEq, Prod.mk.injEq] at H
        obtain ⟨rfl, rfl, rfl⟩ := H
        have hcz48_0 : wr.cell? ⟨gb228, 0, none⟩ = some (.slice A0_0 l0_0.length c0_0) := (Qb BK228.out 0).trans rfl
        have hcz48_1 : wr.cell? ⟨gb228, 1, none⟩ = some (.slice A0_1 l0_1.length c0_1) := (Qb BK228.out 1).trans rfl
        have hfz48_0 := Qf BK228.out 0
        have hfz48_1 := Qf BK228.out 1
        go_wp2_with (first | ((with_reducible refine gate_callee (f := 37) rfl ?_); refine goesL_ (some 77) rfl rfl Try.func37 (by kernel_rfl) rfl #[.agg #[.slice A0_0 l0_0.length c0_0, .slice A0_1 l0_1.length c0_1]] rfl (by (try simp only [List.map_toArray, List.map_cons, List.map_nil]); first | done | rfl | (simp only [List.length_drop, List.length_take]; rfl)) ?_; (with_reducible refine (Qs1.calls k3 _ _ l0_0 _ _ l0_1 false _ ?side1 ?side2 ?side3 ?side4 A36.out).mono ?_); (case side1 => repeat (first | exact (Kd.Qw HR0_0.out HB.out) | (with_reducible refine Kd.Qf1 ?_ _) | (with_reducible refine Kd.Qe1 ?_ _) | (with_reducible refine Kd.C_drew ?_))); (case side2 => exact HC0_0.out); (case side3 => repeat (first | exact (Kd.Qw HR0_1.out HB.out) | (with_reducible refine Kd.Qf1 ?_ _) | (with_reducible refine Kd.Qe1 ?_ _) | (with_reducible refine Kd.C_drew ?_))); (case side4 => exact HC0_1.out); rintro e w49 ⟨rfl, hb⟩; refine ⟨_, rfl, ?_⟩; have n0_ := Qa.mk (Qo (g := gb228) (o := .cells #[.slice A0_0 l0_0.length c0_0, .slice A0_1 l0_1.length c0_1] 25 (0, 0)) (by (with_reducible repeat (first | refine Qe ?_ _ | refine Qc ?_ | refine Qd ?_ _)); exact BK228.out) hb); have n1_ := Qa.mk (Qr (by with_reducible repeat (first | exact HB.out | apply Qj | apply Ql | apply Qk | refine Qi ?_ GE228.out)) hb); clear BK228; clear HB; have BK228 := n0_; have HB := n1_; clear n0_ n1_; (try clear hb); (try clear hb2); (try clear hk); (try clear hi)))
        go_ret3
        exact ⟨by first | rfl | (simp [Qt, Qs] <;> rfl) | (simp [*, Qt, Qs] <;> rfl), by with_reducible repeat (first | exact HB.out | apply Qj | apply Ql | apply Qk | refine Qi ?_ GE228.out)⟩
       subst c37
       have H1 : (Qb1.l3 k3 0 l0_0 l0_1) = some (r1, r2, r3) := by rw [if_pos rfl] at H; exact H
       clear H
       have H := H1
       clear H1
       have H' := Qa.mk H
       clear H
       have hcz38_0 : wr.cell? ⟨gb228, 0, none⟩ = some (.slice A0_0 l0_0.length c0_0) := (Qb BK228.out 0).trans rfl
       have hcz38_1 : wr.cell? ⟨gb228, 1, none⟩ = some (.slice A0_1 l0_1.length c0_1) := (Qb BK228.out 1).trans rfl
       have hfz38_0 := Qf BK228.out 0
       have hfz38_1 := Qf BK228.out 1
       go_wp2_with (first | ((with_reducible refine gate_callee (f := 37) rfl ?_); refine goesL_ (some 77) rfl rfl Try.func37 (by kernel_rfl) rfl #[.agg #[.slice A0_0 l0_0.length c0_0, .slice A0_1 l0_1.length c0_1]] rfl (by (try simp only [List.map_toArray, List.map_cons, List.map_nil]); first | done | rfl | (simp only [List.length_drop, List.length_take]; rfl)) ?_; (with_reducible refine (Qs1.calls k3 _ _ l0_0 _ _ l0_1 true _ ?side1 ?side2 ?side3 ?side4 A36.out).mono ?_); (case side1 => repeat (first | exact (Kd.Qw HR0_0.out HB.out) | (with_reducible refine Kd.Qf1 ?_ _) | (with_reducible refine Kd.Qe1 ?_ _) | (with_reducible refine Kd.C_drew ?_))); (case side2 => exact HC0_0.out); (case side3 => repeat (first | exact (Kd.Qw HR0_1.out HB.out) | (with_reducible refine Kd.Qf1 ?_ _) | (with_reducible refine Kd.Qe1 ?_ _) | (with_reducible refine Kd.C_drew ?_))); (case side4 => exact HC0_1.out); rintro e w39 ⟨rfl, hb⟩; refine ⟨_, rfl, ?_⟩; have n0_ := Qa.mk (Qo (g := gb228) (o := .cells #[.slice A0_0 l0_0.length c0_0, .slice A0_1 l0_1.length c0_1] 25 (0, 0)) (by (with_reducible repeat (first | refine Qe ?_ _ | refine Qc ?_ | refine Qd ?_ _)); exact BK228.out) hb); have n1_ := Qa.mk (Qr (by with_reducible repeat (first | exact HB.out | apply Qj | apply Ql | apply Qk | refine Qi ?_ GE228.out)) hb); clear BK228; clear HB; have BK228 := n0_; have HB := n1_; clear n0_ n1_; (try clear hb); (try clear hb2); (try clear hk); (try clear hi)))
       go_loopg [8] k3 (fun kq v8 w' => ∃ (x8_4 : Int), v8 = .int .i64 x8_4 ∧ Qa (Qb1.l3 kq x8_4 l0_0 l0_1 = some (r1, r2, r3)) ∧ Qa (kq ≤ k3) ∧ Qa (w'.heap[gb228]? = some (.cells #[(.slice A0_0 l0_0.length c0_0), (.slice A0_1 l0_1.length c0_1)] 25 (0, 0))) ∧ Qa (Below w.heap.size w w'))
       case atStart => exact ⟨(0), (by first | rfl | (simp; done) | (simp [*]; done)), H', ⟨Nat.le_refl _⟩, ⟨by (with_reducible repeat (first | refine Qe ?_ _ | refine Qc ?_ | refine Qd ?_ _)); exact BK228.out⟩, ⟨by with_reducible repeat (first | exact HB.out | apply Qj | apply Ql | apply Qk | refine Qi ?_ GE228.out)⟩⟩
       case round =>
        clear H'
        (try clear c1; try clear c2; try clear p2; try clear q2; try clear hx2; try clear c3; try clear c4; try clear c4b0; try clear c4b1; try clear p6; try clear c7; try clear c8; try clear c8b0; try clear c8b1; try clear c8b2; try clear c11; try clear c11b0; try clear c12; try clear c12b0; try clear c14; try clear c16; try clear c16b0; try clear c17; try clear c17b0; try clear c18; try clear c18b0; try clear c19; try clear c19b0; try clear c20; try clear c20b0; try clear c21; try clear c21b0; try clear c21b1; try clear p22; try clear q22; try clear hx22; try clear c23; try clear p23; try clear q23; try clear hx23; try clear c26; try clear c26b0; try clear c27; try clear c27b0; try clear c29; try clear c35; try clear c36; try clear c37; try clear hcz10_0; try clear hcz10_1; try clear hcz15_0; try clear hcz15_1; try clear hcz24_0; try clear hcz24_1; try clear hcz25_0; try clear hcz25_1; try clear hcz30_0; try clear hcz30_1; try clear hcz33_0; try clear hcz33_1; try clear hcz38_0; try clear hcz38_1; try clear hcz5_0; try clear hcz5_1; try clear hcz6_0; try clear hcz6_1; try clear hcz9_0; try clear hcz9_1; try clear hfz10_0; try clear hfz10_1; try clear hfz15_0; try clear hfz15_1; try clear hfz24_0; try clear hfz24_1; try clear hfz25_0; try clear hfz25_1; try clear hfz30_0; try clear hfz30_1; try clear hfz33_0; try clear hfz33_1; try clear hfz38_0; try clear hfz38_1; try clear hfz5_0; try clear hfz5_1; try clear hfz6_0; try clear hfz6_1; try clear hfz9_0; try clear hfz9_1; try clear hx229_0; try clear hx229_1; try clear hx231_0; try clear hx231_1; try clear hx232_0; try clear hx232_1; try clear hx233_0; try clear hx233_1; try clear hx233_2; try clear hx233_3; try clear hx233_4; try clear hx233_5; try clear hx233_6; try clear p2; try clear p22; try clear p229; try clear p23; try clear p231; try clear p232; try clear p233; try clear p6; try clear q2; try clear q22; try clear q229; try clear q23; try clear q231; try clear q232; try clear q233)
        obtain ⟨x8_4, rfl, HA, HK4, BK228, HB⟩ := hrel
        cases gk with
        | zero => exact absurd HA.out (by simp [Qb1.l3])
        | succ k4 =>
         have H := HA.out
         clear HA
         simp only [Qb1.l3] at H
         by_cases c40 : x8_4 < (l0_1.length : Int)
         rotate_left
         ·
          rw [if_neg c40] at H
          have c40b0 : decide (x8_4 < (l0_1.length : Int)) = false := decide_eq_false c40
          clear c40
          simp only [Option.some.injEq, Prod.mk.injEq] at H
          obtain ⟨rfl, rfl, rfl⟩ := H
          have hcz47_0 : wr.cell? ⟨gb228, 0, none⟩ = some (.slice A0_0 l0_0.length c0_0) := (Qb BK228.out 0).trans rfl
          have hcz47_1 : wr.cell? ⟨gb228, 1, none⟩ = some (.slice A0_1 l0_1.length c0_1) := (Qb BK228.out 1).trans rfl
          have hfz47_0 := Qf BK228.out 0
          have hfz47_1 := Qf BK228.out 1
          go_wp2
          go_ret3
          exact ⟨by first | rfl | (simp [Qt, Qs] <;> rfl) | (simp [*, Qt, Qs] <;> rfl), by with_reducible repeat (first | exact HB.out | apply Qj | apply Ql | apply Qk | refine Qi ?_ GE228.out)⟩
         rw [if_pos c40] at H
         have c40b0 : decide (x8_4 < (l0_1.length : Int)) = true := decide_eq_true c40
         clear c40
         replace H := Option.bind_eq_some_iff.mp H
         obtain ⟨t236, A410, H⟩ := H
         replace H : (if t236 > 200 then (some ((⟨#[110, 111, 100, 101, 115]⟩ : ByteArray), 5, x8_4)) else (Qb1.l3 k4 (wrap64 (x8_4 + 1)) l0_0 l0_1)) = some (r1, r2, r3) := H
         have A41 := Qa.mk A410
         clear A410
         by_cases c42 : t236 > 200
         ·
          rw [if_pos c42] at H
          have c42b0 : decide (200 < t236) = true := decide_eq_true c42
          clear c42
          simp only [Option.some.injEq, Prod.mk.injEq] at H
          obtain ⟨rfl, rfl, rfl⟩ := H
          have hcz43_0 : wr.cell? ⟨gb228, 0, none⟩ = some (.slice A0_0 l0_0.length c0_0) := (Qb BK228.out 0).trans rfl
          have hcz43_1 : wr.cell? ⟨gb228, 1, none⟩ = some (.slice A0_1 l0_1.length c0_1) := (Qb BK228.out 1).trans rfl
          have hfz43_0 := Qf BK228.out 0
          have hfz43_1 := Qf BK228.out 1
          go_wp2_with (first | ((with_reducible refine gate_callee (f := 38) rfl ?_); refine goesL_ (some 88) rfl rfl Try.func38 (by kernel_rfl) rfl #[.agg #[.slice A0_0 l0_0.length c0_0, .slice A0_1 l0_1.length c0_1], .int .i64 x8_4, .int .i64 205] rfl (by (try simp only [List.map_toArray, List.map_cons, List.map_nil]); first | done | rfl | (simp only [List.length_drop, List.length_take]; rfl)) ?_; (with_reducible refine (Qm1.calls k4 _ _ l0_0 _ _ l0_1 x8_4 205 t236 _ ?side1 ?side2 ?side3 ?side4 A41.out).mono ?_); (case side1 => repeat (first | exact (Kd.Qw HR0_0.out HB.out) | (with_reducible refine Kd.Qf1 ?_ _) | (with_reducible refine Kd.Qe1 ?_ _) | (with_reducible refine Kd.C_drew ?_))); (case side2 => exact HC0_0.out); (case side3 => repeat (first | exact (Kd.Qw HR0_1.out HB.out) | (with_reducible refine Kd.Qf1 ?_ _) | (with_reducible refine Kd.Qe1 ?_ _) | (with_reducible refine Kd.C_drew ?_))); (case side4 => exact HC0_1.out); rintro e w44 ⟨rfl, hb⟩; refine ⟨_, rfl, ?_⟩; have n0_ := Qa.mk (Qo (g := gb228) (o := .cells #[.slice A0_0 l0_0.length c0_0, .slice A0_1 l0_1.length c0_1] 25 (0, 0)) (by (with_reducible repeat (first | refine Qe ?_ _ | refine Qc ?_ | refine Qd ?_ _)); exact BK228.out) hb); have n1_ := Qa.mk (Qr (by with_reducible repeat (first | exact HB.out | apply Qj | apply Ql | apply Qk | refine Qi ?_ GE228.out)) hb); clear BK228; clear HB; have BK228 := n0_; have HB := n1_; clear n0_ n1_; (try clear hb); (try clear hb2); (try clear hk); (try clear hi)))
          go_ret3
          exact ⟨by first | rfl | (simp [Qt, Qs] <;> rfl) | (simp [*, Qt, Qs] <;> rfl), by with_reducible repeat (first | exact HB.out | apply Qj | apply Ql | apply Qk | refine Qi ?_ GE228.out)⟩
         rw [if_neg c42] at H
         have c42b0 : decide (200 < t236) = false := decide_eq_false c42
         clear c42
         have H' := Qa.mk H
         clear H
         have hcz45_0 : wr.cell? ⟨gb228, 0, none⟩ = some (.slice A0_0 l0_0.length c0_0) := (Qb BK228.out 0).trans rfl
         have hcz45_1 : wr.cell? ⟨gb228, 1, none⟩ = some (.slice A0_1 l0_1.length c0_1) := (Qb BK228.out 1).trans rfl
         have hfz45_0 := Qf BK228.out 0
         have hfz45_1 := Qf BK228.out 1
         go_wp2_with (first | ((with_reducible refine gate_callee (f := 38) rfl ?_); refine goesL_ (some 88) rfl rfl Try.func38 (by kernel_rfl) rfl #[.agg #[.slice A0_0 l0_0.length c0_0, .slice A0_1 l0_1.length c0_1], .int .i64 x8_4, .int .i64 205] rfl (by (try simp only [List.map_toArray, List.map_cons, List.map_nil]); first | done | rfl | (simp only [List.length_drop, List.length_take]; rfl)) ?_; (with_reducible refine (Qm1.calls k4 _ _ l0_0 _ _ l0_1 x8_4 205 t236 _ ?side1 ?side2 ?side3 ?side4 A41.out).mono ?_); (case side1 => repeat (first | exact (Kd.Qw HR0_0.out HB.out) | (with_reducible refine Kd.Qf1 ?_ _) | (with_reducible refine Kd.Qe1 ?_ _) | (with_reducible refine Kd.C_drew ?_))); (case side2 => exact HC0_0.out); (case side3 => repeat (first | exact (Kd.Qw HR0_1.out HB.out) | (with_reducible refine Kd.Qf1 ?_ _) | (with_reducible refine Kd.Qe1 ?_ _) | (with_reducible refine Kd.C_drew ?_))); (case side4 => exact HC0_1.out); rintro e w46 ⟨rfl, hb⟩; refine ⟨_, rfl, ?_⟩; have n0_ := Qa.mk (Qo (g := gb228) (o := .cells #[.slice A0_0 l0_0.length c0_0, .slice A0_1 l0_1.length c0_1] 25 (0, 0)) (by (with_reducible repeat (first | refine Qe ?_ _ | refine Qc ?_ | refine Qd ?_ _)); exact BK228.out) hb); have n1_ := Qa.mk (Qr (by with_reducible repeat (first | exact HB.out | apply Qj | apply Ql | apply Qk | refine Qi ?_ GE228.out)) hb); clear BK228; clear HB; have BK228 := n0_; have HB := n1_; clear n0_ n1_; (try clear hb); (try clear hb2); (try clear hk); (try clear hi)))
         go_roundg k4
         case measure => have := HJ1.out; have := HK2.out; have := HK3.out; have := HK4.out; omega
         case rel => exact ⟨(wrap64 (x8_4 + 1)), (by first | rfl | (simp; done) | (simp [*]; done)), H', ⟨by have := HJ1.out; have := HK2.out; have := HK3.out; have := HK4.out; omega⟩, ⟨by (with_reducible repeat (first | refine Qe ?_ _ | refine Qc ?_ | refine Qd ?_ _)); exact BK228.out⟩, ⟨by with_reducible repeat (first | exact HB.out | apply Qj | apply Ql | apply Qk | refine Qi ?_ GE228.out)⟩⟩
end Go.Proofs.Ytnaanamibfpbpaa.V
namespace Go.Proofs.Ytnaanamibfpbpaa.V
open Go.RowKit Go.Proofs.YtnaanamibfpbpaaW.PrintWords Go.Proofs.YtnaanamibfpbpaaW.PrintLast Go.Proofs.YtnaanamibfpbpaaW.PrintMore
attribute [local go_sem] max2_int min2_int max_two min_two max_three min_three max_four min_four tdiv_most
set_option linter.unusedVariables false
set_option linter.unusedSimpArgs false
attribute [local go_sem high] eqA35
def vetchref05_Valid.f (k : Nat) (l0_0 : List (S39)) (l0_1 : List (S53)) : Option (Bool) := (Qb1.f k l0_0 l0_1).bind fun bt238 => (some (bt238.2.1 == 0))
set_option maxHeartbeats 8000000 in
set_option maxRecDepth 100000 in
theorem vetchref05_Valid.calls (k : Nat) (A0_0 : Option Addr) (c0_0 : Nat) (l0_0 : List (S39)) (A0_1 : Option Addr) (c0_1 : Nat) (l0_1 : List (S53)) (r : Bool) (w : World) (hr0_0 : Kd.C k39 w A0_0 l0_0.length l0_0) (hc0_0 : l0_0.length ≤ c0_0) (hr0_1 : Kd.C k53 w A0_1 l0_1.length l0_1) (hc0_1 : l0_1.length ≤ c0_1) (h : vetchref05_Valid.f k l0_0 l0_1 = some r) :
 Calls Try.prog 21 #[.agg #[.slice A0_0 l0_0.length c0_0, .slice A0_1 l0_1.length c0_1]] w fun e w' => e = .returned (.bool r) ∧ Below w.heap.size w w' := by
 have hu25 := Try.underlying25
 have HR0_0 := Qa.mk hr0_0
 have HC0_0 := Qa.mk hc0_0
 clear hr0_0 hc0_0
 have HR0_1 := Qa.mk hr0_1
 have HC0_1 := Qa.mk hc0_1
 clear hr0_1 hc0_1
 have HB := Qa.mk (Below.refl w.heap.size w)
 have H : ((Qb1.f k l0_0 l0_1).bind fun bt238 => (some (bt238.2.1 == 0))) = some r := h
 clear h
 replace H := Option.bind_eq_some_iff.mp H
 obtain ⟨⟨t238, t239, t240⟩, A20, H⟩ := H
 replace H : (some (t239 == 0)) = some r := H
 have A2 := Qa.mk A20
 clear A20
 obtain rfl := Option.some.inj H
 go_enter Try.func21, Try.ntmps21
 go_wp2_with (first | ((with_reducible refine Qd1 (N := 1) rfl ?_); refine Qg1 ?hg (N := 1) ?hd (cs := #[.slice A0_0 l0_0.length c0_0, .slice A0_1 l0_1.length c0_1]) (t := 25) ?hr ?_; (case hd => rfl); (case hg => rfl); (case hr => first | (go_simp; done) | (go_simp; rfl)); intro gb237 hg w3 hbox hb; have n0_ := Qa.mk (Qr (by with_reducible repeat (first | exact HB.out | apply Qj | apply Ql | apply Qk)) hb); have n1_ := Qa.mk (hbox); have n2_ := Qa.mk ((by rw [hg]; exact (Qc1 (by with_reducible repeat (first | exact HB.out | apply Qj | apply Ql | apply Qk))) : w.heap.size ≤ gb237)); have n3_ := n2_; clear HB; have HB := n0_; have BK237 := n1_; have GW237 := n2_; have GE237 := n3_; clear n0_ n1_ n2_ n3_; clear hb hbox hg; have hcz4_0 : w3.cell? ⟨gb237, 0, none⟩ = some (.slice A0_0 l0_0.length c0_0) := (Qb BK237.out 0).trans rfl; have hcz4_1 : w3.cell? ⟨gb237, 1, none⟩ = some (.slice A0_1 l0_1.length c0_1) := (Qb BK237.out 1).trans rfl; have hfz4_0 := Qf BK237.out 0; have hfz4_1 := Qf BK237.out 1) | ((with_reducible refine gate_callee (f := 28) rfl ?_); refine goesL_ (some 8) rfl rfl Try.func28 (by kernel_rfl) rfl #[.agg #[.slice A0_0 l0_0.length c0_0, .slice A0_1 l0_1.length c0_1]] rfl (by (try simp only [List.map_toArray, List.map_cons, List.map_nil]); first | done | rfl | (simp only [List.length_drop, List.length_take]; rfl)) ?_; (with_reducible refine (Qb1.calls k _ _ l0_0 _ _ l0_1 t238 t239 t240 _ ?side1 ?side2 ?side3 ?side4 A2.out).mono ?_); (case side1 => repeat (first | exact (Kd.Qw HR0_0.out HB.out) | (with_reducible refine Kd.Qf1 ?_ _) | (with_reducible refine Kd.Qe1 ?_ _) | (with_reducible refine Kd.C_drew ?_))); (case side2 => exact HC0_0.out); (case side3 => repeat (first | exact (Kd.Qw HR0_1.out HB.out) | (with_reducible refine Kd.Qf1 ?_ _) | (with_reducible refine Kd.Qe1 ?_ _) | (with_reducible refine Kd.C_drew ?_))); (case side4 => exact HC0_1.out); rintro e w5 ⟨rfl, hb⟩; refine ⟨_, rfl, ?_⟩; have n0_ := Qa.mk (Qo (g := gb237) (o := .cells #[.slice A0_0 l0_0.length c0_0, .slice A0_1 l0_1.length c0_1] 25 (0, 0)) (by (with_reducible repeat (first | refine Qe ?_ _ | refine Qc ?_ | refine Qd ?_ _)); exact BK237.out) hb); have n1_ := Qa.mk (Qr (by with_reducible repeat (first | exact HB.out | apply Qj | apply Ql | apply Qk | refine Qi ?_ GE237.out)) hb); clear BK237; clear HB; have BK237 := n0_; have HB := n1_; clear n0_ n1_; (try clear hb); (try clear hb2); (try clear hk); (try clear hi)))
 go_ret
 exact ⟨by first | rfl | (simp [Qt, Qs] <;> rfl) | (simp [*, Qt, Qs] <;> rfl), by with_reducible repeat (first | exact HB.out | apply Qj | apply Ql | apply Qk | refine Qi ?_ GE237.out)⟩
def vetchref05_Small.f (k : Nat) (l0_0 : List (S39)) (l0_1 : List (S53)) : Option (Bool) := (Qo1.f k l0_0 l0_1).bind fun t242 => (if t242 = true then ((vetchref05_Valid.f k l0_0 l0_1).bind fun t243 => (some t243)) else (some false))
set_option maxHeartbeats 8000000 in
set_option maxRecDepth 100000 in
theorem vetchref05_Small.calls (k : Nat) (A0_0 : Option Addr) (c0_0 : Nat) (l0_0 : List (S39)) (A0_1 : Option Addr) (c0_1 : Nat) (l0_1 : List (S53)) (r : Bool) (w : World) (hr0_0 : Kd.C k39 w A0_0 l0_0.length l0_0) (hc0_0 : l0_0.length ≤ c0_0) (hr0_1 : Kd.C k53 w A0_1 l0_1.length l0_1) (hc0_1 : l0_1.length ≤ c0_1) (h : vetchref05_Small.f k l0_0 l0_1 = some r) :
 Calls Try.prog 9 #[.agg #[.slice A0_0 l0_0.length c0_0, .slice A0_1 l0_1.length c0_1]] w fun e w' => e = .returned (.bool r) ∧ Below w.heap.size w w' := by
 have hu25 := Try.underlying25
 have HR0_0 := Qa.mk hr0_0
 have HC0_0 := Qa.mk hc0_0
 clear hr0_0 hc0_0
 have HR0_1 := Qa.mk hr0_1
 have HC0_1 := Qa.mk hc0_1
 clear hr0_1 hc0_1
 have HB := Qa.mk (Below.refl w.heap.size w)
 have H : ((Qo1.f k l0_0 l0_1).bind fun t242 => (if t242 = true then ((vetchref05_Valid.f k l0_0 l0_1).bind fun t243 => (some t243)) else (some false))) = some r := h
 clear h
 replace H := Option.bind_eq_some_iff.mp H
 obtain ⟨t242, A20, H⟩ := H
 replace H : (if t242 = true then ((vetchref05_Valid.f k l0_0 l0_1).bind fun t243 => (some t243)) else (some false)) = some r := H
 have A2 := Qa.mk A20
 clear A20
 by_cases c3 : t242 = true
 ·
  subst c3
  have H1 : ((vetchref05_Valid.f k l0_0 l0_1).bind fun t243 => (some t243)) = some r := by rw [if_pos rfl] at H; exact H
  clear H
  have H := H1
  clear H1
  replace H := Option.bind_eq_some_iff.mp H
  obtain ⟨t243, A40, H⟩ := H
  replace H : (some t243) = some r := H
  have A4 := Qa.mk A40
  clear A40
  obtain rfl := Option.some.inj H
  go_enter Try.func9, Try.ntmps9
  go_wp2_with (first | ((with_reducible refine Qd1 (N := 1) rfl ?_); refine Qg1 ?hg (N := 1) ?hd (cs := #[.slice A0_0 l0_0.length c0_0, .slice A0_1 l0_1.length c0_1]) (t := 25) ?hr ?_; (case hd => rfl); (case hg => rfl); (case hr => first | (go_simp; done) | (go_simp; rfl)); intro gb241 hg w5 hbox hb; have n0_ := Qa.mk (Qr (by with_reducible repeat (first | exact HB.out | apply Qj | apply Ql | apply Qk)) hb); have n1_ := Qa.mk (hbox); have n2_ := Qa.mk ((by rw [hg]; exact (Qc1 (by with_reducible repeat (first | exact HB.out | apply Qj | apply Ql | apply Qk))) : w.heap.size ≤ gb241)); have n3_ := n2_; clear HB; have HB := n0_; have BK241 := n1_; have GW241 := n2_; have GE241 := n3_; clear n0_ n1_ n2_ n3_; clear hb hbox hg; have hcz6_0 : w5.cell? ⟨gb241, 0, none⟩ = some (.slice A0_0 l0_0.length c0_0) := (Qb BK241.out 0).trans rfl; have hcz6_1 : w5.cell? ⟨gb241, 1, none⟩ = some (.slice A0_1 l0_1.length c0_1) := (Qb BK241.out 1).trans rfl; have hfz6_0 := Qf BK241.out 0; have hfz6_1 := Qf BK241.out 1) | ((with_reducible refine gate_callee (f := 20) rfl ?_); refine goesL_ (some 4) rfl rfl Try.func20 (by kernel_rfl) rfl #[.agg #[.slice A0_0 l0_0.length c0_0, .slice A0_1 l0_1.length c0_1]] rfl (by (try simp only [List.map_toArray, List.map_cons, List.map_nil]); first | done | rfl | (simp only [List.length_drop, List.length_take]; rfl)) ?_; (with_reducible refine (Qo1.calls k _ _ l0_0 _ _ l0_1 true _ ?side1 ?side2 ?side3 ?side4 A2.out).mono ?_); (case side1 => repeat (first | exact (Kd.Qw HR0_0.out HB.out) | (with_reducible refine Kd.Qf1 ?_ _) | (with_reducible refine Kd.Qe1 ?_ _) | (with_reducible refine Kd.C_drew ?_))); (case side2 => exact HC0_0.out); (case side3 => repeat (first | exact (Kd.Qw HR0_1.out HB.out) | (with_reducible refine Kd.Qf1 ?_ _) | (with_reducible refine Kd.Qe1 ?_ _) | (with_reducible refine Kd.C_drew ?_))); (case side4 => exact HC0_1.out); rintro e w7 ⟨rfl, hb⟩; refine ⟨_, rfl, ?_⟩; have n0_ := Qa.mk (Qo (g := gb241) (o := .cells #[.slice A0_0 l0_0.length c0_0, .slice A0_1 l0_1.length c0_1] 25 (0, 0)) (by (with_reducible repeat (first | refine Qe ?_ _ | refine Qc ?_ | refine Qd ?_ _)); exact BK241.out) hb); have n1_ := Qa.mk (Qr (by with_reducible repeat (first | exact HB.out | apply Qj | apply Ql | apply Qk | refine Qi ?_ GE241.out)) hb); clear BK241; clear HB; have BK241 := n0_; have HB := n1_; clear n0_ n1_; (try clear hb); (try clear hb2); (try clear hk); (try clear hi); have hcz8_0 : w7.cell? ⟨gb241, 0, none⟩ = some (.slice A0_0 l0_0.length c0_0) := (Qb BK241.out 0).trans rfl; have hcz8_1 : w7.cell? ⟨gb241, 1, none⟩ = some (.slice A0_1 l0_1.length c0_1) := (Qb BK241.out 1).trans rfl; have hfz8_0 := Qf BK241.out 0; have hfz8_1 := Qf BK241.out 1) | (go_at_call 21; (with_reducible refine (vetchref05_Valid.calls k _ _ l0_0 _ _ l0_1 t243 _ ?side1 ?side2 ?side3 ?side4 A4.out).mono ?_); (case side1 => repeat (first | exact (Kd.Qw HR0_0.out HB.out) | (with_reducible refine Kd.Qf1 ?_ _) | (with_reducible refine Kd.Qe1 ?_ _) | (with_reducible refine Kd.C_drew ?_))); (case side2 => exact HC0_0.out); (case side3 => repeat (first | exact (Kd.Qw HR0_1.out HB.out) | (with_reducible refine Kd.Qf1 ?_ _) | (with_reducible refine Kd.Qe1 ?_ _) | (with_reducible refine Kd.C_drew ?_))); (case side4 => exact HC0_1.out); rintro e w9 ⟨rfl, hb⟩; have n0_ := Qa.mk (Qo (g := gb241) (o := .cells #[.slice A0_0 l0_0.length c0_0, .slice A0_1 l0_1.length c0_1] 25 (0, 0)) (by (with_reducible repeat (first | refine Qe ?_ _ | refine Qc ?_ | refine Qd ?_ _)); exact BK241.out) hb); have n1_ := Qa.mk (Qr (by with_reducible repeat (first | exact HB.out | apply Qj | apply Ql | apply Qk | refine Qi ?_ GE241.out)) hb); clear BK241; clear HB; have BK241 := n0_; have HB := n1_; clear n0_ n1_; (try clear hb); (try clear hb2); (try clear hk); (try clear hi)))
  go_ret
  exact ⟨by first | rfl | (simp [Qt, Qs] <;> rfl) | (simp [*, Qt, Qs] <;> rfl), by with_reducible repeat (first | exact HB.out | apply Qj | apply Ql | apply Qk | refine Qi ?_ GE241.out)⟩
 replace c3 := Bool.eq_false_iff.mpr c3
 subst c3
 have H1 : (some false) = some r := by rw [if_neg (show ¬ (false = true) by decide)] at H; exact H
 clear H
 have H := H1
 clear H1
 obtain rfl := Option.some.inj H
 go_enter Try.func9, Try.ntmps9
 go_wp2_with (first | ((with_reducible refine Qd1 (N := 1) rfl ?_); refine Qg1 ?hg (N := 1) ?hd (cs := #[.slice A0_0 l0_0.length c0_0, .slice A0_1 l0_1.length c0_1]) (t := 25) ?hr ?_; (case hd => rfl); (case hg => rfl); (case hr => first | (go_simp; done) | (go_simp; rfl)); intro gb241 hg w10 hbox hb; have n0_ := Qa.mk (Qr (by with_reducible repeat (first | exact HB.out | apply Qj | apply Ql | apply Qk)) hb); have n1_ := Qa.mk (hbox); have n2_ := Qa.mk ((by rw [hg]; exact (Qc1 (by with_reducible repeat (first | exact HB.out | apply Qj | apply Ql | apply Qk))) : w.heap.size ≤ gb241)); have n3_ := n2_; clear HB; have HB := n0_; have BK241 := n1_; have GW241 := n2_; have GE241 := n3_; clear n0_ n1_ n2_ n3_; clear hb hbox hg; have hcz11_0 : w10.cell? ⟨gb241, 0, none⟩ = some (.slice A0_0 l0_0.length c0_0) := (Qb BK241.out 0).trans rfl; have hcz11_1 : w10.cell? ⟨gb241, 1, none⟩ = some (.slice A0_1 l0_1.length c0_1) := (Qb BK241.out 1).trans rfl; have hfz11_0 := Qf BK241.out 0; have hfz11_1 := Qf BK241.out 1) | ((with_reducible refine gate_callee (f := 20) rfl ?_); refine goesL_ (some 4) rfl rfl Try.func20 (by kernel_rfl) rfl #[.agg #[.slice A0_0 l0_0.length c0_0, .slice A0_1 l0_1.length c0_1]] rfl (by (try simp only [List.map_toArray, List.map_cons, List.map_nil]); first | done | rfl | (simp only [List.length_drop, List.length_take]; rfl)) ?_; (with_reducible refine (Qo1.calls k _ _ l0_0 _ _ l0_1 false _ ?side1 ?side2 ?side3 ?side4 A2.out).mono ?_); (case side1 => repeat (first | exact (Kd.Qw HR0_0.out HB.out) | (with_reducible refine Kd.Qf1 ?_ _) | (with_reducible refine Kd.Qe1 ?_ _) | (with_reducible refine Kd.C_drew ?_))); (case side2 => exact HC0_0.out); (case side3 => repeat (first | exact (Kd.Qw HR0_1.out HB.out) | (with_reducible refine Kd.Qf1 ?_ _) | (with_reducible refine Kd.Qe1 ?_ _) | (with_reducible refine Kd.C_drew ?_))); (case side4 => exact HC0_1.out); rintro e w12 ⟨rfl, hb⟩; refine ⟨_, rfl, ?_⟩; have n0_ := Qa.mk (Qo (g := gb241) (o := .cells #[.slice A0_0 l0_0.length c0_0, .slice A0_1 l0_1.length c0_1] 25 (0, 0)) (by (with_reducible repeat (first | refine Qe ?_ _ | refine Qc ?_ | refine Qd ?_ _)); exact BK241.out) hb); have n1_ := Qa.mk (Qr (by with_reducible repeat (first | exact HB.out | apply Qj | apply Ql | apply Qk | refine Qi ?_ GE241.out)) hb); clear BK241; clear HB; have BK241 := n0_; have HB := n1_; clear n0_ n1_; (try clear hb); (try clear hb2); (try clear hk); (try clear hi)))
 go_ret
 exact ⟨by first | rfl | (simp [Qt, Qs] <;> rfl) | (simp [*, Qt, Qs] <;> rfl), by with_reducible repeat (first | exact HB.out | apply Qj | apply Ql | apply Qk | refine Qi ?_ GE241.out)⟩
def Qq1.l0 : Nat → List (S35) → List (S35) → Int → Option (Bool)
 | 0, _, _, _ => none
 | k + 1, x0, x1, x5 => if x5 < (x0.length : Int) then (if 0 ≤ x5 then (if x5 < (x1.length : Int) then (if (!(((rd_T35 x0 x5).f0) == ((rd_T35 x1 x5).f0)) || (!(((rd_T35 x0 x5).f1) == ((rd_T35 x1 x5).f1)) || (!(((rd_T35 x0 x5).f2) == ((rd_T35 x1 x5).f2))))) = true then (some false) else (Qq1.l0 k x0 x1 (wrap64 (x5 + 1)))) else (none)) else (none)) else (some true)
def Qq1.f (k : Nat) (l0 : List (S35)) (l1 : List (S35)) : Option (Bool) := if (l0.length : Int) = (l1.length : Int) then (Qq1.l0 k l0 l1 0) else (some false)
set_option maxHeartbeats 8000000 in
set_option maxRecDepth 100000 in
theorem Qq1.calls (k : Nat) (A0 : Option Addr) (c0 : Nat) (l0 : List (S35)) (A1 : Option Addr) (c1 : Nat) (l1 : List (S35)) (r : Bool) (w : World) (hr0 : Kd.C k35 w A0 l0.length l0) (hc0 : l0.length ≤ c0) (hr1 : Kd.C k35 w A1 l1.length l1) (hc1 : l1.length ≤ c1) (h : Qq1.f k l0 l1 = some r) :
 Calls Try.prog 11 #[.slice A0 l0.length c0, .slice A1 l1.length c1] w fun e w' => e = .returned (.bool r) ∧ Drawn0 w w' := by
 have hu35 := Try.underlying35
 have HR0 := Qa.mk hr0
 have HC0 := Qa.mk hc0
 clear hr0 hc0
 have HR1 := Qa.mk hr1
 have HC1 := Qa.mk hc1
 clear hr1 hc1
 have H : (if (l0.length : Int) = (l1.length : Int) then (Qq1.l0 k l0 l1 0) else (some false)) = some r := h
 clear h
 by_cases c3 : (l0.length : Int) = (l1.length : Int)
 rotate_left
 ·
  rw [if_neg c3] at H
  have c3b0 : ((l0.length : Int) == (l1.length : Int)) = false := beq_eq_false_iff_ne.mpr c3
  have c3b1 : ((l0.length : Int) != (l1.length : Int)) = true := bne_iff_ne.mpr c3
  have c3b2 : (l0.length == l1.length) = false := by first | simpa using c3 | (simp at c3 ⊢; omega)
  obtain rfl := Option.some.inj H
  go_enter Try.func11, Try.ntmps11
  go_wp2
  repeat (go_quiet (fail); try go_wp2)
  go_ret
  exact ⟨by first | rfl | (simp; done) | (simp [*]; done) | (refine congrArg (fun b_ => Ending.returned (Value.bool b_)) ?_; rw [Bool.eq_iff_iff]; simp; done), by repeat (first | exact Drawn0.refl _ | apply Drawn0.step)⟩
 rw [if_pos c3] at H
 have c3b0 : ((l0.length : Int) == (l1.length : Int)) = true := beq_iff_eq.mpr c3
 have c3b1 : ((l0.length : Int) != (l1.length : Int)) = false := bne_eq_false_iff_eq.mpr c3
 have c3b2 : (l0.length == l1.length) = true := by first | simpa using c3 | (simp at c3 ⊢; omega)
 clear c3
 have H' := Qa.mk H
 clear H
 go_enter Try.func11, Try.ntmps11
 go_wp2
 repeat (go_quiet (fail); try go_wp2)
 go_loopg [5] k (fun kq v5 w' => ∃ (x5_1 : Int), v5 = .int .i64 x5_1 ∧ Qa (Qq1.l0 kq l0 l1 x5_1 = some r) ∧ Qa (kq ≤ k) ∧ Drawn0 w w')
 case atStart => exact ⟨(0), (by first | rfl | (simp; done) | (simp [*]; done)), H', ⟨Nat.le_refl _⟩, by repeat (first | exact Drawn0.refl _ | apply Drawn0.step)⟩
 case round =>
  clear H'
  (try clear c1; try clear p2; try clear c3; try clear c3b0; try clear c3b1; try clear c3b2)
  obtain ⟨x5_1, rfl, HA, HK1, ⟨m1, rfl⟩⟩ := hrel
  cases gk with
  | zero => exact absurd HA.out (by simp [Qq1.l0])
  | succ k1 =>
   have H := HA.out
   clear HA
   simp only [Qq1.l0] at H
   by_cases c4 : x5_1 < (l0.length : Int)
   rotate_left
   ·
    rw [if_neg c4] at H
    have c4b0 : decide (x5_1 < (l0.length : Int)) = false := decide_eq_false c4
    clear c4
    obtain rfl := Option.some.inj H
    go_wp2
    repeat (go_quiet (fail); try go_wp2)
    go_ret
    exact ⟨by first | rfl | (simp; done) | (simp [*]; done) | (refine congrArg (fun b_ => Ending.returned (Value.bool b_)) ?_; rw [Bool.eq_iff_iff]; simp; done), by repeat (first | exact Drawn0.refl _ | apply Drawn0.step)⟩
   rw [if_pos c4] at H
   have c4b0 : decide (x5_1 < (l0.length : Int)) = true := decide_eq_true c4
   clear c4
   by_cases c5 : 0 ≤ x5_1
   rotate_left
   ·
    rw [if_neg c5] at H
    exact absurd H (by simp)
   rw [if_pos c5] at H
   have c5b0 : decide (0 ≤ x5_1) = true := decide_eq_true c5
   clear c5
   by_cases c6 : x5_1 < (l1.length : Int)
   rotate_left
   ·
    rw [if_neg c6] at H
    exact absurd H (by simp)
   rw [if_pos c6] at H
   have c6b0 : decide (x5_1 < (l1.length : Int)) = true := decide_eq_true c6
   clear c6
   by_cases c7 : (!(((rd_T35 l0 x5_1).f0) == ((rd_T35 l1 x5_1).f0)) || (!(((rd_T35 l0 x5_1).f1) == ((rd_T35 l1 x5_1).f1)) || (!(((rd_T35 l0 x5_1).f2) == ((rd_T35 l1 x5_1).f2))))) = true
   ·
    rw [if_pos c7] at H
    have c7b0 : (!(((rd_T35 l0 x5_1).f0) == ((rd_T35 l1 x5_1).f0)) || (!(((rd_T35 l0 x5_1).f1) == ((rd_T35 l1 x5_1).f1)) || (!(((rd_T35 l0 x5_1).f2) == ((rd_T35 l1 x5_1).f2))))) = true := c7
    clear c7
    obtain rfl := Option.some.inj H
    have p244 : 0 ≤ (x5_1 : Int) := of_decide_eq_true (by assumption)
    have q244 : x5_1 < (l0.length : Int) := of_decide_eq_true (by assumption)
    obtain ⟨ad244, e244, hx244_0, hx244_1, hx244_2⟩ := at_T35 HR0.out x5_1 p244 q244
    cases e244
    replace p244 := eq_true p244
    replace q244 := eq_true q244
    have p245 : 0 ≤ (x5_1 : Int) := of_decide_eq_true (by assumption)
    have q245 : x5_1 < (l1.length : Int) := of_decide_eq_true (by assumption)
    obtain ⟨ad245, e245, hx245_0, hx245_1, hx245_2⟩ := at_T35 HR1.out x5_1 p245 q245
    cases e245
    replace p245 := eq_true p245
    replace q245 := eq_true q245
    go_wp2
    repeat (go_quiet (fail); try go_wp2)
    go_ret
    exact ⟨by first | rfl | (simp; done) | (simp [*]; done) | (refine congrArg (fun b_ => Ending.returned (Value.bool b_)) ?_; rw [Bool.eq_iff_iff]; simp; done), by repeat (first | exact Drawn0.refl _ | apply Drawn0.step)⟩
   rw [if_neg c7] at H
   have c7b0 : (!(((rd_T35 l0 x5_1).f0) == ((rd_T35 l1 x5_1).f0)) || (!(((rd_T35 l0 x5_1).f1) == ((rd_T35 l1 x5_1).f1)) || (!(((rd_T35 l0 x5_1).f2) == ((rd_T35 l1 x5_1).f2))))) = false := by simpa using c7
   clear c7
   have H' := Qa.mk H
   clear H
   have p244 : 0 ≤ (x5_1 : Int) := of_decide_eq_true (by assumption)
   have q244 : x5_1 < (l0.length : Int) := of_decide_eq_true (by assumption)
   obtain ⟨ad244, e244, hx244_0, hx244_1, hx244_2⟩ := at_T35 HR0.out x5_1 p244 q244
   cases e244
   replace p244 := eq_true p244
   replace q244 := eq_true q244
   have p245 : 0 ≤ (x5_1 : Int) := of_decide_eq_true (by assumption)
   have q245 : x5_1 < (l1.length : Int) := of_decide_eq_true (by assumption)
   obtain ⟨ad245, e245, hx245_0, hx245_1, hx245_2⟩ := at_T35 HR1.out x5_1 p245 q245
   cases e245
   replace p245 := eq_true p245
   replace q245 := eq_true q245
   go_wp2
   repeat (go_quiet (fail); try go_wp2)
   go_roundg k1
   case measure => have := HK1.out; omega
   case rel => exact ⟨(wrap64 (x5_1 + 1)), (by first | rfl | (simp; done) | (simp [*]; done)), H', ⟨by have := HK1.out; omega⟩, by repeat (first | exact Drawn0.refl _ | apply Drawn0.step)⟩
def vetchref11_ok.f (a0_0 : Bool) (a0_1 : Bool) (a0_2 : Bool) : Option (Bool) := if a0_0 = true then (some true) else (some a0_1)
set_option maxHeartbeats 8000000 in
set_option maxRecDepth 100000 in
theorem vetchref11_ok.calls (a0_0 : Bool) (a0_1 : Bool) (a0_2 : Bool) (r : Bool) (w : World) (h : vetchref11_ok.f a0_0 a0_1 a0_2 = some r) :
 Calls Try.prog 34 #[.agg #[.bool a0_0, .bool a0_1, .bool a0_2]] w fun e w' => e = .returned (.bool r) ∧ Below w.heap.size w w' := by
 have hu35 := Try.underlying35
 have HB := Qa.mk (Below.refl w.heap.size w)
 have H : (if a0_0 = true then (some true) else (some a0_1)) = some r := h
 clear h
 by_cases c2 : a0_0 = true
 ·
  subst c2
  have H1 : (some true) = some r := by rw [if_pos rfl] at H; exact H
  clear H
  have H := H1
  clear H1
  obtain rfl := Option.some.inj H
  go_enter Try.func34, Try.ntmps34
  go_wp2_with (first | ((with_reducible refine Qd1 (N := 1) rfl ?_); refine Qg1 ?hg (N := 1) ?hd (cs := #[.bool true, .bool a0_1, .bool a0_2]) (t := 35) ?hr ?_; (case hd => rfl); (case hg => rfl); (case hr => first | (go_simp; done) | (go_simp; rfl)); intro gb246 hg w3 hbox hb; have n0_ := Qa.mk (Qr (by with_reducible repeat (first | exact HB.out | apply Qj | apply Ql | apply Qk)) hb); have n1_ := Qa.mk (hbox); have n2_ := Qa.mk ((by rw [hg]; exact (Qc1 (by with_reducible repeat (first | exact HB.out | apply Qj | apply Ql | apply Qk))) : w.heap.size ≤ gb246)); have n3_ := n2_; clear HB; have HB := n0_; have BK246 := n1_; have GW246 := n2_; have GE246 := n3_; clear n0_ n1_ n2_ n3_; clear hb hbox hg; have hcz4_0 : w3.cell? ⟨gb246, 0, none⟩ = some (.bool true) := (Qb BK246.out 0).trans rfl; have hcz4_1 : w3.cell? ⟨gb246, 1, none⟩ = some (.bool a0_1) := (Qb BK246.out 1).trans rfl; have hcz4_2 : w3.cell? ⟨gb246, 2, none⟩ = some (.bool a0_2) := (Qb BK246.out 2).trans rfl; have hfz4_0 := Qf BK246.out 0; have hfz4_1 := Qf BK246.out 1; have hfz4_2 := Qf BK246.out 2))
  go_ret
  exact ⟨by first | rfl | (simp [Qt, Qs] <;> rfl) | (simp [*, Qt, Qs] <;> rfl), by with_reducible repeat (first | exact HB.out | apply Qj | apply Ql | apply Qk | refine Qi ?_ GE246.out)⟩
 replace c2 := Bool.eq_false_iff.mpr c2
 subst c2
 have H1 : (some a0_1) = some r := by rw [if_neg (show ¬ (false = true) by decide)] at H; exact H
 clear H
 have H := H1
 clear H1
 obtain rfl := Option.some.inj H
 go_enter Try.func34, Try.ntmps34
 go_wp2_with (first | ((with_reducible refine Qd1 (N := 1) rfl ?_); refine Qg1 ?hg (N := 1) ?hd (cs := #[.bool false, .bool a0_1, .bool a0_2]) (t := 35) ?hr ?_; (case hd => rfl); (case hg => rfl); (case hr => first | (go_simp; done) | (go_simp; rfl)); intro gb246 hg w5 hbox hb; have n0_ := Qa.mk (Qr (by with_reducible repeat (first | exact HB.out | apply Qj | apply Ql | apply Qk)) hb); have n1_ := Qa.mk (hbox); have n2_ := Qa.mk ((by rw [hg]; exact (Qc1 (by with_reducible repeat (first | exact HB.out | apply Qj | apply Ql | apply Qk))) : w.heap.size ≤ gb246)); have n3_ := n2_; clear HB; have HB := n0_; have BK246 := n1_; have GW246 := n2_; have GE246 := n3_; clear n0_ n1_ n2_ n3_; clear hb hbox hg; have hcz6_0 : w5.cell? ⟨gb246, 0, none⟩ = some (.bool false) := (Qb BK246.out 0).trans rfl; have hcz6_1 : w5.cell? ⟨gb246, 1, none⟩ = some (.bool a0_1) := (Qb BK246.out 1).trans rfl; have hcz6_2 : w5.cell? ⟨gb246, 2, none⟩ = some (.bool a0_2) := (Qb BK246.out 2).trans rfl; have hfz6_0 := Qf BK246.out 0; have hfz6_1 := Qf BK246.out 1; have hfz6_2 := Qf BK246.out 2))
 go_ret
 exact ⟨by first | rfl | (simp [Qt, Qs] <;> rfl) | (simp [*, Qt, Qs] <;> rfl), by with_reducible repeat (first | exact HB.out | apply Qj | apply Ql | apply Qk | refine Qi ?_ GE246.out)⟩
end Go.Proofs.Ytnaanamibfpbpaa.V
namespace Go.Proofs.Ytnaanamibfpbpaa.V
open Go.RowKit Go.Proofs.YtnaanamibfpbpaaW.PrintWords
set_option linter.unusedVariables false
def Ev {α : Type} (f : Nat → Option α) (v : α) : Prop := ∃ k, ∀ j, k ≤ j → f j = some v
section
variable {α β : Type}
theorem Ev.const (v : α) : Ev (fun _ => some v) v := ⟨0, fun _ _ => rfl⟩
theorem Ev.congr {f g : Nat → Option α} {v : α} (h : ∀ k, f k = g k) (hg : Ev g v) : Ev f v := by
  obtain ⟨k, hk⟩ := hg
  exact ⟨k, fun j hj => (h j).trans (hk j hj)⟩
theorem Ev.of_eq {f : Nat → Option α} {v : α} (h : ∀ k, f k = some v) : Ev f v := ⟨0, fun j _ => h j⟩
theorem Ev.succ {f g : Nat → Option α} {v : α} (h : ∀ k, f (k + 1) = g k) (hg : Ev g v) : Ev f v := by
  obtain ⟨k, hk⟩ := hg
  refine ⟨k + 1, fun j hj => ?_⟩
  cases j with
  | zero => omega
  | succ j => exact (h j).trans (hk j (by omega))
theorem Ev.bind {f : Nat → Option α} {g : Nat → α → Option β} {v : α} {u : β} (hf : Ev f v) (hg : Ev (fun k => g k v) u) : Ev (fun k => (f k).bind (g k)) u := by
  obtain ⟨k, hk⟩ := hf
  obtain ⟨m, hm⟩ := hg
  refine ⟨k + m, fun j hj => ?_⟩
  simp only [hk j (by omega), Option.bind_some]
  exact hm j (by omega)
theorem Ev.map {f : Nat → Option α} {g : α → Option β} {v : α} {u : β} (hf : Ev f v) (hg : g v = some u) : Ev (fun k => (f k).bind g) u := Ev.bind (g := fun _ => g) hf (Ev.of_eq fun _ => hg)
theorem Ev.out {f : Nat → Option α} {v : α} (h : Ev f v) : ∃ k, f k = some v := ⟨h.choose, h.choose_spec _ (Nat.le_refl _)⟩
theorem Ev.of_mono {f : Nat → Option α} {v : α} {k : Nat} (hm : ∀ k, LeO (f k) (f (k + 1))) (h : f k = some v) : Ev f v := by
  refine ⟨k, fun j hj => ?_⟩
  induction j with
  | zero => obtain rfl : k = 0 := by omega
            exact h
  | succ j ih =>
    rcases Nat.lt_or_ge j k with hlt | hge
    · obtain rfl : k = j + 1 := by omega
      exact h
    · exact hm j v (ih hge)
end
theorem w64p (n : Int) (h : -9223372036854775808 ≤ n ∧ n ≤ 9223372036854775807) : wrap64 n = n := by unfold wrap64; omega
end Go.Proofs.Ytnaanamibfpbpaa.V
namespace Go.Proofs.Ytnaanamibfpbpaa.Opens
open Go.RowKit Go.Proofs.YtnaanamibfpbpaaW.PrintWords
set_option linter.unusedVariables false
def Opn {α : Type} (P : Program) (W : World) (d : Kd α) (t : TypeId) (ok : α → Prop) : Prop :=
  ∀ (H : Type) (enc : TypeId × Value → H) (fuel : Nat) (cs : List Value) (x : DataW H × List MemPlace), DataW.trod enc P W 0 (fun _ => true) true fuel t cs = some x → ∃ a, d.K W a cs ∧ ok a
section
variable {P : Program} {W : World} {t : TypeId}
theorem Opn.int {k : IntKind} (ht : P.underlying t = some (.int k)) : Opn P W (Kd.int k) t (fun n => (Lit.int k n).wf = true) := fun H enc fuel cs x h => by
  obtain ⟨n, rfl, _, hw⟩ := DataW.trod_int ht h
  exact ⟨n, rfl, hw⟩
theorem Opn.bool (ht : P.underlying t = some .bool) : Opn P W Kd.bool t (fun _ => True) := fun H enc fuel cs x h => by
  obtain ⟨n, rfl, _⟩ := DataW.trod_bool ht h
  exact ⟨n, rfl, trivial⟩
theorem Opn.string (ht : P.underlying t = some .string) : Opn P W Kd.string t (fun s => s.size ≤ maxLen) := fun H enc fuel cs x h => by
  obtain ⟨n, rfl, _, hw⟩ := DataW.trod_string ht h
  exact ⟨n, rfl, hw⟩
theorem Opn.iso {α β : Type} {d : Kd α} {ok : α → Prop} (f : β → α) (g : α → β) (hfg : ∀ a, f (g a) = a) (h : Opn P W d t ok) : Opn P W (Kd.iso d f) t (fun b => ok (f b)) := fun H enc fuel cs x hx => by
  obtain ⟨a, hk, ho⟩ := h H enc fuel cs x hx
  exact ⟨g a, show d.K W (f (g a)) cs by rw [hfg]; exact hk, show ok (f (g a)) by rw [hfg]; exact ho⟩
theorem Opn.imp {α : Type} {d : Kd α} {ok ok' : α → Prop} (h : Opn P W d t ok) (hi : ∀ a, ok a → ok' a) : Opn P W d t ok' := fun H enc fuel cs x hx => by
  obtain ⟨a, hk, ho⟩ := h H enc fuel cs x hx
  exact ⟨a, hk, hi a ho⟩
theorem lists_of {α : Type} (n : Nat) (R : Nat → α → Prop) (h : ∀ i, i < n → ∃ a, R i a) : ∃ l : List α, l.length = n ∧ ∀ i a, l[i]? = some a → R i a := by
  induction n with
  | zero => exact ⟨[], rfl, fun i a h => by simp at h⟩
  | succ n ih =>
    obtain ⟨l, hl, hr⟩ := ih (fun i hi => h i (by omega))
    obtain ⟨a, ha⟩ := h n (by omega)
    refine ⟨l ++ [a], by simp [hl], fun i b hb => ?_⟩
    by_cases hi : i < n
    · exact hr i b (by rwa [List.getElem?_append_left (by omega)] at hb)
    · have : i = n := by
        have := (List.getElem?_eq_some_iff.1 hb).1
        simp at this
        omega
      subst this
      rw [List.getElem?_append_right (by omega)] at hb
      simp [hl] at hb
      exact hb ▸ ha
theorem Opn.slice {α : Type} {e : TypeId} {d : Kd α} {ok : α → Prop} (e' : Nat) (ht : P.underlying t = some (.slice e)) (hc : P.cellsOf e = d.sz) (h : Opn P W d e ok) :
    Opn P W (Kd.slice e' d) t (fun l => l.length ≤ maxLen ∧ ∀ x ∈ l, ok x) := fun H enc fuel cs x hx => by
  rcases DataW.trod_slice ht hx with ⟨rfl, _⟩ | ⟨a, len, cap, elems, rest, n, _, rfl, _, _, hl, hm, hlen, hel, _, _⟩
  · exact ⟨[], ⟨none, 0, rfl, Nat.le_refl _, rfl, Nat.zero_le _, fun h => absurd h (by simp)⟩, Nat.zero_le _, fun x h => by simp at h⟩
  · have hm' : len ≤ maxLen := Nat.le_trans hl hm
    obtain ⟨l, hll, hlr⟩ := lists_of len (fun i b => ∃ cs', W.cells? 0 (a.add (i * P.cellsOf e)) (P.cellsOf e) = some cs' ∧ d.K W b cs' ∧ ok b) (fun i hi => by
      have h1 := hel i hi
      have h2 : i < elems.length := by omega
      rw [List.getElem?_eq_getElem h2, Option.bind_eq_some_iff] at h1
      obtain ⟨cs', h3, h4⟩ := h1
      obtain ⟨b, h5, h6⟩ := h H enc n cs' _ h4
      exact ⟨b, cs', h3, h5, h6⟩)
    subst hll
    refine ⟨l, ⟨some a, cap, rfl, hl, rfl, hm', fun _ => ⟨a, rfl, fun j p hp => ?_⟩⟩, hm', fun y hy => ?_⟩
    · obtain ⟨cs', h1, h2, _⟩ := hlr j p hp
      obtain ⟨_, hlen', hget⟩ := World.cells?_some h1
      rw [hc] at hlen' hget
      exact ⟨cs', hlen', h2, fun i u hu => by
        have := hget i (by have := (List.getElem?_eq_some_iff.1 hu).1; omega)
        rw [← hu, ← this]
        congr 1
        exact (Addr.add_add _ _ _).symm⟩
    · obtain ⟨i, hi⟩ := List.getElem?_of_mem hy
      exact (hlr i y hi).choose_spec.2.2
def Pieces {H : Type} (enc : TypeId × Value → H) (P : Program) (W : World) (n : Nat) : List TypeId → List Value → Prop
  | [], cs => cs = []
  | t :: ts, cs => ∃ c1 c2 x, cs = c1 ++ c2 ∧ DataW.trod enc P W 0 (fun _ => true) true n t c1 = some x ∧ Pieces enc P W n ts c2
def OpnS {α : Type} (P : Program) (W : World) (d : Kd α) (ts : List TypeId) (ok : α → Prop) : Prop :=
  ∀ (H : Type) (enc : TypeId × Value → H) (n : Nat) (cs : List Value), Pieces enc P W n ts cs → ∃ a, d.K W a cs ∧ ok a
theorem OpnS.one {α : Type} {d : Kd α} {ok : α → Prop} (h : Opn P W d t ok) : OpnS P W d [t] ok := fun H enc n cs hp => by
  obtain ⟨c1, c2, x, rfl, hx, rfl⟩ := hp
  rw [List.append_nil]
  exact h H enc n c1 x hx
theorem OpnS.cons {α β : Type} {d : Kd α} {e : Kd β} {ok : α → Prop} {ok' : β → Prop} {ts : List TypeId} (h : Opn P W d t ok) (hs : OpnS P W e ts ok') : OpnS P W (Kd.pair d e) (t :: ts) (fun x => ok x.1 ∧ ok' x.2) := fun H enc n cs hp => by
  obtain ⟨c1, c2, x, rfl, hx, hp⟩ := hp
  obtain ⟨a, ha, hoa⟩ := h H enc n c1 x hx
  obtain ⟨b, hb, hob⟩ := hs H enc n c2 hp
  exact ⟨(a, b), ⟨c1, c2, rfl, ha, hb⟩, hoa, hob⟩
def offsB (P : Program) (total : Nat) : Nat → List Field → Bool
  | o, [] => o == total
  | o, f :: r => f.offset == o && offsB P total (o + P.cellsOf f.type) r
theorem pieces_of {H : Type} {enc : TypeId × Value → H} {n total : Nat} {cs : List Value} (hl : cs.length = total) :
    ∀ (fs : List Field) (o : Nat), offsB P total o fs = true → (∀ f ∈ fs, ∃ x, DataW.trod enc P W 0 (fun _ => true) true n f.type ((cs.drop f.offset).take (P.cellsOf f.type)) = some x) → Pieces enc P W n (fs.map (·.type)) (cs.drop o)
  | [], o, ho, _ => by
    simp [offsB] at ho
    simp [Pieces, ho, hl]
  | f :: r, o, ho, hf => by
    simp [offsB] at ho
    obtain ⟨x, hx⟩ := hf f (by simp)
    refine ⟨(cs.drop o).take (P.cellsOf f.type), cs.drop (o + P.cellsOf f.type), x, ?_, by rw [← ho.1]; exact hx, pieces_of hl r _ ho.2 (fun g hg => hf g (List.mem_cons_of_mem _ hg))⟩
    rw [← List.drop_drop, List.take_append_drop]
theorem Opn.struct {α : Type} {d : Kd α} {ok : α → Prop} {fs : Array Field} {ts : List TypeId} (ht : P.underlying t = some (.struct fs)) (hts : fs.toList.map (·.type) = ts) (ho : offsB P (P.cellsOf t) 0 fs.toList = true) (h : OpnS P W d ts ok) : Opn P W d t ok := fun H enc fuel cs x hx => by
  obtain ⟨xs, n, _, _, hl, hxs, hf⟩ := DataW.trod_struct ht hx
  refine h H enc n cs (hts ▸ ?_)
  have := pieces_of (enc := enc) (W := W) (n := n) hl fs.toList 0 ho (fun f hm => by
    obtain ⟨i, hi⟩ := List.getElem?_of_mem hm
    have hi' : fs[i]? = some f := by simpa using hi
    have h1 := hf i f hi'
    have h2 : i < xs.length := by rw [hxs]; exact (Array.getElem?_eq_some_iff.1 hi').1
    exact ⟨xs[i], by rw [h1]; simp⟩)
  simpa using this
theorem pieces_same {H : Type} {enc : TypeId × Value → H} {n k s : Nat} {e : TypeId} {cs : List Value} (hs : P.cellsOf e = s) (hl : cs.length = k * s) :
    ∀ (m i : Nat), i + m = k → (∀ j, j < k → ∃ x, DataW.trod enc P W 0 (fun _ => true) true n e ((cs.drop (j * s)).take s) = some x) → Pieces enc P W n (List.replicate m e) (cs.drop (i * s))
  | 0, i, hi, _ => by
    have : i = k := by omega
    subst this
    simp [Pieces, hl]
  | m + 1, i, hi, hf => by
    obtain ⟨x, hx⟩ := hf i (by omega)
    refine ⟨(cs.drop (i * s)).take s, cs.drop ((i + 1) * s), x, ?_, hx, pieces_same hs hl m (i + 1) (by omega) hf⟩
    rw [Nat.succ_mul, ← List.drop_drop, List.take_append_drop]
theorem Opn.array {α : Type} {d : Kd α} {ok : α → Prop} {n : Nat} {e : TypeId} (ht : P.underlying t = some (.array n e)) (hc : P.cellsOf t = n * P.cellsOf e) (h : OpnS P W d (List.replicate n e) ok) : Opn P W d t ok := fun H enc fuel cs x hx => by
  obtain ⟨xs, m, _, _, hl, hxs, hf⟩ := DataW.trod_array ht hx
  refine h H enc m cs ?_
  have := pieces_same (enc := enc) (W := W) (n := m) (k := n) (e := e) rfl (hl.trans hc) n 0 (by omega) (fun j hj => by
    have h2 : j < xs.length := by omega
    exact ⟨xs[j], by rw [hf j hj]; simp⟩)
  simpa using this
theorem Opn.arg {α : Type} {d : Kd α} {ok : α → Prop} {H : Type} {enc : TypeId × Value → H} {v : Value} {x : DataW H} {ps : List MemPlace} (h : Opn P W d t ok) (hd : DataW.Trod enc P W 0 (fun _ => true) true t v x ps) : ∃ a, d.K W a v.cells.toList ∧ ok a := by
  obtain ⟨fuel, hf⟩ := hd
  exact h H enc fuel _ _ hf
theorem trod_lts {H : Type} {enc : TypeId × Value → H} {v : Value} {x : DataW H} {ps : List MemPlace} (hd : DataW.Trod enc P W 0 (fun _ => true) true t v x ps) : ∀ q ∈ ps, q.block < W.heap.size := by
  obtain ⟨m, hm⟩ := hd
  exact DataW.trod_lt m _ _ _ hm
end
end Go.Proofs.Ytnaanamibfpbpaa.Opens
namespace Go.Proofs.Ytnaanamibfpbpaa.V
open Go.RowKit Go.Proofs.Ytnaanamibfpbpaa.Opens Go.Proofs.YtnaanamibfpbpaaW.PrintWords
set_option linter.unusedVariables false
def Ok50 (x : S50) : Prop := (Lit.int .u64 x.f0).wf = true ∧ (Lit.int .u64 x.f1).wf = true ∧ (Lit.int .u64 x.f2).wf = true ∧ (Lit.int .u64 x.f3).wf = true
theorem opn50 (W : World) : Opn Try.prog W k50 50 Ok50 := (Opn.iso (fun x : S50 => (x.f0, x.f1, x.f2, x.f3)) (fun a => ⟨a.1, a.2.1, a.2.2.1, a.2.2.2⟩) (fun _ => rfl) (Opn.array Try.underlying50 (by kernel_rfl) (OpnS.cons (Opn.int Try.underlying48) (OpnS.cons (Opn.int Try.underlying48) (OpnS.cons (Opn.int Try.underlying48) (OpnS.one (Opn.int Try.underlying48))))))).imp (fun _ h => h)
def Ok53 (x : S53) : Prop := (Lit.int .i64 x.f0).wf = true ∧ (x.f1.length ≤ maxLen ∧ ∀ y ∈ x.f1, (Lit.int .i64 y).wf = true) ∧ (Lit.int .i64 x.f2).wf = true ∧ Ok50 x.f3
theorem opn53 (W : World) : Opn Try.prog W k53 53 Ok53 := (Opn.iso (fun x : S53 => (x.f0, x.f1, x.f2, x.f3)) (fun a => ⟨a.1, a.2.1, a.2.2.1, a.2.2.2⟩) (fun _ => rfl) (Opn.struct Try.underlying53 rfl (by kernel_rfl) (OpnS.cons (Opn.int Try.underlying3) (OpnS.cons (Opn.slice 3 Try.underlying51 (by kernel_rfl) (Opn.int Try.underlying3)) (OpnS.cons (Opn.int Try.underlying3) (OpnS.one (opn50 W))))))).imp (fun _ h => h)
def Ok39 (x : S39) : Prop := x.f0.size ≤ maxLen ∧ (Lit.int .i64 x.f1).wf = true
theorem opn39 (W : World) : Opn Try.prog W k39 39 Ok39 := (Opn.iso (fun x : S39 => (x.f0, x.f1)) (fun a => ⟨a.1, a.2⟩) (fun _ => rfl) (Opn.struct Try.underlying39 rfl (by kernel_rfl) (OpnS.cons (Opn.string Try.underlying9) (OpnS.one (Opn.int Try.underlying3))))).imp (fun _ h => h)
theorem opn25 (W : World) : Opn Try.prog W (Kd.pair (Kd.slice 39 k39) (Kd.slice 53 k53)) 25 (fun x => ((x.1.length ≤ maxLen ∧ ∀ y ∈ x.1, Ok39 y) ∧ (x.2.length ≤ maxLen ∧ ∀ y ∈ x.2, Ok53 y))) := (Opn.struct Try.underlying25 rfl (by kernel_rfl) (OpnS.cons (Opn.slice 39 Try.underlying22 (by kernel_rfl) (opn39 W)) (OpnS.one (Opn.slice 53 Try.underlying23 (by kernel_rfl) (opn53 W))))).imp (fun _ h => h)
end Go.Proofs.Ytnaanamibfpbpaa.V
namespace Go.Proofs.Ytnaanamibfpbpaa.V
open Go.RowKit Go.Proofs.YtnaanamibfpbpaaW.PrintWords
set_option linter.unusedVariables false
set_option linter.unusedSimpArgs false
abbrev RuleT := S39
abbrev NodeT := S53
abbrev nodeAt (G : List NodeT) (i : Int) : NodeT := Qh G i
abbrev ruleAt (R : List RuleT) (i : Int) : RuleT := Qp R i
def Made (n : Int) (x : NodeT) : Prop :=
  0 ≤ x.f0 ∧ x.f0 ≤ 9 ∧ (x.f0 ≤ 2 → x.f1 = []) ∧ (x.f0 = 3 → 2 ≤ x.f1.length) ∧ (x.f0 = 4 → 2 ≤ x.f1.length) ∧ (5 ≤ x.f0 → x.f1.length = 1) ∧ (x.f0 = 2 → 0 ≤ x.f2 ∧ x.f2 < n) ∧ (x.f0 ≠ 2 → x.f2 = 0) ∧ (x.f0 ≠ 1 → x.f3.f0 = 0 ∧ x.f3.f1 = 0 ∧ x.f3.f2 = 0 ∧ x.f3.f3 = 0)
def KidsOk (G : List NodeT) (i : Int) : Prop := ∀ c ∈ (nodeAt G i).f1, 0 ≤ c ∧ c < i
structure WF (R : List RuleT) (G : List NodeT) : Prop where
  rules : 0 < R.length ∧ R.length ≤ 1000
  nodes : 0 < G.length ∧ G.length ≤ 10000
  made : ∀ i : Int, 0 ≤ i → i < (G.length : Int) → Made R.length (nodeAt G i)
  kids : ∀ i : Int, 0 ≤ i → i < (G.length : Int) → KidsOk G i
  roots : ∀ r : Int, 0 ≤ r → r < (R.length : Int) → 0 ≤ (ruleAt R r).f1 ∧ (ruleAt R r).f1 < (G.length : Int)
theorem letter_ev (c : Int) (b : Bool) : ∃ v, ∀ k : Nat, vetchref04_Letter.f c b = some v := by
  unfold vetchref04_Letter.f
  repeat' split
  all_goals exact ⟨_, fun _ => rfl⟩
theorem name_l0 (x : ByteArray) (hx : x.size ≤ maxLen) : ∀ (n : Nat) (i : Int), 0 ≤ i → i.toNat + n = x.size → ∃ v, Ev (fun k => Qu1.l0 k x i) v := by
  intro n
  induction n with
  | zero =>
    intro i h0 hn
    exact ⟨_, Ev.succ (g := fun _ => some _) (fun k => by rw [Qu1.l0, if_neg (by omega)]) (Ev.const _)⟩
  | succ n ih =>
    intro i h0 hn
    have hm : x.size ≤ 9223372036854775807 := hx
    obtain ⟨b, hb⟩ := letter_ev (bt x i) (i == 0)
    cases b with
    | true =>
      obtain ⟨v, hv⟩ := ih (wrap64 (i + 1)) (by rw [w64p _ (by omega)]; omega) (by rw [w64p _ (by omega)]; omega)
      exact ⟨v, Ev.succ (fun k => by rw [Qu1.l0, if_pos (by omega), if_pos h0, hb k, Option.bind_some, if_pos rfl]) hv⟩
    | false => exact ⟨false, Ev.succ (g := fun _ => some false) (fun k => by rw [Qu1.l0, if_pos (by omega), if_pos h0, hb k, Option.bind_some, if_neg (by decide)]) (Ev.const _)⟩
theorem name_ev (x : ByteArray) (hx : x.size ≤ maxLen) : ∃ v, Ev (fun k => Qu1.f k x) v := by
  obtain ⟨v, hv⟩ := name_l0 x hx x.size 0 (by omega) (by simp)
  exact ⟨v, hv⟩
theorem made_ev (n : Int) (x : NodeT) : ∃ v, Ev (fun k => Qj1.f k x.f0 x.f1 x.f2 x.f3.f0 x.f3.f1 x.f3.f2 x.f3.f3 n) v ∧ (v = true → Made n x) := by
  obtain ⟨op, kids, rule, s0, s1, s2, s3⟩ := x
  have hj1 : ∀ b : Bool, ∃ v, (∀ k, Qj1.j1 (k + 1) n b op kids rule s0 s1 s2 s3 = some v) ∧ (v = true → b = false ∧ (op = 2 → 0 ≤ rule ∧ rule < n) ∧ (op ≠ 2 → rule = 0) ∧ (op ≠ 1 → s0 = 0 ∧ s1 = 0 ∧ s2 = 0 ∧ s3 = 0)) := by
    intro b
    simp only [Qj1.j1]
    repeat' split
    all_goals refine ⟨_, fun _ => rfl, ?_⟩
    all_goals simp_all
    all_goals omega
  have hj0 : ∀ b : Bool, ∃ v, (∀ k, Qj1.j0 (k + 2) n b op kids rule s0 s1 s2 s3 = some v) ∧ (v = true → b = false ∧ (op ≤ 2 → kids.length = 0) ∧ (op = 3 → 2 ≤ kids.length) ∧ (op = 4 → 2 ≤ kids.length) ∧ (5 ≤ op → kids.length = 1) ∧ (op = 2 → 0 ≤ rule ∧ rule < n) ∧ (op ≠ 2 → rule = 0) ∧ (op ≠ 1 → s0 = 0 ∧ s1 = 0 ∧ s2 = 0 ∧ s3 = 0)) := by
    intro b
    simp only [Qj1.j0]
    repeat' split
    all_goals first
      | exact ⟨_, fun _ => rfl, fun h => absurd h (by decide)⟩
      | (obtain ⟨v, h1, h2⟩ := hj1 true; exact ⟨v, h1, fun h => absurd (h2 h).1 (by decide)⟩)
      | (obtain ⟨v, h1, h2⟩ := hj1 false; refine ⟨v, h1, fun h => ?_⟩; obtain ⟨_, h3, h4, h5⟩ := h2 h; refine ⟨by simp_all, by omega, by omega, by omega, by omega, h3, h4, h5⟩)
      | (obtain ⟨v, h1, h2⟩ := hj1 ((kids.length : Int) != 1); refine ⟨v, h1, fun h => ?_⟩; obtain ⟨h6, h3, h4, h5⟩ := h2 h; have h7 : (kids.length : Int) = 1 := by simpa using h6
         refine ⟨by simp_all, by omega, by omega, by omega, by omega, h3, h4, h5⟩)
  have hf : ∃ v, (∀ k, Qj1.f (k + 2) op kids rule s0 s1 s2 s3 n = some v) ∧ (v = true → 0 ≤ op ∧ op ≤ 9 ∧ (op ≤ 2 → kids.length = 0) ∧ (op = 3 → 2 ≤ kids.length) ∧ (op = 4 → 2 ≤ kids.length) ∧ (5 ≤ op → kids.length = 1) ∧ (op = 2 → 0 ≤ rule ∧ rule < n) ∧ (op ≠ 2 → rule = 0) ∧ (op ≠ 1 → s0 = 0 ∧ s1 = 0 ∧ s2 = 0 ∧ s3 = 0)) := by
    unfold Qj1.f
    split
    · obtain ⟨v, h1, h2⟩ := hj0 true
      exact ⟨v, h1, fun h => absurd (h2 h).1 (by decide)⟩
    · rename_i h0
      obtain ⟨v, h1, h2⟩ := hj0 (decide (op > 9))
      refine ⟨v, h1, fun h => ?_⟩
      obtain ⟨h3, h4⟩ := h2 h
      have h5 : ¬ op > 9 := by simpa using h3
      exact ⟨by omega, by omega, h4⟩
  obtain ⟨v, h1, h2⟩ := hf
  refine ⟨v, ⟨2, fun j hj => ?_⟩, fun h => ?_⟩
  · obtain ⟨k, rfl⟩ : ∃ k, j = k + 2 := ⟨j - 2, by omega⟩
    exact h1 k
  · obtain ⟨a, b, c, d⟩ := h2 h
    exact ⟨a, b, fun h => List.length_eq_zero_iff.1 (c h), d⟩
theorem expr_ev (R : List RuleT) (G : List NodeT) (hG : G.length ≤ maxLen) (hk : ∀ i : Int, 0 ≤ i → i < (G.length : Int) → (nodeAt G i).f1.length ≤ maxLen) :
    ∀ (n : Nat) (i : Int), i < (G.length : Int) → i < (n : Int) → ∃ v, Ev (fun k => Qp1.f k R G i) v ∧ (v = -2 ∨ (-1 ≤ v ∧ v < i ∧ ∀ j, v < j → j ≤ i → KidsOk G j)) := by
  have hG' : G.length ≤ 9223372036854775807 := hG
  have neg : ∀ i : Int, i < 0 → ∃ v, Ev (fun k => Qp1.f k R G i) v ∧ (v = -2 ∨ (-1 ≤ v ∧ v < i ∧ ∀ j, v < j → j ≤ i → KidsOk G j)) := fun i hi =>
    ⟨-2, Ev.succ (g := fun _ => some (-2)) (fun k => by rw [Qp1.f, if_pos hi]) (Ev.const _), .inl rfl⟩
  intro n
  induction n with
  | zero => exact fun i _ hi => neg i (by omega)
  | succ n ih =>
    intro i hl hi
    by_cases h0 : i < 0
    · exact neg i h0
    have hkl : (nodeAt G i).f1.length ≤ 9223372036854775807 := hk i (by omega) hl
    have loop : ∀ (m : Nat) (a : Int), m ≤ (nodeAt G i).f1.length → -1 ≤ a → a < i → (∀ j, a < j → j < i → KidsOk G j) → (∀ p : Nat, m ≤ p → p < (nodeAt G i).f1.length → a < rd (nodeAt G i).f1 p ∧ rd (nodeAt G i).f1 p < i) →
        ∃ v, Ev (fun k => Qp1.l0 k i a ((m : Int) - 1) R G) v ∧ (v = -2 ∨ (-1 ≤ v ∧ v < i ∧ (∀ j, v < j → j < i → KidsOk G j) ∧ ∀ p : Nat, p < (nodeAt G i).f1.length → v < rd (nodeAt G i).f1 p ∧ rd (nodeAt G i).f1 p < i)) := by
      intro m
      induction m with
      | zero =>
        intro a hm ha1 ha2 hn hp
        exact ⟨a, Ev.succ (g := fun _ => some a) (fun k => by rw [Qp1.l0, if_neg (by omega)]) (Ev.const _), .inr ⟨ha1, ha2, hn, fun p hp' => hp p (by omega) hp'⟩⟩
      | succ m ihm =>
        intro a hm ha1 ha2 hn hp
        by_cases hkid : rd (nodeAt G i).f1 ((m : Int) + 1 - 1) = a
        · obtain ⟨v, hv, hs⟩ := ih a (by omega) (by omega)
          have step : ∀ k, Qp1.l0 (k + 1) i a (((m + 1 : Nat) : Int) - 1) R G = (Qp1.f k R G a).bind fun t => if t = (-2) then some (-2) else Qp1.l0 k i t (wrap64 (((m + 1 : Nat) : Int) - 1 - 1)) R G := fun k => by
            rw [Qp1.l0, if_pos (by omega), if_pos (by omega), if_pos hl, if_pos (by omega), if_pos (by show _ < ((nodeAt G i).f1.length : Int); omega), if_pos (by push_cast; exact hkid)]
          rcases hs with rfl | ⟨h1, h2, h3⟩
          · exact ⟨-2, Ev.succ step (Ev.bind hv (Ev.of_eq fun _ => if_pos rfl)), .inl rfl⟩
          · obtain ⟨u, hu, hus⟩ := ihm v (by omega) h1 (by omega) (fun j hj1 hj2 => by
                by_cases hja : j ≤ a
                · exact h3 j hj1 hja
                · exact hn j (by omega) hj2) (fun p hp1 hp2 => by
                by_cases hpm : p = m
                · subst hpm
                  rw [show ((p : Nat) : Int) = (p : Int) + 1 - 1 by omega, hkid]
                  omega
                · have := hp p (by omega) hp2
                  omega)
            refine ⟨u, Ev.succ step (Ev.bind hv (Ev.congr (fun k => if_neg (by omega)) ?_)), hus⟩
            rw [w64p _ (by omega), show ((m + 1 : Nat) : Int) - 1 - 1 = (m : Int) - 1 by omega]
            exact hu
        · refine ⟨-2, Ev.succ (g := fun _ => some (-2)) (fun k => by
            rw [Qp1.l0, if_pos (by omega), if_pos (by omega), if_pos hl, if_pos (by omega), if_pos (by show _ < ((nodeAt G i).f1.length : Int); omega), if_neg (by push_cast; exact hkid)]) (Ev.const _), .inl rfl⟩
    obtain ⟨v, hv, hs⟩ := loop (nodeAt G i).f1.length (i - 1) (Nat.le_refl _) (by omega) (by omega) (fun j h1 h2 => absurd h2 (by omega)) (fun p h1 h2 => absurd h2 (by omega))
    refine ⟨v, Ev.succ (fun k => by rw [Qp1.f, if_neg h0, if_pos (by omega), if_pos hl, w64p _ (by omega), w64p _ (by show _ ≤ ((nodeAt G i).f1.length : Int) - 1 ∧ ((nodeAt G i).f1.length : Int) - 1 ≤ _; omega)]) hv, ?_⟩
    rcases hs with rfl | ⟨h1, h2, h3, h4⟩
    · exact .inl rfl
    · refine .inr ⟨h1, h2, fun j hj1 hj2 => ?_⟩
      by_cases hji : j = i
      · subst hji
        intro c hc
        obtain ⟨p, hp, rfl⟩ := List.getElem_of_mem hc
        have := h4 p hp
        have e : rd (nodeAt G j).f1 p = (nodeAt G j).f1[p] := by
          unfold rd
          rw [List.getD_eq_getElem?_getD, show (p : Int).toNat = p by omega, List.getElem?_eq_getElem hp]
          rfl
        rw [e] at this
        omega
      · exact h3 j hj1 (by omega)
theorem ordered_ev (R : List RuleT) (G : List NodeT) (hR : R.length ≤ maxLen) (hG : G.length ≤ maxLen) (hk : ∀ i : Int, 0 ≤ i → i < (G.length : Int) → (nodeAt G i).f1.length ≤ maxLen) :
    ∃ v, Ev (fun k => Qs1.f k R G) v ∧ (v = true → (∀ i : Int, 0 ≤ i → i < (G.length : Int) → KidsOk G i) ∧ ∀ r : Int, 0 ≤ r → r < (R.length : Int) → 0 ≤ (ruleAt R r).f1 ∧ (ruleAt R r).f1 < (G.length : Int)) := by
  have hG' : G.length ≤ 9223372036854775807 := hG
  have hR' : R.length ≤ 9223372036854775807 := hR
  have loop : ∀ (n : Nat) (i b : Int), 0 ≤ i → i.toNat + n = R.length → -1 ≤ b → b < (G.length : Int) → (∀ j, 0 ≤ j → j ≤ b → KidsOk G j) → (∀ r, 0 ≤ r → r < i → 0 ≤ (ruleAt R r).f1 ∧ (ruleAt R r).f1 < (G.length : Int)) →
      ∃ v, Ev (fun k => Qs1.l0 k b i R G) v ∧ (v = true → (∀ i : Int, 0 ≤ i → i < (G.length : Int) → KidsOk G i) ∧ ∀ r : Int, 0 ≤ r → r < (R.length : Int) → 0 ≤ (ruleAt R r).f1 ∧ (ruleAt R r).f1 < (G.length : Int)) := by
    intro n
    induction n with
    | zero =>
      intro i b h0 hn hb1 hb2 hj hr
      refine ⟨b == wrap64 ((G.length : Int) - 1), Ev.succ (g := fun _ => some _) (fun k => by rw [Qs1.l0, if_neg (by omega)]) (Ev.const _), fun hv => ?_⟩
      have hb : b = (G.length : Int) - 1 := by
        have := beq_iff_eq.1 hv
        rwa [w64p _ (by omega)] at this
      exact ⟨fun j h1 h2 => hj j h1 (by omega), fun r h1 h2 => hr r h1 (by omega)⟩
    | succ n ih =>
      intro i b h0 hn hb1 hb2 hj hr
      by_cases c1 : (ruleAt R i).f1 ≤ b
      · exact ⟨false, Ev.succ (g := fun _ => some false) (fun k => by rw [Qs1.l0, if_pos (by omega), if_pos h0, if_pos c1]) (Ev.const _), fun h => absurd h (by decide)⟩
      by_cases c2 : (ruleAt R i).f1 ≥ (G.length : Int)
      · exact ⟨false, Ev.succ (g := fun _ => some false) (fun k => by rw [Qs1.l0, if_pos (by omega), if_pos h0, if_neg c1, if_pos c2]) (Ev.const _), fun h => absurd h (by decide)⟩
      obtain ⟨v, hv, hs⟩ := expr_ev R G hG hk G.length (ruleAt R i).f1 (by omega) (by omega)
      have step : ∀ k, Qs1.l0 (k + 1) b i R G = (Qp1.f k R G (ruleAt R i).f1).bind fun t => if t = b then Qs1.l0 k (ruleAt R i).f1 (wrap64 (i + 1)) R G else some false := fun k => by
        rw [Qs1.l0, if_pos (by omega), if_pos h0, if_neg c1, if_neg c2]
      by_cases c3 : v = b
      · obtain ⟨u, hu, hus⟩ := ih (i + 1) (ruleAt R i).f1 (by omega) (by omega) (by omega) (by omega) (fun j h1 h2 => by
            by_cases hjb : j ≤ b
            · exact hj j h1 hjb
            · rcases hs with rfl | ⟨_, _, h5⟩
              · omega
              · exact h5 j (by omega) h2) (fun r h1 h2 => by
            by_cases hri : r = i
            · subst hri; omega
            · exact hr r h1 (by omega))
        refine ⟨u, Ev.succ step (Ev.bind hv (Ev.congr (fun k => if_pos c3) ?_)), hus⟩
        rw [w64p _ (by omega)]
        exact hu
      · exact ⟨false, Ev.succ step (Ev.bind hv (Ev.of_eq fun _ => if_neg c3)), fun h => absurd h (by decide)⟩
  obtain ⟨v, hv, hs⟩ := loop R.length 0 (-1) (by omega) (by simp) (by omega) (by omega) (fun j h1 h2 => absurd h2 (by omega)) (fun r h1 h2 => absurd h2 (by omega))
  exact ⟨v, hv, hs⟩
theorem depth_ev (R : List RuleT) (G : List NodeT) (hG : G.length ≤ maxLen) (hk : ∀ i : Int, 0 ≤ i → i < (G.length : Int) → (nodeAt G i).f1.length ≤ maxLen) (ho : ∀ i : Int, 0 ≤ i → i < (G.length : Int) → KidsOk G i) :
    ∀ (n : Nat) (i : Int), 0 ≤ i → i < (G.length : Int) → n ≤ 1000 → ∃ v, Ev (fun k => Qm1.f k R G i (n : Int)) v := by
  intro n
  induction n with
  | zero =>
    intro i h0 h1 _
    refine ⟨wrap64 (0 + 1), Ev.succ (fun k => by rw [Qm1.f]) (Ev.succ (g := fun _ => some _) (fun k => ?_) (Ev.const _))⟩
    rw [Qm1.l0, if_pos h0, if_pos h1]
    split
    · rfl
    · rfl
  | succ n ih =>
    intro i h0 h1 hn
    have hkl : (nodeAt G i).f1.length ≤ 9223372036854775807 := hk i h0 h1
    have loop : ∀ (m : Nat) (j d : Int), 0 ≤ j → j.toNat + m = (nodeAt G i).f1.length → ∃ v, Ev (fun k => Qm1.l0 k i ((n + 1 : Nat) : Int) d j R G) v := by
      intro m
      induction m with
      | zero =>
        intro j d hj hm
        exact ⟨wrap64 (d + 1), Ev.succ (g := fun _ => some _) (fun k => by rw [Qm1.l0, if_pos h0, if_pos h1, if_neg (by show ¬ _ < ((nodeAt G i).f1.length : Int); omega)]) (Ev.const _)⟩
      | succ m ihm =>
        intro j d hj hm
        have hjl : j < ((nodeAt G i).f1.length : Int) := by omega
        have hmem : rd (nodeAt G i).f1 j ∈ (nodeAt G i).f1 := by
          have h : j.toNat < (nodeAt G i).f1.length := by omega
          unfold rd
          rw [List.getD_eq_getElem?_getD, List.getElem?_eq_getElem h]
          exact List.getElem_mem h
        have hc := ho i h0 h1 _ hmem
        obtain ⟨v, hv⟩ := ih (rd (nodeAt G i).f1 j) hc.1 (by omega) (by omega)
        obtain ⟨u, hu⟩ := ihm (j + 1) (mx d v) (by omega) (by omega)
        refine ⟨u, Ev.succ (g := fun k => (Qm1.f k R G (rd (nodeAt G i).f1 j) (n : Int)).bind fun t => Qm1.l0 k i ((n + 1 : Nat) : Int) (mx d t) (j + 1) R G) (fun k => ?_) (Ev.bind hv hu)⟩
        rw [Qm1.l0, if_pos h0, if_pos h1, if_pos hjl, if_pos (by omega), if_pos hj, w64p (((n + 1 : Nat) : Int) - 1) (by omega), w64p (j + 1) (by omega), show ((n + 1 : Nat) : Int) - 1 = (n : Int) by omega]
    obtain ⟨v, hv⟩ := loop (nodeAt G i).f1.length 0 0 (by omega) (by simp)
    exact ⟨v, Ev.succ (fun k => by rw [Qm1.f]) hv⟩
theorem check_ev (R : List RuleT) (G : List NodeT) (hR : R.length ≤ maxLen ∧ ∀ y ∈ R, Ok39 y) (hG : G.length ≤ maxLen ∧ ∀ y ∈ G, Ok53 y) :
    ∃ v, Ev (fun k => Qb1.f k R G) v ∧ (v.2.1 = 0 → WF R G) := by
  have hG' : G.length ≤ 9223372036854775807 := hG.1
  have hR' : R.length ≤ 9223372036854775807 := hR.1
  have memR : ∀ r : Int, 0 ≤ r → r < (R.length : Int) → ruleAt R r ∈ R := fun r h0 h1 => by
    have h : r.toNat < R.length := by omega
    show R.getD r.toNat _ ∈ R
    rw [List.getD_eq_getElem?_getD, List.getElem?_eq_getElem h]
    exact List.getElem_mem h
  have memG : ∀ r : Int, 0 ≤ r → r < (G.length : Int) → nodeAt G r ∈ G := fun r h0 h1 => by
    have h : r.toNat < G.length := by omega
    show G.getD r.toNat _ ∈ G
    rw [List.getD_eq_getElem?_getD, List.getElem?_eq_getElem h]
    exact List.getElem_mem h
  have hk : ∀ i : Int, 0 ≤ i → i < (G.length : Int) → (nodeAt G i).f1.length ≤ maxLen := fun i h0 h1 => (hG.2 _ (memG i h0 h1)).2.1.1
  have no : ∀ {f : Nat → Option (ByteArray × Int × Int)} {a : ByteArray} {c o : Int} {p : Prop}, c ≠ 0 → Ev f (a, c, o) → ∃ v, Ev f v ∧ (v.2.1 = 0 → p) := fun hc h => ⟨_, h, fun h' => absurd h' hc⟩
  have l3 : (∀ i : Int, 0 ≤ i → i < (G.length : Int) → KidsOk G i) → ∀ (n : Nat) (i : Int), 0 ≤ i → i.toNat + n = G.length → ∃ v, Ev (fun k => Qb1.l3 k i R G) v ∧ (v.2.1 = 0 → True) := by
    intro ho n
    induction n with
    | zero => exact fun i h0 hn => ⟨_, Ev.succ (g := fun _ => some _) (fun k => by rw [Qb1.l3, if_neg (by omega)]) (Ev.const _), fun _ => trivial⟩
    | succ n ih =>
      intro i h0 hn
      obtain ⟨d, hd⟩ := depth_ev R G hG.1 hk ho 205 i h0 (by omega) (by omega)
      have step : ∀ k, Qb1.l3 (k + 1) i R G = (Qm1.f k R G i 205).bind fun t => if t > 200 then some ((⟨#[110, 111, 100, 101, 115]⟩ : ByteArray), 5, i) else Qb1.l3 k (wrap64 (i + 1)) R G := fun k => by rw [Qb1.l3, if_pos (by omega)]
      by_cases c : d > 200
      · exact ⟨_, Ev.succ step (Ev.bind hd (Ev.of_eq fun _ => if_pos c)), fun _ => trivial⟩
      · obtain ⟨v, hv, hs⟩ := ih (i + 1) (by omega) (by omega)
        refine ⟨v, Ev.succ step (Ev.bind hd (Ev.congr (fun k => if_neg c) ?_)), hs⟩
        rw [w64p _ (by omega)]
        exact hv
  have l2 : 0 < R.length → R.length ≤ 1000 → G.length ≤ 10000 → ∀ (n : Nat) (i : Int), 0 ≤ i → i.toNat + n = G.length → (∀ j : Int, 0 ≤ j → j < i → Made R.length (nodeAt G j)) → ∃ v, Ev (fun k => Qb1.l2 k i R G) v ∧ (v.2.1 = 0 → WF R G) := by
    intro hr1 hr2 hg n
    induction n with
    | zero =>
      intro i h0 hn hm
      obtain ⟨b, hb, hbs⟩ := ordered_ev R G hR.1 hG.1 hk
      have step : ∀ k, Qb1.l2 (k + 1) i R G = (Qs1.f k R G).bind fun t => if t = true then Qb1.l3 k 0 R G else some ((⟨#[]⟩ : ByteArray), 10, 0) := fun k => by rw [Qb1.l2, if_neg (by omega)]
      cases b with
      | false => exact no (by decide) (Ev.succ step (Ev.bind hb (Ev.of_eq fun _ => if_neg (by decide))))
      | true =>
        obtain ⟨hkids, hroots⟩ := hbs rfl
        obtain ⟨v, hv, _⟩ := l3 hkids G.length 0 (by omega) (by simp)
        refine ⟨v, Ev.succ step (Ev.bind hb (Ev.congr (fun k => if_pos rfl) hv)), fun _ => ⟨⟨hr1, hr2⟩, ⟨?_, hg⟩, fun j h1 h2 => hm j h1 (by omega), hkids, hroots⟩⟩
        have := hroots 0 (by omega) (by omega)
        omega
    | succ n ih =>
      intro i h0 hn hm
      obtain ⟨b, hb, hbs⟩ := made_ev R.length (nodeAt G i)
      have step : ∀ k, Qb1.l2 (k + 1) i R G = (Qj1.f k (nodeAt G i).f0 (nodeAt G i).f1 (nodeAt G i).f2 (nodeAt G i).f3.f0 (nodeAt G i).f3.f1 (nodeAt G i).f3.f2 (nodeAt G i).f3.f3 (R.length : Int)).bind fun t => if t = true then Qb1.l2 k (wrap64 (i + 1)) R G else some ((⟨#[110, 111, 100, 101, 115]⟩ : ByteArray), 10, i) := fun k => by rw [Qb1.l2, if_pos (by omega), if_pos h0]
      cases b with
      | false => exact no (by decide) (Ev.succ step (Ev.bind hb (Ev.of_eq fun _ => if_neg (by decide))))
      | true =>
        obtain ⟨v, hv, hs⟩ := ih (i + 1) (by omega) (by omega) (fun j h1 h2 => by
          by_cases hji : j = i
          · subst hji; exact hbs rfl
          · exact hm j h1 (by omega))
        refine ⟨v, Ev.succ step (Ev.bind hb (Ev.congr (fun k => if_pos rfl) ?_)), hs⟩
        rw [w64p _ (by omega)]
        exact hv
  have l0 : 0 < R.length → R.length ≤ 1000 → G.length ≤ 10000 → ∀ (n : Nat) (i : Int), 0 ≤ i → i.toNat + n = R.length → ∃ v, Ev (fun k => Qb1.l0 k i R G) v ∧ (v.2.1 = 0 → WF R G) := by
    intro hr1 hr2 hg n
    induction n with
    | zero =>
      intro i h0 hn
      obtain ⟨v, hv, hs⟩ := l2 hr1 hr2 hg G.length 0 (by omega) (by simp) (fun j h1 h2 => absurd h2 (by omega))
      exact ⟨v, Ev.succ (fun k => by rw [Qb1.l0, if_neg (by omega)]) hv, hs⟩
    | succ n ih =>
      intro i h0 hn
      have l1 : ∀ (m : Nat) (j : Int), 0 ≤ j → j ≤ i → j.toNat + m = i.toNat → ∃ v, Ev (fun k => Qb1.l1 k i j R G) v ∧ (v.2.1 = 0 → WF R G) := by
        intro m
        induction m with
        | zero =>
          intro j hj0 hj hm
          obtain ⟨v, hv, hs⟩ := ih (i + 1) (by omega) (by omega)
          refine ⟨v, Ev.succ (fun k => by rw [Qb1.l1, if_neg (by omega)]) ?_, hs⟩
          rw [w64p _ (by omega)]
          exact hv
        | succ m ihm =>
          intro j hj0 hj hm
          by_cases c : ((ruleAt R j).f0).toList = ((ruleAt R i).f0).toList
          · exact no (c := 10) (by decide) (Ev.succ (g := fun _ => some ((⟨#[114, 117, 108, 101, 115]⟩ : ByteArray), 10, i)) (fun k => by rw [Qb1.l1, if_pos (by omega), if_pos hj0, if_pos (by omega), if_pos h0, if_pos (by omega), if_pos c]) (Ev.const _))
          · obtain ⟨v, hv, hs⟩ := ihm (j + 1) (by omega) (by omega) (by omega)
            refine ⟨v, Ev.succ (fun k => by rw [Qb1.l1, if_pos (by omega), if_pos hj0, if_pos (by omega), if_pos h0, if_pos (by omega), if_neg c]) ?_, hs⟩
            rw [w64p _ (by omega)]
            exact hv
      obtain ⟨b, hb⟩ := name_ev (ruleAt R i).f0 (hR.2 _ (memR i h0 (by omega))).1
      have step : ∀ k, Qb1.l0 (k + 1) i R G = (Qu1.f k (ruleAt R i).f0).bind fun t => if t = true then Qb1.l1 k i 0 R G else some ((⟨#[114, 117, 108, 101, 115]⟩ : ByteArray), 10, i) := fun k => by rw [Qb1.l0, if_pos (by omega), if_pos h0]
      cases b with
      | false => exact no (by decide) (Ev.succ step (Ev.bind hb (Ev.of_eq fun _ => if_neg (by decide))))
      | true =>
        obtain ⟨v, hv, hs⟩ := l1 i.toNat 0 (by omega) h0 (by simp)
        exact ⟨v, Ev.succ step (Ev.bind hb (Ev.congr (fun k => if_pos rfl) hv)), hs⟩
  unfold Qb1.f
  by_cases c1 : (R.length : Int) > 1000
  · exact no (c := 4) (by decide) (Ev.congr (fun k => if_pos c1) (Ev.succ (g := fun _ => some ((⟨#[]⟩ : ByteArray), 4, 0)) (fun k => by rw [Qb1.j0, if_pos rfl]) (Ev.const _)))
  by_cases c2 : (G.length : Int) > 10000
  · exact no (c := 4) (by decide) (Ev.congr (fun k => if_neg c1) (Ev.succ (g := fun _ => some ((⟨#[]⟩ : ByteArray), 4, 0)) (fun k => by rw [Qb1.j0, if_pos (by simpa using c2)]) (Ev.const _)))
  by_cases c3 : (R.length : Int) = 0
  · exact no (c := 10) (by decide) (Ev.congr (fun k => if_neg c1) (Ev.succ (g := fun _ => some ((⟨#[114, 117, 108, 101, 115]⟩ : ByteArray), 10, 0)) (fun k => by rw [Qb1.j0, if_neg (by simpa using c2), if_pos c3]) (Ev.const _)))
  obtain ⟨v, hv, hs⟩ := l0 (by omega) (by omega) (by omega) R.length 0 (by omega) (by simp)
  exact ⟨v, Ev.congr (fun k => if_neg c1) (Ev.succ (fun k => by rw [Qb1.j0, if_neg (by simpa using c2), if_neg c3]) hv), hs⟩
theorem valid_ev (R : List RuleT) (G : List NodeT) (hR : R.length ≤ maxLen ∧ ∀ y ∈ R, Ok39 y) (hG : G.length ≤ maxLen ∧ ∀ y ∈ G, Ok53 y) :
    ∃ v, Ev (fun k => vetchref05_Valid.f k R G) v ∧ (v = true → WF R G) := by
  obtain ⟨v, hv, hs⟩ := check_ev R G hR hG
  exact ⟨v.2.1 == 0, Ev.bind hv (Ev.const _), fun h => hs (beq_iff_eq.1 h)⟩
end Go.Proofs.Ytnaanamibfpbpaa.V
namespace Go.Proofs.Ytnaanamibfpbpaa.V
open Go.RowKit Go.Proofs.YtnaanamibfpbpaaW.PrintWords Go.Proofs.YtnaanamibfpbpaaW.PrintLast Go.Proofs.YtnaanamibfpbpaaW.PrintMore
set_option linter.unusedVariables false
set_option linter.unusedSimpArgs false
theorem eq54h (d : Nat) (w : World) (x0 y0 x1 y1 x2 y2 x3 y3 : Int) :
    (Op.equalIn (d + 2) 50 (.agg #[.int .u64 x0, .int .u64 x1, .int .u64 x2, .int .u64 x3]) (.agg #[.int .u64 y0, .int .u64 y1, .int .u64 y2, .int .u64 y3])).run Try.prog w = .ok (x0 == y0 && (x1 == y1 && (x2 == y2 && (x3 == y3)))) w :=
  eqA_four (k := .u64) Try.underlying50 Try.underlying48 (by kernel_rfl) (by kernel_rfl) d w x0 y0 x1 y1 x2 y2 x3 y3
attribute [local go_sem high] eq54h
def Qx.seqF (l : List S35) : List Int → Bool → Bool → Bool → Bool → Bool × Bool × Bool
  | [], n, e, f, all => (n, e && all, f)
  | c :: cs, n, e, f, all => Qx.seqF l cs (n && (rd_T35 l c).f0) (e || (rd_T35 l c).f1) (f || ((rd_T35 l c).f2 && all)) (all && ((rd_T35 l c).f0 || (rd_T35 l c).f1))
def Qx.choF (l : List S35) : List Int → Bool → Bool → Bool → Bool × Bool × Bool
  | [], n, e, f => (n, e, f)
  | c :: cs, n, e, f => Qx.choF l cs (n || ((rd_T35 l c).f0 && f)) (e || ((rd_T35 l c).f1 && f)) (f && (rd_T35 l c).f2)
def Qx.p (R : List S39) (l : List S35) (nd : S53) : Bool × Bool × Bool :=
  if nd.f0 = 0 then (true, false, false) else
  if nd.f0 = 1 then (false, !(nd.f3.f0 == 0) || (!(nd.f3.f1 == 0) || (!(nd.f3.f2 == 0) || !(nd.f3.f3 == 0))), true) else
  if nd.f0 = 2 then ((rd_T35 l (Qp R nd.f2).f1).f0, (rd_T35 l (Qp R nd.f2).f1).f1, (rd_T35 l (Qp R nd.f2).f1).f2) else
  if nd.f0 = 3 then Qx.seqF l nd.f1 true false false true else
  if nd.f0 = 4 then Qx.choF l nd.f1 false false true else
  let x := rd_T35 l (rd nd.f1 0)
  if nd.f0 = 5 then (x.f2, x.f1, false) else
  if nd.f0 = 6 then (x.f0 && x.f2, x.f1, x.f2) else
  if nd.f0 = 7 then (x.f0 || x.f2, x.f1, false) else
  if nd.f0 = 8 then (x.f0 || x.f1, false, x.f2) else
  if nd.f0 = 9 then (x.f2, false, x.f0 || x.f1) else (false, false, false)
abbrev Qx.fit (R : List S39) (l : List S35) (nd : S53) : Prop :=
  (∀ c ∈ nd.f1, 0 ≤ c ∧ c < (l.length : Int)) ∧ (5 ≤ nd.f0 → nd.f0 ≤ 9 → nd.f1 ≠ []) ∧ (nd.f0 = 2 → 0 ≤ nd.f2 ∧ nd.f2 < (R.length : Int) ∧ 0 ≤ (Qp R nd.f2).f1 ∧ (Qp R nd.f2).f1 < (l.length : Int))
def Qx.f (R : List S39) (G : List S53) (i : Int) (l : List S35) : Option (Bool × Bool × Bool) :=
  if 0 ≤ i ∧ i < (G.length : Int) ∧ Qx.fit R l (Qh G i) then some (Qx.p R l (Qh G i)) else none
theorem rd_memh (xs : List Int) (i : Int) (h0 : 0 ≤ i) (h1 : i < (xs.length : Int)) : rd xs i ∈ xs := by
  have h : i.toNat < xs.length := by omega
  unfold rd
  rw [List.getD_eq_getElem?_getD, List.getElem?_eq_getElem h]
  exact List.getElem_mem h
theorem blk3 {w : World} {g t : Nat} {x y z : Value} (h : w.heap[g]? = some (.cells #[x, y, z] t (0, 0))) (a b c : Value) :
    (((w.setCell ⟨g, 0, none⟩ a).setCell ⟨g, 1, none⟩ b).setCell ⟨g, 2, none⟩ c).heap[g]? = some (.cells #[a, b, c] t (0, 0)) :=
  Qq (cs := #[a, b, z]) (Qq (cs := #[a, y, z]) (Qq (cs := #[x, y, z]) h 0 a rfl) 1 b rfl) 2 c rfl
theorem below3 {w W : World} {n g : Nat} (h : Below n w W) (hg : n ≤ g) (a b c : Value) : Below n w (((W.setCell ⟨g, 0, none⟩ a).setCell ⟨g, 1, none⟩ b).setCell ⟨g, 2, none⟩ c) :=
  ((h.setCell (p := ⟨g, 0, none⟩) hg a).setCell (p := ⟨g, 1, none⟩) hg b).setCell (p := ⟨g, 2, none⟩) hg c
structure Env11 (W1 : World) (gx go : Nat) (ND : Array Value) (W : World) (n e f : Bool) : Prop where
  x : W.heap[gx]? = some (.cells ND 53 (0, 0))
  o : W.heap[go]? = some (.cells #[.bool n, .bool e, .bool f] 35 (0, 0))
  b : Below W1.heap.size W1 W
section
variable {W1 W W' : World} {gx go : Nat} {ND : Array Value} {n e f : Bool}
theorem Env11.put0 (h : Env11 W1 gx go ND W n e f) (h1 : W1.heap.size ≤ go) (h2 : gx ≠ go) (v : Bool) : Env11 W1 gx go ND (W.setCell ⟨go, 0, none⟩ (.bool v)) v e f :=
  ⟨Qn h.x (p := ⟨go, 0, none⟩) h2 _, Qq h.o 0 _ rfl, h.b.setCell (p := ⟨go, 0, none⟩) h1 _⟩
theorem Env11.put1 (h : Env11 W1 gx go ND W n e f) (h1 : W1.heap.size ≤ go) (h2 : gx ≠ go) (v : Bool) : Env11 W1 gx go ND (W.setCell ⟨go, 1, none⟩ (.bool v)) n v f :=
  ⟨Qn h.x (p := ⟨go, 1, none⟩) h2 _, Qq h.o 1 _ rfl, h.b.setCell (p := ⟨go, 1, none⟩) h1 _⟩
theorem Env11.put2 (h : Env11 W1 gx go ND W n e f) (h1 : W1.heap.size ≤ go) (h2 : gx ≠ go) (v : Bool) : Env11 W1 gx go ND (W.setCell ⟨go, 2, none⟩ (.bool v)) n e v :=
  ⟨Qn h.x (p := ⟨go, 2, none⟩) h2 _, Qq h.o 2 _ rfl, h.b.setCell (p := ⟨go, 2, none⟩) h1 _⟩
theorem Env11.below (h : Env11 W1 gx go ND W n e f) (hb : Below W.heap.size W W') : Env11 W1 gx go ND W' n e f := ⟨Qo h.x hb, Qo h.o hb, Qr h.b hb⟩
end
def okk (l : List S35) (c : Int) : Bool := (rd_T35 l c).f0 || (rd_T35 l c).f1
theorem drop_rd (xs : List Int) (j : Int) (h0 : 0 ≤ j) (h1 : j < (xs.length : Int)) : xs.drop j.toNat = rd xs j :: xs.drop (j + 1).toNat := by
  have h : j.toNat < xs.length := by omega
  rw [List.drop_eq_getElem_cons h, show (j + 1).toNat = j.toNat + 1 by omega]
  unfold rd
  rw [List.getD_eq_getElem?_getD, List.getElem?_eq_getElem h]
  rfl
theorem take_rd (xs : List Int) (j : Int) (h0 : 0 ≤ j) (h1 : j < (xs.length : Int)) : xs.take (j + 1).toNat = xs.take j.toNat ++ [rd xs j] := by
  have h : j.toNat < xs.length := by omega
  rw [show (j + 1).toNat = j.toNat + 1 by omega, List.take_succ_eq_append_getElem h]
  unfold rd
  rw [List.getD_eq_getElem?_getD, List.getElem?_eq_getElem h]
  rfl
theorem all_rd (p : Int → Bool) (xs : List Int) (j : Int) (h0 : 0 ≤ j) (h1 : j < (xs.length : Int)) : (xs.take (j + 1).toNat).all p = ((xs.take j.toNat).all p && p (rd xs j)) := by
  rw [take_rd xs j h0 h1, List.all_append]
  simp
theorem drop_end (xs : List Int) (j : Int) (h : ¬ j < (xs.length : Int)) : xs.drop j.toNat = [] := List.drop_eq_nil_of_le (by omega)
theorem wrap_next (j : Int) (n : Nat) (h0 : 0 ≤ j) (h1 : j < (n : Int)) (hn : n ≤ 9223372036854775807) : wrap64 (j + 1) = j + 1 := by unfold wrap64; omega
theorem Ql1 (w : World) (o : Obj) : (w.alloc o).heap.size = w.heap.size + 1 := by simp
end Go.Proofs.Ytnaanamibfpbpaa.V
namespace Go.Proofs.Ytnaanamibfpbpaa.V
open Go.RowKit Go.Proofs.YtnaanamibfpbpaaW.PrintWords Go.Proofs.YtnaanamibfpbpaaW.PrintLast Go.Proofs.YtnaanamibfpbpaaW.PrintMore
set_option linter.unusedVariables false
set_option linter.unusedSimpArgs false
attribute [local go_sem high] eq54h
set_option maxHeartbeats 4000000 in
set_option maxRecDepth 100000 in
theorem Qx.calls_sx (A0_0 : Option Addr) (c0_0 : Nat) (l0_0 : List S39) (A0_1 : Option Addr) (c0_1 : Nat) (l0_1 : List S53) (a1 : Int) (A2 : Option Addr) (c2 : Nat) (l2 : List S35) (r1 r2 r3 : Bool) (w : World)
    (hr0_0 : Kd.C k39 w A0_0 l0_0.length l0_0) (hc0_0 : l0_0.length ≤ c0_0) (hr0_1 : Kd.C k53 w A0_1 l0_1.length l0_1) (hc0_1 : l0_1.length ≤ c0_1) (hr2 : Kd.C k35 w A2 l2.length l2) (hc2 : l2.length ≤ c2)
    (hs : Qa (¬ (Qh l0_1 a1).f0 = 0 ∧ ¬ (Qh l0_1 a1).f0 = 1 ∧ ¬ (Qh l0_1 a1).f0 = 2 ∧ ¬ (Qh l0_1 a1).f0 = 3 ∧ ¬ (Qh l0_1 a1).f0 = 4 ∧ ¬ (Qh l0_1 a1).f0 = 5 ∧ ¬ (Qh l0_1 a1).f0 = 6 ∧ ¬ (Qh l0_1 a1).f0 = 7 ∧ ¬ (Qh l0_1 a1).f0 = 8 ∧ ¬ (Qh l0_1 a1).f0 = 9)) (h : Qx.f l0_0 l0_1 a1 l2 = some (r1, r2, r3)) :
    Calls Try.prog 27 #[.agg #[.slice A0_0 l0_0.length c0_0, .slice A0_1 l0_1.length c0_1], .int .i64 a1, .slice A2 l2.length c2] w fun e w' => e = .returned (.agg #[.bool r1, .bool r2, .bool r3]) ∧ Below w.heap.size w w' := by
  unfold Qx.f at h
  split at h
  case isFalse => exact absurd h (by simp)
  case isTrue hfit =>
  obtain ⟨p2, p3, hfit⟩ := hfit
  have H : Qa (Qx.p l0_0 l2 (Qh l0_1 a1) = (r1, r2, r3)) := ⟨Option.some.inj h⟩
  have HF := Qa.mk hfit
  clear h hfit
  have hu25 := Try.underlying25
  have hu45 := Try.underlying35
  have hu56 := Try.underlying53
  have hu51 := Try.underlying39
  have hu54 := Try.underlying50
  have HB := Qa.mk (Qj (Qj (Below.refl w.heap.size w) (.cells #[.slice A0_0 l0_0.length c0_0, .slice A0_1 l0_1.length c0_1] 25)) (.cells #[.bool false, .bool false, .bool false] 35))
  have HG := Qa.mk (Qd (blk_new w (.cells #[.slice A0_0 l0_0.length c0_0, .slice A0_1 l0_1.length c0_1] 25)) (.cells #[.bool false, .bool false, .bool false] 35))
  have HR := Qa.mk (blk_new (w.alloc (.cells #[.slice A0_0 l0_0.length c0_0, .slice A0_1 l0_1.length c0_1] 25)) (.cells #[.bool false, .bool false, .bool false] 35))
  have hsz : ((w.alloc (.cells #[.slice A0_0 l0_0.length c0_0, .slice A0_1 l0_1.length c0_1] 25)).alloc (.cells #[.bool false, .bool false, .bool false] 35)).heap.size = w.heap.size + 1 + 1 := by rw [Ql1, Ql1]
  rw [Ql1] at HR
  have HC0 := Qa.mk (Kd.Qw hr0_0 HB.out)
  have HC1 := Qa.mk (Kd.Qw hr0_1 HB.out)
  have HC2 := Qa.mk (Kd.Qw hr2 HB.out)
  have HW := Qa.mk hsz
  clear hr0_0 hr0_1 hr2 hsz
  go_enter Try.func27, Try.ntmps27
  go_upto_region 1 with (fail)
  generalize ((w.alloc (.cells #[.slice A0_0 l0_0.length c0_0, .slice A0_1 l0_1.length c0_1] 25)).alloc (.cells #[.bool false, .bool false, .bool false] 35)) = W1 at HB HG HR HC0 HC1 HC2 HW ⊢
  have g0 : W1.cell? ⟨w.heap.size, 0, none⟩ = some (.slice A0_0 l0_0.length c0_0) := (Qb HG.out 0).trans rfl
  have g1 : W1.cell? ⟨w.heap.size, 1, none⟩ = some (.slice A0_1 l0_1.length c0_1) := (Qb HG.out 1).trans rfl
  obtain ⟨ad, Ak, ck, e, k0, k1, k2, k3, k4, k5, k6, hlk, hCk⟩ := at_T53 HC1.out a1 p2 p3
  cases e
  have HCk := Qa.mk hCk
  have HLk := Qa.mk hlk
  clear hCk hlk HC1
  replace p2 := eq_true p2
  replace p3 := eq_true p3
  go_upto_region 3 with (fail)
  generalize Qh l0_1 a1 = nd at *
  obtain ⟨gx, hgx⟩ : ∃ gx, gx = W1.heap.size := ⟨_, rfl⟩
  obtain ⟨go, hgo⟩ : ∃ go, go = gx + 1 := ⟨_, rfl⟩
  obtain ⟨gb, hgb⟩ : ∃ gb, gb = w.heap.size := ⟨_, rfl⟩
  obtain ⟨gr, hgr⟩ : ∃ gr, gr = gb + 1 := ⟨_, rfl⟩
  rw [← hgb] at HW HG HR
  rw [← hgr] at HR
  have E2 : Qa (Env11 W1 gx go #[.int .i64 nd.f0, .slice Ak nd.f1.length ck, .int .i64 nd.f2, .int .u64 nd.f3.f0, .int .u64 nd.f3.f1, .int .u64 nd.f3.f2, .int .u64 nd.f3.f3] ((W1.alloc (.cells #[.int .i64 nd.f0, .slice Ak nd.f1.length ck, .int .i64 nd.f2, .int .u64 nd.f3.f0, .int .u64 nd.f3.f1, .int .u64 nd.f3.f2, .int .u64 nd.f3.f3] 53)).alloc (.cells #[.bool false, .bool false, .bool false] 35)) false false false) := ⟨by rw [hgx]; exact Qd (blk_new W1 (.cells #[.int .i64 nd.f0, .slice Ak nd.f1.length ck, .int .i64 nd.f2, .int .u64 nd.f3.f0, .int .u64 nd.f3.f1, .int .u64 nd.f3.f2, .int .u64 nd.f3.f3] 53)) (.cells #[.bool false, .bool false, .bool false] 35), by rw [hgo, hgx]; have := blk_new (W1.alloc (.cells #[.int .i64 nd.f0, .slice Ak nd.f1.length ck, .int .i64 nd.f2, .int .u64 nd.f3.f0, .int .u64 nd.f3.f1, .int .u64 nd.f3.f2, .int .u64 nd.f3.f3] 53)) (.cells #[.bool false, .bool false, .bool false] 35); rw [Ql1] at this; exact this, Qj (Qj (Below.refl _ _) _) _⟩
  have HLT := Qa.mk (show W1.heap.size ≤ go ∧ gx ≠ go ∧ gb < W1.heap.size ∧ gr < W1.heap.size ∧ gr ≠ go by have := HW.out; omega)
  have HGB := Qa.mk hgb
  have HGR := Qa.mk hgr
  rw [← hgx, ← hgb, ← hgr, ← hgo]
  generalize (W1.alloc (.cells #[.int .i64 nd.f0, .slice Ak nd.f1.length ck, .int .i64 nd.f2, .int .u64 nd.f3.f0, .int .u64 nd.f3.f1, .int .u64 nd.f3.f2, .int .u64 nd.f3.f3] 53)).alloc (.cells #[.bool false, .bool false, .bool false] 35) = W2 at E2 ⊢
  clear k0 k1 k2 k3 k4 k5 k6 g0 g1 HW hgx hgo hgb hgr
  have x0 := (Qb E2.out.x 0).trans rfl
  go_upto_block 0 with fail
  go_cut [] (fun wc => ∃ n e f, Qa ((n, e, f) = (r1, r2, r3)) ∧ Qa (Env11 W1 gx go #[.int .i64 nd.f0, .slice Ak nd.f1.length ck, .int .i64 nd.f2, .int .u64 nd.f3.f0, .int .u64 nd.f3.f1, .int .u64 nd.f3.f2, .int .u64 nd.f3.f3] wc n e f))
  case first =>
   clear x0
   have h := H.out
   clear H
   unfold Qx.p at h
   have c0 : ¬ nd.f0 = 0 := by have := hs.out; omega
   rw [if_neg c0] at h
   have b0 : (nd.f0 == 0) = false := beq_eq_false_iff_ne.2 c0
   go_upto_region 6 with (fail)
   clear b0
   have c1 : ¬ nd.f0 = 1 := by have := hs.out; omega
   rw [if_neg c1] at h
   have b1 : (nd.f0 == 1) = false := beq_eq_false_iff_ne.2 c1
   go_upto_region 9 with (fail)
   clear b1
   have c2 : ¬ nd.f0 = 2 := by have := hs.out; omega
   rw [if_neg c2] at h
   have b2 : (nd.f0 == 2) = false := beq_eq_false_iff_ne.2 c2
   go_upto_region 11 with (fail)
   clear b2
   have c3 : ¬ nd.f0 = 3 := by have := hs.out; omega
   rw [if_neg c3] at h
   have b3 : (nd.f0 == 3) = false := beq_eq_false_iff_ne.2 c3
   go_upto_region 28 with (fail)
   clear b3
   have c4 : ¬ nd.f0 = 4 := by have := hs.out; omega
   rw [if_neg c4] at h
   have b4 : (nd.f0 == 4) = false := beq_eq_false_iff_ne.2 c4
   go_upto_region 42 with (fail)
   clear b4
   have c5 : ¬ nd.f0 = 5 := by have := hs.out; omega
   rw [if_neg c5] at h
   have b5 : (nd.f0 == 5) = false := beq_eq_false_iff_ne.2 c5
   go_upto_region 45 with (fail)
   clear b5
   have c6 : ¬ nd.f0 = 6 := by have := hs.out; omega
   rw [if_neg c6] at h
   have b6 : (nd.f0 == 6) = false := beq_eq_false_iff_ne.2 c6
   go_upto_region 49 with (fail)
   clear b6
   have c7 : ¬ nd.f0 = 7 := by have := hs.out; omega
   rw [if_neg c7] at h
   have b7 : (nd.f0 == 7) = false := beq_eq_false_iff_ne.2 c7
   go_upto_region 52 with (fail)
   clear b7
   have c8 : ¬ nd.f0 = 8 := by have := hs.out; omega
   rw [if_neg c8] at h
   have b8 : (nd.f0 == 8) = false := beq_eq_false_iff_ne.2 c8
   go_upto_region 55 with (fail)
   clear b8
   have c9 : ¬ nd.f0 = 9 := by have := hs.out; omega
   rw [if_neg c9] at h
   have b9 : (nd.f0 == 9) = false := beq_eq_false_iff_ne.2 c9
   clear c0 c1 c2 c3 c4 c5 c6 c7 c8 c9
   have x0 : W2.cell? ⟨gx, 0, none⟩ = some (.int .i64 nd.f0) := (Qb E2.out.x 0).trans rfl
   go_wp2
   go_meet
   exact ⟨_, _, _, ⟨h⟩, ⟨E2.out⟩⟩
  case rest =>
   clear x0
   obtain ⟨n, e, f, HE, E3⟩ := hcut
   obtain ⟨rfl, rfl, rfl⟩ : n = r1 ∧ e = r2 ∧ f = r3 := by simpa using HE.out
   have o0 : wc.cell? ⟨go, 0, none⟩ = some (.bool n) := (Qb E3.out.o 0).trans rfl
   have r0 : wc.cell? ⟨gr, 0, none⟩ = some (.bool false) := (Qb (Qo HR.out E3.out.b) 0).trans rfl
   have z0 : wc.frozen? ⟨gr, 0, none⟩ = false := Qf (Qo HR.out E3.out.b) 0
   have o1 : wc.cell? ⟨go, 1, none⟩ = some (.bool e) := (Qb E3.out.o 1).trans rfl
   have r1 : wc.cell? ⟨gr, 1, none⟩ = some (.bool false) := (Qb (Qo HR.out E3.out.b) 1).trans rfl
   have z1 : wc.frozen? ⟨gr, 1, none⟩ = false := Qf (Qo HR.out E3.out.b) 1
   have o2 : wc.cell? ⟨go, 2, none⟩ = some (.bool f) := (Qb E3.out.o 2).trans rfl
   have r2 : wc.cell? ⟨gr, 2, none⟩ = some (.bool false) := (Qb (Qo HR.out E3.out.b) 2).trans rfl
   have z2 : wc.frozen? ⟨gr, 2, none⟩ = false := Qf (Qo HR.out E3.out.b) 2
   go_wp2
   refine bodyPost_ret (results_cell_row rfl _ _ gr 35 #[.bool n, .bool e, .bool f] (0, 0) _ rfl (blk3 (Qo HR.out E3.out.b) _ _ _) Try.underlying35 rfl (by kernel_rfl)) rfl ⟨rfl, ?_⟩
   exact below3 (Qr HB.out E3.out.b) (by have := HGB.out; have := HGR.out; omega) _ _ _
end Go.Proofs.Ytnaanamibfpbpaa.V
namespace Go.Proofs.Ytnaanamibfpbpaa.V
open Go.RowKit Go.Proofs.YtnaanamibfpbpaaW.PrintWords Go.Proofs.YtnaanamibfpbpaaW.PrintLast Go.Proofs.YtnaanamibfpbpaaW.PrintMore
set_option linter.unusedVariables false
set_option linter.unusedSimpArgs false
attribute [local go_sem high] eq54h
set_option maxHeartbeats 4000000 in
set_option maxRecDepth 100000 in
theorem Qx.calls_s0 (A0_0 : Option Addr) (c0_0 : Nat) (l0_0 : List S39) (A0_1 : Option Addr) (c0_1 : Nat) (l0_1 : List S53) (a1 : Int) (A2 : Option Addr) (c2 : Nat) (l2 : List S35) (r1 r2 r3 : Bool) (w : World)
    (hr0_0 : Kd.C k39 w A0_0 l0_0.length l0_0) (hc0_0 : l0_0.length ≤ c0_0) (hr0_1 : Kd.C k53 w A0_1 l0_1.length l0_1) (hc0_1 : l0_1.length ≤ c0_1) (hr2 : Kd.C k35 w A2 l2.length l2) (hc2 : l2.length ≤ c2)
    (hs : Qa ((Qh l0_1 a1).f0 = 0)) (h : Qx.f l0_0 l0_1 a1 l2 = some (r1, r2, r3)) :
    Calls Try.prog 27 #[.agg #[.slice A0_0 l0_0.length c0_0, .slice A0_1 l0_1.length c0_1], .int .i64 a1, .slice A2 l2.length c2] w fun e w' => e = .returned (.agg #[.bool r1, .bool r2, .bool r3]) ∧ Below w.heap.size w w' := by
  unfold Qx.f at h
  split at h
  case isFalse => exact absurd h (by simp)
  case isTrue hfit =>
  obtain ⟨p2, p3, hfit⟩ := hfit
  have H : Qa (Qx.p l0_0 l2 (Qh l0_1 a1) = (r1, r2, r3)) := ⟨Option.some.inj h⟩
  have HF := Qa.mk hfit
  clear h hfit
  have hu25 := Try.underlying25
  have hu45 := Try.underlying35
  have hu56 := Try.underlying53
  have hu51 := Try.underlying39
  have hu54 := Try.underlying50
  have HB := Qa.mk (Qj (Qj (Below.refl w.heap.size w) (.cells #[.slice A0_0 l0_0.length c0_0, .slice A0_1 l0_1.length c0_1] 25)) (.cells #[.bool false, .bool false, .bool false] 35))
  have HG := Qa.mk (Qd (blk_new w (.cells #[.slice A0_0 l0_0.length c0_0, .slice A0_1 l0_1.length c0_1] 25)) (.cells #[.bool false, .bool false, .bool false] 35))
  have HR := Qa.mk (blk_new (w.alloc (.cells #[.slice A0_0 l0_0.length c0_0, .slice A0_1 l0_1.length c0_1] 25)) (.cells #[.bool false, .bool false, .bool false] 35))
  have hsz : ((w.alloc (.cells #[.slice A0_0 l0_0.length c0_0, .slice A0_1 l0_1.length c0_1] 25)).alloc (.cells #[.bool false, .bool false, .bool false] 35)).heap.size = w.heap.size + 1 + 1 := by rw [Ql1, Ql1]
  rw [Ql1] at HR
  have HC0 := Qa.mk (Kd.Qw hr0_0 HB.out)
  have HC1 := Qa.mk (Kd.Qw hr0_1 HB.out)
  have HC2 := Qa.mk (Kd.Qw hr2 HB.out)
  have HW := Qa.mk hsz
  clear hr0_0 hr0_1 hr2 hsz
  go_enter Try.func27, Try.ntmps27
  go_upto_region 1 with (fail)
  generalize ((w.alloc (.cells #[.slice A0_0 l0_0.length c0_0, .slice A0_1 l0_1.length c0_1] 25)).alloc (.cells #[.bool false, .bool false, .bool false] 35)) = W1 at HB HG HR HC0 HC1 HC2 HW ⊢
  have g0 : W1.cell? ⟨w.heap.size, 0, none⟩ = some (.slice A0_0 l0_0.length c0_0) := (Qb HG.out 0).trans rfl
  have g1 : W1.cell? ⟨w.heap.size, 1, none⟩ = some (.slice A0_1 l0_1.length c0_1) := (Qb HG.out 1).trans rfl
  obtain ⟨ad, Ak, ck, e, k0, k1, k2, k3, k4, k5, k6, hlk, hCk⟩ := at_T53 HC1.out a1 p2 p3
  cases e
  have HCk := Qa.mk hCk
  have HLk := Qa.mk hlk
  clear hCk hlk HC1
  replace p2 := eq_true p2
  replace p3 := eq_true p3
  go_upto_region 3 with (fail)
  generalize Qh l0_1 a1 = nd at *
  obtain ⟨gx, hgx⟩ : ∃ gx, gx = W1.heap.size := ⟨_, rfl⟩
  obtain ⟨go, hgo⟩ : ∃ go, go = gx + 1 := ⟨_, rfl⟩
  obtain ⟨gb, hgb⟩ : ∃ gb, gb = w.heap.size := ⟨_, rfl⟩
  obtain ⟨gr, hgr⟩ : ∃ gr, gr = gb + 1 := ⟨_, rfl⟩
  rw [← hgb] at HW HG HR
  rw [← hgr] at HR
  have E2 : Qa (Env11 W1 gx go #[.int .i64 nd.f0, .slice Ak nd.f1.length ck, .int .i64 nd.f2, .int .u64 nd.f3.f0, .int .u64 nd.f3.f1, .int .u64 nd.f3.f2, .int .u64 nd.f3.f3] ((W1.alloc (.cells #[.int .i64 nd.f0, .slice Ak nd.f1.length ck, .int .i64 nd.f2, .int .u64 nd.f3.f0, .int .u64 nd.f3.f1, .int .u64 nd.f3.f2, .int .u64 nd.f3.f3] 53)).alloc (.cells #[.bool false, .bool false, .bool false] 35)) false false false) := ⟨by rw [hgx]; exact Qd (blk_new W1 (.cells #[.int .i64 nd.f0, .slice Ak nd.f1.length ck, .int .i64 nd.f2, .int .u64 nd.f3.f0, .int .u64 nd.f3.f1, .int .u64 nd.f3.f2, .int .u64 nd.f3.f3] 53)) (.cells #[.bool false, .bool false, .bool false] 35), by rw [hgo, hgx]; have := blk_new (W1.alloc (.cells #[.int .i64 nd.f0, .slice Ak nd.f1.length ck, .int .i64 nd.f2, .int .u64 nd.f3.f0, .int .u64 nd.f3.f1, .int .u64 nd.f3.f2, .int .u64 nd.f3.f3] 53)) (.cells #[.bool false, .bool false, .bool false] 35); rw [Ql1] at this; exact this, Qj (Qj (Below.refl _ _) _) _⟩
  have HLT := Qa.mk (show W1.heap.size ≤ go ∧ gx ≠ go ∧ gb < W1.heap.size ∧ gr < W1.heap.size ∧ gr ≠ go by have := HW.out; omega)
  have HGB := Qa.mk hgb
  have HGR := Qa.mk hgr
  rw [← hgx, ← hgb, ← hgr, ← hgo]
  generalize (W1.alloc (.cells #[.int .i64 nd.f0, .slice Ak nd.f1.length ck, .int .i64 nd.f2, .int .u64 nd.f3.f0, .int .u64 nd.f3.f1, .int .u64 nd.f3.f2, .int .u64 nd.f3.f3] 53)).alloc (.cells #[.bool false, .bool false, .bool false] 35) = W2 at E2 ⊢
  clear k0 k1 k2 k3 k4 k5 k6 g0 g1 HW hgx hgo hgb hgr
  have x0 := (Qb E2.out.x 0).trans rfl
  go_upto_block 0 with fail
  go_cut [] (fun wc => ∃ n e f, Qa ((n, e, f) = (r1, r2, r3)) ∧ Qa (Env11 W1 gx go #[.int .i64 nd.f0, .slice Ak nd.f1.length ck, .int .i64 nd.f2, .int .u64 nd.f3.f0, .int .u64 nd.f3.f1, .int .u64 nd.f3.f2, .int .u64 nd.f3.f3] wc n e f))
  case first =>
   clear x0
   have h := H.out
   clear H
   unfold Qx.p at h
   have c0 : nd.f0 = 0 := by have := hs.out; omega
   rw [if_pos c0] at h
   have b0 : (nd.f0 == 0) = true := beq_iff_eq.2 c0
   clear c0
   have x0 : W2.cell? ⟨gx, 0, none⟩ = some (.int .i64 nd.f0) := (Qb E2.out.x 0).trans rfl
   have o0 : W2.cell? ⟨go, 0, none⟩ = some (.bool false) := (Qb E2.out.o 0).trans rfl
   have z0 : W2.frozen? ⟨go, 0, none⟩ = false := Qf E2.out.o 0
   go_wp2
   go_meet
   exact ⟨_, _, _, ⟨h⟩, ⟨(E2.out).put0 HLT.out.1 HLT.out.2.1 true⟩⟩
  case rest =>
   clear x0
   obtain ⟨n, e, f, HE, E3⟩ := hcut
   obtain ⟨rfl, rfl, rfl⟩ : n = r1 ∧ e = r2 ∧ f = r3 := by simpa using HE.out
   have o0 : wc.cell? ⟨go, 0, none⟩ = some (.bool n) := (Qb E3.out.o 0).trans rfl
   have r0 : wc.cell? ⟨gr, 0, none⟩ = some (.bool false) := (Qb (Qo HR.out E3.out.b) 0).trans rfl
   have z0 : wc.frozen? ⟨gr, 0, none⟩ = false := Qf (Qo HR.out E3.out.b) 0
   have o1 : wc.cell? ⟨go, 1, none⟩ = some (.bool e) := (Qb E3.out.o 1).trans rfl
   have r1 : wc.cell? ⟨gr, 1, none⟩ = some (.bool false) := (Qb (Qo HR.out E3.out.b) 1).trans rfl
   have z1 : wc.frozen? ⟨gr, 1, none⟩ = false := Qf (Qo HR.out E3.out.b) 1
   have o2 : wc.cell? ⟨go, 2, none⟩ = some (.bool f) := (Qb E3.out.o 2).trans rfl
   have r2 : wc.cell? ⟨gr, 2, none⟩ = some (.bool false) := (Qb (Qo HR.out E3.out.b) 2).trans rfl
   have z2 : wc.frozen? ⟨gr, 2, none⟩ = false := Qf (Qo HR.out E3.out.b) 2
   go_wp2
   refine bodyPost_ret (results_cell_row rfl _ _ gr 35 #[.bool n, .bool e, .bool f] (0, 0) _ rfl (blk3 (Qo HR.out E3.out.b) _ _ _) Try.underlying35 rfl (by kernel_rfl)) rfl ⟨rfl, ?_⟩
   exact below3 (Qr HB.out E3.out.b) (by have := HGB.out; have := HGR.out; omega) _ _ _
end Go.Proofs.Ytnaanamibfpbpaa.V
namespace Go.Proofs.Ytnaanamibfpbpaa.V
open Go.RowKit Go.Proofs.YtnaanamibfpbpaaW.PrintWords Go.Proofs.YtnaanamibfpbpaaW.PrintLast Go.Proofs.YtnaanamibfpbpaaW.PrintMore
set_option linter.unusedVariables false
set_option linter.unusedSimpArgs false
attribute [local go_sem high] eq54h
set_option maxHeartbeats 4000000 in
set_option maxRecDepth 100000 in
theorem Qx.calls_s1 (A0_0 : Option Addr) (c0_0 : Nat) (l0_0 : List S39) (A0_1 : Option Addr) (c0_1 : Nat) (l0_1 : List S53) (a1 : Int) (A2 : Option Addr) (c2 : Nat) (l2 : List S35) (r1 r2 r3 : Bool) (w : World)
    (hr0_0 : Kd.C k39 w A0_0 l0_0.length l0_0) (hc0_0 : l0_0.length ≤ c0_0) (hr0_1 : Kd.C k53 w A0_1 l0_1.length l0_1) (hc0_1 : l0_1.length ≤ c0_1) (hr2 : Kd.C k35 w A2 l2.length l2) (hc2 : l2.length ≤ c2)
    (hs : Qa ((Qh l0_1 a1).f0 = 1)) (h : Qx.f l0_0 l0_1 a1 l2 = some (r1, r2, r3)) :
    Calls Try.prog 27 #[.agg #[.slice A0_0 l0_0.length c0_0, .slice A0_1 l0_1.length c0_1], .int .i64 a1, .slice A2 l2.length c2] w fun e w' => e = .returned (.agg #[.bool r1, .bool r2, .bool r3]) ∧ Below w.heap.size w w' := by
  unfold Qx.f at h
  split at h
  case isFalse => exact absurd h (by simp)
  case isTrue hfit =>
  obtain ⟨p2, p3, hfit⟩ := hfit
  have H : Qa (Qx.p l0_0 l2 (Qh l0_1 a1) = (r1, r2, r3)) := ⟨Option.some.inj h⟩
  have HF := Qa.mk hfit
  clear h hfit
  have hu25 := Try.underlying25
  have hu45 := Try.underlying35
  have hu56 := Try.underlying53
  have hu51 := Try.underlying39
  have hu54 := Try.underlying50
  have HB := Qa.mk (Qj (Qj (Below.refl w.heap.size w) (.cells #[.slice A0_0 l0_0.length c0_0, .slice A0_1 l0_1.length c0_1] 25)) (.cells #[.bool false, .bool false, .bool false] 35))
  have HG := Qa.mk (Qd (blk_new w (.cells #[.slice A0_0 l0_0.length c0_0, .slice A0_1 l0_1.length c0_1] 25)) (.cells #[.bool false, .bool false, .bool false] 35))
  have HR := Qa.mk (blk_new (w.alloc (.cells #[.slice A0_0 l0_0.length c0_0, .slice A0_1 l0_1.length c0_1] 25)) (.cells #[.bool false, .bool false, .bool false] 35))
  have hsz : ((w.alloc (.cells #[.slice A0_0 l0_0.length c0_0, .slice A0_1 l0_1.length c0_1] 25)).alloc (.cells #[.bool false, .bool false, .bool false] 35)).heap.size = w.heap.size + 1 + 1 := by rw [Ql1, Ql1]
  rw [Ql1] at HR
  have HC0 := Qa.mk (Kd.Qw hr0_0 HB.out)
  have HC1 := Qa.mk (Kd.Qw hr0_1 HB.out)
  have HC2 := Qa.mk (Kd.Qw hr2 HB.out)
  have HW := Qa.mk hsz
  clear hr0_0 hr0_1 hr2 hsz
  go_enter Try.func27, Try.ntmps27
  go_upto_region 1 with (fail)
  generalize ((w.alloc (.cells #[.slice A0_0 l0_0.length c0_0, .slice A0_1 l0_1.length c0_1] 25)).alloc (.cells #[.bool false, .bool false, .bool false] 35)) = W1 at HB HG HR HC0 HC1 HC2 HW ⊢
  have g0 : W1.cell? ⟨w.heap.size, 0, none⟩ = some (.slice A0_0 l0_0.length c0_0) := (Qb HG.out 0).trans rfl
  have g1 : W1.cell? ⟨w.heap.size, 1, none⟩ = some (.slice A0_1 l0_1.length c0_1) := (Qb HG.out 1).trans rfl
  obtain ⟨ad, Ak, ck, e, k0, k1, k2, k3, k4, k5, k6, hlk, hCk⟩ := at_T53 HC1.out a1 p2 p3
  cases e
  have HCk := Qa.mk hCk
  have HLk := Qa.mk hlk
  clear hCk hlk HC1
  replace p2 := eq_true p2
  replace p3 := eq_true p3
  go_upto_region 3 with (fail)
  generalize Qh l0_1 a1 = nd at *
  obtain ⟨gx, hgx⟩ : ∃ gx, gx = W1.heap.size := ⟨_, rfl⟩
  obtain ⟨go, hgo⟩ : ∃ go, go = gx + 1 := ⟨_, rfl⟩
  obtain ⟨gb, hgb⟩ : ∃ gb, gb = w.heap.size := ⟨_, rfl⟩
  obtain ⟨gr, hgr⟩ : ∃ gr, gr = gb + 1 := ⟨_, rfl⟩
  rw [← hgb] at HW HG HR
  rw [← hgr] at HR
  have E2 : Qa (Env11 W1 gx go #[.int .i64 nd.f0, .slice Ak nd.f1.length ck, .int .i64 nd.f2, .int .u64 nd.f3.f0, .int .u64 nd.f3.f1, .int .u64 nd.f3.f2, .int .u64 nd.f3.f3] ((W1.alloc (.cells #[.int .i64 nd.f0, .slice Ak nd.f1.length ck, .int .i64 nd.f2, .int .u64 nd.f3.f0, .int .u64 nd.f3.f1, .int .u64 nd.f3.f2, .int .u64 nd.f3.f3] 53)).alloc (.cells #[.bool false, .bool false, .bool false] 35)) false false false) := ⟨by rw [hgx]; exact Qd (blk_new W1 (.cells #[.int .i64 nd.f0, .slice Ak nd.f1.length ck, .int .i64 nd.f2, .int .u64 nd.f3.f0, .int .u64 nd.f3.f1, .int .u64 nd.f3.f2, .int .u64 nd.f3.f3] 53)) (.cells #[.bool false, .bool false, .bool false] 35), by rw [hgo, hgx]; have := blk_new (W1.alloc (.cells #[.int .i64 nd.f0, .slice Ak nd.f1.length ck, .int .i64 nd.f2, .int .u64 nd.f3.f0, .int .u64 nd.f3.f1, .int .u64 nd.f3.f2, .int .u64 nd.f3.f3] 53)) (.cells #[.bool false, .bool false, .bool false] 35); rw [Ql1] at this; exact this, Qj (Qj (Below.refl _ _) _) _⟩
  have HLT := Qa.mk (show W1.heap.size ≤ go ∧ gx ≠ go ∧ gb < W1.heap.size ∧ gr < W1.heap.size ∧ gr ≠ go by have := HW.out; omega)
  have HGB := Qa.mk hgb
  have HGR := Qa.mk hgr
  rw [← hgx, ← hgb, ← hgr, ← hgo]
  generalize (W1.alloc (.cells #[.int .i64 nd.f0, .slice Ak nd.f1.length ck, .int .i64 nd.f2, .int .u64 nd.f3.f0, .int .u64 nd.f3.f1, .int .u64 nd.f3.f2, .int .u64 nd.f3.f3] 53)).alloc (.cells #[.bool false, .bool false, .bool false] 35) = W2 at E2 ⊢
  clear k0 k1 k2 k3 k4 k5 k6 g0 g1 HW hgx hgo hgb hgr
  have x0 := (Qb E2.out.x 0).trans rfl
  go_upto_block 0 with fail
  go_cut [] (fun wc => ∃ n e f, Qa ((n, e, f) = (r1, r2, r3)) ∧ Qa (Env11 W1 gx go #[.int .i64 nd.f0, .slice Ak nd.f1.length ck, .int .i64 nd.f2, .int .u64 nd.f3.f0, .int .u64 nd.f3.f1, .int .u64 nd.f3.f2, .int .u64 nd.f3.f3] wc n e f))
  case first =>
   clear x0
   have h := H.out
   clear H
   unfold Qx.p at h
   have c0 : ¬ nd.f0 = 0 := by have := hs.out; omega
   rw [if_neg c0] at h
   have b0 : (nd.f0 == 0) = false := beq_eq_false_iff_ne.2 c0
   go_upto_region 6 with (fail)
   clear b0
   have c1 : nd.f0 = 1 := by have := hs.out; omega
   rw [if_pos c1] at h
   have b1 : (nd.f0 == 1) = true := beq_iff_eq.2 c1
   clear c0 c1
   have x0 : W2.cell? ⟨gx, 0, none⟩ = some (.int .i64 nd.f0) := (Qb E2.out.x 0).trans rfl
   have x3 : W2.cell? ⟨gx, 3, none⟩ = some (.int .u64 nd.f3.f0) := (Qb E2.out.x 3).trans rfl
   have x4 : W2.cell? ⟨gx, 4, none⟩ = some (.int .u64 nd.f3.f1) := (Qb E2.out.x 4).trans rfl
   have x5 : W2.cell? ⟨gx, 5, none⟩ = some (.int .u64 nd.f3.f2) := (Qb E2.out.x 5).trans rfl
   have x6 : W2.cell? ⟨gx, 6, none⟩ = some (.int .u64 nd.f3.f3) := (Qb E2.out.x 6).trans rfl
   have o1 : W2.cell? ⟨go, 1, none⟩ = some (.bool false) := (Qb E2.out.o 1).trans rfl
   have z1 : W2.frozen? ⟨go, 1, none⟩ = false := Qf E2.out.o 1
   have o2 : W2.cell? ⟨go, 2, none⟩ = some (.bool false) := (Qb E2.out.o 2).trans rfl
   have z2 : W2.frozen? ⟨go, 2, none⟩ = false := Qf E2.out.o 2
   go_wp2
   go_meet
   exact ⟨_, _, _, ⟨h⟩, ⟨((E2.out).put1 HLT.out.1 HLT.out.2.1 (!(nd.f3.f0 == 0) || (!(nd.f3.f1 == 0) || (!(nd.f3.f2 == 0) || !(nd.f3.f3 == 0))))).put2 HLT.out.1 HLT.out.2.1 true⟩⟩
  case rest =>
   clear x0
   obtain ⟨n, e, f, HE, E3⟩ := hcut
   obtain ⟨rfl, rfl, rfl⟩ : n = r1 ∧ e = r2 ∧ f = r3 := by simpa using HE.out
   have o0 : wc.cell? ⟨go, 0, none⟩ = some (.bool n) := (Qb E3.out.o 0).trans rfl
   have r0 : wc.cell? ⟨gr, 0, none⟩ = some (.bool false) := (Qb (Qo HR.out E3.out.b) 0).trans rfl
   have z0 : wc.frozen? ⟨gr, 0, none⟩ = false := Qf (Qo HR.out E3.out.b) 0
   have o1 : wc.cell? ⟨go, 1, none⟩ = some (.bool e) := (Qb E3.out.o 1).trans rfl
   have r1 : wc.cell? ⟨gr, 1, none⟩ = some (.bool false) := (Qb (Qo HR.out E3.out.b) 1).trans rfl
   have z1 : wc.frozen? ⟨gr, 1, none⟩ = false := Qf (Qo HR.out E3.out.b) 1
   have o2 : wc.cell? ⟨go, 2, none⟩ = some (.bool f) := (Qb E3.out.o 2).trans rfl
   have r2 : wc.cell? ⟨gr, 2, none⟩ = some (.bool false) := (Qb (Qo HR.out E3.out.b) 2).trans rfl
   have z2 : wc.frozen? ⟨gr, 2, none⟩ = false := Qf (Qo HR.out E3.out.b) 2
   go_wp2
   refine bodyPost_ret (results_cell_row rfl _ _ gr 35 #[.bool n, .bool e, .bool f] (0, 0) _ rfl (blk3 (Qo HR.out E3.out.b) _ _ _) Try.underlying35 rfl (by kernel_rfl)) rfl ⟨rfl, ?_⟩
   exact below3 (Qr HB.out E3.out.b) (by have := HGB.out; have := HGR.out; omega) _ _ _
end Go.Proofs.Ytnaanamibfpbpaa.V
namespace Go.Proofs.Ytnaanamibfpbpaa.V
open Go.RowKit Go.Proofs.YtnaanamibfpbpaaW.PrintWords Go.Proofs.YtnaanamibfpbpaaW.PrintLast Go.Proofs.YtnaanamibfpbpaaW.PrintMore
set_option linter.unusedVariables false
set_option linter.unusedSimpArgs false
attribute [local go_sem high] eq54h
set_option maxHeartbeats 4000000 in
set_option maxRecDepth 100000 in
theorem Qx.calls_s2 (A0_0 : Option Addr) (c0_0 : Nat) (l0_0 : List S39) (A0_1 : Option Addr) (c0_1 : Nat) (l0_1 : List S53) (a1 : Int) (A2 : Option Addr) (c2 : Nat) (l2 : List S35) (r1 r2 r3 : Bool) (w : World)
    (hr0_0 : Kd.C k39 w A0_0 l0_0.length l0_0) (hc0_0 : l0_0.length ≤ c0_0) (hr0_1 : Kd.C k53 w A0_1 l0_1.length l0_1) (hc0_1 : l0_1.length ≤ c0_1) (hr2 : Kd.C k35 w A2 l2.length l2) (hc2 : l2.length ≤ c2)
    (hs : Qa ((Qh l0_1 a1).f0 = 2)) (h : Qx.f l0_0 l0_1 a1 l2 = some (r1, r2, r3)) :
    Calls Try.prog 27 #[.agg #[.slice A0_0 l0_0.length c0_0, .slice A0_1 l0_1.length c0_1], .int .i64 a1, .slice A2 l2.length c2] w fun e w' => e = .returned (.agg #[.bool r1, .bool r2, .bool r3]) ∧ Below w.heap.size w w' := by
  unfold Qx.f at h
  split at h
  case isFalse => exact absurd h (by simp)
  case isTrue hfit =>
  obtain ⟨p2, p3, hfit⟩ := hfit
  have H : Qa (Qx.p l0_0 l2 (Qh l0_1 a1) = (r1, r2, r3)) := ⟨Option.some.inj h⟩
  have HF := Qa.mk hfit
  clear h hfit
  have hu25 := Try.underlying25
  have hu45 := Try.underlying35
  have hu56 := Try.underlying53
  have hu51 := Try.underlying39
  have hu54 := Try.underlying50
  have HB := Qa.mk (Qj (Qj (Below.refl w.heap.size w) (.cells #[.slice A0_0 l0_0.length c0_0, .slice A0_1 l0_1.length c0_1] 25)) (.cells #[.bool false, .bool false, .bool false] 35))
  have HG := Qa.mk (Qd (blk_new w (.cells #[.slice A0_0 l0_0.length c0_0, .slice A0_1 l0_1.length c0_1] 25)) (.cells #[.bool false, .bool false, .bool false] 35))
  have HR := Qa.mk (blk_new (w.alloc (.cells #[.slice A0_0 l0_0.length c0_0, .slice A0_1 l0_1.length c0_1] 25)) (.cells #[.bool false, .bool false, .bool false] 35))
  have hsz : ((w.alloc (.cells #[.slice A0_0 l0_0.length c0_0, .slice A0_1 l0_1.length c0_1] 25)).alloc (.cells #[.bool false, .bool false, .bool false] 35)).heap.size = w.heap.size + 1 + 1 := by rw [Ql1, Ql1]
  rw [Ql1] at HR
  have HC0 := Qa.mk (Kd.Qw hr0_0 HB.out)
  have HC1 := Qa.mk (Kd.Qw hr0_1 HB.out)
  have HC2 := Qa.mk (Kd.Qw hr2 HB.out)
  have HW := Qa.mk hsz
  clear hr0_0 hr0_1 hr2 hsz
  go_enter Try.func27, Try.ntmps27
  go_upto_region 1 with (fail)
  generalize ((w.alloc (.cells #[.slice A0_0 l0_0.length c0_0, .slice A0_1 l0_1.length c0_1] 25)).alloc (.cells #[.bool false, .bool false, .bool false] 35)) = W1 at HB HG HR HC0 HC1 HC2 HW ⊢
  have g0 : W1.cell? ⟨w.heap.size, 0, none⟩ = some (.slice A0_0 l0_0.length c0_0) := (Qb HG.out 0).trans rfl
  have g1 : W1.cell? ⟨w.heap.size, 1, none⟩ = some (.slice A0_1 l0_1.length c0_1) := (Qb HG.out 1).trans rfl
  obtain ⟨ad, Ak, ck, e, k0, k1, k2, k3, k4, k5, k6, hlk, hCk⟩ := at_T53 HC1.out a1 p2 p3
  cases e
  have HCk := Qa.mk hCk
  have HLk := Qa.mk hlk
  clear hCk hlk HC1
  replace p2 := eq_true p2
  replace p3 := eq_true p3
  go_upto_region 3 with (fail)
  generalize Qh l0_1 a1 = nd at *
  obtain ⟨gx, hgx⟩ : ∃ gx, gx = W1.heap.size := ⟨_, rfl⟩
  obtain ⟨go, hgo⟩ : ∃ go, go = gx + 1 := ⟨_, rfl⟩
  obtain ⟨gb, hgb⟩ : ∃ gb, gb = w.heap.size := ⟨_, rfl⟩
  obtain ⟨gr, hgr⟩ : ∃ gr, gr = gb + 1 := ⟨_, rfl⟩
  rw [← hgb] at HW HG HR
  rw [← hgr] at HR
  have E2 : Qa (Env11 W1 gx go #[.int .i64 nd.f0, .slice Ak nd.f1.length ck, .int .i64 nd.f2, .int .u64 nd.f3.f0, .int .u64 nd.f3.f1, .int .u64 nd.f3.f2, .int .u64 nd.f3.f3] ((W1.alloc (.cells #[.int .i64 nd.f0, .slice Ak nd.f1.length ck, .int .i64 nd.f2, .int .u64 nd.f3.f0, .int .u64 nd.f3.f1, .int .u64 nd.f3.f2, .int .u64 nd.f3.f3] 53)).alloc (.cells #[.bool false, .bool false, .bool false] 35)) false false false) := ⟨by rw [hgx]; exact Qd (blk_new W1 (.cells #[.int .i64 nd.f0, .slice Ak nd.f1.length ck, .int .i64 nd.f2, .int .u64 nd.f3.f0, .int .u64 nd.f3.f1, .int .u64 nd.f3.f2, .int .u64 nd.f3.f3] 53)) (.cells #[.bool false, .bool false, .bool false] 35), by rw [hgo, hgx]; have := blk_new (W1.alloc (.cells #[.int .i64 nd.f0, .slice Ak nd.f1.length ck, .int .i64 nd.f2, .int .u64 nd.f3.f0, .int .u64 nd.f3.f1, .int .u64 nd.f3.f2, .int .u64 nd.f3.f3] 53)) (.cells #[.bool false, .bool false, .bool false] 35); rw [Ql1] at this; exact this, Qj (Qj (Below.refl _ _) _) _⟩
  have HLT := Qa.mk (show W1.heap.size ≤ go ∧ gx ≠ go ∧ gb < W1.heap.size ∧ gr < W1.heap.size ∧ gr ≠ go by have := HW.out; omega)
  have HGB := Qa.mk hgb
  have HGR := Qa.mk hgr
  rw [← hgx, ← hgb, ← hgr, ← hgo]
  generalize (W1.alloc (.cells #[.int .i64 nd.f0, .slice Ak nd.f1.length ck, .int .i64 nd.f2, .int .u64 nd.f3.f0, .int .u64 nd.f3.f1, .int .u64 nd.f3.f2, .int .u64 nd.f3.f3] 53)).alloc (.cells #[.bool false, .bool false, .bool false] 35) = W2 at E2 ⊢
  clear k0 k1 k2 k3 k4 k5 k6 g0 g1 HW hgx hgo hgb hgr
  have x0 := (Qb E2.out.x 0).trans rfl
  go_upto_block 0 with fail
  go_cut [] (fun wc => ∃ n e f, Qa ((n, e, f) = (r1, r2, r3)) ∧ Qa (Env11 W1 gx go #[.int .i64 nd.f0, .slice Ak nd.f1.length ck, .int .i64 nd.f2, .int .u64 nd.f3.f0, .int .u64 nd.f3.f1, .int .u64 nd.f3.f2, .int .u64 nd.f3.f3] wc n e f))
  case first =>
   clear x0
   have h := H.out
   clear H
   unfold Qx.p at h
   have c0 : ¬ nd.f0 = 0 := by have := hs.out; omega
   rw [if_neg c0] at h
   have b0 : (nd.f0 == 0) = false := beq_eq_false_iff_ne.2 c0
   go_upto_region 6 with (fail)
   clear b0
   have c1 : ¬ nd.f0 = 1 := by have := hs.out; omega
   rw [if_neg c1] at h
   have b1 : (nd.f0 == 1) = false := beq_eq_false_iff_ne.2 c1
   go_upto_region 9 with (fail)
   clear b1
   have c2 : nd.f0 = 2 := by have := hs.out; omega
   rw [if_pos c2] at h
   have b2 : (nd.f0 == 2) = true := beq_iff_eq.2 c2
   obtain ⟨q0, q1, q2, q3⟩ := HF.out.2.2 c2
   clear c0 c1 c2
   have x0 : W2.cell? ⟨gx, 0, none⟩ = some (.int .i64 nd.f0) := (Qb E2.out.x 0).trans rfl
   have x2 : W2.cell? ⟨gx, 2, none⟩ = some (.int .i64 nd.f2) := (Qb E2.out.x 2).trans rfl
   have o0 : W2.cell? ⟨go, 0, none⟩ = some (.bool false) := (Qb E2.out.o 0).trans rfl
   have z0 : W2.frozen? ⟨go, 0, none⟩ = false := Qf E2.out.o 0
   have o1 : W2.cell? ⟨go, 1, none⟩ = some (.bool false) := (Qb E2.out.o 1).trans rfl
   have z1 : W2.frozen? ⟨go, 1, none⟩ = false := Qf E2.out.o 1
   have o2 : W2.cell? ⟨go, 2, none⟩ = some (.bool false) := (Qb E2.out.o 2).trans rfl
   have z2 : W2.frozen? ⟨go, 2, none⟩ = false := Qf E2.out.o 2
   have g0 : W2.cell? ⟨gb, 0, none⟩ = some (.slice A0_0 l0_0.length c0_0) := (Qb (Qo HG.out E2.out.b) 0).trans rfl
   obtain ⟨ad1, e1, y0, y1⟩ := at_T39 (Kd.Qw HC0.out E2.out.b) nd.f2 q0 q1
   cases e1
   obtain ⟨ad2, e2, u0, u1, u2⟩ := at_T35 (Kd.Qw HC2.out E2.out.b) (Qp l0_0 nd.f2).f1 q2 q3
   cases e2
   replace q0 := eq_true q0
   replace q1 := eq_true q1
   replace q2 := eq_true q2
   replace q3 := eq_true q3
   go_wp2
   go_meet
   exact ⟨_, _, _, ⟨h⟩, ⟨(((E2.out).put0 HLT.out.1 HLT.out.2.1 _).put1 HLT.out.1 HLT.out.2.1 _).put2 HLT.out.1 HLT.out.2.1 _⟩⟩
  case rest =>
   clear x0
   obtain ⟨n, e, f, HE, E3⟩ := hcut
   obtain ⟨rfl, rfl, rfl⟩ : n = r1 ∧ e = r2 ∧ f = r3 := by simpa using HE.out
   have o0 : wc.cell? ⟨go, 0, none⟩ = some (.bool n) := (Qb E3.out.o 0).trans rfl
   have r0 : wc.cell? ⟨gr, 0, none⟩ = some (.bool false) := (Qb (Qo HR.out E3.out.b) 0).trans rfl
   have z0 : wc.frozen? ⟨gr, 0, none⟩ = false := Qf (Qo HR.out E3.out.b) 0
   have o1 : wc.cell? ⟨go, 1, none⟩ = some (.bool e) := (Qb E3.out.o 1).trans rfl
   have r1 : wc.cell? ⟨gr, 1, none⟩ = some (.bool false) := (Qb (Qo HR.out E3.out.b) 1).trans rfl
   have z1 : wc.frozen? ⟨gr, 1, none⟩ = false := Qf (Qo HR.out E3.out.b) 1
   have o2 : wc.cell? ⟨go, 2, none⟩ = some (.bool f) := (Qb E3.out.o 2).trans rfl
   have r2 : wc.cell? ⟨gr, 2, none⟩ = some (.bool false) := (Qb (Qo HR.out E3.out.b) 2).trans rfl
   have z2 : wc.frozen? ⟨gr, 2, none⟩ = false := Qf (Qo HR.out E3.out.b) 2
   go_wp2
   refine bodyPost_ret (results_cell_row rfl _ _ gr 35 #[.bool n, .bool e, .bool f] (0, 0) _ rfl (blk3 (Qo HR.out E3.out.b) _ _ _) Try.underlying35 rfl (by kernel_rfl)) rfl ⟨rfl, ?_⟩
   exact below3 (Qr HB.out E3.out.b) (by have := HGB.out; have := HGR.out; omega) _ _ _
end Go.Proofs.Ytnaanamibfpbpaa.V
namespace Go.Proofs.Ytnaanamibfpbpaa.V
open Go.RowKit Go.Proofs.YtnaanamibfpbpaaW.PrintWords Go.Proofs.YtnaanamibfpbpaaW.PrintLast Go.Proofs.YtnaanamibfpbpaaW.PrintMore
set_option linter.unusedVariables false
set_option linter.unusedSimpArgs false
attribute [local go_sem high] eq54h
set_option maxHeartbeats 4000000 in
set_option maxRecDepth 100000 in
theorem Qx.calls_s3 (A0_0 : Option Addr) (c0_0 : Nat) (l0_0 : List S39) (A0_1 : Option Addr) (c0_1 : Nat) (l0_1 : List S53) (a1 : Int) (A2 : Option Addr) (c2 : Nat) (l2 : List S35) (r1 r2 r3 : Bool) (w : World)
    (hr0_0 : Kd.C k39 w A0_0 l0_0.length l0_0) (hc0_0 : l0_0.length ≤ c0_0) (hr0_1 : Kd.C k53 w A0_1 l0_1.length l0_1) (hc0_1 : l0_1.length ≤ c0_1) (hr2 : Kd.C k35 w A2 l2.length l2) (hc2 : l2.length ≤ c2)
    (hs : Qa ((Qh l0_1 a1).f0 = 3)) (h : Qx.f l0_0 l0_1 a1 l2 = some (r1, r2, r3)) :
    Calls Try.prog 27 #[.agg #[.slice A0_0 l0_0.length c0_0, .slice A0_1 l0_1.length c0_1], .int .i64 a1, .slice A2 l2.length c2] w fun e w' => e = .returned (.agg #[.bool r1, .bool r2, .bool r3]) ∧ Below w.heap.size w w' := by
  unfold Qx.f at h
  split at h
  case isFalse => exact absurd h (by simp)
  case isTrue hfit =>
  obtain ⟨p2, p3, hfit⟩ := hfit
  have H : Qa (Qx.p l0_0 l2 (Qh l0_1 a1) = (r1, r2, r3)) := ⟨Option.some.inj h⟩
  have HF := Qa.mk hfit
  clear h hfit
  have hu25 := Try.underlying25
  have hu45 := Try.underlying35
  have hu56 := Try.underlying53
  have hu51 := Try.underlying39
  have hu54 := Try.underlying50
  have HB := Qa.mk (Qj (Qj (Below.refl w.heap.size w) (.cells #[.slice A0_0 l0_0.length c0_0, .slice A0_1 l0_1.length c0_1] 25)) (.cells #[.bool false, .bool false, .bool false] 35))
  have HG := Qa.mk (Qd (blk_new w (.cells #[.slice A0_0 l0_0.length c0_0, .slice A0_1 l0_1.length c0_1] 25)) (.cells #[.bool false, .bool false, .bool false] 35))
  have HR := Qa.mk (blk_new (w.alloc (.cells #[.slice A0_0 l0_0.length c0_0, .slice A0_1 l0_1.length c0_1] 25)) (.cells #[.bool false, .bool false, .bool false] 35))
  have hsz : ((w.alloc (.cells #[.slice A0_0 l0_0.length c0_0, .slice A0_1 l0_1.length c0_1] 25)).alloc (.cells #[.bool false, .bool false, .bool false] 35)).heap.size = w.heap.size + 1 + 1 := by rw [Ql1, Ql1]
  rw [Ql1] at HR
  have HC0 := Qa.mk (Kd.Qw hr0_0 HB.out)
  have HC1 := Qa.mk (Kd.Qw hr0_1 HB.out)
  have HC2 := Qa.mk (Kd.Qw hr2 HB.out)
  have HW := Qa.mk hsz
  clear hr0_0 hr0_1 hr2 hsz
  go_enter Try.func27, Try.ntmps27
  go_upto_region 1 with (fail)
  generalize ((w.alloc (.cells #[.slice A0_0 l0_0.length c0_0, .slice A0_1 l0_1.length c0_1] 25)).alloc (.cells #[.bool false, .bool false, .bool false] 35)) = W1 at HB HG HR HC0 HC1 HC2 HW ⊢
  have g0 : W1.cell? ⟨w.heap.size, 0, none⟩ = some (.slice A0_0 l0_0.length c0_0) := (Qb HG.out 0).trans rfl
  have g1 : W1.cell? ⟨w.heap.size, 1, none⟩ = some (.slice A0_1 l0_1.length c0_1) := (Qb HG.out 1).trans rfl
  obtain ⟨ad, Ak, ck, e, k0, k1, k2, k3, k4, k5, k6, hlk, hCk⟩ := at_T53 HC1.out a1 p2 p3
  cases e
  have HCk := Qa.mk hCk
  have HLk := Qa.mk hlk
  clear hCk hlk HC1
  replace p2 := eq_true p2
  replace p3 := eq_true p3
  go_upto_region 3 with (fail)
  generalize Qh l0_1 a1 = nd at *
  obtain ⟨gx, hgx⟩ : ∃ gx, gx = W1.heap.size := ⟨_, rfl⟩
  obtain ⟨go, hgo⟩ : ∃ go, go = gx + 1 := ⟨_, rfl⟩
  obtain ⟨gb, hgb⟩ : ∃ gb, gb = w.heap.size := ⟨_, rfl⟩
  obtain ⟨gr, hgr⟩ : ∃ gr, gr = gb + 1 := ⟨_, rfl⟩
  rw [← hgb] at HW HG HR
  rw [← hgr] at HR
  have E2 : Qa (Env11 W1 gx go #[.int .i64 nd.f0, .slice Ak nd.f1.length ck, .int .i64 nd.f2, .int .u64 nd.f3.f0, .int .u64 nd.f3.f1, .int .u64 nd.f3.f2, .int .u64 nd.f3.f3] ((W1.alloc (.cells #[.int .i64 nd.f0, .slice Ak nd.f1.length ck, .int .i64 nd.f2, .int .u64 nd.f3.f0, .int .u64 nd.f3.f1, .int .u64 nd.f3.f2, .int .u64 nd.f3.f3] 53)).alloc (.cells #[.bool false, .bool false, .bool false] 35)) false false false) := ⟨by rw [hgx]; exact Qd (blk_new W1 (.cells #[.int .i64 nd.f0, .slice Ak nd.f1.length ck, .int .i64 nd.f2, .int .u64 nd.f3.f0, .int .u64 nd.f3.f1, .int .u64 nd.f3.f2, .int .u64 nd.f3.f3] 53)) (.cells #[.bool false, .bool false, .bool false] 35), by rw [hgo, hgx]; have := blk_new (W1.alloc (.cells #[.int .i64 nd.f0, .slice Ak nd.f1.length ck, .int .i64 nd.f2, .int .u64 nd.f3.f0, .int .u64 nd.f3.f1, .int .u64 nd.f3.f2, .int .u64 nd.f3.f3] 53)) (.cells #[.bool false, .bool false, .bool false] 35); rw [Ql1] at this; exact this, Qj (Qj (Below.refl _ _) _) _⟩
  have HLT := Qa.mk (show W1.heap.size ≤ go ∧ gx ≠ go ∧ gb < W1.heap.size ∧ gr < W1.heap.size ∧ gr ≠ go by have := HW.out; omega)
  have HGB := Qa.mk hgb
  have HGR := Qa.mk hgr
  rw [← hgx, ← hgb, ← hgr, ← hgo]
  generalize (W1.alloc (.cells #[.int .i64 nd.f0, .slice Ak nd.f1.length ck, .int .i64 nd.f2, .int .u64 nd.f3.f0, .int .u64 nd.f3.f1, .int .u64 nd.f3.f2, .int .u64 nd.f3.f3] 53)).alloc (.cells #[.bool false, .bool false, .bool false] 35) = W2 at E2 ⊢
  clear k0 k1 k2 k3 k4 k5 k6 g0 g1 HW hgx hgo hgb hgr
  have x0 := (Qb E2.out.x 0).trans rfl
  go_upto_block 0 with fail
  go_cut [] (fun wc => ∃ n e f, Qa ((n, e, f) = (r1, r2, r3)) ∧ Qa (Env11 W1 gx go #[.int .i64 nd.f0, .slice Ak nd.f1.length ck, .int .i64 nd.f2, .int .u64 nd.f3.f0, .int .u64 nd.f3.f1, .int .u64 nd.f3.f2, .int .u64 nd.f3.f3] wc n e f))
  case first =>
   clear x0
   have h := H.out
   clear H
   unfold Qx.p at h
   have c0 : ¬ nd.f0 = 0 := by have := hs.out; omega
   rw [if_neg c0] at h
   have b0 : (nd.f0 == 0) = false := beq_eq_false_iff_ne.2 c0
   go_upto_region 6 with (fail)
   clear b0
   have c1 : ¬ nd.f0 = 1 := by have := hs.out; omega
   rw [if_neg c1] at h
   have b1 : (nd.f0 == 1) = false := beq_eq_false_iff_ne.2 c1
   go_upto_region 9 with (fail)
   clear b1
   have c2 : ¬ nd.f0 = 2 := by have := hs.out; omega
   rw [if_neg c2] at h
   have b2 : (nd.f0 == 2) = false := beq_eq_false_iff_ne.2 c2
   go_upto_region 11 with (fail)
   clear b2
   have c3 : nd.f0 = 3 := by have := hs.out; omega
   rw [if_pos c3] at h
   have b3 : (nd.f0 == 3) = true := beq_iff_eq.2 c3
   clear c0 c1 c2 c3
   have q9 := HCk.out.2.1
   have HMX := Qa.mk q9
   clear q9
   have o0 : W2.cell? ⟨go, 0, none⟩ = some (.bool false) := (Qb E2.out.o 0).trans rfl
   have z0 : W2.frozen? ⟨go, 0, none⟩ = false := Qf E2.out.o 0
   go_upto_block 1 with fail
   have EV0 := Qa.mk ((E2.out).put0 HLT.out.1 HLT.out.2.1 true)
   generalize W2.setCell ⟨go, 0, none⟩ (.bool true) = V0 at EV0 ⊢
   clear o0 z0
   go_cut [9] (fun v9 wc => ∃ (n e f al : Bool), v9 = .bool al ∧ Qa ((n, e && al, f) = (r1, r2, r3)) ∧ Qa (Env11 W1 gx go #[.int .i64 nd.f0, .slice Ak nd.f1.length ck, .int .i64 nd.f2, .int .u64 nd.f3.f0, .int .u64 nd.f3.f1, .int .u64 nd.f3.f2, .int .u64 nd.f3.f3] wc n e f))
   case first =>
    go_wp2
    go_loopg [9, 10] nd.f1.length (fun kq v9 v10 w' => ∃ (n e f : Bool) (al : Bool) (j : Int), v9 = .bool al ∧ v10 = .int .i64 j ∧ Qa (0 ≤ j ∧ j ≤ (nd.f1.length : Int) ∧ kq + j.toNat = nd.f1.length) ∧ Qa (Qx.seqF l2 (nd.f1.drop j.toNat) n e f al = (r1, r2, r3)) ∧ Qa (al = (nd.f1.take j.toNat).all (okk l2)) ∧ Qa (Env11 W1 gx go #[.int .i64 nd.f0, .slice Ak nd.f1.length ck, .int .i64 nd.f2, .int .u64 nd.f3.f0, .int .u64 nd.f3.f1, .int .u64 nd.f3.f2, .int .u64 nd.f3.f3] w' n e f))
    case atStart => exact ⟨_, _, _, true, 0, rfl, rfl, ⟨by omega⟩, ⟨h⟩, ⟨rfl⟩, EV0⟩
    case round =>
     clear h EV0 E2
     obtain ⟨n, e, f, al, j, rfl, rfl, HJ, HA, HBV, E⟩ := hrel
     by_cases cj : j < (nd.f1.length : Int)
     ·
      have cjb : decide (j < (nd.f1.length : Int)) = true := decide_eq_true cj
      have kap : Qa (0 ≤ j) := ⟨by (have := HJ.out; omega)⟩
      have kaq : Qa (j < (nd.f1.length : Int)) := ⟨by (have := HJ.out; omega)⟩
      have kar := Qa.mk (HF.out.1 (rd nd.f1 j) (rd_memh nd.f1 j kap.out kaq.out)).1
      have kas := Qa.mk (HF.out.1 (rd nd.f1 j) (rd_memh nd.f1 j kap.out kaq.out)).2
      have kapt := eq_true kap.out
      have kaqt := eq_true kaq.out
      have kart := eq_true kar.out
      have kast := eq_true kas.out
      have h := HA.out
      rw [drop_rd nd.f1 j kap.out kaq.out] at h
      rw [Qx.seqF] at h
      clear HA cj
      obtain ⟨f0, f1, f2, hfx⟩ : ∃ f0 f1 f2, rd_T35 l2 (rd nd.f1 j) = ⟨f0, f1, f2⟩ := ⟨_, _, _, rfl⟩
      rw [hfx] at h
      dsimp only at h
      have HFX := Qa.mk hfx
      have HA := Qa.mk h
      clear hfx h
      obtain ⟨ad1, he1, kay⟩ := Kd.at_int (Kd.Qw HCk.out E.out.b) j kap.out kaq.out
      have x1 : wr.cell? ⟨gx, 1, none⟩ = some (.slice (some ad1) nd.f1.length ck) := by rw [← he1]; exact (Qb E.out.x 1).trans rfl
      clear he1
      obtain ⟨ad2, e2, kau0, kau1, kau2⟩ := at_T35 (Kd.Qw HC2.out E.out.b) (rd nd.f1 j) kar.out kas.out
      cases e2
      rw [HFX.out] at kau0 kau1 kau2
      dsimp only at kau0 kau1 kau2
      go_upto_region 18 with (fail)
      obtain ⟨gf, hgf⟩ : ∃ gf, gf = wr.heap.size := ⟨_, rfl⟩
      have EA := Qa.mk (E.out.below (Qj (Below.refl _ _) (.cells #[.bool f0, .bool f1, .bool f2] 35)))
      have BF := Qa.mk (blk_new wr (.cells #[.bool f0, .bool f1, .bool f2] 35))
      rw [← hgf] at BF ⊢
      have hne : Qa (gf ≠ go) := ⟨by have := Qu E.out.o; omega⟩
      generalize wr.alloc (.cells #[.bool f0, .bool f1, .bool f2] 35) = V1 at EA BF ⊢
      clear hgf E x1 kay kau0 kau1 kau2 cjb
      clear kapt kaqt kart kast
      go_cut [] (fun wc => Qa (Env11 W1 gx go #[.int .i64 nd.f0, .slice Ak nd.f1.length ck, .int .i64 nd.f2, .int .u64 nd.f3.f0, .int .u64 nd.f3.f1, .int .u64 nd.f3.f2, .int .u64 nd.f3.f3] wc (n && f0) (e) (f)) ∧ Qa (wc.heap[gf]? = some (.cells #[.bool f0, .bool f1, .bool f2] 35 (0, 0))))
      case first =>
       have o0 : V1.cell? ⟨go, 0, none⟩ = some (.bool (n)) := (Qb EA.out.o 0).trans rfl
       have z0 : V1.frozen? ⟨go, 0, none⟩ = false := Qf EA.out.o 0
       have g0 : V1.cell? ⟨gf, 0, none⟩ = some (.bool f0) := (Qb BF.out 0).trans rfl
       cases n with
       | true =>
         go_wp2
         go_meet
         exact ⟨⟨EA.out.put0 HLT.out.1 HLT.out.2.1 _⟩, ⟨Qn BF.out (p := ⟨go, 0, none⟩) hne.out _⟩⟩
       | false =>
         go_wp2
         go_meet
         exact ⟨⟨EA.out.put0 HLT.out.1 HLT.out.2.1 _⟩, ⟨Qn BF.out (p := ⟨go, 0, none⟩) hne.out _⟩⟩
      case rest =>
       clear EA BF
       obtain ⟨E, BF⟩ := hcut
       go_upto_block 3 with fail
       go_cut [12] (fun v12 wc => v12 = .bool al ∧ Qa (Env11 W1 gx go #[.int .i64 nd.f0, .slice Ak nd.f1.length ck, .int .i64 nd.f2, .int .u64 nd.f3.f0, .int .u64 nd.f3.f1, .int .u64 nd.f3.f2, .int .u64 nd.f3.f3] wc (n && f0) (e) (f)) ∧ Qa (wc.heap[gf]? = some (.cells #[.bool f0, .bool f1, .bool f2] 35 (0, 0))))
       case first =>
        go_wp2
        go_loopg [12, 13] j.toNat (fun kq v12 v13 w' => ∃ (bf : Bool) (m : Int), v12 = .bool bf ∧ v13 = .int .i64 m ∧ Qa (0 ≤ m ∧ m ≤ j ∧ kq + m.toNat = j.toNat) ∧ Qa (bf = (nd.f1.take m.toNat).all (okk l2)) ∧ Qa (Env11 W1 gx go #[.int .i64 nd.f0, .slice Ak nd.f1.length ck, .int .i64 nd.f2, .int .u64 nd.f3.f0, .int .u64 nd.f3.f1, .int .u64 nd.f3.f2, .int .u64 nd.f3.f3] w' (n && f0) (e) (f)) ∧ Qa (w'.heap[gf]? = some (.cells #[.bool f0, .bool f1, .bool f2] 35 (0, 0))))
        case atStart => exact ⟨true, 0, rfl, rfl, ⟨by have := HJ.out; omega⟩, ⟨rfl⟩, E, BF⟩
        case round =>
         clear E BF
         obtain ⟨bf, m, rfl, rfl, HM, HBF, E, BF⟩ := hrel
         by_cases cm : m < j
         ·
          have cmb : decide (m < j) = true := decide_eq_true cm
          have kbp : Qa (0 ≤ m) := ⟨by (have := HM.out; have := HJ.out; have := kaq.out; omega)⟩
          have kbq : Qa (m < (nd.f1.length : Int)) := ⟨by (have := HM.out; have := HJ.out; have := kaq.out; omega)⟩
          have kbr := Qa.mk (HF.out.1 (rd nd.f1 m) (rd_memh nd.f1 m kbp.out kbq.out)).1
          have kbs := Qa.mk (HF.out.1 (rd nd.f1 m) (rd_memh nd.f1 m kbp.out kbq.out)).2
          have kbpt := eq_true kbp.out
          have kbqt := eq_true kbq.out
          have kbrt := eq_true kbr.out
          have kbst := eq_true kbs.out
          have hw := wrap_next m nd.f1.length kbp.out kbq.out HMX.out
          have HWm := Qa.mk hw
          have HCM := Qa.mk cm
          clear hw cm
          cases bf with
          | true =>
            obtain ⟨g0, g1, g2, hgx⟩ : ∃ g0 g1 g2, rd_T35 l2 (rd nd.f1 m) = ⟨g0, g1, g2⟩ := ⟨_, _, _, rfl⟩
            have HGX := Qa.mk hgx
            clear hgx
            obtain ⟨ad1, he1, kby⟩ := Kd.at_int (Kd.Qw HCk.out E.out.b) m kbp.out kbq.out
            have x1 : wr.cell? ⟨gx, 1, none⟩ = some (.slice (some ad1) nd.f1.length ck) := by rw [← he1]; exact (Qb E.out.x 1).trans rfl
            clear he1
            obtain ⟨ad2, e2, kbu0, kbu1, kbu2⟩ := at_T35 (Kd.Qw HC2.out E.out.b) (rd nd.f1 m) kbr.out kbs.out
            cases e2
            rw [HGX.out] at kbu0 kbu1 kbu2
            dsimp only at kbu0 kbu1 kbu2
            go_wp2_with (
              go_at_call 34
              refine (vetchref11_ok.calls g0 g1 g2 (g0 || g1) _ (by cases g0 <;> rfl)).mono ?_
              rintro e_ V2 ⟨rfl, hb_⟩
              have HB_ := Qa.mk hb_
              clear hb_)
            go_roundg (gk - 1)
            case measure => have := HM.out; have := HCM.out; omega
            case rel => exact ⟨(g0 || g1), wrap64 (m + 1), rfl, rfl, ⟨by rw [HWm.out]; have := HM.out; have := HCM.out; omega⟩, ⟨by rw [HWm.out, all_rd _ nd.f1 m kbp.out kbq.out, ← HBF.out]; simp [okk, HGX.out]⟩, ⟨E.out.below HB_.out⟩, ⟨Qo BF.out HB_.out⟩⟩
          | false =>
            go_wp2
            go_roundg (gk - 1)
            case measure => have := HM.out; have := HCM.out; omega
            case rel => exact ⟨false, wrap64 (m + 1), rfl, rfl, ⟨by rw [HWm.out]; have := HM.out; have := HCM.out; omega⟩, ⟨by rw [HWm.out, all_rd _ nd.f1 m kbp.out kbq.out, ← HBF.out]; rfl⟩, E, BF⟩
         have cmb : decide (m < j) = false := decide_eq_false cm
         have HCM := Qa.mk cm
         clear cm
         go_wp2
         go_meet
         exact ⟨by rw [HBV.out, HBF.out, show m = j by have := HM.out; have := HCM.out; omega], E, BF⟩
       case rest =>
        clear E BF
        obtain ⟨rfl, E, BF⟩ := hcut
        go_upto_region 24 with (fail)
        go_cut [] (fun wc => Qa (Env11 W1 gx go #[.int .i64 nd.f0, .slice Ak nd.f1.length ck, .int .i64 nd.f2, .int .u64 nd.f3.f0, .int .u64 nd.f3.f1, .int .u64 nd.f3.f2, .int .u64 nd.f3.f3] wc (n && f0) (e) (f || (f2 && al))) ∧ Qa (wc.heap[gf]? = some (.cells #[.bool f0, .bool f1, .bool f2] 35 (0, 0))))
        case first =>
         have o2 : wc.cell? ⟨go, 2, none⟩ = some (.bool (f)) := (Qb E.out.o 2).trans rfl
         have z2 : wc.frozen? ⟨go, 2, none⟩ = false := Qf E.out.o 2
         have g2 : wc.cell? ⟨gf, 2, none⟩ = some (.bool f2) := (Qb BF.out 2).trans rfl
         cases f with
         | true =>
           go_wp2
           go_meet
           exact ⟨⟨E.out.put2 HLT.out.1 HLT.out.2.1 _⟩, ⟨Qn BF.out (p := ⟨go, 2, none⟩) hne.out _⟩⟩
         | false =>
           cases f2 with
           | true =>
             go_wp2
             go_meet
             exact ⟨⟨E.out.put2 HLT.out.1 HLT.out.2.1 _⟩, ⟨Qn BF.out (p := ⟨go, 2, none⟩) hne.out _⟩⟩
           | false =>
             go_wp2
             go_meet
             exact ⟨⟨E.out.put2 HLT.out.1 HLT.out.2.1 _⟩, ⟨Qn BF.out (p := ⟨go, 2, none⟩) hne.out _⟩⟩
        case rest =>
         clear E BF
         obtain ⟨E, BF⟩ := hcut
         go_upto_region 25 with (fail)
         go_cut [9] (fun v9 wc => v9 = .bool (al && (f0 || f1)) ∧ Qa (Env11 W1 gx go #[.int .i64 nd.f0, .slice Ak nd.f1.length ck, .int .i64 nd.f2, .int .u64 nd.f3.f0, .int .u64 nd.f3.f1, .int .u64 nd.f3.f2, .int .u64 nd.f3.f3] wc (n && f0) (e) (f || (f2 && al))) ∧ Qa (wc.heap[gf]? = some (.cells #[.bool f0, .bool f1, .bool f2] 35 (0, 0))))
         case first =>
          have g0 : wc.cell? ⟨gf, 0, none⟩ = some (.bool f0) := (Qb BF.out 0).trans rfl
          have g1 : wc.cell? ⟨gf, 1, none⟩ = some (.bool f1) := (Qb BF.out 1).trans rfl
          have g2 : wc.cell? ⟨gf, 2, none⟩ = some (.bool f2) := (Qb BF.out 2).trans rfl
          cases al with
          | true =>
            go_wp2_with (
              go_at_call 34
              refine (vetchref11_ok.calls f0 f1 f2 (f0 || f1) _ (by cases f0 <;> rfl)).mono ?_
              rintro e_ V2 ⟨rfl, hb_⟩
              have HB_ := Qa.mk hb_
              clear hb_)
            go_meet
            exact ⟨rfl, ⟨E.out.below HB_.out⟩, ⟨Qo BF.out HB_.out⟩⟩
          | false =>
            go_wp2
            go_meet
            exact ⟨rfl, E, BF⟩
         case rest =>
          clear E BF
          obtain ⟨rfl, E, BF⟩ := hcut
          have hw := wrap_next j nd.f1.length kap.out kaq.out HMX.out
          have HWj := Qa.mk hw
          clear hw
          go_upto_region 26 with (fail)
          have o1 : wc.cell? ⟨go, 1, none⟩ = some (.bool (e)) := (Qb E.out.o 1).trans rfl
          have z1 : wc.frozen? ⟨go, 1, none⟩ = false := Qf E.out.o 1
          have g1 : wc.cell? ⟨gf, 1, none⟩ = some (.bool f1) := (Qb BF.out 1).trans rfl
          cases e with
          | true =>
            go_wp2
            go_roundg (gk - 1)
            case measure => have := HJ.out; have := kaq.out; omega
            case rel => exact ⟨_, _, _, (al && (f0 || f1)), wrap64 (j + 1), rfl, rfl, ⟨by rw [HWj.out]; have := HJ.out; have := kaq.out; omega⟩, ⟨by rw [HWj.out]; exact HA.out⟩, ⟨by rw [HWj.out, all_rd _ nd.f1 j kap.out kaq.out, ← HBV.out]; simp [okk, HFX.out]⟩, ⟨E.out.put1 HLT.out.1 HLT.out.2.1 _⟩⟩
          | false =>
            go_wp2
            go_roundg (gk - 1)
            case measure => have := HJ.out; have := kaq.out; omega
            case rel => exact ⟨_, _, _, (al && (f0 || f1)), wrap64 (j + 1), rfl, rfl, ⟨by rw [HWj.out]; have := HJ.out; have := kaq.out; omega⟩, ⟨by rw [HWj.out]; exact HA.out⟩, ⟨by rw [HWj.out, all_rd _ nd.f1 j kap.out kaq.out, ← HBV.out]; simp [okk, HFX.out]⟩, ⟨E.out.put1 HLT.out.1 HLT.out.2.1 _⟩⟩
     have cjb : decide (j < (nd.f1.length : Int)) = false := decide_eq_false cj
     have h := HA.out
     rw [drop_end nd.f1 j cj] at h
     clear cj
     have x1 := (Qb E.out.x 1).trans rfl
     go_wp2
     go_meet
     exact ⟨n, e, f, al, rfl, ⟨h⟩, E⟩
   case rest =>
    clear EV0 E2 h
    obtain ⟨n, e, f, al, rfl, HE, E⟩ := hcut
    have o1 : wc.cell? ⟨go, 1, none⟩ = some (.bool e) := (Qb E.out.o 1).trans rfl
    have z1 : wc.frozen? ⟨go, 1, none⟩ = false := Qf E.out.o 1
    cases e with
    | true =>
      go_wp2
      go_meet
      exact ⟨_, _, _, HE, ⟨E.out.put1 HLT.out.1 HLT.out.2.1 _⟩⟩
    | false =>
      go_wp2
      go_meet
      exact ⟨_, _, _, HE, ⟨E.out.put1 HLT.out.1 HLT.out.2.1 _⟩⟩
  case rest =>
   clear x0
   obtain ⟨n, e, f, HE, E3⟩ := hcut
   obtain ⟨rfl, rfl, rfl⟩ : n = r1 ∧ e = r2 ∧ f = r3 := by simpa using HE.out
   have o0 : wc.cell? ⟨go, 0, none⟩ = some (.bool n) := (Qb E3.out.o 0).trans rfl
   have r0 : wc.cell? ⟨gr, 0, none⟩ = some (.bool false) := (Qb (Qo HR.out E3.out.b) 0).trans rfl
   have z0 : wc.frozen? ⟨gr, 0, none⟩ = false := Qf (Qo HR.out E3.out.b) 0
   have o1 : wc.cell? ⟨go, 1, none⟩ = some (.bool e) := (Qb E3.out.o 1).trans rfl
   have r1 : wc.cell? ⟨gr, 1, none⟩ = some (.bool false) := (Qb (Qo HR.out E3.out.b) 1).trans rfl
   have z1 : wc.frozen? ⟨gr, 1, none⟩ = false := Qf (Qo HR.out E3.out.b) 1
   have o2 : wc.cell? ⟨go, 2, none⟩ = some (.bool f) := (Qb E3.out.o 2).trans rfl
   have r2 : wc.cell? ⟨gr, 2, none⟩ = some (.bool false) := (Qb (Qo HR.out E3.out.b) 2).trans rfl
   have z2 : wc.frozen? ⟨gr, 2, none⟩ = false := Qf (Qo HR.out E3.out.b) 2
   go_wp2
   refine bodyPost_ret (results_cell_row rfl _ _ gr 35 #[.bool n, .bool e, .bool f] (0, 0) _ rfl (blk3 (Qo HR.out E3.out.b) _ _ _) Try.underlying35 rfl (by kernel_rfl)) rfl ⟨rfl, ?_⟩
   exact below3 (Qr HB.out E3.out.b) (by have := HGB.out; have := HGR.out; omega) _ _ _
end Go.Proofs.Ytnaanamibfpbpaa.V
namespace Go.Proofs.Ytnaanamibfpbpaa.V
open Go.RowKit Go.Proofs.YtnaanamibfpbpaaW.PrintWords Go.Proofs.YtnaanamibfpbpaaW.PrintLast Go.Proofs.YtnaanamibfpbpaaW.PrintMore
set_option linter.unusedVariables false
set_option linter.unusedSimpArgs false
attribute [local go_sem high] eq54h
set_option maxHeartbeats 4000000 in
set_option maxRecDepth 100000 in
theorem Qx.calls_s4 (A0_0 : Option Addr) (c0_0 : Nat) (l0_0 : List S39) (A0_1 : Option Addr) (c0_1 : Nat) (l0_1 : List S53) (a1 : Int) (A2 : Option Addr) (c2 : Nat) (l2 : List S35) (r1 r2 r3 : Bool) (w : World)
    (hr0_0 : Kd.C k39 w A0_0 l0_0.length l0_0) (hc0_0 : l0_0.length ≤ c0_0) (hr0_1 : Kd.C k53 w A0_1 l0_1.length l0_1) (hc0_1 : l0_1.length ≤ c0_1) (hr2 : Kd.C k35 w A2 l2.length l2) (hc2 : l2.length ≤ c2)
    (hs : Qa ((Qh l0_1 a1).f0 = 4)) (h : Qx.f l0_0 l0_1 a1 l2 = some (r1, r2, r3)) :
    Calls Try.prog 27 #[.agg #[.slice A0_0 l0_0.length c0_0, .slice A0_1 l0_1.length c0_1], .int .i64 a1, .slice A2 l2.length c2] w fun e w' => e = .returned (.agg #[.bool r1, .bool r2, .bool r3]) ∧ Below w.heap.size w w' := by
  unfold Qx.f at h
  split at h
  case isFalse => exact absurd h (by simp)
  case isTrue hfit =>
  obtain ⟨p2, p3, hfit⟩ := hfit
  have H : Qa (Qx.p l0_0 l2 (Qh l0_1 a1) = (r1, r2, r3)) := ⟨Option.some.inj h⟩
  have HF := Qa.mk hfit
  clear h hfit
  have hu25 := Try.underlying25
  have hu45 := Try.underlying35
  have hu56 := Try.underlying53
  have hu51 := Try.underlying39
  have hu54 := Try.underlying50
  have HB := Qa.mk (Qj (Qj (Below.refl w.heap.size w) (.cells #[.slice A0_0 l0_0.length c0_0, .slice A0_1 l0_1.length c0_1] 25)) (.cells #[.bool false, .bool false, .bool false] 35))
  have HG := Qa.mk (Qd (blk_new w (.cells #[.slice A0_0 l0_0.length c0_0, .slice A0_1 l0_1.length c0_1] 25)) (.cells #[.bool false, .bool false, .bool false] 35))
  have HR := Qa.mk (blk_new (w.alloc (.cells #[.slice A0_0 l0_0.length c0_0, .slice A0_1 l0_1.length c0_1] 25)) (.cells #[.bool false, .bool false, .bool false] 35))
  have hsz : ((w.alloc (.cells #[.slice A0_0 l0_0.length c0_0, .slice A0_1 l0_1.length c0_1] 25)).alloc (.cells #[.bool false, .bool false, .bool false] 35)).heap.size = w.heap.size + 1 + 1 := by rw [Ql1, Ql1]
  rw [Ql1] at HR
  have HC0 := Qa.mk (Kd.Qw hr0_0 HB.out)
  have HC1 := Qa.mk (Kd.Qw hr0_1 HB.out)
  have HC2 := Qa.mk (Kd.Qw hr2 HB.out)
  have HW := Qa.mk hsz
  clear hr0_0 hr0_1 hr2 hsz
  go_enter Try.func27, Try.ntmps27
  go_upto_region 1 with (fail)
  generalize ((w.alloc (.cells #[.slice A0_0 l0_0.length c0_0, .slice A0_1 l0_1.length c0_1] 25)).alloc (.cells #[.bool false, .bool false, .bool false] 35)) = W1 at HB HG HR HC0 HC1 HC2 HW ⊢
  have g0 : W1.cell? ⟨w.heap.size, 0, none⟩ = some (.slice A0_0 l0_0.length c0_0) := (Qb HG.out 0).trans rfl
  have g1 : W1.cell? ⟨w.heap.size, 1, none⟩ = some (.slice A0_1 l0_1.length c0_1) := (Qb HG.out 1).trans rfl
  obtain ⟨ad, Ak, ck, e, k0, k1, k2, k3, k4, k5, k6, hlk, hCk⟩ := at_T53 HC1.out a1 p2 p3
  cases e
  have HCk := Qa.mk hCk
  have HLk := Qa.mk hlk
  clear hCk hlk HC1
  replace p2 := eq_true p2
  replace p3 := eq_true p3
  go_upto_region 3 with (fail)
  generalize Qh l0_1 a1 = nd at *
  obtain ⟨gx, hgx⟩ : ∃ gx, gx = W1.heap.size := ⟨_, rfl⟩
  obtain ⟨go, hgo⟩ : ∃ go, go = gx + 1 := ⟨_, rfl⟩
  obtain ⟨gb, hgb⟩ : ∃ gb, gb = w.heap.size := ⟨_, rfl⟩
  obtain ⟨gr, hgr⟩ : ∃ gr, gr = gb + 1 := ⟨_, rfl⟩
  rw [← hgb] at HW HG HR
  rw [← hgr] at HR
  have E2 : Qa (Env11 W1 gx go #[.int .i64 nd.f0, .slice Ak nd.f1.length ck, .int .i64 nd.f2, .int .u64 nd.f3.f0, .int .u64 nd.f3.f1, .int .u64 nd.f3.f2, .int .u64 nd.f3.f3] ((W1.alloc (.cells #[.int .i64 nd.f0, .slice Ak nd.f1.length ck, .int .i64 nd.f2, .int .u64 nd.f3.f0, .int .u64 nd.f3.f1, .int .u64 nd.f3.f2, .int .u64 nd.f3.f3] 53)).alloc (.cells #[.bool false, .bool false, .bool false] 35)) false false false) := ⟨by rw [hgx]; exact Qd (blk_new W1 (.cells #[.int .i64 nd.f0, .slice Ak nd.f1.length ck, .int .i64 nd.f2, .int .u64 nd.f3.f0, .int .u64 nd.f3.f1, .int .u64 nd.f3.f2, .int .u64 nd.f3.f3] 53)) (.cells #[.bool false, .bool false, .bool false] 35), by rw [hgo, hgx]; have := blk_new (W1.alloc (.cells #[.int .i64 nd.f0, .slice Ak nd.f1.length ck, .int .i64 nd.f2, .int .u64 nd.f3.f0, .int .u64 nd.f3.f1, .int .u64 nd.f3.f2, .int .u64 nd.f3.f3] 53)) (.cells #[.bool false, .bool false, .bool false] 35); rw [Ql1] at this; exact this, Qj (Qj (Below.refl _ _) _) _⟩
  have HLT := Qa.mk (show W1.heap.size ≤ go ∧ gx ≠ go ∧ gb < W1.heap.size ∧ gr < W1.heap.size ∧ gr ≠ go by have := HW.out; omega)
  have HGB := Qa.mk hgb
  have HGR := Qa.mk hgr
  rw [← hgx, ← hgb, ← hgr, ← hgo]
  generalize (W1.alloc (.cells #[.int .i64 nd.f0, .slice Ak nd.f1.length ck, .int .i64 nd.f2, .int .u64 nd.f3.f0, .int .u64 nd.f3.f1, .int .u64 nd.f3.f2, .int .u64 nd.f3.f3] 53)).alloc (.cells #[.bool false, .bool false, .bool false] 35) = W2 at E2 ⊢
  clear k0 k1 k2 k3 k4 k5 k6 g0 g1 HW hgx hgo hgb hgr
  have x0 := (Qb E2.out.x 0).trans rfl
  go_upto_block 0 with fail
  go_cut [] (fun wc => ∃ n e f, Qa ((n, e, f) = (r1, r2, r3)) ∧ Qa (Env11 W1 gx go #[.int .i64 nd.f0, .slice Ak nd.f1.length ck, .int .i64 nd.f2, .int .u64 nd.f3.f0, .int .u64 nd.f3.f1, .int .u64 nd.f3.f2, .int .u64 nd.f3.f3] wc n e f))
  case first =>
   clear x0
   have h := H.out
   clear H
   unfold Qx.p at h
   have c0 : ¬ nd.f0 = 0 := by have := hs.out; omega
   rw [if_neg c0] at h
   have b0 : (nd.f0 == 0) = false := beq_eq_false_iff_ne.2 c0
   go_upto_region 6 with (fail)
   clear b0
   have c1 : ¬ nd.f0 = 1 := by have := hs.out; omega
   rw [if_neg c1] at h
   have b1 : (nd.f0 == 1) = false := beq_eq_false_iff_ne.2 c1
   go_upto_region 9 with (fail)
   clear b1
   have c2 : ¬ nd.f0 = 2 := by have := hs.out; omega
   rw [if_neg c2] at h
   have b2 : (nd.f0 == 2) = false := beq_eq_false_iff_ne.2 c2
   go_upto_region 11 with (fail)
   clear b2
   have c3 : ¬ nd.f0 = 3 := by have := hs.out; omega
   rw [if_neg c3] at h
   have b3 : (nd.f0 == 3) = false := beq_eq_false_iff_ne.2 c3
   go_upto_region 28 with (fail)
   clear b3
   have c4 : nd.f0 = 4 := by have := hs.out; omega
   rw [if_pos c4] at h
   have b4 : (nd.f0 == 4) = true := beq_iff_eq.2 c4
   clear c0 c1 c2 c3 c4
   have q9 := HCk.out.2.1
   have HMX := Qa.mk q9
   clear q9
   have o2 : W2.cell? ⟨go, 2, none⟩ = some (.bool false) := (Qb E2.out.o 2).trans rfl
   have z2 : W2.frozen? ⟨go, 2, none⟩ = false := Qf E2.out.o 2
   go_upto_block 5 with fail
   have EV0 := Qa.mk ((E2.out).put2 HLT.out.1 HLT.out.2.1 true)
   generalize W2.setCell ⟨go, 2, none⟩ (.bool true) = V0 at EV0 ⊢
   clear o2 z2
   go_wp2
   go_loopg [14] nd.f1.length (fun kq v14 w' => ∃ (n e f : Bool) (j : Int), v14 = .int .i64 j ∧ Qa (0 ≤ j ∧ j ≤ (nd.f1.length : Int) ∧ kq + j.toNat = nd.f1.length) ∧ Qa (Qx.choF l2 (nd.f1.drop j.toNat) n e f = (r1, r2, r3)) ∧ Qa (f = (nd.f1.take j.toNat).all (fun c => (rd_T35 l2 c).f2)) ∧ Qa (Env11 W1 gx go #[.int .i64 nd.f0, .slice Ak nd.f1.length ck, .int .i64 nd.f2, .int .u64 nd.f3.f0, .int .u64 nd.f3.f1, .int .u64 nd.f3.f2, .int .u64 nd.f3.f3] w' n e f))
   case atStart => exact ⟨_, _, _, 0, rfl, ⟨by omega⟩, ⟨h⟩, ⟨rfl⟩, EV0⟩
   case round =>
    clear h EV0 E2
    obtain ⟨n, e, f, j, rfl, HJ, HA, HBV, E⟩ := hrel
    by_cases cj : j < (nd.f1.length : Int)
    ·
     have cjb : decide (j < (nd.f1.length : Int)) = true := decide_eq_true cj
     have kap : Qa (0 ≤ j) := ⟨by (have := HJ.out; omega)⟩
     have kaq : Qa (j < (nd.f1.length : Int)) := ⟨by (have := HJ.out; omega)⟩
     have kar := Qa.mk (HF.out.1 (rd nd.f1 j) (rd_memh nd.f1 j kap.out kaq.out)).1
     have kas := Qa.mk (HF.out.1 (rd nd.f1 j) (rd_memh nd.f1 j kap.out kaq.out)).2
     have kapt := eq_true kap.out
     have kaqt := eq_true kaq.out
     have kart := eq_true kar.out
     have kast := eq_true kas.out
     have h := HA.out
     rw [drop_rd nd.f1 j kap.out kaq.out] at h
     rw [Qx.choF] at h
     clear HA cj
     obtain ⟨f0, f1, f2, hfx⟩ : ∃ f0 f1 f2, rd_T35 l2 (rd nd.f1 j) = ⟨f0, f1, f2⟩ := ⟨_, _, _, rfl⟩
     rw [hfx] at h
     dsimp only at h
     have HFX := Qa.mk hfx
     have HA := Qa.mk h
     clear hfx h
     obtain ⟨ad1, he1, kay⟩ := Kd.at_int (Kd.Qw HCk.out E.out.b) j kap.out kaq.out
     have x1 : wr.cell? ⟨gx, 1, none⟩ = some (.slice (some ad1) nd.f1.length ck) := by rw [← he1]; exact (Qb E.out.x 1).trans rfl
     clear he1
     obtain ⟨ad2, e2, kau0, kau1, kau2⟩ := at_T35 (Kd.Qw HC2.out E.out.b) (rd nd.f1 j) kar.out kas.out
     cases e2
     rw [HFX.out] at kau0 kau1 kau2
     dsimp only at kau0 kau1 kau2
     go_upto_region 34 with (fail)
     obtain ⟨gf, hgf⟩ : ∃ gf, gf = wr.heap.size := ⟨_, rfl⟩
     have EA := Qa.mk (E.out.below (Qj (Below.refl _ _) (.cells #[.bool f0, .bool f1, .bool f2] 35)))
     have BF := Qa.mk (blk_new wr (.cells #[.bool f0, .bool f1, .bool f2] 35))
     rw [← hgf] at BF ⊢
     have hne : Qa (gf ≠ go) := ⟨by have := Qu E.out.o; omega⟩
     generalize wr.alloc (.cells #[.bool f0, .bool f1, .bool f2] 35) = V1 at EA BF ⊢
     clear hgf E x1 kay kau0 kau1 kau2 cjb
     clear kapt kaqt kart kast
     go_upto_block 7 with fail
     go_cut [16] (fun v16 wc => v16 = .bool f ∧ Qa (Env11 W1 gx go #[.int .i64 nd.f0, .slice Ak nd.f1.length ck, .int .i64 nd.f2, .int .u64 nd.f3.f0, .int .u64 nd.f3.f1, .int .u64 nd.f3.f2, .int .u64 nd.f3.f3] wc (n) (e) (f)) ∧ Qa (wc.heap[gf]? = some (.cells #[.bool f0, .bool f1, .bool f2] 35 (0, 0))))
     case first =>
      go_wp2
      go_loopg [16, 17] j.toNat (fun kq v16 v17 w' => ∃ (bf : Bool) (m : Int), v16 = .bool bf ∧ v17 = .int .i64 m ∧ Qa (0 ≤ m ∧ m ≤ j ∧ kq + m.toNat = j.toNat) ∧ Qa (bf = (nd.f1.take m.toNat).all (fun c => (rd_T35 l2 c).f2)) ∧ Qa (Env11 W1 gx go #[.int .i64 nd.f0, .slice Ak nd.f1.length ck, .int .i64 nd.f2, .int .u64 nd.f3.f0, .int .u64 nd.f3.f1, .int .u64 nd.f3.f2, .int .u64 nd.f3.f3] w' (n) (e) (f)) ∧ Qa (w'.heap[gf]? = some (.cells #[.bool f0, .bool f1, .bool f2] 35 (0, 0))))
      case atStart => exact ⟨true, 0, rfl, rfl, ⟨by have := HJ.out; omega⟩, ⟨rfl⟩, EA, BF⟩
      case round =>
       clear EA BF
       obtain ⟨bf, m, rfl, rfl, HM, HBF, E, BF⟩ := hrel
       by_cases cm : m < j
       ·
        have cmb : decide (m < j) = true := decide_eq_true cm
        have kbp : Qa (0 ≤ m) := ⟨by (have := HM.out; have := HJ.out; have := kaq.out; omega)⟩
        have kbq : Qa (m < (nd.f1.length : Int)) := ⟨by (have := HM.out; have := HJ.out; have := kaq.out; omega)⟩
        have kbr := Qa.mk (HF.out.1 (rd nd.f1 m) (rd_memh nd.f1 m kbp.out kbq.out)).1
        have kbs := Qa.mk (HF.out.1 (rd nd.f1 m) (rd_memh nd.f1 m kbp.out kbq.out)).2
        have kbpt := eq_true kbp.out
        have kbqt := eq_true kbq.out
        have kbrt := eq_true kbr.out
        have kbst := eq_true kbs.out
        have hw := wrap_next m nd.f1.length kbp.out kbq.out HMX.out
        have HWm := Qa.mk hw
        have HCM := Qa.mk cm
        clear hw cm
        cases bf with
        | true =>
          obtain ⟨g0, g1, g2, hgx⟩ : ∃ g0 g1 g2, rd_T35 l2 (rd nd.f1 m) = ⟨g0, g1, g2⟩ := ⟨_, _, _, rfl⟩
          have HGX := Qa.mk hgx
          clear hgx
          obtain ⟨ad1, he1, kby⟩ := Kd.at_int (Kd.Qw HCk.out E.out.b) m kbp.out kbq.out
          have x1 : wr.cell? ⟨gx, 1, none⟩ = some (.slice (some ad1) nd.f1.length ck) := by rw [← he1]; exact (Qb E.out.x 1).trans rfl
          clear he1
          obtain ⟨ad2, e2, kbu0, kbu1, kbu2⟩ := at_T35 (Kd.Qw HC2.out E.out.b) (rd nd.f1 m) kbr.out kbs.out
          cases e2
          rw [HGX.out] at kbu0 kbu1 kbu2
          dsimp only at kbu0 kbu1 kbu2
          go_wp2
          go_roundg (gk - 1)
          case measure => have := HM.out; have := HCM.out; omega
          case rel => exact ⟨g2, wrap64 (m + 1), rfl, rfl, ⟨by rw [HWm.out]; have := HM.out; have := HCM.out; omega⟩, ⟨by rw [HWm.out, all_rd _ nd.f1 m kbp.out kbq.out, ← HBF.out]; simp [HGX.out]⟩, E, BF⟩
        | false =>
          go_wp2
          go_roundg (gk - 1)
          case measure => have := HM.out; have := HCM.out; omega
          case rel => exact ⟨false, wrap64 (m + 1), rfl, rfl, ⟨by rw [HWm.out]; have := HM.out; have := HCM.out; omega⟩, ⟨by rw [HWm.out, all_rd _ nd.f1 m kbp.out kbq.out, ← HBF.out]; rfl⟩, E, BF⟩
       have cmb : decide (m < j) = false := decide_eq_false cm
       have HCM := Qa.mk cm
       clear cm
       go_wp2
       go_meet
       exact ⟨by rw [HBV.out, HBF.out, show m = j by have := HM.out; have := HCM.out; omega], E, BF⟩
     case rest =>
      clear EA BF
      obtain ⟨rfl, E, BF⟩ := hcut
      go_upto_region 39 with (fail)
      go_cut [] (fun wc => Qa (Env11 W1 gx go #[.int .i64 nd.f0, .slice Ak nd.f1.length ck, .int .i64 nd.f2, .int .u64 nd.f3.f0, .int .u64 nd.f3.f1, .int .u64 nd.f3.f2, .int .u64 nd.f3.f3] wc (n || (f0 && f)) (e) (f)) ∧ Qa (wc.heap[gf]? = some (.cells #[.bool f0, .bool f1, .bool f2] 35 (0, 0))))
      case first =>
       have o0 : wc.cell? ⟨go, 0, none⟩ = some (.bool (n)) := (Qb E.out.o 0).trans rfl
       have z0 : wc.frozen? ⟨go, 0, none⟩ = false := Qf E.out.o 0
       have g0 : wc.cell? ⟨gf, 0, none⟩ = some (.bool f0) := (Qb BF.out 0).trans rfl
       cases n with
       | true =>
         go_wp2
         go_meet
         exact ⟨⟨E.out.put0 HLT.out.1 HLT.out.2.1 _⟩, ⟨Qn BF.out (p := ⟨go, 0, none⟩) hne.out _⟩⟩
       | false =>
         cases f0 with
         | true =>
           go_wp2
           go_meet
           exact ⟨⟨E.out.put0 HLT.out.1 HLT.out.2.1 _⟩, ⟨Qn BF.out (p := ⟨go, 0, none⟩) hne.out _⟩⟩
         | false =>
           go_wp2
           go_meet
           exact ⟨⟨E.out.put0 HLT.out.1 HLT.out.2.1 _⟩, ⟨Qn BF.out (p := ⟨go, 0, none⟩) hne.out _⟩⟩
      case rest =>
       clear E BF
       obtain ⟨E, BF⟩ := hcut
       go_upto_region 40 with (fail)
       go_cut [] (fun wc => Qa (Env11 W1 gx go #[.int .i64 nd.f0, .slice Ak nd.f1.length ck, .int .i64 nd.f2, .int .u64 nd.f3.f0, .int .u64 nd.f3.f1, .int .u64 nd.f3.f2, .int .u64 nd.f3.f3] wc (n || (f0 && f)) (e || (f1 && f)) (f)) ∧ Qa (wc.heap[gf]? = some (.cells #[.bool f0, .bool f1, .bool f2] 35 (0, 0))))
       case first =>
        have o1 : wc.cell? ⟨go, 1, none⟩ = some (.bool (e)) := (Qb E.out.o 1).trans rfl
        have z1 : wc.frozen? ⟨go, 1, none⟩ = false := Qf E.out.o 1
        have g1 : wc.cell? ⟨gf, 1, none⟩ = some (.bool f1) := (Qb BF.out 1).trans rfl
        cases e with
        | true =>
          go_wp2
          go_meet
          exact ⟨⟨E.out.put1 HLT.out.1 HLT.out.2.1 _⟩, ⟨Qn BF.out (p := ⟨go, 1, none⟩) hne.out _⟩⟩
        | false =>
          cases f1 with
          | true =>
            go_wp2
            go_meet
            exact ⟨⟨E.out.put1 HLT.out.1 HLT.out.2.1 _⟩, ⟨Qn BF.out (p := ⟨go, 1, none⟩) hne.out _⟩⟩
          | false =>
            go_wp2
            go_meet
            exact ⟨⟨E.out.put1 HLT.out.1 HLT.out.2.1 _⟩, ⟨Qn BF.out (p := ⟨go, 1, none⟩) hne.out _⟩⟩
       case rest =>
        clear E BF
        obtain ⟨E, BF⟩ := hcut
        have hw := wrap_next j nd.f1.length kap.out kaq.out HMX.out
        have HWj := Qa.mk hw
        clear hw
        go_upto_region 41 with (fail)
        have o2 : wc.cell? ⟨go, 2, none⟩ = some (.bool (f)) := (Qb E.out.o 2).trans rfl
        have z2 : wc.frozen? ⟨go, 2, none⟩ = false := Qf E.out.o 2
        have g2 : wc.cell? ⟨gf, 2, none⟩ = some (.bool f2) := (Qb BF.out 2).trans rfl
        cases f with
        | true =>
          go_wp2
          go_roundg (gk - 1)
          case measure => have := HJ.out; have := kaq.out; omega
          case rel => exact ⟨_, _, _, wrap64 (j + 1), rfl, ⟨by rw [HWj.out]; have := HJ.out; have := kaq.out; omega⟩, ⟨by rw [HWj.out]; exact HA.out⟩, ⟨by rw [HWj.out, all_rd _ nd.f1 j kap.out kaq.out, ← HBV.out]; simp [HFX.out]⟩, ⟨E.out.put2 HLT.out.1 HLT.out.2.1 _⟩⟩
        | false =>
          go_wp2
          go_roundg (gk - 1)
          case measure => have := HJ.out; have := kaq.out; omega
          case rel => exact ⟨_, _, _, wrap64 (j + 1), rfl, ⟨by rw [HWj.out]; have := HJ.out; have := kaq.out; omega⟩, ⟨by rw [HWj.out]; exact HA.out⟩, ⟨by rw [HWj.out, all_rd _ nd.f1 j kap.out kaq.out, ← HBV.out]; simp [HFX.out]⟩, ⟨E.out.put2 HLT.out.1 HLT.out.2.1 _⟩⟩
    have cjb : decide (j < (nd.f1.length : Int)) = false := decide_eq_false cj
    have h := HA.out
    rw [drop_end nd.f1 j cj] at h
    clear cj
    have x1 := (Qb E.out.x 1).trans rfl
    go_wp2
    go_meet
    exact ⟨_, _, _, ⟨h⟩, E⟩
  case rest =>
   clear x0
   obtain ⟨n, e, f, HE, E3⟩ := hcut
   obtain ⟨rfl, rfl, rfl⟩ : n = r1 ∧ e = r2 ∧ f = r3 := by simpa using HE.out
   have o0 : wc.cell? ⟨go, 0, none⟩ = some (.bool n) := (Qb E3.out.o 0).trans rfl
   have r0 : wc.cell? ⟨gr, 0, none⟩ = some (.bool false) := (Qb (Qo HR.out E3.out.b) 0).trans rfl
   have z0 : wc.frozen? ⟨gr, 0, none⟩ = false := Qf (Qo HR.out E3.out.b) 0
   have o1 : wc.cell? ⟨go, 1, none⟩ = some (.bool e) := (Qb E3.out.o 1).trans rfl
   have r1 : wc.cell? ⟨gr, 1, none⟩ = some (.bool false) := (Qb (Qo HR.out E3.out.b) 1).trans rfl
   have z1 : wc.frozen? ⟨gr, 1, none⟩ = false := Qf (Qo HR.out E3.out.b) 1
   have o2 : wc.cell? ⟨go, 2, none⟩ = some (.bool f) := (Qb E3.out.o 2).trans rfl
   have r2 : wc.cell? ⟨gr, 2, none⟩ = some (.bool false) := (Qb (Qo HR.out E3.out.b) 2).trans rfl
   have z2 : wc.frozen? ⟨gr, 2, none⟩ = false := Qf (Qo HR.out E3.out.b) 2
   go_wp2
   refine bodyPost_ret (results_cell_row rfl _ _ gr 35 #[.bool n, .bool e, .bool f] (0, 0) _ rfl (blk3 (Qo HR.out E3.out.b) _ _ _) Try.underlying35 rfl (by kernel_rfl)) rfl ⟨rfl, ?_⟩
   exact below3 (Qr HB.out E3.out.b) (by have := HGB.out; have := HGR.out; omega) _ _ _
end Go.Proofs.Ytnaanamibfpbpaa.V
namespace Go.Proofs.Ytnaanamibfpbpaa.V
open Go.RowKit Go.Proofs.YtnaanamibfpbpaaW.PrintWords Go.Proofs.YtnaanamibfpbpaaW.PrintLast Go.Proofs.YtnaanamibfpbpaaW.PrintMore
set_option linter.unusedVariables false
set_option linter.unusedSimpArgs false
attribute [local go_sem high] eq54h
set_option maxHeartbeats 4000000 in
set_option maxRecDepth 100000 in
theorem Qx.calls_s5 (A0_0 : Option Addr) (c0_0 : Nat) (l0_0 : List S39) (A0_1 : Option Addr) (c0_1 : Nat) (l0_1 : List S53) (a1 : Int) (A2 : Option Addr) (c2 : Nat) (l2 : List S35) (r1 r2 r3 : Bool) (w : World)
    (hr0_0 : Kd.C k39 w A0_0 l0_0.length l0_0) (hc0_0 : l0_0.length ≤ c0_0) (hr0_1 : Kd.C k53 w A0_1 l0_1.length l0_1) (hc0_1 : l0_1.length ≤ c0_1) (hr2 : Kd.C k35 w A2 l2.length l2) (hc2 : l2.length ≤ c2)
    (hs : Qa ((Qh l0_1 a1).f0 = 5)) (h : Qx.f l0_0 l0_1 a1 l2 = some (r1, r2, r3)) :
    Calls Try.prog 27 #[.agg #[.slice A0_0 l0_0.length c0_0, .slice A0_1 l0_1.length c0_1], .int .i64 a1, .slice A2 l2.length c2] w fun e w' => e = .returned (.agg #[.bool r1, .bool r2, .bool r3]) ∧ Below w.heap.size w w' := by
  unfold Qx.f at h
  split at h
  case isFalse => exact absurd h (by simp)
  case isTrue hfit =>
  obtain ⟨p2, p3, hfit⟩ := hfit
  have H : Qa (Qx.p l0_0 l2 (Qh l0_1 a1) = (r1, r2, r3)) := ⟨Option.some.inj h⟩
  have HF := Qa.mk hfit
  clear h hfit
  have hu25 := Try.underlying25
  have hu45 := Try.underlying35
  have hu56 := Try.underlying53
  have hu51 := Try.underlying39
  have hu54 := Try.underlying50
  have HB := Qa.mk (Qj (Qj (Below.refl w.heap.size w) (.cells #[.slice A0_0 l0_0.length c0_0, .slice A0_1 l0_1.length c0_1] 25)) (.cells #[.bool false, .bool false, .bool false] 35))
  have HG := Qa.mk (Qd (blk_new w (.cells #[.slice A0_0 l0_0.length c0_0, .slice A0_1 l0_1.length c0_1] 25)) (.cells #[.bool false, .bool false, .bool false] 35))
  have HR := Qa.mk (blk_new (w.alloc (.cells #[.slice A0_0 l0_0.length c0_0, .slice A0_1 l0_1.length c0_1] 25)) (.cells #[.bool false, .bool false, .bool false] 35))
  have hsz : ((w.alloc (.cells #[.slice A0_0 l0_0.length c0_0, .slice A0_1 l0_1.length c0_1] 25)).alloc (.cells #[.bool false, .bool false, .bool false] 35)).heap.size = w.heap.size + 1 + 1 := by rw [Ql1, Ql1]
  rw [Ql1] at HR
  have HC0 := Qa.mk (Kd.Qw hr0_0 HB.out)
  have HC1 := Qa.mk (Kd.Qw hr0_1 HB.out)
  have HC2 := Qa.mk (Kd.Qw hr2 HB.out)
  have HW := Qa.mk hsz
  clear hr0_0 hr0_1 hr2 hsz
  go_enter Try.func27, Try.ntmps27
  go_upto_region 1 with (fail)
  generalize ((w.alloc (.cells #[.slice A0_0 l0_0.length c0_0, .slice A0_1 l0_1.length c0_1] 25)).alloc (.cells #[.bool false, .bool false, .bool false] 35)) = W1 at HB HG HR HC0 HC1 HC2 HW ⊢
  have g0 : W1.cell? ⟨w.heap.size, 0, none⟩ = some (.slice A0_0 l0_0.length c0_0) := (Qb HG.out 0).trans rfl
  have g1 : W1.cell? ⟨w.heap.size, 1, none⟩ = some (.slice A0_1 l0_1.length c0_1) := (Qb HG.out 1).trans rfl
  obtain ⟨ad, Ak, ck, e, k0, k1, k2, k3, k4, k5, k6, hlk, hCk⟩ := at_T53 HC1.out a1 p2 p3
  cases e
  have HCk := Qa.mk hCk
  have HLk := Qa.mk hlk
  clear hCk hlk HC1
  replace p2 := eq_true p2
  replace p3 := eq_true p3
  go_upto_region 3 with (fail)
  generalize Qh l0_1 a1 = nd at *
  obtain ⟨gx, hgx⟩ : ∃ gx, gx = W1.heap.size := ⟨_, rfl⟩
  obtain ⟨go, hgo⟩ : ∃ go, go = gx + 1 := ⟨_, rfl⟩
  obtain ⟨gb, hgb⟩ : ∃ gb, gb = w.heap.size := ⟨_, rfl⟩
  obtain ⟨gr, hgr⟩ : ∃ gr, gr = gb + 1 := ⟨_, rfl⟩
  rw [← hgb] at HW HG HR
  rw [← hgr] at HR
  have E2 : Qa (Env11 W1 gx go #[.int .i64 nd.f0, .slice Ak nd.f1.length ck, .int .i64 nd.f2, .int .u64 nd.f3.f0, .int .u64 nd.f3.f1, .int .u64 nd.f3.f2, .int .u64 nd.f3.f3] ((W1.alloc (.cells #[.int .i64 nd.f0, .slice Ak nd.f1.length ck, .int .i64 nd.f2, .int .u64 nd.f3.f0, .int .u64 nd.f3.f1, .int .u64 nd.f3.f2, .int .u64 nd.f3.f3] 53)).alloc (.cells #[.bool false, .bool false, .bool false] 35)) false false false) := ⟨by rw [hgx]; exact Qd (blk_new W1 (.cells #[.int .i64 nd.f0, .slice Ak nd.f1.length ck, .int .i64 nd.f2, .int .u64 nd.f3.f0, .int .u64 nd.f3.f1, .int .u64 nd.f3.f2, .int .u64 nd.f3.f3] 53)) (.cells #[.bool false, .bool false, .bool false] 35), by rw [hgo, hgx]; have := blk_new (W1.alloc (.cells #[.int .i64 nd.f0, .slice Ak nd.f1.length ck, .int .i64 nd.f2, .int .u64 nd.f3.f0, .int .u64 nd.f3.f1, .int .u64 nd.f3.f2, .int .u64 nd.f3.f3] 53)) (.cells #[.bool false, .bool false, .bool false] 35); rw [Ql1] at this; exact this, Qj (Qj (Below.refl _ _) _) _⟩
  have HLT := Qa.mk (show W1.heap.size ≤ go ∧ gx ≠ go ∧ gb < W1.heap.size ∧ gr < W1.heap.size ∧ gr ≠ go by have := HW.out; omega)
  have HGB := Qa.mk hgb
  have HGR := Qa.mk hgr
  rw [← hgx, ← hgb, ← hgr, ← hgo]
  generalize (W1.alloc (.cells #[.int .i64 nd.f0, .slice Ak nd.f1.length ck, .int .i64 nd.f2, .int .u64 nd.f3.f0, .int .u64 nd.f3.f1, .int .u64 nd.f3.f2, .int .u64 nd.f3.f3] 53)).alloc (.cells #[.bool false, .bool false, .bool false] 35) = W2 at E2 ⊢
  clear k0 k1 k2 k3 k4 k5 k6 g0 g1 HW hgx hgo hgb hgr
  have x0 := (Qb E2.out.x 0).trans rfl
  go_upto_block 0 with fail
  go_cut [] (fun wc => ∃ n e f, Qa ((n, e, f) = (r1, r2, r3)) ∧ Qa (Env11 W1 gx go #[.int .i64 nd.f0, .slice Ak nd.f1.length ck, .int .i64 nd.f2, .int .u64 nd.f3.f0, .int .u64 nd.f3.f1, .int .u64 nd.f3.f2, .int .u64 nd.f3.f3] wc n e f))
  case first =>
   clear x0
   have h := H.out
   clear H
   unfold Qx.p at h
   have c0 : ¬ nd.f0 = 0 := by have := hs.out; omega
   rw [if_neg c0] at h
   have b0 : (nd.f0 == 0) = false := beq_eq_false_iff_ne.2 c0
   go_upto_region 6 with (fail)
   clear b0
   have c1 : ¬ nd.f0 = 1 := by have := hs.out; omega
   rw [if_neg c1] at h
   have b1 : (nd.f0 == 1) = false := beq_eq_false_iff_ne.2 c1
   go_upto_region 9 with (fail)
   clear b1
   have c2 : ¬ nd.f0 = 2 := by have := hs.out; omega
   rw [if_neg c2] at h
   have b2 : (nd.f0 == 2) = false := beq_eq_false_iff_ne.2 c2
   go_upto_region 11 with (fail)
   clear b2
   have c3 : ¬ nd.f0 = 3 := by have := hs.out; omega
   rw [if_neg c3] at h
   have b3 : (nd.f0 == 3) = false := beq_eq_false_iff_ne.2 c3
   go_upto_region 28 with (fail)
   clear b3
   have c4 : ¬ nd.f0 = 4 := by have := hs.out; omega
   rw [if_neg c4] at h
   have b4 : (nd.f0 == 4) = false := beq_eq_false_iff_ne.2 c4
   go_upto_region 42 with (fail)
   clear b4
   have c5 : nd.f0 = 5 := by have := hs.out; omega
   rw [if_pos c5] at h
   have b5 : (nd.f0 == 5) = true := beq_iff_eq.2 c5
   have q9 : (0 : Int) < (nd.f1.length : Int) := by have := List.length_pos_iff.2 (HF.out.2.1 (by omega) (by omega)); omega
   obtain ⟨q2, q3⟩ := HF.out.1 (rd nd.f1 0) (rd_memh nd.f1 0 (Int.le_refl 0) q9)
   clear c0 c1 c2 c3 c4 c5
   have HQ2 := Qa.mk q2
   replace q2 := eq_true q2
   have HQ3 := Qa.mk q3
   replace q3 := eq_true q3
   have HQ9 := Qa.mk q9
   replace q9 := eq_true q9
   have q9n : (0 < nd.f1.length) = True := eq_true (by have := HQ9.out; omega)
   obtain ⟨f0, f1, f2, hfx⟩ : ∃ f0 f1 f2, rd_T35 l2 (rd nd.f1 0) = ⟨f0, f1, f2⟩ := ⟨_, _, _, rfl⟩
   rw [hfx] at h
   dsimp only at h
   have HFX := Qa.mk hfx
   clear hfx
   obtain ⟨ad1, e1, y0⟩ := Kd.at_int (Kd.Qw HCk.out E2.out.b) 0 (Int.le_refl 0) HQ9.out
   cases e1
   obtain ⟨ad2, e2, u0, u1, u2⟩ := at_T35 (Kd.Qw HC2.out E2.out.b) (rd nd.f1 0) HQ2.out HQ3.out
   cases e2
   replace y0 : W2.cell? ad1 = some (.int .i64 (rd nd.f1 0)) := by simpa [Addr.add] using y0
   rw [HFX.out] at u0 u1 u2
   dsimp only at u0 u1 u2
   have x0 : W2.cell? ⟨gx, 0, none⟩ = some (.int .i64 nd.f0) := (Qb E2.out.x 0).trans rfl
   have x1 := (Qb E2.out.x 1).trans rfl
   have o0 : W2.cell? ⟨go, 0, none⟩ = some (.bool false) := (Qb E2.out.o 0).trans rfl
   have z0 : W2.frozen? ⟨go, 0, none⟩ = false := Qf E2.out.o 0
   go_upto_region 44 with (fail)
   have EV0 := Qa.mk ((E2.out).put0 HLT.out.1 HLT.out.2.1 f2)
   generalize W2.setCell ⟨go, 0, none⟩ (.bool f2) = V0 at EV0 ⊢
   clear x0 x1 y0 u0 u1 u2 o0 z0
   obtain ⟨ad1, e1, y0⟩ := Kd.at_int (Kd.Qw HCk.out EV0.out.b) 0 (Int.le_refl 0) HQ9.out
   cases e1
   obtain ⟨ad2, e2, u0, u1, u2⟩ := at_T35 (Kd.Qw HC2.out EV0.out.b) (rd nd.f1 0) HQ2.out HQ3.out
   cases e2
   replace y0 : V0.cell? ad1 = some (.int .i64 (rd nd.f1 0)) := by simpa [Addr.add] using y0
   rw [HFX.out] at u0 u1 u2
   dsimp only at u0 u1 u2
   have x0 : V0.cell? ⟨gx, 0, none⟩ = some (.int .i64 nd.f0) := (Qb EV0.out.x 0).trans rfl
   have x1 := (Qb EV0.out.x 1).trans rfl
   have o1 : V0.cell? ⟨go, 1, none⟩ = some (.bool false) := (Qb EV0.out.o 1).trans rfl
   have z1 : V0.frozen? ⟨go, 1, none⟩ = false := Qf EV0.out.o 1
   go_wp2
   go_meet
   exact ⟨_, _, _, ⟨h⟩, ⟨(EV0.out).put1 HLT.out.1 HLT.out.2.1 f1⟩⟩
  case rest =>
   clear x0
   obtain ⟨n, e, f, HE, E3⟩ := hcut
   obtain ⟨rfl, rfl, rfl⟩ : n = r1 ∧ e = r2 ∧ f = r3 := by simpa using HE.out
   have o0 : wc.cell? ⟨go, 0, none⟩ = some (.bool n) := (Qb E3.out.o 0).trans rfl
   have r0 : wc.cell? ⟨gr, 0, none⟩ = some (.bool false) := (Qb (Qo HR.out E3.out.b) 0).trans rfl
   have z0 : wc.frozen? ⟨gr, 0, none⟩ = false := Qf (Qo HR.out E3.out.b) 0
   have o1 : wc.cell? ⟨go, 1, none⟩ = some (.bool e) := (Qb E3.out.o 1).trans rfl
   have r1 : wc.cell? ⟨gr, 1, none⟩ = some (.bool false) := (Qb (Qo HR.out E3.out.b) 1).trans rfl
   have z1 : wc.frozen? ⟨gr, 1, none⟩ = false := Qf (Qo HR.out E3.out.b) 1
   have o2 : wc.cell? ⟨go, 2, none⟩ = some (.bool f) := (Qb E3.out.o 2).trans rfl
   have r2 : wc.cell? ⟨gr, 2, none⟩ = some (.bool false) := (Qb (Qo HR.out E3.out.b) 2).trans rfl
   have z2 : wc.frozen? ⟨gr, 2, none⟩ = false := Qf (Qo HR.out E3.out.b) 2
   go_wp2
   refine bodyPost_ret (results_cell_row rfl _ _ gr 35 #[.bool n, .bool e, .bool f] (0, 0) _ rfl (blk3 (Qo HR.out E3.out.b) _ _ _) Try.underlying35 rfl (by kernel_rfl)) rfl ⟨rfl, ?_⟩
   exact below3 (Qr HB.out E3.out.b) (by have := HGB.out; have := HGR.out; omega) _ _ _
end Go.Proofs.Ytnaanamibfpbpaa.V
