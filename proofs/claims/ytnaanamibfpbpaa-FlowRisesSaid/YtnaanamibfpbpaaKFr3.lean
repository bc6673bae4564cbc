/- The law FlowRises returns true whatever comes in, and leaves its arguments as they were. No condition. -/
import Derived.Test.YtnaanamibfpbpaaKFr2
import Derived.OpenShut
import Derived.Carry
import Derived.Deep.Slices
import Derived.DataElems
import Derived.StillTailTactics
import Derived.Deep.QuietTactic
import Derived.BigQuiet
namespace Go.Proofs.Ytnaanamibfpbpaa.V
open Go.RowKit Go.Proofs.YtnaanamibfpbpaaW.PrintWords Go.Proofs.YtnaanamibfpbpaaW.PrintLast Go.Proofs.YtnaanamibfpbpaaW.PrintMore
attribute [local go_sem] max2_int min2_int max_two min_two max_three min_three max_four min_four tdiv_most
set_option linter.unusedVariables false
set_option linter.unusedSimpArgs false
mutual
def Qq1.l0 : Nat → Int → Int → Int → List (S39) → List (S53) → Option (Int)
 | 0, _, _, _, _, _ => none
 | k + 1, x1, x5, x6, x216000, x216001 => if x6 ≥ 0 then (if 0 ≤ x1 then (if x1 < (x216001.length : Int) then (if 0 ≤ x6 then (if x6 < (((Qh x216001 x1).f1).length : Int) then (if (rd ((Qh x216001 x1).f1) x6) = x5 then ((Qq1.f k x216000 x216001 x5).bind fun t219 => (if t219 = (-2) then (some (-2)) else (Qq1.l0 k x1 t219 (wrap64 (x6 - 1)) x216000 x216001))) else (some (-2))) else (none)) else (none)) else (none)) else (none)) else (some x5)
def Qq1.f : Nat → List (S39) → List (S53) → Int → Option (Int)
 | 0, _, _, _ => none
 | k + 1, l0_0, l0_1, a1 => if a1 < 0 then (some (-2)) else (if 0 ≤ a1 then (if a1 < (l0_1.length : Int) then (Qq1.l0 k a1 (wrap64 (a1 - 1)) (wrap64 ((((Qh l0_1 a1).f1).length : Int) - 1)) l0_0 l0_1) else (none)) else (none))
end
set_option maxHeartbeats 8000000 in
set_option maxRecDepth 100000 in
theorem Qq1.calls (k : Nat) : ∀ (A0_0 : Option Addr) (c0_0 : Nat) (l0_0 : List (S39)) (A0_1 : Option Addr) (c0_1 : Nat) (l0_1 : List (S53)) (a1 : Int) (r : Int) (w : World) (hr0_0 : Kd.C k39 w A0_0 l0_0.length l0_0) (hc0_0 : l0_0.length ≤ c0_0) (hr0_1 : Kd.C k53 w A0_1 l0_1.length l0_1) (hc0_1 : l0_1.length ≤ c0_1) (h : Qq1.f k l0_0 l0_1 a1 = some r),
 Calls Try.prog 42 #[.agg #[.slice A0_0 l0_0.length c0_0, .slice A0_1 l0_1.length c0_1], .int .i64 a1] w fun e w' => e = .returned (.int .i64 r) ∧ Below w.heap.size w w' := by
 induction k using Nat.strongRecOn with
 | _ k ih =>
 intro A0_0 c0_0 l0_0 A0_1 c0_1 l0_1 a1 r w hr0_0 hc0_0 hr0_1 hc0_1 h
 cases k with
 | zero => exact absurd h (by simp [Qq1.f])
 | succ k =>
 simp only [Qq1.f] at h
 have hu25 := Try.underlying25
 have HR0_0 := Qa.mk hr0_0
 have HC0_0 := Qa.mk hc0_0
 clear hr0_0 hc0_0
 have HR0_1 := Qa.mk hr0_1
 have HC0_1 := Qa.mk hc0_1
 clear hr0_1 hc0_1
 have HB := Qa.mk (Below.refl w.heap.size w)
 have H : (if a1 < 0 then (some (-2)) else (if 0 ≤ a1 then (if a1 < (l0_1.length : Int) then (Qq1.l0 k a1 (wrap64 (a1 - 1)) (wrap64 ((((Qh l0_1 a1).f1).length : Int) - 1)) l0_0 l0_1) else (none)) else (none))) = some r := h
 clear h
 by_cases c3 : a1 < 0
 ·
  rw [if_pos c3] at H
  have c3b0 : decide (a1 < 0) = true := decide_eq_true c3
  clear c3
  obtain rfl := Option.some.inj H
  go_enter Try.func42, Try.ntmps42
  go_wp2_with (first | ((with_reducible refine Qg1 (N := 2) rfl ?_); refine Qh1 ?hg (N := 2) ?hd (cs := #[.slice A0_0 l0_0.length c0_0, .slice A0_1 l0_1.length c0_1]) (t := 25) ?hr ?_; (case hd => rfl); (case hg => rfl); (case hr => first | (go_simp; done) | (go_simp; rfl)); intro gb215 hg w4 hbox hb; have n0_ := Qa.mk (Qv (by with_reducible repeat (first | exact HB.out | apply Qk | apply Ql | apply Qj)) hb); have n1_ := Qa.mk (hbox); have n2_ := Qa.mk ((by rw [hg]; exact (Qb1 (by with_reducible repeat (first | exact HB.out | apply Qk | apply Ql | apply Qj))) : w.heap.size ≤ gb215)); have n3_ := n2_; clear HB; have HB := n0_; have BK215 := n1_; have GW215 := n2_; have GE215 := n3_; clear n0_ n1_ n2_ n3_; clear hb hbox hg))
  go_ret
  exact ⟨by first | rfl | (simp [Qw, Qx] <;> rfl) | (simp [*, Qw, Qx] <;> rfl), by with_reducible repeat (first | exact HB.out | apply Qk | apply Ql | apply Qj | refine Qi ?_ GE215.out)⟩
 rw [if_neg c3] at H
 have c3b0 : decide (a1 < 0) = false := decide_eq_false c3
 clear c3
 by_cases c5 : 0 ≤ a1
 rotate_left
 ·
  rw [if_neg c5] at H
  exact absurd H (by simp)
 rw [if_pos c5] at H
 have c5b0 : decide (0 ≤ a1) = true := decide_eq_true c5
 clear c5
 by_cases c6 : a1 < (l0_1.length : Int)
 rotate_left
 ·
  rw [if_neg c6] at H
  exact absurd H (by simp)
 rw [if_pos c6] at H
 have c6b0 : decide (a1 < (l0_1.length : Int)) = true := decide_eq_true c6
 clear c6
 have H' := Qa.mk H
 clear H
 go_enter Try.func42, Try.ntmps42
 go_wp2_with (first | ((with_reducible refine Qg1 (N := 2) rfl ?_); refine Qh1 ?hg (N := 2) ?hd (cs := #[.slice A0_0 l0_0.length c0_0, .slice A0_1 l0_1.length c0_1]) (t := 25) ?hr ?_; (case hd => rfl); (case hg => rfl); (case hr => first | (go_simp; done) | (go_simp; rfl)); intro gb215 hg w7 hbox hb; have n0_ := Qa.mk (Qv (by with_reducible repeat (first | exact HB.out | apply Qk | apply Ql | apply Qj)) hb); have n1_ := Qa.mk (hbox); have n2_ := Qa.mk ((by rw [hg]; exact (Qb1 (by with_reducible repeat (first | exact HB.out | apply Qk | apply Ql | apply Qj))) : w.heap.size ≤ gb215)); have n3_ := n2_; clear HB; have HB := n0_; have BK215 := n1_; have GW215 := n2_; have GE215 := n3_; clear n0_ n1_ n2_ n3_; clear hb hbox hg; have hcz8_0 : w7.cell? ⟨gb215, 0, none⟩ = some (.slice A0_0 l0_0.length c0_0) := (Qe BK215.out 0).trans rfl; have hcz8_1 : w7.cell? ⟨gb215, 1, none⟩ = some (.slice A0_1 l0_1.length c0_1) := (Qe BK215.out 1).trans rfl; have hfz8_0 := Qf BK215.out 0; have hfz8_1 := Qf BK215.out 1; have p216 : 0 ≤ (a1 : Int) := of_decide_eq_true (by assumption); have q216 : a1 < (l0_1.length : Int) := of_decide_eq_true (by assumption); obtain ⟨ad216, A216_1, c216_1, e216, hx216_0, hx216_1, hx216_2, hx216_3, hx216_4, hx216_5, hx216_6, hl216_1, hi216_1⟩ := at_T53 HR0_1.out a1 p216 q216; cases e216; replace hx216_0 := (HB.out.cell (World.block_lt_of_cell? w _ hx216_0)).trans hx216_0; replace hx216_1 := (HB.out.cell (World.block_lt_of_cell? w _ hx216_1)).trans hx216_1; replace hx216_2 := (HB.out.cell (World.block_lt_of_cell? w _ hx216_2)).trans hx216_2; replace hx216_3 := (HB.out.cell (World.block_lt_of_cell? w _ hx216_3)).trans hx216_3; replace hx216_4 := (HB.out.cell (World.block_lt_of_cell? w _ hx216_4)).trans hx216_4; replace hx216_5 := (HB.out.cell (World.block_lt_of_cell? w _ hx216_5)).trans hx216_5; replace hx216_6 := (HB.out.cell (World.block_lt_of_cell? w _ hx216_6)).trans hx216_6; have HR216_1 := Qa.mk hi216_1; have HC216_1 := Qa.mk hl216_1; clear hi216_1 hl216_1; replace p216 := eq_true p216; replace q216 := eq_true q216))
 go_loopg [5, 6] k (fun kq v5 v6 w' => ∃ (x5_1 : Int) (x6_1 : Int), v5 = .int .i64 x5_1 ∧ v6 = .int .i64 x6_1 ∧ Qa (Qq1.l0 kq a1 x5_1 x6_1 l0_0 l0_1 = some r) ∧ Qa (kq ≤ k) ∧ Qa (w'.heap[gb215]? = some (.cells #[(.slice A0_0 l0_0.length c0_0), (.slice (some ad216) l0_1.length c0_1)] 25 (0, 0))) ∧ Qa (Below w.heap.size w w'))
 case atStart => exact ⟨(wrap64 (a1 - 1)), (wrap64 ((((Qh l0_1 a1).f1).length : Int) - 1)), (by first | rfl | (simp; done) | (simp [*]; done)), (by first | rfl | (simp; done) | (simp [*]; done)), H', ⟨Nat.le_refl _⟩, ⟨by (with_reducible repeat (first | refine Qd ?_ _ | refine Qb ?_ | refine Qc ?_ _)); exact BK215.out⟩, ⟨by with_reducible repeat (first | exact HB.out | apply Qk | apply Ql | apply Qj | refine Qi ?_ GE215.out)⟩⟩
 case round =>
  clear H'
  (try clear c2; try clear p2; try clear q2; try clear hx2; try clear c3; try clear c3b0; try clear c4; try clear c5; try clear c5b0; try clear c6; try clear c6b0; try clear p6; try clear hcz8_0; try clear hcz8_1; try clear hfz8_0; try clear hfz8_1; try clear hx216_0; try clear hx216_1; try clear hx216_2; try clear hx216_3; try clear hx216_4; try clear hx216_5; try clear hx216_6; try clear p216; try clear q216)
  obtain ⟨x5_1, x6_1, rfl, rfl, HA, HK1, BK215, HB⟩ := hrel
  cases gk with
  | zero => exact absurd HA.out (by simp [Qq1.l0])
  | succ k1 =>
   have H := HA.out
   clear HA
   simp only [Qq1.l0] at H
   by_cases c9 : x6_1 ≥ 0
   rotate_left
   ·
    rw [if_neg c9] at H
    have c9b0 : decide (0 ≤ x6_1) = false := decide_eq_false c9
    clear c9
    obtain rfl := Option.some.inj H
    go_wp2
    go_ret
    exact ⟨by first | rfl | (simp [Qw, Qx] <;> rfl) | (simp [*, Qw, Qx] <;> rfl), by with_reducible repeat (first | exact HB.out | apply Qk | apply Ql | apply Qj | refine Qi ?_ GE215.out)⟩
   rw [if_pos c9] at H
   have c9b0 : decide (0 ≤ x6_1) = true := decide_eq_true c9
   clear c9
   by_cases c10 : 0 ≤ a1
   rotate_left
   ·
    rw [if_neg c10] at H
    exact absurd H (by simp)
   rw [if_pos c10] at H
   have c10b0 : decide (0 ≤ a1) = true := decide_eq_true c10
   clear c10
   by_cases c11 : a1 < (l0_1.length : Int)
   rotate_left
   ·
    rw [if_neg c11] at H
    exact absurd H (by simp)
   rw [if_pos c11] at H
   have c11b0 : decide (a1 < (l0_1.length : Int)) = true := decide_eq_true c11
   clear c11
   by_cases c12 : 0 ≤ x6_1
   rotate_left
   ·
    rw [if_neg c12] at H
    exact absurd H (by simp)
   rw [if_pos c12] at H
   have c12b0 : decide (0 ≤ x6_1) = true := decide_eq_true c12
   clear c12
   by_cases c13 : x6_1 < (((Qh l0_1 a1).f1).length : Int)
   rotate_left
   ·
    rw [if_neg c13] at H
    exact absurd H (by simp)
   rw [if_pos c13] at H
   have c13b0 : decide (x6_1 < (((Qh l0_1 a1).f1).length : Int)) = true := decide_eq_true c13
   clear c13
   by_cases c14 : (rd ((Qh l0_1 a1).f1) x6_1) = x5_1
   rotate_left
   ·
    rw [if_neg c14] at H
    have c14b0 : ((rd ((Qh l0_1 a1).f1) x6_1) == x5_1) = false := beq_eq_false_iff_ne.mpr c14
    have c14b1 : ((rd ((Qh l0_1 a1).f1) x6_1) != x5_1) = true := bne_iff_ne.mpr c14
    obtain rfl := Option.some.inj H
    have hcz21_0 : wr.cell? ⟨gb215, 0, none⟩ = some (.slice A0_0 l0_0.length c0_0) := (Qe BK215.out 0).trans rfl
    have hcz21_1 : wr.cell? ⟨gb215, 1, none⟩ = some (.slice (some ad216) l0_1.length c0_1) := (Qe BK215.out 1).trans rfl
    have hfz21_0 := Qf BK215.out 0
    have hfz21_1 := Qf BK215.out 1
    have p217 : 0 ≤ (a1 : Int) := of_decide_eq_true (by assumption)
    have q217 : a1 < (l0_1.length : Int) := of_decide_eq_true (by assumption)
    obtain ⟨ad217, A217_1, c217_1, e217, hx217_0, hx217_1, hx217_2, hx217_3, hx217_4, hx217_5, hx217_6, hl217_1, hi217_1⟩ := at_T53 HR0_1.out a1 p217 q217
    obtain rfl : ad216 = ad217 := (by injection e217)
    replace hx217_0 := (HB.out.cell (World.block_lt_of_cell? w _ hx217_0)).trans hx217_0
    replace hx217_1 := (HB.out.cell (World.block_lt_of_cell? w _ hx217_1)).trans hx217_1
    replace hx217_2 := (HB.out.cell (World.block_lt_of_cell? w _ hx217_2)).trans hx217_2
    replace hx217_3 := (HB.out.cell (World.block_lt_of_cell? w _ hx217_3)).trans hx217_3
    replace hx217_4 := (HB.out.cell (World.block_lt_of_cell? w _ hx217_4)).trans hx217_4
    replace hx217_5 := (HB.out.cell (World.block_lt_of_cell? w _ hx217_5)).trans hx217_5
    replace hx217_6 := (HB.out.cell (World.block_lt_of_cell? w _ hx217_6)).trans hx217_6
    have HR217_1 := Qa.mk hi217_1
    have HC217_1 := Qa.mk hl217_1
    clear hi217_1 hl217_1
    replace p217 := eq_true p217
    replace q217 := eq_true q217
    have p218 : 0 ≤ (x6_1 : Int) := of_decide_eq_true (by assumption)
    have q218 : x6_1 < (((Qh l0_1 a1).f1).length : Int) := of_decide_eq_true (by assumption)
    obtain ⟨ad218, e218, hx218_0⟩ := Kd.at_int HR217_1.out x6_1 p218 q218
    cases e218
    replace hx218_0 := (HB.out.cell (World.block_lt_of_cell? w _ hx218_0)).trans hx218_0
    replace p218 := eq_true p218
    replace q218 := eq_true q218
    go_wp2
    go_ret
    exact ⟨by first | rfl | (simp [Qw, Qx] <;> rfl) | (simp [*, Qw, Qx] <;> rfl), by with_reducible repeat (first | exact HB.out | apply Qk | apply Ql | apply Qj | refine Qi ?_ GE215.out)⟩
   rw [if_pos c14] at H
   have c14b0 : ((rd ((Qh l0_1 a1).f1) x6_1) == x5_1) = true := beq_iff_eq.mpr c14
   have c14b1 : ((rd ((Qh l0_1 a1).f1) x6_1) != x5_1) = false := bne_eq_false_iff_eq.mpr c14
   clear c14
   replace H := Option.bind_eq_some_iff.mp H
   obtain ⟨t219, A150, H⟩ := H
   replace H : (if t219 = (-2) then (some (-2)) else (Qq1.l0 k1 a1 t219 (wrap64 (x6_1 - 1)) l0_0 l0_1)) = some r := H
   have A15 := Qa.mk A150
   clear A150
   by_cases c16 : t219 = (-2)
   ·
    rw [if_pos c16] at H
    have c16b0 : (t219 == (-2)) = true := beq_iff_eq.mpr c16
    have c16b1 : (t219 != (-2)) = false := bne_eq_false_iff_eq.mpr c16
    clear c16
    obtain rfl := Option.some.inj H
    have hcz17_0 : wr.cell? ⟨gb215, 0, none⟩ = some (.slice A0_0 l0_0.length c0_0) := (Qe BK215.out 0).trans rfl
    have hcz17_1 : wr.cell? ⟨gb215, 1, none⟩ = some (.slice (some ad216) l0_1.length c0_1) := (Qe BK215.out 1).trans rfl
    have hfz17_0 := Qf BK215.out 0
    have hfz17_1 := Qf BK215.out 1
    have p217 : 0 ≤ (a1 : Int) := of_decide_eq_true (by assumption)
    have q217 : a1 < (l0_1.length : Int) := of_decide_eq_true (by assumption)
    obtain ⟨ad217, A217_1, c217_1, e217, hx217_0, hx217_1, hx217_2, hx217_3, hx217_4, hx217_5, hx217_6, hl217_1, hi217_1⟩ := at_T53 HR0_1.out a1 p217 q217
    obtain rfl : ad216 = ad217 := (by injection e217)
    replace hx217_0 := (HB.out.cell (World.block_lt_of_cell? w _ hx217_0)).trans hx217_0
    replace hx217_1 := (HB.out.cell (World.block_lt_of_cell? w _ hx217_1)).trans hx217_1
    replace hx217_2 := (HB.out.cell (World.block_lt_of_cell? w _ hx217_2)).trans hx217_2
    replace hx217_3 := (HB.out.cell (World.block_lt_of_cell? w _ hx217_3)).trans hx217_3
    replace hx217_4 := (HB.out.cell (World.block_lt_of_cell? w _ hx217_4)).trans hx217_4
    replace hx217_5 := (HB.out.cell (World.block_lt_of_cell? w _ hx217_5)).trans hx217_5
    replace hx217_6 := (HB.out.cell (World.block_lt_of_cell? w _ hx217_6)).trans hx217_6
    have HR217_1 := Qa.mk hi217_1
    have HC217_1 := Qa.mk hl217_1
    clear hi217_1 hl217_1
    replace p217 := eq_true p217
    replace q217 := eq_true q217
    have p218 : 0 ≤ (x6_1 : Int) := of_decide_eq_true (by assumption)
    have q218 : x6_1 < (((Qh l0_1 a1).f1).length : Int) := of_decide_eq_true (by assumption)
    obtain ⟨ad218, e218, hx218_0⟩ := Kd.at_int HR217_1.out x6_1 p218 q218
    cases e218
    replace hx218_0 := (HB.out.cell (World.block_lt_of_cell? w _ hx218_0)).trans hx218_0
    replace p218 := eq_true p218
    replace q218 := eq_true q218
    go_wp2_with (first | ((with_reducible refine gate_callee (f := 42) rfl ?_); refine goesL_ (some 36) rfl rfl Try.func42 (by kernel_rfl) rfl #[.agg #[.slice A0_0 l0_0.length c0_0, .slice (some ad216) l0_1.length c0_1], .int .i64 x5_1] rfl (by (try simp only [List.map_toArray, List.map_cons, List.map_nil]); first | done | rfl | (simp only [List.length_drop, List.length_take]; rfl)) ?_; (with_reducible refine (ih k1 (by have := HK1.out; omega) _ _ l0_0 _ _ l0_1 x5_1 t219 _ ?side1 ?side2 ?side3 ?side4 A15.out).mono ?_); (case side1 => repeat (first | exact (Kd.C_below HR0_0.out HB.out) | (with_reducible refine Kd.Qf1 ?_ _) | (with_reducible refine Kd.Qe1 ?_ _) | (with_reducible refine Kd.C_drew ?_))); (case side2 => exact HC0_0.out); (case side3 => repeat (first | exact (Kd.C_below HR0_1.out HB.out) | (with_reducible refine Kd.Qf1 ?_ _) | (with_reducible refine Kd.Qe1 ?_ _) | (with_reducible refine Kd.C_drew ?_))); (case side4 => exact HC0_1.out); rintro e w18 ⟨rfl, hb⟩; refine ⟨_, rfl, ?_⟩; have n0_ := Qa.mk (Qs (g := gb215) (o := .cells #[.slice A0_0 l0_0.length c0_0, .slice (some ad216) l0_1.length c0_1] 25 (0, 0)) (by (with_reducible repeat (first | refine Qd ?_ _ | refine Qb ?_ | refine Qc ?_ _)); exact BK215.out) hb); have n1_ := Qa.mk (Qv (by with_reducible repeat (first | exact HB.out | apply Qk | apply Ql | apply Qj | refine Qi ?_ GE215.out)) hb); clear BK215; clear HB; have BK215 := n0_; have HB := n1_; clear n0_ n1_; (try clear hb); (try clear hb2); (try clear hk); (try clear hi)))
    go_ret
    exact ⟨by first | rfl | (simp [Qw, Qx] <;> rfl) | (simp [*, Qw, Qx] <;> rfl), by with_reducible repeat (first | exact HB.out | apply Qk | apply Ql | apply Qj | refine Qi ?_ GE215.out)⟩
   rw [if_neg c16] at H
   have c16b0 : (t219 == (-2)) = false := beq_eq_false_iff_ne.mpr c16
   have c16b1 : (t219 != (-2)) = true := bne_iff_ne.mpr c16
   have H' := Qa.mk H
   clear H
   have hcz19_0 : wr.cell? ⟨gb215, 0, none⟩ = some (.slice A0_0 l0_0.length c0_0) := (Qe BK215.out 0).trans rfl
   have hcz19_1 : wr.cell? ⟨gb215, 1, none⟩ = some (.slice (some ad216) l0_1.length c0_1) := (Qe BK215.out 1).trans rfl
   have hfz19_0 := Qf BK215.out 0
   have hfz19_1 := Qf BK215.out 1
   have p217 : 0 ≤ (a1 : Int) := of_decide_eq_true (by assumption)
   have q217 : a1 < (l0_1.length : Int) := of_decide_eq_true (by assumption)
   obtain ⟨ad217, A217_1, c217_1, e217, hx217_0, hx217_1, hx217_2, hx217_3, hx217_4, hx217_5, hx217_6, hl217_1, hi217_1⟩ := at_T53 HR0_1.out a1 p217 q217
   obtain rfl : ad216 = ad217 := (by injection e217)
   replace hx217_0 := (HB.out.cell (World.block_lt_of_cell? w _ hx217_0)).trans hx217_0
   replace hx217_1 := (HB.out.cell (World.block_lt_of_cell? w _ hx217_1)).trans hx217_1
   replace hx217_2 := (HB.out.cell (World.block_lt_of_cell? w _ hx217_2)).trans hx217_2
   replace hx217_3 := (HB.out.cell (World.block_lt_of_cell? w _ hx217_3)).trans hx217_3
   replace hx217_4 := (HB.out.cell (World.block_lt_of_cell? w _ hx217_4)).trans hx217_4
   replace hx217_5 := (HB.out.cell (World.block_lt_of_cell? w _ hx217_5)).trans hx217_5
   replace hx217_6 := (HB.out.cell (World.block_lt_of_cell? w _ hx217_6)).trans hx217_6
   have HR217_1 := Qa.mk hi217_1
   have HC217_1 := Qa.mk hl217_1
   clear hi217_1 hl217_1
   replace p217 := eq_true p217
   replace q217 := eq_true q217
   have p218 : 0 ≤ (x6_1 : Int) := of_decide_eq_true (by assumption)
   have q218 : x6_1 < (((Qh l0_1 a1).f1).length : Int) := of_decide_eq_true (by assumption)
   obtain ⟨ad218, e218, hx218_0⟩ := Kd.at_int HR217_1.out x6_1 p218 q218
   cases e218
   replace hx218_0 := (HB.out.cell (World.block_lt_of_cell? w _ hx218_0)).trans hx218_0
   replace p218 := eq_true p218
   replace q218 := eq_true q218
   go_wp2_with (first | ((with_reducible refine gate_callee (f := 42) rfl ?_); refine goesL_ (some 36) rfl rfl Try.func42 (by kernel_rfl) rfl #[.agg #[.slice A0_0 l0_0.length c0_0, .slice (some ad216) l0_1.length c0_1], .int .i64 x5_1] rfl (by (try simp only [List.map_toArray, List.map_cons, List.map_nil]); first | done | rfl | (simp only [List.length_drop, List.length_take]; rfl)) ?_; (with_reducible refine (ih k1 (by have := HK1.out; omega) _ _ l0_0 _ _ l0_1 x5_1 t219 _ ?side1 ?side2 ?side3 ?side4 A15.out).mono ?_); (case side1 => repeat (first | exact (Kd.C_below HR0_0.out HB.out) | (with_reducible refine Kd.Qf1 ?_ _) | (with_reducible refine Kd.Qe1 ?_ _) | (with_reducible refine Kd.C_drew ?_))); (case side2 => exact HC0_0.out); (case side3 => repeat (first | exact (Kd.C_below HR0_1.out HB.out) | (with_reducible refine Kd.Qf1 ?_ _) | (with_reducible refine Kd.Qe1 ?_ _) | (with_reducible refine Kd.C_drew ?_))); (case side4 => exact HC0_1.out); rintro e w20 ⟨rfl, hb⟩; refine ⟨_, rfl, ?_⟩; have n0_ := Qa.mk (Qs (g := gb215) (o := .cells #[.slice A0_0 l0_0.length c0_0, .slice (some ad216) l0_1.length c0_1] 25 (0, 0)) (by (with_reducible repeat (first | refine Qd ?_ _ | refine Qb ?_ | refine Qc ?_ _)); exact BK215.out) hb); have n1_ := Qa.mk (Qv (by with_reducible repeat (first | exact HB.out | apply Qk | apply Ql | apply Qj | refine Qi ?_ GE215.out)) hb); clear BK215; clear HB; have BK215 := n0_; have HB := n1_; clear n0_ n1_; (try clear hb); (try clear hb2); (try clear hk); (try clear hi)))
   go_roundg k1
   case measure => have := HK1.out; omega
   case rel => exact ⟨(t219), (wrap64 (x6_1 - 1)), (by first | rfl | (simp; done) | (simp [*]; done)), (by first | rfl | (simp; done) | (simp [*]; done)), H', ⟨by have := HK1.out; omega⟩, ⟨by (with_reducible repeat (first | refine Qd ?_ _ | refine Qb ?_ | refine Qc ?_ _)); exact BK215.out⟩, ⟨by with_reducible repeat (first | exact HB.out | apply Qk | apply Ql | apply Qj | refine Qi ?_ GE215.out)⟩⟩
def Qs1.l0 : Nat → Int → Int → List (S39) → List (S53) → Option (Bool)
 | 0, _, _, _, _ => none
 | k + 1, x3, x4, x221000, x221001 => if x4 < (x221000.length : Int) then (if 0 ≤ x4 then (if ((Qa1 x221000 x4).f1) ≤ x3 then (some false) else (if ((Qa1 x221000 x4).f1) ≥ (x221001.length : Int) then (some false) else ((Qq1.f k x221000 x221001 ((Qa1 x221000 x4).f1)).bind fun t222 => (if t222 = x3 then (Qs1.l0 k ((Qa1 x221000 x4).f1) (wrap64 (x4 + 1)) x221000 x221001) else (some false))))) else (none)) else (some (x3 == (wrap64 ((x221001.length : Int) - 1))))
def Qs1.f (k : Nat) (l0_0 : List (S39)) (l0_1 : List (S53)) : Option (Bool) := Qs1.l0 k (-1) 0 l0_0 l0_1
set_option maxHeartbeats 8000000 in
set_option maxRecDepth 100000 in
theorem Qs1.calls (k : Nat) (A0_0 : Option Addr) (c0_0 : Nat) (l0_0 : List (S39)) (A0_1 : Option Addr) (c0_1 : Nat) (l0_1 : List (S53)) (r : Bool) (w : World) (hr0_0 : Kd.C k39 w A0_0 l0_0.length l0_0) (hc0_0 : l0_0.length ≤ c0_0) (hr0_1 : Kd.C k53 w A0_1 l0_1.length l0_1) (hc0_1 : l0_1.length ≤ c0_1) (h : Qs1.f k l0_0 l0_1 = some r) :
 Calls Try.prog 37 #[.agg #[.slice A0_0 l0_0.length c0_0, .slice A0_1 l0_1.length c0_1]] w fun e w' => e = .returned (.bool r) ∧ Below w.heap.size w w' := by
 have hu25 := Try.underlying25
 have HR0_0 := Qa.mk hr0_0
 have HC0_0 := Qa.mk hc0_0
 clear hr0_0 hc0_0
 have HR0_1 := Qa.mk hr0_1
 have HC0_1 := Qa.mk hc0_1
 clear hr0_1 hc0_1
 have HB := Qa.mk (Below.refl w.heap.size w)
 have H : (Qs1.l0 k (-1) 0 l0_0 l0_1) = some r := h
 clear h
 have H' := Qa.mk H
 clear H
 go_enter Try.func37, Try.ntmps37
 go_wp2_with (first | ((with_reducible refine Qg1 (N := 1) rfl ?_); (try (refine gate_guard (by rfl) ?_; dsimp only)); refine Qh1 ?hg (N := 1) ?hd (cs := #[.slice A0_0 l0_0.length c0_0, .slice A0_1 l0_1.length c0_1]) (t := 25) ?hr ?_; (case hd => rfl); (case hg => rfl); (case hr => first | (go_simp; done) | (go_simp; rfl)); intro gb220 hg w2 hbox hb; have n0_ := Qa.mk (Qv (by with_reducible repeat (first | exact HB.out | apply Qk | apply Ql | apply Qj)) hb); have n1_ := Qa.mk (hbox); have n2_ := Qa.mk ((by rw [hg]; exact (Qb1 (by with_reducible repeat (first | exact HB.out | apply Qk | apply Ql | apply Qj))) : w.heap.size ≤ gb220)); have n3_ := n2_; clear HB; have HB := n0_; have BK220 := n1_; have GW220 := n2_; have GE220 := n3_; clear n0_ n1_ n2_ n3_; clear hb hbox hg))
 go_loopg [3, 4] k (fun kq v3 v4 w' => ∃ (x3_1 : Int) (x4_1 : Int), v3 = .int .i64 x3_1 ∧ v4 = .int .i64 x4_1 ∧ Qa (Qs1.l0 kq x3_1 x4_1 l0_0 l0_1 = some r) ∧ Qa (kq ≤ k) ∧ Qa (w'.heap[gb220]? = some (.cells #[(.slice A0_0 l0_0.length c0_0), (.slice A0_1 l0_1.length c0_1)] 25 (0, 0))) ∧ Qa (Below w.heap.size w w'))
 case atStart => exact ⟨((-1)), (0), (by first | rfl | (simp; done) | (simp [*]; done)), (by first | rfl | (simp; done) | (simp [*]; done)), H', ⟨Nat.le_refl _⟩, ⟨by (with_reducible repeat (first | refine Qd ?_ _ | refine Qb ?_ | refine Qc ?_ _)); exact BK220.out⟩, ⟨by with_reducible repeat (first | exact HB.out | apply Qk | apply Ql | apply Qj | refine Qi ?_ GE220.out)⟩⟩
 case round =>
  clear H'
  try clear p2
  obtain ⟨x3_1, x4_1, rfl, rfl, HA, HK1, BK220, HB⟩ := hrel
  cases gk with
  | zero => exact absurd HA.out (by simp [Qs1.l0])
  | succ k1 =>
   have H := HA.out
   clear HA
   simp only [Qs1.l0] at H
   by_cases c3 : x4_1 < (l0_0.length : Int)
   rotate_left
   ·
    rw [if_neg c3] at H
    have c3b0 : decide (x4_1 < (l0_0.length : Int)) = false := decide_eq_false c3
    clear c3
    obtain rfl := Option.some.inj H
    have hcz15_0 : wr.cell? ⟨gb220, 0, none⟩ = some (.slice A0_0 l0_0.length c0_0) := (Qe BK220.out 0).trans rfl
    have hcz15_1 : wr.cell? ⟨gb220, 1, none⟩ = some (.slice A0_1 l0_1.length c0_1) := (Qe BK220.out 1).trans rfl
    have hfz15_0 := Qf BK220.out 0
    have hfz15_1 := Qf BK220.out 1
    go_wp2
    go_ret
    exact ⟨by first | rfl | (simp [Qw, Qx] <;> rfl) | (simp [*, Qw, Qx] <;> rfl), by with_reducible repeat (first | exact HB.out | apply Qk | apply Ql | apply Qj | refine Qi ?_ GE220.out)⟩
   rw [if_pos c3] at H
   have c3b0 : decide (x4_1 < (l0_0.length : Int)) = true := decide_eq_true c3
   clear c3
   by_cases c4 : 0 ≤ x4_1
   rotate_left
   ·
    rw [if_neg c4] at H
    exact absurd H (by simp)
   rw [if_pos c4] at H
   have c4b0 : decide (0 ≤ x4_1) = true := decide_eq_true c4
   clear c4
   by_cases c5 : ((Qa1 l0_0 x4_1).f1) ≤ x3_1
   ·
    rw [if_pos c5] at H
    have c5b0 : decide (((Qa1 l0_0 x4_1).f1) ≤ x3_1) = true := decide_eq_true c5
    clear c5
    obtain rfl := Option.some.inj H
    have hcz6_0 : wr.cell? ⟨gb220, 0, none⟩ = some (.slice A0_0 l0_0.length c0_0) := (Qe BK220.out 0).trans rfl
    have hcz6_1 : wr.cell? ⟨gb220, 1, none⟩ = some (.slice A0_1 l0_1.length c0_1) := (Qe BK220.out 1).trans rfl
    have hfz6_0 := Qf BK220.out 0
    have hfz6_1 := Qf BK220.out 1
    have p221 : 0 ≤ (x4_1 : Int) := of_decide_eq_true (by assumption)
    have q221 : x4_1 < (l0_0.length : Int) := of_decide_eq_true (by assumption)
    obtain ⟨ad221, e221, hx221_0, hx221_1⟩ := at_T39 HR0_0.out x4_1 p221 q221
    cases e221
    replace hx221_0 := (HB.out.cell (World.block_lt_of_cell? w _ hx221_0)).trans hx221_0
    replace hx221_1 := (HB.out.cell (World.block_lt_of_cell? w _ hx221_1)).trans hx221_1
    replace p221 := eq_true p221
    replace q221 := eq_true q221
    go_wp2
    go_ret
    exact ⟨by first | rfl | (simp [Qw, Qx] <;> rfl) | (simp [*, Qw, Qx] <;> rfl), by with_reducible repeat (first | exact HB.out | apply Qk | apply Ql | apply Qj | refine Qi ?_ GE220.out)⟩
   rw [if_neg c5] at H
   have c5b0 : decide (((Qa1 l0_0 x4_1).f1) ≤ x3_1) = false := decide_eq_false c5
   clear c5
   by_cases c7 : ((Qa1 l0_0 x4_1).f1) ≥ (l0_1.length : Int)
   ·
    rw [if_pos c7] at H
    have c7b0 : decide ((l0_1.length : Int) ≤ ((Qa1 l0_0 x4_1).f1)) = true := decide_eq_true c7
    clear c7
    obtain rfl := Option.some.inj H
    have hcz8_0 : wr.cell? ⟨gb220, 0, none⟩ = some (.slice A0_0 l0_0.length c0_0) := (Qe BK220.out 0).trans rfl
    have hcz8_1 : wr.cell? ⟨gb220, 1, none⟩ = some (.slice A0_1 l0_1.length c0_1) := (Qe BK220.out 1).trans rfl
    have hfz8_0 := Qf BK220.out 0
    have hfz8_1 := Qf BK220.out 1
    have p221 : 0 ≤ (x4_1 : Int) := of_decide_eq_true (by assumption)
    have q221 : x4_1 < (l0_0.length : Int) := of_decide_eq_true (by assumption)
    obtain ⟨ad221, e221, hx221_0, hx221_1⟩ := at_T39 HR0_0.out x4_1 p221 q221
    cases e221
    replace hx221_0 := (HB.out.cell (World.block_lt_of_cell? w _ hx221_0)).trans hx221_0
    replace hx221_1 := (HB.out.cell (World.block_lt_of_cell? w _ hx221_1)).trans hx221_1
    replace p221 := eq_true p221
    replace q221 := eq_true q221
    go_wp2
    go_ret
    exact ⟨by first | rfl | (simp [Qw, Qx] <;> rfl) | (simp [*, Qw, Qx] <;> rfl), by with_reducible repeat (first | exact HB.out | apply Qk | apply Ql | apply Qj | refine Qi ?_ GE220.out)⟩
   rw [if_neg c7] at H
   have c7b0 : decide ((l0_1.length : Int) ≤ ((Qa1 l0_0 x4_1).f1)) = false := decide_eq_false c7
   clear c7
   replace H := Option.bind_eq_some_iff.mp H
   obtain ⟨t222, A90, H⟩ := H
   replace H : (if t222 = x3_1 then (Qs1.l0 k1 ((Qa1 l0_0 x4_1).f1) (wrap64 (x4_1 + 1)) l0_0 l0_1) else (some false)) = some r := H
   have A9 := Qa.mk A90
   clear A90
   by_cases c10 : t222 = x3_1
   ·
    rw [if_pos c10] at H
    have c10b0 : (t222 == x3_1) = true := beq_iff_eq.mpr c10
    have c10b1 : (t222 != x3_1) = false := bne_eq_false_iff_eq.mpr c10
    clear c10
    have H' := Qa.mk H
    clear H
    have hcz11_0 : wr.cell? ⟨gb220, 0, none⟩ = some (.slice A0_0 l0_0.length c0_0) := (Qe BK220.out 0).trans rfl
    have hcz11_1 : wr.cell? ⟨gb220, 1, none⟩ = some (.slice A0_1 l0_1.length c0_1) := (Qe BK220.out 1).trans rfl
    have hfz11_0 := Qf BK220.out 0
    have hfz11_1 := Qf BK220.out 1
    have p221 : 0 ≤ (x4_1 : Int) := of_decide_eq_true (by assumption)
    have q221 : x4_1 < (l0_0.length : Int) := of_decide_eq_true (by assumption)
    obtain ⟨ad221, e221, hx221_0, hx221_1⟩ := at_T39 HR0_0.out x4_1 p221 q221
    cases e221
    replace hx221_0 := (HB.out.cell (World.block_lt_of_cell? w _ hx221_0)).trans hx221_0
    replace hx221_1 := (HB.out.cell (World.block_lt_of_cell? w _ hx221_1)).trans hx221_1
    replace p221 := eq_true p221
    replace q221 := eq_true q221
    go_wp2_with (first | (go_at_call 42; (with_reducible refine (Qq1.calls k1 _ _ l0_0 _ _ l0_1 ((Qa1 l0_0 x4_1).f1) t222 _ ?side1 ?side2 ?side3 ?side4 A9.out).mono ?_); (case side1 => repeat (first | exact (Kd.C_below HR0_0.out HB.out) | (with_reducible refine Kd.Qf1 ?_ _) | (with_reducible refine Kd.Qe1 ?_ _) | (with_reducible refine Kd.C_drew ?_))); (case side2 => exact HC0_0.out); (case side3 => repeat (first | exact (Kd.C_below HR0_1.out HB.out) | (with_reducible refine Kd.Qf1 ?_ _) | (with_reducible refine Kd.Qe1 ?_ _) | (with_reducible refine Kd.C_drew ?_))); (case side4 => exact HC0_1.out); rintro e w12 ⟨rfl, hb⟩; have n0_ := Qa.mk (Qs (g := gb220) (o := .cells #[.slice (some ad221) l0_0.length c0_0, .slice A0_1 l0_1.length c0_1] 25 (0, 0)) (by (with_reducible repeat (first | refine Qd ?_ _ | refine Qb ?_ | refine Qc ?_ _)); exact BK220.out) hb); have n1_ := Qa.mk (Qv (by with_reducible repeat (first | exact HB.out | apply Qk | apply Ql | apply Qj | refine Qi ?_ GE220.out)) hb); clear BK220; clear HB; have BK220 := n0_; have HB := n1_; clear n0_ n1_; (try clear hb); (try clear hb2); (try clear hk); (try clear hi)))
    go_roundg k1
    case measure => have := HK1.out; omega
    case rel => exact ⟨((Qa1 l0_0 x4_1).f1), (wrap64 (x4_1 + 1)), (by first | rfl | (simp; done) | (simp [*]; done)), (by first | rfl | (simp; done) | (simp [*]; done)), H', ⟨by have := HK1.out; omega⟩, ⟨by (with_reducible repeat (first | refine Qd ?_ _ | refine Qb ?_ | refine Qc ?_ _)); exact BK220.out⟩, ⟨by with_reducible repeat (first | exact HB.out | apply Qk | apply Ql | apply Qj | refine Qi ?_ GE220.out)⟩⟩
   rw [if_neg c10] at H
   have c10b0 : (t222 == x3_1) = false := beq_eq_false_iff_ne.mpr c10
   have c10b1 : (t222 != x3_1) = true := bne_iff_ne.mpr c10
   obtain rfl := Option.some.inj H
   have hcz13_0 : wr.cell? ⟨gb220, 0, none⟩ = some (.slice A0_0 l0_0.length c0_0) := (Qe BK220.out 0).trans rfl
   have hcz13_1 : wr.cell? ⟨gb220, 1, none⟩ = some (.slice A0_1 l0_1.length c0_1) := (Qe BK220.out 1).trans rfl
   have hfz13_0 := Qf BK220.out 0
   have hfz13_1 := Qf BK220.out 1
   have p221 : 0 ≤ (x4_1 : Int) := of_decide_eq_true (by assumption)
   have q221 : x4_1 < (l0_0.length : Int) := of_decide_eq_true (by assumption)
   obtain ⟨ad221, e221, hx221_0, hx221_1⟩ := at_T39 HR0_0.out x4_1 p221 q221
   cases e221
   replace hx221_0 := (HB.out.cell (World.block_lt_of_cell? w _ hx221_0)).trans hx221_0
   replace hx221_1 := (HB.out.cell (World.block_lt_of_cell? w _ hx221_1)).trans hx221_1
   replace p221 := eq_true p221
   replace q221 := eq_true q221
   go_wp2_with (first | (go_at_call 42; (with_reducible refine (Qq1.calls k1 _ _ l0_0 _ _ l0_1 ((Qa1 l0_0 x4_1).f1) t222 _ ?side1 ?side2 ?side3 ?side4 A9.out).mono ?_); (case side1 => repeat (first | exact (Kd.C_below HR0_0.out HB.out) | (with_reducible refine Kd.Qf1 ?_ _) | (with_reducible refine Kd.Qe1 ?_ _) | (with_reducible refine Kd.C_drew ?_))); (case side2 => exact HC0_0.out); (case side3 => repeat (first | exact (Kd.C_below HR0_1.out HB.out) | (with_reducible refine Kd.Qf1 ?_ _) | (with_reducible refine Kd.Qe1 ?_ _) | (with_reducible refine Kd.C_drew ?_))); (case side4 => exact HC0_1.out); rintro e w14 ⟨rfl, hb⟩; have n0_ := Qa.mk (Qs (g := gb220) (o := .cells #[.slice (some ad221) l0_0.length c0_0, .slice A0_1 l0_1.length c0_1] 25 (0, 0)) (by (with_reducible repeat (first | refine Qd ?_ _ | refine Qb ?_ | refine Qc ?_ _)); exact BK220.out) hb); have n1_ := Qa.mk (Qv (by with_reducible repeat (first | exact HB.out | apply Qk | apply Ql | apply Qj | refine Qi ?_ GE220.out)) hb); clear BK220; clear HB; have BK220 := n0_; have HB := n1_; clear n0_ n1_; (try clear hb); (try clear hb2); (try clear hk); (try clear hi)))
   go_ret
   exact ⟨by first | rfl | (simp [Qw, Qx] <;> rfl) | (simp [*, Qw, Qx] <;> rfl), by with_reducible repeat (first | exact HB.out | apply Qk | apply Ql | apply Qj | refine Qi ?_ GE220.out)⟩
end Go.Proofs.Ytnaanamibfpbpaa.V
namespace Go.Proofs.Ytnaanamibfpbpaa.V
open Go.RowKit Go.Proofs.YtnaanamibfpbpaaW.PrintWords Go.Proofs.YtnaanamibfpbpaaW.PrintLast Go.Proofs.YtnaanamibfpbpaaW.PrintMore
attribute [local go_sem] max2_int min2_int max_two min_two max_three min_three max_four min_four tdiv_most
set_option linter.unusedVariables false
set_option linter.unusedSimpArgs false
mutual
def Qo1.l0 : Nat → Int → Int → Int → Int → List (S39) → List (S53) → Option (Int)
 | 0, _, _, _, _, _, _ => none
 | k + 1, x1, x2, x7, x8, x224000, x224001 => if 0 ≤ x1 then (if x1 < (x224001.length : Int) then (if x8 < (((Qh x224001 x1).f1).length : Int) then (if x2 > 0 then (if 0 ≤ x8 then ((Qo1.f k x224000 x224001 (rd ((Qh x224001 x1).f1) x8) (wrap64 (x2 - 1))).bind fun t227 => (Qo1.l0 k x1 x2 (mx x7 t227) (wrap64 (x8 + 1)) x224000 x224001)) else (none)) else (some (wrap64 (x7 + 1)))) else (some (wrap64 (x7 + 1)))) else (none)) else (none)
def Qo1.f : Nat → List (S39) → List (S53) → Int → Int → Option (Int)
 | 0, _, _, _, _ => none
 | k + 1, l0_0, l0_1, a1, a2 => Qo1.l0 k a1 a2 0 0 l0_0 l0_1
end
def Qo1.T5 : Bool × List (List Nat × List Nat) := (true, [([], []), ([], []), ([], []), ([2], [2]), ([], []), ([3, 4], [3, 4]), ([5], [5]), ([6], [6]), ([], []), ([7, 8], [7, 8]), ([9], [9]), ([], []), ([11], [11]), ([1, 10, 12], [1, 10, 12]), ([0, 13], [0, 13]), ([14, 13, 0, 1, 2, 3, 4, 5, 6, 7, 8, 9, 10, 11, 12, 13, 14], [0, 14])])
def Qo1.B5 : List Nat := [0, 0, 0, 4, 0, 28, 60, 124, 0, 508, 1020, 0, 2048, 8190, 16383, 32767]
theorem Qo1.tab5 : rtab .any (opsOf Try.f38 5) = Qo1.T5 := by kernel_rfl
theorem Qo1.bits5 : waitsOk Qo1.T5.2 Qo1.B5 = true := by kernel_rfl
set_option maxHeartbeats 8000000 in
set_option maxRecDepth 100000 in
theorem Qo1.calls (k : Nat) : ∀ (A0_0 : Option Addr) (c0_0 : Nat) (l0_0 : List (S39)) (A0_1 : Option Addr) (c0_1 : Nat) (l0_1 : List (S53)) (a1 : Int) (a2 : Int) (r : Int) (w : World) (hr0_0 : Kd.C k39 w A0_0 l0_0.length l0_0) (hc0_0 : l0_0.length ≤ c0_0) (hr0_1 : Kd.C k53 w A0_1 l0_1.length l0_1) (hc0_1 : l0_1.length ≤ c0_1) (h : Qo1.f k l0_0 l0_1 a1 a2 = some r),
 Calls Try.prog 38 #[.agg #[.slice A0_0 l0_0.length c0_0, .slice A0_1 l0_1.length c0_1], .int .i64 a1, .int .i64 a2] w fun e w' => e = .returned (.int .i64 r) ∧ Below w.heap.size w w' := by
 induction k using Nat.strongRecOn with
 | _ k ih =>
 intro A0_0 c0_0 l0_0 A0_1 c0_1 l0_1 a1 a2 r w hr0_0 hc0_0 hr0_1 hc0_1 h
 cases k with
 | zero => exact absurd h (by simp [Qo1.f])
 | succ k =>
 simp only [Qo1.f] at h
 have hu25 := Try.underlying25
 have HR0_0 := Qa.mk hr0_0
 have HC0_0 := Qa.mk hc0_0
 clear hr0_0 hc0_0
 have HR0_1 := Qa.mk hr0_1
 have HC0_1 := Qa.mk hc0_1
 clear hr0_1 hc0_1
 have HB := Qa.mk (Below.refl w.heap.size w)
 have H : (Qo1.l0 k a1 a2 0 0 l0_0 l0_1) = some r := h
 clear h
 have H' := Qa.mk H
 clear H
 go_enter Try.func38, Try.ntmps38
 go_wp2_with (first | ((with_reducible refine Qg1 (N := 3) rfl ?_); refine Qh1 ?hg (N := 3) ?hd (cs := #[.slice A0_0 l0_0.length c0_0, .slice A0_1 l0_1.length c0_1]) (t := 25) ?hr ?_; (case hd => rfl); (case hg => rfl); (case hr => first | (go_simp; done) | (go_simp; rfl)); intro gb223 hg w4 hbox hb; have n0_ := Qa.mk (Qv (by with_reducible repeat (first | exact HB.out | apply Qk | apply Ql | apply Qj)) hb); have n1_ := Qa.mk (hbox); have n2_ := Qa.mk ((by rw [hg]; exact (Qb1 (by with_reducible repeat (first | exact HB.out | apply Qk | apply Ql | apply Qj))) : w.heap.size ≤ gb223)); have n3_ := n2_; clear HB; have HB := n0_; have BK223 := n1_; have GW223 := n2_; have GE223 := n3_; clear n0_ n1_ n2_ n3_; clear hb hbox hg))
 go_loopg [7, 8] k (fun kq v7 v8 w' => ∃ (x7_1 : Int) (x8_1 : Int), v7 = .int .i64 x7_1 ∧ v8 = .int .i64 x8_1 ∧ Qa (Qo1.l0 kq a1 a2 x7_1 x8_1 l0_0 l0_1 = some r) ∧ Qa (kq ≤ k) ∧ Qa (w'.heap[gb223]? = some (.cells #[(.slice A0_0 l0_0.length c0_0), (.slice A0_1 l0_1.length c0_1)] 25 (0, 0))) ∧ Qa (Below w.heap.size w w'))
 case atStart => exact ⟨(0), (0), (by first | rfl | (simp; done) | (simp [*]; done)), (by first | rfl | (simp; done) | (simp [*]; done)), H', ⟨Nat.le_refl _⟩, ⟨by (with_reducible repeat (first | refine Qd ?_ _ | refine Qb ?_ | refine Qc ?_ _)); exact BK223.out⟩, ⟨by with_reducible repeat (first | exact HB.out | apply Qk | apply Ql | apply Qj | refine Qi ?_ GE223.out)⟩⟩
 case round =>
  clear H'
  (try clear p2; try clear c3)
  obtain ⟨x7_1, x8_1, rfl, rfl, HA, HK1, BK223, HB⟩ := hrel
  cases gk with
  | zero => exact absurd HA.out (by simp [Qo1.l0])
  | succ k1 =>
   have H := HA.out
   clear HA
   simp only [Qo1.l0] at H
   by_cases c5 : 0 ≤ a1
   rotate_left
   ·
    rw [if_neg c5] at H
    exact absurd H (by simp)
   rw [if_pos c5] at H
   have c5b0 : decide (0 ≤ a1) = true := decide_eq_true c5
   clear c5
   by_cases c6 : a1 < (l0_1.length : Int)
   rotate_left
   ·
    rw [if_neg c6] at H
    exact absurd H (by simp)
   rw [if_pos c6] at H
   have c6b0 : decide (a1 < (l0_1.length : Int)) = true := decide_eq_true c6
   clear c6
   by_cases c7 : x8_1 < (((Qh l0_1 a1).f1).length : Int)
   rotate_left
   ·
    rw [if_neg c7] at H
    have c7b0 : decide (x8_1 < (((Qh l0_1 a1).f1).length : Int)) = false := decide_eq_false c7
    clear c7
    obtain rfl := Option.some.inj H
    have hcz16_0 : wr.cell? ⟨gb223, 0, none⟩ = some (.slice A0_0 l0_0.length c0_0) := (Qe BK223.out 0).trans rfl
    have hcz16_1 : wr.cell? ⟨gb223, 1, none⟩ = some (.slice A0_1 l0_1.length c0_1) := (Qe BK223.out 1).trans rfl
    have hfz16_0 := Qf BK223.out 0
    have hfz16_1 := Qf BK223.out 1
    have p224 : 0 ≤ (a1 : Int) := of_decide_eq_true (by assumption)
    have q224 : a1 < (l0_1.length : Int) := of_decide_eq_true (by assumption)
    obtain ⟨ad224, A224_1, c224_1, e224, hx224_0, hx224_1, hx224_2, hx224_3, hx224_4, hx224_5, hx224_6, hl224_1, hi224_1⟩ := at_T53 HR0_1.out a1 p224 q224
    cases e224
    replace hx224_0 := (HB.out.cell (World.block_lt_of_cell? w _ hx224_0)).trans hx224_0
    replace hx224_1 := (HB.out.cell (World.block_lt_of_cell? w _ hx224_1)).trans hx224_1
    replace hx224_2 := (HB.out.cell (World.block_lt_of_cell? w _ hx224_2)).trans hx224_2
    replace hx224_3 := (HB.out.cell (World.block_lt_of_cell? w _ hx224_3)).trans hx224_3
    replace hx224_4 := (HB.out.cell (World.block_lt_of_cell? w _ hx224_4)).trans hx224_4
    replace hx224_5 := (HB.out.cell (World.block_lt_of_cell? w _ hx224_5)).trans hx224_5
    replace hx224_6 := (HB.out.cell (World.block_lt_of_cell? w _ hx224_6)).trans hx224_6
    have HR224_1 := Qa.mk hi224_1
    have HC224_1 := Qa.mk hl224_1
    clear hi224_1 hl224_1
    replace p224 := eq_true p224
    replace q224 := eq_true q224
    go_wp2
    go_ret
    exact ⟨by first | rfl | (simp [Qw, Qx] <;> rfl) | (simp [*, Qw, Qx] <;> rfl), by with_reducible repeat (first | exact HB.out | apply Qk | apply Ql | apply Qj | refine Qi ?_ GE223.out)⟩
   rw [if_pos c7] at H
   have c7b0 : decide (x8_1 < (((Qh l0_1 a1).f1).length : Int)) = true := decide_eq_true c7
   clear c7
   by_cases c8 : a2 > 0
   rotate_left
   ·
    rw [if_neg c8] at H
    have c8b0 : decide (0 < a2) = false := decide_eq_false c8
    clear c8
    obtain rfl := Option.some.inj H
    have hcz15_0 : wr.cell? ⟨gb223, 0, none⟩ = some (.slice A0_0 l0_0.length c0_0) := (Qe BK223.out 0).trans rfl
    have hcz15_1 : wr.cell? ⟨gb223, 1, none⟩ = some (.slice A0_1 l0_1.length c0_1) := (Qe BK223.out 1).trans rfl
    have hfz15_0 := Qf BK223.out 0
    have hfz15_1 := Qf BK223.out 1
    have p224 : 0 ≤ (a1 : Int) := of_decide_eq_true (by assumption)
    have q224 : a1 < (l0_1.length : Int) := of_decide_eq_true (by assumption)
    obtain ⟨ad224, A224_1, c224_1, e224, hx224_0, hx224_1, hx224_2, hx224_3, hx224_4, hx224_5, hx224_6, hl224_1, hi224_1⟩ := at_T53 HR0_1.out a1 p224 q224
    cases e224
    replace hx224_0 := (HB.out.cell (World.block_lt_of_cell? w _ hx224_0)).trans hx224_0
    replace hx224_1 := (HB.out.cell (World.block_lt_of_cell? w _ hx224_1)).trans hx224_1
    replace hx224_2 := (HB.out.cell (World.block_lt_of_cell? w _ hx224_2)).trans hx224_2
    replace hx224_3 := (HB.out.cell (World.block_lt_of_cell? w _ hx224_3)).trans hx224_3
    replace hx224_4 := (HB.out.cell (World.block_lt_of_cell? w _ hx224_4)).trans hx224_4
    replace hx224_5 := (HB.out.cell (World.block_lt_of_cell? w _ hx224_5)).trans hx224_5
    replace hx224_6 := (HB.out.cell (World.block_lt_of_cell? w _ hx224_6)).trans hx224_6
    have HR224_1 := Qa.mk hi224_1
    have HC224_1 := Qa.mk hl224_1
    clear hi224_1 hl224_1
    replace p224 := eq_true p224
    replace q224 := eq_true q224
    go_wp2
    go_ret
    exact ⟨by first | rfl | (simp [Qw, Qx] <;> rfl) | (simp [*, Qw, Qx] <;> rfl), by with_reducible repeat (first | exact HB.out | apply Qk | apply Ql | apply Qj | refine Qi ?_ GE223.out)⟩
   rw [if_pos c8] at H
   have c8b0 : decide (0 < a2) = true := decide_eq_true c8
   clear c8
   by_cases c9 : 0 ≤ x8_1
   rotate_left
   ·
    rw [if_neg c9] at H
    exact absurd H (by simp)
   rw [if_pos c9] at H
   have c9b0 : decide (0 ≤ x8_1) = true := decide_eq_true c9
   clear c9
   replace H := Option.bind_eq_some_iff.mp H
   obtain ⟨t227, A100, H⟩ := H
   replace H : (Qo1.l0 k1 a1 a2 (mx x7_1 t227) (wrap64 (x8_1 + 1)) l0_0 l0_1) = some r := H
   have A10 := Qa.mk A100
   clear A100
   obtain ⟨ji11, hji11⟩ : ∃ j_ : Int, (mx x7_1 t227) = j_ := ⟨_, rfl⟩
   replace H : (Qo1.l0 k1 a1 a2 ji11 (wrap64 (x8_1 + 1)) l0_0 l0_1) = some r := by first | (rw [hji11] at H; exact H) | (simp only [hji11] at H ⊢; exact H)
   (try rw [hji11] at A10)
   have hji11_ : (if x7_1 < t227 then t227 else x7_1) = ji11 := hji11
   have H' := Qa.mk H
   clear H
   have hcz12_0 : wr.cell? ⟨gb223, 0, none⟩ = some (.slice A0_0 l0_0.length c0_0) := (Qe BK223.out 0).trans rfl
   have hcz12_1 : wr.cell? ⟨gb223, 1, none⟩ = some (.slice A0_1 l0_1.length c0_1) := (Qe BK223.out 1).trans rfl
   have hfz12_0 := Qf BK223.out 0
   have hfz12_1 := Qf BK223.out 1
   have p224 : 0 ≤ (a1 : Int) := of_decide_eq_true (by assumption)
   have q224 : a1 < (l0_1.length : Int) := of_decide_eq_true (by assumption)
   obtain ⟨ad224, A224_1, c224_1, e224, hx224_0, hx224_1, hx224_2, hx224_3, hx224_4, hx224_5, hx224_6, hl224_1, hi224_1⟩ := at_T53 HR0_1.out a1 p224 q224
   cases e224
   replace hx224_0 := (HB.out.cell (World.block_lt_of_cell? w _ hx224_0)).trans hx224_0
   replace hx224_1 := (HB.out.cell (World.block_lt_of_cell? w _ hx224_1)).trans hx224_1
   replace hx224_2 := (HB.out.cell (World.block_lt_of_cell? w _ hx224_2)).trans hx224_2
   replace hx224_3 := (HB.out.cell (World.block_lt_of_cell? w _ hx224_3)).trans hx224_3
   replace hx224_4 := (HB.out.cell (World.block_lt_of_cell? w _ hx224_4)).trans hx224_4
   replace hx224_5 := (HB.out.cell (World.block_lt_of_cell? w _ hx224_5)).trans hx224_5
   replace hx224_6 := (HB.out.cell (World.block_lt_of_cell? w _ hx224_6)).trans hx224_6
   have HR224_1 := Qa.mk hi224_1
   have HC224_1 := Qa.mk hl224_1
   clear hi224_1 hl224_1
   replace p224 := eq_true p224
   replace q224 := eq_true q224
   try go_wp2
   have n0_ := Qa.mk (Qb BK223.out)
   have n1_ := Qa.mk (Qj HB.out)
   clear BK223
   clear HB
   have BK223 := n0_
   have HB := n1_
   clear n0_ n1_
   have p225 : 0 ≤ (a1 : Int) := of_decide_eq_true (by assumption)
   have q225 : a1 < (l0_1.length : Int) := of_decide_eq_true (by assumption)
   obtain ⟨ad225, A225_1, c225_1, e225, hx225_0, hx225_1, hx225_2, hx225_3, hx225_4, hx225_5, hx225_6, hl225_1, hi225_1⟩ := at_T53 HR0_1.out a1 p225 q225
   have hw225_6 := hx225_6
   have hw225_5 := hx225_5
   have hw225_4 := hx225_4
   have hw225_3 := hx225_3
   have hw225_2 := hx225_2
   have hw225_1 := hx225_1
   have hw225_0 := hx225_0
   obtain rfl : ad224 = ad225 := (by injection e225)
   replace hx225_0 := (HB.out.cell (World.block_lt_of_cell? w _ hx225_0)).trans hx225_0
   replace hx225_1 := (HB.out.cell (World.block_lt_of_cell? w _ hx225_1)).trans hx225_1
   replace hx225_2 := (HB.out.cell (World.block_lt_of_cell? w _ hx225_2)).trans hx225_2
   replace hx225_3 := (HB.out.cell (World.block_lt_of_cell? w _ hx225_3)).trans hx225_3
   replace hx225_4 := (HB.out.cell (World.block_lt_of_cell? w _ hx225_4)).trans hx225_4
   replace hx225_5 := (HB.out.cell (World.block_lt_of_cell? w _ hx225_5)).trans hx225_5
   replace hx225_6 := (HB.out.cell (World.block_lt_of_cell? w _ hx225_6)).trans hx225_6
   have HR225_1 := Qa.mk hi225_1
   have HC225_1 := Qa.mk hl225_1
   clear hi225_1 hl225_1
   replace p225 := eq_true p225
   replace q225 := eq_true q225
   have p226 : 0 ≤ (x8_1 : Int) := of_decide_eq_true (by assumption)
   have q226 : x8_1 < (((Qh l0_1 a1).f1).length : Int) := of_decide_eq_true (by assumption)
   obtain ⟨ad226, e226, hx226_0⟩ := Kd.at_int HR225_1.out x8_1 p226 q226
   have hw226_0 := hx226_0
   cases e226
   replace hx226_0 := (HB.out.cell (World.block_lt_of_cell? w _ hx226_0)).trans hx226_0
   replace p226 := eq_true p226
   replace q226 := eq_true q226
   refine start_ (n := 16) (S := fun w' => w'.cell? ⟨gb223, 0, none⟩ = some (.slice A0_0 l0_0.length c0_0) ∧ w'.cell? ⟨gb223, 1, none⟩ = some (.slice (some ad224) l0_1.length c0_1) ∧ w'.cell? (ad224.add ((a1).toNat * 7)) = some (.int .i64 ((Qh l0_1 a1).f0)) ∧ w'.cell? ⟨(ad224.add ((a1).toNat * 7)).block, (ad224.add ((a1).toNat * 7)).off + 1, none⟩ = some (.slice (some ad226) ((Qh l0_1 a1).f1).length c225_1) ∧ w'.cell? ⟨(ad224.add ((a1).toNat * 7)).block, (ad224.add ((a1).toNat * 7)).off + 2, none⟩ = some (.int .i64 ((Qh l0_1 a1).f2)) ∧ w'.cell? ⟨(ad224.add ((a1).toNat * 7)).block, (ad224.add ((a1).toNat * 7)).off + 3, none⟩ = some (.int .u64 ((Qh l0_1 a1).f3.f0)) ∧ w'.cell? ⟨(ad224.add ((a1).toNat * 7)).block, (ad224.add ((a1).toNat * 7)).off + 4, none⟩ = some (.int .u64 ((Qh l0_1 a1).f3.f1)) ∧ w'.cell? ⟨(ad224.add ((a1).toNat * 7)).block, (ad224.add ((a1).toNat * 7)).off + 5, none⟩ = some (.int .u64 ((Qh l0_1 a1).f3.f2)) ∧ w'.cell? ⟨(ad224.add ((a1).toNat * 7)).block, (ad224.add ((a1).toNat * 7)).off + 6, none⟩ = some (.int .u64 ((Qh l0_1 a1).f3.f3)) ∧ w'.cell? (ad226.add (x8_1).toNat) = some (.int .i64 (rd ((Qh l0_1 a1).f1) x8_1))) (ds := []) #[Y, Y, Y, Y, Y, Y, Y, Y, Y, Y, Y, Y, Y, Y, Y, Y] (by kernel_rfl) rfl rfl ⟨(Qe BK223.out 0).trans rfl, (Qe BK223.out 1).trans rfl, ((HB.out.cell (World.block_lt_of_cell? w _ hw225_0)).trans hw225_0), ((HB.out.cell (World.block_lt_of_cell? w _ hw225_1)).trans hw225_1), ((HB.out.cell (World.block_lt_of_cell? w _ hw225_2)).trans hw225_2), ((HB.out.cell (World.block_lt_of_cell? w _ hw225_3)).trans hw225_3), ((HB.out.cell (World.block_lt_of_cell? w _ hw225_4)).trans hw225_4), ((HB.out.cell (World.block_lt_of_cell? w _ hw225_5)).trans hw225_5), ((HB.out.cell (World.block_lt_of_cell? w _ hw225_6)).trans hw225_6), ((HB.out.cell (World.block_lt_of_cell? w _ hw226_0)).trans hw226_0)⟩ (fun hHeld => ?_); refine with_tabW Qo1.tab5 Qo1.bits5 (fun HT_ HW_ => ?_)
   generalize wr.drew = w13 at BK223 HB HR225_1 hx225_0 hx225_1 hx225_2 hx225_3 hx225_4 hx225_5 hx225_6 hx226_0 hHeld ⊢
   refine pure_ (i := 0) (N := some 24) (v := ?_) (a' := ?_) #[J, Y, Y, Y, Y, Y, Y, Y, Y, Y, Y, Y, Y, Y, Y, Y] rfl rfl (Qm HT_.out (by kernel_rfl)) (fun _ _ _ h => h) (Or.inl ⟨by rfl, ?_⟩) ?_ ?_
   rotate_left
   ·
    intro w'
    go_simp
    with_reducible rfl
   rotate_left
   ·
    simp only [Act.put, List.setIfInBounds_toArray, List.set_cons_zero, List.set_cons_succ, i64_w, i32_w]
    rfl
   refine pure_ (i := 2) (N := some 26) (v := ?_) (a' := ?_) #[J, Y, J, Y, Y, Y, Y, Y, Y, Y, Y, Y, Y, Y, Y, Y] rfl rfl (Qm HT_.out (by kernel_rfl)) (fun _ _ _ h => h) (Or.inl ⟨by rfl, ?_⟩) ?_ ?_
   rotate_left
   ·
    intro w'
    go_simp
    with_reducible rfl
   rotate_left
   ·
    simp only [Act.put, List.setIfInBounds_toArray, List.set_cons_zero, List.set_cons_succ, i64_w, i32_w]
    rfl
   refine pure_ (i := 4) (N := some 28) (v := ?_) (a' := ?_) #[J, Y, J, Y, J, Y, Y, Y, Y, Y, Y, Y, Y, Y, Y, Y] rfl rfl (Qm HT_.out (by kernel_rfl)) (fun _ _ _ h => h) (Or.inl ⟨by rfl, ?_⟩) ?_ ?_
   rotate_left
   ·
    intro w'
    go_simp
    with_reducible rfl
   rotate_left
   ·
    simp only [Act.put, List.setIfInBounds_toArray, List.set_cons_zero, List.set_cons_succ, i64_w, i32_w]
    rfl
   refine pure_ (i := 8) (N := some 32) (v := ?_) (a' := ?_) #[J, Y, J, Y, J, Y, Y, Y, J, Y, Y, Y, Y, Y, Y, Y] rfl rfl (Qm HT_.out (by kernel_rfl)) (fun _ _ _ h => h) (Or.inl ⟨by rfl, ?_⟩) ?_ ?_
   rotate_left
   ·
    intro w'
    go_simp
    with_reducible rfl
   rotate_left
   ·
    simp only [Act.put, List.setIfInBounds_toArray, List.set_cons_zero, List.set_cons_succ, i64_w, i32_w]
    rfl
   refine pure_ (i := 11) (N := some 35) (v := ?_) (a' := ?_) #[J, Y, J, Y, J, Y, Y, Y, J, Y, Y, J, Y, Y, Y, Y] rfl rfl (Qm HT_.out (by kernel_rfl)) (fun _ _ _ h => h) (Or.inl ⟨by rfl, ?_⟩) ?_ ?_
   rotate_left
   ·
    intro w'
    go_simp
    with_reducible rfl
   rotate_left
   ·
    simp only [Act.put, List.setIfInBounds_toArray, List.set_cons_zero, List.set_cons_succ, i64_w, i32_w]
    rfl
   refine pure_ (i := 12) (N := some 36) (v := ?_) (a' := ?_) #[J, Y, J, Y, J, Y, Y, Y, J, Y, Y, J, J, Y, Y, Y] rfl rfl (Qm HT_.out (by kernel_rfl)) (fun _ _ _ h => h) (Or.inl ⟨by rfl, ?_⟩) ?_ ?_
   rotate_left
   ·
    intro w'
    go_simp
    with_reducible rfl
   rotate_left
   ·
    simp only [Act.put, List.setIfInBounds_toArray, List.set_cons_zero, List.set_cons_succ, i64_w, i32_w]
    rfl
   refine take_ (i := 1) (N := some 25) (v := ?_) (a' := ?_) #[J, J, J, Y, J, Y, Y, Y, J, Y, Y, J, J, Y, Y, Y] rfl rfl (Qm1 HT_.out HW_.out (by kernel_rfl)) (fun _ _ _ h => h) (Or.inl ⟨by rfl, ?_⟩) hHeld ?_ ?_
   rotate_left
   ·
    rintro w' ⟨s0, s1, s2, s3, s4, s5, s6, s7, s8, s9⟩
    go_simp
    with_reducible rfl
   rotate_left
   ·
    simp only [Act.put, List.setIfInBounds_toArray, List.set_cons_zero, List.set_cons_succ, i64_w, i32_w]
    rfl
   refine take_ (i := 3) (N := some 27) (v := ?_) (a' := ?_) #[J, J, J, J, J, Y, Y, Y, J, Y, Y, J, J, Y, Y, Y] rfl rfl (Qm1 HT_.out HW_.out (by kernel_rfl)) (fun _ _ _ h => h) (Or.inl ⟨by rfl, ?_⟩) hHeld ?_ ?_
   rotate_left
   ·
    rintro w' ⟨s0, s1, s2, s3, s4, s5, s6, s7, s8, s9⟩
    go_simp
    with_reducible rfl
   rotate_left
   ·
    simp only [Act.put, List.setIfInBounds_toArray, List.set_cons_zero, List.set_cons_succ, i64_w, i32_w]
    rfl
   refine pure_ (i := 5) (N := some 29) (v := ?_) (a' := ?_) #[J, J, J, J, J, J, Y, Y, J, Y, Y, J, J, Y, Y, Y] rfl rfl (Qm HT_.out (by kernel_rfl)) (fun _ _ _ h => h) (Or.inl ⟨by rfl, ?_⟩) ?_ ?_
   rotate_left
   ·
    intro w'
    go_simp
    with_reducible rfl
   rotate_left
   ·
    simp only [Act.put, List.setIfInBounds_toArray, List.set_cons_zero, List.set_cons_succ, i64_w, i32_w]
    rfl
   refine pure_ (i := 6) (N := some 30) (v := ?_) (a' := ?_) #[J, J, J, J, J, J, J, Y, J, Y, Y, J, J, Y, Y, Y] rfl rfl (Qm HT_.out (by kernel_rfl)) (fun _ _ _ h => h) (Or.inl ⟨by rfl, ?_⟩) ?_ ?_
   rotate_left
   ·
    intro w'
    go_simp
    with_reducible rfl
   rotate_left
   ·
    simp only [Act.put, List.setIfInBounds_toArray, List.set_cons_zero, List.set_cons_succ, i64_w, i32_w]
    rfl
   refine take_ (i := 7) (N := some 31) (v := ?_) (a' := ?_) #[J, J, J, J, J, J, J, J, J, Y, Y, J, J, Y, Y, Y] rfl rfl (Qm1 HT_.out HW_.out (by kernel_rfl)) (fun _ _ _ h => h) (Or.inl ⟨by rfl, ?_⟩) hHeld ?_ ?_
   rotate_left
   ·
    rintro w' ⟨s0, s1, s2, s3, s4, s5, s6, s7, s8, s9⟩
    go_simp
    with_reducible rfl
   rotate_left
   ·
    simp only [Act.put, List.setIfInBounds_toArray, List.set_cons_zero, List.set_cons_succ, i64_w, i32_w]
    rfl
   refine pure_ (i := 9) (N := some 33) (v := ?_) (a' := ?_) #[J, J, J, J, J, J, J, J, J, J, Y, J, J, Y, Y, Y] rfl rfl (Qm HT_.out (by kernel_rfl)) (fun _ _ _ h => h) (Or.inl ⟨by rfl, ?_⟩) ?_ ?_
   rotate_left
   ·
    intro w'
    go_simp
    with_reducible rfl
   rotate_left
   ·
    simp only [Act.put, List.setIfInBounds_toArray, List.set_cons_zero, List.set_cons_succ, i64_w, i32_w]
    rfl
   refine take_ (i := 10) (N := some 34) (v := ?_) (a' := ?_) #[J, J, J, J, J, J, J, J, J, J, J, J, J, Y, Y, Y] rfl rfl (Qm1 HT_.out HW_.out (by kernel_rfl)) (fun _ _ _ h => h) (Or.inl ⟨by rfl, ?_⟩) hHeld ?_ ?_
   rotate_left
   ·
    rintro w' ⟨s0, s1, s2, s3, s4, s5, s6, s7, s8, s9⟩
    go_simp
    with_reducible rfl
   rotate_left
   ·
    simp only [Act.put, List.setIfInBounds_toArray, List.set_cons_zero, List.set_cons_succ, i64_w, i32_w]
    rfl
   refine one_ (i := 13) (N := some 37) #[J, J, J, J, J, J, J, J, J, J, J, J, J, J, Y, Y] rfl rfl (one_of HT_.out (by kernel_rfl)) (by decide) (fun K hK => ?_)
   refine goes_ Try.func38 (by kernel_rfl) rfl #[.agg #[.slice A0_0 l0_0.length c0_0, .slice (some ad224) l0_1.length c0_1], .int .i64 (rd ((Qh l0_1 a1).f1) x8_1), .int .i64 (wrap64 (a2 - 1))] (by rfl) rfl rfl (by (try simp only [List.map_toArray, List.map_cons, List.map_nil]); first | done | rfl | (simp only [List.length_drop, List.length_take]; rfl)) ?_
   with_reducible refine (ih k1 (by have := HK1.out; omega) _ _ l0_0 _ _ l0_1 (rd ((Qh l0_1 a1).f1) x8_1) (wrap64 (a2 - 1)) t227 _ ?side1 ?side2 ?side3 ?side4 A10.out).mono ?_
   (case side1 => repeat (first | exact (Kd.C_below HR0_0.out HB.out) | (with_reducible refine Kd.Qf1 ?_ _) | (with_reducible refine Kd.Qe1 ?_ _) | (with_reducible refine Kd.C_drew ?_)))
   (case side2 => exact HC0_0.out)
   (case side3 => repeat (first | exact (Kd.C_below HR0_1.out HB.out) | (with_reducible refine Kd.Qf1 ?_ _) | (with_reducible refine Kd.Qe1 ?_ _) | (with_reducible refine Kd.C_drew ?_)))
   (case side4 => exact HC0_1.out)
   rintro e w14 ⟨rfl, hb⟩
   refine ⟨_, rfl, ?_⟩
   have n0_ := Qa.mk (Qs (g := gb223) (o := .cells #[.slice A0_0 l0_0.length c0_0, .slice (some ad224) l0_1.length c0_1] 25 (0, 0)) (by (with_reducible repeat (first | refine Qd ?_ _ | refine Qb ?_ | refine Qc ?_ _)); exact BK223.out) hb)
   have n1_ := Qa.mk (Qv (by with_reducible repeat (first | exact HB.out | apply Qk | apply Ql | apply Qj | refine Qi ?_ GE223.out)) hb)
   clear BK223
   clear HB
   have BK223 := n0_
   have HB := n1_
   clear n0_ n1_
   (try clear hb; try clear hb2; try clear hk; try clear hi)
   refine hK.out _ _ ⟨(Qe BK223.out 0).trans rfl, (Qe BK223.out 1).trans rfl, ((HB.out.cell (World.block_lt_of_cell? w _ hw225_0)).trans hw225_0), ((HB.out.cell (World.block_lt_of_cell? w _ hw225_1)).trans hw225_1), ((HB.out.cell (World.block_lt_of_cell? w _ hw225_2)).trans hw225_2), ((HB.out.cell (World.block_lt_of_cell? w _ hw225_3)).trans hw225_3), ((HB.out.cell (World.block_lt_of_cell? w _ hw225_4)).trans hw225_4), ((HB.out.cell (World.block_lt_of_cell? w _ hw225_5)).trans hw225_5), ((HB.out.cell (World.block_lt_of_cell? w _ hw225_6)).trans hw225_6), ((HB.out.cell (World.block_lt_of_cell? w _ hw226_0)).trans hw226_0)⟩ (fun hHeld => ?_)
   clear hK K
   refine norm_ (a' := ?_) ?_ ?_
   rotate_left
   ·
    show Act.put _ (some 37) _ = _
    simp only [Act.put, List.setIfInBounds_toArray, List.set_cons_zero, List.set_cons_succ, i64_w, i32_w]
    rfl
   refine pure_ (i := 14) (N := some 38) (v := ?_) (a' := ?_) #[J, J, J, J, J, J, J, J, J, J, J, J, J, J, J, Y] rfl rfl (Qm HT_.out (by kernel_rfl)) (fun _ _ _ h => h) (Or.inl ⟨by rfl, ?_⟩) ?_ ?_
   rotate_left
   ·
    intro w'
    go_simp
    with_reducible rfl
   rotate_left
   ·
    simp only [Act.put, List.setIfInBounds_toArray, List.set_cons_zero, List.set_cons_succ, i64_w, i32_w]
    rfl
   refine pure_ (i := 15) (N := some 7) (v := ?_) (a' := ?_) #[J, J, J, J, J, J, J, J, J, J, J, J, J, J, J, J] rfl rfl (Qm HT_.out (by kernel_rfl)) (fun _ _ _ h => h) (Or.inl ⟨by rfl, ?_⟩) ?_ ?_
   rotate_left
   ·
    intro w'
    go_simp
    with_reducible rfl
   rotate_left
   ·
    simp only [Act.put, List.setIfInBounds_toArray, List.set_cons_zero, List.set_cons_succ, i64_w, i32_w]
    rfl
   refine done_ (done_of HT_.out (by kernel_rfl)) ?_
   try go_wp2
   go_roundg k1
   case measure => have := HK1.out; omega
   case rel => exact ⟨(ji11), (wrap64 (x8_1 + 1)), (by first | rfl | (simp; done) | (simp only [← hji11] <;> (first | rfl | simp)) | (simp [*]; done)), (by first | rfl | (simp; done) | (simp [*]; done)), H', ⟨by have := HK1.out; omega⟩, ⟨by (with_reducible repeat (first | refine Qd ?_ _ | refine Qb ?_ | refine Qc ?_ _)); exact BK223.out⟩, ⟨by with_reducible repeat (first | exact HB.out | apply Qk | apply Ql | apply Qj | refine Qi ?_ GE223.out)⟩⟩
end Go.Proofs.Ytnaanamibfpbpaa.V
namespace Go.Proofs.Ytnaanamibfpbpaa.V
open Go.RowKit Go.Proofs.YtnaanamibfpbpaaW.PrintWords Go.Proofs.YtnaanamibfpbpaaW.PrintLast Go.Proofs.YtnaanamibfpbpaaW.PrintMore
attribute [local go_sem] max2_int min2_int max_two min_two max_three min_three max_four min_four tdiv_most
set_option linter.unusedVariables false
set_option linter.unusedSimpArgs false
mutual
def Qc1.j0 : Nat → Bool → List (S39) → List (S53) → Option (ByteArray × Int × Int)
 | 0, _, _, _ => none
 | k + 1, x18, x229000, x229001 => if x18 = true then (some ((⟨#[]⟩ : ByteArray), 4, 0)) else (if (x229000.length : Int) = 0 then (some ((⟨#[114, 117, 108, 101, 115]⟩ : ByteArray), 10, 0)) else (Qc1.l0 k 0 x229000 x229001))
def Qc1.l0 : Nat → Int → List (S39) → List (S53) → Option (ByteArray × Int × Int)
 | 0, _, _, _ => none
 | k + 1, x5, x229000, x229001 => if x5 < (x229000.length : Int) then (if 0 ≤ x5 then ((Qt1.f k ((Qa1 x229000 x5).f0)).bind fun t230 => (if t230 = true then (Qc1.l1 k x5 0 x229000 x229001) else (some ((⟨#[114, 117, 108, 101, 115]⟩ : ByteArray), 10, x5)))) else (none)) else (Qc1.l2 k 0 x229000 x229001)
def Qc1.l1 : Nat → Int → Int → List (S39) → List (S53) → Option (ByteArray × Int × Int)
 | 0, _, _, _, _ => none
 | k + 1, x5, x6, x229000, x229001 => if x6 < x5 then (if 0 ≤ x6 then (if x6 < (x229000.length : Int) then (if 0 ≤ x5 then (if x5 < (x229000.length : Int) then (if ((Qa1 x229000 x6).f0).toList = ((Qa1 x229000 x5).f0).toList then (some ((⟨#[114, 117, 108, 101, 115]⟩ : ByteArray), 10, x5)) else (Qc1.l1 k x5 (wrap64 (x6 + 1)) x229000 x229001)) else (none)) else (none)) else (none)) else (none)) else (Qc1.l0 k (wrap64 (x5 + 1)) x229000 x229001)
def Qc1.l2 : Nat → Int → List (S39) → List (S53) → Option (ByteArray × Int × Int)
 | 0, _, _, _ => none
 | k + 1, x7, x229000, x229001 => if x7 < (x229001.length : Int) then (if 0 ≤ x7 then ((Qk1.f k ((Qh x229001 x7).f0) ((Qh x229001 x7).f1) ((Qh x229001 x7).f2) ((Qh x229001 x7).f3.f0) ((Qh x229001 x7).f3.f1) ((Qh x229001 x7).f3.f2) ((Qh x229001 x7).f3.f3) (x229000.length : Int)).bind fun t234 => (if t234 = true then (Qc1.l2 k (wrap64 (x7 + 1)) x229000 x229001) else (some ((⟨#[110, 111, 100, 101, 115]⟩ : ByteArray), 10, x7)))) else (none)) else ((Qs1.f k x229000 x229001).bind fun t235 => (if t235 = true then (Qc1.l3 k 0 x229000 x229001) else (some ((⟨#[]⟩ : ByteArray), 10, 0))))
def Qc1.l3 : Nat → Int → List (S39) → List (S53) → Option (ByteArray × Int × Int)
 | 0, _, _, _ => none
 | k + 1, x8, x229000, x229001 => if x8 < (x229001.length : Int) then ((Qo1.f k x229000 x229001 x8 205).bind fun t236 => (if t236 > 200 then (some ((⟨#[110, 111, 100, 101, 115]⟩ : ByteArray), 5, x8)) else (Qc1.l3 k (wrap64 (x8 + 1)) x229000 x229001))) else (some ((⟨#[]⟩ : ByteArray), 0, 0))
end
def Qc1.f (k : Nat) (l0_0 : List (S39)) (l0_1 : List (S53)) : Option (ByteArray × Int × Int) := if (l0_0.length : Int) > 1000 then (Qc1.j0 k true l0_0 l0_1) else (Qc1.j0 k (decide ((l0_1.length : Int) > 10000)) l0_0 l0_1)
def Qc1.T13 : Bool × List (List Nat × List Nat) := (true, [([], []), ([0], [0]), ([], []), ([1, 2], [1, 2]), ([3], [3]), ([4], [4]), ([], []), ([6], [6]), ([], []), ([7, 8], [7, 8]), ([9], [9]), ([10], [10]), ([5, 11], [5, 11])])
def Qc1.B13 : List Nat := [0, 1, 0, 7, 15, 31, 0, 64, 0, 448, 960, 1984, 4095]
theorem Qc1.tab13 : rtab .any (opsOf Try.f28 13) = Qc1.T13 := by kernel_rfl
theorem Qc1.bits13 : waitsOk Qc1.T13.2 Qc1.B13 = true := by kernel_rfl
def Qc1.T18 : Bool × List (List Nat × List Nat) := (true, [([], []), ([0], [0]), ([], []), ([1, 2], [1, 2]), ([3], [3]), ([], []), ([5], [5]), ([6], [6]), ([4, 7], [4, 7]), ([8], [8])])
def Qc1.B18 : List Nat := [0, 1, 0, 7, 15, 0, 32, 96, 255, 511]
theorem Qc1.tab18 : rtab .any (opsOf Try.f28 18) = Qc1.T18 := by kernel_rfl
theorem Qc1.bits18 : waitsOk Qc1.T18.2 Qc1.B18 = true := by kernel_rfl
set_option maxHeartbeats 8000000 in
set_option maxRecDepth 100000 in
theorem Qc1.calls (k : Nat) (A0_0 : Option Addr) (c0_0 : Nat) (l0_0 : List (S39)) (A0_1 : Option Addr) (c0_1 : Nat) (l0_1 : List (S53)) (r1 : ByteArray) (r2 : Int) (r3 : Int) (w : World) (hr0_0 : Kd.C k39 w A0_0 l0_0.length l0_0) (hc0_0 : l0_0.length ≤ c0_0) (hr0_1 : Kd.C k53 w A0_1 l0_1.length l0_1) (hc0_1 : l0_1.length ≤ c0_1) (h : Qc1.f k l0_0 l0_1 = some (r1, r2, r3)) :
 Calls Try.prog 28 #[.agg #[.slice A0_0 l0_0.length c0_0, .slice A0_1 l0_1.length c0_1]] w fun e w' => e = .returned (.tuple #[.string r1, .int .i64 r2, .int .i64 r3]) ∧ Below w.heap.size w w' := by
 have hu25 := Try.underlying25
 have hu53 := Try.underlying53
 have HR0_0 := Qa.mk hr0_0
 have HC0_0 := Qa.mk hc0_0
 clear hr0_0 hc0_0
 have HR0_1 := Qa.mk hr0_1
 have HC0_1 := Qa.mk hc0_1
 clear hr0_1 hc0_1
 have HB := Qa.mk (Below.refl w.heap.size w)
 have H : (if (l0_0.length : Int) > 1000 then (Qc1.j0 k true l0_0 l0_1) else (Qc1.j0 k (decide ((l0_1.length : Int) > 10000)) l0_0 l0_1)) = some (r1, r2, r3) := h
 clear h
 have HC2 := Qa.mk H
 clear H
 go_enter Try.func28, Try.ntmps28
 go_upto_region 1 with (first | ((with_reducible refine Qg1 (N := 1) rfl ?_); (try (refine gate_guard (by rfl) ?_; dsimp only)); refine Qh1 ?hg (N := 1) ?hd (cs := #[.slice A0_0 l0_0.length c0_0, .slice A0_1 l0_1.length c0_1]) (t := 25) ?hr ?_; (case hd => rfl); (case hg => rfl); (case hr => first | (go_simp; done) | (go_simp; rfl)); intro gb228 hg w3 hbox hb; have n0_ := Qa.mk (Qv (by with_reducible repeat (first | exact HB.out | apply Qk | apply Ql | apply Qj)) hb); have n1_ := Qa.mk (hbox); have n2_ := Qa.mk ((by rw [hg]; exact (Qb1 (by with_reducible repeat (first | exact HB.out | apply Qk | apply Ql | apply Qj))) : w.heap.size ≤ gb228)); have n3_ := n2_; clear HB; have HB := n0_; have BK228 := n1_; have GW228 := n2_; have GE228 := n3_; clear n0_ n1_ n2_ n3_; clear hb hbox hg))
 (try simp only [Act.put, List.setIfInBounds_toArray, List.set_cons_zero, List.set_cons_succ])
 go_cut [18] (fun v18 wc => ∃ (kq : Nat) (x18_1 : Bool), v18 = .bool x18_1 ∧ Qa (Qc1.j0 kq x18_1 l0_0 l0_1 = some (r1, r2, r3)) ∧ Qa (kq ≤ k) ∧ Qa (wc.heap[gb228]? = some (.cells #[(.slice A0_0 l0_0.length c0_0), (.slice A0_1 l0_1.length c0_1)] 25 (0, 0))) ∧ Qa (Below w.heap.size w wc))
 case first =>
  have H := HC2.out
  clear HC2
  by_cases c4 : (l0_0.length : Int) > 1000
  ·
   rw [if_pos c4] at H
   have c4b0 : decide (1000 < (l0_0.length : Int)) = true := decide_eq_true c4
   have c4b1 : decide (1000 < l0_0.length) = true := decide_eq_true (by omega)
   clear c4
   (first | rw [c4b0] | (simp only [i64_w, i32_w]; rw [c4b0]) | skip)
   have H' := Qa.mk H
   clear H
   have hcz5_0 : w3.cell? ⟨gb228, 0, none⟩ = some (.slice A0_0 l0_0.length c0_0) := (Qe BK228.out 0).trans rfl
   have hcz5_1 : w3.cell? ⟨gb228, 1, none⟩ = some (.slice A0_1 l0_1.length c0_1) := (Qe BK228.out 1).trans rfl
   have hfz5_0 := Qf BK228.out 0
   have hfz5_1 := Qf BK228.out 1
   go_wp2
   go_meet
   case rel => exact ⟨_, (true), (by first | rfl | (simp; done) | (simp [*]; done)), H', ⟨by first | omega | exact Nat.le_refl _⟩, ⟨by (with_reducible repeat (first | refine Qd ?_ _ | refine Qb ?_ | refine Qc ?_ _)); exact BK228.out⟩, ⟨by with_reducible repeat (first | exact HB.out | apply Qk | apply Ql | apply Qj | refine Qi ?_ GE228.out)⟩⟩
  rw [if_neg c4] at H
  have c4b0 : decide (1000 < (l0_0.length : Int)) = false := decide_eq_false c4
  have c4b1 : decide (1000 < l0_0.length) = false := decide_eq_false (by omega)
  clear c4
  (first | rw [c4b0] | (simp only [i64_w, i32_w]; rw [c4b0]) | skip)
  have H' := Qa.mk H
  clear H
  have hcz6_0 : w3.cell? ⟨gb228, 0, none⟩ = some (.slice A0_0 l0_0.length c0_0) := (Qe BK228.out 0).trans rfl
  have hcz6_1 : w3.cell? ⟨gb228, 1, none⟩ = some (.slice A0_1 l0_1.length c0_1) := (Qe BK228.out 1).trans rfl
  have hfz6_0 := Qf BK228.out 0
  have hfz6_1 := Qf BK228.out 1
  go_wp2
  go_meet
  case rel => exact ⟨_, (decide ((l0_1.length : Int) > 10000)), (by first | rfl | (simp; done) | (simp [*]; done)), H', ⟨by first | omega | exact Nat.le_refl _⟩, ⟨by (with_reducible repeat (first | refine Qd ?_ _ | refine Qb ?_ | refine Qc ?_ _)); exact BK228.out⟩, ⟨by with_reducible repeat (first | exact HB.out | apply Qk | apply Ql | apply Qj | refine Qi ?_ GE228.out)⟩⟩
 case rest =>
  clear HC2
  (try clear c2; try clear p2; try clear c4; try clear c4b0; try clear c4b1; try clear hcz5_0; try clear hcz5_1; try clear hcz6_0; try clear hcz6_1; try clear hfz5_0; try clear hfz5_1; try clear hfz6_0; try clear hfz6_1)
  obtain ⟨kq, x18_1, rfl, HA, HJ1, BK228, HB⟩ := hcut
  cases kq with
  | zero => exact absurd HA.out (by simp [Qc1.j0])
  | succ kj1 =>
   have H := HA.out
   clear HA
   simp only [Qc1.j0] at H
   by_cases c7 : x18_1 = true
   ·
    subst c7
    have H1 : (some ((⟨#[]⟩ : ByteArray), 4, 0)) = some (r1, r2, r3) := by rw [if_pos rfl] at H; exact H
    clear H
    have H := H1
    clear H1
    simp only [Option.some.injEq, Prod.mk.injEq] at H
    obtain ⟨rfl, rfl, rfl⟩ := H
    go_wp2
    go_ret3
    exact ⟨by first | rfl | (simp [Qw, Qx] <;> rfl) | (simp [*, Qw, Qx] <;> rfl), by with_reducible repeat (first | exact HB.out | apply Qk | apply Ql | apply Qj | refine Qi ?_ GE228.out)⟩
   replace c7 := Bool.eq_false_iff.mpr c7
   subst c7
   have H1 : (if (l0_0.length : Int) = 0 then (some ((⟨#[114, 117, 108, 101, 115]⟩ : ByteArray), 10, 0)) else (Qc1.l0 kj1 0 l0_0 l0_1)) = some (r1, r2, r3) := by rw [if_neg (show ¬ (false = true) by decide)] at H; exact H
   clear H
   have H := H1
   clear H1
   by_cases c8 : (l0_0.length : Int) = 0
   ·
    rw [if_pos c8] at H
    have c8b0 : ((l0_0.length : Int) == 0) = true := beq_iff_eq.mpr c8
    have c8b1 : ((l0_0.length : Int) != 0) = false := bne_eq_false_iff_eq.mpr c8
    clear c8
    simp only [Option.some.injEq, Prod.mk.injEq] at H
    obtain ⟨rfl, rfl, rfl⟩ := H
    have hcz9_0 : wc.cell? ⟨gb228, 0, none⟩ = some (.slice A0_0 l0_0.length c0_0) := (Qe BK228.out 0).trans rfl
    have hcz9_1 : wc.cell? ⟨gb228, 1, none⟩ = some (.slice A0_1 l0_1.length c0_1) := (Qe BK228.out 1).trans rfl
    have hfz9_0 := Qf BK228.out 0
    have hfz9_1 := Qf BK228.out 1
    go_wp2
    go_ret3
    exact ⟨by first | rfl | (simp [Qw, Qx] <;> rfl) | (simp [*, Qw, Qx] <;> rfl), by with_reducible repeat (first | exact HB.out | apply Qk | apply Ql | apply Qj | refine Qi ?_ GE228.out)⟩
   rw [if_neg c8] at H
   have c8b0 : ((l0_0.length : Int) == 0) = false := beq_eq_false_iff_ne.mpr c8
   have c8b1 : ((l0_0.length : Int) != 0) = true := bne_iff_ne.mpr c8
   have c8b2 : ¬ (l0_0 = []) := fun h_ => c8 (by rw [h_]; rfl)
   have H' := Qa.mk H
   clear H
   have hcz10_0 : wc.cell? ⟨gb228, 0, none⟩ = some (.slice A0_0 l0_0.length c0_0) := (Qe BK228.out 0).trans rfl
   have hcz10_1 : wc.cell? ⟨gb228, 1, none⟩ = some (.slice A0_1 l0_1.length c0_1) := (Qe BK228.out 1).trans rfl
   have hfz10_0 := Qf BK228.out 0
   have hfz10_1 := Qf BK228.out 1
   go_wp2
   go_loopg [5] kj1 (fun kq v5 w' => ∃ (x5_2 : Int), v5 = .int .i64 x5_2 ∧ Qa (Qc1.l0 kq x5_2 l0_0 l0_1 = some (r1, r2, r3)) ∧ Qa (kq ≤ kj1) ∧ Qa (w'.heap[gb228]? = some (.cells #[(.slice A0_0 l0_0.length c0_0), (.slice A0_1 l0_1.length c0_1)] 25 (0, 0))) ∧ Qa (Below w.heap.size w w'))
   case atStart => exact ⟨(0), (by first | rfl | (simp; done) | (simp [*]; done)), H', ⟨Nat.le_refl _⟩, ⟨by (with_reducible repeat (first | refine Qd ?_ _ | refine Qb ?_ | refine Qc ?_ _)); exact BK228.out⟩, ⟨by with_reducible repeat (first | exact HB.out | apply Qk | apply Ql | apply Qj | refine Qi ?_ GE228.out)⟩⟩
   case round =>
    clear H'
    (try clear c2; try clear p2; try clear c4; try clear c4b0; try clear c4b1; try clear c7; try clear c8; try clear c8b0; try clear c8b1; try clear c8b2; try clear hcz10_0; try clear hcz10_1; try clear hcz5_0; try clear hcz5_1; try clear hcz6_0; try clear hcz6_1; try clear hcz9_0; try clear hcz9_1; try clear hfz10_0; try clear hfz10_1; try clear hfz5_0; try clear hfz5_1; try clear hfz6_0; try clear hfz6_1; try clear hfz9_0; try clear hfz9_1; try clear p2)
    obtain ⟨x5_2, rfl, HA, HK2, BK228, HB⟩ := hrel
    cases gk with
    | zero => exact absurd HA.out (by simp [Qc1.l0])
    | succ k2 =>
     have H := HA.out
     clear HA
     simp only [Qc1.l0] at H
     by_cases c11 : x5_2 < (l0_0.length : Int)
     ·
      rw [if_pos c11] at H
      have c11b0 : decide (x5_2 < (l0_0.length : Int)) = true := decide_eq_true c11
      clear c11
      by_cases c12 : 0 ≤ x5_2
      rotate_left
      ·
       rw [if_neg c12] at H
       exact absurd H (by simp)
      rw [if_pos c12] at H
      have c12b0 : decide (0 ≤ x5_2) = true := decide_eq_true c12
      clear c12
      replace H := Option.bind_eq_some_iff.mp H
      obtain ⟨t230, A130, H⟩ := H
      replace H : (if t230 = true then (Qc1.l1 k2 x5_2 0 l0_0 l0_1) else (some ((⟨#[114, 117, 108, 101, 115]⟩ : ByteArray), 10, x5_2))) = some (r1, r2, r3) := H
      have A13 := Qa.mk A130
      clear A130
      by_cases c14 : t230 = true
      rotate_left
      ·
       replace c14 := Bool.eq_false_iff.mpr c14
       subst c14
       have H1 : (some ((⟨#[114, 117, 108, 101, 115]⟩ : ByteArray), 10, x5_2)) = some (r1, r2, r3) := by rw [if_neg (show ¬ (false = true) by decide)] at H; exact H
       clear H
       have H := H1
       clear H1
       simp only [Option.some.injEq, Prod.mk.injEq] at H
       obtain ⟨rfl, rfl, rfl⟩ := H
       have hcz24_0 : wr.cell? ⟨gb228, 0, none⟩ = some (.slice A0_0 l0_0.length c0_0) := (Qe BK228.out 0).trans rfl
       have hcz24_1 : wr.cell? ⟨gb228, 1, none⟩ = some (.slice A0_1 l0_1.length c0_1) := (Qe BK228.out 1).trans rfl
       have hfz24_0 := Qf BK228.out 0
       have hfz24_1 := Qf BK228.out 1
       have p229 : 0 ≤ (x5_2 : Int) := of_decide_eq_true (by assumption)
       have q229 : x5_2 < (l0_0.length : Int) := of_decide_eq_true (by assumption)
       obtain ⟨ad229, e229, hx229_0, hx229_1⟩ := at_T39 HR0_0.out x5_2 p229 q229
       cases e229
       replace hx229_0 := (HB.out.cell (World.block_lt_of_cell? w _ hx229_0)).trans hx229_0
       replace hx229_1 := (HB.out.cell (World.block_lt_of_cell? w _ hx229_1)).trans hx229_1
       replace p229 := eq_true p229
       replace q229 := eq_true q229
       go_wp2_with (first | ((with_reducible refine gate_callee (f := 35) rfl ?_); refine goesL_ (some 36) rfl rfl Try.func35 (by kernel_rfl) rfl #[.string ((Qa1 l0_0 x5_2).f0)] rfl (by (try simp only [List.map_toArray, List.map_cons, List.map_nil]); first | done | rfl | (simp only [List.length_drop, List.length_take]; rfl)) ?_; (with_reducible refine (Qt1.calls k2 ((Qa1 l0_0 x5_2).f0) false _ A13.out).mono ?_); rintro e w' ⟨rfl, ⟨nd, rfl⟩⟩; refine ⟨_, rfl, ?_⟩))
       go_ret3
       exact ⟨by first | rfl | (simp [Qw, Qx] <;> rfl) | (simp [*, Qw, Qx] <;> rfl), by with_reducible repeat (first | exact HB.out | apply Qk | apply Ql | apply Qj | refine Qi ?_ GE228.out)⟩
      subst c14
      have H1 : (Qc1.l1 k2 x5_2 0 l0_0 l0_1) = some (r1, r2, r3) := by rw [if_pos rfl] at H; exact H
      clear H
      have H := H1
      clear H1
      have H' := Qa.mk H
      clear H
      have hcz15_0 : wr.cell? ⟨gb228, 0, none⟩ = some (.slice A0_0 l0_0.length c0_0) := (Qe BK228.out 0).trans rfl
      have hcz15_1 : wr.cell? ⟨gb228, 1, none⟩ = some (.slice A0_1 l0_1.length c0_1) := (Qe BK228.out 1).trans rfl
      have hfz15_0 := Qf BK228.out 0
      have hfz15_1 := Qf BK228.out 1
      have p229 : 0 ≤ (x5_2 : Int) := of_decide_eq_true (by assumption)
      have q229 : x5_2 < (l0_0.length : Int) := of_decide_eq_true (by assumption)
      obtain ⟨ad229, e229, hx229_0, hx229_1⟩ := at_T39 HR0_0.out x5_2 p229 q229
      cases e229
      replace hx229_0 := (HB.out.cell (World.block_lt_of_cell? w _ hx229_0)).trans hx229_0
      replace hx229_1 := (HB.out.cell (World.block_lt_of_cell? w _ hx229_1)).trans hx229_1
      replace p229 := eq_true p229
      replace q229 := eq_true q229
      go_wp2_with (first | ((with_reducible refine gate_callee (f := 35) rfl ?_); refine goesL_ (some 36) rfl rfl Try.func35 (by kernel_rfl) rfl #[.string ((Qa1 l0_0 x5_2).f0)] rfl (by (try simp only [List.map_toArray, List.map_cons, List.map_nil]); first | done | rfl | (simp only [List.length_drop, List.length_take]; rfl)) ?_; (with_reducible refine (Qt1.calls k2 ((Qa1 l0_0 x5_2).f0) true _ A13.out).mono ?_); rintro e w' ⟨rfl, ⟨nd, rfl⟩⟩; refine ⟨_, rfl, ?_⟩))
      go_loopg [6] k2 (fun kq v6 w' => ∃ (x6_3 : Int), v6 = .int .i64 x6_3 ∧ Qa (Qc1.l1 kq x5_2 x6_3 l0_0 l0_1 = some (r1, r2, r3)) ∧ Qa (kq ≤ k2) ∧ Qa (w'.heap[gb228]? = some (.cells #[(.slice (some ad229) l0_0.length c0_0), (.slice A0_1 l0_1.length c0_1)] 25 (0, 0))) ∧ Qa (Below w.heap.size w w'))
      case atStart => exact ⟨(0), (by first | rfl | (simp; done) | (simp [*]; done)), H', ⟨Nat.le_refl _⟩, ⟨by (with_reducible repeat (first | refine Qd ?_ _ | refine Qb ?_ | refine Qc ?_ _)); exact BK228.out⟩, ⟨by with_reducible repeat (first | exact HB.out | apply Qk | apply Ql | apply Qj | refine Qi ?_ GE228.out)⟩⟩
      case round =>
       clear H'
       (try clear c1; try clear c2; try clear p2; try clear q2; try clear hx2; try clear c3; try clear c4; try clear c4b0; try clear c4b1; try clear c7; try clear c8; try clear c8b0; try clear c8b1; try clear c8b2; try clear c11; try clear c11b0; try clear c12; try clear c12b0; try clear c14; try clear hcz10_0; try clear hcz10_1; try clear hcz15_0; try clear hcz15_1; try clear hcz5_0; try clear hcz5_1; try clear hcz6_0; try clear hcz6_1; try clear hcz9_0; try clear hcz9_1; try clear hfz10_0; try clear hfz10_1; try clear hfz15_0; try clear hfz15_1; try clear hfz5_0; try clear hfz5_1; try clear hfz6_0; try clear hfz6_1; try clear hfz9_0; try clear hfz9_1; try clear hx229_0; try clear hx229_1; try clear p2; try clear p229; try clear q229)
       obtain ⟨x6_3, rfl, HA, HK3, BK228, HB⟩ := hrel
       cases gk with
       | zero => exact absurd HA.out (by simp [Qc1.l1])
       | succ k3 =>
        have H := HA.out
        clear HA
        simp only [Qc1.l1] at H
        by_cases c16 : x6_3 < x5_2
        rotate_left
        ·
         rw [if_neg c16] at H
         have c16b0 : decide (x6_3 < x5_2) = false := decide_eq_false c16
         clear c16
         have H' := Qa.mk H
         clear H
         go_wp2
         go_roundg k3
         case measure => have := HJ1.out; have := HK2.out; have := HK3.out; omega
         case rel => exact ⟨(wrap64 (x5_2 + 1)), (by first | rfl | (simp; done) | (simp [*]; done)), H', ⟨by have := HJ1.out; have := HK2.out; have := HK3.out; omega⟩, ⟨by (with_reducible repeat (first | refine Qd ?_ _ | refine Qb ?_ | refine Qc ?_ _)); exact BK228.out⟩, ⟨by with_reducible repeat (first | exact HB.out | apply Qk | apply Ql | apply Qj | refine Qi ?_ GE228.out)⟩⟩
        rw [if_pos c16] at H
        have c16b0 : decide (x6_3 < x5_2) = true := decide_eq_true c16
        clear c16
        by_cases c17 : 0 ≤ x6_3
        rotate_left
        ·
         rw [if_neg c17] at H
         exact absurd H (by simp)
        rw [if_pos c17] at H
        have c17b0 : decide (0 ≤ x6_3) = true := decide_eq_true c17
        clear c17
        by_cases c18 : x6_3 < (l0_0.length : Int)
        rotate_left
        ·
         rw [if_neg c18] at H
         exact absurd H (by simp)
        rw [if_pos c18] at H
        have c18b0 : decide (x6_3 < (l0_0.length : Int)) = true := decide_eq_true c18
        clear c18
        by_cases c19 : 0 ≤ x5_2
        rotate_left
        ·
         rw [if_neg c19] at H
         exact absurd H (by simp)
        rw [if_pos c19] at H
        have c19b0 : decide (0 ≤ x5_2) = true := decide_eq_true c19
        clear c19
        by_cases c20 : x5_2 < (l0_0.length : Int)
        rotate_left
        ·
         rw [if_neg c20] at H
         exact absurd H (by simp)
        rw [if_pos c20] at H
        have c20b0 : decide (x5_2 < (l0_0.length : Int)) = true := decide_eq_true c20
        clear c20
        by_cases c21 : ((Qa1 l0_0 x6_3).f0).toList = ((Qa1 l0_0 x5_2).f0).toList
        ·
         rw [if_pos c21] at H
         have c21b0 : (((Qa1 l0_0 x6_3).f0).toList == ((Qa1 l0_0 x5_2).f0).toList) = true := beq_iff_eq.mpr c21
         have c21b1 : (((Qa1 l0_0 x6_3).f0).toList != ((Qa1 l0_0 x5_2).f0).toList) = false := bne_eq_false_iff_eq.mpr c21
         clear c21
         simp only [Option.some.injEq, Prod.mk.injEq] at H
         obtain ⟨rfl, rfl, rfl⟩ := H
         try go_wp2
         have n0_ := Qa.mk (Qb BK228.out)
         have n1_ := Qa.mk (Qj HB.out)
         clear BK228
         clear HB
         have BK228 := n0_
         have HB := n1_
         clear n0_ n1_
         have p231 : 0 ≤ (x6_3 : Int) := of_decide_eq_true (by assumption)
         have q231 : x6_3 < (l0_0.length : Int) := of_decide_eq_true (by assumption)
         obtain ⟨ad231, e231, hx231_0, hx231_1⟩ := at_T39 HR0_0.out x6_3 p231 q231
         have hw231_1 := hx231_1
         have hw231_0 := hx231_0
         obtain rfl : ad229 = ad231 := (by injection e231)
         replace hx231_0 := (HB.out.cell (World.block_lt_of_cell? w _ hx231_0)).trans hx231_0
         replace hx231_1 := (HB.out.cell (World.block_lt_of_cell? w _ hx231_1)).trans hx231_1
         replace p231 := eq_true p231
         replace q231 := eq_true q231
         have p232 : 0 ≤ (x5_2 : Int) := of_decide_eq_true (by assumption)
         have q232 : x5_2 < (l0_0.length : Int) := of_decide_eq_true (by assumption)
         obtain ⟨ad232, e232, hx232_0, hx232_1⟩ := at_T39 HR0_0.out x5_2 p232 q232
         have hw232_1 := hx232_1
         have hw232_0 := hx232_0
         obtain rfl : ad229 = ad232 := (by injection e232)
         replace hx232_0 := (HB.out.cell (World.block_lt_of_cell? w _ hx232_0)).trans hx232_0
         replace hx232_1 := (HB.out.cell (World.block_lt_of_cell? w _ hx232_1)).trans hx232_1
         replace p232 := eq_true p232
         replace q232 := eq_true q232
         refine start_ (n := 13) (S := fun w' => w'.cell? ⟨gb228, 0, none⟩ = some (.slice (some ad229) l0_0.length c0_0) ∧ w'.cell? ⟨gb228, 1, none⟩ = some (.slice A0_1 l0_1.length c0_1) ∧ w'.cell? (ad229.add ((x6_3).toNat * 2)) = some (.string ((Qa1 l0_0 x6_3).f0)) ∧ w'.cell? ⟨(ad229.add ((x6_3).toNat * 2)).block, (ad229.add ((x6_3).toNat * 2)).off + 1, none⟩ = some (.int .i64 ((Qa1 l0_0 x6_3).f1)) ∧ w'.cell? (ad229.add ((x5_2).toNat * 2)) = some (.string ((Qa1 l0_0 x5_2).f0)) ∧ w'.cell? ⟨(ad229.add ((x5_2).toNat * 2)).block, (ad229.add ((x5_2).toNat * 2)).off + 1, none⟩ = some (.int .i64 ((Qa1 l0_0 x5_2).f1))) (ds := []) #[Y, Y, Y, Y, Y, Y, Y, Y, Y, Y, Y, Y, Y] (by kernel_rfl) rfl rfl ⟨(Qe BK228.out 0).trans rfl, (Qe BK228.out 1).trans rfl, ((HB.out.cell (World.block_lt_of_cell? w _ hw231_0)).trans hw231_0), ((HB.out.cell (World.block_lt_of_cell? w _ hw231_1)).trans hw231_1), ((HB.out.cell (World.block_lt_of_cell? w _ hw232_0)).trans hw232_0), ((HB.out.cell (World.block_lt_of_cell? w _ hw232_1)).trans hw232_1)⟩ (fun hHeld => ?_); refine with_tabW Qc1.tab13 Qc1.bits13 (fun HT_ HW_ => ?_)
         generalize wr.drew = w22 at BK228 HB hx231_0 hx231_1 hx232_0 hx232_1 hHeld ⊢
         refine pure_ (i := 0) (N := some 44) (v := ?_) (a' := ?_) #[J, Y, Y, Y, Y, Y, Y, Y, Y, Y, Y, Y, Y] rfl rfl (Qm HT_.out (by kernel_rfl)) (fun _ _ _ h => h) (Or.inl ⟨by rfl, ?_⟩) ?_ ?_
         rotate_left
         ·
          intro w'
          go_simp
          with_reducible rfl
         rotate_left
         ·
          simp only [Act.put, List.setIfInBounds_toArray, List.set_cons_zero, List.set_cons_succ, i64_w, i32_w]
          rfl
         refine pure_ (i := 2) (N := some 46) (v := ?_) (a' := ?_) #[J, Y, J, Y, Y, Y, Y, Y, Y, Y, Y, Y, Y] rfl rfl (Qm HT_.out (by kernel_rfl)) (fun _ _ _ h => h) (Or.inl ⟨by rfl, ?_⟩) ?_ ?_
         rotate_left
         ·
          intro w'
          go_simp
          with_reducible rfl
         rotate_left
         ·
          simp only [Act.put, List.setIfInBounds_toArray, List.set_cons_zero, List.set_cons_succ, i64_w, i32_w]
          rfl
         refine pure_ (i := 6) (N := some 50) (v := ?_) (a' := ?_) #[J, Y, J, Y, Y, Y, J, Y, Y, Y, Y, Y, Y] rfl rfl (Qm HT_.out (by kernel_rfl)) (fun _ _ _ h => h) (Or.inl ⟨by rfl, ?_⟩) ?_ ?_
         rotate_left
         ·
          intro w'
          go_simp
          with_reducible rfl
         rotate_left
         ·
          simp only [Act.put, List.setIfInBounds_toArray, List.set_cons_zero, List.set_cons_succ, i64_w, i32_w]
          rfl
         refine pure_ (i := 8) (N := some 52) (v := ?_) (a' := ?_) #[J, Y, J, Y, Y, Y, J, Y, J, Y, Y, Y, Y] rfl rfl (Qm HT_.out (by kernel_rfl)) (fun _ _ _ h => h) (Or.inl ⟨by rfl, ?_⟩) ?_ ?_
         rotate_left
         ·
          intro w'
          go_simp
          with_reducible rfl
         rotate_left
         ·
          simp only [Act.put, List.setIfInBounds_toArray, List.set_cons_zero, List.set_cons_succ, i64_w, i32_w]
          rfl
         refine take_ (i := 1) (N := some 45) (v := ?_) (a' := ?_) #[J, J, J, Y, Y, Y, J, Y, J, Y, Y, Y, Y] rfl rfl (Qm1 HT_.out HW_.out (by kernel_rfl)) (fun _ _ _ h => h) (Or.inl ⟨by rfl, ?_⟩) hHeld ?_ ?_
         rotate_left
         ·
          rintro w' ⟨s0, s1, s2, s3, s4, s5⟩
          go_simp
          with_reducible rfl
         rotate_left
         ·
          simp only [Act.put, List.setIfInBounds_toArray, List.set_cons_zero, List.set_cons_succ, i64_w, i32_w]
          rfl
         refine pure_ (i := 3) (N := some 47) (v := ?_) (a' := ?_) #[J, J, J, J, Y, Y, J, Y, J, Y, Y, Y, Y] rfl rfl (Qm HT_.out (by kernel_rfl)) (fun _ _ _ h => h) (Or.inl ⟨by rfl, ?_⟩) ?_ ?_
         rotate_left
         ·
          intro w'
          go_simp
          with_reducible rfl
         rotate_left
         ·
          simp only [Act.put, List.setIfInBounds_toArray, List.set_cons_zero, List.set_cons_succ, i64_w, i32_w]
          rfl
         refine pure_ (i := 4) (N := some 48) (v := ?_) (a' := ?_) #[J, J, J, J, J, Y, J, Y, J, Y, Y, Y, Y] rfl rfl (Qm HT_.out (by kernel_rfl)) (fun _ _ _ h => h) (Or.inl ⟨by rfl, ?_⟩) ?_ ?_
         rotate_left
         ·
          intro w'
          go_simp
          with_reducible rfl
         rotate_left
         ·
          simp only [Act.put, List.setIfInBounds_toArray, List.set_cons_zero, List.set_cons_succ, i64_w, i32_w]
          rfl
         refine take_ (i := 5) (N := some 49) (v := ?_) (a' := ?_) #[J, J, J, J, J, J, J, Y, J, Y, Y, Y, Y] rfl rfl (Qm1 HT_.out HW_.out (by kernel_rfl)) (fun _ _ _ h => h) (Or.inl ⟨by rfl, ?_⟩) hHeld ?_ ?_
         rotate_left
         ·
          rintro w' ⟨s0, s1, s2, s3, s4, s5⟩
          go_simp
          with_reducible rfl
         rotate_left
         ·
          simp only [Act.put, List.setIfInBounds_toArray, List.set_cons_zero, List.set_cons_succ, i64_w, i32_w]
          rfl
         refine take_ (i := 7) (N := some 51) (v := ?_) (a' := ?_) #[J, J, J, J, J, J, J, J, J, Y, Y, Y, Y] rfl rfl (Qm1 HT_.out HW_.out (by kernel_rfl)) (fun _ _ _ h => h) (Or.inl ⟨by rfl, ?_⟩) hHeld ?_ ?_
         rotate_left
         ·
          rintro w' ⟨s0, s1, s2, s3, s4, s5⟩
          go_simp
          with_reducible rfl
         rotate_left
         ·
          simp only [Act.put, List.setIfInBounds_toArray, List.set_cons_zero, List.set_cons_succ, i64_w, i32_w]
          rfl
         refine pure_ (i := 9) (N := some 53) (v := ?_) (a' := ?_) #[J, J, J, J, J, J, J, J, J, J, Y, Y, Y] rfl rfl (Qm HT_.out (by kernel_rfl)) (fun _ _ _ h => h) (Or.inl ⟨by rfl, ?_⟩) ?_ ?_
         rotate_left
         ·
          intro w'
          go_simp
          with_reducible rfl
         rotate_left
         ·
          simp only [Act.put, List.setIfInBounds_toArray, List.set_cons_zero, List.set_cons_succ, i64_w, i32_w]
          rfl
         refine pure_ (i := 10) (N := some 54) (v := ?_) (a' := ?_) #[J, J, J, J, J, J, J, J, J, J, J, Y, Y] rfl rfl (Qm HT_.out (by kernel_rfl)) (fun _ _ _ h => h) (Or.inl ⟨by rfl, ?_⟩) ?_ ?_
         rotate_left
         ·
          intro w'
          go_simp
          with_reducible rfl
         rotate_left
         ·
          simp only [Act.put, List.setIfInBounds_toArray, List.set_cons_zero, List.set_cons_succ, i64_w, i32_w]
          rfl
         refine take_ (i := 11) (N := some 55) (v := ?_) (a' := ?_) #[J, J, J, J, J, J, J, J, J, J, J, J, Y] rfl rfl (Qm1 HT_.out HW_.out (by kernel_rfl)) (fun _ _ _ h => h) (Or.inl ⟨by rfl, ?_⟩) hHeld ?_ ?_
         rotate_left
         ·
          rintro w' ⟨s0, s1, s2, s3, s4, s5⟩
          go_simp
          with_reducible rfl
         rotate_left
         ·
          simp only [Act.put, List.setIfInBounds_toArray, List.set_cons_zero, List.set_cons_succ, i64_w, i32_w]
          rfl
         refine pure_ (i := 12) (N := some 56) (v := ?_) (a' := ?_) #[J, J, J, J, J, J, J, J, J, J, J, J, J] rfl rfl (Qm HT_.out (by kernel_rfl)) (fun _ _ _ h => h) (Or.inl ⟨by rfl, ?_⟩) ?_ ?_
         rotate_left
         ·
          intro w'
          go_simp
          with_reducible rfl
         rotate_left
         ·
          simp only [Act.put, List.setIfInBounds_toArray, List.set_cons_zero, List.set_cons_succ, i64_w, i32_w]
          rfl
         refine done_ (done_of HT_.out (by kernel_rfl)) ?_
         try go_wp2
         go_ret3
         exact ⟨by first | rfl | (simp [Qw, Qx] <;> rfl) | (simp [*, Qw, Qx] <;> rfl), by with_reducible repeat (first | exact HB.out | apply Qk | apply Ql | apply Qj | refine Qi ?_ GE228.out)⟩
        rw [if_neg c21] at H
        have c21b0 : (((Qa1 l0_0 x6_3).f0).toList == ((Qa1 l0_0 x5_2).f0).toList) = false := beq_eq_false_iff_ne.mpr c21
        have c21b1 : (((Qa1 l0_0 x6_3).f0).toList != ((Qa1 l0_0 x5_2).f0).toList) = true := bne_iff_ne.mpr c21
        have H' := Qa.mk H
        clear H
        try go_wp2
        have n0_ := Qa.mk (Qb BK228.out)
        have n1_ := Qa.mk (Qj HB.out)
        clear BK228
        clear HB
        have BK228 := n0_
        have HB := n1_
        clear n0_ n1_
        have p231 : 0 ≤ (x6_3 : Int) := of_decide_eq_true (by assumption)
        have q231 : x6_3 < (l0_0.length : Int) := of_decide_eq_true (by assumption)
        obtain ⟨ad231, e231, hx231_0, hx231_1⟩ := at_T39 HR0_0.out x6_3 p231 q231
        have hw231_1 := hx231_1
        have hw231_0 := hx231_0
        obtain rfl : ad229 = ad231 := (by injection e231)
        replace hx231_0 := (HB.out.cell (World.block_lt_of_cell? w _ hx231_0)).trans hx231_0
        replace hx231_1 := (HB.out.cell (World.block_lt_of_cell? w _ hx231_1)).trans hx231_1
        replace p231 := eq_true p231
        replace q231 := eq_true q231
        have p232 : 0 ≤ (x5_2 : Int) := of_decide_eq_true (by assumption)
        have q232 : x5_2 < (l0_0.length : Int) := of_decide_eq_true (by assumption)
        obtain ⟨ad232, e232, hx232_0, hx232_1⟩ := at_T39 HR0_0.out x5_2 p232 q232
        have hw232_1 := hx232_1
        have hw232_0 := hx232_0
        obtain rfl : ad229 = ad232 := (by injection e232)
        replace hx232_0 := (HB.out.cell (World.block_lt_of_cell? w _ hx232_0)).trans hx232_0
        replace hx232_1 := (HB.out.cell (World.block_lt_of_cell? w _ hx232_1)).trans hx232_1
        replace p232 := eq_true p232
        replace q232 := eq_true q232
        refine start_ (n := 13) (S := fun w' => w'.cell? ⟨gb228, 0, none⟩ = some (.slice (some ad229) l0_0.length c0_0) ∧ w'.cell? ⟨gb228, 1, none⟩ = some (.slice A0_1 l0_1.length c0_1) ∧ w'.cell? (ad229.add ((x6_3).toNat * 2)) = some (.string ((Qa1 l0_0 x6_3).f0)) ∧ w'.cell? ⟨(ad229.add ((x6_3).toNat * 2)).block, (ad229.add ((x6_3).toNat * 2)).off + 1, none⟩ = some (.int .i64 ((Qa1 l0_0 x6_3).f1)) ∧ w'.cell? (ad229.add ((x5_2).toNat * 2)) = some (.string ((Qa1 l0_0 x5_2).f0)) ∧ w'.cell? ⟨(ad229.add ((x5_2).toNat * 2)).block, (ad229.add ((x5_2).toNat * 2)).off + 1, none⟩ = some (.int .i64 ((Qa1 l0_0 x5_2).f1))) (ds := []) #[Y, Y, Y, Y, Y, Y, Y, Y, Y, Y, Y, Y, Y] (by kernel_rfl) rfl rfl ⟨(Qe BK228.out 0).trans rfl, (Qe BK228.out 1).trans rfl, ((HB.out.cell (World.block_lt_of_cell? w _ hw231_0)).trans hw231_0), ((HB.out.cell (World.block_lt_of_cell? w _ hw231_1)).trans hw231_1), ((HB.out.cell (World.block_lt_of_cell? w _ hw232_0)).trans hw232_0), ((HB.out.cell (World.block_lt_of_cell? w _ hw232_1)).trans hw232_1)⟩ (fun hHeld => ?_); refine with_tabW Qc1.tab13 Qc1.bits13 (fun HT_ HW_ => ?_)
        generalize wr.drew = w23 at BK228 HB hx231_0 hx231_1 hx232_0 hx232_1 hHeld ⊢
        refine pure_ (i := 0) (N := some 44) (v := ?_) (a' := ?_) #[J, Y, Y, Y, Y, Y, Y, Y, Y, Y, Y, Y, Y] rfl rfl (Qm HT_.out (by kernel_rfl)) (fun _ _ _ h => h) (Or.inl ⟨by rfl, ?_⟩) ?_ ?_
        rotate_left
        ·
         intro w'
         go_simp
         with_reducible rfl
        rotate_left
        ·
         simp only [Act.put, List.setIfInBounds_toArray, List.set_cons_zero, List.set_cons_succ, i64_w, i32_w]
         rfl
        refine pure_ (i := 2) (N := some 46) (v := ?_) (a' := ?_) #[J, Y, J, Y, Y, Y, Y, Y, Y, Y, Y, Y, Y] rfl rfl (Qm HT_.out (by kernel_rfl)) (fun _ _ _ h => h) (Or.inl ⟨by rfl, ?_⟩) ?_ ?_
        rotate_left
        ·
         intro w'
         go_simp
         with_reducible rfl
        rotate_left
        ·
         simp only [Act.put, List.setIfInBounds_toArray, List.set_cons_zero, List.set_cons_succ, i64_w, i32_w]
         rfl
        refine pure_ (i := 6) (N := some 50) (v := ?_) (a' := ?_) #[J, Y, J, Y, Y, Y, J, Y, Y, Y, Y, Y, Y] rfl rfl (Qm HT_.out (by kernel_rfl)) (fun _ _ _ h => h) (Or.inl ⟨by rfl, ?_⟩) ?_ ?_
        rotate_left
        ·
         intro w'
         go_simp
         with_reducible rfl
        rotate_left
        ·
         simp only [Act.put, List.setIfInBounds_toArray, List.set_cons_zero, List.set_cons_succ, i64_w, i32_w]
         rfl
        refine pure_ (i := 8) (N := some 52) (v := ?_) (a' := ?_) #[J, Y, J, Y, Y, Y, J, Y, J, Y, Y, Y, Y] rfl rfl (Qm HT_.out (by kernel_rfl)) (fun _ _ _ h => h) (Or.inl ⟨by rfl, ?_⟩) ?_ ?_
        rotate_left
        ·
         intro w'
         go_simp
         with_reducible rfl
        rotate_left
        ·
         simp only [Act.put, List.setIfInBounds_toArray, List.set_cons_zero, List.set_cons_succ, i64_w, i32_w]
         rfl
        refine take_ (i := 1) (N := some 45) (v := ?_) (a' := ?_) #[J, J, J, Y, Y, Y, J, Y, J, Y, Y, Y, Y] rfl rfl (Qm1 HT_.out HW_.out (by kernel_rfl)) (fun _ _ _ h => h) (Or.inl ⟨by rfl, ?_⟩) hHeld ?_ ?_
        rotate_left
        ·
         rintro w' ⟨s0, s1, s2, s3, s4, s5⟩
         go_simp
         with_reducible rfl
        rotate_left
        ·
         simp only [Act.put, List.setIfInBounds_toArray, List.set_cons_zero, List.set_cons_succ, i64_w, i32_w]
         rfl
        refine pure_ (i := 3) (N := some 47) (v := ?_) (a' := ?_) #[J, J, J, J, Y, Y, J, Y, J, Y, Y, Y, Y] rfl rfl (Qm HT_.out (by kernel_rfl)) (fun _ _ _ h => h) (Or.inl ⟨by rfl, ?_⟩) ?_ ?_
        rotate_left
        ·
         intro w'
         go_simp
         with_reducible rfl
        rotate_left
        ·
         simp only [Act.put, List.setIfInBounds_toArray, List.set_cons_zero, List.set_cons_succ, i64_w, i32_w]
         rfl
        refine pure_ (i := 4) (N := some 48) (v := ?_) (a' := ?_) #[J, J, J, J, J, Y, J, Y, J, Y, Y, Y, Y] rfl rfl (Qm HT_.out (by kernel_rfl)) (fun _ _ _ h => h) (Or.inl ⟨by rfl, ?_⟩) ?_ ?_
        rotate_left
        ·
         intro w'
         go_simp
         with_reducible rfl
        rotate_left
        ·
         simp only [Act.put, List.setIfInBounds_toArray, List.set_cons_zero, List.set_cons_succ, i64_w, i32_w]
         rfl
        refine take_ (i := 5) (N := some 49) (v := ?_) (a' := ?_) #[J, J, J, J, J, J, J, Y, J, Y, Y, Y, Y] rfl rfl (Qm1 HT_.out HW_.out (by kernel_rfl)) (fun _ _ _ h => h) (Or.inl ⟨by rfl, ?_⟩) hHeld ?_ ?_
        rotate_left
        ·
         rintro w' ⟨s0, s1, s2, s3, s4, s5⟩
         go_simp
         with_reducible rfl
        rotate_left
        ·
         simp only [Act.put, List.setIfInBounds_toArray, List.set_cons_zero, List.set_cons_succ, i64_w, i32_w]
         rfl
        refine take_ (i := 7) (N := some 51) (v := ?_) (a' := ?_) #[J, J, J, J, J, J, J, J, J, Y, Y, Y, Y] rfl rfl (Qm1 HT_.out HW_.out (by kernel_rfl)) (fun _ _ _ h => h) (Or.inl ⟨by rfl, ?_⟩) hHeld ?_ ?_
        rotate_left
        ·
         rintro w' ⟨s0, s1, s2, s3, s4, s5⟩
         go_simp
         with_reducible rfl
        rotate_left
        ·
         simp only [Act.put, List.setIfInBounds_toArray, List.set_cons_zero, List.set_cons_succ, i64_w, i32_w]
         rfl
        refine pure_ (i := 9) (N := some 53) (v := ?_) (a' := ?_) #[J, J, J, J, J, J, J, J, J, J, Y, Y, Y] rfl rfl (Qm HT_.out (by kernel_rfl)) (fun _ _ _ h => h) (Or.inl ⟨by rfl, ?_⟩) ?_ ?_
        rotate_left
        ·
         intro w'
         go_simp
         with_reducible rfl
        rotate_left
        ·
         simp only [Act.put, List.setIfInBounds_toArray, List.set_cons_zero, List.set_cons_succ, i64_w, i32_w]
         rfl
        refine pure_ (i := 10) (N := some 54) (v := ?_) (a' := ?_) #[J, J, J, J, J, J, J, J, J, J, J, Y, Y] rfl rfl (Qm HT_.out (by kernel_rfl)) (fun _ _ _ h => h) (Or.inl ⟨by rfl, ?_⟩) ?_ ?_
        rotate_left
        ·
         intro w'
         go_simp
         with_reducible rfl
        rotate_left
        ·
         simp only [Act.put, List.setIfInBounds_toArray, List.set_cons_zero, List.set_cons_succ, i64_w, i32_w]
         rfl
        refine take_ (i := 11) (N := some 55) (v := ?_) (a' := ?_) #[J, J, J, J, J, J, J, J, J, J, J, J, Y] rfl rfl (Qm1 HT_.out HW_.out (by kernel_rfl)) (fun _ _ _ h => h) (Or.inl ⟨by rfl, ?_⟩) hHeld ?_ ?_
        rotate_left
        ·
         rintro w' ⟨s0, s1, s2, s3, s4, s5⟩
         go_simp
         with_reducible rfl
        rotate_left
        ·
         simp only [Act.put, List.setIfInBounds_toArray, List.set_cons_zero, List.set_cons_succ, i64_w, i32_w]
         rfl
        refine pure_ (i := 12) (N := some 56) (v := ?_) (a' := ?_) #[J, J, J, J, J, J, J, J, J, J, J, J, J] rfl rfl (Qm HT_.out (by kernel_rfl)) (fun _ _ _ h => h) (Or.inl ⟨by rfl, ?_⟩) ?_ ?_
        rotate_left
        ·
         intro w'
         go_simp
         with_reducible rfl
        rotate_left
        ·
         simp only [Act.put, List.setIfInBounds_toArray, List.set_cons_zero, List.set_cons_succ, i64_w, i32_w]
         rfl
        refine done_ (done_of HT_.out (by kernel_rfl)) ?_
        try go_wp2
        go_roundg k3
        case measure => have := HJ1.out; have := HK2.out; have := HK3.out; omega
        case rel => exact ⟨(wrap64 (x6_3 + 1)), (by first | rfl | (simp; done) | (simp [*]; done)), H', ⟨by have := HJ1.out; have := HK2.out; have := HK3.out; omega⟩, ⟨by (with_reducible repeat (first | refine Qd ?_ _ | refine Qb ?_ | refine Qc ?_ _)); exact BK228.out⟩, ⟨by with_reducible repeat (first | exact HB.out | apply Qk | apply Ql | apply Qj | refine Qi ?_ GE228.out)⟩⟩
     rw [if_neg c11] at H
     have c11b0 : decide (x5_2 < (l0_0.length : Int)) = false := decide_eq_false c11
     clear c11
     have H' := Qa.mk H
     clear H
     have hcz25_0 : wr.cell? ⟨gb228, 0, none⟩ = some (.slice A0_0 l0_0.length c0_0) := (Qe BK228.out 0).trans rfl
     have hcz25_1 : wr.cell? ⟨gb228, 1, none⟩ = some (.slice A0_1 l0_1.length c0_1) := (Qe BK228.out 1).trans rfl
     have hfz25_0 := Qf BK228.out 0
     have hfz25_1 := Qf BK228.out 1
     go_wp2
     go_loopg [7] k2 (fun kq v7 w' => ∃ (x7_3 : Int), v7 = .int .i64 x7_3 ∧ Qa (Qc1.l2 kq x7_3 l0_0 l0_1 = some (r1, r2, r3)) ∧ Qa (kq ≤ k2) ∧ Qa (w'.heap[gb228]? = some (.cells #[(.slice A0_0 l0_0.length c0_0), (.slice A0_1 l0_1.length c0_1)] 25 (0, 0))) ∧ Qa (Below w.heap.size w w'))
     case atStart => exact ⟨(0), (by first | rfl | (simp; done) | (simp [*]; done)), H', ⟨Nat.le_refl _⟩, ⟨by (with_reducible repeat (first | refine Qd ?_ _ | refine Qb ?_ | refine Qc ?_ _)); exact BK228.out⟩, ⟨by with_reducible repeat (first | exact HB.out | apply Qk | apply Ql | apply Qj | refine Qi ?_ GE228.out)⟩⟩
     case round =>
      clear H'
      (try clear c1; try clear c2; try clear p2; try clear q2; try clear hx2; try clear c3; try clear c4; try clear c4b0; try clear c4b1; try clear p6; try clear c7; try clear c8; try clear c8b0; try clear c8b1; try clear c8b2; try clear c11; try clear c11b0; try clear c12; try clear c12b0; try clear c14; try clear c16; try clear c16b0; try clear c17; try clear c17b0; try clear c18; try clear c18b0; try clear c19; try clear c19b0; try clear c20; try clear c20b0; try clear c21; try clear c21b0; try clear c21b1; try clear p22; try clear q22; try clear hx22; try clear p23; try clear q23; try clear hx23; try clear hcz10_0; try clear hcz10_1; try clear hcz15_0; try clear hcz15_1; try clear hcz24_0; try clear hcz24_1; try clear hcz25_0; try clear hcz25_1; try clear hcz5_0; try clear hcz5_1; try clear hcz6_0; try clear hcz6_1; try clear hcz9_0; try clear hcz9_1; try clear hfz10_0; try clear hfz10_1; try clear hfz15_0; try clear hfz15_1; try clear hfz24_0; try clear hfz24_1; try clear hfz25_0; try clear hfz25_1; try clear hfz5_0; try clear hfz5_1; try clear hfz6_0; try clear hfz6_1; try clear hfz9_0; try clear hfz9_1; try clear hx229_0; try clear hx229_1; try clear hx231_0; try clear hx231_1; try clear hx232_0; try clear hx232_1; try clear p2; try clear p229; try clear p231; try clear p232; try clear q2; try clear q229; try clear q231; try clear q232)
      obtain ⟨x7_3, rfl, HA, HK3, BK228, HB⟩ := hrel
      cases gk with
      | zero => exact absurd HA.out (by simp [Qc1.l2])
      | succ k3 =>
       have H := HA.out
       clear HA
       simp only [Qc1.l2] at H
       by_cases c26 : x7_3 < (l0_1.length : Int)
       ·
        rw [if_pos c26] at H
        have c26b0 : decide (x7_3 < (l0_1.length : Int)) = true := decide_eq_true c26
        clear c26
        by_cases c27 : 0 ≤ x7_3
        rotate_left
        ·
         rw [if_neg c27] at H
         exact absurd H (by simp)
        rw [if_pos c27] at H
        have c27b0 : decide (0 ≤ x7_3) = true := decide_eq_true c27
        clear c27
        replace H := Option.bind_eq_some_iff.mp H
        obtain ⟨t234, A280, H⟩ := H
        replace H : (if t234 = true then (Qc1.l2 k3 (wrap64 (x7_3 + 1)) l0_0 l0_1) else (some ((⟨#[110, 111, 100, 101, 115]⟩ : ByteArray), 10, x7_3))) = some (r1, r2, r3) := H
        have A28 := Qa.mk A280
        clear A280
        by_cases c29 : t234 = true
        ·
         subst c29
         have H1 : (Qc1.l2 k3 (wrap64 (x7_3 + 1)) l0_0 l0_1) = some (r1, r2, r3) := by rw [if_pos rfl] at H; exact H
         clear H
         have H := H1
         clear H1
         have H' := Qa.mk H
         clear H
         have hcz30_0 : wr.cell? ⟨gb228, 0, none⟩ = some (.slice A0_0 l0_0.length c0_0) := (Qe BK228.out 0).trans rfl
         have hcz30_1 : wr.cell? ⟨gb228, 1, none⟩ = some (.slice A0_1 l0_1.length c0_1) := (Qe BK228.out 1).trans rfl
         have hfz30_0 := Qf BK228.out 0
         have hfz30_1 := Qf BK228.out 1
         try go_wp2
         have n0_ := Qa.mk (Qb BK228.out)
         have n1_ := Qa.mk (Qj HB.out)
         clear BK228
         clear HB
         have BK228 := n0_
         have HB := n1_
         clear n0_ n1_
         have p233 : 0 ≤ (x7_3 : Int) := of_decide_eq_true (by assumption)
         have q233 : x7_3 < (l0_1.length : Int) := of_decide_eq_true (by assumption)
         obtain ⟨ad233, A233_1, c233_1, e233, hx233_0, hx233_1, hx233_2, hx233_3, hx233_4, hx233_5, hx233_6, hl233_1, hi233_1⟩ := at_T53 HR0_1.out x7_3 p233 q233
         have hw233_6 := hx233_6
         have hw233_5 := hx233_5
         have hw233_4 := hx233_4
         have hw233_3 := hx233_3
         have hw233_2 := hx233_2
         have hw233_1 := hx233_1
         have hw233_0 := hx233_0
         cases e233
         replace hx233_0 := (HB.out.cell (World.block_lt_of_cell? w _ hx233_0)).trans hx233_0
         replace hx233_1 := (HB.out.cell (World.block_lt_of_cell? w _ hx233_1)).trans hx233_1
         replace hx233_2 := (HB.out.cell (World.block_lt_of_cell? w _ hx233_2)).trans hx233_2
         replace hx233_3 := (HB.out.cell (World.block_lt_of_cell? w _ hx233_3)).trans hx233_3
         replace hx233_4 := (HB.out.cell (World.block_lt_of_cell? w _ hx233_4)).trans hx233_4
         replace hx233_5 := (HB.out.cell (World.block_lt_of_cell? w _ hx233_5)).trans hx233_5
         replace hx233_6 := (HB.out.cell (World.block_lt_of_cell? w _ hx233_6)).trans hx233_6
         have HR233_1 := Qa.mk hi233_1
         have HC233_1 := Qa.mk hl233_1
         clear hi233_1 hl233_1
         replace p233 := eq_true p233
         replace q233 := eq_true q233
         refine start_ (n := 10) (S := fun w' => w'.cell? ⟨gb228, 0, none⟩ = some (.slice A0_0 l0_0.length c0_0) ∧ w'.cell? ⟨gb228, 1, none⟩ = some (.slice (some ad233) l0_1.length c0_1) ∧ w'.cell? (ad233.add ((x7_3).toNat * 7)) = some (.int .i64 ((Qh l0_1 x7_3).f0)) ∧ w'.cell? ⟨(ad233.add ((x7_3).toNat * 7)).block, (ad233.add ((x7_3).toNat * 7)).off + 1, none⟩ = some (.slice A233_1 ((Qh l0_1 x7_3).f1).length c233_1) ∧ w'.cell? ⟨(ad233.add ((x7_3).toNat * 7)).block, (ad233.add ((x7_3).toNat * 7)).off + 2, none⟩ = some (.int .i64 ((Qh l0_1 x7_3).f2)) ∧ w'.cell? ⟨(ad233.add ((x7_3).toNat * 7)).block, (ad233.add ((x7_3).toNat * 7)).off + 3, none⟩ = some (.int .u64 ((Qh l0_1 x7_3).f3.f0)) ∧ w'.cell? ⟨(ad233.add ((x7_3).toNat * 7)).block, (ad233.add ((x7_3).toNat * 7)).off + 4, none⟩ = some (.int .u64 ((Qh l0_1 x7_3).f3.f1)) ∧ w'.cell? ⟨(ad233.add ((x7_3).toNat * 7)).block, (ad233.add ((x7_3).toNat * 7)).off + 5, none⟩ = some (.int .u64 ((Qh l0_1 x7_3).f3.f2)) ∧ w'.cell? ⟨(ad233.add ((x7_3).toNat * 7)).block, (ad233.add ((x7_3).toNat * 7)).off + 6, none⟩ = some (.int .u64 ((Qh l0_1 x7_3).f3.f3))) (ds := []) #[Y, Y, Y, Y, Y, Y, Y, Y, Y, Y] (by kernel_rfl) rfl rfl ⟨(Qe BK228.out 0).trans rfl, (Qe BK228.out 1).trans rfl, ((HB.out.cell (World.block_lt_of_cell? w _ hw233_0)).trans hw233_0), ((HB.out.cell (World.block_lt_of_cell? w _ hw233_1)).trans hw233_1), ((HB.out.cell (World.block_lt_of_cell? w _ hw233_2)).trans hw233_2), ((HB.out.cell (World.block_lt_of_cell? w _ hw233_3)).trans hw233_3), ((HB.out.cell (World.block_lt_of_cell? w _ hw233_4)).trans hw233_4), ((HB.out.cell (World.block_lt_of_cell? w _ hw233_5)).trans hw233_5), ((HB.out.cell (World.block_lt_of_cell? w _ hw233_6)).trans hw233_6)⟩ (fun hHeld => ?_); refine with_tabW Qc1.tab18 Qc1.bits18 (fun HT_ HW_ => ?_)
         generalize wr.drew = w31 at BK228 HB HR233_1 hx233_0 hx233_1 hx233_2 hx233_3 hx233_4 hx233_5 hx233_6 hHeld ⊢
         refine pure_ (i := 0) (N := some 65) (v := ?_) (a' := ?_) #[J, Y, Y, Y, Y, Y, Y, Y, Y, Y] rfl rfl (Qm HT_.out (by kernel_rfl)) (fun _ _ _ h => h) (Or.inl ⟨by rfl, ?_⟩) ?_ ?_
         rotate_left
         ·
          intro w'
          go_simp
          with_reducible rfl
         rotate_left
         ·
          simp only [Act.put, List.setIfInBounds_toArray, List.set_cons_zero, List.set_cons_succ, i64_w, i32_w]
          rfl
         refine pure_ (i := 2) (N := some 67) (v := ?_) (a' := ?_) #[J, Y, J, Y, Y, Y, Y, Y, Y, Y] rfl rfl (Qm HT_.out (by kernel_rfl)) (fun _ _ _ h => h) (Or.inl ⟨by rfl, ?_⟩) ?_ ?_
         rotate_left
         ·
          intro w'
          go_simp
          with_reducible rfl
         rotate_left
         ·
          simp only [Act.put, List.setIfInBounds_toArray, List.set_cons_zero, List.set_cons_succ, i64_w, i32_w]
          rfl
         refine pure_ (i := 5) (N := some 70) (v := ?_) (a' := ?_) #[J, Y, J, Y, Y, J, Y, Y, Y, Y] rfl rfl (Qm HT_.out (by kernel_rfl)) (fun _ _ _ h => h) (Or.inl ⟨by rfl, ?_⟩) ?_ ?_
         rotate_left
         ·
          intro w'
          go_simp
          with_reducible rfl
         rotate_left
         ·
          simp only [Act.put, List.setIfInBounds_toArray, List.set_cons_zero, List.set_cons_succ, i64_w, i32_w]
          rfl
         refine take_ (i := 1) (N := some 66) (v := ?_) (a' := ?_) #[J, J, J, Y, Y, J, Y, Y, Y, Y] rfl rfl (Qm1 HT_.out HW_.out (by kernel_rfl)) (fun _ _ _ h => h) (Or.inl ⟨by rfl, ?_⟩) hHeld ?_ ?_
         rotate_left
         ·
          rintro w' ⟨s0, s1, s2, s3, s4, s5, s6, s7, s8⟩
          go_simp
          with_reducible rfl
         rotate_left
         ·
          simp only [Act.put, List.setIfInBounds_toArray, List.set_cons_zero, List.set_cons_succ, i64_w, i32_w]
          rfl
         refine pure_ (i := 3) (N := some 68) (v := ?_) (a' := ?_) #[J, J, J, J, Y, J, Y, Y, Y, Y] rfl rfl (Qm HT_.out (by kernel_rfl)) (fun _ _ _ h => h) (Or.inl ⟨by rfl, ?_⟩) ?_ ?_
         rotate_left
         ·
          intro w'
          go_simp
          with_reducible rfl
         rotate_left
         ·
          simp only [Act.put, List.setIfInBounds_toArray, List.set_cons_zero, List.set_cons_succ, i64_w, i32_w]
          rfl
         refine take_ (i := 4) (N := some 69) (v := ?_) (a' := ?_) #[J, J, J, J, J, J, Y, Y, Y, Y] rfl rfl (Qm1 HT_.out HW_.out (by kernel_rfl)) (fun _ _ _ h => h) (Or.inl ⟨by rfl, ?_⟩) hHeld ?_ ?_
         rotate_left
         ·
          rintro w' ⟨s0, s1, s2, s3, s4, s5, s6, s7, s8⟩
          go_simp
          with_reducible rfl
         rotate_left
         ·
          simp only [Act.put, List.setIfInBounds_toArray, List.set_cons_zero, List.set_cons_succ, i64_w, i32_w]
          rfl
         refine take_ (i := 6) (N := some 71) (v := ?_) (a' := ?_) #[J, J, J, J, J, J, J, Y, Y, Y] rfl rfl (Qm1 HT_.out HW_.out (by kernel_rfl)) (fun _ _ _ h => h) (Or.inl ⟨by rfl, ?_⟩) hHeld ?_ ?_
         rotate_left
         ·
          rintro w' ⟨s0, s1, s2, s3, s4, s5, s6, s7, s8⟩
          go_simp
          with_reducible rfl
         rotate_left
         ·
          simp only [Act.put, List.setIfInBounds_toArray, List.set_cons_zero, List.set_cons_succ, i64_w, i32_w]
          rfl
         refine pure_ (i := 7) (N := some 72) (v := ?_) (a' := ?_) #[J, J, J, J, J, J, J, J, Y, Y] rfl rfl (Qm HT_.out (by kernel_rfl)) (fun _ _ _ h => h) (Or.inl ⟨by rfl, ?_⟩) ?_ ?_
         rotate_left
         ·
          intro w'
          go_simp
          with_reducible rfl
         rotate_left
         ·
          simp only [Act.put, List.setIfInBounds_toArray, List.set_cons_zero, List.set_cons_succ, i64_w, i32_w]
          rfl
         refine one_ (i := 8) (N := some 73) #[J, J, J, J, J, J, J, J, J, Y] rfl rfl (one_of HT_.out (by kernel_rfl)) (by decide) (fun K hK => ?_)
         refine goes_ Try.func36 (by kernel_rfl) rfl #[.agg #[.int .i64 ((Qh l0_1 x7_3).f0), .slice A233_1 ((Qh l0_1 x7_3).f1).length c233_1, .int .i64 ((Qh l0_1 x7_3).f2), .int .u64 ((Qh l0_1 x7_3).f3.f0), .int .u64 ((Qh l0_1 x7_3).f3.f1), .int .u64 ((Qh l0_1 x7_3).f3.f2), .int .u64 ((Qh l0_1 x7_3).f3.f3)], .int .i64 (l0_0.length : Int)] (by rfl) rfl rfl (by (try simp only [List.map_toArray, List.map_cons, List.map_nil]); first | done | rfl | (simp only [List.length_drop, List.length_take]; rfl)) ?_
         with_reducible refine (Qk1.calls k3 ((Qh l0_1 x7_3).f0) _ _ ((Qh l0_1 x7_3).f1) ((Qh l0_1 x7_3).f2) ((Qh l0_1 x7_3).f3.f0) ((Qh l0_1 x7_3).f3.f1) ((Qh l0_1 x7_3).f3.f2) ((Qh l0_1 x7_3).f3.f3) (l0_0.length : Int) true _ ?side1 ?side2 A28.out).mono ?_
         (case side1 => repeat (first | exact (Kd.C_below HR233_1.out HB.out) | (with_reducible refine Kd.Qf1 ?_ _) | (with_reducible refine Kd.Qe1 ?_ _) | (with_reducible refine Kd.C_drew ?_)))
         (case side2 => exact HC233_1.out)
         rintro e w32 ⟨rfl, hb⟩
         refine ⟨_, rfl, ?_⟩
         have n0_ := Qa.mk (Qs (g := gb228) (o := .cells #[.slice A0_0 l0_0.length c0_0, .slice (some ad233) l0_1.length c0_1] 25 (0, 0)) (by (with_reducible repeat (first | refine Qd ?_ _ | refine Qb ?_ | refine Qc ?_ _)); exact BK228.out) hb)
         have n1_ := Qa.mk (Qv (by with_reducible repeat (first | exact HB.out | apply Qk | apply Ql | apply Qj | refine Qi ?_ GE228.out)) hb)
         clear BK228
         clear HB
         have BK228 := n0_
         have HB := n1_
         clear n0_ n1_
         (try clear hb; try clear hb2; try clear hk; try clear hi)
         refine hK.out _ _ ⟨(Qe BK228.out 0).trans rfl, (Qe BK228.out 1).trans rfl, ((HB.out.cell (World.block_lt_of_cell? w _ hw233_0)).trans hw233_0), ((HB.out.cell (World.block_lt_of_cell? w _ hw233_1)).trans hw233_1), ((HB.out.cell (World.block_lt_of_cell? w _ hw233_2)).trans hw233_2), ((HB.out.cell (World.block_lt_of_cell? w _ hw233_3)).trans hw233_3), ((HB.out.cell (World.block_lt_of_cell? w _ hw233_4)).trans hw233_4), ((HB.out.cell (World.block_lt_of_cell? w _ hw233_5)).trans hw233_5), ((HB.out.cell (World.block_lt_of_cell? w _ hw233_6)).trans hw233_6)⟩ (fun hHeld => ?_)
         clear hK K
         refine norm_ (a' := ?_) ?_ ?_
         rotate_left
         ·
          show Act.put _ (some 73) _ = _
          simp only [Act.put, List.setIfInBounds_toArray, List.set_cons_zero, List.set_cons_succ, i64_w, i32_w]
          rfl
         refine pure_ (i := 9) (N := some 74) (v := ?_) (a' := ?_) #[J, J, J, J, J, J, J, J, J, J] rfl rfl (Qm HT_.out (by kernel_rfl)) (fun _ _ _ h => h) (Or.inl ⟨by rfl, ?_⟩) ?_ ?_
         rotate_left
         ·
          intro w'
          go_simp
          with_reducible rfl
         rotate_left
         ·
          simp only [Act.put, List.setIfInBounds_toArray, List.set_cons_zero, List.set_cons_succ, i64_w, i32_w]
          rfl
         refine done_ (done_of HT_.out (by kernel_rfl)) ?_
         try go_wp2
         go_roundg k3
         case measure => have := HJ1.out; have := HK2.out; have := HK3.out; omega
         case rel => exact ⟨(wrap64 (x7_3 + 1)), (by first | rfl | (simp; done) | (simp [*]; done)), H', ⟨by have := HJ1.out; have := HK2.out; have := HK3.out; omega⟩, ⟨by (with_reducible repeat (first | refine Qd ?_ _ | refine Qb ?_ | refine Qc ?_ _)); exact BK228.out⟩, ⟨by with_reducible repeat (first | exact HB.out | apply Qk | apply Ql | apply Qj | refine Qi ?_ GE228.out)⟩⟩
        replace c29 := Bool.eq_false_iff.mpr c29
        subst c29
        have H1 : (some ((⟨#[110, 111, 100, 101, 115]⟩ : ByteArray), 10, x7_3)) = some (r1, r2, r3) := by rw [if_neg (show ¬ (false = true) by decide)] at H; exact H
        clear H
        have H := H1
        clear H1
        simp only [Option.some.injEq, Prod.mk.injEq] at H
        obtain ⟨rfl, rfl, rfl⟩ := H
        have hcz33_0 : wr.cell? ⟨gb228, 0, none⟩ = some (.slice A0_0 l0_0.length c0_0) := (Qe BK228.out 0).trans rfl
        have hcz33_1 : wr.cell? ⟨gb228, 1, none⟩ = some (.slice A0_1 l0_1.length c0_1) := (Qe BK228.out 1).trans rfl
        have hfz33_0 := Qf BK228.out 0
        have hfz33_1 := Qf BK228.out 1
        try go_wp2
        have n0_ := Qa.mk (Qb BK228.out)
        have n1_ := Qa.mk (Qj HB.out)
        clear BK228
        clear HB
        have BK228 := n0_
        have HB := n1_
        clear n0_ n1_
        have p233 : 0 ≤ (x7_3 : Int) := of_decide_eq_true (by assumption)
        have q233 : x7_3 < (l0_1.length : Int) := of_decide_eq_true (by assumption)
        obtain ⟨ad233, A233_1, c233_1, e233, hx233_0, hx233_1, hx233_2, hx233_3, hx233_4, hx233_5, hx233_6, hl233_1, hi233_1⟩ := at_T53 HR0_1.out x7_3 p233 q233
        have hw233_6 := hx233_6
        have hw233_5 := hx233_5
        have hw233_4 := hx233_4
        have hw233_3 := hx233_3
        have hw233_2 := hx233_2
        have hw233_1 := hx233_1
        have hw233_0 := hx233_0
        cases e233
        replace hx233_0 := (HB.out.cell (World.block_lt_of_cell? w _ hx233_0)).trans hx233_0
        replace hx233_1 := (HB.out.cell (World.block_lt_of_cell? w _ hx233_1)).trans hx233_1
        replace hx233_2 := (HB.out.cell (World.block_lt_of_cell? w _ hx233_2)).trans hx233_2
        replace hx233_3 := (HB.out.cell (World.block_lt_of_cell? w _ hx233_3)).trans hx233_3
        replace hx233_4 := (HB.out.cell (World.block_lt_of_cell? w _ hx233_4)).trans hx233_4
        replace hx233_5 := (HB.out.cell (World.block_lt_of_cell? w _ hx233_5)).trans hx233_5
        replace hx233_6 := (HB.out.cell (World.block_lt_of_cell? w _ hx233_6)).trans hx233_6
        have HR233_1 := Qa.mk hi233_1
        have HC233_1 := Qa.mk hl233_1
        clear hi233_1 hl233_1
        replace p233 := eq_true p233
        replace q233 := eq_true q233
        refine start_ (n := 10) (S := fun w' => w'.cell? ⟨gb228, 0, none⟩ = some (.slice A0_0 l0_0.length c0_0) ∧ w'.cell? ⟨gb228, 1, none⟩ = some (.slice (some ad233) l0_1.length c0_1) ∧ w'.cell? (ad233.add ((x7_3).toNat * 7)) = some (.int .i64 ((Qh l0_1 x7_3).f0)) ∧ w'.cell? ⟨(ad233.add ((x7_3).toNat * 7)).block, (ad233.add ((x7_3).toNat * 7)).off + 1, none⟩ = some (.slice A233_1 ((Qh l0_1 x7_3).f1).length c233_1) ∧ w'.cell? ⟨(ad233.add ((x7_3).toNat * 7)).block, (ad233.add ((x7_3).toNat * 7)).off + 2, none⟩ = some (.int .i64 ((Qh l0_1 x7_3).f2)) ∧ w'.cell? ⟨(ad233.add ((x7_3).toNat * 7)).block, (ad233.add ((x7_3).toNat * 7)).off + 3, none⟩ = some (.int .u64 ((Qh l0_1 x7_3).f3.f0)) ∧ w'.cell? ⟨(ad233.add ((x7_3).toNat * 7)).block, (ad233.add ((x7_3).toNat * 7)).off + 4, none⟩ = some (.int .u64 ((Qh l0_1 x7_3).f3.f1)) ∧ w'.cell? ⟨(ad233.add ((x7_3).toNat * 7)).block, (ad233.add ((x7_3).toNat * 7)).off + 5, none⟩ = some (.int .u64 ((Qh l0_1 x7_3).f3.f2)) ∧ w'.cell? ⟨(ad233.add ((x7_3).toNat * 7)).block, (ad233.add ((x7_3).toNat * 7)).off + 6, none⟩ = some (.int .u64 ((Qh l0_1 x7_3).f3.f3))) (ds := []) #[Y, Y, Y, Y, Y, Y, Y, Y, Y, Y] (by kernel_rfl) rfl rfl ⟨(Qe BK228.out 0).trans rfl, (Qe BK228.out 1).trans rfl, ((HB.out.cell (World.block_lt_of_cell? w _ hw233_0)).trans hw233_0), ((HB.out.cell (World.block_lt_of_cell? w _ hw233_1)).trans hw233_1), ((HB.out.cell (World.block_lt_of_cell? w _ hw233_2)).trans hw233_2), ((HB.out.cell (World.block_lt_of_cell? w _ hw233_3)).trans hw233_3), ((HB.out.cell (World.block_lt_of_cell? w _ hw233_4)).trans hw233_4), ((HB.out.cell (World.block_lt_of_cell? w _ hw233_5)).trans hw233_5), ((HB.out.cell (World.block_lt_of_cell? w _ hw233_6)).trans hw233_6)⟩ (fun hHeld => ?_); refine with_tabW Qc1.tab18 Qc1.bits18 (fun HT_ HW_ => ?_)
        generalize wr.drew = w34 at BK228 HB HR233_1 hx233_0 hx233_1 hx233_2 hx233_3 hx233_4 hx233_5 hx233_6 hHeld ⊢
        refine pure_ (i := 0) (N := some 65) (v := ?_) (a' := ?_) #[J, Y, Y, Y, Y, Y, Y, Y, Y, Y] rfl rfl (Qm HT_.out (by kernel_rfl)) (fun _ _ _ h => h) (Or.inl ⟨by rfl, ?_⟩) ?_ ?_
        rotate_left
        ·
         intro w'
         go_simp
         with_reducible rfl
        rotate_left
        ·
         simp only [Act.put, List.setIfInBounds_toArray, List.set_cons_zero, List.set_cons_succ, i64_w, i32_w]
         rfl
        refine pure_ (i := 2) (N := some 67) (v := ?_) (a' := ?_) #[J, Y, J, Y, Y, Y, Y, Y, Y, Y] rfl rfl (Qm HT_.out (by kernel_rfl)) (fun _ _ _ h => h) (Or.inl ⟨by rfl, ?_⟩) ?_ ?_
        rotate_left
        ·
         intro w'
         go_simp
         with_reducible rfl
        rotate_left
        ·
         simp only [Act.put, List.setIfInBounds_toArray, List.set_cons_zero, List.set_cons_succ, i64_w, i32_w]
         rfl
        refine pure_ (i := 5) (N := some 70) (v := ?_) (a' := ?_) #[J, Y, J, Y, Y, J, Y, Y, Y, Y] rfl rfl (Qm HT_.out (by kernel_rfl)) (fun _ _ _ h => h) (Or.inl ⟨by rfl, ?_⟩) ?_ ?_
        rotate_left
        ·
         intro w'
         go_simp
         with_reducible rfl
        rotate_left
        ·
         simp only [Act.put, List.setIfInBounds_toArray, List.set_cons_zero, List.set_cons_succ, i64_w, i32_w]
         rfl
        refine take_ (i := 1) (N := some 66) (v := ?_) (a' := ?_) #[J, J, J, Y, Y, J, Y, Y, Y, Y] rfl rfl (Qm1 HT_.out HW_.out (by kernel_rfl)) (fun _ _ _ h => h) (Or.inl ⟨by rfl, ?_⟩) hHeld ?_ ?_
        rotate_left
        ·
         rintro w' ⟨s0, s1, s2, s3, s4, s5, s6, s7, s8⟩
         go_simp
         with_reducible rfl
        rotate_left
        ·
         simp only [Act.put, List.setIfInBounds_toArray, List.set_cons_zero, List.set_cons_succ, i64_w, i32_w]
         rfl
        refine pure_ (i := 3) (N := some 68) (v := ?_) (a' := ?_) #[J, J, J, J, Y, J, Y, Y, Y, Y] rfl rfl (Qm HT_.out (by kernel_rfl)) (fun _ _ _ h => h) (Or.inl ⟨by rfl, ?_⟩) ?_ ?_
        rotate_left
        ·
         intro w'
         go_simp
         with_reducible rfl
        rotate_left
        ·
         simp only [Act.put, List.setIfInBounds_toArray, List.set_cons_zero, List.set_cons_succ, i64_w, i32_w]
         rfl
        refine take_ (i := 4) (N := some 69) (v := ?_) (a' := ?_) #[J, J, J, J, J, J, Y, Y, Y, Y] rfl rfl (Qm1 HT_.out HW_.out (by kernel_rfl)) (fun _ _ _ h => h) (Or.inl ⟨by rfl, ?_⟩) hHeld ?_ ?_
        rotate_left
        ·
         rintro w' ⟨s0, s1, s2, s3, s4, s5, s6, s7, s8⟩
         go_simp
         with_reducible rfl
        rotate_left
        ·
         simp only [Act.put, List.setIfInBounds_toArray, List.set_cons_zero, List.set_cons_succ, i64_w, i32_w]
         rfl
        refine take_ (i := 6) (N := some 71) (v := ?_) (a' := ?_) #[J, J, J, J, J, J, J, Y, Y, Y] rfl rfl (Qm1 HT_.out HW_.out (by kernel_rfl)) (fun _ _ _ h => h) (Or.inl ⟨by rfl, ?_⟩) hHeld ?_ ?_
        rotate_left
        ·
         rintro w' ⟨s0, s1, s2, s3, s4, s5, s6, s7, s8⟩
         go_simp
         with_reducible rfl
        rotate_left
        ·
         simp only [Act.put, List.setIfInBounds_toArray, List.set_cons_zero, List.set_cons_succ, i64_w, i32_w]
         rfl
        refine pure_ (i := 7) (N := some 72) (v := ?_) (a' := ?_) #[J, J, J, J, J, J, J, J, Y, Y] rfl rfl (Qm HT_.out (by kernel_rfl)) (fun _ _ _ h => h) (Or.inl ⟨by rfl, ?_⟩) ?_ ?_
        rotate_left
        ·
         intro w'
         go_simp
         with_reducible rfl
        rotate_left
        ·
         simp only [Act.put, List.setIfInBounds_toArray, List.set_cons_zero, List.set_cons_succ, i64_w, i32_w]
         rfl
        refine one_ (i := 8) (N := some 73) #[J, J, J, J, J, J, J, J, J, Y] rfl rfl (one_of HT_.out (by kernel_rfl)) (by decide) (fun K hK => ?_)
        refine goes_ Try.func36 (by kernel_rfl) rfl #[.agg #[.int .i64 ((Qh l0_1 x7_3).f0), .slice A233_1 ((Qh l0_1 x7_3).f1).length c233_1, .int .i64 ((Qh l0_1 x7_3).f2), .int .u64 ((Qh l0_1 x7_3).f3.f0), .int .u64 ((Qh l0_1 x7_3).f3.f1), .int .u64 ((Qh l0_1 x7_3).f3.f2), .int .u64 ((Qh l0_1 x7_3).f3.f3)], .int .i64 (l0_0.length : Int)] (by rfl) rfl rfl (by (try simp only [List.map_toArray, List.map_cons, List.map_nil]); first | done | rfl | (simp only [List.length_drop, List.length_take]; rfl)) ?_
        with_reducible refine (Qk1.calls k3 ((Qh l0_1 x7_3).f0) _ _ ((Qh l0_1 x7_3).f1) ((Qh l0_1 x7_3).f2) ((Qh l0_1 x7_3).f3.f0) ((Qh l0_1 x7_3).f3.f1) ((Qh l0_1 x7_3).f3.f2) ((Qh l0_1 x7_3).f3.f3) (l0_0.length : Int) false _ ?side1 ?side2 A28.out).mono ?_
        (case side1 => repeat (first | exact (Kd.C_below HR233_1.out HB.out) | (with_reducible refine Kd.Qf1 ?_ _) | (with_reducible refine Kd.Qe1 ?_ _) | (with_reducible refine Kd.C_drew ?_)))
        (case side2 => exact HC233_1.out)
        rintro e w35 ⟨rfl, hb⟩
        refine ⟨_, rfl, ?_⟩
        have n0_ := Qa.mk (Qs (g := gb228) (o := .cells #[.slice A0_0 l0_0.length c0_0, .slice (some ad233) l0_1.length c0_1] 25 (0, 0)) (by (with_reducible repeat (first | refine Qd ?_ _ | refine Qb ?_ | refine Qc ?_ _)); exact BK228.out) hb)
        have n1_ := Qa.mk (Qv (by with_reducible repeat (first | exact HB.out | apply Qk | apply Ql | apply Qj | refine Qi ?_ GE228.out)) hb)
        clear BK228
        clear HB
        have BK228 := n0_
        have HB := n1_
        clear n0_ n1_
        (try clear hb; try clear hb2; try clear hk; try clear hi)
        refine hK.out _ _ ⟨(Qe BK228.out 0).trans rfl, (Qe BK228.out 1).trans rfl, ((HB.out.cell (World.block_lt_of_cell? w _ hw233_0)).trans hw233_0), ((HB.out.cell (World.block_lt_of_cell? w _ hw233_1)).trans hw233_1), ((HB.out.cell (World.block_lt_of_cell? w _ hw233_2)).trans hw233_2), ((HB.out.cell (World.block_lt_of_cell? w _ hw233_3)).trans hw233_3), ((HB.out.cell (World.block_lt_of_cell? w _ hw233_4)).trans hw233_4), ((HB.out.cell (World.block_lt_of_cell? w _ hw233_5)).trans hw233_5), ((HB.out.cell (World.block_lt_of_cell? w _ hw233_6)).trans hw233_6)⟩ (fun hHeld => ?_)
        clear hK K
        refine norm_ (a' := ?_) ?_ ?_
        rotate_left
        ·
         show Act.put _ (some 73) _ = _
         simp only [Act.put, List.setIfInBounds_toArray, List.set_cons_zero, List.set_cons_succ, i64_w, i32_w]
         rfl
        refine pure_ (i := 9) (N := some 74) (v := ?_) (a' := ?_) #[J, J, J, J, J, J, J, J, J, J] rfl rfl (Qm HT_.out (by kernel_rfl)) (fun _ _ _ h => h) (Or.inl ⟨by rfl, ?_⟩) ?_ ?_
        rotate_left
        ·
         intro w'
         go_simp
         with_reducible rfl
        rotate_left
        ·
         simp only [Act.put, List.setIfInBounds_toArray, List.set_cons_zero, List.set_cons_succ, i64_w, i32_w]
         rfl
        refine done_ (done_of HT_.out (by kernel_rfl)) ?_
        try go_wp2
        go_ret3
        exact ⟨by first | rfl | (simp [Qw, Qx] <;> rfl) | (simp [*, Qw, Qx] <;> rfl), by with_reducible repeat (first | exact HB.out | apply Qk | apply Ql | apply Qj | refine Qi ?_ GE228.out)⟩
       rw [if_neg c26] at H
       have c26b0 : decide (x7_3 < (l0_1.length : Int)) = false := decide_eq_false c26
       clear c26
       replace H := Option.bind_eq_some_iff.mp H
       obtain ⟨t235, A360, H⟩ := H
       replace H : (if t235 = true then (Qc1.l3 k3 0 l0_0 l0_1) else (some ((⟨#[]⟩ : ByteArray), 10, 0))) = some (r1, r2, r3) := H
       have A36 := Qa.mk A360
       clear A360
       by_cases c37 : t235 = true
       rotate_left
       ·
        replace c37 := Bool.eq_false_iff.mpr c37
        subst c37
        have H1 : (some ((⟨#[]⟩ : ByteArray), 10, 0)) = some (r1, r2, r3) := by rw [if_neg (show ¬ (false = true) by decide)] at H; exact H
        clear H
        have H := H1
        clear H1
        simp only [Option.some.injEq, Prod.mk.injEq] at H
        obtain ⟨rfl, rfl, rfl⟩ := H
        have hcz48_0 : wr.cell? ⟨gb228, 0, none⟩ = some (.slice A0_0 l0_0.length c0_0) := (Qe BK228.out 0).trans rfl
        have hcz48_1 : wr.cell? ⟨gb228, 1, none⟩ = some (.slice A0_1 l0_1.length c0_1) := (Qe BK228.out 1).trans rfl
        have hfz48_0 := Qf BK228.out 0
        have hfz48_1 := Qf BK228.out 1
        go_wp2_with (first | ((with_reducible refine gate_callee (f := 37) rfl ?_); refine goesL_ (some 77) rfl rfl Try.func37 (by kernel_rfl) rfl #[.agg #[.slice A0_0 l0_0.length c0_0, .slice A0_1 l0_1.length c0_1]] rfl (by (try simp only [List.map_toArray, List.map_cons, List.map_nil]); first | done | rfl | (simp only [List.length_drop, List.length_take]; rfl)) ?_; (with_reducible refine (Qs1.calls k3 _ _ l0_0 _ _ l0_1 false _ ?side1 ?side2 ?side3 ?side4 A36.out).mono ?_); (case side1 => repeat (first | exact (Kd.C_below HR0_0.out HB.out) | (with_reducible refine Kd.Qf1 ?_ _) | (with_reducible refine Kd.Qe1 ?_ _) | (with_reducible refine Kd.C_drew ?_))); (case side2 => exact HC0_0.out); (case side3 => repeat (first | exact (Kd.C_below HR0_1.out HB.out) | (with_reducible refine Kd.Qf1 ?_ _) | (with_reducible refine Kd.Qe1 ?_ _) | (with_reducible refine Kd.C_drew ?_))); (case side4 => exact HC0_1.out); rintro e w49 ⟨rfl, hb⟩; refine ⟨_, rfl, ?_⟩; have n0_ := Qa.mk (Qs (g := gb228) (o := .cells #[.slice A0_0 l0_0.length c0_0, .slice A0_1 l0_1.length c0_1] 25 (0, 0)) (by (with_reducible repeat (first | refine Qd ?_ _ | refine Qb ?_ | refine Qc ?_ _)); exact BK228.out) hb); have n1_ := Qa.mk (Qv (by with_reducible repeat (first | exact HB.out | apply Qk | apply Ql | apply Qj | refine Qi ?_ GE228.out)) hb); clear BK228; clear HB; have BK228 := n0_; have HB := n1_; clear n0_ n1_; (try clear hb); (try clear hb2); (try clear hk); (try clear hi)))
        go_ret3
        exact ⟨by first | rfl | (simp [Qw, Qx] <;> rfl) | (simp [*, Qw, Qx] <;> rfl), by with_reducible repeat (first | exact HB.out | apply Qk | apply Ql | apply Qj | refine Qi ?_ GE228.out)⟩
       subst c37
       have H1 : (Qc1.l3 k3 0 l0_0 l0_1) = some (r1, r2, r3) := by rw [if_pos rfl] at H; exact H
       clear H
       have H := H1
       clear H1
       have H' := Qa.mk H
       clear H
       have hcz38_0 : wr.cell? ⟨gb228, 0, none⟩ = some (.slice A0_0 l0_0.length c0_0) := (Qe BK228.out 0).trans rfl
       have hcz38_1 : wr.cell? ⟨gb228, 1, none⟩ = some (.slice A0_1 l0_1.length c0_1) := (Qe BK228.out 1).trans rfl
       have hfz38_0 := Qf BK228.out 0
       have hfz38_1 := Qf BK228.out 1
       go_wp2_with (first | ((with_reducible refine gate_callee (f := 37) rfl ?_); refine goesL_ (some 77) rfl rfl Try.func37 (by kernel_rfl) rfl #[.agg #[.slice A0_0 l0_0.length c0_0, .slice A0_1 l0_1.length c0_1]] rfl (by (try simp only [List.map_toArray, List.map_cons, List.map_nil]); first | done | rfl | (simp only [List.length_drop, List.length_take]; rfl)) ?_; (with_reducible refine (Qs1.calls k3 _ _ l0_0 _ _ l0_1 true _ ?side1 ?side2 ?side3 ?side4 A36.out).mono ?_); (case side1 => repeat (first | exact (Kd.C_below HR0_0.out HB.out) | (with_reducible refine Kd.Qf1 ?_ _) | (with_reducible refine Kd.Qe1 ?_ _) | (with_reducible refine Kd.C_drew ?_))); (case side2 => exact HC0_0.out); (case side3 => repeat (first | exact (Kd.C_below HR0_1.out HB.out) | (with_reducible refine Kd.Qf1 ?_ _) | (with_reducible refine Kd.Qe1 ?_ _) | (with_reducible refine Kd.C_drew ?_))); (case side4 => exact HC0_1.out); rintro e w39 ⟨rfl, hb⟩; refine ⟨_, rfl, ?_⟩; have n0_ := Qa.mk (Qs (g := gb228) (o := .cells #[.slice A0_0 l0_0.length c0_0, .slice A0_1 l0_1.length c0_1] 25 (0, 0)) (by (with_reducible repeat (first | refine Qd ?_ _ | refine Qb ?_ | refine Qc ?_ _)); exact BK228.out) hb); have n1_ := Qa.mk (Qv (by with_reducible repeat (first | exact HB.out | apply Qk | apply Ql | apply Qj | refine Qi ?_ GE228.out)) hb); clear BK228; clear HB; have BK228 := n0_; have HB := n1_; clear n0_ n1_; (try clear hb); (try clear hb2); (try clear hk); (try clear hi)))
       go_loopg [8] k3 (fun kq v8 w' => ∃ (x8_4 : Int), v8 = .int .i64 x8_4 ∧ Qa (Qc1.l3 kq x8_4 l0_0 l0_1 = some (r1, r2, r3)) ∧ Qa (kq ≤ k3) ∧ Qa (w'.heap[gb228]? = some (.cells #[(.slice A0_0 l0_0.length c0_0), (.slice A0_1 l0_1.length c0_1)] 25 (0, 0))) ∧ Qa (Below w.heap.size w w'))
       case atStart => exact ⟨(0), (by first | rfl | (simp; done) | (simp [*]; done)), H', ⟨Nat.le_refl _⟩, ⟨by (with_reducible repeat (first | refine Qd ?_ _ | refine Qb ?_ | refine Qc ?_ _)); exact BK228.out⟩, ⟨by with_reducible repeat (first | exact HB.out | apply Qk | apply Ql | apply Qj | refine Qi ?_ GE228.out)⟩⟩
       case round =>
        clear H'
        (try clear c1; try clear c2; try clear p2; try clear q2; try clear hx2; try clear c3; try clear c4; try clear c4b0; try clear c4b1; try clear p6; try clear c7; try clear c8; try clear c8b0; try clear c8b1; try clear c8b2; try clear c11; try clear c11b0; try clear c12; try clear c12b0; try clear c14; try clear c16; try clear c16b0; try clear c17; try clear c17b0; try clear c18; try clear c18b0; try clear c19; try clear c19b0; try clear c20; try clear c20b0; try clear c21; try clear c21b0; try clear c21b1; try clear p22; try clear q22; try clear hx22; try clear c23; try clear p23; try clear q23; try clear hx23; try clear c26; try clear c26b0; try clear c27; try clear c27b0; try clear c29; try clear c35; try clear c36; try clear c37; try clear hcz10_0; try clear hcz10_1; try clear hcz15_0; try clear hcz15_1; try clear hcz24_0; try clear hcz24_1; try clear hcz25_0; try clear hcz25_1; try clear hcz30_0; try clear hcz30_1; try clear hcz33_0; try clear hcz33_1; try clear hcz38_0; try clear hcz38_1; try clear hcz5_0; try clear hcz5_1; try clear hcz6_0; try clear hcz6_1; try clear hcz9_0; try clear hcz9_1; try clear hfz10_0; try clear hfz10_1; try clear hfz15_0; try clear hfz15_1; try clear hfz24_0; try clear hfz24_1; try clear hfz25_0; try clear hfz25_1; try clear hfz30_0; try clear hfz30_1; try clear hfz33_0; try clear hfz33_1; try clear hfz38_0; try clear hfz38_1; try clear hfz5_0; try clear hfz5_1; try clear hfz6_0; try clear hfz6_1; try clear hfz9_0; try clear hfz9_1; try clear hx229_0; try clear hx229_1; try clear hx231_0; try clear hx231_1; try clear hx232_0; try clear hx232_1; try clear hx233_0; try clear hx233_1; try clear hx233_2; try clear hx233_3; try clear hx233_4; try clear hx233_5; try clear hx233_6; try clear p2; try clear p22; try clear p229; try clear p23; try clear p231; try clear p232; try clear p233; try clear p6; try clear q2; try clear q22; try clear q229; try clear q23; try clear q231; try clear q232; try clear q233)
        obtain ⟨x8_4, rfl, HA, HK4, BK228, HB⟩ := hrel
        cases gk with
        | zero => exact absurd HA.out (by simp [Qc1.l3])
        | succ k4 =>
         have H := HA.out
         clear HA
         simp only [Qc1.l3] at H
         by_cases c40 : x8_4 < (l0_1.length : Int)
         rotate_left
         ·
          rw [if_neg c40] at H
          have c40b0 : decide (x8_4 < (l0_1.length : Int)) = false := decide_eq_false c40
          clear c40
          simp only [Option.some.injEq, Prod.mk.injEq] at H
          obtain ⟨rfl, rfl, rfl⟩ := H
          have hcz47_0 : wr.cell? ⟨gb228, 0, none⟩ = some (.slice A0_0 l0_0.length c0_0) := (Qe BK228.out 0).trans rfl
          have hcz47_1 : wr.cell? ⟨gb228, 1, none⟩ = some (.slice A0_1 l0_1.length c0_1) := (Qe BK228.out 1).trans rfl
          have hfz47_0 := Qf BK228.out 0
          have hfz47_1 := Qf BK228.out 1
          go_wp2
          go_ret3
          exact ⟨by first | rfl | (simp [Qw, Qx] <;> rfl) | (simp [*, Qw, Qx] <;> rfl), by with_reducible repeat (first | exact HB.out | apply Qk | apply Ql | apply Qj | refine Qi ?_ GE228.out)⟩
         rw [if_pos c40] at H
         have c40b0 : decide (x8_4 < (l0_1.length : Int)) = true := decide_eq_true c40
         clear c40
         replace H := Option.bind_eq_some_iff.mp H
         obtain ⟨t236, A410, H⟩ := H
         replace H : (if t236 > 200 then (some ((⟨#[110, 111, 100, 101, 115]⟩ : ByteArray), 5, x8_4)) else (Qc1.l3 k4 (wrap64 (x8_4 + 1)) l0_0 l0_1)) = some (r1, r2, r3) := H
         have A41 := Qa.mk A410
         clear A410
         by_cases c42 : t236 > 200
         ·
          rw [if_pos c42] at H
          have c42b0 : decide (200 < t236) = true := decide_eq_true c42
          clear c42
          simp only [Option.some.injEq, Prod.mk.injEq] at H
          obtain ⟨rfl, rfl, rfl⟩ := H
          have hcz43_0 : wr.cell? ⟨gb228, 0, none⟩ = some (.slice A0_0 l0_0.length c0_0) := (Qe BK228.out 0).trans rfl
          have hcz43_1 : wr.cell? ⟨gb228, 1, none⟩ = some (.slice A0_1 l0_1.length c0_1) := (Qe BK228.out 1).trans rfl
          have hfz43_0 := Qf BK228.out 0
          have hfz43_1 := Qf BK228.out 1
          go_wp2_with (first | ((with_reducible refine gate_callee (f := 38) rfl ?_); refine goesL_ (some 88) rfl rfl Try.func38 (by kernel_rfl) rfl #[.agg #[.slice A0_0 l0_0.length c0_0, .slice A0_1 l0_1.length c0_1], .int .i64 x8_4, .int .i64 205] rfl (by (try simp only [List.map_toArray, List.map_cons, List.map_nil]); first | done | rfl | (simp only [List.length_drop, List.length_take]; rfl)) ?_; (with_reducible refine (Qo1.calls k4 _ _ l0_0 _ _ l0_1 x8_4 205 t236 _ ?side1 ?side2 ?side3 ?side4 A41.out).mono ?_); (case side1 => repeat (first | exact (Kd.C_below HR0_0.out HB.out) | (with_reducible refine Kd.Qf1 ?_ _) | (with_reducible refine Kd.Qe1 ?_ _) | (with_reducible refine Kd.C_drew ?_))); (case side2 => exact HC0_0.out); (case side3 => repeat (first | exact (Kd.C_below HR0_1.out HB.out) | (with_reducible refine Kd.Qf1 ?_ _) | (with_reducible refine Kd.Qe1 ?_ _) | (with_reducible refine Kd.C_drew ?_))); (case side4 => exact HC0_1.out); rintro e w44 ⟨rfl, hb⟩; refine ⟨_, rfl, ?_⟩; have n0_ := Qa.mk (Qs (g := gb228) (o := .cells #[.slice A0_0 l0_0.length c0_0, .slice A0_1 l0_1.length c0_1] 25 (0, 0)) (by (with_reducible repeat (first | refine Qd ?_ _ | refine Qb ?_ | refine Qc ?_ _)); exact BK228.out) hb); have n1_ := Qa.mk (Qv (by with_reducible repeat (first | exact HB.out | apply Qk | apply Ql | apply Qj | refine Qi ?_ GE228.out)) hb); clear BK228; clear HB; have BK228 := n0_; have HB := n1_; clear n0_ n1_; (try clear hb); (try clear hb2); (try clear hk); (try clear hi)))
          go_ret3
          exact ⟨by first | rfl | (simp [Qw, Qx] <;> rfl) | (simp [*, Qw, Qx] <;> rfl), by with_reducible repeat (first | exact HB.out | apply Qk | apply Ql | apply Qj | refine Qi ?_ GE228.out)⟩
         rw [if_neg c42] at H
         have c42b0 : decide (200 < t236) = false := decide_eq_false c42
         clear c42
         have H' := Qa.mk H
         clear H
         have hcz45_0 : wr.cell? ⟨gb228, 0, none⟩ = some (.slice A0_0 l0_0.length c0_0) := (Qe BK228.out 0).trans rfl
         have hcz45_1 : wr.cell? ⟨gb228, 1, none⟩ = some (.slice A0_1 l0_1.length c0_1) := (Qe BK228.out 1).trans rfl
         have hfz45_0 := Qf BK228.out 0
         have hfz45_1 := Qf BK228.out 1
         go_wp2_with (first | ((with_reducible refine gate_callee (f := 38) rfl ?_); refine goesL_ (some 88) rfl rfl Try.func38 (by kernel_rfl) rfl #[.agg #[.slice A0_0 l0_0.length c0_0, .slice A0_1 l0_1.length c0_1], .int .i64 x8_4, .int .i64 205] rfl (by (try simp only [List.map_toArray, List.map_cons, List.map_nil]); first | done | rfl | (simp only [List.length_drop, List.length_take]; rfl)) ?_; (with_reducible refine (Qo1.calls k4 _ _ l0_0 _ _ l0_1 x8_4 205 t236 _ ?side1 ?side2 ?side3 ?side4 A41.out).mono ?_); (case side1 => repeat (first | exact (Kd.C_below HR0_0.out HB.out) | (with_reducible refine Kd.Qf1 ?_ _) | (with_reducible refine Kd.Qe1 ?_ _) | (with_reducible refine Kd.C_drew ?_))); (case side2 => exact HC0_0.out); (case side3 => repeat (first | exact (Kd.C_below HR0_1.out HB.out) | (with_reducible refine Kd.Qf1 ?_ _) | (with_reducible refine Kd.Qe1 ?_ _) | (with_reducible refine Kd.C_drew ?_))); (case side4 => exact HC0_1.out); rintro e w46 ⟨rfl, hb⟩; refine ⟨_, rfl, ?_⟩; have n0_ := Qa.mk (Qs (g := gb228) (o := .cells #[.slice A0_0 l0_0.length c0_0, .slice A0_1 l0_1.length c0_1] 25 (0, 0)) (by (with_reducible repeat (first | refine Qd ?_ _ | refine Qb ?_ | refine Qc ?_ _)); exact BK228.out) hb); have n1_ := Qa.mk (Qv (by with_reducible repeat (first | exact HB.out | apply Qk | apply Ql | apply Qj | refine Qi ?_ GE228.out)) hb); clear BK228; clear HB; have BK228 := n0_; have HB := n1_; clear n0_ n1_; (try clear hb); (try clear hb2); (try clear hk); (try clear hi)))
         go_roundg k4
         case measure => have := HJ1.out; have := HK2.out; have := HK3.out; have := HK4.out; omega
         case rel => exact ⟨(wrap64 (x8_4 + 1)), (by first | rfl | (simp; done) | (simp [*]; done)), H', ⟨by have := HJ1.out; have := HK2.out; have := HK3.out; have := HK4.out; omega⟩, ⟨by (with_reducible repeat (first | refine Qd ?_ _ | refine Qb ?_ | refine Qc ?_ _)); exact BK228.out⟩, ⟨by with_reducible repeat (first | exact HB.out | apply Qk | apply Ql | apply Qj | refine Qi ?_ GE228.out)⟩⟩
end Go.Proofs.Ytnaanamibfpbpaa.V
namespace Go.Proofs.Ytnaanamibfpbpaa.V
open Go.RowKit Go.Proofs.YtnaanamibfpbpaaW.PrintWords Go.Proofs.YtnaanamibfpbpaaW.PrintLast Go.Proofs.YtnaanamibfpbpaaW.PrintMore
attribute [local go_sem] max2_int min2_int max_two min_two max_three min_three max_four min_four tdiv_most
set_option linter.unusedVariables false
set_option linter.unusedSimpArgs false
attribute [local go_sem high] eqA35
def vetchref05_Valid.f (k : Nat) (l0_0 : List (S39)) (l0_1 : List (S53)) : Option (Bool) := (Qc1.f k l0_0 l0_1).bind fun bt238 => (some (bt238.2.1 == 0))
set_option maxHeartbeats 8000000 in
set_option maxRecDepth 100000 in
theorem vetchref05_Valid.calls (k : Nat) (A0_0 : Option Addr) (c0_0 : Nat) (l0_0 : List (S39)) (A0_1 : Option Addr) (c0_1 : Nat) (l0_1 : List (S53)) (r : Bool) (w : World) (hr0_0 : Kd.C k39 w A0_0 l0_0.length l0_0) (hc0_0 : l0_0.length ≤ c0_0) (hr0_1 : Kd.C k53 w A0_1 l0_1.length l0_1) (hc0_1 : l0_1.length ≤ c0_1) (h : vetchref05_Valid.f k l0_0 l0_1 = some r) :
 Calls Try.prog 21 #[.agg #[.slice A0_0 l0_0.length c0_0, .slice A0_1 l0_1.length c0_1]] w fun e w' => e = .returned (.bool r) ∧ Below w.heap.size w w' := by
 have hu25 := Try.underlying25
 have HR0_0 := Qa.mk hr0_0
 have HC0_0 := Qa.mk hc0_0
 clear hr0_0 hc0_0
 have HR0_1 := Qa.mk hr0_1
 have HC0_1 := Qa.mk hc0_1
 clear hr0_1 hc0_1
 have HB := Qa.mk (Below.refl w.heap.size w)
 have H : ((Qc1.f k l0_0 l0_1).bind fun bt238 => (some (bt238.2.1 == 0))) = some r := h
 clear h
 replace H := Option.bind_eq_some_iff.mp H
 obtain ⟨⟨t238, t239, t240⟩, A20, H⟩ := H
 replace H : (some (t239 == 0)) = some r := H
 have A2 := Qa.mk A20
 clear A20
 obtain rfl := Option.some.inj H
 go_enter Try.func21, Try.ntmps21
 go_wp2_with (first | ((with_reducible refine Qg1 (N := 1) rfl ?_); refine Qh1 ?hg (N := 1) ?hd (cs := #[.slice A0_0 l0_0.length c0_0, .slice A0_1 l0_1.length c0_1]) (t := 25) ?hr ?_; (case hd => rfl); (case hg => rfl); (case hr => first | (go_simp; done) | (go_simp; rfl)); intro gb237 hg w3 hbox hb; have n0_ := Qa.mk (Qv (by with_reducible repeat (first | exact HB.out | apply Qk | apply Ql | apply Qj)) hb); have n1_ := Qa.mk (hbox); have n2_ := Qa.mk ((by rw [hg]; exact (Qb1 (by with_reducible repeat (first | exact HB.out | apply Qk | apply Ql | apply Qj))) : w.heap.size ≤ gb237)); have n3_ := n2_; clear HB; have HB := n0_; have BK237 := n1_; have GW237 := n2_; have GE237 := n3_; clear n0_ n1_ n2_ n3_; clear hb hbox hg; have hcz4_0 : w3.cell? ⟨gb237, 0, none⟩ = some (.slice A0_0 l0_0.length c0_0) := (Qe BK237.out 0).trans rfl; have hcz4_1 : w3.cell? ⟨gb237, 1, none⟩ = some (.slice A0_1 l0_1.length c0_1) := (Qe BK237.out 1).trans rfl; have hfz4_0 := Qf BK237.out 0; have hfz4_1 := Qf BK237.out 1) | ((with_reducible refine gate_callee (f := 28) rfl ?_); refine goesL_ (some 8) rfl rfl Try.func28 (by kernel_rfl) rfl #[.agg #[.slice A0_0 l0_0.length c0_0, .slice A0_1 l0_1.length c0_1]] rfl (by (try simp only [List.map_toArray, List.map_cons, List.map_nil]); first | done | rfl | (simp only [List.length_drop, List.length_take]; rfl)) ?_; (with_reducible refine (Qc1.calls k _ _ l0_0 _ _ l0_1 t238 t239 t240 _ ?side1 ?side2 ?side3 ?side4 A2.out).mono ?_); (case side1 => repeat (first | exact (Kd.C_below HR0_0.out HB.out) | (with_reducible refine Kd.Qf1 ?_ _) | (with_reducible refine Kd.Qe1 ?_ _) | (with_reducible refine Kd.C_drew ?_))); (case side2 => exact HC0_0.out); (case side3 => repeat (first | exact (Kd.C_below HR0_1.out HB.out) | (with_reducible refine Kd.Qf1 ?_ _) | (with_reducible refine Kd.Qe1 ?_ _) | (with_reducible refine Kd.C_drew ?_))); (case side4 => exact HC0_1.out); rintro e w5 ⟨rfl, hb⟩; refine ⟨_, rfl, ?_⟩; have n0_ := Qa.mk (Qs (g := gb237) (o := .cells #[.slice A0_0 l0_0.length c0_0, .slice A0_1 l0_1.length c0_1] 25 (0, 0)) (by (with_reducible repeat (first | refine Qd ?_ _ | refine Qb ?_ | refine Qc ?_ _)); exact BK237.out) hb); have n1_ := Qa.mk (Qv (by with_reducible repeat (first | exact HB.out | apply Qk | apply Ql | apply Qj | refine Qi ?_ GE237.out)) hb); clear BK237; clear HB; have BK237 := n0_; have HB := n1_; clear n0_ n1_; (try clear hb); (try clear hb2); (try clear hk); (try clear hi)))
 go_ret
 exact ⟨by first | rfl | (simp [Qw, Qx] <;> rfl) | (simp [*, Qw, Qx] <;> rfl), by with_reducible repeat (first | exact HB.out | apply Qk | apply Ql | apply Qj | refine Qi ?_ GE237.out)⟩
def vetchref05_Small.f (k : Nat) (l0_0 : List (S39)) (l0_1 : List (S53)) : Option (Bool) := (Qp1.f k l0_0 l0_1).bind fun t242 => (if t242 = true then ((vetchref05_Valid.f k l0_0 l0_1).bind fun t243 => (some t243)) else (some false))
set_option maxHeartbeats 8000000 in
set_option maxRecDepth 100000 in
theorem vetchref05_Small.calls (k : Nat) (A0_0 : Option Addr) (c0_0 : Nat) (l0_0 : List (S39)) (A0_1 : Option Addr) (c0_1 : Nat) (l0_1 : List (S53)) (r : Bool) (w : World) (hr0_0 : Kd.C k39 w A0_0 l0_0.length l0_0) (hc0_0 : l0_0.length ≤ c0_0) (hr0_1 : Kd.C k53 w A0_1 l0_1.length l0_1) (hc0_1 : l0_1.length ≤ c0_1) (h : vetchref05_Small.f k l0_0 l0_1 = some r) :
 Calls Try.prog 9 #[.agg #[.slice A0_0 l0_0.length c0_0, .slice A0_1 l0_1.length c0_1]] w fun e w' => e = .returned (.bool r) ∧ Below w.heap.size w w' := by
 have hu25 := Try.underlying25
 have HR0_0 := Qa.mk hr0_0
 have HC0_0 := Qa.mk hc0_0
 clear hr0_0 hc0_0
 have HR0_1 := Qa.mk hr0_1
 have HC0_1 := Qa.mk hc0_1
 clear hr0_1 hc0_1
 have HB := Qa.mk (Below.refl w.heap.size w)
 have H : ((Qp1.f k l0_0 l0_1).bind fun t242 => (if t242 = true then ((vetchref05_Valid.f k l0_0 l0_1).bind fun t243 => (some t243)) else (some false))) = some r := h
 clear h
 replace H := Option.bind_eq_some_iff.mp H
 obtain ⟨t242, A20, H⟩ := H
 replace H : (if t242 = true then ((vetchref05_Valid.f k l0_0 l0_1).bind fun t243 => (some t243)) else (some false)) = some r := H
 have A2 := Qa.mk A20
 clear A20
 by_cases c3 : t242 = true
 ·
  subst c3
  have H1 : ((vetchref05_Valid.f k l0_0 l0_1).bind fun t243 => (some t243)) = some r := by rw [if_pos rfl] at H; exact H
  clear H
  have H := H1
  clear H1
  replace H := Option.bind_eq_some_iff.mp H
  obtain ⟨t243, A40, H⟩ := H
  replace H : (some t243) = some r := H
  have A4 := Qa.mk A40
  clear A40
  obtain rfl := Option.some.inj H
  go_enter Try.func9, Try.ntmps9
  go_wp2_with (first | ((with_reducible refine Qg1 (N := 1) rfl ?_); refine Qh1 ?hg (N := 1) ?hd (cs := #[.slice A0_0 l0_0.length c0_0, .slice A0_1 l0_1.length c0_1]) (t := 25) ?hr ?_; (case hd => rfl); (case hg => rfl); (case hr => first | (go_simp; done) | (go_simp; rfl)); intro gb241 hg w5 hbox hb; have n0_ := Qa.mk (Qv (by with_reducible repeat (first | exact HB.out | apply Qk | apply Ql | apply Qj)) hb); have n1_ := Qa.mk (hbox); have n2_ := Qa.mk ((by rw [hg]; exact (Qb1 (by with_reducible repeat (first | exact HB.out | apply Qk | apply Ql | apply Qj))) : w.heap.size ≤ gb241)); have n3_ := n2_; clear HB; have HB := n0_; have BK241 := n1_; have GW241 := n2_; have GE241 := n3_; clear n0_ n1_ n2_ n3_; clear hb hbox hg; have hcz6_0 : w5.cell? ⟨gb241, 0, none⟩ = some (.slice A0_0 l0_0.length c0_0) := (Qe BK241.out 0).trans rfl; have hcz6_1 : w5.cell? ⟨gb241, 1, none⟩ = some (.slice A0_1 l0_1.length c0_1) := (Qe BK241.out 1).trans rfl; have hfz6_0 := Qf BK241.out 0; have hfz6_1 := Qf BK241.out 1) | ((with_reducible refine gate_callee (f := 20) rfl ?_); refine goesL_ (some 4) rfl rfl Try.func20 (by kernel_rfl) rfl #[.agg #[.slice A0_0 l0_0.length c0_0, .slice A0_1 l0_1.length c0_1]] rfl (by (try simp only [List.map_toArray, List.map_cons, List.map_nil]); first | done | rfl | (simp only [List.length_drop, List.length_take]; rfl)) ?_; (with_reducible refine (Qp1.calls k _ _ l0_0 _ _ l0_1 true _ ?side1 ?side2 ?side3 ?side4 A2.out).mono ?_); (case side1 => repeat (first | exact (Kd.C_below HR0_0.out HB.out) | (with_reducible refine Kd.Qf1 ?_ _) | (with_reducible refine Kd.Qe1 ?_ _) | (with_reducible refine Kd.C_drew ?_))); (case side2 => exact HC0_0.out); (case side3 => repeat (first | exact (Kd.C_below HR0_1.out HB.out) | (with_reducible refine Kd.Qf1 ?_ _) | (with_reducible refine Kd.Qe1 ?_ _) | (with_reducible refine Kd.C_drew ?_))); (case side4 => exact HC0_1.out); rintro e w7 ⟨rfl, hb⟩; refine ⟨_, rfl, ?_⟩; have n0_ := Qa.mk (Qs (g := gb241) (o := .cells #[.slice A0_0 l0_0.length c0_0, .slice A0_1 l0_1.length c0_1] 25 (0, 0)) (by (with_reducible repeat (first | refine Qd ?_ _ | refine Qb ?_ | refine Qc ?_ _)); exact BK241.out) hb); have n1_ := Qa.mk (Qv (by with_reducible repeat (first | exact HB.out | apply Qk | apply Ql | apply Qj | refine Qi ?_ GE241.out)) hb); clear BK241; clear HB; have BK241 := n0_; have HB := n1_; clear n0_ n1_; (try clear hb); (try clear hb2); (try clear hk); (try clear hi); have hcz8_0 : w7.cell? ⟨gb241, 0, none⟩ = some (.slice A0_0 l0_0.length c0_0) := (Qe BK241.out 0).trans rfl; have hcz8_1 : w7.cell? ⟨gb241, 1, none⟩ = some (.slice A0_1 l0_1.length c0_1) := (Qe BK241.out 1).trans rfl; have hfz8_0 := Qf BK241.out 0; have hfz8_1 := Qf BK241.out 1) | (go_at_call 21; (with_reducible refine (vetchref05_Valid.calls k _ _ l0_0 _ _ l0_1 t243 _ ?side1 ?side2 ?side3 ?side4 A4.out).mono ?_); (case side1 => repeat (first | exact (Kd.C_below HR0_0.out HB.out) | (with_reducible refine Kd.Qf1 ?_ _) | (with_reducible refine Kd.Qe1 ?_ _) | (with_reducible refine Kd.C_drew ?_))); (case side2 => exact HC0_0.out); (case side3 => repeat (first | exact (Kd.C_below HR0_1.out HB.out) | (with_reducible refine Kd.Qf1 ?_ _) | (with_reducible refine Kd.Qe1 ?_ _) | (with_reducible refine Kd.C_drew ?_))); (case side4 => exact HC0_1.out); rintro e w9 ⟨rfl, hb⟩; have n0_ := Qa.mk (Qs (g := gb241) (o := .cells #[.slice A0_0 l0_0.length c0_0, .slice A0_1 l0_1.length c0_1] 25 (0, 0)) (by (with_reducible repeat (first | refine Qd ?_ _ | refine Qb ?_ | refine Qc ?_ _)); exact BK241.out) hb); have n1_ := Qa.mk (Qv (by with_reducible repeat (first | exact HB.out | apply Qk | apply Ql | apply Qj | refine Qi ?_ GE241.out)) hb); clear BK241; clear HB; have BK241 := n0_; have HB := n1_; clear n0_ n1_; (try clear hb); (try clear hb2); (try clear hk); (try clear hi)))
  go_ret
  exact ⟨by first | rfl | (simp [Qw, Qx] <;> rfl) | (simp [*, Qw, Qx] <;> rfl), by with_reducible repeat (first | exact HB.out | apply Qk | apply Ql | apply Qj | refine Qi ?_ GE241.out)⟩
 replace c3 := Bool.eq_false_iff.mpr c3
 subst c3
 have H1 : (some false) = some r := by rw [if_neg (show ¬ (false = true) by decide)] at H; exact H
 clear H
 have H := H1
 clear H1
 obtain rfl := Option.some.inj H
 go_enter Try.func9, Try.ntmps9
 go_wp2_with (first | ((with_reducible refine Qg1 (N := 1) rfl ?_); refine Qh1 ?hg (N := 1) ?hd (cs := #[.slice A0_0 l0_0.length c0_0, .slice A0_1 l0_1.length c0_1]) (t := 25) ?hr ?_; (case hd => rfl); (case hg => rfl); (case hr => first | (go_simp; done) | (go_simp; rfl)); intro gb241 hg w10 hbox hb; have n0_ := Qa.mk (Qv (by with_reducible repeat (first | exact HB.out | apply Qk | apply Ql | apply Qj)) hb); have n1_ := Qa.mk (hbox); have n2_ := Qa.mk ((by rw [hg]; exact (Qb1 (by with_reducible repeat (first | exact HB.out | apply Qk | apply Ql | apply Qj))) : w.heap.size ≤ gb241)); have n3_ := n2_; clear HB; have HB := n0_; have BK241 := n1_; have GW241 := n2_; have GE241 := n3_; clear n0_ n1_ n2_ n3_; clear hb hbox hg; have hcz11_0 : w10.cell? ⟨gb241, 0, none⟩ = some (.slice A0_0 l0_0.length c0_0) := (Qe BK241.out 0).trans rfl; have hcz11_1 : w10.cell? ⟨gb241, 1, none⟩ = some (.slice A0_1 l0_1.length c0_1) := (Qe BK241.out 1).trans rfl; have hfz11_0 := Qf BK241.out 0; have hfz11_1 := Qf BK241.out 1) | ((with_reducible refine gate_callee (f := 20) rfl ?_); refine goesL_ (some 4) rfl rfl Try.func20 (by kernel_rfl) rfl #[.agg #[.slice A0_0 l0_0.length c0_0, .slice A0_1 l0_1.length c0_1]] rfl (by (try simp only [List.map_toArray, List.map_cons, List.map_nil]); first | done | rfl | (simp only [List.length_drop, List.length_take]; rfl)) ?_; (with_reducible refine (Qp1.calls k _ _ l0_0 _ _ l0_1 false _ ?side1 ?side2 ?side3 ?side4 A2.out).mono ?_); (case side1 => repeat (first | exact (Kd.C_below HR0_0.out HB.out) | (with_reducible refine Kd.Qf1 ?_ _) | (with_reducible refine Kd.Qe1 ?_ _) | (with_reducible refine Kd.C_drew ?_))); (case side2 => exact HC0_0.out); (case side3 => repeat (first | exact (Kd.C_below HR0_1.out HB.out) | (with_reducible refine Kd.Qf1 ?_ _) | (with_reducible refine Kd.Qe1 ?_ _) | (with_reducible refine Kd.C_drew ?_))); (case side4 => exact HC0_1.out); rintro e w12 ⟨rfl, hb⟩; refine ⟨_, rfl, ?_⟩; have n0_ := Qa.mk (Qs (g := gb241) (o := .cells #[.slice A0_0 l0_0.length c0_0, .slice A0_1 l0_1.length c0_1] 25 (0, 0)) (by (with_reducible repeat (first | refine Qd ?_ _ | refine Qb ?_ | refine Qc ?_ _)); exact BK241.out) hb); have n1_ := Qa.mk (Qv (by with_reducible repeat (first | exact HB.out | apply Qk | apply Ql | apply Qj | refine Qi ?_ GE241.out)) hb); clear BK241; clear HB; have BK241 := n0_; have HB := n1_; clear n0_ n1_; (try clear hb); (try clear hb2); (try clear hk); (try clear hi)))
 go_ret
 exact ⟨by first | rfl | (simp [Qw, Qx] <;> rfl) | (simp [*, Qw, Qx] <;> rfl), by with_reducible repeat (first | exact HB.out | apply Qk | apply Ql | apply Qj | refine Qi ?_ GE241.out)⟩
end Go.Proofs.Ytnaanamibfpbpaa.V
namespace Go.Proofs.Ytnaanamibfpbpaa.V
open Go.RowKit Go.Proofs.YtnaanamibfpbpaaW.PrintWords
set_option linter.unusedVariables false
def Ev {α : Type} (f : Nat → Option α) (v : α) : Prop := ∃ k, ∀ j, k ≤ j → f j = some v
section
variable {α β : Type}
theorem Ev.const (v : α) : Ev (fun _ => some v) v := ⟨0, fun _ _ => rfl⟩
theorem Ev.congr {f g : Nat → Option α} {v : α} (h : ∀ k, f k = g k) (hg : Ev g v) : Ev f v := by
  obtain ⟨k, hk⟩ := hg
  exact ⟨k, fun j hj => (h j).trans (hk j hj)⟩
theorem Ev.of_eq {f : Nat → Option α} {v : α} (h : ∀ k, f k = some v) : Ev f v := ⟨0, fun j _ => h j⟩
theorem Ev.succ {f g : Nat → Option α} {v : α} (h : ∀ k, f (k + 1) = g k) (hg : Ev g v) : Ev f v := by
  obtain ⟨k, hk⟩ := hg
  refine ⟨k + 1, fun j hj => ?_⟩
  cases j with
  | zero => omega
  | succ j => exact (h j).trans (hk j (by omega))
theorem Ev.bind {f : Nat → Option α} {g : Nat → α → Option β} {v : α} {u : β} (hf : Ev f v) (hg : Ev (fun k => g k v) u) : Ev (fun k => (f k).bind (g k)) u := by
  obtain ⟨k, hk⟩ := hf
  obtain ⟨m, hm⟩ := hg
  refine ⟨k + m, fun j hj => ?_⟩
  simp only [hk j (by omega), Option.bind_some]
  exact hm j (by omega)
theorem Ev.map {f : Nat → Option α} {g : α → Option β} {v : α} {u : β} (hf : Ev f v) (hg : g v = some u) : Ev (fun k => (f k).bind g) u := Ev.bind (g := fun _ => g) hf (Ev.of_eq fun _ => hg)
theorem Ev.out {f : Nat → Option α} {v : α} (h : Ev f v) : ∃ k, f k = some v := ⟨h.choose, h.choose_spec _ (Nat.le_refl _)⟩
theorem Ev.of_mono {f : Nat → Option α} {v : α} {k : Nat} (hm : ∀ k, LeO (f k) (f (k + 1))) (h : f k = some v) : Ev f v := by
  refine ⟨k, fun j hj => ?_⟩
  induction j with
  | zero => obtain rfl : k = 0 := by omega
            exact h
  | succ j ih =>
    rcases Nat.lt_or_ge j k with hlt | hge
    · obtain rfl : k = j + 1 := by omega
      exact h
    · exact hm j v (ih hge)
end
theorem w64p (n : Int) (h : -9223372036854775808 ≤ n ∧ n ≤ 9223372036854775807) : wrap64 n = n := by unfold wrap64; omega
end Go.Proofs.Ytnaanamibfpbpaa.V
namespace Go.Proofs.Ytnaanamibfpbpaa.Opens
open Go.RowKit Go.Proofs.YtnaanamibfpbpaaW.PrintWords
set_option linter.unusedVariables false
def Opn {α : Type} (P : Program) (W : World) (d : Kd α) (t : TypeId) (ok : α → Prop) : Prop :=
  ∀ (H : Type) (enc : TypeId × Value → H) (fuel : Nat) (cs : List Value) (x : DataW H × List MemPlace), DataW.trod enc P W 0 (fun _ => true) true fuel t cs = some x → ∃ a, d.K W a cs ∧ ok a
section
variable {P : Program} {W : World} {t : TypeId}
theorem Opn.int {k : IntKind} (ht : P.underlying t = some (.int k)) : Opn P W (Kd.int k) t (fun n => (Lit.int k n).wf = true) := fun H enc fuel cs x h => by
  obtain ⟨n, rfl, _, hw⟩ := DataW.trod_int ht h
  exact ⟨n, rfl, hw⟩
theorem Opn.bool (ht : P.underlying t = some .bool) : Opn P W Kd.bool t (fun _ => True) := fun H enc fuel cs x h => by
  obtain ⟨n, rfl, _⟩ := DataW.trod_bool ht h
  exact ⟨n, rfl, trivial⟩
theorem Opn.string (ht : P.underlying t = some .string) : Opn P W Kd.string t (fun s => s.size ≤ maxLen) := fun H enc fuel cs x h => by
  obtain ⟨n, rfl, _, hw⟩ := DataW.trod_string ht h
  exact ⟨n, rfl, hw⟩
theorem Opn.iso {α β : Type} {d : Kd α} {ok : α → Prop} (f : β → α) (g : α → β) (hfg : ∀ a, f (g a) = a) (h : Opn P W d t ok) : Opn P W (Kd.iso d f) t (fun b => ok (f b)) := fun H enc fuel cs x hx => by
  obtain ⟨a, hk, ho⟩ := h H enc fuel cs x hx
  exact ⟨g a, show d.K W (f (g a)) cs by rw [hfg]; exact hk, show ok (f (g a)) by rw [hfg]; exact ho⟩
theorem Opn.imp {α : Type} {d : Kd α} {ok ok' : α → Prop} (h : Opn P W d t ok) (hi : ∀ a, ok a → ok' a) : Opn P W d t ok' := fun H enc fuel cs x hx => by
  obtain ⟨a, hk, ho⟩ := h H enc fuel cs x hx
  exact ⟨a, hk, hi a ho⟩
theorem lists_of {α : Type} (n : Nat) (R : Nat → α → Prop) (h : ∀ i, i < n → ∃ a, R i a) : ∃ l : List α, l.length = n ∧ ∀ i a, l[i]? = some a → R i a := by
  induction n with
  | zero => exact ⟨[], rfl, fun i a h => by simp at h⟩
  | succ n ih =>
    obtain ⟨l, hl, hr⟩ := ih (fun i hi => h i (by omega))
    obtain ⟨a, ha⟩ := h n (by omega)
    refine ⟨l ++ [a], by simp [hl], fun i b hb => ?_⟩
    by_cases hi : i < n
    · exact hr i b (by rwa [List.getElem?_append_left (by omega)] at hb)
    · have : i = n := by
        have := (List.getElem?_eq_some_iff.1 hb).1
        simp at this
        omega
      subst this
      rw [List.getElem?_append_right (by omega)] at hb
      simp [hl] at hb
      exact hb ▸ ha
theorem Opn.slice {α : Type} {e : TypeId} {d : Kd α} {ok : α → Prop} (e' : Nat) (ht : P.underlying t = some (.slice e)) (hc : P.cellsOf e = d.sz) (h : Opn P W d e ok) :
    Opn P W (Kd.slice e' d) t (fun l => l.length ≤ maxLen ∧ ∀ x ∈ l, ok x) := fun H enc fuel cs x hx => by
  rcases DataW.trod_slice ht hx with ⟨rfl, _⟩ | ⟨a, len, cap, elems, rest, n, _, rfl, _, _, hl, hm, hlen, hel, _, _⟩
  · exact ⟨[], ⟨none, 0, rfl, Nat.le_refl _, rfl, Nat.zero_le _, fun h => absurd h (by simp)⟩, Nat.zero_le _, fun x h => by simp at h⟩
  · have hm' : len ≤ maxLen := Nat.le_trans hl hm
    obtain ⟨l, hll, hlr⟩ := lists_of len (fun i b => ∃ cs', W.cells? 0 (a.add (i * P.cellsOf e)) (P.cellsOf e) = some cs' ∧ d.K W b cs' ∧ ok b) (fun i hi => by
      have h1 := hel i hi
      have h2 : i < elems.length := by omega
      rw [List.getElem?_eq_getElem h2, Option.bind_eq_some_iff] at h1
      obtain ⟨cs', h3, h4⟩ := h1
      obtain ⟨b, h5, h6⟩ := h H enc n cs' _ h4
      exact ⟨b, cs', h3, h5, h6⟩)
    subst hll
    refine ⟨l, ⟨some a, cap, rfl, hl, rfl, hm', fun _ => ⟨a, rfl, fun j p hp => ?_⟩⟩, hm', fun y hy => ?_⟩
    · obtain ⟨cs', h1, h2, _⟩ := hlr j p hp
      obtain ⟨_, hlen', hget⟩ := World.cells?_some h1
      rw [hc] at hlen' hget
      exact ⟨cs', hlen', h2, fun i u hu => by
        have := hget i (by have := (List.getElem?_eq_some_iff.1 hu).1; omega)
        rw [← hu, ← this]
        congr 1
        exact (Addr.add_add _ _ _).symm⟩
    · obtain ⟨i, hi⟩ := List.getElem?_of_mem hy
      exact (hlr i y hi).choose_spec.2.2
def Pieces {H : Type} (enc : TypeId × Value → H) (P : Program) (W : World) (n : Nat) : List TypeId → List Value → Prop
  | [], cs => cs = []
  | t :: ts, cs => ∃ c1 c2 x, cs = c1 ++ c2 ∧ DataW.trod enc P W 0 (fun _ => true) true n t c1 = some x ∧ Pieces enc P W n ts c2
def OpnS {α : Type} (P : Program) (W : World) (d : Kd α) (ts : List TypeId) (ok : α → Prop) : Prop :=
  ∀ (H : Type) (enc : TypeId × Value → H) (n : Nat) (cs : List Value), Pieces enc P W n ts cs → ∃ a, d.K W a cs ∧ ok a
theorem OpnS.one {α : Type} {d : Kd α} {ok : α → Prop} (h : Opn P W d t ok) : OpnS P W d [t] ok := fun H enc n cs hp => by
  obtain ⟨c1, c2, x, rfl, hx, rfl⟩ := hp
  rw [List.append_nil]
  exact h H enc n c1 x hx
theorem OpnS.cons {α β : Type} {d : Kd α} {e : Kd β} {ok : α → Prop} {ok' : β → Prop} {ts : List TypeId} (h : Opn P W d t ok) (hs : OpnS P W e ts ok') : OpnS P W (Kd.pair d e) (t :: ts) (fun x => ok x.1 ∧ ok' x.2) := fun H enc n cs hp => by
  obtain ⟨c1, c2, x, rfl, hx, hp⟩ := hp
  obtain ⟨a, ha, hoa⟩ := h H enc n c1 x hx
  obtain ⟨b, hb, hob⟩ := hs H enc n c2 hp
  exact ⟨(a, b), ⟨c1, c2, rfl, ha, hb⟩, hoa, hob⟩
def offsB (P : Program) (total : Nat) : Nat → List Field → Bool
  | o, [] => o == total
  | o, f :: r => f.offset == o && offsB P total (o + P.cellsOf f.type) r
theorem pieces_of {H : Type} {enc : TypeId × Value → H} {n total : Nat} {cs : List Value} (hl : cs.length = total) :
    ∀ (fs : List Field) (o : Nat), offsB P total o fs = true → (∀ f ∈ fs, ∃ x, DataW.trod enc P W 0 (fun _ => true) true n f.type ((cs.drop f.offset).take (P.cellsOf f.type)) = some x) → Pieces enc P W n (fs.map (·.type)) (cs.drop o)
  | [], o, ho, _ => by
    simp [offsB] at ho
    simp [Pieces, ho, hl]
  | f :: r, o, ho, hf => by
    simp [offsB] at ho
    obtain ⟨x, hx⟩ := hf f (by simp)
    refine ⟨(cs.drop o).take (P.cellsOf f.type), cs.drop (o + P.cellsOf f.type), x, ?_, by rw [← ho.1]; exact hx, pieces_of hl r _ ho.2 (fun g hg => hf g (List.mem_cons_of_mem _ hg))⟩
    rw [← List.drop_drop, List.take_append_drop]
theorem Opn.struct {α : Type} {d : Kd α} {ok : α → Prop} {fs : Array Field} {ts : List TypeId} (ht : P.underlying t = some (.struct fs)) (hts : fs.toList.map (·.type) = ts) (ho : offsB P (P.cellsOf t) 0 fs.toList = true) (h : OpnS P W d ts ok) : Opn P W d t ok := fun H enc fuel cs x hx => by
  obtain ⟨xs, n, _, _, hl, hxs, hf⟩ := DataW.trod_struct ht hx
  refine h H enc n cs (hts ▸ ?_)
  have := pieces_of (enc := enc) (W := W) (n := n) hl fs.toList 0 ho (fun f hm => by
    obtain ⟨i, hi⟩ := List.getElem?_of_mem hm
    have hi' : fs[i]? = some f := by simpa using hi
    have h1 := hf i f hi'
    have h2 : i < xs.length := by rw [hxs]; exact (Array.getElem?_eq_some_iff.1 hi').1
    exact ⟨xs[i], by rw [h1]; simp⟩)
  simpa using this
theorem pieces_same {H : Type} {enc : TypeId × Value → H} {n k s : Nat} {e : TypeId} {cs : List Value} (hs : P.cellsOf e = s) (hl : cs.length = k * s) :
    ∀ (m i : Nat), i + m = k → (∀ j, j < k → ∃ x, DataW.trod enc P W 0 (fun _ => true) true n e ((cs.drop (j * s)).take s) = some x) → Pieces enc P W n (List.replicate m e) (cs.drop (i * s))
  | 0, i, hi, _ => by
    have : i = k := by omega
    subst this
    simp [Pieces, hl]
  | m + 1, i, hi, hf => by
    obtain ⟨x, hx⟩ := hf i (by omega)
    refine ⟨(cs.drop (i * s)).take s, cs.drop ((i + 1) * s), x, ?_, hx, pieces_same hs hl m (i + 1) (by omega) hf⟩
    rw [Nat.succ_mul, ← List.drop_drop, List.take_append_drop]
theorem Opn.array {α : Type} {d : Kd α} {ok : α → Prop} {n : Nat} {e : TypeId} (ht : P.underlying t = some (.array n e)) (hc : P.cellsOf t = n * P.cellsOf e) (h : OpnS P W d (List.replicate n e) ok) : Opn P W d t ok := fun H enc fuel cs x hx => by
  obtain ⟨xs, m, _, _, hl, hxs, hf⟩ := DataW.trod_array ht hx
  refine h H enc m cs ?_
  have := pieces_same (enc := enc) (W := W) (n := m) (k := n) (e := e) rfl (hl.trans hc) n 0 (by omega) (fun j hj => by
    have h2 : j < xs.length := by omega
    exact ⟨xs[j], by rw [hf j hj]; simp⟩)
  simpa using this
theorem Opn.arg {α : Type} {d : Kd α} {ok : α → Prop} {H : Type} {enc : TypeId × Value → H} {v : Value} {x : DataW H} {ps : List MemPlace} (h : Opn P W d t ok) (hd : DataW.Trod enc P W 0 (fun _ => true) true t v x ps) : ∃ a, d.K W a v.cells.toList ∧ ok a := by
  obtain ⟨fuel, hf⟩ := hd
  exact h H enc fuel _ _ hf
theorem trod_lts {H : Type} {enc : TypeId × Value → H} {v : Value} {x : DataW H} {ps : List MemPlace} (hd : DataW.Trod enc P W 0 (fun _ => true) true t v x ps) : ∀ q ∈ ps, q.block < W.heap.size := by
  obtain ⟨m, hm⟩ := hd
  exact DataW.trod_lt m _ _ _ hm
end
end Go.Proofs.Ytnaanamibfpbpaa.Opens
namespace Go.Proofs.Ytnaanamibfpbpaa.V
open Go.RowKit Go.Proofs.Ytnaanamibfpbpaa.Opens Go.Proofs.YtnaanamibfpbpaaW.PrintWords
set_option linter.unusedVariables false
def Ok50 (x : S50) : Prop := (Lit.int .u64 x.f0).wf = true ∧ (Lit.int .u64 x.f1).wf = true ∧ (Lit.int .u64 x.f2).wf = true ∧ (Lit.int .u64 x.f3).wf = true
theorem opn50 (W : World) : Opn Try.prog W k50 50 Ok50 := (Opn.iso (fun x : S50 => (x.f0, x.f1, x.f2, x.f3)) (fun a => ⟨a.1, a.2.1, a.2.2.1, a.2.2.2⟩) (fun _ => rfl) (Opn.array Try.underlying50 (by kernel_rfl) (OpnS.cons (Opn.int Try.underlying48) (OpnS.cons (Opn.int Try.underlying48) (OpnS.cons (Opn.int Try.underlying48) (OpnS.one (Opn.int Try.underlying48))))))).imp (fun _ h => h)
def Ok53 (x : S53) : Prop := (Lit.int .i64 x.f0).wf = true ∧ (x.f1.length ≤ maxLen ∧ ∀ y ∈ x.f1, (Lit.int .i64 y).wf = true) ∧ (Lit.int .i64 x.f2).wf = true ∧ Ok50 x.f3
theorem opn53 (W : World) : Opn Try.prog W k53 53 Ok53 := (Opn.iso (fun x : S53 => (x.f0, x.f1, x.f2, x.f3)) (fun a => ⟨a.1, a.2.1, a.2.2.1, a.2.2.2⟩) (fun _ => rfl) (Opn.struct Try.underlying53 rfl (by kernel_rfl) (OpnS.cons (Opn.int Try.underlying3) (OpnS.cons (Opn.slice 3 Try.underlying51 (by kernel_rfl) (Opn.int Try.underlying3)) (OpnS.cons (Opn.int Try.underlying3) (OpnS.one (opn50 W))))))).imp (fun _ h => h)
def Ok39 (x : S39) : Prop := x.f0.size ≤ maxLen ∧ (Lit.int .i64 x.f1).wf = true
theorem opn39 (W : World) : Opn Try.prog W k39 39 Ok39 := (Opn.iso (fun x : S39 => (x.f0, x.f1)) (fun a => ⟨a.1, a.2⟩) (fun _ => rfl) (Opn.struct Try.underlying39 rfl (by kernel_rfl) (OpnS.cons (Opn.string Try.underlying9) (OpnS.one (Opn.int Try.underlying3))))).imp (fun _ h => h)
theorem opn25 (W : World) : Opn Try.prog W (Kd.pair (Kd.slice 39 k39) (Kd.slice 53 k53)) 25 (fun x => ((x.1.length ≤ maxLen ∧ ∀ y ∈ x.1, Ok39 y) ∧ (x.2.length ≤ maxLen ∧ ∀ y ∈ x.2, Ok53 y))) := (Opn.struct Try.underlying25 rfl (by kernel_rfl) (OpnS.cons (Opn.slice 39 Try.underlying22 (by kernel_rfl) (opn39 W)) (OpnS.one (Opn.slice 53 Try.underlying23 (by kernel_rfl) (opn53 W))))).imp (fun _ h => h)
def Ok35 (x : S35) : Prop := True ∧ True ∧ True
theorem opn35 (W : World) : Opn Try.prog W k35 35 Ok35 := (Opn.iso (fun x : S35 => (x.f0, x.f1, x.f2)) (fun a => ⟨a.1, a.2.1, a.2.2⟩) (fun _ => rfl) (Opn.struct Try.underlying35 rfl (by kernel_rfl) (OpnS.cons (Opn.bool Try.underlying4) (OpnS.cons (Opn.bool Try.underlying4) (OpnS.one (Opn.bool Try.underlying4)))))).imp (fun _ h => h)
end Go.Proofs.Ytnaanamibfpbpaa.V
namespace Go.Proofs.Ytnaanamibfpbpaa.V
open Go.RowKit Go.Proofs.YtnaanamibfpbpaaW.PrintWords
set_option linter.unusedVariables false
set_option linter.unusedSimpArgs false
abbrev RuleT := S39
abbrev NodeT := S53
abbrev nodeAt (G : List NodeT) (i : Int) : NodeT := Qh G i
abbrev ruleAt (R : List RuleT) (i : Int) : RuleT := Qa1 R i
def Made (n : Int) (x : NodeT) : Prop :=
  0 ≤ x.f0 ∧ x.f0 ≤ 9 ∧ (x.f0 ≤ 2 → x.f1 = []) ∧ (x.f0 = 3 → 2 ≤ x.f1.length) ∧ (x.f0 = 4 → 2 ≤ x.f1.length) ∧ (5 ≤ x.f0 → x.f1.length = 1) ∧ (x.f0 = 2 → 0 ≤ x.f2 ∧ x.f2 < n) ∧ (x.f0 ≠ 2 → x.f2 = 0) ∧ (x.f0 ≠ 1 → x.f3.f0 = 0 ∧ x.f3.f1 = 0 ∧ x.f3.f2 = 0 ∧ x.f3.f3 = 0)
def KidsOk (G : List NodeT) (i : Int) : Prop := ∀ c ∈ (nodeAt G i).f1, 0 ≤ c ∧ c < i
structure WF (R : List RuleT) (G : List NodeT) : Prop where
  rules : 0 < R.length ∧ R.length ≤ 1000
  nodes : 0 < G.length ∧ G.length ≤ 10000
  made : ∀ i : Int, 0 ≤ i → i < (G.length : Int) → Made R.length (nodeAt G i)
  kids : ∀ i : Int, 0 ≤ i → i < (G.length : Int) → KidsOk G i
  roots : ∀ r : Int, 0 ≤ r → r < (R.length : Int) → 0 ≤ (ruleAt R r).f1 ∧ (ruleAt R r).f1 < (G.length : Int)
theorem letter_ev (c : Int) (b : Bool) : ∃ v, ∀ k : Nat, vetchref04_Letter.f c b = some v := by
  unfold vetchref04_Letter.f
  repeat' split
  all_goals exact ⟨_, fun _ => rfl⟩
theorem name_l0 (x : ByteArray) (hx : x.size ≤ maxLen) : ∀ (n : Nat) (i : Int), 0 ≤ i → i.toNat + n = x.size → ∃ v, Ev (fun k => Qt1.l0 k x i) v := by
  intro n
  induction n with
  | zero =>
    intro i h0 hn
    exact ⟨_, Ev.succ (g := fun _ => some _) (fun k => by rw [Qt1.l0, if_neg (by omega)]) (Ev.const _)⟩
  | succ n ih =>
    intro i h0 hn
    have hm : x.size ≤ 9223372036854775807 := hx
    obtain ⟨b, hb⟩ := letter_ev (bt x i) (i == 0)
    cases b with
    | true =>
      obtain ⟨v, hv⟩ := ih (wrap64 (i + 1)) (by rw [w64p _ (by omega)]; omega) (by rw [w64p _ (by omega)]; omega)
      exact ⟨v, Ev.succ (fun k => by rw [Qt1.l0, if_pos (by omega), if_pos h0, hb k, Option.bind_some, if_pos rfl]) hv⟩
    | false => exact ⟨false, Ev.succ (g := fun _ => some false) (fun k => by rw [Qt1.l0, if_pos (by omega), if_pos h0, hb k, Option.bind_some, if_neg (by decide)]) (Ev.const _)⟩
theorem name_ev (x : ByteArray) (hx : x.size ≤ maxLen) : ∃ v, Ev (fun k => Qt1.f k x) v := by
  obtain ⟨v, hv⟩ := name_l0 x hx x.size 0 (by omega) (by simp)
  exact ⟨v, hv⟩
theorem made_ev (n : Int) (x : NodeT) : ∃ v, Ev (fun k => Qk1.f k x.f0 x.f1 x.f2 x.f3.f0 x.f3.f1 x.f3.f2 x.f3.f3 n) v ∧ (v = true → Made n x) := by
  obtain ⟨op, kids, rule, s0, s1, s2, s3⟩ := x
  have hj1 : ∀ b : Bool, ∃ v, (∀ k, Qk1.j1 (k + 1) n b op kids rule s0 s1 s2 s3 = some v) ∧ (v = true → b = false ∧ (op = 2 → 0 ≤ rule ∧ rule < n) ∧ (op ≠ 2 → rule = 0) ∧ (op ≠ 1 → s0 = 0 ∧ s1 = 0 ∧ s2 = 0 ∧ s3 = 0)) := by
    intro b
    simp only [Qk1.j1]
    repeat' split
    all_goals refine ⟨_, fun _ => rfl, ?_⟩
    all_goals simp_all
    all_goals omega
  have hj0 : ∀ b : Bool, ∃ v, (∀ k, Qk1.j0 (k + 2) n b op kids rule s0 s1 s2 s3 = some v) ∧ (v = true → b = false ∧ (op ≤ 2 → kids.length = 0) ∧ (op = 3 → 2 ≤ kids.length) ∧ (op = 4 → 2 ≤ kids.length) ∧ (5 ≤ op → kids.length = 1) ∧ (op = 2 → 0 ≤ rule ∧ rule < n) ∧ (op ≠ 2 → rule = 0) ∧ (op ≠ 1 → s0 = 0 ∧ s1 = 0 ∧ s2 = 0 ∧ s3 = 0)) := by
    intro b
    simp only [Qk1.j0]
    repeat' split
    all_goals first
      | exact ⟨_, fun _ => rfl, fun h => absurd h (by decide)⟩
      | (obtain ⟨v, h1, h2⟩ := hj1 true; exact ⟨v, h1, fun h => absurd (h2 h).1 (by decide)⟩)
      | (obtain ⟨v, h1, h2⟩ := hj1 false; refine ⟨v, h1, fun h => ?_⟩; obtain ⟨_, h3, h4, h5⟩ := h2 h; refine ⟨by simp_all, by omega, by omega, by omega, by omega, h3, h4, h5⟩)
      | (obtain ⟨v, h1, h2⟩ := hj1 ((kids.length : Int) != 1); refine ⟨v, h1, fun h => ?_⟩; obtain ⟨h6, h3, h4, h5⟩ := h2 h; have h7 : (kids.length : Int) = 1 := by simpa using h6
         refine ⟨by simp_all, by omega, by omega, by omega, by omega, h3, h4, h5⟩)
  have hf : ∃ v, (∀ k, Qk1.f (k + 2) op kids rule s0 s1 s2 s3 n = some v) ∧ (v = true → 0 ≤ op ∧ op ≤ 9 ∧ (op ≤ 2 → kids.length = 0) ∧ (op = 3 → 2 ≤ kids.length) ∧ (op = 4 → 2 ≤ kids.length) ∧ (5 ≤ op → kids.length = 1) ∧ (op = 2 → 0 ≤ rule ∧ rule < n) ∧ (op ≠ 2 → rule = 0) ∧ (op ≠ 1 → s0 = 0 ∧ s1 = 0 ∧ s2 = 0 ∧ s3 = 0)) := by
    unfold Qk1.f
    split
    · obtain ⟨v, h1, h2⟩ := hj0 true
      exact ⟨v, h1, fun h => absurd (h2 h).1 (by decide)⟩
    · rename_i h0
      obtain ⟨v, h1, h2⟩ := hj0 (decide (op > 9))
      refine ⟨v, h1, fun h => ?_⟩
      obtain ⟨h3, h4⟩ := h2 h
      have h5 : ¬ op > 9 := by simpa using h3
      exact ⟨by omega, by omega, h4⟩
  obtain ⟨v, h1, h2⟩ := hf
  refine ⟨v, ⟨2, fun j hj => ?_⟩, fun h => ?_⟩
  · obtain ⟨k, rfl⟩ : ∃ k, j = k + 2 := ⟨j - 2, by omega⟩
    exact h1 k
  · obtain ⟨a, b, c, d⟩ := h2 h
    exact ⟨a, b, fun h => List.length_eq_zero_iff.1 (c h), d⟩
theorem expr_ev (R : List RuleT) (G : List NodeT) (hG : G.length ≤ maxLen) (hk : ∀ i : Int, 0 ≤ i → i < (G.length : Int) → (nodeAt G i).f1.length ≤ maxLen) :
    ∀ (n : Nat) (i : Int), i < (G.length : Int) → i < (n : Int) → ∃ v, Ev (fun k => Qq1.f k R G i) v ∧ (v = -2 ∨ (-1 ≤ v ∧ v < i ∧ ∀ j, v < j → j ≤ i → KidsOk G j)) := by
  have hG' : G.length ≤ 9223372036854775807 := hG
  have neg : ∀ i : Int, i < 0 → ∃ v, Ev (fun k => Qq1.f k R G i) v ∧ (v = -2 ∨ (-1 ≤ v ∧ v < i ∧ ∀ j, v < j → j ≤ i → KidsOk G j)) := fun i hi =>
    ⟨-2, Ev.succ (g := fun _ => some (-2)) (fun k => by rw [Qq1.f, if_pos hi]) (Ev.const _), .inl rfl⟩
  intro n
  induction n with
  | zero => exact fun i _ hi => neg i (by omega)
  | succ n ih =>
    intro i hl hi
    by_cases h0 : i < 0
    · exact neg i h0
    have hkl : (nodeAt G i).f1.length ≤ 9223372036854775807 := hk i (by omega) hl
    have loop : ∀ (m : Nat) (a : Int), m ≤ (nodeAt G i).f1.length → -1 ≤ a → a < i → (∀ j, a < j → j < i → KidsOk G j) → (∀ p : Nat, m ≤ p → p < (nodeAt G i).f1.length → a < rd (nodeAt G i).f1 p ∧ rd (nodeAt G i).f1 p < i) →
        ∃ v, Ev (fun k => Qq1.l0 k i a ((m : Int) - 1) R G) v ∧ (v = -2 ∨ (-1 ≤ v ∧ v < i ∧ (∀ j, v < j → j < i → KidsOk G j) ∧ ∀ p : Nat, p < (nodeAt G i).f1.length → v < rd (nodeAt G i).f1 p ∧ rd (nodeAt G i).f1 p < i)) := by
      intro m
      induction m with
      | zero =>
        intro a hm ha1 ha2 hn hp
        exact ⟨a, Ev.succ (g := fun _ => some a) (fun k => by rw [Qq1.l0, if_neg (by omega)]) (Ev.const _), .inr ⟨ha1, ha2, hn, fun p hp' => hp p (by omega) hp'⟩⟩
      | succ m ihm =>
        intro a hm ha1 ha2 hn hp
        by_cases hkid : rd (nodeAt G i).f1 ((m : Int) + 1 - 1) = a
        · obtain ⟨v, hv, hs⟩ := ih a (by omega) (by omega)
          have step : ∀ k, Qq1.l0 (k + 1) i a (((m + 1 : Nat) : Int) - 1) R G = (Qq1.f k R G a).bind fun t => if t = (-2) then some (-2) else Qq1.l0 k i t (wrap64 (((m + 1 : Nat) : Int) - 1 - 1)) R G := fun k => by
            rw [Qq1.l0, if_pos (by omega), if_pos (by omega), if_pos hl, if_pos (by omega), if_pos (by show _ < ((nodeAt G i).f1.length : Int); omega), if_pos (by push_cast; exact hkid)]
          rcases hs with rfl | ⟨h1, h2, h3⟩
          · exact ⟨-2, Ev.succ step (Ev.bind hv (Ev.of_eq fun _ => if_pos rfl)), .inl rfl⟩
          · obtain ⟨u, hu, hus⟩ := ihm v (by omega) h1 (by omega) (fun j hj1 hj2 => by
                by_cases hja : j ≤ a
                · exact h3 j hj1 hja
                · exact hn j (by omega) hj2) (fun p hp1 hp2 => by
                by_cases hpm : p = m
                · subst hpm
                  rw [show ((p : Nat) : Int) = (p : Int) + 1 - 1 by omega, hkid]
                  omega
                · have := hp p (by omega) hp2
                  omega)
            refine ⟨u, Ev.succ step (Ev.bind hv (Ev.congr (fun k => if_neg (by omega)) ?_)), hus⟩
            rw [w64p _ (by omega), show ((m + 1 : Nat) : Int) - 1 - 1 = (m : Int) - 1 by omega]
            exact hu
        · refine ⟨-2, Ev.succ (g := fun _ => some (-2)) (fun k => by
            rw [Qq1.l0, if_pos (by omega), if_pos (by omega), if_pos hl, if_pos (by omega), if_pos (by show _ < ((nodeAt G i).f1.length : Int); omega), if_neg (by push_cast; exact hkid)]) (Ev.const _), .inl rfl⟩
    obtain ⟨v, hv, hs⟩ := loop (nodeAt G i).f1.length (i - 1) (Nat.le_refl _) (by omega) (by omega) (fun j h1 h2 => absurd h2 (by omega)) (fun p h1 h2 => absurd h2 (by omega))
    refine ⟨v, Ev.succ (fun k => by rw [Qq1.f, if_neg h0, if_pos (by omega), if_pos hl, w64p _ (by omega), w64p _ (by show _ ≤ ((nodeAt G i).f1.length : Int) - 1 ∧ ((nodeAt G i).f1.length : Int) - 1 ≤ _; omega)]) hv, ?_⟩
    rcases hs with rfl | ⟨h1, h2, h3, h4⟩
    · exact .inl rfl
    · refine .inr ⟨h1, h2, fun j hj1 hj2 => ?_⟩
      by_cases hji : j = i
      · subst hji
        intro c hc
        obtain ⟨p, hp, rfl⟩ := List.getElem_of_mem hc
        have := h4 p hp
        have e : rd (nodeAt G j).f1 p = (nodeAt G j).f1[p] := by
          unfold rd
          rw [List.getD_eq_getElem?_getD, show (p : Int).toNat = p by omega, List.getElem?_eq_getElem hp]
          rfl
        rw [e] at this
        omega
      · exact h3 j hj1 (by omega)
theorem ordered_ev (R : List RuleT) (G : List NodeT) (hR : R.length ≤ maxLen) (hG : G.length ≤ maxLen) (hk : ∀ i : Int, 0 ≤ i → i < (G.length : Int) → (nodeAt G i).f1.length ≤ maxLen) :
    ∃ v, Ev (fun k => Qs1.f k R G) v ∧ (v = true → (∀ i : Int, 0 ≤ i → i < (G.length : Int) → KidsOk G i) ∧ ∀ r : Int, 0 ≤ r → r < (R.length : Int) → 0 ≤ (ruleAt R r).f1 ∧ (ruleAt R r).f1 < (G.length : Int)) := by
  have hG' : G.length ≤ 9223372036854775807 := hG
  have hR' : R.length ≤ 9223372036854775807 := hR
  have loop : ∀ (n : Nat) (i b : Int), 0 ≤ i → i.toNat + n = R.length → -1 ≤ b → b < (G.length : Int) → (∀ j, 0 ≤ j → j ≤ b → KidsOk G j) → (∀ r, 0 ≤ r → r < i → 0 ≤ (ruleAt R r).f1 ∧ (ruleAt R r).f1 < (G.length : Int)) →
      ∃ v, Ev (fun k => Qs1.l0 k b i R G) v ∧ (v = true → (∀ i : Int, 0 ≤ i → i < (G.length : Int) → KidsOk G i) ∧ ∀ r : Int, 0 ≤ r → r < (R.length : Int) → 0 ≤ (ruleAt R r).f1 ∧ (ruleAt R r).f1 < (G.length : Int)) := by
    intro n
    induction n with
    | zero =>
      intro i b h0 hn hb1 hb2 hj hr
      refine ⟨b == wrap64 ((G.length : Int) - 1), Ev.succ (g := fun _ => some _) (fun k => by rw [Qs1.l0, if_neg (by omega)]) (Ev.const _), fun hv => ?_⟩
      have hb : b = (G.length : Int) - 1 := by
        have := beq_iff_eq.1 hv
        rwa [w64p _ (by omega)] at this
      exact ⟨fun j h1 h2 => hj j h1 (by omega), fun r h1 h2 => hr r h1 (by omega)⟩
    | succ n ih =>
      intro i b h0 hn hb1 hb2 hj hr
      by_cases c1 : (ruleAt R i).f1 ≤ b
      · exact ⟨false, Ev.succ (g := fun _ => some false) (fun k => by rw [Qs1.l0, if_pos (by omega), if_pos h0, if_pos c1]) (Ev.const _), fun h => absurd h (by decide)⟩
      by_cases c2 : (ruleAt R i).f1 ≥ (G.length : Int)
      · exact ⟨false, Ev.succ (g := fun _ => some false) (fun k => by rw [Qs1.l0, if_pos (by omega), if_pos h0, if_neg c1, if_pos c2]) (Ev.const _), fun h => absurd h (by decide)⟩
      obtain ⟨v, hv, hs⟩ := expr_ev R G hG hk G.length (ruleAt R i).f1 (by omega) (by omega)
      have step : ∀ k, Qs1.l0 (k + 1) b i R G = (Qq1.f k R G (ruleAt R i).f1).bind fun t => if t = b then Qs1.l0 k (ruleAt R i).f1 (wrap64 (i + 1)) R G else some false := fun k => by
        rw [Qs1.l0, if_pos (by omega), if_pos h0, if_neg c1, if_neg c2]
      by_cases c3 : v = b
      · obtain ⟨u, hu, hus⟩ := ih (i + 1) (ruleAt R i).f1 (by omega) (by omega) (by omega) (by omega) (fun j h1 h2 => by
            by_cases hjb : j ≤ b
            · exact hj j h1 hjb
            · rcases hs with rfl | ⟨_, _, h5⟩
              · omega
              · exact h5 j (by omega) h2) (fun r h1 h2 => by
            by_cases hri : r = i
            · subst hri; omega
            · exact hr r h1 (by omega))
        refine ⟨u, Ev.succ step (Ev.bind hv (Ev.congr (fun k => if_pos c3) ?_)), hus⟩
        rw [w64p _ (by omega)]
        exact hu
      · exact ⟨false, Ev.succ step (Ev.bind hv (Ev.of_eq fun _ => if_neg c3)), fun h => absurd h (by decide)⟩
  obtain ⟨v, hv, hs⟩ := loop R.length 0 (-1) (by omega) (by simp) (by omega) (by omega) (fun j h1 h2 => absurd h2 (by omega)) (fun r h1 h2 => absurd h2 (by omega))
  exact ⟨v, hv, hs⟩
theorem depth_ev (R : List RuleT) (G : List NodeT) (hG : G.length ≤ maxLen) (hk : ∀ i : Int, 0 ≤ i → i < (G.length : Int) → (nodeAt G i).f1.length ≤ maxLen) (ho : ∀ i : Int, 0 ≤ i → i < (G.length : Int) → KidsOk G i) :
    ∀ (n : Nat) (i : Int), 0 ≤ i → i < (G.length : Int) → n ≤ 1000 → ∃ v, Ev (fun k => Qo1.f k R G i (n : Int)) v := by
  intro n
  induction n with
  | zero =>
    intro i h0 h1 _
    refine ⟨wrap64 (0 + 1), Ev.succ (fun k => by rw [Qo1.f]) (Ev.succ (g := fun _ => some _) (fun k => ?_) (Ev.const _))⟩
    rw [Qo1.l0, if_pos h0, if_pos h1]
    split
    · rfl
    · rfl
  | succ n ih =>
    intro i h0 h1 hn
    have hkl : (nodeAt G i).f1.length ≤ 9223372036854775807 := hk i h0 h1
    have loop : ∀ (m : Nat) (j d : Int), 0 ≤ j → j.toNat + m = (nodeAt G i).f1.length → ∃ v, Ev (fun k => Qo1.l0 k i ((n + 1 : Nat) : Int) d j R G) v := by
      intro m
      induction m with
      | zero =>
        intro j d hj hm
        exact ⟨wrap64 (d + 1), Ev.succ (g := fun _ => some _) (fun k => by rw [Qo1.l0, if_pos h0, if_pos h1, if_neg (by show ¬ _ < ((nodeAt G i).f1.length : Int); omega)]) (Ev.const _)⟩
      | succ m ihm =>
        intro j d hj hm
        have hjl : j < ((nodeAt G i).f1.length : Int) := by omega
        have hmem : rd (nodeAt G i).f1 j ∈ (nodeAt G i).f1 := by
          have h : j.toNat < (nodeAt G i).f1.length := by omega
          unfold rd
          rw [List.getD_eq_getElem?_getD, List.getElem?_eq_getElem h]
          exact List.getElem_mem h
        have hc := ho i h0 h1 _ hmem
        obtain ⟨v, hv⟩ := ih (rd (nodeAt G i).f1 j) hc.1 (by omega) (by omega)
        obtain ⟨u, hu⟩ := ihm (j + 1) (mx d v) (by omega) (by omega)
        refine ⟨u, Ev.succ (g := fun k => (Qo1.f k R G (rd (nodeAt G i).f1 j) (n : Int)).bind fun t => Qo1.l0 k i ((n + 1 : Nat) : Int) (mx d t) (j + 1) R G) (fun k => ?_) (Ev.bind hv hu)⟩
        rw [Qo1.l0, if_pos h0, if_pos h1, if_pos hjl, if_pos (by omega), if_pos hj, w64p (((n + 1 : Nat) : Int) - 1) (by omega), w64p (j + 1) (by omega), show ((n + 1 : Nat) : Int) - 1 = (n : Int) by omega]
    obtain ⟨v, hv⟩ := loop (nodeAt G i).f1.length 0 0 (by omega) (by simp)
    exact ⟨v, Ev.succ (fun k => by rw [Qo1.f]) hv⟩
theorem check_ev (R : List RuleT) (G : List NodeT) (hR : R.length ≤ maxLen ∧ ∀ y ∈ R, Ok39 y) (hG : G.length ≤ maxLen ∧ ∀ y ∈ G, Ok53 y) :
    ∃ v, Ev (fun k => Qc1.f k R G) v ∧ (v.2.1 = 0 → WF R G) := by
  have hG' : G.length ≤ 9223372036854775807 := hG.1
  have hR' : R.length ≤ 9223372036854775807 := hR.1
  have memR : ∀ r : Int, 0 ≤ r → r < (R.length : Int) → ruleAt R r ∈ R := fun r h0 h1 => by
    have h : r.toNat < R.length := by omega
    show R.getD r.toNat _ ∈ R
    rw [List.getD_eq_getElem?_getD, List.getElem?_eq_getElem h]
    exact List.getElem_mem h
  have memG : ∀ r : Int, 0 ≤ r → r < (G.length : Int) → nodeAt G r ∈ G := fun r h0 h1 => by
    have h : r.toNat < G.length := by omega
    show G.getD r.toNat _ ∈ G
    rw [List.getD_eq_getElem?_getD, List.getElem?_eq_getElem h]
    exact List.getElem_mem h
  have hk : ∀ i : Int, 0 ≤ i → i < (G.length : Int) → (nodeAt G i).f1.length ≤ maxLen := fun i h0 h1 => (hG.2 _ (memG i h0 h1)).2.1.1
  have no : ∀ {f : Nat → Option (ByteArray × Int × Int)} {a : ByteArray} {c o : Int} {p : Prop}, c ≠ 0 → Ev f (a, c, o) → ∃ v, Ev f v ∧ (v.2.1 = 0 → p) := fun hc h => ⟨_, h, fun h' => absurd h' hc⟩
  have l3 : (∀ i : Int, 0 ≤ i → i < (G.length : Int) → KidsOk G i) → ∀ (n : Nat) (i : Int), 0 ≤ i → i.toNat + n = G.length → ∃ v, Ev (fun k => Qc1.l3 k i R G) v ∧ (v.2.1 = 0 → True) := by
    intro ho n
    induction n with
    | zero => exact fun i h0 hn => ⟨_, Ev.succ (g := fun _ => some _) (fun k => by rw [Qc1.l3, if_neg (by omega)]) (Ev.const _), fun _ => trivial⟩
    | succ n ih =>
      intro i h0 hn
      obtain ⟨d, hd⟩ := depth_ev R G hG.1 hk ho 205 i h0 (by omega) (by omega)
      have step : ∀ k, Qc1.l3 (k + 1) i R G = (Qo1.f k R G i 205).bind fun t => if t > 200 then some ((⟨#[110, 111, 100, 101, 115]⟩ : ByteArray), 5, i) else Qc1.l3 k (wrap64 (i + 1)) R G := fun k => by rw [Qc1.l3, if_pos (by omega)]
      by_cases c : d > 200
      · exact ⟨_, Ev.succ step (Ev.bind hd (Ev.of_eq fun _ => if_pos c)), fun _ => trivial⟩
      · obtain ⟨v, hv, hs⟩ := ih (i + 1) (by omega) (by omega)
        refine ⟨v, Ev.succ step (Ev.bind hd (Ev.congr (fun k => if_neg c) ?_)), hs⟩
        rw [w64p _ (by omega)]
        exact hv
  have l2 : 0 < R.length → R.length ≤ 1000 → G.length ≤ 10000 → ∀ (n : Nat) (i : Int), 0 ≤ i → i.toNat + n = G.length → (∀ j : Int, 0 ≤ j → j < i → Made R.length (nodeAt G j)) → ∃ v, Ev (fun k => Qc1.l2 k i R G) v ∧ (v.2.1 = 0 → WF R G) := by
    intro hr1 hr2 hg n
    induction n with
    | zero =>
      intro i h0 hn hm
      obtain ⟨b, hb, hbs⟩ := ordered_ev R G hR.1 hG.1 hk
      have step : ∀ k, Qc1.l2 (k + 1) i R G = (Qs1.f k R G).bind fun t => if t = true then Qc1.l3 k 0 R G else some ((⟨#[]⟩ : ByteArray), 10, 0) := fun k => by rw [Qc1.l2, if_neg (by omega)]
      cases b with
      | false => exact no (by decide) (Ev.succ step (Ev.bind hb (Ev.of_eq fun _ => if_neg (by decide))))
      | true =>
        obtain ⟨hkids, hroots⟩ := hbs rfl
        obtain ⟨v, hv, _⟩ := l3 hkids G.length 0 (by omega) (by simp)
        refine ⟨v, Ev.succ step (Ev.bind hb (Ev.congr (fun k => if_pos rfl) hv)), fun _ => ⟨⟨hr1, hr2⟩, ⟨?_, hg⟩, fun j h1 h2 => hm j h1 (by omega), hkids, hroots⟩⟩
        have := hroots 0 (by omega) (by omega)
        omega
    | succ n ih =>
      intro i h0 hn hm
      obtain ⟨b, hb, hbs⟩ := made_ev R.length (nodeAt G i)
      have step : ∀ k, Qc1.l2 (k + 1) i R G = (Qk1.f k (nodeAt G i).f0 (nodeAt G i).f1 (nodeAt G i).f2 (nodeAt G i).f3.f0 (nodeAt G i).f3.f1 (nodeAt G i).f3.f2 (nodeAt G i).f3.f3 (R.length : Int)).bind fun t => if t = true then Qc1.l2 k (wrap64 (i + 1)) R G else some ((⟨#[110, 111, 100, 101, 115]⟩ : ByteArray), 10, i) := fun k => by rw [Qc1.l2, if_pos (by omega), if_pos h0]
      cases b with
      | false => exact no (by decide) (Ev.succ step (Ev.bind hb (Ev.of_eq fun _ => if_neg (by decide))))
      | true =>
        obtain ⟨v, hv, hs⟩ := ih (i + 1) (by omega) (by omega) (fun j h1 h2 => by
          by_cases hji : j = i
          · subst hji; exact hbs rfl
          · exact hm j h1 (by omega))
        refine ⟨v, Ev.succ step (Ev.bind hb (Ev.congr (fun k => if_pos rfl) ?_)), hs⟩
        rw [w64p _ (by omega)]
        exact hv
  have l0 : 0 < R.length → R.length ≤ 1000 → G.length ≤ 10000 → ∀ (n : Nat) (i : Int), 0 ≤ i → i.toNat + n = R.length → ∃ v, Ev (fun k => Qc1.l0 k i R G) v ∧ (v.2.1 = 0 → WF R G) := by
    intro hr1 hr2 hg n
    induction n with
    | zero =>
      intro i h0 hn
      obtain ⟨v, hv, hs⟩ := l2 hr1 hr2 hg G.length 0 (by omega) (by simp) (fun j h1 h2 => absurd h2 (by omega))
      exact ⟨v, Ev.succ (fun k => by rw [Qc1.l0, if_neg (by omega)]) hv, hs⟩
    | succ n ih =>
      intro i h0 hn
      have l1 : ∀ (m : Nat) (j : Int), 0 ≤ j → j ≤ i → j.toNat + m = i.toNat → ∃ v, Ev (fun k => Qc1.l1 k i j R G) v ∧ (v.2.1 = 0 → WF R G) := by
        intro m
        induction m with
        | zero =>
          intro j hj0 hj hm
          obtain ⟨v, hv, hs⟩ := ih (i + 1) (by omega) (by omega)
          refine ⟨v, Ev.succ (fun k => by rw [Qc1.l1, if_neg (by omega)]) ?_, hs⟩
          rw [w64p _ (by omega)]
          exact hv
        | succ m ihm =>
          intro j hj0 hj hm
          by_cases c : ((ruleAt R j).f0).toList = ((ruleAt R i).f0).toList
          · exact no (c := 10) (by decide) (Ev.succ (g := fun _ => some ((⟨#[114, 117, 108, 101, 115]⟩ : ByteArray), 10, i)) (fun k => by rw [Qc1.l1, if_pos (by omega), if_pos hj0, if_pos (by omega), if_pos h0, if_pos (by omega), if_pos c]) (Ev.const _))
          · obtain ⟨v, hv, hs⟩ := ihm (j + 1) (by omega) (by omega) (by omega)
            refine ⟨v, Ev.succ (fun k => by rw [Qc1.l1, if_pos (by omega), if_pos hj0, if_pos (by omega), if_pos h0, if_pos (by omega), if_neg c]) ?_, hs⟩
            rw [w64p _ (by omega)]
            exact hv
      obtain ⟨b, hb⟩ := name_ev (ruleAt R i).f0 (hR.2 _ (memR i h0 (by omega))).1
      have step : ∀ k, Qc1.l0 (k + 1) i R G = (Qt1.f k (ruleAt R i).f0).bind fun t => if t = true then Qc1.l1 k i 0 R G else some ((⟨#[114, 117, 108, 101, 115]⟩ : ByteArray), 10, i) := fun k => by rw [Qc1.l0, if_pos (by omega), if_pos h0]
      cases b with
      | false => exact no (by decide) (Ev.succ step (Ev.bind hb (Ev.of_eq fun _ => if_neg (by decide))))
      | true =>
        obtain ⟨v, hv, hs⟩ := l1 i.toNat 0 (by omega) h0 (by simp)
        exact ⟨v, Ev.succ step (Ev.bind hb (Ev.congr (fun k => if_pos rfl) hv)), hs⟩
  unfold Qc1.f
  by_cases c1 : (R.length : Int) > 1000
  · exact no (c := 4) (by decide) (Ev.congr (fun k => if_pos c1) (Ev.succ (g := fun _ => some ((⟨#[]⟩ : ByteArray), 4, 0)) (fun k => by rw [Qc1.j0, if_pos rfl]) (Ev.const _)))
  by_cases c2 : (G.length : Int) > 10000
  · exact no (c := 4) (by decide) (Ev.congr (fun k => if_neg c1) (Ev.succ (g := fun _ => some ((⟨#[]⟩ : ByteArray), 4, 0)) (fun k => by rw [Qc1.j0, if_pos (by simpa using c2)]) (Ev.const _)))
  by_cases c3 : (R.length : Int) = 0
  · exact no (c := 10) (by decide) (Ev.congr (fun k => if_neg c1) (Ev.succ (g := fun _ => some ((⟨#[114, 117, 108, 101, 115]⟩ : ByteArray), 10, 0)) (fun k => by rw [Qc1.j0, if_neg (by simpa using c2), if_pos c3]) (Ev.const _)))
  obtain ⟨v, hv, hs⟩ := l0 (by omega) (by omega) (by omega) R.length 0 (by omega) (by simp)
  exact ⟨v, Ev.congr (fun k => if_neg c1) (Ev.succ (fun k => by rw [Qc1.j0, if_neg (by simpa using c2), if_neg c3]) hv), hs⟩
theorem valid_ev (R : List RuleT) (G : List NodeT) (hR : R.length ≤ maxLen ∧ ∀ y ∈ R, Ok39 y) (hG : G.length ≤ maxLen ∧ ∀ y ∈ G, Ok53 y) :
    ∃ v, Ev (fun k => vetchref05_Valid.f k R G) v ∧ (v = true → WF R G) := by
  obtain ⟨v, hv, hs⟩ := check_ev R G hR hG
  exact ⟨v.2.1 == 0, Ev.bind hv (Ev.const _), fun h => hs (beq_iff_eq.1 h)⟩
end Go.Proofs.Ytnaanamibfpbpaa.V
namespace Go.Proofs.Ytnaanamibfpbpaa.V
open Go.RowKit Go.Proofs.YtnaanamibfpbpaaW.PrintWords Go.Proofs.YtnaanamibfpbpaaW.PrintLast Go.Proofs.YtnaanamibfpbpaaW.PrintMore
set_option linter.unusedVariables false
set_option linter.unusedSimpArgs false
theorem eq54h (d : Nat) (w : World) (x0 y0 x1 y1 x2 y2 x3 y3 : Int) :
    (Op.equalIn (d + 2) 50 (.agg #[.int .u64 x0, .int .u64 x1, .int .u64 x2, .int .u64 x3]) (.agg #[.int .u64 y0, .int .u64 y1, .int .u64 y2, .int .u64 y3])).run Try.prog w = .ok (x0 == y0 && (x1 == y1 && (x2 == y2 && (x3 == y3)))) w :=
  eqA_four (k := .u64) Try.underlying50 Try.underlying48 (by kernel_rfl) (by kernel_rfl) d w x0 y0 x1 y1 x2 y2 x3 y3
attribute [local go_sem high] eq54h
def Ql1.seqF (l : List S35) : List Int → Bool → Bool → Bool → Bool → Bool × Bool × Bool
  | [], n, e, f, all => (n, e && all, f)
  | c :: cs, n, e, f, all => Ql1.seqF l cs (n && (Qp l c).f0) (e || (Qp l c).f1) (f || ((Qp l c).f2 && all)) (all && ((Qp l c).f0 || (Qp l c).f1))
def Ql1.choF (l : List S35) : List Int → Bool → Bool → Bool → Bool × Bool × Bool
  | [], n, e, f => (n, e, f)
  | c :: cs, n, e, f => Ql1.choF l cs (n || ((Qp l c).f0 && f)) (e || ((Qp l c).f1 && f)) (f && (Qp l c).f2)
def Ql1.p (R : List S39) (l : List S35) (nd : S53) : Bool × Bool × Bool :=
  if nd.f0 = 0 then (true, false, false) else
  if nd.f0 = 1 then (false, !(nd.f3.f0 == 0) || (!(nd.f3.f1 == 0) || (!(nd.f3.f2 == 0) || !(nd.f3.f3 == 0))), true) else
  if nd.f0 = 2 then ((Qp l (Qa1 R nd.f2).f1).f0, (Qp l (Qa1 R nd.f2).f1).f1, (Qp l (Qa1 R nd.f2).f1).f2) else
  if nd.f0 = 3 then Ql1.seqF l nd.f1 true false false true else
  if nd.f0 = 4 then Ql1.choF l nd.f1 false false true else
  let x := Qp l (rd nd.f1 0)
  if nd.f0 = 5 then (x.f2, x.f1, false) else
  if nd.f0 = 6 then (x.f0 && x.f2, x.f1, x.f2) else
  if nd.f0 = 7 then (x.f0 || x.f2, x.f1, false) else
  if nd.f0 = 8 then (x.f0 || x.f1, false, x.f2) else
  if nd.f0 = 9 then (x.f2, false, x.f0 || x.f1) else (false, false, false)
structure Env11 (W1 : World) (gx go : Nat) (ND : Array Value) (W : World) (n e f : Bool) : Prop where
  x : W.heap[gx]? = some (.cells ND 53 (0, 0))
  o : W.heap[go]? = some (.cells #[.bool n, .bool e, .bool f] 35 (0, 0))
  b : Below W1.heap.size W1 W
section
variable {W1 W W' : World} {gx go : Nat} {ND : Array Value} {n e f : Bool}
theorem Env11.below (h : Env11 W1 gx go ND W n e f) (hb : Below W.heap.size W W') : Env11 W1 gx go ND W' n e f := ⟨Qs h.x hb, Qs h.o hb, Qv h.b hb⟩
end
end Go.Proofs.Ytnaanamibfpbpaa.V
namespace Go.Proofs.Ytnaanamibfpbpaa.V
open Go.RowKit Go.Proofs.YtnaanamibfpbpaaW.PrintWords Go.Proofs.YtnaanamibfpbpaaW.PrintLast Go.Proofs.YtnaanamibfpbpaaW.PrintMore
set_option linter.unusedVariables false
set_option linter.unusedSimpArgs false
attribute [local go_sem high] eq54h
end Go.Proofs.Ytnaanamibfpbpaa.V
namespace Go.Proofs.Ytnaanamibfpbpaa.V
open Go.RowKit Go.Proofs.YtnaanamibfpbpaaW.PrintWords Go.Proofs.YtnaanamibfpbpaaW.PrintLast Go.Proofs.YtnaanamibfpbpaaW.PrintMore
set_option linter.unusedVariables false
set_option linter.unusedSimpArgs false
attribute [local go_sem high] eq54h
end Go.Proofs.Ytnaanamibfpbpaa.V
namespace Go.Proofs.Ytnaanamibfpbpaa.V
open Go.RowKit Go.Proofs.YtnaanamibfpbpaaW.PrintWords Go.Proofs.YtnaanamibfpbpaaW.PrintLast Go.Proofs.YtnaanamibfpbpaaW.PrintMore
set_option linter.unusedVariables false
set_option linter.unusedSimpArgs false
attribute [local go_sem high] eq54h
end Go.Proofs.Ytnaanamibfpbpaa.V
namespace Go.Proofs.Ytnaanamibfpbpaa.V
open Go.RowKit Go.Proofs.YtnaanamibfpbpaaW.PrintWords Go.Proofs.YtnaanamibfpbpaaW.PrintLast Go.Proofs.YtnaanamibfpbpaaW.PrintMore
set_option linter.unusedVariables false
set_option linter.unusedSimpArgs false
attribute [local go_sem high] eq54h
end Go.Proofs.Ytnaanamibfpbpaa.V
namespace Go.Proofs.Ytnaanamibfpbpaa.V
open Go.RowKit Go.Proofs.YtnaanamibfpbpaaW.PrintWords Go.Proofs.YtnaanamibfpbpaaW.PrintLast Go.Proofs.YtnaanamibfpbpaaW.PrintMore
set_option linter.unusedVariables false
set_option linter.unusedSimpArgs false
attribute [local go_sem high] eq54h
end Go.Proofs.Ytnaanamibfpbpaa.V
namespace Go.Proofs.Ytnaanamibfpbpaa.V
open Go.RowKit Go.Proofs.YtnaanamibfpbpaaW.PrintWords Go.Proofs.YtnaanamibfpbpaaW.PrintLast Go.Proofs.YtnaanamibfpbpaaW.PrintMore
set_option linter.unusedVariables false
set_option linter.unusedSimpArgs false
attribute [local go_sem high] eq54h
end Go.Proofs.Ytnaanamibfpbpaa.V
namespace Go.Proofs.Ytnaanamibfpbpaa.V
open Go.RowKit Go.Proofs.YtnaanamibfpbpaaW.PrintWords Go.Proofs.YtnaanamibfpbpaaW.PrintLast Go.Proofs.YtnaanamibfpbpaaW.PrintMore
set_option linter.unusedVariables false
set_option linter.unusedSimpArgs false
attribute [local go_sem high] eq54h
end Go.Proofs.Ytnaanamibfpbpaa.V
namespace Go.Proofs.Ytnaanamibfpbpaa.V
open Go.RowKit Go.Proofs.YtnaanamibfpbpaaW.PrintWords Go.Proofs.YtnaanamibfpbpaaW.PrintLast Go.Proofs.YtnaanamibfpbpaaW.PrintMore
set_option linter.unusedVariables false
set_option linter.unusedSimpArgs false
attribute [local go_sem high] eq54h
end Go.Proofs.Ytnaanamibfpbpaa.V
namespace Go.Proofs.Ytnaanamibfpbpaa.V
open Go.RowKit Go.Proofs.YtnaanamibfpbpaaW.PrintWords Go.Proofs.YtnaanamibfpbpaaW.PrintLast Go.Proofs.YtnaanamibfpbpaaW.PrintMore
set_option linter.unusedVariables false
set_option linter.unusedSimpArgs false
attribute [local go_sem high] eq54h
end Go.Proofs.Ytnaanamibfpbpaa.V
namespace Go.Proofs.Ytnaanamibfpbpaa.V
open Go.RowKit Go.Proofs.YtnaanamibfpbpaaW.PrintWords Go.Proofs.YtnaanamibfpbpaaW.PrintLast Go.Proofs.YtnaanamibfpbpaaW.PrintMore
set_option linter.unusedVariables false
set_option linter.unusedSimpArgs false
attribute [local go_sem high] eq54h
end Go.Proofs.Ytnaanamibfpbpaa.V
namespace Go.Proofs.Ytnaanamibfpbpaa.V
open Go.RowKit Go.Proofs.YtnaanamibfpbpaaW.PrintWords Go.Proofs.YtnaanamibfpbpaaW.PrintLast Go.Proofs.YtnaanamibfpbpaaW.PrintMore
set_option linter.unusedVariables false
set_option linter.unusedSimpArgs false
attribute [local go_sem high] eq54h
end Go.Proofs.Ytnaanamibfpbpaa.V
namespace Go.Proofs.Ytnaanamibfpbpaa.V
open Go.RowKit Go.Proofs.YtnaanamibfpbpaaW.PrintWords Go.Proofs.YtnaanamibfpbpaaW.PrintLast Go.Proofs.YtnaanamibfpbpaaW.PrintMore
attribute [local go_sem] max2_int min2_int max_two min_two max_three min_three max_four min_four tdiv_most
set_option linter.unusedVariables false
set_option linter.unusedSimpArgs false
def Qn1.l0 : Nat → List (S36) → List (S35) → Int → Option ((List (S35)))
 | 0, _, _, _ => none
 | k + 1, x0, x3, x4 => if x4 < (x0.length : Int) then (if 0 ≤ x4 then (if x3.length < 46912496118442 then (Qn1.l0 k x0 (x3 ++ [(⟨(Qg x0 x4).f0, (Qg x0 x4).f1, (Qg x0 x4).f2⟩ : S35)]) (wrap64 (x4 + 1))) else (none)) else (none)) else (some x3)
def Qn1.f (k : Nat) (l0 : List (S36)) : Option ((List (S35))) := Qn1.l0 k l0 ([] : List (S35)) 0
set_option maxHeartbeats 8000000 in
set_option maxRecDepth 100000 in
theorem Qn1.calls (k : Nat) (A0 : Option Addr) (c0 : Nat) (l0 : List (S36)) (r : List (S35)) (w : World) (hr0 : Kd.C k36 w A0 l0.length l0) (hc0 : l0.length ≤ c0) (h : Qn1.f k l0 = some r) :
 Calls Try.prog 12 #[.slice A0 l0.length c0] w fun e w' => ∃ v0_ : Value, e = .returned (v0_) ∧ Kd.R k35 35 w' w.heap.size (fun _ => True) v0_ r ∧ Below w.heap.size w w' := by
 have hu36 := Try.underlying36
 have HR0 := Qa.mk hr0
 have HC0 := Qa.mk hc0
 clear hr0 hc0
 have HB := Qa.mk (Below.refl w.heap.size w)
 have H : (Qn1.l0 k l0 ([] : List (S35)) 0) = some r := h
 clear h
 have H' := Qa.mk H
 clear H
 go_enter Try.func12, Try.ntmps12
 go_wp2
 go_loopg [3, 4] k (fun kq v3 v4 w' => ∃ (x3_1 : List (S35)) (x4_1 : Int), v4 = .int .i64 x4_1 ∧ Qa (Qn1.l0 kq l0 x3_1 x4_1 = some r) ∧ Qa (kq ≤ k) ∧ Qa (Kd.R k35 35 w' w.heap.size (fun _ => True) v3 x3_1) ∧ Qa (Below w.heap.size w w'))
 case atStart => exact ⟨(([] : List (S35))), (0), (by first | rfl | (simp; done) | (simp [*]; done)), H', ⟨Nat.le_refl _⟩, ⟨by first | exact Kd.R_nil _ _ _ _ _ | exact Kd.N_nil _ _ _ _ _ | exact Kd.V_nil _ _ _ _ _ | exact Kd.Q_nil _ _ _ _ _ | exact Kd.S_nil _ _ _ _ _⟩, ⟨by with_reducible repeat (first | exact HB.out | apply Qk | apply Ql | apply Qj)⟩⟩
 case round =>
  clear H'
  try clear c1
  obtain ⟨x3_1, x4_1, rfl, HA, HK1, HO_3, HB⟩ := hrel
  cases gk with
  | zero => exact absurd HA.out (by simp [Qn1.l0])
  | succ k1 =>
   have H := HA.out
   clear HA
   simp only [Qn1.l0] at H
   by_cases c2 : x4_1 < (l0.length : Int)
   rotate_left
   ·
    rw [if_neg c2] at H
    have c2b0 : decide (x4_1 < (l0.length : Int)) = false := decide_eq_false c2
    clear c2
    obtain rfl := Option.some.inj H
    go_wp2
    go_ret
    exact ⟨_, by first | rfl | (simp [Qw, Qx] <;> rfl) | (simp [*, Qw, Qx] <;> rfl), by (with_reducible repeat (first | apply Kd.Qq | apply Kd.Qr | apply Kd.Qo)); exact HO_3.out, by with_reducible repeat (first | exact HB.out | apply Qk | apply Ql | apply Qj)⟩
   rw [if_pos c2] at H
   have c2b0 : decide (x4_1 < (l0.length : Int)) = true := decide_eq_true c2
   clear c2
   by_cases c3 : 0 ≤ x4_1
   rotate_left
   ·
    rw [if_neg c3] at H
    exact absurd H (by simp)
   rw [if_pos c3] at H
   have c3b0 : decide (0 ≤ x4_1) = true := decide_eq_true c3
   clear c3
   by_cases c4 : x3_1.length < 46912496118442
   rotate_left
   ·
    rw [if_neg c4] at H
    exact absurd H (by simp)
   rw [if_pos c4] at H
   have LMc4 := Qa.mk c4
   clear c4
   obtain ⟨y263, hy263⟩ : ∃ y_ : List (S35), y_ = (x3_1 ++ [(⟨(Qg l0 x4_1).f0, (Qg l0 x4_1).f1, (Qg l0 x4_1).f2⟩ : S35)]) := ⟨_, rfl⟩
   replace H : (Qn1.l0 k1 l0 y263 (wrap64 (x4_1 + 1))) = some r := by first | (rw [hy263]; with_reducible exact H) | (have H2_ := (Option.bind_some _ _).symm.trans H; rw [hy263]; with_reducible exact H2_) | (have H2_ := (Option.bind_some _ _).symm.trans H; with_reducible exact H2_) | with_reducible exact H | (rw [hy263]; exact H) | exact H
   have Ny263 := Qa.mk hy263
   clear hy263
   have H' := Qa.mk H
   clear H
   have p262 : 0 ≤ (x4_1 : Int) := of_decide_eq_true (by assumption)
   have q262 : x4_1 < (l0.length : Int) := of_decide_eq_true (by assumption)
   obtain ⟨ad262, e262, hx262_0, hx262_1, hx262_2⟩ := at_T36 HR0.out x4_1 p262 q262
   cases e262
   replace hx262_0 := (HB.out.cell (World.block_lt_of_cell? w _ hx262_0)).trans hx262_0
   replace hx262_1 := (HB.out.cell (World.block_lt_of_cell? w _ hx262_1)).trans hx262_1
   replace hx262_2 := (HB.out.cell (World.block_lt_of_cell? w _ hx262_2)).trans hx262_2
   replace p262 := eq_true p262
   replace q262 := eq_true q262
   go_wp2_with (first | ((with_reducible refine gate_builtin (b := .append) (xs := #[.tmp 11, .tmp 16]) rfl ?_); at_builtin; refine Kd.R_append k35 (w0 := w) w.heap.size rfl (.tmp 11) (.tmp 16) 28 35 (.agg #[(.bool false), (.bool false), (.bool false)]) 3 rfl Try.underlying28 info35 rfl (by decide) (by omega) u3 x3_1 (⟨(Qg l0 x4_1).f0, (Qg l0 x4_1).f1, (Qg l0 x4_1).f2⟩ : S35) [.bool ((Qg l0 x4_1).f0), .bool ((Qg l0 x4_1).f1), .bool ((Qg l0 x4_1).f2)] (fun _ => True) (fun _ => False) rfl rfl ?aP (fun _ hk => hk.elim) ?aF ?aO ?aB ?aS ?aL ?_; (case aP => exact k35_mkM _ _ _ (⟨(Qg l0 x4_1).f0, (Qg l0 x4_1).f1, (Qg l0 x4_1).f2⟩ : S35)); (case aB => exact (by with_reducible repeat (first | exact HB.out | apply Qk | apply Ql | apply Qj))); (case aF => exact (fun _ _ => trivial)); (case aO => exact (by (with_reducible repeat (first | apply Kd.Qq | apply Kd.Qr | apply Kd.Qo)); exact HO_3.out)); (case aS => exact (Qb1 (by with_reducible repeat (first | exact HB.out | apply Qk | apply Ql | apply Qj)))); (case aL => have := LMc4.out; omega); intro v264 w5 ho hb hg hat; rw [← Ny263.out] at ho; have n0_ := Qa.mk (hb); have n1_ := Qa.mk (ho); clear HB; clear HO_3; have HB := n0_; have HO265 := n1_; clear n0_ n1_; clear ho hb hg hat))
   go_roundg k1
   case measure => have := HK1.out; omega
   case rel => exact ⟨(y263), (wrap64 (x4_1 + 1)), (by first | rfl | (simp; done) | (simp [*]; done)), H', ⟨by have := HK1.out; omega⟩, ⟨by (with_reducible repeat (first | apply Kd.Qq | apply Kd.Qr | apply Kd.Qo)); exact HO265.out⟩, ⟨by with_reducible repeat (first | exact HB.out | apply Qk | apply Ql | apply Qj)⟩⟩
end Go.Proofs.Ytnaanamibfpbpaa.V
namespace Go.Proofs.Ytnaanamibfpbpaa.V
open Go.RowKit Go.Proofs.YtnaanamibfpbpaaW.PrintWords
set_option linter.unusedVariables false
set_option linter.unusedSectionVars false
abbrev FactT := S35
abbrev Qz (l : List FactT) (i : Int) : FactT := Qp l i
instance decFactT : DecidableEq FactT := fun a b => if h : a.f0 = b.f0 ∧ a.f1 = b.f1 ∧ a.f2 = b.f2 then isTrue (by obtain ⟨a1, a2, a3⟩ := a; obtain ⟨b1, b2, b3⟩ := b; obtain ⟨h1, h2, h3⟩ := h; dsimp only at h1 h2 h3; subst h1 h2 h3; rfl) else isFalse (fun e => h (by subst e; exact ⟨rfl, rfl, rfl⟩))
def FLe (a b : FactT) : Prop := (a.f0 = true → b.f0 = true) ∧ (a.f1 = true → b.f1 = true) ∧ (a.f2 = true → b.f2 = true)
def LLe (a b : List FactT) : Prop := a.length = b.length ∧ ∀ i : Int, FLe (Qz a i) (Qz b i)
def mkF (t : Bool × Bool × Bool) : FactT := ⟨t.1, t.2.1, t.2.2⟩
def stepL (R : List RuleT) (G : List NodeT) (l : List FactT) : List FactT := G.map fun nd => mkF (Ql1.p R l nd)
theorem FLe.refl (a : FactT) : FLe a a := ⟨id, id, id⟩
theorem FLe.trans {a b c : FactT} (h : FLe a b) (k : FLe b c) : FLe a c := ⟨fun x => k.1 (h.1 x), fun x => k.2.1 (h.2.1 x), fun x => k.2.2 (h.2.2 x)⟩
theorem seqF_mono {l m : List FactT} (h : ∀ i, FLe (Qz l i) (Qz m i)) : ∀ (cs : List Int) (n e f al n' e' f' al' : Bool), (n = true → n' = true) → (e = true → e' = true) → (f = true → f' = true) → (al = true → al' = true) →
    FLe (mkF (Ql1.seqF l cs n e f al)) (mkF (Ql1.seqF m cs n' e' f' al')) := by
  intro cs
  induction cs with
  | nil =>
    intro n e f al n' e' f' al' h1 h2 h3 h4
    refine ⟨h1, fun hx => ?_, h3⟩
    simp only [Ql1.seqF, mkF, Bool.and_eq_true] at hx ⊢
    exact ⟨h2 hx.1, h4 hx.2⟩
  | cons c cs ih =>
    intro n e f al n' e' f' al' h1 h2 h3 h4
    obtain ⟨k1, k2, k3⟩ := h c
    refine ih _ _ _ _ _ _ _ _ ?_ ?_ ?_ ?_
    · simp only [Bool.and_eq_true]; exact fun hx => ⟨h1 hx.1, k1 hx.2⟩
    · simp only [Bool.or_eq_true]; exact fun hx => hx.imp h2 k2
    · simp only [Bool.or_eq_true, Bool.and_eq_true]; exact fun hx => hx.imp h3 (fun hy => ⟨k3 hy.1, h4 hy.2⟩)
    · simp only [Bool.or_eq_true, Bool.and_eq_true]; exact fun hx => ⟨h4 hx.1, hx.2.imp k1 k2⟩
theorem choF_mono' {l m : List FactT} (h : ∀ i, FLe (Qz l i) (Qz m i)) : ∀ (cs : List Int) (n e f n' e' f' : Bool), (n = true → n' = true) → (e = true → e' = true) → (f = true → f' = true) →
    FLe (mkF (Ql1.choF l cs n e f)) (mkF (Ql1.choF m cs n' e' f')) := by
  intro cs
  induction cs with
  | nil => exact fun n e f n' e' f' h1 h2 h3 => ⟨h1, h2, h3⟩
  | cons c cs ih =>
    intro n e f n' e' f' h1 h2 h3
    obtain ⟨k1, k2, k3⟩ := h c
    refine ih _ _ _ _ _ _ ?_ ?_ ?_
    · simp only [Bool.or_eq_true, Bool.and_eq_true]; exact fun hx => hx.imp h1 (fun hy => ⟨k1 hy.1, h3 hy.2⟩)
    · simp only [Bool.or_eq_true, Bool.and_eq_true]; exact fun hx => hx.imp h2 (fun hy => ⟨k2 hy.1, h3 hy.2⟩)
    · simp only [Bool.and_eq_true]; exact fun hx => ⟨h3 hx.1, k3 hx.2⟩
theorem p_mono (R : List RuleT) {l m : List FactT} (h : ∀ i, FLe (Qz l i) (Qz m i)) (nd : NodeT) : FLe (mkF (Ql1.p R l nd)) (mkF (Ql1.p R m nd)) := by
  have hk := h (rd nd.f1 0)
  have hr := h (Qa1 R nd.f2).f1
  obtain ⟨k1, k2, k3⟩ := hk
  have e1 : ∀ {a b a' b' : Bool}, (a = true → a' = true) → (b = true → b' = true) → (a || b) = true → (a' || b') = true := fun ha hb hx => by rw [Bool.or_eq_true] at hx ⊢; exact hx.imp ha hb
  have e2 : ∀ {a b a' b' : Bool}, (a = true → a' = true) → (b = true → b' = true) → (a && b) = true → (a' && b') = true := fun ha hb hx => by rw [Bool.and_eq_true] at hx ⊢; exact ⟨ha hx.1, hb hx.2⟩
  unfold Ql1.p
  by_cases c0 : nd.f0 = 0
  · rw [if_pos c0, if_pos c0]; exact FLe.refl _
  rw [if_neg c0, if_neg c0]
  by_cases c1 : nd.f0 = 1
  · rw [if_pos c1, if_pos c1]; exact FLe.refl _
  rw [if_neg c1, if_neg c1]
  by_cases c2 : nd.f0 = 2
  · rw [if_pos c2, if_pos c2]; exact hr
  rw [if_neg c2, if_neg c2]
  by_cases c3 : nd.f0 = 3
  · rw [if_pos c3, if_pos c3]; exact seqF_mono h _ _ _ _ _ _ _ _ _ id id id id
  rw [if_neg c3, if_neg c3]
  by_cases c4 : nd.f0 = 4
  · rw [if_pos c4, if_pos c4]; exact choF_mono' h _ _ _ _ _ _ _ id id id
  rw [if_neg c4, if_neg c4]
  dsimp only
  by_cases c5 : nd.f0 = 5
  · rw [if_pos c5, if_pos c5]; exact ⟨k3, k2, id⟩
  rw [if_neg c5, if_neg c5]
  by_cases c6 : nd.f0 = 6
  · rw [if_pos c6, if_pos c6]; exact ⟨e2 k1 k3, k2, k3⟩
  rw [if_neg c6, if_neg c6]
  by_cases c7 : nd.f0 = 7
  · rw [if_pos c7, if_pos c7]; exact ⟨e1 k1 k3, k2, id⟩
  rw [if_neg c7, if_neg c7]
  by_cases c8 : nd.f0 = 8
  · rw [if_pos c8, if_pos c8]; exact ⟨e1 k1 k2, id, k3⟩
  rw [if_neg c8, if_neg c8]
  by_cases c9 : nd.f0 = 9
  · rw [if_pos c9, if_pos c9]; exact ⟨k3, id, e1 k1 k2⟩
  rw [if_neg c9, if_neg c9]
  exact FLe.refl _
theorem fact_out (l : List FactT) (i : Int) (h : ¬ i.toNat < l.length) : Qz l i = z35 := by
  show l.getD i.toNat _ = _
  rw [List.getD_eq_getElem?_getD, List.getElem?_eq_none (by omega)]
  rfl
theorem fact_step (R : List RuleT) (G : List NodeT) (l : List FactT) (i : Int) (h0 : 0 ≤ i) (h1 : i < (G.length : Int)) : Qz (stepL R G l) i = mkF (Ql1.p R l (nodeAt G i)) := by
  have h : i.toNat < G.length := by omega
  show (G.map _).getD i.toNat _ = mkF (Ql1.p R l (G.getD i.toNat _))
  rw [List.getD_eq_getElem?_getD, List.getD_eq_getElem?_getD, List.getElem?_map, List.getElem?_eq_getElem h]
  rfl
theorem step_length (R : List RuleT) (G : List NodeT) (l : List FactT) : (stepL R G l).length = G.length := by simp [stepL]
theorem step_mono (R : List RuleT) (G : List NodeT) {l m : List FactT} (h : ∀ i, FLe (Qz l i) (Qz m i)) (i : Int) : FLe (Qz (stepL R G l) i) (Qz (stepL R G m) i) := by
  by_cases hi : i.toNat < G.length
  · have e : Qz (stepL R G l) i = mkF (Ql1.p R l (G.getD i.toNat z53)) := by
      show (G.map _).getD i.toNat _ = _
      rw [List.getD_eq_getElem?_getD, List.getD_eq_getElem?_getD, List.getElem?_map, List.getElem?_eq_getElem hi]
      rfl
    have e' : Qz (stepL R G m) i = mkF (Ql1.p R m (G.getD i.toNat z53)) := by
      show (G.map _).getD i.toNat _ = _
      rw [List.getD_eq_getElem?_getD, List.getD_eq_getElem?_getD, List.getElem?_map, List.getElem?_eq_getElem hi]
      rfl
    rw [e, e']
    exact p_mono R h _
  · rw [fact_out _ _ (by rw [step_length]; exact hi), fact_out _ _ (by rw [step_length]; exact hi)]
    exact FLe.refl _
def cntF (a : FactT) : Nat := a.f0.toNat + a.f1.toNat + a.f2.toNat
def cnt (l : List FactT) : Nat := (l.map cntF).sum
theorem cntF_le (a : FactT) : cntF a ≤ 3 := by obtain ⟨a, b, c⟩ := a; cases a <;> cases b <;> cases c <;> decide
theorem cntF_mono {a b : FactT} (h : FLe a b) : cntF a ≤ cntF b ∧ (cntF b ≤ cntF a → a = b) := by
  obtain ⟨a1, a2, a3⟩ := a
  obtain ⟨b1, b2, b3⟩ := b
  obtain ⟨h1, h2, h3⟩ := h
  cases a1 <;> cases a2 <;> cases a3 <;> cases b1 <;> cases b2 <;> cases b3 <;> simp_all [cntF]
theorem cnt_le : ∀ l : List FactT, cnt l ≤ 3 * l.length
  | [] => by simp [cnt]
  | a :: l => by
    have := cnt_le l
    have := cntF_le a
    simp only [cnt, List.map_cons, List.sum_cons, List.length_cons] at *
    omega
theorem cnt_mono : ∀ (a b : List FactT), a.length = b.length → (∀ i : Nat, ∀ x y, a[i]? = some x → b[i]? = some y → FLe x y) → cnt a ≤ cnt b ∧ (cnt b ≤ cnt a → a = b)
  | [], [], _, _ => ⟨Nat.le_refl _, fun _ => rfl⟩
  | [], _ :: _, h, _ => by simp at h
  | _ :: _, [], h, _ => by simp at h
  | x :: a, y :: b, hl, h => by
    have h1 := cntF_mono (h 0 x y rfl rfl)
    have h2 := cnt_mono a b (by simpa using hl) (fun i u v hu hv => h (i + 1) u v (by simpa using hu) (by simpa using hv))
    simp only [cnt, List.map_cons, List.sum_cons] at *
    refine ⟨by omega, fun hc => ?_⟩
    rw [h1.2 (by omega), h2.2 (by omega)]
theorem lle_cnt {a b : List FactT} (h : LLe a b) : cnt a ≤ cnt b ∧ (cnt b ≤ cnt a → a = b) := cnt_mono a b h.1 (fun i x y hx hy => by
  have := h.2 (i : Int)
  have e : Qz a (i : Int) = x := by
    show a.getD ((i : Int).toNat) _ = x
    rw [List.getD_eq_getElem?_getD, show ((i : Int).toNat) = i by omega, hx]
    rfl
  have e' : Qz b (i : Int) = y := by
    show b.getD ((i : Int).toNat) _ = y
    rw [List.getD_eq_getElem?_getD, show ((i : Int).toNat) = i by omega, hy]
    rfl
  rwa [e, e'] at this)
section
variable {R : List RuleT} {G : List NodeT} (hw : WF R G)
include hw
end
end Go.Proofs.Ytnaanamibfpbpaa.V
namespace Go.Proofs.Ytnaanamibfpbpaa.V
open Go.RowKit Go.Proofs.YtnaanamibfpbpaaW.PrintWords
set_option linter.unusedVariables false
set_option linter.unusedSectionVars false
set_option linter.unusedSimpArgs false
abbrev FlowT := S36
abbrev flowAt (l : List FlowT) (i : Int) : FlowT := Qg l i
def toR (x : FlowT) : FactT := ⟨x.f0, x.f1, x.f2⟩
def ofR (x : FactT) : FlowT := ⟨x.f0, x.f1, x.f2⟩
theorem ofR_toR (x : FlowT) : ofR (toR x) = x := rfl
theorem at_toR (l : List FlowT) (i : Int) : Qz (l.map toR) i = toR (flowAt l i) := by
  show (l.map toR).getD i.toNat _ = toR (l.getD i.toNat _)
  rw [List.getD_eq_getElem?_getD, List.getD_eq_getElem?_getD, List.getElem?_map]
  cases l[i.toNat]? <;> rfl
def fitNode (R : List RuleT) (n : Nat) (nd : NodeT) : Bool :=
  decide (0 ≤ nd.f0) && decide (nd.f0 ≤ 9) && decide (nd.f1.length ≤ 60) && nd.f1.all (fun c => decide (0 ≤ c) && decide (c < (n : Int))) && (decide (nd.f0 ≤ 4) || decide (0 < nd.f1.length)) &&
    (decide (nd.f0 ≠ 2) || (decide (0 ≤ nd.f2) && decide (nd.f2 < (R.length : Int)) && decide (0 ≤ (ruleAt R nd.f2).f1) && decide ((ruleAt R nd.f2).f1 < (n : Int))))
def fitB (R : List RuleT) (G : List NodeT) : Bool := decide (0 < G.length ∧ G.length ≤ 300) && G.all (fitNode R G.length)
structure Fit (R : List RuleT) (G : List NodeT) : Prop where
  pos : 0 < G.length
  nodes : G.length ≤ 300
  op : ∀ i : Int, 0 ≤ i → i < (G.length : Int) → 0 ≤ (nodeAt G i).f0 ∧ (nodeAt G i).f0 ≤ 9
  len : ∀ i : Int, 0 ≤ i → i < (G.length : Int) → (nodeAt G i).f1.length ≤ 60
  kids : ∀ i : Int, 0 ≤ i → i < (G.length : Int) → ∀ c ∈ (nodeAt G i).f1, 0 ≤ c ∧ c < (G.length : Int)
  one : ∀ i : Int, 0 ≤ i → i < (G.length : Int) → 5 ≤ (nodeAt G i).f0 → 0 < (nodeAt G i).f1.length
  call : ∀ i : Int, 0 ≤ i → i < (G.length : Int) → (nodeAt G i).f0 = 2 → 0 ≤ (nodeAt G i).f2 ∧ (nodeAt G i).f2 < (R.length : Int) ∧ 0 ≤ (ruleAt R (nodeAt G i).f2).f1 ∧ (ruleAt R (nodeAt G i).f2).f1 < (G.length : Int)
theorem node_mem (G : List NodeT) (i : Int) (h0 : 0 ≤ i) (h1 : i < (G.length : Int)) : nodeAt G i ∈ G := by
  have h : i.toNat < G.length := by omega
  show G.getD i.toNat _ ∈ G
  rw [List.getD_eq_getElem?_getD, List.getElem?_eq_getElem h]
  exact List.getElem_mem h
theorem fit_iff (R : List RuleT) (n : Nat) (nd : NodeT) : fitNode R n nd = true ↔ (0 ≤ nd.f0 ∧ nd.f0 ≤ 9 ∧ nd.f1.length ≤ 60 ∧ (∀ c ∈ nd.f1, 0 ≤ c ∧ c < (n : Int)) ∧ (nd.f0 ≤ 4 ∨ 0 < nd.f1.length) ∧ (nd.f0 ≠ 2 ∨ (0 ≤ nd.f2 ∧ nd.f2 < (R.length : Int) ∧ 0 ≤ (ruleAt R nd.f2).f1 ∧ (ruleAt R nd.f2).f1 < (n : Int)))) := by
  unfold fitNode
  simp only [Bool.and_eq_true, Bool.or_eq_true, decide_eq_true_eq, List.all_eq_true]
  constructor
  · rintro ⟨⟨⟨⟨⟨a, b⟩, c⟩, d⟩, e⟩, f⟩
    refine ⟨a, b, c, d, e, f.imp id (fun h => ⟨h.1.1.1, h.1.1.2, h.1.2, h.2⟩)⟩
  · rintro ⟨a, b, c, d, e, f⟩
    exact ⟨⟨⟨⟨⟨a, b⟩, c⟩, d⟩, e⟩, f.imp id (fun h => ⟨⟨⟨h.1, h.2.1⟩, h.2.2.1⟩, h.2.2.2⟩)⟩
theorem fit_of {R : List RuleT} {G : List NodeT} (h : fitB R G = true) : Fit R G := by
  unfold fitB at h
  rw [Bool.and_eq_true, decide_eq_true_eq, List.all_eq_true] at h
  have key : ∀ i : Int, 0 ≤ i → i < (G.length : Int) → _ := fun i h0 h1 => (fit_iff R G.length (nodeAt G i)).1 (h.2 _ (node_mem G i h0 h1))
  exact ⟨h.1.1, h.1.2, fun i h0 h1 => ⟨(key i h0 h1).1, (key i h0 h1).2.1⟩, fun i h0 h1 => (key i h0 h1).2.2.1, fun i h0 h1 => (key i h0 h1).2.2.2.1, fun i h0 h1 h5 => (key i h0 h1).2.2.2.2.1.resolve_left (by omega), fun i h0 h1 h2 => (key i h0 h1).2.2.2.2.2.resolve_left (fun hn => hn h2)⟩
def seqS : List FlowT → Bool → Bool → Bool → Bool → Bool × Bool × Bool
  | [], n, e, f, ok => (n, ok && e, f)
  | x :: xs, n, e, f, ok => seqS xs (n && x.f0) (e || x.f1) (f || (ok && x.f2)) (ok && (x.f0 || x.f1))
def choS : List FlowT → Bool → Bool → Bool → Bool × Bool × Bool
  | [], n, e, fl => (n, e, fl)
  | x :: xs, n, e, fl => choS xs (n || (fl && x.f0)) (e || (fl && x.f1)) (fl && x.f2)
theorem drop_flow (xs : List FlowT) (j : Nat) (h : j < xs.length) : xs.drop j = flowAt xs (j : Int) :: xs.drop (j + 1) := by
  rw [List.drop_eq_getElem_cons h]
  congr 1
  show _ = xs.getD ((j : Int).toNat) _
  rw [List.getD_eq_getElem?_getD, Int.toNat_natCast, List.getElem?_eq_getElem h]
  rfl
theorem seq_val (xs : List FlowT) (hx : xs.length ≤ 1000) : ∀ (d j k : Nat) (ok n e f : Bool), j + d = xs.length → d < k → flow_seq.l0 k ok xs (xs.length : Int) (j : Int) n e f = some (seqS (xs.drop j) n e f ok) := by
  intro d
  induction d with
  | zero =>
    intro j k ok n e f hj hk
    obtain ⟨k, rfl⟩ : ∃ m, k = m + 1 := ⟨k - 1, by omega⟩
    rw [List.drop_of_length_le (by omega), flow_seq.l0, if_neg (by omega), seqS]
    cases ok <;> cases e <;> rfl
  | succ d ih =>
    intro j k ok n e f hj hk
    obtain ⟨k, rfl⟩ : ∃ m, k = m + 1 := ⟨k - 1, by omega⟩
    rw [drop_flow xs j (by omega), seqS]
    have hn : ∀ ok n e f, flow_seq.l0 k ok xs (xs.length : Int) ((j : Int) + 1) n e f = some (seqS (xs.drop (j + 1)) n e f ok) := fun ok n e f => ih (j + 1) k ok n e f (by omega) (by omega)
    rw [flow_seq.l0, if_pos (by omega), if_pos (by omega), if_pos (by omega), w64p ((j : Int) + 1) (by omega)]
    show _ = some (seqS (xs.drop (j + 1)) (n && (Qg xs (j : Int)).f0) (e || (Qg xs (j : Int)).f1) (f || (ok && (Qg xs (j : Int)).f2)) (ok && ((Qg xs (j : Int)).f0 || (Qg xs (j : Int)).f1)))
    generalize Qg xs (j : Int) = x
    obtain ⟨x0, x1, x2⟩ := x
    cases ok <;> cases n <;> cases e <;> cases f <;> cases x0 <;> cases x1 <;> cases x2 <;> simp [hn, flow_Facts_ok.f]
theorem cho_val (xs : List FlowT) (hx : xs.length ≤ 1000) : ∀ (d j k : Nat) (fl n e z : Bool), j + d = xs.length → d < k → flow_choice.l0 k fl xs (xs.length : Int) (j : Int) n e z = some (choS (xs.drop j) n e fl) := by
  intro d
  induction d with
  | zero =>
    intro j k fl n e z hj hk
    obtain ⟨k, rfl⟩ : ∃ m, k = m + 1 := ⟨k - 1, by omega⟩
    rw [List.drop_of_length_le (by omega), flow_choice.l0, if_neg (by omega), choS]
  | succ d ih =>
    intro j k fl n e z hj hk
    obtain ⟨k, rfl⟩ : ∃ m, k = m + 1 := ⟨k - 1, by omega⟩
    rw [drop_flow xs j (by omega), choS]
    have hn : ∀ fl n e, flow_choice.l0 k fl xs (xs.length : Int) ((j : Int) + 1) n e z = some (choS (xs.drop (j + 1)) n e fl) := fun fl n e => ih (j + 1) k fl n e z (by omega) (by omega)
    rw [flow_choice.l0, if_pos (by omega), if_pos (by omega), if_pos (by omega), w64p ((j : Int) + 1) (by omega)]
    show _ = some (choS (xs.drop (j + 1)) (n || (fl && (Qg xs (j : Int)).f0)) (e || (fl && (Qg xs (j : Int)).f1)) (fl && (Qg xs (j : Int)).f2))
    generalize Qg xs (j : Int) = x
    obtain ⟨x0, x1, x2⟩ := x
    cases fl <;> cases n <;> cases e <;> cases x0 <;> cases x1 <;> cases x2 <;> simp [hn]
theorem seqS_F (L : List FlowT) : ∀ (cs : List Int) (n e f al : Bool), seqS (cs.map (flowAt L)) n e f al = Ql1.seqF (L.map toR) cs n e f al
  | [], n, e, f, al => by simp [seqS, Ql1.seqF, Bool.and_comm]
  | c :: cs, n, e, f, al => by
    rw [List.map_cons, seqS, Ql1.seqF, seqS_F L cs]
    have h := at_toR L c
    show _ = Ql1.seqF (L.map toR) cs (n && (Qz (L.map toR) c).f0) (e || (Qz (L.map toR) c).f1) (f || ((Qz (L.map toR) c).f2 && al)) (al && ((Qz (L.map toR) c).f0 || (Qz (L.map toR) c).f1))
    rw [h]
    simp only [toR, Bool.and_comm al]
theorem choS_F (L : List FlowT) : ∀ (cs : List Int) (n e f : Bool), choS (cs.map (flowAt L)) n e f = Ql1.choF (L.map toR) cs n e f
  | [], n, e, f => rfl
  | c :: cs, n, e, f => by
    rw [List.map_cons, choS, Ql1.choF, choS_F L cs]
    have h := at_toR L c
    show _ = Ql1.choF (L.map toR) cs (n || ((Qz (L.map toR) c).f0 && f)) (e || ((Qz (L.map toR) c).f1 && f)) (f && (Qz (L.map toR) c).f2)
    rw [h]
    simp only [toR, Bool.and_comm f]
theorem node_val {R : List RuleT} {G : List NodeT} (hf : Fit R G) (L : List FlowT) (hL : L.length = G.length) (i : Int) (h0 : 0 ≤ i) (h1 : i < (G.length : Int)) (k : Nat) (hk : 200 ≤ k) :
    flow_node.f k R G i L = some (Ql1.p R (L.map toR) (nodeAt G i)) := by
  have hn := hf.nodes
  have hop := hf.op i h0 h1
  have hlen := hf.len i h0 h1
  have hkids := hf.kids i h0 h1
  have hone := hf.one i h0 h1
  have hcall := hf.call i h0 h1
  show (if 0 ≤ i then (if i < (G.length : Int) then (flow_node.l0 k L ([] : List FlowT) (nodeAt G i).f1 (((nodeAt G i).f1).length : Int) 0 R G (nodeAt G i).f0 (nodeAt G i).f1 (nodeAt G i).f2 (nodeAt G i).f3.f0 (nodeAt G i).f3.f1 (nodeAt G i).f3.f2 (nodeAt G i).f3.f3) else none) else none) = _
  rw [if_pos h0, if_pos h1]
  generalize nodeAt G i = nd at hop hlen hkids hone hcall ⊢
  obtain ⟨op, cs, rule, s⟩ := nd
  dsimp only at hop hlen hkids hone hcall ⊢
  have loop : ∀ (d j k : Nat), j + d = cs.length → d + 100 ≤ k → flow_node.l0 k L ((cs.take j).map (flowAt L)) cs (cs.length : Int) (j : Int) R G op cs rule s.f0 s.f1 s.f2 s.f3 = some (Ql1.p R (L.map toR) ⟨op, cs, rule, s⟩) := by
    intro d
    induction d with
    | zero =>
      intro j k hj hk
      obtain ⟨k, rfl⟩ : ∃ m, k = m + 1 := ⟨k - 1, by omega⟩
      rw [List.take_of_length_le (by omega), flow_node.l0, if_neg (by omega)]
      unfold Ql1.p
      dsimp only
      by_cases o0 : op = 0
      · rw [if_pos o0, if_pos o0]
      rw [if_neg o0, if_neg o0]
      by_cases o1 : op = 1
      · rw [if_pos o1, if_pos o1]
      rw [if_neg o1, if_neg o1]
      by_cases o2 : op = 2
      · obtain ⟨a, b, c, d⟩ := hcall o2
        have h := at_toR L (ruleAt R rule).f1
        rw [if_pos o2, if_pos o2, if_pos a, if_pos b, if_pos c, if_pos (by rw [hL]; exact d)]
        show _ = some ((Qz (L.map toR) (ruleAt R rule).f1).f0, (Qz (L.map toR) (ruleAt R rule).f1).f1, (Qz (L.map toR) (ruleAt R rule).f1).f2)
        rw [h]
        rfl
      rw [if_neg o2, if_neg o2]
      by_cases o3 : op = 3
      · rw [if_pos o3, if_pos o3]
        unfold flow_seq.f
        have h := seq_val (cs.map (flowAt L)) (by simp; omega) cs.length 0 k true true false false (by simp) (by omega)
        rw [show ((0 : Nat) : Int) = 0 from rfl] at h
        rw [h, Option.bind_some, List.drop_zero, seqS_F]
      rw [if_neg o3, if_neg o3]
      by_cases o4 : op = 4
      · rw [if_pos o4, if_pos o4]
        unfold flow_choice.f
        have h := cho_val (cs.map (flowAt L)) (by simp; omega) cs.length 0 k true false false false (by simp) (by omega)
        rw [show ((0 : Nat) : Int) = 0 from rfl] at h
        rw [h, Option.bind_some, List.drop_zero, choS_F]
      rw [if_neg o4, if_neg o4]
      have hp := hone (by omega)
      have e0 : Qg (cs.map (flowAt L)) 0 = flowAt L (rd cs 0) := by
        cases cs with
        | nil => simp at hp
        | cons c cs => rfl
      have h := at_toR L (rd cs 0)
      rw [if_pos (by simp; omega), e0]
      show _ = some (if op = 5 then ((Qz (L.map toR) (rd cs 0)).f2, (Qz (L.map toR) (rd cs 0)).f1, false) else if op = 6 then ((Qz (L.map toR) (rd cs 0)).f0 && (Qz (L.map toR) (rd cs 0)).f2, (Qz (L.map toR) (rd cs 0)).f1, (Qz (L.map toR) (rd cs 0)).f2) else if op = 7 then ((Qz (L.map toR) (rd cs 0)).f0 || (Qz (L.map toR) (rd cs 0)).f2, (Qz (L.map toR) (rd cs 0)).f1, false) else if op = 8 then ((Qz (L.map toR) (rd cs 0)).f0 || (Qz (L.map toR) (rd cs 0)).f1, false, (Qz (L.map toR) (rd cs 0)).f2) else if op = 9 then ((Qz (L.map toR) (rd cs 0)).f2, false, (Qz (L.map toR) (rd cs 0)).f0 || (Qz (L.map toR) (rd cs 0)).f1) else (false, false, false))
      rw [h]
      generalize flowAt L (rd cs 0) = x
      obtain ⟨x0, x1, x2⟩ := x
      unfold flow_unary.f flow_Facts_ok.f toR
      have o5 : op = 5 ∨ op = 6 ∨ op = 7 ∨ op = 8 ∨ op = 9 := by omega
      rcases o5 with rfl | rfl | rfl | rfl | rfl <;> cases x0 <;> cases x1 <;> cases x2 <;> rfl
    | succ d ih =>
      intro j k hj hk
      obtain ⟨k, rfl⟩ : ∃ m, k = m + 1 := ⟨k - 1, by omega⟩
      have hjl : j < cs.length := by omega
      have hc := hkids _ (List.getElem_mem hjl)
      have er : rd cs (j : Int) = cs[j] := by
        unfold rd
        rw [List.getD_eq_getElem?_getD, Int.toNat_natCast, List.getElem?_eq_getElem hjl]
        rfl
      have hn := ih (j + 1) k (by omega) (by omega)
      rw [flow_node.l0, if_pos (by omega), if_pos (by omega), if_pos (by omega), er, if_pos hc.1, if_pos (by rw [hL]; exact hc.2), if_pos (by simp; omega), w64p _ (by omega), show (j : Int) + 1 = ((j + 1 : Nat) : Int) by omega, ← hn, List.take_succ_eq_append_getElem hjl, List.map_append]
      rfl
  have := loop cs.length 0 k (by omega) (by omega)
  rw [List.take_zero] at this
  exact this
end Go.Proofs.Ytnaanamibfpbpaa.V
namespace Go.Proofs.Ytnaanamibfpbpaa.V
open Go.RowKit Go.Proofs.YtnaanamibfpbpaaW.PrintWords
set_option linter.unusedVariables false
set_option linter.unusedSectionVars false
set_option linter.unusedSimpArgs false
abbrev rowAt (x : List (List Int)) (c : Int) : List Int := rd_L1 x c
theorem row_set (x : List (List Int)) (a : Int) (v : List Int) (h0 : 0 ≤ a) (h1 : a < (x.length : Int)) (c : Int) (hc : 0 ≤ c) : rowAt (x.set a.toNat v) c = if a = c then v else rowAt x c := by
  show (x.set a.toNat v).getD c.toNat [] = if a = c then v else x.getD c.toNat []
  rw [List.getD_eq_getElem?_getD, List.getD_eq_getElem?_getD, List.getElem?_set]
  by_cases h : a = c
  · subst h; rw [if_pos rfl, if_pos rfl, if_pos (by omega)]; rfl
  · rw [if_neg h, if_neg (by omega)]
structure Usr (R : List RuleT) (G : List NodeT) (x : List (List Int)) (i j : Nat) : Prop where
  len : x.length = G.length
  rng : ∀ c : Int, 0 ≤ c → ∀ y ∈ rowAt x c, 0 ≤ y ∧ y < (G.length : Int)
  bd : ∀ c : Int, 0 ≤ c → (rowAt x c).length ≤ 61 * i + j
  done : ∀ p : Int, 0 ≤ p → p < (i : Int) → (∀ c ∈ (nodeAt G p).f1, p ∈ rowAt x c) ∧ ((nodeAt G p).f0 = 2 → p ∈ rowAt x (ruleAt R (nodeAt G p).f2).f1)
theorem Usr.add {R : List RuleT} {G : List NodeT} {x : List (List Int)} {i j : Nat} (hf : Fit R G) (h : Usr R G x i j) (hi : i < G.length) (a : Int) (h0 : 0 ≤ a) (h1 : a < (G.length : Int)) :
    Usr R G (x.set a.toNat (rowAt x a ++ [(i : Int)])) i (j + 1) ∧ (i : Int) ∈ rowAt (x.set a.toNat (rowAt x a ++ [(i : Int)])) a ∧ ∀ c : Int, 0 ≤ c → ∀ y ∈ rowAt x c, y ∈ rowAt (x.set a.toNat (rowAt x a ++ [(i : Int)])) c := by
  have hs := fun c hc => row_set x a (rowAt x a ++ [(i : Int)]) h0 (by rw [h.len]; exact h1) c hc
  have grow : ∀ c : Int, 0 ≤ c → ∀ y ∈ rowAt x c, y ∈ rowAt (x.set a.toNat (rowAt x a ++ [(i : Int)])) c := fun c hc y hy => by
    rw [hs c hc]
    split
    · rename_i e; subst e; exact List.mem_append_left _ hy
    · exact hy
  refine ⟨⟨by rw [List.length_set]; exact h.len, fun c hc y hy => ?_, fun c hc => ?_, fun p hp0 hp => ?_⟩, ?_, grow⟩
  · rw [hs c hc] at hy
    split at hy
    · rcases List.mem_append.1 hy with hy | hy
      · exact h.rng a h0 y hy
      · obtain rfl := List.mem_singleton.1 hy
        exact ⟨by omega, by omega⟩
    · exact h.rng c hc y hy
  · rw [hs c hc]
    split
    · rw [List.length_append, List.length_singleton]
      have := h.bd a h0
      omega
    · have := h.bd c hc
      omega
  · have hd := h.done p hp0 hp
    exact ⟨fun c hc => grow c ((hf.kids p hp0 (by omega) c hc).1) p (hd.1 c hc), fun o => grow _ (hf.call p hp0 (by omega) o).2.2.1 p (hd.2 o)⟩
  · rw [hs a h0, if_pos rfl]
    simp
def UsersOk (R : List RuleT) (G : List NodeT) (x : List (List Int)) : Prop := x.length = G.length ∧ (∀ c : Int, 0 ≤ c → ∀ y ∈ rowAt x c, 0 ≤ y ∧ y < (G.length : Int)) ∧ (∀ c : Int, 0 ≤ c → (rowAt x c).length ≤ 20000) ∧
  ∀ p : Int, 0 ≤ p → p < (G.length : Int) → (∀ c ∈ (nodeAt G p).f1, p ∈ rowAt x c) ∧ ((nodeAt G p).f0 = 2 → p ∈ rowAt x (ruleAt R (nodeAt G p).f2).f1)
theorem users_val {R : List RuleT} {G : List NodeT} (hf : Fit R G) (k : Nat) (hk : 20000 ≤ k) : ∃ x, flow_users.f k R G = some x ∧ UsersOk R G x := by
  have hn := hf.nodes
  have l0 : ∀ (d i k : Nat) (x : List (List Int)), i + d = G.length → 62 * d < k → Usr R G x i 0 → ∃ y, flow_users.l0 k x G (G.length : Int) (i : Int) R G = some y ∧ UsersOk R G y := by
    intro d
    induction d with
    | zero =>
      intro i k x hi hk hu
      obtain ⟨k, rfl⟩ : ∃ m, k = m + 1 := ⟨k - 1, by omega⟩
      obtain rfl : i = G.length := by omega
      exact ⟨x, by rw [flow_users.l0, if_neg (by omega)], hu.len, hu.rng, fun c hc => by have := hu.bd c hc; omega, hu.done⟩
    | succ d ih =>
      intro i k x hi hk hu
      obtain ⟨k, rfl⟩ : ∃ m, k = m + 1 := ⟨k - 1, by omega⟩
      have hlen := hf.len (i : Int) (by omega) (by omega)
      have hkids := hf.kids (i : Int) (by omega) (by omega)
      have hcall := hf.call (i : Int) (by omega) (by omega)
      have l1 : ∀ (e j k : Nat) (x : List (List Int)), j + e = (nodeAt G (i : Int)).f1.length → 62 * d + e + 1 < k → Usr R G x i j → (∀ c ∈ (nodeAt G (i : Int)).f1.take j, (i : Int) ∈ rowAt x c) →
          ∃ y, flow_users.l1 k x (i : Int) G (G.length : Int) (i : Int) (nodeAt G (i : Int)).f1 (((nodeAt G (i : Int)).f1).length : Int) (j : Int) R G (nodeAt G (i : Int)).f0 (nodeAt G (i : Int)).f1 (nodeAt G (i : Int)).f2 (nodeAt G (i : Int)).f3.f0 (nodeAt G (i : Int)).f3.f1 (nodeAt G (i : Int)).f3.f2 (nodeAt G (i : Int)).f3.f3 = some y ∧ UsersOk R G y := by
        intro e
        induction e with
        | zero =>
          intro j k x hj hk hu hcur
          obtain ⟨k, rfl⟩ : ∃ m, k = m + 1 := ⟨k - 1, by omega⟩
          rw [List.take_of_length_le (by omega)] at hcur
          rw [flow_users.l1, if_neg (by omega)]
          by_cases o : (nodeAt G (i : Int)).f0 = 2
          · obtain ⟨a, b, c, dd⟩ := hcall o
            obtain ⟨q1, q2, q3⟩ := hu.add hf (by omega) _ c dd
            have hnext : Usr R G (x.set (ruleAt R (nodeAt G (i : Int)).f2).f1.toNat (rowAt x (ruleAt R (nodeAt G (i : Int)).f2).f1 ++ [(i : Int)])) (i + 1) 0 := ⟨q1.len, q1.rng, fun c hc => by have := q1.bd c hc; omega, fun p hp0 hp => by
              by_cases e : p = (i : Int)
              · subst e
                exact ⟨fun c hc => q3 c (hkids c hc).1 _ (hcur c hc), fun _ => q2⟩
              · exact q1.done p hp0 (by omega)⟩
            obtain ⟨y, hy, hok⟩ := ih (i + 1) k _ (by omega) (by omega) hnext
            refine ⟨y, ?_, hok⟩
            rw [if_pos o, if_pos a, if_pos b, if_pos c, if_pos (by rw [hu.len]; exact dd), if_pos (by have := hu.bd _ c; show (rowAt x (ruleAt R (nodeAt G (i : Int)).f2).f1).length < _; omega), w64p _ (by omega), show (i : Int) + 1 = ((i + 1 : Nat) : Int) by omega]
            exact hy
          · have hnext : Usr R G x (i + 1) 0 := ⟨hu.len, hu.rng, fun c hc => by have := hu.bd c hc; omega, fun p hp0 hp => by
              by_cases e : p = (i : Int)
              · subst e
                exact ⟨hcur, fun o' => absurd o' o⟩
              · exact hu.done p hp0 (by omega)⟩
            obtain ⟨y, hy, hok⟩ := ih (i + 1) k _ (by omega) (by omega) hnext
            refine ⟨y, ?_, hok⟩
            rw [if_neg o, w64p _ (by omega), show (i : Int) + 1 = ((i + 1 : Nat) : Int) by omega]
            exact hy
        | succ e ihe =>
          intro j k x hj hk hu hcur
          obtain ⟨k, rfl⟩ : ∃ m, k = m + 1 := ⟨k - 1, by omega⟩
          have hjl : j < (nodeAt G (i : Int)).f1.length := by omega
          have er : rd (nodeAt G (i : Int)).f1 (j : Int) = (nodeAt G (i : Int)).f1[j] := by
            unfold rd
            rw [List.getD_eq_getElem?_getD, Int.toNat_natCast, List.getElem?_eq_getElem hjl]
            rfl
          have hc := hkids _ (List.getElem_mem hjl)
          rw [← er] at hc
          obtain ⟨q1, q2, q3⟩ := hu.add hf (by omega) _ hc.1 hc.2
          obtain ⟨y, hy, hok⟩ := ihe (j + 1) k _ (by omega) (by omega) q1 (fun c hc => by
            rw [List.take_succ_eq_append_getElem hjl, List.mem_append, List.mem_singleton] at hc
            rcases hc with hc | rfl
            · exact q3 c (hkids c (List.mem_of_mem_take hc)).1 _ (hcur c hc)
            · rw [← er]; exact q2)
          refine ⟨y, ?_, hok⟩
          rw [flow_users.l1, if_pos (by omega), if_pos (by omega), if_pos (by omega), if_pos hc.1, if_pos (by rw [hu.len]; exact hc.2), if_pos (by have := hu.bd _ hc.1; show (rowAt x _).length < _; omega), w64p _ (by omega), show (j : Int) + 1 = ((j + 1 : Nat) : Int) by omega]
          exact hy
      obtain ⟨y, hy, hok⟩ := l1 (nodeAt G (i : Int)).f1.length 0 k x (by omega) (by omega) hu (by simp)
      refine ⟨y, ?_, hok⟩
      rw [flow_users.l0, if_pos (by omega), if_pos (by omega), if_pos (by omega)]
      exact hy
  have nil : ∀ c : Int, rowAt (List.replicate G.length []) c = [] := fun c => by
    show (List.replicate G.length []).getD c.toNat [] = []
    rw [List.getD_eq_getElem?_getD, List.getElem?_replicate]
    split <;> rfl
  obtain ⟨y, hy, hok⟩ := l0 G.length 0 k (List.replicate G.length []) (by omega) (by omega) ⟨by simp, fun c _ y hy => (by rw [nil] at hy; cases hy), fun c _ => (by rw [nil]; simp), fun p h0 h1 => by omega⟩
  refine ⟨y, ?_, hok⟩
  unfold flow_users.f
  rw [if_pos (by omega), if_pos (by omega), show ((G.length : Int) : Int).toNat = G.length by omega]
  exact hy
def QInv (n : Nat) (l : List Int) (b : List Bool) : Prop := b.length = n ∧ l.Nodup ∧ ∀ x : Int, x ∈ l ↔ (0 ≤ x ∧ x < (n : Int) ∧ rdOf false b x = true)
theorem pigI : ∀ (n : Nat) (l : List Int), l.Nodup → (∀ s ∈ l, 0 ≤ s ∧ s < (n : Int)) → l.length ≤ n
  | 0, [], _, _ => Nat.le_refl _
  | 0, s :: l, _, h => by have := h s (by simp); omega
  | n + 1, l, hd, h => by
    have h1 := pigI n (l.erase (n : Int)) (hd.erase _) (fun s hs => by
      have hm := (hd.mem_erase_iff).1 hs
      have := h s hm.2
      have := hm.1
      omega)
    rw [List.length_erase] at h1
    split at h1 <;> omega
theorem QInv.le {n : Nat} {l : List Int} {b : List Bool} (h : QInv n l b) : l.length ≤ n := pigI n l h.2.1 (fun s hs => by have := (h.2.2 s).1 hs; exact ⟨this.1, this.2.1⟩)
theorem mark_set (b : List Bool) (i : Int) (v : Bool) (h0 : 0 ≤ i) (h1 : i < (b.length : Int)) (x : Int) (hx : 0 ≤ x) : rdOf false (b.set i.toNat v) x = if i = x then v else rdOf false b x := by
  unfold rdOf
  rw [List.getD_eq_getElem?_getD, List.getD_eq_getElem?_getD, List.getElem?_set]
  by_cases h : i = x
  · subst h; rw [if_pos rfl, if_pos rfl, if_pos (by omega)]; rfl
  · rw [if_neg h, if_neg (by omega)]
theorem QInv.add {n : Nat} {l l' : List Int} {b : List Bool} {i : Int} (h : QInv n l b) (h0 : 0 ≤ i) (h1 : i < (n : Int)) (hp : if rdOf false b i = true then l'.Perm l else l'.Perm (l ++ [i])) : QInv n l' (b.set i.toNat true) ∧ i ∈ l' ∧ ∀ y ∈ l, y ∈ l' := by
  obtain ⟨hb, hd, hm⟩ := h
  have hs := fun x hx => mark_set b i true h0 (by omega) x hx
  by_cases c : rdOf false b i = true
  · rw [if_pos c] at hp
    have hil : i ∈ l := (hm i).2 ⟨h0, h1, c⟩
    refine ⟨⟨by rw [List.length_set]; exact hb, hp.nodup_iff.2 hd, fun x => ?_⟩, hp.mem_iff.2 hil, fun y hy => hp.mem_iff.2 hy⟩
    rw [hp.mem_iff, hm x]
    refine ⟨fun ⟨a, b', c'⟩ => ⟨a, b', ?_⟩, fun ⟨a, b', c'⟩ => ⟨a, b', ?_⟩⟩
    · rw [hs x a]; split
      · rfl
      · exact c'
    · rw [hs x a] at c'
      split at c'
      · rename_i e; rw [← e]; exact c
      · exact c'
  · rw [if_neg c] at hp
    have hil : i ∉ l := fun hi => c ((hm i).1 hi).2.2
    refine ⟨⟨by rw [List.length_set]; exact hb, hp.nodup_iff.2 (List.nodup_append.2 ⟨hd, by simp, fun a ha b' hb' e => by obtain rfl := List.mem_singleton.1 hb'; subst e; exact hil ha⟩), fun x => ?_⟩, hp.mem_iff.2 (by simp), fun y hy => hp.mem_iff.2 (List.mem_append_left _ hy)⟩
    rw [hp.mem_iff, List.mem_append, List.mem_singleton, hm x]
    constructor
    · rintro (⟨a, b', c'⟩ | rfl)
      · refine ⟨a, b', ?_⟩
        rw [hs x a]; split
        · rfl
        · exact c'
      · exact ⟨h0, h1, by rw [hs x h0, if_pos rfl]⟩
    · rintro ⟨a, b', c'⟩
      rw [hs x a] at c'
      split at c'
      · rename_i e; exact .inr e.symm
      · exact .inl ⟨a, b', c'⟩
theorem QInv.pop {n : Nat} {l l' : List Int} {b : List Bool} {x : Int} (h : QInv n l b) (hp : (x :: l').Perm l) : QInv n l' (b.set x.toNat false) ∧ 0 ≤ x ∧ x < (n : Int) := by
  obtain ⟨hb, hd, hm⟩ := h
  have hx := (hm x).1 (hp.mem_iff.1 (by simp))
  have hd' := hp.nodup_iff.2 hd
  rw [List.nodup_cons] at hd'
  refine ⟨⟨by rw [List.length_set]; exact hb, hd'.2, fun y => ?_⟩, hx.1, hx.2.1⟩
  have hs := fun y hy => mark_set b x false hx.1 (by omega) y hy
  constructor
  · intro hy
    have h1 := (hm y).1 (hp.mem_iff.1 (List.mem_cons_of_mem _ hy))
    refine ⟨h1.1, h1.2.1, ?_⟩
    rw [hs y h1.1, if_neg (fun e : x = y => hd'.1 (by rw [e]; exact hy))]
    exact h1.2.2
  · rintro ⟨a, b', c'⟩
    rw [hs y a] at c'
    split at c'
    · cases c'
    · rename_i e
      have := hp.mem_iff.2 ((hm y).2 ⟨a, b', c'⟩)
      rcases List.mem_cons.1 this with r | r
      · exact absurd r.symm e
      · exact r
theorem p_congr {R : List RuleT} {l m : List FactT} {nd : NodeT} (hk : ∀ c ∈ nd.f1, Qz l c = Qz m c) (hr : nd.f0 = 2 → Qz l (ruleAt R nd.f2).f1 = Qz m (ruleAt R nd.f2).f1) (h1 : 5 ≤ nd.f0 → 0 < nd.f1.length) (h9 : 0 ≤ nd.f0) : Ql1.p R l nd = Ql1.p R m nd := by
  have sq : ∀ (cs : List Int), (∀ c ∈ cs, Qz l c = Qz m c) → ∀ n e f al, Ql1.seqF l cs n e f al = Ql1.seqF m cs n e f al := by
    intro cs
    induction cs with
    | nil => intro _ n e f al; rfl
    | cons c cs ih =>
      intro h n e f al
      rw [Ql1.seqF, Ql1.seqF, ih (fun c hc => h c (List.mem_cons_of_mem _ hc))]
      have := h c (by simp)
      show Ql1.seqF m cs (n && (Qz l c).f0) (e || (Qz l c).f1) (f || ((Qz l c).f2 && al)) (al && ((Qz l c).f0 || (Qz l c).f1)) = _
      rw [this]
  have ch : ∀ (cs : List Int), (∀ c ∈ cs, Qz l c = Qz m c) → ∀ n e f, Ql1.choF l cs n e f = Ql1.choF m cs n e f := by
    intro cs
    induction cs with
    | nil => intro _ n e f; rfl
    | cons c cs ih =>
      intro h n e f
      rw [Ql1.choF, Ql1.choF, ih (fun c hc => h c (List.mem_cons_of_mem _ hc))]
      have := h c (by simp)
      show Ql1.choF m cs (n || ((Qz l c).f0 && f)) (e || ((Qz l c).f1 && f)) (f && (Qz l c).f2) = _
      rw [this]
  obtain ⟨op, cs, rule, s⟩ := nd
  dsimp only at hk hr h1 h9
  unfold Ql1.p
  dsimp only
  by_cases o0 : op = 0
  · rw [if_pos o0, if_pos o0]
  rw [if_neg o0, if_neg o0]
  by_cases o1 : op = 1
  · rw [if_pos o1, if_pos o1]
  rw [if_neg o1, if_neg o1]
  by_cases o2 : op = 2
  · have := hr o2
    rw [if_pos o2, if_pos o2]
    show ((Qz l (ruleAt R rule).f1).f0, (Qz l (ruleAt R rule).f1).f1, (Qz l (ruleAt R rule).f1).f2) = _
    rw [this]
  rw [if_neg o2, if_neg o2]
  by_cases o3 : op = 3
  · rw [if_pos o3, if_pos o3]; exact sq cs hk _ _ _ _
  rw [if_neg o3, if_neg o3]
  by_cases o4 : op = 4
  · rw [if_pos o4, if_pos o4]; exact ch cs hk _ _ _
  rw [if_neg o4, if_neg o4]
  have hp := h1 (by omega)
  have e : Qz l (rd cs 0) = Qz m (rd cs 0) := by
    cases cs with
    | nil => simp at hp
    | cons c cs => exact hk c (by simp)
  have e' : Qp l (rd cs 0) = Qp m (rd cs 0) := e
  rw [e']
def bot (G : List NodeT) : List FactT := List.replicate G.length z35
theorem bot_at (G : List NodeT) (i : Int) : Qz (bot G) i = z35 := by
  show (List.replicate G.length _).getD i.toNat _ = _
  rw [List.getD_eq_getElem?_getD, List.getElem?_replicate]
  split <;> rfl
theorem bot_le (G : List NodeT) (m : List FactT) (i : Int) : FLe (Qz (bot G) i) (Qz m i) := by
  rw [bot_at]
  exact ⟨fun h => absurd h (by decide), fun h => absurd h (by decide), fun h => absurd h (by decide)⟩
structure OInv (R : List RuleT) (G : List NodeT) (O : List FlowT) (l : List Int) : Prop where
  len : O.length = G.length
  up : ∀ i, FLe (Qz (O.map toR) i) (Qz (stepL R G (O.map toR)) i)
  low : ∀ m : List FactT, (∀ i, FLe (Qz (stepL R G m) i) (Qz m i)) → ∀ i, FLe (Qz (O.map toR) i) (Qz m i)
  rest : ∀ i : Int, 0 ≤ i → i < (G.length : Int) → i ∉ l → Qz (O.map toR) i = Qz (stepL R G (O.map toR)) i
theorem OInv.start (R : List RuleT) (G : List NodeT) (l : List Int) (hl : ∀ i : Int, 0 ≤ i → i < (G.length : Int) → i ∈ l) : OInv R G (List.replicate G.length z36) l := by
  have e : (List.replicate G.length z36).map toR = bot G := by rw [List.map_replicate]; rfl
  exact ⟨by simp, fun i => by rw [e]; exact bot_le G _ i, fun m _ i => by rw [e]; exact bot_le G _ i, fun i h0 h1 hn => absurd (hl i h0 h1) hn⟩
theorem OInv.same {R : List RuleT} {G : List NodeT} {O : List FlowT} {l l' : List Int} {x : Int} (h : OInv R G O l) (hp : (x :: l').Perm l) (h0 : 0 ≤ x) (h1 : x < (G.length : Int)) (he : toR (flowAt O x) = mkF (Ql1.p R (O.map toR) (nodeAt G x))) : OInv R G O l' := by
  refine ⟨h.len, h.up, h.low, fun i hi0 hi1 hn => ?_⟩
  by_cases e : i = x
  · subst e
    rw [fact_step R G _ i hi0 hi1, at_toR, he]
  · exact h.rest i hi0 hi1 (fun hm => by
      rcases List.mem_cons.1 (hp.mem_iff.2 hm) with r | r
      · exact e r
      · exact hn r)
theorem toR_set (O : List FlowT) (x : Int) (v : FlowT) (h0 : 0 ≤ x) (h1 : x < (O.length : Int)) (i : Int) (hi : 0 ≤ i) : Qz ((O.set x.toNat v).map toR) i = if x = i then toR v else Qz (O.map toR) i := by
  rw [at_toR, at_toR]
  show toR ((O.set x.toNat v).getD i.toNat _) = if x = i then toR v else toR (O.getD i.toNat _)
  rw [List.getD_eq_getElem?_getD, List.getD_eq_getElem?_getD, List.getElem?_set]
  by_cases h : x = i
  · subst h; rw [if_pos rfl, if_pos rfl, if_pos (by omega)]; rfl
  · rw [if_neg h, if_neg (by omega)]
theorem fact_neg (l : List FactT) (i : Int) : Qz l i = Qz l (i.toNat : Int) := by
  show l.getD i.toNat _ = l.getD ((i.toNat : Int).toNat) _
  rw [Int.toNat_natCast]
theorem OInv.diff {R : List RuleT} {G : List NodeT} (hf : Fit R G) {U : List (List Int)} (hU : UsersOk R G U) {O : List FlowT} {l l' l1 : List Int} {x : Int} (h : OInv R G O l) (hp : (x :: l').Perm l) (h0 : 0 ≤ x) (h1 : x < (G.length : Int)) (v : FlowT) (hv : toR v = mkF (Ql1.p R (O.map toR) (nodeAt G x)))
    (hl1 : ∀ y ∈ l', y ∈ l1) (hl2 : ∀ y ∈ rowAt U x, y ∈ l1) : OInv R G (O.set x.toNat v) l1 ∧ (v ≠ flowAt O x → cnt (O.map toR) < cnt ((O.set x.toNat v).map toR)) := by
  have hs := fun i hi => toR_set O x v h0 (by rw [h.len]; exact h1) i hi
  have hx : Qz (stepL R G (O.map toR)) x = toR v := by rw [fact_step R G _ x h0 h1, hv]
  have grow : ∀ i, FLe (Qz (O.map toR) i) (Qz ((O.set x.toNat v).map toR) i) := fun i => by
    rw [fact_neg, fact_neg ((O.set x.toNat v).map toR)]
    rw [hs _ (by omega)]
    split
    · rename_i e
      rw [← e, ← hx]
      exact h.up x
    · exact FLe.refl _
  have hst := step_mono R G grow
  refine ⟨⟨by rw [List.length_set]; exact h.len, fun i => ?_, fun m hm i => ?_, fun i hi0 hi1 hn => ?_⟩, fun hne => ?_⟩
  · rw [fact_neg ((O.set x.toNat v).map toR)]
    rw [fact_neg (stepL R G ((O.set x.toNat v).map toR))]
    rw [hs _ (by omega)]
    split
    · rename_i e
      rw [← e, ← hx]
      exact hst x
    · exact (h.up _).trans (hst _)
  · rw [fact_neg, fact_neg m, hs _ (by omega)]
    split
    · rename_i e
      rw [← e, ← hx]
      exact (step_mono R G (h.low m hm) x).trans (hm x)
    · exact h.low m hm _
  · have hnu : i ∉ rowAt U x := fun hm => hn (hl2 i hm)
    have hud := hU.2.2.2 i hi0 hi1
    have eqs : Qz (stepL R G ((O.set x.toNat v).map toR)) i = Qz (stepL R G (O.map toR)) i := by
      rw [fact_step R G _ i hi0 hi1, fact_step R G _ i hi0 hi1]
      congr 1
      refine p_congr (fun c hc => ?_) (fun o => ?_) (hf.one i hi0 hi1) (hf.op i hi0 hi1).1
      · rw [hs c (hf.kids i hi0 hi1 c hc).1, if_neg (fun e : x = c => hnu (by rw [e]; exact hud.1 c hc))]
      · rw [hs _ (hf.call i hi0 hi1 o).2.2.1, if_neg (fun e : x = _ => hnu (by rw [e]; exact hud.2 o))]
    rw [eqs, hs i hi0]
    split
    · rename_i e
      rw [← e]; exact hx.symm
    · rename_i e
      exact h.rest i hi0 hi1 (fun hm => by
        rcases List.mem_cons.1 (hp.mem_iff.2 hm) with r | r
        · exact e r.symm
        · exact hn (hl1 i r))
  · have hc := lle_cnt (a := O.map toR) (b := (O.set x.toNat v).map toR) ⟨by simp, grow⟩
    rcases Nat.lt_or_ge (cnt (O.map toR)) (cnt ((O.set x.toNat v).map toR)) with q | q
    · exact q
    · have e := hc.2 q
      have := congrArg (fun l => Qz l x) e
      have this : Qz (O.map toR) x = Qz ((O.set x.toNat v).map toR) x := this
      rw [hs x h0, if_pos rfl, at_toR] at this
      exact absurd (by have := congrArg ofR this; rw [ofR_toR, ofR_toR] at this; exact this.symm) hne
def itL (R : List RuleT) (G : List NodeT) : Nat → List FactT
  | 0 => bot G
  | t + 1 => stepL R G (itL R G t)
theorem itL_length (R : List RuleT) (G : List NodeT) : ∀ t, (itL R G t).length = G.length
  | 0 => by simp [itL, bot]
  | t + 1 => step_length R G _
theorem itL_up (R : List RuleT) (G : List NodeT) : ∀ t i, FLe (Qz (itL R G t) i) (Qz (itL R G (t + 1)) i)
  | 0, i => bot_le G _ i
  | t + 1, i => step_mono R G (itL_up R G t) i
theorem itL_low (R : List RuleT) (G : List NodeT) (m : List FactT) (hm : ∀ i, FLe (Qz (stepL R G m) i) (Qz m i)) : ∀ t i, FLe (Qz (itL R G t) i) (Qz m i)
  | 0, i => bot_le G _ i
  | t + 1, i => (step_mono R G (itL_low R G m hm t) i).trans (hm i)
theorem itL_cnt (R : List RuleT) (G : List NodeT) : ∀ t, (itL R G (t + 1) = itL R G t) ∨ t + 1 ≤ cnt (itL R G (t + 1)) := by
  intro t
  induction t with
  | zero =>
    have h := lle_cnt (a := itL R G 0) (b := itL R G (0 + 1)) ⟨by rw [itL_length, itL_length], itL_up R G 0⟩
    by_cases e : itL R G (0 + 1) = itL R G 0
    · exact .inl e
    · refine .inr ?_
      rcases Nat.lt_or_ge (cnt (itL R G 0)) (cnt (itL R G (0 + 1))) with q | q
      · exact Nat.lt_of_le_of_lt (Nat.zero_le _) q
      · exact absurd (h.2 q).symm e
  | succ t ih =>
    have h := lle_cnt (a := itL R G (t + 1)) (b := itL R G (t + 1 + 1)) ⟨by rw [itL_length, itL_length], itL_up R G (t + 1)⟩
    by_cases e : itL R G (t + 1 + 1) = itL R G (t + 1)
    · exact .inl e
    · refine .inr ?_
      rcases ih with q | q
      · exact absurd (congrArg (stepL R G) q) e
      · rcases Nat.lt_or_ge (cnt (itL R G (t + 1))) (cnt (itL R G (t + 1 + 1))) with r | r
        · omega
        · exact absurd (h.2 r).symm e
def leastL (R : List RuleT) (G : List NodeT) : List FactT := itL R G (3 * G.length)
theorem leastL_fix (R : List RuleT) (G : List NodeT) : stepL R G (leastL R G) = leastL R G := by
  rcases itL_cnt R G (3 * G.length) with q | q
  · exact q
  · have := cnt_le (itL R G (3 * G.length + 1))
    rw [itL_length] at this
    omega
theorem lle_anti {a b : List FactT} (hl : a.length = b.length) (h : ∀ i, FLe (Qz a i) (Qz b i)) (h' : ∀ i, FLe (Qz b i) (Qz a i)) : a = b :=
  (lle_cnt ⟨hl, h⟩).2 (lle_cnt ⟨hl.symm, h'⟩).1
theorem least_uniq {R : List RuleT} {G : List NodeT} {L : List FactT} (hl : L.length = G.length) (hfix : ∀ i, FLe (Qz (stepL R G L) i) (Qz L i)) (hlow : ∀ m : List FactT, (∀ i, FLe (Qz (stepL R G m) i) (Qz m i)) → ∀ i, FLe (Qz L i) (Qz m i)) : L = leastL R G :=
  lle_anti (by rw [hl]; exact (itL_length R G _).symm) (hlow _ (fun i => by rw [leastL_fix]; exact FLe.refl _)) (itL_low R G L hfix _)
theorem OInv.fin {R : List RuleT} {G : List NodeT} {O : List FlowT} (h : OInv R G O []) : O = (leastL R G).map ofR := by
  have e : O.map toR = leastL R G := least_uniq (by rw [List.length_map]; exact h.len) (fun i => by
    rw [fact_neg, fact_neg (O.map toR)]
    by_cases hi : (i.toNat : Int) < (G.length : Int)
    · rw [← h.rest _ (by omega) hi (by simp)]; exact FLe.refl _
    · rw [fact_out (stepL R G (O.map toR)) _ (by rw [step_length]; omega)]
      exact ⟨fun q => absurd q (by decide), fun q => absurd q (by decide), fun q => absurd q (by decide)⟩) h.low
  rw [← e, List.map_map]
  have : ofR ∘ toR = id := rfl
  rw [this, List.map_id]
def flow_Of.f (k : Nat) (R : List RuleT) (G : List NodeT) : Option (List FlowT) := if fitB R G = true ∧ 20000 ≤ k then some ((leastL R G).map ofR) else none
theorem flow_Of.mono : ∀ R G k, LeO (flow_Of.f k R G) (flow_Of.f (k + 1) R G) := by
  intro R G k r h
  unfold flow_Of.f at h ⊢
  by_cases c : fitB R G = true ∧ 20000 ≤ k
  · rw [if_pos c] at h
    rw [if_pos ⟨c.1, by omega⟩]
    exact h
  · rw [if_neg c] at h
    cases h
end Go.Proofs.Ytnaanamibfpbpaa.V
namespace Go.Proofs.Ytnaanamibfpbpaa.V
open Go.RowKit Go.Proofs.YtnaanamibfpbpaaW.PrintWords Go.Proofs.YtnaanamibfpbpaaW.PrintLast Go.Proofs.YtnaanamibfpbpaaW.PrintMore
set_option linter.unusedVariables false
set_option linter.unusedSimpArgs false
def IsQ (base : Nat) (w : World) (g : Nat) (l : List Int) (b : List Bool) : Prop :=
  ∃ vl vb, w.heap[g]? = some (.cells #[vl, vb] 59 (0, 0)) ∧ base ≤ g ∧ w.ownsRow base 3 1 vl l.length (nums .i64 l) ∧ w.ownsRow base 4 1 vb b.length (encs Value.bool b)
theorem IsQ.below {base : Nat} {w w1 : World} {g : Nat} {l : List Int} {b : List Bool} (h : IsQ base w g l b) (hb : Below w.heap.size w w1) : IsQ base w1 g l b := by
  obtain ⟨vl, vb, h1, h2, h3, h4⟩ := h
  exact ⟨vl, vb, Qs h1 hb, h2, pw_own_below h3 hb, pw_own_below h4 hb⟩
theorem IsQ.len {base : Nat} {w : World} {g : Nat} {l : List Int} {b : List Bool} (h : IsQ base w g l b) : ∃ A c B d, w.cell? ⟨g, 0, none⟩ = some (.slice A l.length c) ∧ w.cell? ⟨g, 1, none⟩ = some (.slice B b.length d) := by
  obtain ⟨vl, vb, h1, h2, h3, h4⟩ := h
  obtain ⟨A, c, rfl⟩ := own_slice h3
  obtain ⟨B, d, rfl⟩ := own_slice h4
  exact ⟨A, c, B, d, (Qe h1 0).trans rfl, (Qe h1 1).trans rfl⟩
theorem IsQ.form {base : Nat} {w : World} {g : Nat} {l : List Int} {b : List Bool} (h : IsQ base w g l b) (hl : 0 < l.length) : ∃ gl c vb, w.heap[g]? = some (.cells #[.slice (some ⟨gl, 0, none⟩) l.length c, vb] 59 (0, 0)) ∧ base ≤ g ∧ base ≤ gl ∧ gl ≠ g ∧
    w.ownsRow base 3 1 (.slice (some ⟨gl, 0, none⟩) l.length c) l.length (nums .i64 l) ∧ w.ownsRow base 4 1 vb b.length (encs Value.bool b) ∧ vb.ownBlock ≠ some gl := by
  obtain ⟨vl, vb, h1, h2, h3, h4⟩ := h
  rcases h3.2 with ⟨rfl, hn⟩ | ⟨gl, cap, cur, rfl, hb, hh, _⟩
  · omega
  · refine ⟨gl, cap, vb, h1, h2, hb, blk_ne hh h1 (by decide), h3, h4, fun e => ?_⟩
    rcases own_type_ne h4 h3 (by decide) with e1 | e1
    · rw [e1] at e; cases e
    · exact e1 (by rw [e]; rfl)
set_option maxHeartbeats 1000000 in
theorem queue_Len {base : Nat} {w : World} {g : Nat} {l : List Int} {b : List Bool} (h : IsQ base w g l b) :
    Calls Try.prog 24 #[.pointer (some ⟨g, 0, none⟩)] w fun e w' => e = .returned (.int .i64 (l.length : Int)) ∧ w' = w := by
  obtain ⟨A, c, B, d, x0, x1⟩ := h.len
  clear h
  go_enter Try.func24, Try.ntmps24
  go_wp2
  go_ret
  exact ⟨rfl, rfl⟩
set_option maxHeartbeats 1000000 in
theorem queue_Less {base : Nat} {w : World} {g : Nat} {l : List Int} {b : List Bool} (h : IsQ base w g l b) (i k : Int) (hi0 : 0 ≤ i) (hi : i < (l.length : Int)) (hk0 : 0 ≤ k) (hk : k < (l.length : Int)) :
    Calls Try.prog 59 #[.pointer (some ⟨g, 0, none⟩), .int .i64 i, .int .i64 k] w fun e w' => e = .returned (.bool (decide (rd l i < rd l k))) ∧ Drawn0 w w' := by
  obtain ⟨gl, c, vb, h1, h2, h3, h4, h5, h6, h7⟩ := h.form (by omega)
  have x0 : w.cell? ⟨g, 0, none⟩ = some (.slice (some ⟨gl, 0, none⟩) l.length c) := (Qe h1 0).trans rfl
  have y0 := (own_at h5 i hi0 hi).1
  have y1 := (own_at h5 k hk0 hk).1
  replace hi0 := eq_true hi0
  replace hk0 := eq_true hk0
  replace hi := eq_true hi
  replace hk := eq_true hk
  clear h h1 h2 h3 h4 h5 h6 h7
  go_enter Try.func59, Try.ntmps59
  go_wp2
  go_quiet (fail)
  go_wp2
  go_ret
  exact ⟨rfl, by repeat (first | exact Drawn0.refl _ | apply Drawn0.step)⟩
theorem IsQ.put {base : Nat} {w1 : World} {g gb d : Nat} {l' : List Int} {b : List Bool} {vl v1 : Value} (hb : w1.heap[g]? = some (.cells #[vl, .slice (some ⟨gb, 0, none⟩) b.length d] 59 (0, 0))) (hg : base ≤ g)
    (h1 : w1.ownsRow base 3 1 v1 l'.length (nums .i64 l')) (h2 : w1.ownsRow base 4 1 (.slice (some ⟨gb, 0, none⟩) b.length d) b.length (encs Value.bool b)) (hgb : gb ≠ g) (i : Int) (x : Bool) :
    IsQ base ((w1.setCell ⟨g, 0, none⟩ v1).setCell ⟨gb, i.toNat, none⟩ (.bool x)) g l' (b.set i.toNat x) := by
  have n1 : some g ≠ v1.ownBlock := own_ne h1 hb (by decide)
  have n2 : some gb ≠ v1.ownBlock := fun e => by
    rcases own_type_ne h1 h2 (by decide) with q | q
    · rw [q] at e; cases e
    · exact q (by rw [← e]; rfl)
  refine ⟨v1, .slice (some ⟨gb, 0, none⟩) b.length d, ?_, hg, ?_, ?_⟩
  · exact Qn (Qt hb 0 v1 rfl) hgb.symm _
  · exact own_setCell (own_setCell h1 n1 _) n2 _
  · have q := own_put_of (enc := Value.bool) (own_setCell (p := ⟨g, 0, none⟩) h2 (fun e => hgb (by simpa [Value.ownBlock] using e.symm)) v1) i x
    exact q
theorem IsQ.marks {base : Nat} {w : World} {g : Nat} {l : List Int} {b : List Bool} (h : IsQ base w g l b) (hl : 0 < b.length) : ∃ vl gb d, w.heap[g]? = some (.cells #[vl, .slice (some ⟨gb, 0, none⟩) b.length d] 59 (0, 0)) ∧ base ≤ g ∧ base ≤ gb ∧ gb ≠ g ∧
    w.ownsRow base 3 1 vl l.length (nums .i64 l) ∧ w.ownsRow base 4 1 (.slice (some ⟨gb, 0, none⟩) b.length d) b.length (encs Value.bool b) ∧ vl.ownBlock ≠ some gb := by
  obtain ⟨vl, vb, h1, h2, h3, h4⟩ := h
  rcases h4.2 with ⟨rfl, hn⟩ | ⟨gb, cap, cur, rfl, hb, hh, _⟩
  · omega
  · refine ⟨vl, gb, cap, h1, h2, hb, blk_ne hh h1 (by decide), h3, h4, fun e => ?_⟩
    rcases own_type_ne h3 h4 (by decide) with e1 | e1
    · rw [e1] at e; cases e
    · exact e1 (by rw [e]; rfl)
end Go.Proofs.Ytnaanamibfpbpaa.V
