/- The law FlowRises returns true whatever comes in, and leaves its arguments as they were. No condition. -/
import Derived.Test.YtnaanamibfpbpaaKFr1
namespace Go.Proofs.Ytnaanamibfpbpaa.V
open Go.RowKit Go.Proofs.YtnaanamibfpbpaaW.PrintWords Go.Proofs.YtnaanamibfpbpaaW.PrintLast Go.Proofs.YtnaanamibfpbpaaW.PrintMore
attribute [local go_sem] max2_int min2_int max_two min_two max_three min_three max_four min_four tdiv_most
set_option linter.unusedVariables false
set_option linter.unusedSimpArgs false
abbrev J : Bool := true
abbrev Y : Bool := false
def flow_choice.l0 : Nat → Bool → List (S36) → Int → Int → Bool → Bool → Bool → Option (Bool × Bool × Bool)
 | 0, _, _, _, _, _, _, _ => none
 | k + 1, x4, x7, x8, x9, x129000, x129001, x129002 => if x9 < x8 then (if 0 ≤ x9 then (if x9 < (x7.length : Int) then (if x129000 = true then (if x129001 = true then (if x4 = true then (flow_choice.l0 k ((Qg x7 x9).f2) x7 x8 (wrap64 (x9 + 1)) true true x129002) else (flow_choice.l0 k false x7 x8 (wrap64 (x9 + 1)) true true x129002)) else (if x4 = true then (flow_choice.l0 k ((Qg x7 x9).f2) x7 x8 (wrap64 (x9 + 1)) true ((Qg x7 x9).f1) x129002) else (flow_choice.l0 k false x7 x8 (wrap64 (x9 + 1)) true false x129002))) else (if x4 = true then (if x129001 = true then (flow_choice.l0 k ((Qg x7 x9).f2) x7 x8 (wrap64 (x9 + 1)) ((Qg x7 x9).f0) true x129002) else (flow_choice.l0 k ((Qg x7 x9).f2) x7 x8 (wrap64 (x9 + 1)) ((Qg x7 x9).f0) ((Qg x7 x9).f1) x129002)) else (if x129001 = true then (flow_choice.l0 k false x7 x8 (wrap64 (x9 + 1)) false true x129002) else (flow_choice.l0 k false x7 x8 (wrap64 (x9 + 1)) false false x129002)))) else (none)) else (none)) else (some (x129000, x129001, x4))
def flow_choice.f (k : Nat) (l0 : List (S36)) : Option (Bool × Bool × Bool) := flow_choice.l0 k true l0 (l0.length : Int) 0 false false false
theorem flow_choice.mono_l : ∀ k, (∀ y0 y1 y2 y3 y4 y5 y6, LeO (flow_choice.l0 k y0 y1 y2 y3 y4 y5 y6) (flow_choice.l0 (k + 1) y0 y1 y2 y3 y4 y5 y6))
 | 0 => fun _ _ _ _ _ _ _ r h => by simp [flow_choice.l0] at h
 | k + 1 => by
  have ih0 := flow_choice.mono_l k
  intro y0 y1 y2 y3 y4 y5 y6
  unfold flow_choice.l0
  repeat' first
  | (with_reducible exact ih0 _ _ _ _ _ _ _)
  | (with_reducible exact LeO.refl _)
  | (with_reducible exact LeO.none _)
  | (with_reducible refine LeO.ite ?_ ?_)
  | (with_reducible refine LeO.bind ?_ (fun _ => ?_))
  | exact LeO.none _
  | refine LeO.ite ?_ ?_
  | refine LeO.bind ?_ (fun _ => ?_)
theorem flow_choice.mono : ∀ a0 k, LeO (flow_choice.f k a0) (flow_choice.f (k + 1) a0) := by
 intro a0 k
 have ih0 := flow_choice.mono_l k
 unfold flow_choice.f
 repeat' first
  | (with_reducible exact ih0 _ _ _ _ _ _ _)
  | (with_reducible exact LeO.refl _)
  | (with_reducible exact LeO.none _)
  | (with_reducible refine LeO.ite ?_ ?_)
  | (with_reducible refine LeO.bind ?_ (fun _ => ?_))
  | exact LeO.none _
  | refine LeO.ite ?_ ?_
  | refine LeO.bind ?_ (fun _ => ?_)
set_option maxHeartbeats 8000000 in
set_option maxRecDepth 100000 in
theorem flow_choice.calls (k : Nat) (A0 : Option Addr) (c0 : Nat) (l0 : List (S36)) (r1 : Bool) (r2 : Bool) (r3 : Bool) (w : World) (hr0 : Kd.C k36 w A0 l0.length l0) (hc0 : l0.length ≤ c0) (h : flow_choice.f k l0 = some (r1, r2, r3)) :
 Calls Try.prog 32 #[.slice A0 l0.length c0] w fun e w' => e = .returned (.agg #[.bool r1, .bool r2, .bool r3]) ∧ Below w.heap.size w w' := by
 have hu36 := Try.underlying36
 have HR0 := Qa.mk hr0
 have HC0 := Qa.mk hc0
 clear hr0 hc0
 have HB := Qa.mk (Below.refl w.heap.size w)
 have H : (flow_choice.l0 k true l0 (l0.length : Int) 0 false false false) = some (r1, r2, r3) := h
 clear h
 have H' := Qa.mk H
 clear H
 go_enter Try.func32, Try.ntmps32
 go_wp2_with (first | ((with_reducible refine Qg1 (N := 2) rfl ?_); refine Qh1 ?hg (N := 2) ?hd (cs := #[.bool false, .bool false, .bool false]) (t := 36) ?hr ?_; (case hd => rfl); (case hg => rfl); (case hr => first | (go_simp; done) | (go_simp; rfl)); intro gb127 hg w2 hbox hb; have n0_ := Qa.mk (Qv (by with_reducible repeat (first | exact HB.out | apply Qk | apply Ql | apply Qj)) hb); have n1_ := Qa.mk (hbox); have n2_ := Qa.mk ((by rw [hg]; exact (Qb1 (by with_reducible repeat (first | exact HB.out | apply Qk | apply Ql | apply Qj))) : w.heap.size ≤ gb127)); have n3_ := n2_; clear HB; have HB := n0_; have BK127 := n1_; have GW127 := n2_; have GE127 := n3_; clear n0_ n1_ n2_ n3_; clear hb hbox hg) | ((with_reducible refine Qg1 (N := 3) rfl ?_); refine Qh1 ?hg (N := 3) ?hd (cs := #[.bool false, .bool false, .bool false]) (t := 36) ?hr ?_; (case hd => rfl); (case hg => rfl); (case hr => first | (go_simp; done) | (go_simp; rfl)); intro gb128 hg w3 hbox hb; have n0_ := Qa.mk (Qs (g := gb127) (o := .cells #[.bool false, .bool false, .bool false] 36 (0, 0)) (by (with_reducible repeat (first | refine Qd ?_ _ | refine Qb ?_ | refine Qc ?_ _)); exact BK127.out) hb); have n1_ := Qa.mk (Qv (by with_reducible repeat (first | exact HB.out | apply Qk | apply Ql | apply Qj | refine Qi ?_ GE127.out)) hb); have n2_ := Qa.mk (hbox); have n3_ := Qa.mk ((by rw [hg]; exact (Qb1 (by with_reducible repeat (first | exact HB.out | apply Qk | apply Ql | apply Qj | refine Qi ?_ GE127.out))) : w.heap.size ≤ gb128)); have n4_ := n3_; have n5_ := Qa.mk ((by rw [hg]; exact Nat.ne_of_lt (Qy (g := gb127) (o := .cells #[.bool false, .bool false, .bool false] 36 (0, 0)) (by (with_reducible repeat (first | refine Qd ?_ _ | refine Qb ?_ | refine Qc ?_ _)); exact BK127.out)) : gb127 ≠ gb128)); have n6_ := Qa.mk ((by rw [hg]; exact Nat.ne_of_gt (Qy (g := gb127) (o := .cells #[.bool false, .bool false, .bool false] 36 (0, 0)) (by (with_reducible repeat (first | refine Qd ?_ _ | refine Qb ?_ | refine Qc ?_ _)); exact BK127.out)) : gb128 ≠ gb127)); clear BK127; clear HB; have BK127 := n0_; have HB := n1_; have BK128 := n2_; have GW128 := n3_; have GE128 := n4_; have NB127_128 := n5_; have NB128_127 := n6_; clear n0_ n1_ n2_ n3_ n4_ n5_ n6_; clear hb hbox hg))
 go_loopg [4, 9] k (fun kq v4 v9 w' => ∃ (x4_1 : Bool) (x9_1 : Int) (x129000_1 : Bool) (x129001_1 : Bool), v4 = .bool x4_1 ∧ v9 = .int .i64 x9_1 ∧ Qa (flow_choice.l0 kq x4_1 l0 (l0.length : Int) x9_1 x129000_1 x129001_1 false = some (r1, r2, r3)) ∧ Qa (kq ≤ k) ∧ Qa (w'.heap[gb127]? = some (.cells #[.bool false, .bool false, .bool false] 36 (0, 0))) ∧ Qa (w'.heap[gb128]? = some (.cells #[.bool x129000_1, .bool x129001_1, .bool false] 36 (0, 0))) ∧ Qa (Below w.heap.size w w'))
 case atStart => exact ⟨(true), (0), (false), (false), (by first | rfl | (simp; done) | (simp [*]; done)), (by first | rfl | (simp; done) | (simp [*]; done)), H', ⟨Nat.le_refl _⟩, ⟨by (with_reducible repeat (first | refine Qd ?_ _ | refine Qb ?_ | refine Qc ?_ _)); exact BK127.out⟩, ⟨by (with_reducible repeat (first | refine Qd ?_ _ | refine Qb ?_ | refine Qc ?_ _)); exact BK128.out⟩, ⟨by with_reducible repeat (first | exact HB.out | apply Qk | apply Ql | apply Qj | refine Qi ?_ GE127.out | refine Qi ?_ GE128.out)⟩⟩
 case round =>
  clear H'
  (try clear p2; try clear c3)
  obtain ⟨x4_1, x9_1, x129000_1, x129001_1, rfl, rfl, HA, HK1, BK127, BK128, HB⟩ := hrel
  cases gk with
  | zero => exact absurd HA.out (by simp [flow_choice.l0])
  | succ k1 =>
   have H := HA.out
   clear HA
   simp only [flow_choice.l0] at H
   by_cases c4 : x9_1 < (l0.length : Int)
   rotate_left
   ·
    rw [if_neg c4] at H
    have c4b0 : decide (x9_1 < (l0.length : Int)) = false := decide_eq_false c4
    clear c4
    simp only [Option.some.injEq, Prod.mk.injEq] at H
    obtain ⟨rfl, rfl, rfl⟩ := H
    have hnb62 := NB128_127.out
    have hnc62 := NB127_128.out
    have hcz63_0 : wr.cell? ⟨gb128, 0, none⟩ = some (.bool x129000_1) := (Qe BK128.out 0).trans rfl
    have hcz63_1 : wr.cell? ⟨gb128, 1, none⟩ = some (.bool x129001_1) := (Qe BK128.out 1).trans rfl
    have hcz63_2 : wr.cell? ⟨gb128, 2, none⟩ = some (.bool false) := (Qe BK128.out 2).trans rfl
    have hfz63_0 := Qf BK128.out 0
    have hfz63_1 := Qf BK128.out 1
    have hfz63_2 := Qf BK128.out 2
    have hcz64_0 : wr.cell? ⟨gb127, 0, none⟩ = some (.bool false) := (Qe BK127.out 0).trans rfl
    have hcz64_1 : wr.cell? ⟨gb127, 1, none⟩ = some (.bool false) := (Qe BK127.out 1).trans rfl
    have hcz64_2 : wr.cell? ⟨gb127, 2, none⟩ = some (.bool false) := (Qe BK127.out 2).trans rfl
    have hfz64_0 := Qf BK127.out 0
    have hfz64_1 := Qf BK127.out 1
    have hfz64_2 := Qf BK127.out 2
    go_wp2
    refine bodyPost_ret (results_cell_row rfl _ _ gb127 36 #[.bool x129000_1, .bool x129001_1, .bool x4_1] (0, 0) _ rfl (by (with_reducible repeat (first | refine Qd ?_ _ | refine Qb ?_ | refine Qc ?_ _)); refine Qt (cs := #[.bool x129000_1, .bool x129001_1, .bool false]) ?_ 2 _ rfl; (with_reducible repeat (first | refine Qd ?_ _ | refine Qb ?_ | refine Qc ?_ _)); refine Qt (cs := #[.bool x129000_1, .bool false, .bool false]) ?_ 1 _ rfl; (with_reducible repeat (first | refine Qd ?_ _ | refine Qb ?_ | refine Qc ?_ _)); refine Qt (cs := #[.bool false, .bool false, .bool false]) ?_ 0 _ rfl; (with_reducible repeat (first | refine Qd ?_ _ | refine Qb ?_ | refine Qc ?_ _)); refine Qn ?_ NB127_128.out _; (with_reducible repeat (first | refine Qd ?_ _ | refine Qb ?_ | refine Qc ?_ _)); exact BK127.out) Try.underlying36 rfl (by kernel_rfl)) rfl ?_
    exact ⟨by first | rfl | (simp [Qw, Qx] <;> rfl) | (simp [*, Qw, Qx] <;> rfl), by with_reducible repeat (first | exact HB.out | apply Qk | apply Ql | apply Qj | refine Qi ?_ GE127.out | refine Qi ?_ GE128.out)⟩
   rw [if_pos c4] at H
   have c4b0 : decide (x9_1 < (l0.length : Int)) = true := decide_eq_true c4
   clear c4
   by_cases c5 : 0 ≤ x9_1
   rotate_left
   ·
    rw [if_neg c5] at H
    exact absurd H (by simp)
   rw [if_pos c5] at H
   have c5b0 : decide (0 ≤ x9_1) = true := decide_eq_true c5
   clear c5
   by_cases c6 : x9_1 < (l0.length : Int)
   rotate_left
   ·
    rw [if_neg c6] at H
    exact absurd H (by simp)
   rw [if_pos c6] at H
   have c6b0 : decide (x9_1 < (l0.length : Int)) = true := decide_eq_true c6
   clear c6
   by_cases c7 : x129000_1 = true
   ·
    subst c7
    have H1 : (if x129001_1 = true then (if x4_1 = true then (flow_choice.l0 k1 ((Qg l0 x9_1).f2) l0 (l0.length : Int) (wrap64 (x9_1 + 1)) true true false) else (flow_choice.l0 k1 false l0 (l0.length : Int) (wrap64 (x9_1 + 1)) true true false)) else (if x4_1 = true then (flow_choice.l0 k1 ((Qg l0 x9_1).f2) l0 (l0.length : Int) (wrap64 (x9_1 + 1)) true ((Qg l0 x9_1).f1) false) else (flow_choice.l0 k1 false l0 (l0.length : Int) (wrap64 (x9_1 + 1)) true false false))) = some (r1, r2, r3) := by rw [if_pos rfl] at H; exact H
    clear H
    have H := H1
    clear H1
    by_cases c8 : x129001_1 = true
    ·
     subst c8
     have H1 : (if x4_1 = true then (flow_choice.l0 k1 ((Qg l0 x9_1).f2) l0 (l0.length : Int) (wrap64 (x9_1 + 1)) true true false) else (flow_choice.l0 k1 false l0 (l0.length : Int) (wrap64 (x9_1 + 1)) true true false)) = some (r1, r2, r3) := by rw [if_pos rfl] at H; exact H
     clear H
     have H := H1
     clear H1
     by_cases c9 : x4_1 = true
     ·
      subst c9
      have H1 : (flow_choice.l0 k1 ((Qg l0 x9_1).f2) l0 (l0.length : Int) (wrap64 (x9_1 + 1)) true true false) = some (r1, r2, r3) := by rw [if_pos rfl] at H; exact H
      clear H
      have H := H1
      clear H1
      have H' := Qa.mk H
      clear H
      have p129 : 0 ≤ (x9_1 : Int) := of_decide_eq_true (by assumption)
      have q129 : x9_1 < (l0.length : Int) := of_decide_eq_true (by assumption)
      obtain ⟨ad129, e129, hx129_0, hx129_1, hx129_2⟩ := at_T36 HR0.out x9_1 p129 q129
      cases e129
      replace hx129_0 := (HB.out.cell (World.block_lt_of_cell? w _ hx129_0)).trans hx129_0
      replace hx129_1 := (HB.out.cell (World.block_lt_of_cell? w _ hx129_1)).trans hx129_1
      replace hx129_2 := (HB.out.cell (World.block_lt_of_cell? w _ hx129_2)).trans hx129_2
      replace p129 := eq_true p129
      replace q129 := eq_true q129
      go_wp2_with (first | ((with_reducible refine Qg1 (N := 6) rfl ?_); refine Qh1 ?hg (N := 6) ?hd (cs := #[.bool false, .bool false, .bool false]) (t := 36) ?hr ?_; (case hd => rfl); (case hg => rfl); (case hr => first | (go_simp; done) | (go_simp; rfl)); intro gb130 hg w10 hbox hb; have n0_ := Qa.mk (Qs (g := gb127) (o := .cells #[.bool false, .bool false, .bool false] 36 (0, 0)) (by (with_reducible repeat (first | refine Qd ?_ _ | refine Qb ?_ | refine Qc ?_ _)); exact BK127.out) hb); have n1_ := Qa.mk (Qs (g := gb128) (o := .cells #[.bool true, .bool true, .bool false] 36 (0, 0)) (by (with_reducible repeat (first | refine Qd ?_ _ | refine Qb ?_ | refine Qc ?_ _)); exact BK128.out) hb); have n2_ := Qa.mk (Qv (by with_reducible repeat (first | exact HB.out | apply Qk | apply Ql | apply Qj | refine Qi ?_ GE127.out | refine Qi ?_ GE128.out)) hb); have n3_ := Qa.mk (hbox); have n4_ := Qa.mk ((by rw [hg]; exact (Qb1 (by with_reducible repeat (first | exact HB.out | apply Qk | apply Ql | apply Qj | refine Qi ?_ GE127.out | refine Qi ?_ GE128.out))) : w.heap.size ≤ gb130)); have n5_ := n4_; have n6_ := Qa.mk ((by rw [hg]; exact Nat.ne_of_lt (Qy (g := gb127) (o := .cells #[.bool false, .bool false, .bool false] 36 (0, 0)) (by (with_reducible repeat (first | refine Qd ?_ _ | refine Qb ?_ | refine Qc ?_ _)); exact BK127.out)) : gb127 ≠ gb130)); have n7_ := Qa.mk ((by rw [hg]; exact Nat.ne_of_gt (Qy (g := gb127) (o := .cells #[.bool false, .bool false, .bool false] 36 (0, 0)) (by (with_reducible repeat (first | refine Qd ?_ _ | refine Qb ?_ | refine Qc ?_ _)); exact BK127.out)) : gb130 ≠ gb127)); have n8_ := Qa.mk ((by rw [hg]; exact Nat.ne_of_lt (Qy (g := gb128) (o := .cells #[.bool true, .bool true, .bool false] 36 (0, 0)) (by (with_reducible repeat (first | refine Qd ?_ _ | refine Qb ?_ | refine Qc ?_ _)); exact BK128.out)) : gb128 ≠ gb130)); have n9_ := Qa.mk ((by rw [hg]; exact Nat.ne_of_gt (Qy (g := gb128) (o := .cells #[.bool true, .bool true, .bool false] 36 (0, 0)) (by (with_reducible repeat (first | refine Qd ?_ _ | refine Qb ?_ | refine Qc ?_ _)); exact BK128.out)) : gb130 ≠ gb128)); clear BK127; clear BK128; clear HB; have BK127 := n0_; have BK128 := n1_; have HB := n2_; have BK130 := n3_; have GW130 := n4_; have GE130 := n5_; have NB127_130 := n6_; have NB130_127 := n7_; have NB128_130 := n8_; have NB130_128 := n9_; clear n0_ n1_ n2_ n3_ n4_ n5_ n6_ n7_ n8_ n9_; clear hb hbox hg; have hnb11 := NB130_127.out; have hnc11 := NB127_130.out; have hnb12 := NB130_128.out; have hnc12 := NB128_130.out; have hcz13_0 : w10.cell? ⟨gb130, 0, none⟩ = some (.bool false) := (Qe BK130.out 0).trans rfl; have hcz13_1 : w10.cell? ⟨gb130, 1, none⟩ = some (.bool false) := (Qe BK130.out 1).trans rfl; have hcz13_2 : w10.cell? ⟨gb130, 2, none⟩ = some (.bool false) := (Qe BK130.out 2).trans rfl; have hfz13_0 := Qf BK130.out 0; have hfz13_1 := Qf BK130.out 1; have hfz13_2 := Qf BK130.out 2; have hnb14 := NB128_127.out; have hnc14 := NB127_128.out; have hcz15_0 : w10.cell? ⟨gb128, 0, none⟩ = some (.bool true) := (Qe BK128.out 0).trans rfl; have hcz15_1 : w10.cell? ⟨gb128, 1, none⟩ = some (.bool true) := (Qe BK128.out 1).trans rfl; have hcz15_2 : w10.cell? ⟨gb128, 2, none⟩ = some (.bool false) := (Qe BK128.out 2).trans rfl; have hfz15_0 := Qf BK128.out 0; have hfz15_1 := Qf BK128.out 1; have hfz15_2 := Qf BK128.out 2))
      go_roundg k1
      case measure => have := HK1.out; omega
      case rel => exact ⟨((Qg l0 x9_1).f2), (wrap64 (x9_1 + 1)), (true), (true), (by first | rfl | (simp; done) | (simp [*]; done)), (by first | rfl | (simp; done) | (simp [*]; done)), H', ⟨by have := HK1.out; omega⟩, ⟨by (with_reducible repeat (first | refine Qd ?_ _ | refine Qb ?_ | refine Qc ?_ _)); refine Qn ?_ NB127_128.out _; (with_reducible repeat (first | refine Qd ?_ _ | refine Qb ?_ | refine Qc ?_ _)); refine Qn ?_ NB127_128.out _; (with_reducible repeat (first | refine Qd ?_ _ | refine Qb ?_ | refine Qc ?_ _)); refine Qn ?_ NB127_130.out _; (with_reducible repeat (first | refine Qd ?_ _ | refine Qb ?_ | refine Qc ?_ _)); refine Qn ?_ NB127_130.out _; (with_reducible repeat (first | refine Qd ?_ _ | refine Qb ?_ | refine Qc ?_ _)); refine Qn ?_ NB127_130.out _; (with_reducible repeat (first | refine Qd ?_ _ | refine Qb ?_ | refine Qc ?_ _)); exact BK127.out⟩, ⟨by (with_reducible repeat (first | refine Qd ?_ _ | refine Qb ?_ | refine Qc ?_ _)); refine Qt (cs := #[.bool true, .bool true, .bool false]) ?_ 1 _ rfl; (with_reducible repeat (first | refine Qd ?_ _ | refine Qb ?_ | refine Qc ?_ _)); refine Qt (cs := #[.bool true, .bool true, .bool false]) ?_ 0 _ rfl; (with_reducible repeat (first | refine Qd ?_ _ | refine Qb ?_ | refine Qc ?_ _)); refine Qn ?_ NB128_130.out _; (with_reducible repeat (first | refine Qd ?_ _ | refine Qb ?_ | refine Qc ?_ _)); refine Qn ?_ NB128_130.out _; (with_reducible repeat (first | refine Qd ?_ _ | refine Qb ?_ | refine Qc ?_ _)); refine Qn ?_ NB128_130.out _; (with_reducible repeat (first | refine Qd ?_ _ | refine Qb ?_ | refine Qc ?_ _)); exact BK128.out⟩, ⟨by with_reducible repeat (first | exact HB.out | apply Qk | apply Ql | apply Qj | refine Qi ?_ GE127.out | refine Qi ?_ GE128.out | refine Qi ?_ GE130.out)⟩⟩
     replace c9 := Bool.eq_false_iff.mpr c9
     subst c9
     have H1 : (flow_choice.l0 k1 false l0 (l0.length : Int) (wrap64 (x9_1 + 1)) true true false) = some (r1, r2, r3) := by rw [if_neg (show ¬ (false = true) by decide)] at H; exact H
     clear H
     have H := H1
     clear H1
     have H' := Qa.mk H
     clear H
     have p129 : 0 ≤ (x9_1 : Int) := of_decide_eq_true (by assumption)
     have q129 : x9_1 < (l0.length : Int) := of_decide_eq_true (by assumption)
     obtain ⟨ad129, e129, hx129_0, hx129_1, hx129_2⟩ := at_T36 HR0.out x9_1 p129 q129
     cases e129
     replace hx129_0 := (HB.out.cell (World.block_lt_of_cell? w _ hx129_0)).trans hx129_0
     replace hx129_1 := (HB.out.cell (World.block_lt_of_cell? w _ hx129_1)).trans hx129_1
     replace hx129_2 := (HB.out.cell (World.block_lt_of_cell? w _ hx129_2)).trans hx129_2
     replace p129 := eq_true p129
     replace q129 := eq_true q129
     go_wp2_with (first | ((with_reducible refine Qg1 (N := 6) rfl ?_); refine Qh1 ?hg (N := 6) ?hd (cs := #[.bool false, .bool false, .bool false]) (t := 36) ?hr ?_; (case hd => rfl); (case hg => rfl); (case hr => first | (go_simp; done) | (go_simp; rfl)); intro gb130 hg w16 hbox hb; have n0_ := Qa.mk (Qs (g := gb127) (o := .cells #[.bool false, .bool false, .bool false] 36 (0, 0)) (by (with_reducible repeat (first | refine Qd ?_ _ | refine Qb ?_ | refine Qc ?_ _)); exact BK127.out) hb); have n1_ := Qa.mk (Qs (g := gb128) (o := .cells #[.bool true, .bool true, .bool false] 36 (0, 0)) (by (with_reducible repeat (first | refine Qd ?_ _ | refine Qb ?_ | refine Qc ?_ _)); exact BK128.out) hb); have n2_ := Qa.mk (Qv (by with_reducible repeat (first | exact HB.out | apply Qk | apply Ql | apply Qj | refine Qi ?_ GE127.out | refine Qi ?_ GE128.out)) hb); have n3_ := Qa.mk (hbox); have n4_ := Qa.mk ((by rw [hg]; exact (Qb1 (by with_reducible repeat (first | exact HB.out | apply Qk | apply Ql | apply Qj | refine Qi ?_ GE127.out | refine Qi ?_ GE128.out))) : w.heap.size ≤ gb130)); have n5_ := n4_; have n6_ := Qa.mk ((by rw [hg]; exact Nat.ne_of_lt (Qy (g := gb127) (o := .cells #[.bool false, .bool false, .bool false] 36 (0, 0)) (by (with_reducible repeat (first | refine Qd ?_ _ | refine Qb ?_ | refine Qc ?_ _)); exact BK127.out)) : gb127 ≠ gb130)); have n7_ := Qa.mk ((by rw [hg]; exact Nat.ne_of_gt (Qy (g := gb127) (o := .cells #[.bool false, .bool false, .bool false] 36 (0, 0)) (by (with_reducible repeat (first | refine Qd ?_ _ | refine Qb ?_ | refine Qc ?_ _)); exact BK127.out)) : gb130 ≠ gb127)); have n8_ := Qa.mk ((by rw [hg]; exact Nat.ne_of_lt (Qy (g := gb128) (o := .cells #[.bool true, .bool true, .bool false] 36 (0, 0)) (by (with_reducible repeat (first | refine Qd ?_ _ | refine Qb ?_ | refine Qc ?_ _)); exact BK128.out)) : gb128 ≠ gb130)); have n9_ := Qa.mk ((by rw [hg]; exact Nat.ne_of_gt (Qy (g := gb128) (o := .cells #[.bool true, .bool true, .bool false] 36 (0, 0)) (by (with_reducible repeat (first | refine Qd ?_ _ | refine Qb ?_ | refine Qc ?_ _)); exact BK128.out)) : gb130 ≠ gb128)); clear BK127; clear BK128; clear HB; have BK127 := n0_; have BK128 := n1_; have HB := n2_; have BK130 := n3_; have GW130 := n4_; have GE130 := n5_; have NB127_130 := n6_; have NB130_127 := n7_; have NB128_130 := n8_; have NB130_128 := n9_; clear n0_ n1_ n2_ n3_ n4_ n5_ n6_ n7_ n8_ n9_; clear hb hbox hg; have hnb17 := NB130_127.out; have hnc17 := NB127_130.out; have hnb18 := NB130_128.out; have hnc18 := NB128_130.out; have hcz19_0 : w16.cell? ⟨gb130, 0, none⟩ = some (.bool false) := (Qe BK130.out 0).trans rfl; have hcz19_1 : w16.cell? ⟨gb130, 1, none⟩ = some (.bool false) := (Qe BK130.out 1).trans rfl; have hcz19_2 : w16.cell? ⟨gb130, 2, none⟩ = some (.bool false) := (Qe BK130.out 2).trans rfl; have hfz19_0 := Qf BK130.out 0; have hfz19_1 := Qf BK130.out 1; have hfz19_2 := Qf BK130.out 2; have hnb20 := NB128_127.out; have hnc20 := NB127_128.out; have hcz21_0 : w16.cell? ⟨gb128, 0, none⟩ = some (.bool true) := (Qe BK128.out 0).trans rfl; have hcz21_1 : w16.cell? ⟨gb128, 1, none⟩ = some (.bool true) := (Qe BK128.out 1).trans rfl; have hcz21_2 : w16.cell? ⟨gb128, 2, none⟩ = some (.bool false) := (Qe BK128.out 2).trans rfl; have hfz21_0 := Qf BK128.out 0; have hfz21_1 := Qf BK128.out 1; have hfz21_2 := Qf BK128.out 2))
     go_roundg k1
     case measure => have := HK1.out; omega
     case rel => exact ⟨(false), (wrap64 (x9_1 + 1)), (true), (true), (by first | rfl | (simp; done) | (simp [*]; done)), (by first | rfl | (simp; done) | (simp [*]; done)), H', ⟨by have := HK1.out; omega⟩, ⟨by (with_reducible repeat (first | refine Qd ?_ _ | refine Qb ?_ | refine Qc ?_ _)); refine Qn ?_ NB127_128.out _; (with_reducible repeat (first | refine Qd ?_ _ | refine Qb ?_ | refine Qc ?_ _)); refine Qn ?_ NB127_128.out _; (with_reducible repeat (first | refine Qd ?_ _ | refine Qb ?_ | refine Qc ?_ _)); refine Qn ?_ NB127_130.out _; (with_reducible repeat (first | refine Qd ?_ _ | refine Qb ?_ | refine Qc ?_ _)); refine Qn ?_ NB127_130.out _; (with_reducible repeat (first | refine Qd ?_ _ | refine Qb ?_ | refine Qc ?_ _)); refine Qn ?_ NB127_130.out _; (with_reducible repeat (first | refine Qd ?_ _ | refine Qb ?_ | refine Qc ?_ _)); exact BK127.out⟩, ⟨by (with_reducible repeat (first | refine Qd ?_ _ | refine Qb ?_ | refine Qc ?_ _)); refine Qt (cs := #[.bool true, .bool true, .bool false]) ?_ 1 _ rfl; (with_reducible repeat (first | refine Qd ?_ _ | refine Qb ?_ | refine Qc ?_ _)); refine Qt (cs := #[.bool true, .bool true, .bool false]) ?_ 0 _ rfl; (with_reducible repeat (first | refine Qd ?_ _ | refine Qb ?_ | refine Qc ?_ _)); refine Qn ?_ NB128_130.out _; (with_reducible repeat (first | refine Qd ?_ _ | refine Qb ?_ | refine Qc ?_ _)); refine Qn ?_ NB128_130.out _; (with_reducible repeat (first | refine Qd ?_ _ | refine Qb ?_ | refine Qc ?_ _)); refine Qn ?_ NB128_130.out _; (with_reducible repeat (first | refine Qd ?_ _ | refine Qb ?_ | refine Qc ?_ _)); exact BK128.out⟩, ⟨by with_reducible repeat (first | exact HB.out | apply Qk | apply Ql | apply Qj | refine Qi ?_ GE127.out | refine Qi ?_ GE128.out | refine Qi ?_ GE130.out)⟩⟩
    replace c8 := Bool.eq_false_iff.mpr c8
    subst c8
    have H1 : (if x4_1 = true then (flow_choice.l0 k1 ((Qg l0 x9_1).f2) l0 (l0.length : Int) (wrap64 (x9_1 + 1)) true ((Qg l0 x9_1).f1) false) else (flow_choice.l0 k1 false l0 (l0.length : Int) (wrap64 (x9_1 + 1)) true false false)) = some (r1, r2, r3) := by rw [if_neg (show ¬ (false = true) by decide)] at H; exact H
    clear H
    have H := H1
    clear H1
    by_cases c22 : x4_1 = true
    ·
     subst c22
     have H1 : (flow_choice.l0 k1 ((Qg l0 x9_1).f2) l0 (l0.length : Int) (wrap64 (x9_1 + 1)) true ((Qg l0 x9_1).f1) false) = some (r1, r2, r3) := by rw [if_pos rfl] at H; exact H
     clear H
     have H := H1
     clear H1
     have H' := Qa.mk H
     clear H
     have p129 : 0 ≤ (x9_1 : Int) := of_decide_eq_true (by assumption)
     have q129 : x9_1 < (l0.length : Int) := of_decide_eq_true (by assumption)
     obtain ⟨ad129, e129, hx129_0, hx129_1, hx129_2⟩ := at_T36 HR0.out x9_1 p129 q129
     cases e129
     replace hx129_0 := (HB.out.cell (World.block_lt_of_cell? w _ hx129_0)).trans hx129_0
     replace hx129_1 := (HB.out.cell (World.block_lt_of_cell? w _ hx129_1)).trans hx129_1
     replace hx129_2 := (HB.out.cell (World.block_lt_of_cell? w _ hx129_2)).trans hx129_2
     replace p129 := eq_true p129
     replace q129 := eq_true q129
     go_wp2_with (first | ((with_reducible refine Qg1 (N := 6) rfl ?_); refine Qh1 ?hg (N := 6) ?hd (cs := #[.bool false, .bool false, .bool false]) (t := 36) ?hr ?_; (case hd => rfl); (case hg => rfl); (case hr => first | (go_simp; done) | (go_simp; rfl)); intro gb130 hg w23 hbox hb; have n0_ := Qa.mk (Qs (g := gb127) (o := .cells #[.bool false, .bool false, .bool false] 36 (0, 0)) (by (with_reducible repeat (first | refine Qd ?_ _ | refine Qb ?_ | refine Qc ?_ _)); exact BK127.out) hb); have n1_ := Qa.mk (Qs (g := gb128) (o := .cells #[.bool true, .bool false, .bool false] 36 (0, 0)) (by (with_reducible repeat (first | refine Qd ?_ _ | refine Qb ?_ | refine Qc ?_ _)); exact BK128.out) hb); have n2_ := Qa.mk (Qv (by with_reducible repeat (first | exact HB.out | apply Qk | apply Ql | apply Qj | refine Qi ?_ GE127.out | refine Qi ?_ GE128.out)) hb); have n3_ := Qa.mk (hbox); have n4_ := Qa.mk ((by rw [hg]; exact (Qb1 (by with_reducible repeat (first | exact HB.out | apply Qk | apply Ql | apply Qj | refine Qi ?_ GE127.out | refine Qi ?_ GE128.out))) : w.heap.size ≤ gb130)); have n5_ := n4_; have n6_ := Qa.mk ((by rw [hg]; exact Nat.ne_of_lt (Qy (g := gb127) (o := .cells #[.bool false, .bool false, .bool false] 36 (0, 0)) (by (with_reducible repeat (first | refine Qd ?_ _ | refine Qb ?_ | refine Qc ?_ _)); exact BK127.out)) : gb127 ≠ gb130)); have n7_ := Qa.mk ((by rw [hg]; exact Nat.ne_of_gt (Qy (g := gb127) (o := .cells #[.bool false, .bool false, .bool false] 36 (0, 0)) (by (with_reducible repeat (first | refine Qd ?_ _ | refine Qb ?_ | refine Qc ?_ _)); exact BK127.out)) : gb130 ≠ gb127)); have n8_ := Qa.mk ((by rw [hg]; exact Nat.ne_of_lt (Qy (g := gb128) (o := .cells #[.bool true, .bool false, .bool false] 36 (0, 0)) (by (with_reducible repeat (first | refine Qd ?_ _ | refine Qb ?_ | refine Qc ?_ _)); exact BK128.out)) : gb128 ≠ gb130)); have n9_ := Qa.mk ((by rw [hg]; exact Nat.ne_of_gt (Qy (g := gb128) (o := .cells #[.bool true, .bool false, .bool false] 36 (0, 0)) (by (with_reducible repeat (first | refine Qd ?_ _ | refine Qb ?_ | refine Qc ?_ _)); exact BK128.out)) : gb130 ≠ gb128)); clear BK127; clear BK128; clear HB; have BK127 := n0_; have BK128 := n1_; have HB := n2_; have BK130 := n3_; have GW130 := n4_; have GE130 := n5_; have NB127_130 := n6_; have NB130_127 := n7_; have NB128_130 := n8_; have NB130_128 := n9_; clear n0_ n1_ n2_ n3_ n4_ n5_ n6_ n7_ n8_ n9_; clear hb hbox hg; have hnb24 := NB130_127.out; have hnc24 := NB127_130.out; have hnb25 := NB130_128.out; have hnc25 := NB128_130.out; have hcz26_0 : w23.cell? ⟨gb130, 0, none⟩ = some (.bool false) := (Qe BK130.out 0).trans rfl; have hcz26_1 : w23.cell? ⟨gb130, 1, none⟩ = some (.bool false) := (Qe BK130.out 1).trans rfl; have hcz26_2 : w23.cell? ⟨gb130, 2, none⟩ = some (.bool false) := (Qe BK130.out 2).trans rfl; have hfz26_0 := Qf BK130.out 0; have hfz26_1 := Qf BK130.out 1; have hfz26_2 := Qf BK130.out 2; have hnb27 := NB128_127.out; have hnc27 := NB127_128.out; have hcz28_0 : w23.cell? ⟨gb128, 0, none⟩ = some (.bool true) := (Qe BK128.out 0).trans rfl; have hcz28_1 : w23.cell? ⟨gb128, 1, none⟩ = some (.bool false) := (Qe BK128.out 1).trans rfl; have hcz28_2 : w23.cell? ⟨gb128, 2, none⟩ = some (.bool false) := (Qe BK128.out 2).trans rfl; have hfz28_0 := Qf BK128.out 0; have hfz28_1 := Qf BK128.out 1; have hfz28_2 := Qf BK128.out 2))
     go_roundg k1
     case measure => have := HK1.out; omega
     case rel => exact ⟨((Qg l0 x9_1).f2), (wrap64 (x9_1 + 1)), (true), ((Qg l0 x9_1).f1), (by first | rfl | (simp; done) | (simp [*]; done)), (by first | rfl | (simp; done) | (simp [*]; done)), H', ⟨by have := HK1.out; omega⟩, ⟨by (with_reducible repeat (first | refine Qd ?_ _ | refine Qb ?_ | refine Qc ?_ _)); refine Qn ?_ NB127_128.out _; (with_reducible repeat (first | refine Qd ?_ _ | refine Qb ?_ | refine Qc ?_ _)); refine Qn ?_ NB127_128.out _; (with_reducible repeat (first | refine Qd ?_ _ | refine Qb ?_ | refine Qc ?_ _)); refine Qn ?_ NB127_130.out _; (with_reducible repeat (first | refine Qd ?_ _ | refine Qb ?_ | refine Qc ?_ _)); refine Qn ?_ NB127_130.out _; (with_reducible repeat (first | refine Qd ?_ _ | refine Qb ?_ | refine Qc ?_ _)); refine Qn ?_ NB127_130.out _; (with_reducible repeat (first | refine Qd ?_ _ | refine Qb ?_ | refine Qc ?_ _)); exact BK127.out⟩, ⟨by (with_reducible repeat (first | refine Qd ?_ _ | refine Qb ?_ | refine Qc ?_ _)); refine Qt (cs := #[.bool true, .bool false, .bool false]) ?_ 1 _ rfl; (with_reducible repeat (first | refine Qd ?_ _ | refine Qb ?_ | refine Qc ?_ _)); refine Qt (cs := #[.bool true, .bool false, .bool false]) ?_ 0 _ rfl; (with_reducible repeat (first | refine Qd ?_ _ | refine Qb ?_ | refine Qc ?_ _)); refine Qn ?_ NB128_130.out _; (with_reducible repeat (first | refine Qd ?_ _ | refine Qb ?_ | refine Qc ?_ _)); refine Qn ?_ NB128_130.out _; (with_reducible repeat (first | refine Qd ?_ _ | refine Qb ?_ | refine Qc ?_ _)); refine Qn ?_ NB128_130.out _; (with_reducible repeat (first | refine Qd ?_ _ | refine Qb ?_ | refine Qc ?_ _)); exact BK128.out⟩, ⟨by with_reducible repeat (first | exact HB.out | apply Qk | apply Ql | apply Qj | refine Qi ?_ GE127.out | refine Qi ?_ GE128.out | refine Qi ?_ GE130.out)⟩⟩
    replace c22 := Bool.eq_false_iff.mpr c22
    subst c22
    have H1 : (flow_choice.l0 k1 false l0 (l0.length : Int) (wrap64 (x9_1 + 1)) true false false) = some (r1, r2, r3) := by rw [if_neg (show ¬ (false = true) by decide)] at H; exact H
    clear H
    have H := H1
    clear H1
    have H' := Qa.mk H
    clear H
    have p129 : 0 ≤ (x9_1 : Int) := of_decide_eq_true (by assumption)
    have q129 : x9_1 < (l0.length : Int) := of_decide_eq_true (by assumption)
    obtain ⟨ad129, e129, hx129_0, hx129_1, hx129_2⟩ := at_T36 HR0.out x9_1 p129 q129
    cases e129
    replace hx129_0 := (HB.out.cell (World.block_lt_of_cell? w _ hx129_0)).trans hx129_0
    replace hx129_1 := (HB.out.cell (World.block_lt_of_cell? w _ hx129_1)).trans hx129_1
    replace hx129_2 := (HB.out.cell (World.block_lt_of_cell? w _ hx129_2)).trans hx129_2
    replace p129 := eq_true p129
    replace q129 := eq_true q129
    go_wp2_with (first | ((with_reducible refine Qg1 (N := 6) rfl ?_); refine Qh1 ?hg (N := 6) ?hd (cs := #[.bool false, .bool false, .bool false]) (t := 36) ?hr ?_; (case hd => rfl); (case hg => rfl); (case hr => first | (go_simp; done) | (go_simp; rfl)); intro gb130 hg w29 hbox hb; have n0_ := Qa.mk (Qs (g := gb127) (o := .cells #[.bool false, .bool false, .bool false] 36 (0, 0)) (by (with_reducible repeat (first | refine Qd ?_ _ | refine Qb ?_ | refine Qc ?_ _)); exact BK127.out) hb); have n1_ := Qa.mk (Qs (g := gb128) (o := .cells #[.bool true, .bool false, .bool false] 36 (0, 0)) (by (with_reducible repeat (first | refine Qd ?_ _ | refine Qb ?_ | refine Qc ?_ _)); exact BK128.out) hb); have n2_ := Qa.mk (Qv (by with_reducible repeat (first | exact HB.out | apply Qk | apply Ql | apply Qj | refine Qi ?_ GE127.out | refine Qi ?_ GE128.out)) hb); have n3_ := Qa.mk (hbox); have n4_ := Qa.mk ((by rw [hg]; exact (Qb1 (by with_reducible repeat (first | exact HB.out | apply Qk | apply Ql | apply Qj | refine Qi ?_ GE127.out | refine Qi ?_ GE128.out))) : w.heap.size ≤ gb130)); have n5_ := n4_; have n6_ := Qa.mk ((by rw [hg]; exact Nat.ne_of_lt (Qy (g := gb127) (o := .cells #[.bool false, .bool false, .bool false] 36 (0, 0)) (by (with_reducible repeat (first | refine Qd ?_ _ | refine Qb ?_ | refine Qc ?_ _)); exact BK127.out)) : gb127 ≠ gb130)); have n7_ := Qa.mk ((by rw [hg]; exact Nat.ne_of_gt (Qy (g := gb127) (o := .cells #[.bool false, .bool false, .bool false] 36 (0, 0)) (by (with_reducible repeat (first | refine Qd ?_ _ | refine Qb ?_ | refine Qc ?_ _)); exact BK127.out)) : gb130 ≠ gb127)); have n8_ := Qa.mk ((by rw [hg]; exact Nat.ne_of_lt (Qy (g := gb128) (o := .cells #[.bool true, .bool false, .bool false] 36 (0, 0)) (by (with_reducible repeat (first | refine Qd ?_ _ | refine Qb ?_ | refine Qc ?_ _)); exact BK128.out)) : gb128 ≠ gb130)); have n9_ := Qa.mk ((by rw [hg]; exact Nat.ne_of_gt (Qy (g := gb128) (o := .cells #[.bool true, .bool false, .bool false] 36 (0, 0)) (by (with_reducible repeat (first | refine Qd ?_ _ | refine Qb ?_ | refine Qc ?_ _)); exact BK128.out)) : gb130 ≠ gb128)); clear BK127; clear BK128; clear HB; have BK127 := n0_; have BK128 := n1_; have HB := n2_; have BK130 := n3_; have GW130 := n4_; have GE130 := n5_; have NB127_130 := n6_; have NB130_127 := n7_; have NB128_130 := n8_; have NB130_128 := n9_; clear n0_ n1_ n2_ n3_ n4_ n5_ n6_ n7_ n8_ n9_; clear hb hbox hg; have hnb30 := NB130_127.out; have hnc30 := NB127_130.out; have hnb31 := NB130_128.out; have hnc31 := NB128_130.out; have hcz32_0 : w29.cell? ⟨gb130, 0, none⟩ = some (.bool false) := (Qe BK130.out 0).trans rfl; have hcz32_1 : w29.cell? ⟨gb130, 1, none⟩ = some (.bool false) := (Qe BK130.out 1).trans rfl; have hcz32_2 : w29.cell? ⟨gb130, 2, none⟩ = some (.bool false) := (Qe BK130.out 2).trans rfl; have hfz32_0 := Qf BK130.out 0; have hfz32_1 := Qf BK130.out 1; have hfz32_2 := Qf BK130.out 2; have hnb33 := NB128_127.out; have hnc33 := NB127_128.out; have hcz34_0 : w29.cell? ⟨gb128, 0, none⟩ = some (.bool true) := (Qe BK128.out 0).trans rfl; have hcz34_1 : w29.cell? ⟨gb128, 1, none⟩ = some (.bool false) := (Qe BK128.out 1).trans rfl; have hcz34_2 : w29.cell? ⟨gb128, 2, none⟩ = some (.bool false) := (Qe BK128.out 2).trans rfl; have hfz34_0 := Qf BK128.out 0; have hfz34_1 := Qf BK128.out 1; have hfz34_2 := Qf BK128.out 2))
    go_roundg k1
    case measure => have := HK1.out; omega
    case rel => exact ⟨(false), (wrap64 (x9_1 + 1)), (true), (false), (by first | rfl | (simp; done) | (simp [*]; done)), (by first | rfl | (simp; done) | (simp [*]; done)), H', ⟨by have := HK1.out; omega⟩, ⟨by (with_reducible repeat (first | refine Qd ?_ _ | refine Qb ?_ | refine Qc ?_ _)); refine Qn ?_ NB127_128.out _; (with_reducible repeat (first | refine Qd ?_ _ | refine Qb ?_ | refine Qc ?_ _)); refine Qn ?_ NB127_128.out _; (with_reducible repeat (first | refine Qd ?_ _ | refine Qb ?_ | refine Qc ?_ _)); refine Qn ?_ NB127_130.out _; (with_reducible repeat (first | refine Qd ?_ _ | refine Qb ?_ | refine Qc ?_ _)); refine Qn ?_ NB127_130.out _; (with_reducible repeat (first | refine Qd ?_ _ | refine Qb ?_ | refine Qc ?_ _)); refine Qn ?_ NB127_130.out _; (with_reducible repeat (first | refine Qd ?_ _ | refine Qb ?_ | refine Qc ?_ _)); exact BK127.out⟩, ⟨by (with_reducible repeat (first | refine Qd ?_ _ | refine Qb ?_ | refine Qc ?_ _)); refine Qt (cs := #[.bool true, .bool false, .bool false]) ?_ 1 _ rfl; (with_reducible repeat (first | refine Qd ?_ _ | refine Qb ?_ | refine Qc ?_ _)); refine Qt (cs := #[.bool true, .bool false, .bool false]) ?_ 0 _ rfl; (with_reducible repeat (first | refine Qd ?_ _ | refine Qb ?_ | refine Qc ?_ _)); refine Qn ?_ NB128_130.out _; (with_reducible repeat (first | refine Qd ?_ _ | refine Qb ?_ | refine Qc ?_ _)); refine Qn ?_ NB128_130.out _; (with_reducible repeat (first | refine Qd ?_ _ | refine Qb ?_ | refine Qc ?_ _)); refine Qn ?_ NB128_130.out _; (with_reducible repeat (first | refine Qd ?_ _ | refine Qb ?_ | refine Qc ?_ _)); exact BK128.out⟩, ⟨by with_reducible repeat (first | exact HB.out | apply Qk | apply Ql | apply Qj | refine Qi ?_ GE127.out | refine Qi ?_ GE128.out | refine Qi ?_ GE130.out)⟩⟩
   replace c7 := Bool.eq_false_iff.mpr c7
   subst c7
   have H1 : (if x4_1 = true then (if x129001_1 = true then (flow_choice.l0 k1 ((Qg l0 x9_1).f2) l0 (l0.length : Int) (wrap64 (x9_1 + 1)) ((Qg l0 x9_1).f0) true false) else (flow_choice.l0 k1 ((Qg l0 x9_1).f2) l0 (l0.length : Int) (wrap64 (x9_1 + 1)) ((Qg l0 x9_1).f0) ((Qg l0 x9_1).f1) false)) else (if x129001_1 = true then (flow_choice.l0 k1 false l0 (l0.length : Int) (wrap64 (x9_1 + 1)) false true false) else (flow_choice.l0 k1 false l0 (l0.length : Int) (wrap64 (x9_1 + 1)) false false false))) = some (r1, r2, r3) := by rw [if_neg (show ¬ (false = true) by decide)] at H; exact H
   clear H
   have H := H1
   clear H1
   by_cases c35 : x4_1 = true
   ·
    subst c35
    have H1 : (if x129001_1 = true then (flow_choice.l0 k1 ((Qg l0 x9_1).f2) l0 (l0.length : Int) (wrap64 (x9_1 + 1)) ((Qg l0 x9_1).f0) true false) else (flow_choice.l0 k1 ((Qg l0 x9_1).f2) l0 (l0.length : Int) (wrap64 (x9_1 + 1)) ((Qg l0 x9_1).f0) ((Qg l0 x9_1).f1) false)) = some (r1, r2, r3) := by rw [if_pos rfl] at H; exact H
    clear H
    have H := H1
    clear H1
    by_cases c36 : x129001_1 = true
    ·
     subst c36
     have H1 : (flow_choice.l0 k1 ((Qg l0 x9_1).f2) l0 (l0.length : Int) (wrap64 (x9_1 + 1)) ((Qg l0 x9_1).f0) true false) = some (r1, r2, r3) := by rw [if_pos rfl] at H; exact H
     clear H
     have H := H1
     clear H1
     have H' := Qa.mk H
     clear H
     have p129 : 0 ≤ (x9_1 : Int) := of_decide_eq_true (by assumption)
     have q129 : x9_1 < (l0.length : Int) := of_decide_eq_true (by assumption)
     obtain ⟨ad129, e129, hx129_0, hx129_1, hx129_2⟩ := at_T36 HR0.out x9_1 p129 q129
     cases e129
     replace hx129_0 := (HB.out.cell (World.block_lt_of_cell? w _ hx129_0)).trans hx129_0
     replace hx129_1 := (HB.out.cell (World.block_lt_of_cell? w _ hx129_1)).trans hx129_1
     replace hx129_2 := (HB.out.cell (World.block_lt_of_cell? w _ hx129_2)).trans hx129_2
     replace p129 := eq_true p129
     replace q129 := eq_true q129
     go_wp2_with (first | ((with_reducible refine Qg1 (N := 6) rfl ?_); refine Qh1 ?hg (N := 6) ?hd (cs := #[.bool false, .bool false, .bool false]) (t := 36) ?hr ?_; (case hd => rfl); (case hg => rfl); (case hr => first | (go_simp; done) | (go_simp; rfl)); intro gb130 hg w37 hbox hb; have n0_ := Qa.mk (Qs (g := gb127) (o := .cells #[.bool false, .bool false, .bool false] 36 (0, 0)) (by (with_reducible repeat (first | refine Qd ?_ _ | refine Qb ?_ | refine Qc ?_ _)); exact BK127.out) hb); have n1_ := Qa.mk (Qs (g := gb128) (o := .cells #[.bool false, .bool true, .bool false] 36 (0, 0)) (by (with_reducible repeat (first | refine Qd ?_ _ | refine Qb ?_ | refine Qc ?_ _)); exact BK128.out) hb); have n2_ := Qa.mk (Qv (by with_reducible repeat (first | exact HB.out | apply Qk | apply Ql | apply Qj | refine Qi ?_ GE127.out | refine Qi ?_ GE128.out)) hb); have n3_ := Qa.mk (hbox); have n4_ := Qa.mk ((by rw [hg]; exact (Qb1 (by with_reducible repeat (first | exact HB.out | apply Qk | apply Ql | apply Qj | refine Qi ?_ GE127.out | refine Qi ?_ GE128.out))) : w.heap.size ≤ gb130)); have n5_ := n4_; have n6_ := Qa.mk ((by rw [hg]; exact Nat.ne_of_lt (Qy (g := gb127) (o := .cells #[.bool false, .bool false, .bool false] 36 (0, 0)) (by (with_reducible repeat (first | refine Qd ?_ _ | refine Qb ?_ | refine Qc ?_ _)); exact BK127.out)) : gb127 ≠ gb130)); have n7_ := Qa.mk ((by rw [hg]; exact Nat.ne_of_gt (Qy (g := gb127) (o := .cells #[.bool false, .bool false, .bool false] 36 (0, 0)) (by (with_reducible repeat (first | refine Qd ?_ _ | refine Qb ?_ | refine Qc ?_ _)); exact BK127.out)) : gb130 ≠ gb127)); have n8_ := Qa.mk ((by rw [hg]; exact Nat.ne_of_lt (Qy (g := gb128) (o := .cells #[.bool false, .bool true, .bool false] 36 (0, 0)) (by (with_reducible repeat (first | refine Qd ?_ _ | refine Qb ?_ | refine Qc ?_ _)); exact BK128.out)) : gb128 ≠ gb130)); have n9_ := Qa.mk ((by rw [hg]; exact Nat.ne_of_gt (Qy (g := gb128) (o := .cells #[.bool false, .bool true, .bool false] 36 (0, 0)) (by (with_reducible repeat (first | refine Qd ?_ _ | refine Qb ?_ | refine Qc ?_ _)); exact BK128.out)) : gb130 ≠ gb128)); clear BK127; clear BK128; clear HB; have BK127 := n0_; have BK128 := n1_; have HB := n2_; have BK130 := n3_; have GW130 := n4_; have GE130 := n5_; have NB127_130 := n6_; have NB130_127 := n7_; have NB128_130 := n8_; have NB130_128 := n9_; clear n0_ n1_ n2_ n3_ n4_ n5_ n6_ n7_ n8_ n9_; clear hb hbox hg; have hnb38 := NB130_127.out; have hnc38 := NB127_130.out; have hnb39 := NB130_128.out; have hnc39 := NB128_130.out; have hcz40_0 : w37.cell? ⟨gb130, 0, none⟩ = some (.bool false) := (Qe BK130.out 0).trans rfl; have hcz40_1 : w37.cell? ⟨gb130, 1, none⟩ = some (.bool false) := (Qe BK130.out 1).trans rfl; have hcz40_2 : w37.cell? ⟨gb130, 2, none⟩ = some (.bool false) := (Qe BK130.out 2).trans rfl; have hfz40_0 := Qf BK130.out 0; have hfz40_1 := Qf BK130.out 1; have hfz40_2 := Qf BK130.out 2; have hnb41 := NB128_127.out; have hnc41 := NB127_128.out; have hcz42_0 : w37.cell? ⟨gb128, 0, none⟩ = some (.bool false) := (Qe BK128.out 0).trans rfl; have hcz42_1 : w37.cell? ⟨gb128, 1, none⟩ = some (.bool true) := (Qe BK128.out 1).trans rfl; have hcz42_2 : w37.cell? ⟨gb128, 2, none⟩ = some (.bool false) := (Qe BK128.out 2).trans rfl; have hfz42_0 := Qf BK128.out 0; have hfz42_1 := Qf BK128.out 1; have hfz42_2 := Qf BK128.out 2))
     go_roundg k1
     case measure => have := HK1.out; omega
     case rel => exact ⟨((Qg l0 x9_1).f2), (wrap64 (x9_1 + 1)), ((Qg l0 x9_1).f0), (true), (by first | rfl | (simp; done) | (simp [*]; done)), (by first | rfl | (simp; done) | (simp [*]; done)), H', ⟨by have := HK1.out; omega⟩, ⟨by (with_reducible repeat (first | refine Qd ?_ _ | refine Qb ?_ | refine Qc ?_ _)); refine Qn ?_ NB127_128.out _; (with_reducible repeat (first | refine Qd ?_ _ | refine Qb ?_ | refine Qc ?_ _)); refine Qn ?_ NB127_128.out _; (with_reducible repeat (first | refine Qd ?_ _ | refine Qb ?_ | refine Qc ?_ _)); refine Qn ?_ NB127_130.out _; (with_reducible repeat (first | refine Qd ?_ _ | refine Qb ?_ | refine Qc ?_ _)); refine Qn ?_ NB127_130.out _; (with_reducible repeat (first | refine Qd ?_ _ | refine Qb ?_ | refine Qc ?_ _)); refine Qn ?_ NB127_130.out _; (with_reducible repeat (first | refine Qd ?_ _ | refine Qb ?_ | refine Qc ?_ _)); exact BK127.out⟩, ⟨by (with_reducible repeat (first | refine Qd ?_ _ | refine Qb ?_ | refine Qc ?_ _)); refine Qt (cs := #[.bool ((Qg l0 x9_1).f0), .bool true, .bool false]) ?_ 1 _ rfl; (with_reducible repeat (first | refine Qd ?_ _ | refine Qb ?_ | refine Qc ?_ _)); refine Qt (cs := #[.bool false, .bool true, .bool false]) ?_ 0 _ rfl; (with_reducible repeat (first | refine Qd ?_ _ | refine Qb ?_ | refine Qc ?_ _)); refine Qn ?_ NB128_130.out _; (with_reducible repeat (first | refine Qd ?_ _ | refine Qb ?_ | refine Qc ?_ _)); refine Qn ?_ NB128_130.out _; (with_reducible repeat (first | refine Qd ?_ _ | refine Qb ?_ | refine Qc ?_ _)); refine Qn ?_ NB128_130.out _; (with_reducible repeat (first | refine Qd ?_ _ | refine Qb ?_ | refine Qc ?_ _)); exact BK128.out⟩, ⟨by with_reducible repeat (first | exact HB.out | apply Qk | apply Ql | apply Qj | refine Qi ?_ GE127.out | refine Qi ?_ GE128.out | refine Qi ?_ GE130.out)⟩⟩
    replace c36 := Bool.eq_false_iff.mpr c36
    subst c36
    have H1 : (flow_choice.l0 k1 ((Qg l0 x9_1).f2) l0 (l0.length : Int) (wrap64 (x9_1 + 1)) ((Qg l0 x9_1).f0) ((Qg l0 x9_1).f1) false) = some (r1, r2, r3) := by rw [if_neg (show ¬ (false = true) by decide)] at H; exact H
    clear H
    have H := H1
    clear H1
    have H' := Qa.mk H
    clear H
    have p129 : 0 ≤ (x9_1 : Int) := of_decide_eq_true (by assumption)
    have q129 : x9_1 < (l0.length : Int) := of_decide_eq_true (by assumption)
    obtain ⟨ad129, e129, hx129_0, hx129_1, hx129_2⟩ := at_T36 HR0.out x9_1 p129 q129
    cases e129
    replace hx129_0 := (HB.out.cell (World.block_lt_of_cell? w _ hx129_0)).trans hx129_0
    replace hx129_1 := (HB.out.cell (World.block_lt_of_cell? w _ hx129_1)).trans hx129_1
    replace hx129_2 := (HB.out.cell (World.block_lt_of_cell? w _ hx129_2)).trans hx129_2
    replace p129 := eq_true p129
    replace q129 := eq_true q129
    go_wp2_with (first | ((with_reducible refine Qg1 (N := 6) rfl ?_); refine Qh1 ?hg (N := 6) ?hd (cs := #[.bool false, .bool false, .bool false]) (t := 36) ?hr ?_; (case hd => rfl); (case hg => rfl); (case hr => first | (go_simp; done) | (go_simp; rfl)); intro gb130 hg w43 hbox hb; have n0_ := Qa.mk (Qs (g := gb127) (o := .cells #[.bool false, .bool false, .bool false] 36 (0, 0)) (by (with_reducible repeat (first | refine Qd ?_ _ | refine Qb ?_ | refine Qc ?_ _)); exact BK127.out) hb); have n1_ := Qa.mk (Qs (g := gb128) (o := .cells #[.bool false, .bool false, .bool false] 36 (0, 0)) (by (with_reducible repeat (first | refine Qd ?_ _ | refine Qb ?_ | refine Qc ?_ _)); exact BK128.out) hb); have n2_ := Qa.mk (Qv (by with_reducible repeat (first | exact HB.out | apply Qk | apply Ql | apply Qj | refine Qi ?_ GE127.out | refine Qi ?_ GE128.out)) hb); have n3_ := Qa.mk (hbox); have n4_ := Qa.mk ((by rw [hg]; exact (Qb1 (by with_reducible repeat (first | exact HB.out | apply Qk | apply Ql | apply Qj | refine Qi ?_ GE127.out | refine Qi ?_ GE128.out))) : w.heap.size ≤ gb130)); have n5_ := n4_; have n6_ := Qa.mk ((by rw [hg]; exact Nat.ne_of_lt (Qy (g := gb127) (o := .cells #[.bool false, .bool false, .bool false] 36 (0, 0)) (by (with_reducible repeat (first | refine Qd ?_ _ | refine Qb ?_ | refine Qc ?_ _)); exact BK127.out)) : gb127 ≠ gb130)); have n7_ := Qa.mk ((by rw [hg]; exact Nat.ne_of_gt (Qy (g := gb127) (o := .cells #[.bool false, .bool false, .bool false] 36 (0, 0)) (by (with_reducible repeat (first | refine Qd ?_ _ | refine Qb ?_ | refine Qc ?_ _)); exact BK127.out)) : gb130 ≠ gb127)); have n8_ := Qa.mk ((by rw [hg]; exact Nat.ne_of_lt (Qy (g := gb128) (o := .cells #[.bool false, .bool false, .bool false] 36 (0, 0)) (by (with_reducible repeat (first | refine Qd ?_ _ | refine Qb ?_ | refine Qc ?_ _)); exact BK128.out)) : gb128 ≠ gb130)); have n9_ := Qa.mk ((by rw [hg]; exact Nat.ne_of_gt (Qy (g := gb128) (o := .cells #[.bool false, .bool false, .bool false] 36 (0, 0)) (by (with_reducible repeat (first | refine Qd ?_ _ | refine Qb ?_ | refine Qc ?_ _)); exact BK128.out)) : gb130 ≠ gb128)); clear BK127; clear BK128; clear HB; have BK127 := n0_; have BK128 := n1_; have HB := n2_; have BK130 := n3_; have GW130 := n4_; have GE130 := n5_; have NB127_130 := n6_; have NB130_127 := n7_; have NB128_130 := n8_; have NB130_128 := n9_; clear n0_ n1_ n2_ n3_ n4_ n5_ n6_ n7_ n8_ n9_; clear hb hbox hg; have hnb44 := NB130_127.out; have hnc44 := NB127_130.out; have hnb45 := NB130_128.out; have hnc45 := NB128_130.out; have hcz46_0 : w43.cell? ⟨gb130, 0, none⟩ = some (.bool false) := (Qe BK130.out 0).trans rfl; have hcz46_1 : w43.cell? ⟨gb130, 1, none⟩ = some (.bool false) := (Qe BK130.out 1).trans rfl; have hcz46_2 : w43.cell? ⟨gb130, 2, none⟩ = some (.bool false) := (Qe BK130.out 2).trans rfl; have hfz46_0 := Qf BK130.out 0; have hfz46_1 := Qf BK130.out 1; have hfz46_2 := Qf BK130.out 2; have hnb47 := NB128_127.out; have hnc47 := NB127_128.out; have hcz48_0 : w43.cell? ⟨gb128, 0, none⟩ = some (.bool false) := (Qe BK128.out 0).trans rfl; have hcz48_1 : w43.cell? ⟨gb128, 1, none⟩ = some (.bool false) := (Qe BK128.out 1).trans rfl; have hcz48_2 : w43.cell? ⟨gb128, 2, none⟩ = some (.bool false) := (Qe BK128.out 2).trans rfl; have hfz48_0 := Qf BK128.out 0; have hfz48_1 := Qf BK128.out 1; have hfz48_2 := Qf BK128.out 2))
    go_roundg k1
    case measure => have := HK1.out; omega
    case rel => exact ⟨((Qg l0 x9_1).f2), (wrap64 (x9_1 + 1)), ((Qg l0 x9_1).f0), ((Qg l0 x9_1).f1), (by first | rfl | (simp; done) | (simp [*]; done)), (by first | rfl | (simp; done) | (simp [*]; done)), H', ⟨by have := HK1.out; omega⟩, ⟨by (with_reducible repeat (first | refine Qd ?_ _ | refine Qb ?_ | refine Qc ?_ _)); refine Qn ?_ NB127_128.out _; (with_reducible repeat (first | refine Qd ?_ _ | refine Qb ?_ | refine Qc ?_ _)); refine Qn ?_ NB127_128.out _; (with_reducible repeat (first | refine Qd ?_ _ | refine Qb ?_ | refine Qc ?_ _)); refine Qn ?_ NB127_130.out _; (with_reducible repeat (first | refine Qd ?_ _ | refine Qb ?_ | refine Qc ?_ _)); refine Qn ?_ NB127_130.out _; (with_reducible repeat (first | refine Qd ?_ _ | refine Qb ?_ | refine Qc ?_ _)); refine Qn ?_ NB127_130.out _; (with_reducible repeat (first | refine Qd ?_ _ | refine Qb ?_ | refine Qc ?_ _)); exact BK127.out⟩, ⟨by (with_reducible repeat (first | refine Qd ?_ _ | refine Qb ?_ | refine Qc ?_ _)); refine Qt (cs := #[.bool ((Qg l0 x9_1).f0), .bool false, .bool false]) ?_ 1 _ rfl; (with_reducible repeat (first | refine Qd ?_ _ | refine Qb ?_ | refine Qc ?_ _)); refine Qt (cs := #[.bool false, .bool false, .bool false]) ?_ 0 _ rfl; (with_reducible repeat (first | refine Qd ?_ _ | refine Qb ?_ | refine Qc ?_ _)); refine Qn ?_ NB128_130.out _; (with_reducible repeat (first | refine Qd ?_ _ | refine Qb ?_ | refine Qc ?_ _)); refine Qn ?_ NB128_130.out _; (with_reducible repeat (first | refine Qd ?_ _ | refine Qb ?_ | refine Qc ?_ _)); refine Qn ?_ NB128_130.out _; (with_reducible repeat (first | refine Qd ?_ _ | refine Qb ?_ | refine Qc ?_ _)); exact BK128.out⟩, ⟨by with_reducible repeat (first | exact HB.out | apply Qk | apply Ql | apply Qj | refine Qi ?_ GE127.out | refine Qi ?_ GE128.out | refine Qi ?_ GE130.out)⟩⟩
   replace c35 := Bool.eq_false_iff.mpr c35
   subst c35
   have H1 : (if x129001_1 = true then (flow_choice.l0 k1 false l0 (l0.length : Int) (wrap64 (x9_1 + 1)) false true false) else (flow_choice.l0 k1 false l0 (l0.length : Int) (wrap64 (x9_1 + 1)) false false false)) = some (r1, r2, r3) := by rw [if_neg (show ¬ (false = true) by decide)] at H; exact H
   clear H
   have H := H1
   clear H1
   by_cases c49 : x129001_1 = true
   ·
    subst c49
    have H1 : (flow_choice.l0 k1 false l0 (l0.length : Int) (wrap64 (x9_1 + 1)) false true false) = some (r1, r2, r3) := by rw [if_pos rfl] at H; exact H
    clear H
    have H := H1
    clear H1
    have H' := Qa.mk H
    clear H
    have p129 : 0 ≤ (x9_1 : Int) := of_decide_eq_true (by assumption)
    have q129 : x9_1 < (l0.length : Int) := of_decide_eq_true (by assumption)
    obtain ⟨ad129, e129, hx129_0, hx129_1, hx129_2⟩ := at_T36 HR0.out x9_1 p129 q129
    cases e129
    replace hx129_0 := (HB.out.cell (World.block_lt_of_cell? w _ hx129_0)).trans hx129_0
    replace hx129_1 := (HB.out.cell (World.block_lt_of_cell? w _ hx129_1)).trans hx129_1
    replace hx129_2 := (HB.out.cell (World.block_lt_of_cell? w _ hx129_2)).trans hx129_2
    replace p129 := eq_true p129
    replace q129 := eq_true q129
    go_wp2_with (first | ((with_reducible refine Qg1 (N := 6) rfl ?_); refine Qh1 ?hg (N := 6) ?hd (cs := #[.bool false, .bool false, .bool false]) (t := 36) ?hr ?_; (case hd => rfl); (case hg => rfl); (case hr => first | (go_simp; done) | (go_simp; rfl)); intro gb130 hg w50 hbox hb; have n0_ := Qa.mk (Qs (g := gb127) (o := .cells #[.bool false, .bool false, .bool false] 36 (0, 0)) (by (with_reducible repeat (first | refine Qd ?_ _ | refine Qb ?_ | refine Qc ?_ _)); exact BK127.out) hb); have n1_ := Qa.mk (Qs (g := gb128) (o := .cells #[.bool false, .bool true, .bool false] 36 (0, 0)) (by (with_reducible repeat (first | refine Qd ?_ _ | refine Qb ?_ | refine Qc ?_ _)); exact BK128.out) hb); have n2_ := Qa.mk (Qv (by with_reducible repeat (first | exact HB.out | apply Qk | apply Ql | apply Qj | refine Qi ?_ GE127.out | refine Qi ?_ GE128.out)) hb); have n3_ := Qa.mk (hbox); have n4_ := Qa.mk ((by rw [hg]; exact (Qb1 (by with_reducible repeat (first | exact HB.out | apply Qk | apply Ql | apply Qj | refine Qi ?_ GE127.out | refine Qi ?_ GE128.out))) : w.heap.size ≤ gb130)); have n5_ := n4_; have n6_ := Qa.mk ((by rw [hg]; exact Nat.ne_of_lt (Qy (g := gb127) (o := .cells #[.bool false, .bool false, .bool false] 36 (0, 0)) (by (with_reducible repeat (first | refine Qd ?_ _ | refine Qb ?_ | refine Qc ?_ _)); exact BK127.out)) : gb127 ≠ gb130)); have n7_ := Qa.mk ((by rw [hg]; exact Nat.ne_of_gt (Qy (g := gb127) (o := .cells #[.bool false, .bool false, .bool false] 36 (0, 0)) (by (with_reducible repeat (first | refine Qd ?_ _ | refine Qb ?_ | refine Qc ?_ _)); exact BK127.out)) : gb130 ≠ gb127)); have n8_ := Qa.mk ((by rw [hg]; exact Nat.ne_of_lt (Qy (g := gb128) (o := .cells #[.bool false, .bool true, .bool false] 36 (0, 0)) (by (with_reducible repeat (first | refine Qd ?_ _ | refine Qb ?_ | refine Qc ?_ _)); exact BK128.out)) : gb128 ≠ gb130)); have n9_ := Qa.mk ((by rw [hg]; exact Nat.ne_of_gt (Qy (g := gb128) (o := .cells #[.bool false, .bool true, .bool false] 36 (0, 0)) (by (with_reducible repeat (first | refine Qd ?_ _ | refine Qb ?_ | refine Qc ?_ _)); exact BK128.out)) : gb130 ≠ gb128)); clear BK127; clear BK128; clear HB; have BK127 := n0_; have BK128 := n1_; have HB := n2_; have BK130 := n3_; have GW130 := n4_; have GE130 := n5_; have NB127_130 := n6_; have NB130_127 := n7_; have NB128_130 := n8_; have NB130_128 := n9_; clear n0_ n1_ n2_ n3_ n4_ n5_ n6_ n7_ n8_ n9_; clear hb hbox hg; have hnb51 := NB130_127.out; have hnc51 := NB127_130.out; have hnb52 := NB130_128.out; have hnc52 := NB128_130.out; have hcz53_0 : w50.cell? ⟨gb130, 0, none⟩ = some (.bool false) := (Qe BK130.out 0).trans rfl; have hcz53_1 : w50.cell? ⟨gb130, 1, none⟩ = some (.bool false) := (Qe BK130.out 1).trans rfl; have hcz53_2 : w50.cell? ⟨gb130, 2, none⟩ = some (.bool false) := (Qe BK130.out 2).trans rfl; have hfz53_0 := Qf BK130.out 0; have hfz53_1 := Qf BK130.out 1; have hfz53_2 := Qf BK130.out 2; have hnb54 := NB128_127.out; have hnc54 := NB127_128.out; have hcz55_0 : w50.cell? ⟨gb128, 0, none⟩ = some (.bool false) := (Qe BK128.out 0).trans rfl; have hcz55_1 : w50.cell? ⟨gb128, 1, none⟩ = some (.bool true) := (Qe BK128.out 1).trans rfl; have hcz55_2 : w50.cell? ⟨gb128, 2, none⟩ = some (.bool false) := (Qe BK128.out 2).trans rfl; have hfz55_0 := Qf BK128.out 0; have hfz55_1 := Qf BK128.out 1; have hfz55_2 := Qf BK128.out 2))
    go_roundg k1
    case measure => have := HK1.out; omega
    case rel => exact ⟨(false), (wrap64 (x9_1 + 1)), (false), (true), (by first | rfl | (simp; done) | (simp [*]; done)), (by first | rfl | (simp; done) | (simp [*]; done)), H', ⟨by have := HK1.out; omega⟩, ⟨by (with_reducible repeat (first | refine Qd ?_ _ | refine Qb ?_ | refine Qc ?_ _)); refine Qn ?_ NB127_128.out _; (with_reducible repeat (first | refine Qd ?_ _ | refine Qb ?_ | refine Qc ?_ _)); refine Qn ?_ NB127_128.out _; (with_reducible repeat (first | refine Qd ?_ _ | refine Qb ?_ | refine Qc ?_ _)); refine Qn ?_ NB127_130.out _; (with_reducible repeat (first | refine Qd ?_ _ | refine Qb ?_ | refine Qc ?_ _)); refine Qn ?_ NB127_130.out _; (with_reducible repeat (first | refine Qd ?_ _ | refine Qb ?_ | refine Qc ?_ _)); refine Qn ?_ NB127_130.out _; (with_reducible repeat (first | refine Qd ?_ _ | refine Qb ?_ | refine Qc ?_ _)); exact BK127.out⟩, ⟨by (with_reducible repeat (first | refine Qd ?_ _ | refine Qb ?_ | refine Qc ?_ _)); refine Qt (cs := #[.bool false, .bool true, .bool false]) ?_ 1 _ rfl; (with_reducible repeat (first | refine Qd ?_ _ | refine Qb ?_ | refine Qc ?_ _)); refine Qt (cs := #[.bool false, .bool true, .bool false]) ?_ 0 _ rfl; (with_reducible repeat (first | refine Qd ?_ _ | refine Qb ?_ | refine Qc ?_ _)); refine Qn ?_ NB128_130.out _; (with_reducible repeat (first | refine Qd ?_ _ | refine Qb ?_ | refine Qc ?_ _)); refine Qn ?_ NB128_130.out _; (with_reducible repeat (first | refine Qd ?_ _ | refine Qb ?_ | refine Qc ?_ _)); refine Qn ?_ NB128_130.out _; (with_reducible repeat (first | refine Qd ?_ _ | refine Qb ?_ | refine Qc ?_ _)); exact BK128.out⟩, ⟨by with_reducible repeat (first | exact HB.out | apply Qk | apply Ql | apply Qj | refine Qi ?_ GE127.out | refine Qi ?_ GE128.out | refine Qi ?_ GE130.out)⟩⟩
   replace c49 := Bool.eq_false_iff.mpr c49
   subst c49
   have H1 : (flow_choice.l0 k1 false l0 (l0.length : Int) (wrap64 (x9_1 + 1)) false false false) = some (r1, r2, r3) := by rw [if_neg (show ¬ (false = true) by decide)] at H; exact H
   clear H
   have H := H1
   clear H1
   have H' := Qa.mk H
   clear H
   have p129 : 0 ≤ (x9_1 : Int) := of_decide_eq_true (by assumption)
   have q129 : x9_1 < (l0.length : Int) := of_decide_eq_true (by assumption)
   obtain ⟨ad129, e129, hx129_0, hx129_1, hx129_2⟩ := at_T36 HR0.out x9_1 p129 q129
   cases e129
   replace hx129_0 := (HB.out.cell (World.block_lt_of_cell? w _ hx129_0)).trans hx129_0
   replace hx129_1 := (HB.out.cell (World.block_lt_of_cell? w _ hx129_1)).trans hx129_1
   replace hx129_2 := (HB.out.cell (World.block_lt_of_cell? w _ hx129_2)).trans hx129_2
   replace p129 := eq_true p129
   replace q129 := eq_true q129
   go_wp2_with (first | ((with_reducible refine Qg1 (N := 6) rfl ?_); refine Qh1 ?hg (N := 6) ?hd (cs := #[.bool false, .bool false, .bool false]) (t := 36) ?hr ?_; (case hd => rfl); (case hg => rfl); (case hr => first | (go_simp; done) | (go_simp; rfl)); intro gb130 hg w56 hbox hb; have n0_ := Qa.mk (Qs (g := gb127) (o := .cells #[.bool false, .bool false, .bool false] 36 (0, 0)) (by (with_reducible repeat (first | refine Qd ?_ _ | refine Qb ?_ | refine Qc ?_ _)); exact BK127.out) hb); have n1_ := Qa.mk (Qs (g := gb128) (o := .cells #[.bool false, .bool false, .bool false] 36 (0, 0)) (by (with_reducible repeat (first | refine Qd ?_ _ | refine Qb ?_ | refine Qc ?_ _)); exact BK128.out) hb); have n2_ := Qa.mk (Qv (by with_reducible repeat (first | exact HB.out | apply Qk | apply Ql | apply Qj | refine Qi ?_ GE127.out | refine Qi ?_ GE128.out)) hb); have n3_ := Qa.mk (hbox); have n4_ := Qa.mk ((by rw [hg]; exact (Qb1 (by with_reducible repeat (first | exact HB.out | apply Qk | apply Ql | apply Qj | refine Qi ?_ GE127.out | refine Qi ?_ GE128.out))) : w.heap.size ≤ gb130)); have n5_ := n4_; have n6_ := Qa.mk ((by rw [hg]; exact Nat.ne_of_lt (Qy (g := gb127) (o := .cells #[.bool false, .bool false, .bool false] 36 (0, 0)) (by (with_reducible repeat (first | refine Qd ?_ _ | refine Qb ?_ | refine Qc ?_ _)); exact BK127.out)) : gb127 ≠ gb130)); have n7_ := Qa.mk ((by rw [hg]; exact Nat.ne_of_gt (Qy (g := gb127) (o := .cells #[.bool false, .bool false, .bool false] 36 (0, 0)) (by (with_reducible repeat (first | refine Qd ?_ _ | refine Qb ?_ | refine Qc ?_ _)); exact BK127.out)) : gb130 ≠ gb127)); have n8_ := Qa.mk ((by rw [hg]; exact Nat.ne_of_lt (Qy (g := gb128) (o := .cells #[.bool false, .bool false, .bool false] 36 (0, 0)) (by (with_reducible repeat (first | refine Qd ?_ _ | refine Qb ?_ | refine Qc ?_ _)); exact BK128.out)) : gb128 ≠ gb130)); have n9_ := Qa.mk ((by rw [hg]; exact Nat.ne_of_gt (Qy (g := gb128) (o := .cells #[.bool false, .bool false, .bool false] 36 (0, 0)) (by (with_reducible repeat (first | refine Qd ?_ _ | refine Qb ?_ | refine Qc ?_ _)); exact BK128.out)) : gb130 ≠ gb128)); clear BK127; clear BK128; clear HB; have BK127 := n0_; have BK128 := n1_; have HB := n2_; have BK130 := n3_; have GW130 := n4_; have GE130 := n5_; have NB127_130 := n6_; have NB130_127 := n7_; have NB128_130 := n8_; have NB130_128 := n9_; clear n0_ n1_ n2_ n3_ n4_ n5_ n6_ n7_ n8_ n9_; clear hb hbox hg; have hnb57 := NB130_127.out; have hnc57 := NB127_130.out; have hnb58 := NB130_128.out; have hnc58 := NB128_130.out; have hcz59_0 : w56.cell? ⟨gb130, 0, none⟩ = some (.bool false) := (Qe BK130.out 0).trans rfl; have hcz59_1 : w56.cell? ⟨gb130, 1, none⟩ = some (.bool false) := (Qe BK130.out 1).trans rfl; have hcz59_2 : w56.cell? ⟨gb130, 2, none⟩ = some (.bool false) := (Qe BK130.out 2).trans rfl; have hfz59_0 := Qf BK130.out 0; have hfz59_1 := Qf BK130.out 1; have hfz59_2 := Qf BK130.out 2; have hnb60 := NB128_127.out; have hnc60 := NB127_128.out; have hcz61_0 : w56.cell? ⟨gb128, 0, none⟩ = some (.bool false) := (Qe BK128.out 0).trans rfl; have hcz61_1 : w56.cell? ⟨gb128, 1, none⟩ = some (.bool false) := (Qe BK128.out 1).trans rfl; have hcz61_2 : w56.cell? ⟨gb128, 2, none⟩ = some (.bool false) := (Qe BK128.out 2).trans rfl; have hfz61_0 := Qf BK128.out 0; have hfz61_1 := Qf BK128.out 1; have hfz61_2 := Qf BK128.out 2))
   go_roundg k1
   case measure => have := HK1.out; omega
   case rel => exact ⟨(false), (wrap64 (x9_1 + 1)), (false), (false), (by first | rfl | (simp; done) | (simp [*]; done)), (by first | rfl | (simp; done) | (simp [*]; done)), H', ⟨by have := HK1.out; omega⟩, ⟨by (with_reducible repeat (first | refine Qd ?_ _ | refine Qb ?_ | refine Qc ?_ _)); refine Qn ?_ NB127_128.out _; (with_reducible repeat (first | refine Qd ?_ _ | refine Qb ?_ | refine Qc ?_ _)); refine Qn ?_ NB127_128.out _; (with_reducible repeat (first | refine Qd ?_ _ | refine Qb ?_ | refine Qc ?_ _)); refine Qn ?_ NB127_130.out _; (with_reducible repeat (first | refine Qd ?_ _ | refine Qb ?_ | refine Qc ?_ _)); refine Qn ?_ NB127_130.out _; (with_reducible repeat (first | refine Qd ?_ _ | refine Qb ?_ | refine Qc ?_ _)); refine Qn ?_ NB127_130.out _; (with_reducible repeat (first | refine Qd ?_ _ | refine Qb ?_ | refine Qc ?_ _)); exact BK127.out⟩, ⟨by (with_reducible repeat (first | refine Qd ?_ _ | refine Qb ?_ | refine Qc ?_ _)); refine Qt (cs := #[.bool false, .bool false, .bool false]) ?_ 1 _ rfl; (with_reducible repeat (first | refine Qd ?_ _ | refine Qb ?_ | refine Qc ?_ _)); refine Qt (cs := #[.bool false, .bool false, .bool false]) ?_ 0 _ rfl; (with_reducible repeat (first | refine Qd ?_ _ | refine Qb ?_ | refine Qc ?_ _)); refine Qn ?_ NB128_130.out _; (with_reducible repeat (first | refine Qd ?_ _ | refine Qb ?_ | refine Qc ?_ _)); refine Qn ?_ NB128_130.out _; (with_reducible repeat (first | refine Qd ?_ _ | refine Qb ?_ | refine Qc ?_ _)); refine Qn ?_ NB128_130.out _; (with_reducible repeat (first | refine Qd ?_ _ | refine Qb ?_ | refine Qc ?_ _)); exact BK128.out⟩, ⟨by with_reducible repeat (first | exact HB.out | apply Qk | apply Ql | apply Qj | refine Qi ?_ GE127.out | refine Qi ?_ GE128.out | refine Qi ?_ GE130.out)⟩⟩
def flow_unary.f (a0 : Int) (a1_0 : Bool) (a1_1 : Bool) (a1_2 : Bool) : Option (Bool × Bool × Bool) := if a0 = 5 then (some (a1_2, a1_1, false)) else (if a0 = 6 then (if a1_0 = true then (some (a1_2, a1_1, a1_2)) else (some (false, a1_1, a1_2))) else (if a0 = 7 then (if a1_0 = true then (some (true, a1_1, false)) else (some (a1_2, a1_1, false))) else (if a0 = 8 then ((flow_Facts_ok.f a1_0 a1_1 a1_2).bind fun t133 => (some (t133, false, a1_2))) else ((flow_Facts_ok.f a1_0 a1_1 a1_2).bind fun t134 => (some (a1_2, false, t134))))))
set_option maxHeartbeats 8000000 in
set_option maxRecDepth 100000 in
theorem flow_unary.calls (a0 : Int) (a1_0 : Bool) (a1_1 : Bool) (a1_2 : Bool) (r1 : Bool) (r2 : Bool) (r3 : Bool) (w : World) (h : flow_unary.f a0 a1_0 a1_1 a1_2 = some (r1, r2, r3)) :
 Calls Try.prog 33 #[.int .i64 a0, .agg #[.bool a1_0, .bool a1_1, .bool a1_2]] w fun e w' => e = .returned (.agg #[.bool r1, .bool r2, .bool r3]) ∧ Below w.heap.size w w' := by
 have hu36 := Try.underlying36
 have HB := Qa.mk (Below.refl w.heap.size w)
 have H : (if a0 = 5 then (some (a1_2, a1_1, false)) else (if a0 = 6 then (if a1_0 = true then (some (a1_2, a1_1, a1_2)) else (some (false, a1_1, a1_2))) else (if a0 = 7 then (if a1_0 = true then (some (true, a1_1, false)) else (some (a1_2, a1_1, false))) else (if a0 = 8 then ((flow_Facts_ok.f a1_0 a1_1 a1_2).bind fun t133 => (some (t133, false, a1_2))) else ((flow_Facts_ok.f a1_0 a1_1 a1_2).bind fun t134 => (some (a1_2, false, t134))))))) = some (r1, r2, r3) := h
 clear h
 by_cases c3 : a0 = 5
 ·
  rw [if_pos c3] at H
  have c3b0 : (a0 == 5) = true := beq_iff_eq.mpr c3
  have c3b1 : (a0 != 5) = false := bne_eq_false_iff_eq.mpr c3
  clear c3
  simp only [Option.some.injEq, Prod.mk.injEq] at H
  obtain ⟨rfl, rfl, rfl⟩ := H
  go_enter Try.func33, Try.ntmps33
  go_wp2_with (first | ((with_reducible refine Qg1 (N := 3) rfl ?_); refine Qh1 ?hg (N := 3) ?hd (cs := #[.bool a1_0, .bool a1_1, .bool a1_2]) (t := 36) ?hr ?_; (case hd => rfl); (case hg => rfl); (case hr => first | (go_simp; done) | (go_simp; rfl)); intro gb131 hg w4 hbox hb; have n0_ := Qa.mk (Qv (by with_reducible repeat (first | exact HB.out | apply Qk | apply Ql | apply Qj)) hb); have n1_ := Qa.mk (hbox); have n2_ := Qa.mk ((by rw [hg]; exact (Qb1 (by with_reducible repeat (first | exact HB.out | apply Qk | apply Ql | apply Qj))) : w.heap.size ≤ gb131)); have n3_ := n2_; clear HB; have HB := n0_; have BK131 := n1_; have GW131 := n2_; have GE131 := n3_; clear n0_ n1_ n2_ n3_; clear hb hbox hg) | ((with_reducible refine Qg1 (N := 4) rfl ?_); refine Qh1 ?hg (N := 4) ?hd (cs := #[.bool false, .bool false, .bool false]) (t := 36) ?hr ?_; (case hd => rfl); (case hg => rfl); (case hr => first | (go_simp; done) | (go_simp; rfl)); intro gb132 hg w5 hbox hb; have n0_ := Qa.mk (Qs (g := gb131) (o := .cells #[.bool a1_0, .bool a1_1, .bool a1_2] 36 (0, 0)) (by (with_reducible repeat (first | refine Qd ?_ _ | refine Qb ?_ | refine Qc ?_ _)); exact BK131.out) hb); have n1_ := Qa.mk (Qv (by with_reducible repeat (first | exact HB.out | apply Qk | apply Ql | apply Qj | refine Qi ?_ GE131.out)) hb); have n2_ := Qa.mk (hbox); have n3_ := Qa.mk ((by rw [hg]; exact (Qb1 (by with_reducible repeat (first | exact HB.out | apply Qk | apply Ql | apply Qj | refine Qi ?_ GE131.out))) : w.heap.size ≤ gb132)); have n4_ := n3_; have n5_ := Qa.mk ((by rw [hg]; exact Nat.ne_of_lt (Qy (g := gb131) (o := .cells #[.bool a1_0, .bool a1_1, .bool a1_2] 36 (0, 0)) (by (with_reducible repeat (first | refine Qd ?_ _ | refine Qb ?_ | refine Qc ?_ _)); exact BK131.out)) : gb131 ≠ gb132)); have n6_ := Qa.mk ((by rw [hg]; exact Nat.ne_of_gt (Qy (g := gb131) (o := .cells #[.bool a1_0, .bool a1_1, .bool a1_2] 36 (0, 0)) (by (with_reducible repeat (first | refine Qd ?_ _ | refine Qb ?_ | refine Qc ?_ _)); exact BK131.out)) : gb132 ≠ gb131)); clear BK131; clear HB; have BK131 := n0_; have HB := n1_; have BK132 := n2_; have GW132 := n3_; have GE132 := n4_; have NB131_132 := n5_; have NB132_131 := n6_; clear n0_ n1_ n2_ n3_ n4_ n5_ n6_; clear hb hbox hg; have hnb6 := NB131_132.out; have hnc6 := NB132_131.out; have hcz7_0 : w5.cell? ⟨gb131, 0, none⟩ = some (.bool a1_0) := (Qe BK131.out 0).trans rfl; have hcz7_1 : w5.cell? ⟨gb131, 1, none⟩ = some (.bool a1_1) := (Qe BK131.out 1).trans rfl; have hcz7_2 : w5.cell? ⟨gb131, 2, none⟩ = some (.bool a1_2) := (Qe BK131.out 2).trans rfl; have hfz7_0 := Qf BK131.out 0; have hfz7_1 := Qf BK131.out 1; have hfz7_2 := Qf BK131.out 2; have hcz8_0 : w5.cell? ⟨gb132, 0, none⟩ = some (.bool false) := (Qe BK132.out 0).trans rfl; have hcz8_1 : w5.cell? ⟨gb132, 1, none⟩ = some (.bool false) := (Qe BK132.out 1).trans rfl; have hcz8_2 : w5.cell? ⟨gb132, 2, none⟩ = some (.bool false) := (Qe BK132.out 2).trans rfl; have hfz8_0 := Qf BK132.out 0; have hfz8_1 := Qf BK132.out 1; have hfz8_2 := Qf BK132.out 2))
  refine bodyPost_ret (results_cell_row rfl _ _ gb132 36 #[.bool a1_2, .bool a1_1, .bool false] (0, 0) _ rfl (by (with_reducible repeat (first | refine Qd ?_ _ | refine Qb ?_ | refine Qc ?_ _)); refine Qt (cs := #[.bool a1_2, .bool a1_1, .bool false]) ?_ 2 _ rfl; (with_reducible repeat (first | refine Qd ?_ _ | refine Qb ?_ | refine Qc ?_ _)); refine Qt (cs := #[.bool a1_2, .bool false, .bool false]) ?_ 1 _ rfl; (with_reducible repeat (first | refine Qd ?_ _ | refine Qb ?_ | refine Qc ?_ _)); refine Qt (cs := #[.bool false, .bool false, .bool false]) ?_ 0 _ rfl; (with_reducible repeat (first | refine Qd ?_ _ | refine Qb ?_ | refine Qc ?_ _)); exact BK132.out) Try.underlying36 rfl (by kernel_rfl)) rfl ?_
  exact ⟨by first | rfl | (simp [Qw, Qx] <;> rfl) | (simp [*, Qw, Qx] <;> rfl), by with_reducible repeat (first | exact HB.out | apply Qk | apply Ql | apply Qj | refine Qi ?_ GE131.out | refine Qi ?_ GE132.out)⟩
 rw [if_neg c3] at H
 have c3b0 : (a0 == 5) = false := beq_eq_false_iff_ne.mpr c3
 have c3b1 : (a0 != 5) = true := bne_iff_ne.mpr c3
 by_cases c9 : a0 = 6
 ·
  rw [if_pos c9] at H
  have c9b0 : (a0 == 6) = true := beq_iff_eq.mpr c9
  have c9b1 : (a0 != 6) = false := bne_eq_false_iff_eq.mpr c9
  clear c9
  by_cases c10 : a1_0 = true
  ·
   subst c10
   have H1 : (some (a1_2, a1_1, a1_2)) = some (r1, r2, r3) := by rw [if_pos rfl] at H; exact H
   clear H
   have H := H1
   clear H1
   simp only [Option.some.injEq, Prod.mk.injEq] at H
   obtain ⟨rfl, rfl, rfl⟩ := H
   go_enter Try.func33, Try.ntmps33
   go_wp2_with (first | ((with_reducible refine Qg1 (N := 3) rfl ?_); refine Qh1 ?hg (N := 3) ?hd (cs := #[.bool true, .bool a1_1, .bool a1_2]) (t := 36) ?hr ?_; (case hd => rfl); (case hg => rfl); (case hr => first | (go_simp; done) | (go_simp; rfl)); intro gb131 hg w11 hbox hb; have n0_ := Qa.mk (Qv (by with_reducible repeat (first | exact HB.out | apply Qk | apply Ql | apply Qj)) hb); have n1_ := Qa.mk (hbox); have n2_ := Qa.mk ((by rw [hg]; exact (Qb1 (by with_reducible repeat (first | exact HB.out | apply Qk | apply Ql | apply Qj))) : w.heap.size ≤ gb131)); have n3_ := n2_; clear HB; have HB := n0_; have BK131 := n1_; have GW131 := n2_; have GE131 := n3_; clear n0_ n1_ n2_ n3_; clear hb hbox hg) | ((with_reducible refine Qg1 (N := 4) rfl ?_); refine Qh1 ?hg (N := 4) ?hd (cs := #[.bool false, .bool false, .bool false]) (t := 36) ?hr ?_; (case hd => rfl); (case hg => rfl); (case hr => first | (go_simp; done) | (go_simp; rfl)); intro gb132 hg w12 hbox hb; have n0_ := Qa.mk (Qs (g := gb131) (o := .cells #[.bool true, .bool a1_1, .bool a1_2] 36 (0, 0)) (by (with_reducible repeat (first | refine Qd ?_ _ | refine Qb ?_ | refine Qc ?_ _)); exact BK131.out) hb); have n1_ := Qa.mk (Qv (by with_reducible repeat (first | exact HB.out | apply Qk | apply Ql | apply Qj | refine Qi ?_ GE131.out)) hb); have n2_ := Qa.mk (hbox); have n3_ := Qa.mk ((by rw [hg]; exact (Qb1 (by with_reducible repeat (first | exact HB.out | apply Qk | apply Ql | apply Qj | refine Qi ?_ GE131.out))) : w.heap.size ≤ gb132)); have n4_ := n3_; have n5_ := Qa.mk ((by rw [hg]; exact Nat.ne_of_lt (Qy (g := gb131) (o := .cells #[.bool true, .bool a1_1, .bool a1_2] 36 (0, 0)) (by (with_reducible repeat (first | refine Qd ?_ _ | refine Qb ?_ | refine Qc ?_ _)); exact BK131.out)) : gb131 ≠ gb132)); have n6_ := Qa.mk ((by rw [hg]; exact Nat.ne_of_gt (Qy (g := gb131) (o := .cells #[.bool true, .bool a1_1, .bool a1_2] 36 (0, 0)) (by (with_reducible repeat (first | refine Qd ?_ _ | refine Qb ?_ | refine Qc ?_ _)); exact BK131.out)) : gb132 ≠ gb131)); clear BK131; clear HB; have BK131 := n0_; have HB := n1_; have BK132 := n2_; have GW132 := n3_; have GE132 := n4_; have NB131_132 := n5_; have NB132_131 := n6_; clear n0_ n1_ n2_ n3_ n4_ n5_ n6_; clear hb hbox hg; have hnb13 := NB131_132.out; have hnc13 := NB132_131.out; have hcz14_0 : w12.cell? ⟨gb131, 0, none⟩ = some (.bool true) := (Qe BK131.out 0).trans rfl; have hcz14_1 : w12.cell? ⟨gb131, 1, none⟩ = some (.bool a1_1) := (Qe BK131.out 1).trans rfl; have hcz14_2 : w12.cell? ⟨gb131, 2, none⟩ = some (.bool a1_2) := (Qe BK131.out 2).trans rfl; have hfz14_0 := Qf BK131.out 0; have hfz14_1 := Qf BK131.out 1; have hfz14_2 := Qf BK131.out 2; have hcz15_0 : w12.cell? ⟨gb132, 0, none⟩ = some (.bool false) := (Qe BK132.out 0).trans rfl; have hcz15_1 : w12.cell? ⟨gb132, 1, none⟩ = some (.bool false) := (Qe BK132.out 1).trans rfl; have hcz15_2 : w12.cell? ⟨gb132, 2, none⟩ = some (.bool false) := (Qe BK132.out 2).trans rfl; have hfz15_0 := Qf BK132.out 0; have hfz15_1 := Qf BK132.out 1; have hfz15_2 := Qf BK132.out 2))
   refine bodyPost_ret (results_cell_row rfl _ _ gb132 36 #[.bool a1_2, .bool a1_1, .bool a1_2] (0, 0) _ rfl (by (with_reducible repeat (first | refine Qd ?_ _ | refine Qb ?_ | refine Qc ?_ _)); refine Qt (cs := #[.bool a1_2, .bool a1_1, .bool false]) ?_ 2 _ rfl; (with_reducible repeat (first | refine Qd ?_ _ | refine Qb ?_ | refine Qc ?_ _)); refine Qt (cs := #[.bool a1_2, .bool false, .bool false]) ?_ 1 _ rfl; (with_reducible repeat (first | refine Qd ?_ _ | refine Qb ?_ | refine Qc ?_ _)); refine Qt (cs := #[.bool false, .bool false, .bool false]) ?_ 0 _ rfl; (with_reducible repeat (first | refine Qd ?_ _ | refine Qb ?_ | refine Qc ?_ _)); exact BK132.out) Try.underlying36 rfl (by kernel_rfl)) rfl ?_
   exact ⟨by first | rfl | (simp [Qw, Qx] <;> rfl) | (simp [*, Qw, Qx] <;> rfl), by with_reducible repeat (first | exact HB.out | apply Qk | apply Ql | apply Qj | refine Qi ?_ GE131.out | refine Qi ?_ GE132.out)⟩
  replace c10 := Bool.eq_false_iff.mpr c10
  subst c10
  have H1 : (some (false, a1_1, a1_2)) = some (r1, r2, r3) := by rw [if_neg (show ¬ (false = true) by decide)] at H; exact H
  clear H
  have H := H1
  clear H1
  simp only [Option.some.injEq, Prod.mk.injEq] at H
  obtain ⟨rfl, rfl, rfl⟩ := H
  go_enter Try.func33, Try.ntmps33
  go_wp2_with (first | ((with_reducible refine Qg1 (N := 3) rfl ?_); refine Qh1 ?hg (N := 3) ?hd (cs := #[.bool false, .bool a1_1, .bool a1_2]) (t := 36) ?hr ?_; (case hd => rfl); (case hg => rfl); (case hr => first | (go_simp; done) | (go_simp; rfl)); intro gb131 hg w16 hbox hb; have n0_ := Qa.mk (Qv (by with_reducible repeat (first | exact HB.out | apply Qk | apply Ql | apply Qj)) hb); have n1_ := Qa.mk (hbox); have n2_ := Qa.mk ((by rw [hg]; exact (Qb1 (by with_reducible repeat (first | exact HB.out | apply Qk | apply Ql | apply Qj))) : w.heap.size ≤ gb131)); have n3_ := n2_; clear HB; have HB := n0_; have BK131 := n1_; have GW131 := n2_; have GE131 := n3_; clear n0_ n1_ n2_ n3_; clear hb hbox hg) | ((with_reducible refine Qg1 (N := 4) rfl ?_); refine Qh1 ?hg (N := 4) ?hd (cs := #[.bool false, .bool false, .bool false]) (t := 36) ?hr ?_; (case hd => rfl); (case hg => rfl); (case hr => first | (go_simp; done) | (go_simp; rfl)); intro gb132 hg w17 hbox hb; have n0_ := Qa.mk (Qs (g := gb131) (o := .cells #[.bool false, .bool a1_1, .bool a1_2] 36 (0, 0)) (by (with_reducible repeat (first | refine Qd ?_ _ | refine Qb ?_ | refine Qc ?_ _)); exact BK131.out) hb); have n1_ := Qa.mk (Qv (by with_reducible repeat (first | exact HB.out | apply Qk | apply Ql | apply Qj | refine Qi ?_ GE131.out)) hb); have n2_ := Qa.mk (hbox); have n3_ := Qa.mk ((by rw [hg]; exact (Qb1 (by with_reducible repeat (first | exact HB.out | apply Qk | apply Ql | apply Qj | refine Qi ?_ GE131.out))) : w.heap.size ≤ gb132)); have n4_ := n3_; have n5_ := Qa.mk ((by rw [hg]; exact Nat.ne_of_lt (Qy (g := gb131) (o := .cells #[.bool false, .bool a1_1, .bool a1_2] 36 (0, 0)) (by (with_reducible repeat (first | refine Qd ?_ _ | refine Qb ?_ | refine Qc ?_ _)); exact BK131.out)) : gb131 ≠ gb132)); have n6_ := Qa.mk ((by rw [hg]; exact Nat.ne_of_gt (Qy (g := gb131) (o := .cells #[.bool false, .bool a1_1, .bool a1_2] 36 (0, 0)) (by (with_reducible repeat (first | refine Qd ?_ _ | refine Qb ?_ | refine Qc ?_ _)); exact BK131.out)) : gb132 ≠ gb131)); clear BK131; clear HB; have BK131 := n0_; have HB := n1_; have BK132 := n2_; have GW132 := n3_; have GE132 := n4_; have NB131_132 := n5_; have NB132_131 := n6_; clear n0_ n1_ n2_ n3_ n4_ n5_ n6_; clear hb hbox hg; have hnb18 := NB131_132.out; have hnc18 := NB132_131.out; have hcz19_0 : w17.cell? ⟨gb131, 0, none⟩ = some (.bool false) := (Qe BK131.out 0).trans rfl; have hcz19_1 : w17.cell? ⟨gb131, 1, none⟩ = some (.bool a1_1) := (Qe BK131.out 1).trans rfl; have hcz19_2 : w17.cell? ⟨gb131, 2, none⟩ = some (.bool a1_2) := (Qe BK131.out 2).trans rfl; have hfz19_0 := Qf BK131.out 0; have hfz19_1 := Qf BK131.out 1; have hfz19_2 := Qf BK131.out 2; have hcz20_0 : w17.cell? ⟨gb132, 0, none⟩ = some (.bool false) := (Qe BK132.out 0).trans rfl; have hcz20_1 : w17.cell? ⟨gb132, 1, none⟩ = some (.bool false) := (Qe BK132.out 1).trans rfl; have hcz20_2 : w17.cell? ⟨gb132, 2, none⟩ = some (.bool false) := (Qe BK132.out 2).trans rfl; have hfz20_0 := Qf BK132.out 0; have hfz20_1 := Qf BK132.out 1; have hfz20_2 := Qf BK132.out 2))
  refine bodyPost_ret (results_cell_row rfl _ _ gb132 36 #[.bool false, .bool a1_1, .bool a1_2] (0, 0) _ rfl (by (with_reducible repeat (first | refine Qd ?_ _ | refine Qb ?_ | refine Qc ?_ _)); refine Qt (cs := #[.bool false, .bool a1_1, .bool false]) ?_ 2 _ rfl; (with_reducible repeat (first | refine Qd ?_ _ | refine Qb ?_ | refine Qc ?_ _)); refine Qt (cs := #[.bool false, .bool false, .bool false]) ?_ 1 _ rfl; (with_reducible repeat (first | refine Qd ?_ _ | refine Qb ?_ | refine Qc ?_ _)); refine Qt (cs := #[.bool false, .bool false, .bool false]) ?_ 0 _ rfl; (with_reducible repeat (first | refine Qd ?_ _ | refine Qb ?_ | refine Qc ?_ _)); exact BK132.out) Try.underlying36 rfl (by kernel_rfl)) rfl ?_
  exact ⟨by first | rfl | (simp [Qw, Qx] <;> rfl) | (simp [*, Qw, Qx] <;> rfl), by with_reducible repeat (first | exact HB.out | apply Qk | apply Ql | apply Qj | refine Qi ?_ GE131.out | refine Qi ?_ GE132.out)⟩
 rw [if_neg c9] at H
 have c9b0 : (a0 == 6) = false := beq_eq_false_iff_ne.mpr c9
 have c9b1 : (a0 != 6) = true := bne_iff_ne.mpr c9
 by_cases c21 : a0 = 7
 ·
  rw [if_pos c21] at H
  have c21b0 : (a0 == 7) = true := beq_iff_eq.mpr c21
  have c21b1 : (a0 != 7) = false := bne_eq_false_iff_eq.mpr c21
  clear c21
  by_cases c22 : a1_0 = true
  ·
   subst c22
   have H1 : (some (true, a1_1, false)) = some (r1, r2, r3) := by rw [if_pos rfl] at H; exact H
   clear H
   have H := H1
   clear H1
   simp only [Option.some.injEq, Prod.mk.injEq] at H
   obtain ⟨rfl, rfl, rfl⟩ := H
   go_enter Try.func33, Try.ntmps33
   go_wp2_with (first | ((with_reducible refine Qg1 (N := 3) rfl ?_); refine Qh1 ?hg (N := 3) ?hd (cs := #[.bool true, .bool a1_1, .bool a1_2]) (t := 36) ?hr ?_; (case hd => rfl); (case hg => rfl); (case hr => first | (go_simp; done) | (go_simp; rfl)); intro gb131 hg w23 hbox hb; have n0_ := Qa.mk (Qv (by with_reducible repeat (first | exact HB.out | apply Qk | apply Ql | apply Qj)) hb); have n1_ := Qa.mk (hbox); have n2_ := Qa.mk ((by rw [hg]; exact (Qb1 (by with_reducible repeat (first | exact HB.out | apply Qk | apply Ql | apply Qj))) : w.heap.size ≤ gb131)); have n3_ := n2_; clear HB; have HB := n0_; have BK131 := n1_; have GW131 := n2_; have GE131 := n3_; clear n0_ n1_ n2_ n3_; clear hb hbox hg) | ((with_reducible refine Qg1 (N := 4) rfl ?_); refine Qh1 ?hg (N := 4) ?hd (cs := #[.bool false, .bool false, .bool false]) (t := 36) ?hr ?_; (case hd => rfl); (case hg => rfl); (case hr => first | (go_simp; done) | (go_simp; rfl)); intro gb132 hg w24 hbox hb; have n0_ := Qa.mk (Qs (g := gb131) (o := .cells #[.bool true, .bool a1_1, .bool a1_2] 36 (0, 0)) (by (with_reducible repeat (first | refine Qd ?_ _ | refine Qb ?_ | refine Qc ?_ _)); exact BK131.out) hb); have n1_ := Qa.mk (Qv (by with_reducible repeat (first | exact HB.out | apply Qk | apply Ql | apply Qj | refine Qi ?_ GE131.out)) hb); have n2_ := Qa.mk (hbox); have n3_ := Qa.mk ((by rw [hg]; exact (Qb1 (by with_reducible repeat (first | exact HB.out | apply Qk | apply Ql | apply Qj | refine Qi ?_ GE131.out))) : w.heap.size ≤ gb132)); have n4_ := n3_; have n5_ := Qa.mk ((by rw [hg]; exact Nat.ne_of_lt (Qy (g := gb131) (o := .cells #[.bool true, .bool a1_1, .bool a1_2] 36 (0, 0)) (by (with_reducible repeat (first | refine Qd ?_ _ | refine Qb ?_ | refine Qc ?_ _)); exact BK131.out)) : gb131 ≠ gb132)); have n6_ := Qa.mk ((by rw [hg]; exact Nat.ne_of_gt (Qy (g := gb131) (o := .cells #[.bool true, .bool a1_1, .bool a1_2] 36 (0, 0)) (by (with_reducible repeat (first | refine Qd ?_ _ | refine Qb ?_ | refine Qc ?_ _)); exact BK131.out)) : gb132 ≠ gb131)); clear BK131; clear HB; have BK131 := n0_; have HB := n1_; have BK132 := n2_; have GW132 := n3_; have GE132 := n4_; have NB131_132 := n5_; have NB132_131 := n6_; clear n0_ n1_ n2_ n3_ n4_ n5_ n6_; clear hb hbox hg; have hnb25 := NB131_132.out; have hnc25 := NB132_131.out; have hcz26_0 : w24.cell? ⟨gb131, 0, none⟩ = some (.bool true) := (Qe BK131.out 0).trans rfl; have hcz26_1 : w24.cell? ⟨gb131, 1, none⟩ = some (.bool a1_1) := (Qe BK131.out 1).trans rfl; have hcz26_2 : w24.cell? ⟨gb131, 2, none⟩ = some (.bool a1_2) := (Qe BK131.out 2).trans rfl; have hfz26_0 := Qf BK131.out 0; have hfz26_1 := Qf BK131.out 1; have hfz26_2 := Qf BK131.out 2; have hcz27_0 : w24.cell? ⟨gb132, 0, none⟩ = some (.bool false) := (Qe BK132.out 0).trans rfl; have hcz27_1 : w24.cell? ⟨gb132, 1, none⟩ = some (.bool false) := (Qe BK132.out 1).trans rfl; have hcz27_2 : w24.cell? ⟨gb132, 2, none⟩ = some (.bool false) := (Qe BK132.out 2).trans rfl; have hfz27_0 := Qf BK132.out 0; have hfz27_1 := Qf BK132.out 1; have hfz27_2 := Qf BK132.out 2))
   refine bodyPost_ret (results_cell_row rfl _ _ gb132 36 #[.bool true, .bool a1_1, .bool false] (0, 0) _ rfl (by (with_reducible repeat (first | refine Qd ?_ _ | refine Qb ?_ | refine Qc ?_ _)); refine Qt (cs := #[.bool true, .bool a1_1, .bool false]) ?_ 2 _ rfl; (with_reducible repeat (first | refine Qd ?_ _ | refine Qb ?_ | refine Qc ?_ _)); refine Qt (cs := #[.bool true, .bool false, .bool false]) ?_ 1 _ rfl; (with_reducible repeat (first | refine Qd ?_ _ | refine Qb ?_ | refine Qc ?_ _)); refine Qt (cs := #[.bool false, .bool false, .bool false]) ?_ 0 _ rfl; (with_reducible repeat (first | refine Qd ?_ _ | refine Qb ?_ | refine Qc ?_ _)); exact BK132.out) Try.underlying36 rfl (by kernel_rfl)) rfl ?_
   exact ⟨by first | rfl | (simp [Qw, Qx] <;> rfl) | (simp [*, Qw, Qx] <;> rfl), by with_reducible repeat (first | exact HB.out | apply Qk | apply Ql | apply Qj | refine Qi ?_ GE131.out | refine Qi ?_ GE132.out)⟩
  replace c22 := Bool.eq_false_iff.mpr c22
  subst c22
  have H1 : (some (a1_2, a1_1, false)) = some (r1, r2, r3) := by rw [if_neg (show ¬ (false = true) by decide)] at H; exact H
  clear H
  have H := H1
  clear H1
  simp only [Option.some.injEq, Prod.mk.injEq] at H
  obtain ⟨rfl, rfl, rfl⟩ := H
  go_enter Try.func33, Try.ntmps33
  go_wp2_with (first | ((with_reducible refine Qg1 (N := 3) rfl ?_); refine Qh1 ?hg (N := 3) ?hd (cs := #[.bool false, .bool a1_1, .bool a1_2]) (t := 36) ?hr ?_; (case hd => rfl); (case hg => rfl); (case hr => first | (go_simp; done) | (go_simp; rfl)); intro gb131 hg w28 hbox hb; have n0_ := Qa.mk (Qv (by with_reducible repeat (first | exact HB.out | apply Qk | apply Ql | apply Qj)) hb); have n1_ := Qa.mk (hbox); have n2_ := Qa.mk ((by rw [hg]; exact (Qb1 (by with_reducible repeat (first | exact HB.out | apply Qk | apply Ql | apply Qj))) : w.heap.size ≤ gb131)); have n3_ := n2_; clear HB; have HB := n0_; have BK131 := n1_; have GW131 := n2_; have GE131 := n3_; clear n0_ n1_ n2_ n3_; clear hb hbox hg) | ((with_reducible refine Qg1 (N := 4) rfl ?_); refine Qh1 ?hg (N := 4) ?hd (cs := #[.bool false, .bool false, .bool false]) (t := 36) ?hr ?_; (case hd => rfl); (case hg => rfl); (case hr => first | (go_simp; done) | (go_simp; rfl)); intro gb132 hg w29 hbox hb; have n0_ := Qa.mk (Qs (g := gb131) (o := .cells #[.bool false, .bool a1_1, .bool a1_2] 36 (0, 0)) (by (with_reducible repeat (first | refine Qd ?_ _ | refine Qb ?_ | refine Qc ?_ _)); exact BK131.out) hb); have n1_ := Qa.mk (Qv (by with_reducible repeat (first | exact HB.out | apply Qk | apply Ql | apply Qj | refine Qi ?_ GE131.out)) hb); have n2_ := Qa.mk (hbox); have n3_ := Qa.mk ((by rw [hg]; exact (Qb1 (by with_reducible repeat (first | exact HB.out | apply Qk | apply Ql | apply Qj | refine Qi ?_ GE131.out))) : w.heap.size ≤ gb132)); have n4_ := n3_; have n5_ := Qa.mk ((by rw [hg]; exact Nat.ne_of_lt (Qy (g := gb131) (o := .cells #[.bool false, .bool a1_1, .bool a1_2] 36 (0, 0)) (by (with_reducible repeat (first | refine Qd ?_ _ | refine Qb ?_ | refine Qc ?_ _)); exact BK131.out)) : gb131 ≠ gb132)); have n6_ := Qa.mk ((by rw [hg]; exact Nat.ne_of_gt (Qy (g := gb131) (o := .cells #[.bool false, .bool a1_1, .bool a1_2] 36 (0, 0)) (by (with_reducible repeat (first | refine Qd ?_ _ | refine Qb ?_ | refine Qc ?_ _)); exact BK131.out)) : gb132 ≠ gb131)); clear BK131; clear HB; have BK131 := n0_; have HB := n1_; have BK132 := n2_; have GW132 := n3_; have GE132 := n4_; have NB131_132 := n5_; have NB132_131 := n6_; clear n0_ n1_ n2_ n3_ n4_ n5_ n6_; clear hb hbox hg; have hnb30 := NB131_132.out; have hnc30 := NB132_131.out; have hcz31_0 : w29.cell? ⟨gb131, 0, none⟩ = some (.bool false) := (Qe BK131.out 0).trans rfl; have hcz31_1 : w29.cell? ⟨gb131, 1, none⟩ = some (.bool a1_1) := (Qe BK131.out 1).trans rfl; have hcz31_2 : w29.cell? ⟨gb131, 2, none⟩ = some (.bool a1_2) := (Qe BK131.out 2).trans rfl; have hfz31_0 := Qf BK131.out 0; have hfz31_1 := Qf BK131.out 1; have hfz31_2 := Qf BK131.out 2; have hcz32_0 : w29.cell? ⟨gb132, 0, none⟩ = some (.bool false) := (Qe BK132.out 0).trans rfl; have hcz32_1 : w29.cell? ⟨gb132, 1, none⟩ = some (.bool false) := (Qe BK132.out 1).trans rfl; have hcz32_2 : w29.cell? ⟨gb132, 2, none⟩ = some (.bool false) := (Qe BK132.out 2).trans rfl; have hfz32_0 := Qf BK132.out 0; have hfz32_1 := Qf BK132.out 1; have hfz32_2 := Qf BK132.out 2))
  refine bodyPost_ret (results_cell_row rfl _ _ gb132 36 #[.bool a1_2, .bool a1_1, .bool false] (0, 0) _ rfl (by (with_reducible repeat (first | refine Qd ?_ _ | refine Qb ?_ | refine Qc ?_ _)); refine Qt (cs := #[.bool a1_2, .bool a1_1, .bool false]) ?_ 2 _ rfl; (with_reducible repeat (first | refine Qd ?_ _ | refine Qb ?_ | refine Qc ?_ _)); refine Qt (cs := #[.bool a1_2, .bool false, .bool false]) ?_ 1 _ rfl; (with_reducible repeat (first | refine Qd ?_ _ | refine Qb ?_ | refine Qc ?_ _)); refine Qt (cs := #[.bool false, .bool false, .bool false]) ?_ 0 _ rfl; (with_reducible repeat (first | refine Qd ?_ _ | refine Qb ?_ | refine Qc ?_ _)); exact BK132.out) Try.underlying36 rfl (by kernel_rfl)) rfl ?_
  exact ⟨by first | rfl | (simp [Qw, Qx] <;> rfl) | (simp [*, Qw, Qx] <;> rfl), by with_reducible repeat (first | exact HB.out | apply Qk | apply Ql | apply Qj | refine Qi ?_ GE131.out | refine Qi ?_ GE132.out)⟩
 rw [if_neg c21] at H
 have c21b0 : (a0 == 7) = false := beq_eq_false_iff_ne.mpr c21
 have c21b1 : (a0 != 7) = true := bne_iff_ne.mpr c21
 by_cases c33 : a0 = 8
 ·
  rw [if_pos c33] at H
  have c33b0 : (a0 == 8) = true := beq_iff_eq.mpr c33
  have c33b1 : (a0 != 8) = false := bne_eq_false_iff_eq.mpr c33
  clear c33
  replace H := Option.bind_eq_some_iff.mp H
  obtain ⟨t133, A340, H⟩ := H
  replace H : (some (t133, false, a1_2)) = some (r1, r2, r3) := H
  have A34 := Qa.mk A340
  clear A340
  simp only [Option.some.injEq, Prod.mk.injEq] at H
  obtain ⟨rfl, rfl, rfl⟩ := H
  go_enter Try.func33, Try.ntmps33
  try go_wp2_with (first | ((with_reducible refine Qg1 (N := 3) rfl ?_); refine Qh1 ?hg (N := 3) ?hd (cs := #[.bool a1_0, .bool a1_1, .bool a1_2]) (t := 36) ?hr ?_; (case hd => rfl); (case hg => rfl); (case hr => first | (go_simp; done) | (go_simp; rfl)); intro gb131 hg w35 hbox hb; have n0_ := Qa.mk (Qv (by with_reducible repeat (first | exact HB.out | apply Qk | apply Ql | apply Qj)) hb); have n1_ := Qa.mk (hbox); have n2_ := Qa.mk ((by rw [hg]; exact (Qb1 (by with_reducible repeat (first | exact HB.out | apply Qk | apply Ql | apply Qj))) : w.heap.size ≤ gb131)); have n3_ := n2_; clear HB; have HB := n0_; have BK131 := n1_; have GW131 := n2_; have GE131 := n3_; clear n0_ n1_ n2_ n3_; clear hb hbox hg) | ((with_reducible refine Qg1 (N := 4) rfl ?_); refine Qh1 ?hg (N := 4) ?hd (cs := #[.bool false, .bool false, .bool false]) (t := 36) ?hr ?_; (case hd => rfl); (case hg => rfl); (case hr => first | (go_simp; done) | (go_simp; rfl)); intro gb132 hg w36 hbox hb; have n0_ := Qa.mk (Qs (g := gb131) (o := .cells #[.bool a1_0, .bool a1_1, .bool a1_2] 36 (0, 0)) (by (with_reducible repeat (first | refine Qd ?_ _ | refine Qb ?_ | refine Qc ?_ _)); exact BK131.out) hb); have n1_ := Qa.mk (Qv (by with_reducible repeat (first | exact HB.out | apply Qk | apply Ql | apply Qj | refine Qi ?_ GE131.out)) hb); have n2_ := Qa.mk (hbox); have n3_ := Qa.mk ((by rw [hg]; exact (Qb1 (by with_reducible repeat (first | exact HB.out | apply Qk | apply Ql | apply Qj | refine Qi ?_ GE131.out))) : w.heap.size ≤ gb132)); have n4_ := n3_; have n5_ := Qa.mk ((by rw [hg]; exact Nat.ne_of_lt (Qy (g := gb131) (o := .cells #[.bool a1_0, .bool a1_1, .bool a1_2] 36 (0, 0)) (by (with_reducible repeat (first | refine Qd ?_ _ | refine Qb ?_ | refine Qc ?_ _)); exact BK131.out)) : gb131 ≠ gb132)); have n6_ := Qa.mk ((by rw [hg]; exact Nat.ne_of_gt (Qy (g := gb131) (o := .cells #[.bool a1_0, .bool a1_1, .bool a1_2] 36 (0, 0)) (by (with_reducible repeat (first | refine Qd ?_ _ | refine Qb ?_ | refine Qc ?_ _)); exact BK131.out)) : gb132 ≠ gb131)); clear BK131; clear HB; have BK131 := n0_; have HB := n1_; have BK132 := n2_; have GW132 := n3_; have GE132 := n4_; have NB131_132 := n5_; have NB132_131 := n6_; clear n0_ n1_ n2_ n3_ n4_ n5_ n6_; clear hb hbox hg))
  have n0_ := Qa.mk (Qb BK131.out)
  have n1_ := Qa.mk (Qb BK132.out)
  have n2_ := Qa.mk (Qj HB.out)
  clear BK131
  clear BK132
  clear HB
  have BK131 := n0_
  have BK132 := n1_
  have HB := n2_
  clear n0_ n1_ n2_
  refine start_ (n := 6) (S := fun w' => w'.cell? ⟨gb131, 0, none⟩ = some (.bool a1_0) ∧ w'.cell? ⟨gb131, 1, none⟩ = some (.bool a1_1) ∧ w'.cell? ⟨gb131, 2, none⟩ = some (.bool a1_2)) (ds := []) #[Y, Y, Y, Y, Y, Y] (by kernel_rfl) rfl rfl ⟨(Qe BK131.out 0).trans rfl, (Qe BK131.out 1).trans rfl, (Qe BK131.out 2).trans rfl⟩ (fun hHeld => ?_)
  generalize w36.drew = w37 at BK131 BK132 HB hHeld ⊢
  refine pure_ (i := 2) (N := some 41) (v := ?_) (a' := ?_) #[Y, Y, J, Y, Y, Y] rfl rfl (by kernel_rfl) (fun _ _ _ h => h) (Or.inl ⟨by rfl, ?_⟩) ?_ ?_
  rotate_left
  ·
   intro w'
   go_simp
   with_reducible rfl
  rotate_left
  ·
   simp only [Act.put, List.setIfInBounds_toArray, List.set_cons_zero, List.set_cons_succ, i64_w, i32_w]
   rfl
  refine take_ (i := 0) (N := some 39) (v := ?_) (a' := ?_) #[J, Y, J, Y, Y, Y] rfl rfl (by kernel_rfl) (fun _ _ _ h => h) (Or.inl ⟨by rfl, ?_⟩) hHeld ?_ ?_
  rotate_left
  ·
   rintro w' ⟨s0, s1, s2⟩
   go_simp
   with_reducible rfl
  rotate_left
  ·
   simp only [Act.put, List.setIfInBounds_toArray, List.set_cons_zero, List.set_cons_succ, i64_w, i32_w]
   rfl
  refine take_ (i := 3) (N := some 42) (v := ?_) (a' := ?_) #[J, Y, J, J, Y, Y] rfl rfl (by kernel_rfl) (fun _ _ _ h => h) (Or.inl ⟨by rfl, ?_⟩) hHeld ?_ ?_
  rotate_left
  ·
   rintro w' ⟨s0, s1, s2⟩
   go_simp
   with_reducible rfl
  rotate_left
  ·
   simp only [Act.put, List.setIfInBounds_toArray, List.set_cons_zero, List.set_cons_succ, i64_w, i32_w]
   rfl
  refine one_ (i := 1) (N := some 40) #[J, J, J, J, Y, Y] rfl rfl (by kernel_rfl) (by decide) (fun K hK => ?_)
  refine goes_ Try.func40 (by kernel_rfl) rfl #[.agg #[.bool a1_0, .bool a1_1, .bool a1_2]] (by rfl) rfl rfl (by (try simp only [List.map_toArray, List.map_cons, List.map_nil]); first | done | rfl | (simp only [List.length_drop, List.length_take]; rfl)) ?_
  with_reducible refine (flow_Facts_ok.calls a1_0 a1_1 a1_2 t133 _ A34.out).mono ?_
  rintro e w38 ⟨rfl, hb⟩
  refine ⟨_, rfl, ?_⟩
  have n0_ := Qa.mk (Qs (g := gb131) (o := .cells #[.bool a1_0, .bool a1_1, .bool a1_2] 36 (0, 0)) (by (with_reducible repeat (first | refine Qd ?_ _ | refine Qb ?_ | refine Qc ?_ _)); exact BK131.out) hb)
  have n1_ := Qa.mk (Qs (g := gb132) (o := .cells #[.bool false, .bool false, .bool false] 36 (0, 0)) (by (with_reducible repeat (first | refine Qd ?_ _ | refine Qb ?_ | refine Qc ?_ _)); exact BK132.out) hb)
  have n2_ := Qa.mk (Qv (by with_reducible repeat (first | exact HB.out | apply Qk | apply Ql | apply Qj | refine Qi ?_ GE131.out | refine Qi ?_ GE132.out)) hb)
  clear BK131
  clear BK132
  clear HB
  have BK131 := n0_
  have BK132 := n1_
  have HB := n2_
  clear n0_ n1_ n2_
  (try clear hb; try clear hb2; try clear hk; try clear hi)
  refine hK.out _ _ ⟨(Qe BK131.out 0).trans rfl, (Qe BK131.out 1).trans rfl, (Qe BK131.out 2).trans rfl⟩ (fun hHeld => ?_)
  clear hK K
  refine norm_ (a' := ?_) ?_ ?_
  rotate_left
  ·
   show Act.put _ (some 40) _ = _
   simp only [Act.put, List.setIfInBounds_toArray, List.set_cons_zero, List.set_cons_succ, i64_w, i32_w]
   rfl
  refine pure_ (i := 4) (N := some 43) (v := ?_) (a' := ?_) #[J, J, J, J, J, Y] rfl rfl (by kernel_rfl) (fun _ _ _ h => h) (Or.inl ⟨by rfl, ?_⟩) ?_ ?_
  rotate_left
  ·
   intro w'
   go_simp
   with_reducible rfl
  rotate_left
  ·
   simp only [Act.put, List.setIfInBounds_toArray, List.set_cons_zero, List.set_cons_succ, i64_w, i32_w]
   rfl
  refine one_ (i := 5) (N := none) #[J, J, J, J, J, J] rfl rfl (by kernel_rfl) (by decide) (fun K hK => ?_)
  have hs39 : w38.cell? ⟨gb132, 0, none⟩ = some (.bool false) := (Qe BK132.out 0).trans rfl
  have hfs39 := Qf BK132.out 0
  have hns39_0 := NB131_132.out
  have hms39_0 := NB132_131.out
  have hs40 : w38.cell? ⟨gb132, 1, none⟩ = some (.bool false) := (Qe BK132.out 1).trans rfl
  have hfs40 := Qf BK132.out 1
  have hns40_0 := NB131_132.out
  have hms40_0 := NB132_131.out
  have hs41 : w38.cell? ⟨gb132, 2, none⟩ = some (.bool false) := (Qe BK132.out 2).trans rfl
  have hfs41 := Qf BK132.out 2
  have hns41_0 := NB131_132.out
  have hms41_0 := NB132_131.out
  refine skip_ (w1 := ?_) (by rfl) rfl ?_ ?_
  rotate_left
  ·
   go_simp
   rfl
  refine hK.out _ _ ⟨((cell_far (p := ⟨gb132, _, none⟩) NB131_132.out _).trans (((cell_far (p := ⟨gb132, _, none⟩) NB131_132.out _).trans (((cell_far (p := ⟨gb132, _, none⟩) NB131_132.out _).trans (hHeld.1)))))), ((cell_far (p := ⟨gb132, _, none⟩) NB131_132.out _).trans (((cell_far (p := ⟨gb132, _, none⟩) NB131_132.out _).trans (((cell_far (p := ⟨gb132, _, none⟩) NB131_132.out _).trans (hHeld.2.1)))))), ((cell_far (p := ⟨gb132, _, none⟩) NB131_132.out _).trans (((cell_far (p := ⟨gb132, _, none⟩) NB131_132.out _).trans (((cell_far (p := ⟨gb132, _, none⟩) NB131_132.out _).trans (hHeld.2.2))))))⟩ (fun hHeld => ?_)
  clear hK K
  refine done_ (by kernel_rfl) ?_
  try go_wp2
  refine bodyPost_ret (results_cell_row rfl _ _ gb132 36 #[.bool t133, .bool false, .bool a1_2] (0, 0) _ rfl (by (with_reducible repeat (first | refine Qd ?_ _ | refine Qb ?_ | refine Qc ?_ _)); refine Qt (cs := #[.bool t133, .bool false, .bool false]) ?_ 2 _ rfl; (with_reducible repeat (first | refine Qd ?_ _ | refine Qb ?_ | refine Qc ?_ _)); refine Qt (cs := #[.bool t133, .bool false, .bool false]) ?_ 1 _ rfl; (with_reducible repeat (first | refine Qd ?_ _ | refine Qb ?_ | refine Qc ?_ _)); refine Qt (cs := #[.bool false, .bool false, .bool false]) ?_ 0 _ rfl; (with_reducible repeat (first | refine Qd ?_ _ | refine Qb ?_ | refine Qc ?_ _)); exact BK132.out) Try.underlying36 rfl (by kernel_rfl)) rfl ?_
  exact ⟨by first | rfl | (simp [Qw, Qx] <;> rfl) | (simp [*, Qw, Qx] <;> rfl), by with_reducible repeat (first | exact HB.out | apply Qk | apply Ql | apply Qj | refine Qi ?_ GE131.out | refine Qi ?_ GE132.out)⟩
 rw [if_neg c33] at H
 have c33b0 : (a0 == 8) = false := beq_eq_false_iff_ne.mpr c33
 have c33b1 : (a0 != 8) = true := bne_iff_ne.mpr c33
 replace H := Option.bind_eq_some_iff.mp H
 obtain ⟨t134, A420, H⟩ := H
 replace H : (some (a1_2, false, t134)) = some (r1, r2, r3) := H
 have A42 := Qa.mk A420
 clear A420
 simp only [Option.some.injEq, Prod.mk.injEq] at H
 obtain ⟨rfl, rfl, rfl⟩ := H
 go_enter Try.func33, Try.ntmps33
 try go_wp2_with (first | ((with_reducible refine Qg1 (N := 3) rfl ?_); refine Qh1 ?hg (N := 3) ?hd (cs := #[.bool a1_0, .bool a1_1, .bool a1_2]) (t := 36) ?hr ?_; (case hd => rfl); (case hg => rfl); (case hr => first | (go_simp; done) | (go_simp; rfl)); intro gb131 hg w43 hbox hb; have n0_ := Qa.mk (Qv (by with_reducible repeat (first | exact HB.out | apply Qk | apply Ql | apply Qj)) hb); have n1_ := Qa.mk (hbox); have n2_ := Qa.mk ((by rw [hg]; exact (Qb1 (by with_reducible repeat (first | exact HB.out | apply Qk | apply Ql | apply Qj))) : w.heap.size ≤ gb131)); have n3_ := n2_; clear HB; have HB := n0_; have BK131 := n1_; have GW131 := n2_; have GE131 := n3_; clear n0_ n1_ n2_ n3_; clear hb hbox hg) | ((with_reducible refine Qg1 (N := 4) rfl ?_); refine Qh1 ?hg (N := 4) ?hd (cs := #[.bool false, .bool false, .bool false]) (t := 36) ?hr ?_; (case hd => rfl); (case hg => rfl); (case hr => first | (go_simp; done) | (go_simp; rfl)); intro gb132 hg w44 hbox hb; have n0_ := Qa.mk (Qs (g := gb131) (o := .cells #[.bool a1_0, .bool a1_1, .bool a1_2] 36 (0, 0)) (by (with_reducible repeat (first | refine Qd ?_ _ | refine Qb ?_ | refine Qc ?_ _)); exact BK131.out) hb); have n1_ := Qa.mk (Qv (by with_reducible repeat (first | exact HB.out | apply Qk | apply Ql | apply Qj | refine Qi ?_ GE131.out)) hb); have n2_ := Qa.mk (hbox); have n3_ := Qa.mk ((by rw [hg]; exact (Qb1 (by with_reducible repeat (first | exact HB.out | apply Qk | apply Ql | apply Qj | refine Qi ?_ GE131.out))) : w.heap.size ≤ gb132)); have n4_ := n3_; have n5_ := Qa.mk ((by rw [hg]; exact Nat.ne_of_lt (Qy (g := gb131) (o := .cells #[.bool a1_0, .bool a1_1, .bool a1_2] 36 (0, 0)) (by (with_reducible repeat (first | refine Qd ?_ _ | refine Qb ?_ | refine Qc ?_ _)); exact BK131.out)) : gb131 ≠ gb132)); have n6_ := Qa.mk ((by rw [hg]; exact Nat.ne_of_gt (Qy (g := gb131) (o := .cells #[.bool a1_0, .bool a1_1, .bool a1_2] 36 (0, 0)) (by (with_reducible repeat (first | refine Qd ?_ _ | refine Qb ?_ | refine Qc ?_ _)); exact BK131.out)) : gb132 ≠ gb131)); clear BK131; clear HB; have BK131 := n0_; have HB := n1_; have BK132 := n2_; have GW132 := n3_; have GE132 := n4_; have NB131_132 := n5_; have NB132_131 := n6_; clear n0_ n1_ n2_ n3_ n4_ n5_ n6_; clear hb hbox hg))
 have n0_ := Qa.mk (Qb BK131.out)
 have n1_ := Qa.mk (Qb BK132.out)
 have n2_ := Qa.mk (Qj HB.out)
 clear BK131
 clear BK132
 clear HB
 have BK131 := n0_
 have BK132 := n1_
 have HB := n2_
 clear n0_ n1_ n2_
 refine start_ (n := 6) (S := fun w' => w'.cell? ⟨gb131, 0, none⟩ = some (.bool a1_0) ∧ w'.cell? ⟨gb131, 1, none⟩ = some (.bool a1_1) ∧ w'.cell? ⟨gb131, 2, none⟩ = some (.bool a1_2)) (ds := []) #[Y, Y, Y, Y, Y, Y] (by kernel_rfl) rfl rfl ⟨(Qe BK131.out 0).trans rfl, (Qe BK131.out 1).trans rfl, (Qe BK131.out 2).trans rfl⟩ (fun hHeld => ?_)
 generalize w44.drew = w45 at BK131 BK132 HB hHeld ⊢
 refine pure_ (i := 0) (N := some 44) (v := ?_) (a' := ?_) #[J, Y, Y, Y, Y, Y] rfl rfl (by kernel_rfl) (fun _ _ _ h => h) (Or.inl ⟨by rfl, ?_⟩) ?_ ?_
 rotate_left
 ·
  intro w'
  go_simp
  with_reducible rfl
 rotate_left
 ·
  simp only [Act.put, List.setIfInBounds_toArray, List.set_cons_zero, List.set_cons_succ, i64_w, i32_w]
  rfl
 refine take_ (i := 1) (N := some 45) (v := ?_) (a' := ?_) #[J, J, Y, Y, Y, Y] rfl rfl (by kernel_rfl) (fun _ _ _ h => h) (Or.inl ⟨by rfl, ?_⟩) hHeld ?_ ?_
 rotate_left
 ·
  rintro w' ⟨s0, s1, s2⟩
  go_simp
  with_reducible rfl
 rotate_left
 ·
  simp only [Act.put, List.setIfInBounds_toArray, List.set_cons_zero, List.set_cons_succ, i64_w, i32_w]
  rfl
 refine take_ (i := 2) (N := some 46) (v := ?_) (a' := ?_) #[J, J, J, Y, Y, Y] rfl rfl (by kernel_rfl) (fun _ _ _ h => h) (Or.inl ⟨by rfl, ?_⟩) hHeld ?_ ?_
 rotate_left
 ·
  rintro w' ⟨s0, s1, s2⟩
  go_simp
  with_reducible rfl
 rotate_left
 ·
  simp only [Act.put, List.setIfInBounds_toArray, List.set_cons_zero, List.set_cons_succ, i64_w, i32_w]
  rfl
 refine one_ (i := 3) (N := some 47) #[J, J, J, J, Y, Y] rfl rfl (by kernel_rfl) (by decide) (fun K hK => ?_)
 refine goes_ Try.func40 (by kernel_rfl) rfl #[.agg #[.bool a1_0, .bool a1_1, .bool a1_2]] (by rfl) rfl rfl (by (try simp only [List.map_toArray, List.map_cons, List.map_nil]); first | done | rfl | (simp only [List.length_drop, List.length_take]; rfl)) ?_
 with_reducible refine (flow_Facts_ok.calls a1_0 a1_1 a1_2 t134 _ A42.out).mono ?_
 rintro e w46 ⟨rfl, hb⟩
 refine ⟨_, rfl, ?_⟩
 have n0_ := Qa.mk (Qs (g := gb131) (o := .cells #[.bool a1_0, .bool a1_1, .bool a1_2] 36 (0, 0)) (by (with_reducible repeat (first | refine Qd ?_ _ | refine Qb ?_ | refine Qc ?_ _)); exact BK131.out) hb)
 have n1_ := Qa.mk (Qs (g := gb132) (o := .cells #[.bool false, .bool false, .bool false] 36 (0, 0)) (by (with_reducible repeat (first | refine Qd ?_ _ | refine Qb ?_ | refine Qc ?_ _)); exact BK132.out) hb)
 have n2_ := Qa.mk (Qv (by with_reducible repeat (first | exact HB.out | apply Qk | apply Ql | apply Qj | refine Qi ?_ GE131.out | refine Qi ?_ GE132.out)) hb)
 clear BK131
 clear BK132
 clear HB
 have BK131 := n0_
 have BK132 := n1_
 have HB := n2_
 clear n0_ n1_ n2_
 (try clear hb; try clear hb2; try clear hk; try clear hi)
 refine hK.out _ _ ⟨(Qe BK131.out 0).trans rfl, (Qe BK131.out 1).trans rfl, (Qe BK131.out 2).trans rfl⟩ (fun hHeld => ?_)
 clear hK K
 refine norm_ (a' := ?_) ?_ ?_
 rotate_left
 ·
  show Act.put _ (some 47) _ = _
  simp only [Act.put, List.setIfInBounds_toArray, List.set_cons_zero, List.set_cons_succ, i64_w, i32_w]
  rfl
 refine pure_ (i := 4) (N := some 48) (v := ?_) (a' := ?_) #[J, J, J, J, J, Y] rfl rfl (by kernel_rfl) (fun _ _ _ h => h) (Or.inl ⟨by rfl, ?_⟩) ?_ ?_
 rotate_left
 ·
  intro w'
  go_simp
  with_reducible rfl
 rotate_left
 ·
  simp only [Act.put, List.setIfInBounds_toArray, List.set_cons_zero, List.set_cons_succ, i64_w, i32_w]
  rfl
 refine one_ (i := 5) (N := none) #[J, J, J, J, J, J] rfl rfl (by kernel_rfl) (by decide) (fun K hK => ?_)
 have hs47 : w46.cell? ⟨gb132, 0, none⟩ = some (.bool false) := (Qe BK132.out 0).trans rfl
 have hfs47 := Qf BK132.out 0
 have hns47_0 := NB131_132.out
 have hms47_0 := NB132_131.out
 have hs48 : w46.cell? ⟨gb132, 1, none⟩ = some (.bool false) := (Qe BK132.out 1).trans rfl
 have hfs48 := Qf BK132.out 1
 have hns48_0 := NB131_132.out
 have hms48_0 := NB132_131.out
 have hs49 : w46.cell? ⟨gb132, 2, none⟩ = some (.bool false) := (Qe BK132.out 2).trans rfl
 have hfs49 := Qf BK132.out 2
 have hns49_0 := NB131_132.out
 have hms49_0 := NB132_131.out
 refine skip_ (w1 := ?_) (by rfl) rfl ?_ ?_
 rotate_left
 ·
  go_simp
  rfl
 refine hK.out _ _ ⟨((cell_far (p := ⟨gb132, _, none⟩) NB131_132.out _).trans (((cell_far (p := ⟨gb132, _, none⟩) NB131_132.out _).trans (((cell_far (p := ⟨gb132, _, none⟩) NB131_132.out _).trans (hHeld.1)))))), ((cell_far (p := ⟨gb132, _, none⟩) NB131_132.out _).trans (((cell_far (p := ⟨gb132, _, none⟩) NB131_132.out _).trans (((cell_far (p := ⟨gb132, _, none⟩) NB131_132.out _).trans (hHeld.2.1)))))), ((cell_far (p := ⟨gb132, _, none⟩) NB131_132.out _).trans (((cell_far (p := ⟨gb132, _, none⟩) NB131_132.out _).trans (((cell_far (p := ⟨gb132, _, none⟩) NB131_132.out _).trans (hHeld.2.2))))))⟩ (fun hHeld => ?_)
 clear hK K
 refine done_ (by kernel_rfl) ?_
 try go_wp2
 refine bodyPost_ret (results_cell_row rfl _ _ gb132 36 #[.bool a1_2, .bool false, .bool t134] (0, 0) _ rfl (by (with_reducible repeat (first | refine Qd ?_ _ | refine Qb ?_ | refine Qc ?_ _)); refine Qt (cs := #[.bool a1_2, .bool false, .bool false]) ?_ 2 _ rfl; (with_reducible repeat (first | refine Qd ?_ _ | refine Qb ?_ | refine Qc ?_ _)); refine Qt (cs := #[.bool a1_2, .bool false, .bool false]) ?_ 1 _ rfl; (with_reducible repeat (first | refine Qd ?_ _ | refine Qb ?_ | refine Qc ?_ _)); refine Qt (cs := #[.bool false, .bool false, .bool false]) ?_ 0 _ rfl; (with_reducible repeat (first | refine Qd ?_ _ | refine Qb ?_ | refine Qc ?_ _)); exact BK132.out) Try.underlying36 rfl (by kernel_rfl)) rfl ?_
 exact ⟨by first | rfl | (simp [Qw, Qx] <;> rfl) | (simp [*, Qw, Qx] <;> rfl), by with_reducible repeat (first | exact HB.out | apply Qk | apply Ql | apply Qj | refine Qi ?_ GE131.out | refine Qi ?_ GE132.out)⟩
end Go.Proofs.Ytnaanamibfpbpaa.V
namespace Go.Proofs.Ytnaanamibfpbpaa.V
open Go.RowKit Go.Proofs.YtnaanamibfpbpaaW.PrintWords Go.Proofs.YtnaanamibfpbpaaW.PrintLast Go.Proofs.YtnaanamibfpbpaaW.PrintMore
attribute [local go_sem] max2_int min2_int max_two min_two max_three min_three max_four min_four tdiv_most
set_option linter.unusedVariables false
set_option linter.unusedSimpArgs false
attribute [local go_sem high] eqA50
def flow_node.l0 : Nat → List (S36) → List (S36) → List Int → Int → Int → List (S39) → List (S53) → Int → List Int → Int → Int → Int → Int → Int → Option (Bool × Bool × Bool)
 | 0, _, _, _, _, _, _, _, _, _, _, _, _, _, _ => none
 | k + 1, x2, x8, x17, x18, x19, x136000, x136001, x139000, x139001, x139002, x139003, x139004, x139005, x139006 => if x19 < x18 then (if 0 ≤ x19 then (if x19 < (x17.length : Int) then (if 0 ≤ (rd x17 x19) then (if (rd x17 x19) < (x2.length : Int) then (if x8.length < 46912496118442 then (flow_node.l0 k x2 (x8 ++ [(⟨(Qg x2 (rd x17 x19)).f0, (Qg x2 (rd x17 x19)).f1, (Qg x2 (rd x17 x19)).f2⟩ : S36)]) x17 x18 (wrap64 (x19 + 1)) x136000 x136001 x139000 x139001 x139002 x139003 x139004 x139005 x139006) else (none)) else (none)) else (none)) else (none)) else (none)) else (if x139000 = 0 then (some (true, false, false)) else (if x139000 = 1 then (some (false, (!(x139003 == 0) || (!(x139004 == 0) || (!(x139005 == 0) || (!(x139006 == 0))))), true)) else (if x139000 = 2 then (if 0 ≤ x139002 then (if x139002 < (x136000.length : Int) then (if 0 ≤ ((Qa1 x136000 x139002).f1) then (if ((Qa1 x136000 x139002).f1) < (x2.length : Int) then (some ((Qg x2 ((Qa1 x136000 x139002).f1)).f0, (Qg x2 ((Qa1 x136000 x139002).f1)).f1, (Qg x2 ((Qa1 x136000 x139002).f1)).f2)) else (none)) else (none)) else (none)) else (none)) else (if x139000 = 3 then ((flow_seq.f k x8).bind fun bt146 => (some (bt146.1, bt146.2.1, bt146.2.2))) else (if x139000 = 4 then ((flow_choice.f k x8).bind fun bt149 => (some (bt149.1, bt149.2.1, bt149.2.2))) else (if 0 < (x8.length : Int) then ((flow_unary.f x139000 ((Qg x8 0).f0) ((Qg x8 0).f1) ((Qg x8 0).f2)).bind fun bt153 => (some (bt153.1, bt153.2.1, bt153.2.2))) else (none)))))))
def flow_node.f (k : Nat) (l0_0 : List (S39)) (l0_1 : List (S53)) (a1 : Int) (l2 : List (S36)) : Option (Bool × Bool × Bool) := if 0 ≤ a1 then (if a1 < (l0_1.length : Int) then (flow_node.l0 k l2 ([] : List (S36)) ((Qh l0_1 a1).f1) (((Qh l0_1 a1).f1).length : Int) 0 l0_0 l0_1 ((Qh l0_1 a1).f0) ((Qh l0_1 a1).f1) ((Qh l0_1 a1).f2) ((Qh l0_1 a1).f3.f0) ((Qh l0_1 a1).f3.f1) ((Qh l0_1 a1).f3.f2) ((Qh l0_1 a1).f3.f3)) else (none)) else (none)
theorem flow_node.mono_l : ∀ k, (∀ y0 y1 y2 y3 y4 y5 y6 y7 y8 y9 y10 y11 y12 y13, LeO (flow_node.l0 k y0 y1 y2 y3 y4 y5 y6 y7 y8 y9 y10 y11 y12 y13) (flow_node.l0 (k + 1) y0 y1 y2 y3 y4 y5 y6 y7 y8 y9 y10 y11 y12 y13))
 | 0 => fun _ _ _ _ _ _ _ _ _ _ _ _ _ _ r h => by simp [flow_node.l0] at h
 | k + 1 => by
  have ih0 := flow_node.mono_l k
  intro y0 y1 y2 y3 y4 y5 y6 y7 y8 y9 y10 y11 y12 y13
  unfold flow_node.l0
  repeat' first
  | (with_reducible exact ih0 _ _ _ _ _ _ _ _ _ _ _ _ _ _)
  | (with_reducible exact flow_choice.mono _ _)
  | (with_reducible exact flow_seq.mono _ _)
  | (with_reducible exact LeO.refl _)
  | (with_reducible exact LeO.none _)
  | (with_reducible refine LeO.ite ?_ ?_)
  | (with_reducible refine LeO.bind ?_ (fun _ => ?_))
  | exact LeO.none _
  | refine LeO.ite ?_ ?_
  | refine LeO.bind ?_ (fun _ => ?_)
theorem flow_node.mono : ∀ a0 a1 a2 a3 k, LeO (flow_node.f k a0 a1 a2 a3) (flow_node.f (k + 1) a0 a1 a2 a3) := by
 intro a0 a1 a2 a3 k
 have ih0 := flow_node.mono_l k
 unfold flow_node.f
 repeat' first
  | (with_reducible exact ih0 _ _ _ _ _ _ _ _ _ _ _ _ _ _)
  | (with_reducible exact flow_choice.mono _ _)
  | (with_reducible exact flow_seq.mono _ _)
  | (with_reducible exact LeO.refl _)
  | (with_reducible exact LeO.none _)
  | (with_reducible refine LeO.ite ?_ ?_)
  | (with_reducible refine LeO.bind ?_ (fun _ => ?_))
  | exact LeO.none _
  | refine LeO.ite ?_ ?_
  | refine LeO.bind ?_ (fun _ => ?_)
set_option maxHeartbeats 8000000 in
set_option maxRecDepth 100000 in
theorem flow_node.calls (k : Nat) (A0_0 : Option Addr) (c0_0 : Nat) (l0_0 : List (S39)) (A0_1 : Option Addr) (c0_1 : Nat) (l0_1 : List (S53)) (a1 : Int) (A2 : Option Addr) (c2 : Nat) (l2 : List (S36)) (r1 : Bool) (r2 : Bool) (r3 : Bool) (w : World) (hr0_0 : Kd.C k39 w A0_0 l0_0.length l0_0) (hc0_0 : l0_0.length ≤ c0_0) (hr0_1 : Kd.C k53 w A0_1 l0_1.length l0_1) (hc0_1 : l0_1.length ≤ c0_1) (hr2 : Kd.C k36 w A2 l2.length l2) (hc2 : l2.length ≤ c2) (h : flow_node.f k l0_0 l0_1 a1 l2 = some (r1, r2, r3)) :
 Calls Try.prog 26 #[.agg #[.slice A0_0 l0_0.length c0_0, .slice A0_1 l0_1.length c0_1], .int .i64 a1, .slice A2 l2.length c2] w fun e w' => e = .returned (.agg #[.bool r1, .bool r2, .bool r3]) ∧ Below w.heap.size w w' := by
 have hu25 := Try.underlying25
 have hu36 := Try.underlying36
 have hu53 := Try.underlying53
 have hu50 := Try.underlying50
 have HR0_0 := Qa.mk hr0_0
 have HC0_0 := Qa.mk hc0_0
 clear hr0_0 hc0_0
 have HR0_1 := Qa.mk hr0_1
 have HC0_1 := Qa.mk hc0_1
 clear hr0_1 hc0_1
 have HR2 := Qa.mk hr2
 have HC2 := Qa.mk hc2
 clear hr2 hc2
 have HB := Qa.mk (Below.refl w.heap.size w)
 have H : (if 0 ≤ a1 then (if a1 < (l0_1.length : Int) then (flow_node.l0 k l2 ([] : List (S36)) ((Qh l0_1 a1).f1) (((Qh l0_1 a1).f1).length : Int) 0 l0_0 l0_1 ((Qh l0_1 a1).f0) ((Qh l0_1 a1).f1) ((Qh l0_1 a1).f2) ((Qh l0_1 a1).f3.f0) ((Qh l0_1 a1).f3.f1) ((Qh l0_1 a1).f3.f2) ((Qh l0_1 a1).f3.f3)) else (none)) else (none)) = some (r1, r2, r3) := h
 clear h
 by_cases c4 : 0 ≤ a1
 rotate_left
 ·
  rw [if_neg c4] at H
  exact absurd H (by simp)
 rw [if_pos c4] at H
 have c4b0 : decide (0 ≤ a1) = true := decide_eq_true c4
 clear c4
 by_cases c5 : a1 < (l0_1.length : Int)
 rotate_left
 ·
  rw [if_neg c5] at H
  exact absurd H (by simp)
 rw [if_pos c5] at H
 have c5b0 : decide (a1 < (l0_1.length : Int)) = true := decide_eq_true c5
 clear c5
 have H' := Qa.mk H
 clear H
 go_enter Try.func26, Try.ntmps26
 go_wp2_with (first | ((with_reducible refine Qg1 (N := 3) rfl ?_); refine Qh1 ?hg (N := 3) ?hd (cs := #[.slice A0_0 l0_0.length c0_0, .slice A0_1 l0_1.length c0_1]) (t := 25) ?hr ?_; (case hd => rfl); (case hg => rfl); (case hr => first | (go_simp; done) | (go_simp; rfl)); intro gb135 hg w6 hbox hb; have n0_ := Qa.mk (Qv (by with_reducible repeat (first | exact HB.out | apply Qk | apply Ql | apply Qj)) hb); have n1_ := Qa.mk (hbox); have n2_ := Qa.mk ((by rw [hg]; exact (Qb1 (by with_reducible repeat (first | exact HB.out | apply Qk | apply Ql | apply Qj))) : w.heap.size ≤ gb135)); have n3_ := n2_; clear HB; have HB := n0_; have BK135 := n1_; have GW135 := n2_; have GE135 := n3_; clear n0_ n1_ n2_ n3_; clear hb hbox hg) | ((with_reducible refine Qg1 (N := 6) rfl ?_); refine Qh1 ?hg (N := 6) ?hd (cs := #[.bool false, .bool false, .bool false]) (t := 36) ?hr ?_; (case hd => rfl); (case hg => rfl); (case hr => first | (go_simp; done) | (go_simp; rfl)); intro gb136 hg w7 hbox hb; have n0_ := Qa.mk (Qs (g := gb135) (o := .cells #[.slice A0_0 l0_0.length c0_0, .slice A0_1 l0_1.length c0_1] 25 (0, 0)) (by (with_reducible repeat (first | refine Qd ?_ _ | refine Qb ?_ | refine Qc ?_ _)); exact BK135.out) hb); have n1_ := Qa.mk (Qv (by with_reducible repeat (first | exact HB.out | apply Qk | apply Ql | apply Qj | refine Qi ?_ GE135.out)) hb); have n2_ := Qa.mk (hbox); have n3_ := Qa.mk ((by rw [hg]; exact (Qb1 (by with_reducible repeat (first | exact HB.out | apply Qk | apply Ql | apply Qj | refine Qi ?_ GE135.out))) : w.heap.size ≤ gb136)); have n4_ := n3_; have n5_ := Qa.mk ((by rw [hg]; exact Nat.ne_of_lt (Qy (g := gb135) (o := .cells #[.slice A0_0 l0_0.length c0_0, .slice A0_1 l0_1.length c0_1] 25 (0, 0)) (by (with_reducible repeat (first | refine Qd ?_ _ | refine Qb ?_ | refine Qc ?_ _)); exact BK135.out)) : gb135 ≠ gb136)); have n6_ := Qa.mk ((by rw [hg]; exact Nat.ne_of_gt (Qy (g := gb135) (o := .cells #[.slice A0_0 l0_0.length c0_0, .slice A0_1 l0_1.length c0_1] 25 (0, 0)) (by (with_reducible repeat (first | refine Qd ?_ _ | refine Qb ?_ | refine Qc ?_ _)); exact BK135.out)) : gb136 ≠ gb135)); clear BK135; clear HB; have BK135 := n0_; have HB := n1_; have BK136 := n2_; have GW136 := n3_; have GE136 := n4_; have NB135_136 := n5_; have NB136_135 := n6_; clear n0_ n1_ n2_ n3_ n4_ n5_ n6_; clear hb hbox hg; have hnb8 := NB135_136.out; have hnc8 := NB136_135.out; have hcz9_0 : w7.cell? ⟨gb135, 0, none⟩ = some (.slice A0_0 l0_0.length c0_0) := (Qe BK135.out 0).trans rfl; have hcz9_1 : w7.cell? ⟨gb135, 1, none⟩ = some (.slice A0_1 l0_1.length c0_1) := (Qe BK135.out 1).trans rfl; have hfz9_0 := Qf BK135.out 0; have hfz9_1 := Qf BK135.out 1; have p137 : 0 ≤ (a1 : Int) := of_decide_eq_true (by assumption); have q137 : a1 < (l0_1.length : Int) := of_decide_eq_true (by assumption); obtain ⟨ad137, A137_1, c137_1, e137, hx137_0, hx137_1, hx137_2, hx137_3, hx137_4, hx137_5, hx137_6, hl137_1, hi137_1⟩ := at_T53 HR0_1.out a1 p137 q137; cases e137; replace hx137_0 := (HB.out.cell (World.block_lt_of_cell? w _ hx137_0)).trans hx137_0; replace hx137_1 := (HB.out.cell (World.block_lt_of_cell? w _ hx137_1)).trans hx137_1; replace hx137_2 := (HB.out.cell (World.block_lt_of_cell? w _ hx137_2)).trans hx137_2; replace hx137_3 := (HB.out.cell (World.block_lt_of_cell? w _ hx137_3)).trans hx137_3; replace hx137_4 := (HB.out.cell (World.block_lt_of_cell? w _ hx137_4)).trans hx137_4; replace hx137_5 := (HB.out.cell (World.block_lt_of_cell? w _ hx137_5)).trans hx137_5; replace hx137_6 := (HB.out.cell (World.block_lt_of_cell? w _ hx137_6)).trans hx137_6; have HR137_1 := Qa.mk hi137_1; have HC137_1 := Qa.mk hl137_1; clear hi137_1 hl137_1; replace p137 := eq_true p137; replace q137 := eq_true q137) | ((with_reducible refine Qg1 (N := 7) rfl ?_); refine Qh1 ?hg (N := 7) ?hd (cs := #[.int .i64 0, .slice none 0 0, .int .i64 0, .int .u64 0, .int .u64 0, .int .u64 0, .int .u64 0]) (t := 53) ?hr ?_; (case hd => rfl); (case hg => rfl); (case hr => first | (go_simp; done) | (go_simp; rfl)); intro gb138 hg w10 hbox hb; have n0_ := Qa.mk (Qs (g := gb135) (o := .cells #[.slice A0_0 l0_0.length c0_0, .slice (some ad137) l0_1.length c0_1] 25 (0, 0)) (by (with_reducible repeat (first | refine Qd ?_ _ | refine Qb ?_ | refine Qc ?_ _)); exact BK135.out) hb); have n1_ := Qa.mk (Qs (g := gb136) (o := .cells #[.bool false, .bool false, .bool false] 36 (0, 0)) (by (with_reducible repeat (first | refine Qd ?_ _ | refine Qb ?_ | refine Qc ?_ _)); exact BK136.out) hb); have n2_ := Qa.mk (Qv (by with_reducible repeat (first | exact HB.out | apply Qk | apply Ql | apply Qj | refine Qi ?_ GE135.out | refine Qi ?_ GE136.out)) hb); have n3_ := Qa.mk (hbox); have n4_ := Qa.mk ((by rw [hg]; exact (Qb1 (by with_reducible repeat (first | exact HB.out | apply Qk | apply Ql | apply Qj | refine Qi ?_ GE135.out | refine Qi ?_ GE136.out))) : w.heap.size ≤ gb138)); have n5_ := n4_; have n6_ := Qa.mk ((by rw [hg]; exact Nat.ne_of_lt (Qy (g := gb135) (o := .cells #[.slice A0_0 l0_0.length c0_0, .slice (some ad137) l0_1.length c0_1] 25 (0, 0)) (by (with_reducible repeat (first | refine Qd ?_ _ | refine Qb ?_ | refine Qc ?_ _)); exact BK135.out)) : gb135 ≠ gb138)); have n7_ := Qa.mk ((by rw [hg]; exact Nat.ne_of_gt (Qy (g := gb135) (o := .cells #[.slice A0_0 l0_0.length c0_0, .slice (some ad137) l0_1.length c0_1] 25 (0, 0)) (by (with_reducible repeat (first | refine Qd ?_ _ | refine Qb ?_ | refine Qc ?_ _)); exact BK135.out)) : gb138 ≠ gb135)); have n8_ := Qa.mk ((by rw [hg]; exact Nat.ne_of_lt (Qy (g := gb136) (o := .cells #[.bool false, .bool false, .bool false] 36 (0, 0)) (by (with_reducible repeat (first | refine Qd ?_ _ | refine Qb ?_ | refine Qc ?_ _)); exact BK136.out)) : gb136 ≠ gb138)); have n9_ := Qa.mk ((by rw [hg]; exact Nat.ne_of_gt (Qy (g := gb136) (o := .cells #[.bool false, .bool false, .bool false] 36 (0, 0)) (by (with_reducible repeat (first | refine Qd ?_ _ | refine Qb ?_ | refine Qc ?_ _)); exact BK136.out)) : gb138 ≠ gb136)); clear BK135; clear BK136; clear HB; have BK135 := n0_; have BK136 := n1_; have HB := n2_; have BK138 := n3_; have GW138 := n4_; have GE138 := n5_; have NB135_138 := n6_; have NB138_135 := n7_; have NB136_138 := n8_; have NB138_136 := n9_; clear n0_ n1_ n2_ n3_ n4_ n5_ n6_ n7_ n8_ n9_; clear hb hbox hg; have hnb11 := NB138_135.out; have hnc11 := NB135_138.out; have hnb12 := NB138_136.out; have hnc12 := NB136_138.out; have hcz13_0 : w10.cell? ⟨gb138, 0, none⟩ = some (.int .i64 0) := (Qe BK138.out 0).trans rfl; have hcz13_1 : w10.cell? ⟨gb138, 1, none⟩ = some (.slice none 0 0) := (Qe BK138.out 1).trans rfl; have hcz13_2 : w10.cell? ⟨gb138, 2, none⟩ = some (.int .i64 0) := (Qe BK138.out 2).trans rfl; have hcz13_3 : w10.cell? ⟨gb138, 3, none⟩ = some (.int .u64 0) := (Qe BK138.out 3).trans rfl; have hcz13_4 : w10.cell? ⟨gb138, 4, none⟩ = some (.int .u64 0) := (Qe BK138.out 4).trans rfl; have hcz13_5 : w10.cell? ⟨gb138, 5, none⟩ = some (.int .u64 0) := (Qe BK138.out 5).trans rfl; have hcz13_6 : w10.cell? ⟨gb138, 6, none⟩ = some (.int .u64 0) := (Qe BK138.out 6).trans rfl; have hfz13_0 := Qf BK138.out 0; have hfz13_1 := Qf BK138.out 1; have hfz13_2 := Qf BK138.out 2; have hfz13_3 := Qf BK138.out 3; have hfz13_4 := Qf BK138.out 4; have hfz13_5 := Qf BK138.out 5; have hfz13_6 := Qf BK138.out 6))
 go_loopg [8, 19] k (fun kq v8 v19 w' => ∃ (x8_1 : List (S36)) (x19_1 : Int), v19 = .int .i64 x19_1 ∧ Qa (flow_node.l0 kq l2 x8_1 ((Qh l0_1 a1).f1) (((Qh l0_1 a1).f1).length : Int) x19_1 l0_0 l0_1 ((Qh l0_1 a1).f0) ((Qh l0_1 a1).f1) ((Qh l0_1 a1).f2) ((Qh l0_1 a1).f3.f0) ((Qh l0_1 a1).f3.f1) ((Qh l0_1 a1).f3.f2) ((Qh l0_1 a1).f3.f3) = some (r1, r2, r3)) ∧ Qa (kq ≤ k) ∧ Qa (Kd.R k36 36 w' w.heap.size (fun k_ => k_ ≠ gb136) v8 x8_1) ∧ Qa (w'.heap[gb135]? = some (.cells #[(.slice A0_0 l0_0.length c0_0), (.slice (some ad137) l0_1.length c0_1)] 25 (0, 0))) ∧ Qa (w'.heap[gb136]? = some (.cells #[.bool false, .bool false, .bool false] 36 (0, 0))) ∧ Qa (w'.heap[gb138]? = some (.cells #[.int .i64 ((Qh l0_1 a1).f0), (.slice A137_1 ((Qh l0_1 a1).f1).length c137_1), .int .i64 ((Qh l0_1 a1).f2), .int .u64 ((Qh l0_1 a1).f3.f0), .int .u64 ((Qh l0_1 a1).f3.f1), .int .u64 ((Qh l0_1 a1).f3.f2), .int .u64 ((Qh l0_1 a1).f3.f3)] 53 (0, 0))) ∧ Qa (Below w.heap.size w w'))
 case atStart => exact ⟨(([] : List (S36))), (0), (by first | rfl | (simp; done) | (simp [*]; done)), H', ⟨Nat.le_refl _⟩, ⟨by first | exact Kd.R_nil _ _ _ _ _ | exact Kd.N_nil _ _ _ _ _ | exact Kd.V_nil _ _ _ _ _ | exact Kd.Q_nil _ _ _ _ _ | exact Kd.S_nil _ _ _ _ _⟩, ⟨by (with_reducible repeat (first | refine Qd ?_ _ | refine Qb ?_ | refine Qc ?_ _)); refine Qn ?_ NB135_138.out _; (with_reducible repeat (first | refine Qd ?_ _ | refine Qb ?_ | refine Qc ?_ _)); refine Qn ?_ NB135_138.out _; (with_reducible repeat (first | refine Qd ?_ _ | refine Qb ?_ | refine Qc ?_ _)); refine Qn ?_ NB135_138.out _; (with_reducible repeat (first | refine Qd ?_ _ | refine Qb ?_ | refine Qc ?_ _)); refine Qn ?_ NB135_138.out _; (with_reducible repeat (first | refine Qd ?_ _ | refine Qb ?_ | refine Qc ?_ _)); refine Qn ?_ NB135_138.out _; (with_reducible repeat (first | refine Qd ?_ _ | refine Qb ?_ | refine Qc ?_ _)); refine Qn ?_ NB135_138.out _; (with_reducible repeat (first | refine Qd ?_ _ | refine Qb ?_ | refine Qc ?_ _)); refine Qn ?_ NB135_138.out _; (with_reducible repeat (first | refine Qd ?_ _ | refine Qb ?_ | refine Qc ?_ _)); exact BK135.out⟩, ⟨by (with_reducible repeat (first | refine Qd ?_ _ | refine Qb ?_ | refine Qc ?_ _)); refine Qn ?_ NB136_138.out _; (with_reducible repeat (first | refine Qd ?_ _ | refine Qb ?_ | refine Qc ?_ _)); refine Qn ?_ NB136_138.out _; (with_reducible repeat (first | refine Qd ?_ _ | refine Qb ?_ | refine Qc ?_ _)); refine Qn ?_ NB136_138.out _; (with_reducible repeat (first | refine Qd ?_ _ | refine Qb ?_ | refine Qc ?_ _)); refine Qn ?_ NB136_138.out _; (with_reducible repeat (first | refine Qd ?_ _ | refine Qb ?_ | refine Qc ?_ _)); refine Qn ?_ NB136_138.out _; (with_reducible repeat (first | refine Qd ?_ _ | refine Qb ?_ | refine Qc ?_ _)); refine Qn ?_ NB136_138.out _; (with_reducible repeat (first | refine Qd ?_ _ | refine Qb ?_ | refine Qc ?_ _)); refine Qn ?_ NB136_138.out _; (with_reducible repeat (first | refine Qd ?_ _ | refine Qb ?_ | refine Qc ?_ _)); exact BK136.out⟩, ⟨by (with_reducible repeat (first | refine Qd ?_ _ | refine Qb ?_ | refine Qc ?_ _)); refine Qt (cs := #[.int .i64 ((Qh l0_1 a1).f0), .slice A137_1 ((Qh l0_1 a1).f1).length c137_1, .int .i64 ((Qh l0_1 a1).f2), .int .u64 ((Qh l0_1 a1).f3.f0), .int .u64 ((Qh l0_1 a1).f3.f1), .int .u64 ((Qh l0_1 a1).f3.f2), .int .u64 0]) ?_ 6 _ rfl; (with_reducible repeat (first | refine Qd ?_ _ | refine Qb ?_ | refine Qc ?_ _)); refine Qt (cs := #[.int .i64 ((Qh l0_1 a1).f0), .slice A137_1 ((Qh l0_1 a1).f1).length c137_1, .int .i64 ((Qh l0_1 a1).f2), .int .u64 ((Qh l0_1 a1).f3.f0), .int .u64 ((Qh l0_1 a1).f3.f1), .int .u64 0, .int .u64 0]) ?_ 5 _ rfl; (with_reducible repeat (first | refine Qd ?_ _ | refine Qb ?_ | refine Qc ?_ _)); refine Qt (cs := #[.int .i64 ((Qh l0_1 a1).f0), .slice A137_1 ((Qh l0_1 a1).f1).length c137_1, .int .i64 ((Qh l0_1 a1).f2), .int .u64 ((Qh l0_1 a1).f3.f0), .int .u64 0, .int .u64 0, .int .u64 0]) ?_ 4 _ rfl; (with_reducible repeat (first | refine Qd ?_ _ | refine Qb ?_ | refine Qc ?_ _)); refine Qt (cs := #[.int .i64 ((Qh l0_1 a1).f0), .slice A137_1 ((Qh l0_1 a1).f1).length c137_1, .int .i64 ((Qh l0_1 a1).f2), .int .u64 0, .int .u64 0, .int .u64 0, .int .u64 0]) ?_ 3 _ rfl; (with_reducible repeat (first | refine Qd ?_ _ | refine Qb ?_ | refine Qc ?_ _)); refine Qt (cs := #[.int .i64 ((Qh l0_1 a1).f0), .slice A137_1 ((Qh l0_1 a1).f1).length c137_1, .int .i64 0, .int .u64 0, .int .u64 0, .int .u64 0, .int .u64 0]) ?_ 2 _ rfl; (with_reducible repeat (first | refine Qd ?_ _ | refine Qb ?_ | refine Qc ?_ _)); refine Qt (cs := #[.int .i64 ((Qh l0_1 a1).f0), .slice none 0 0, .int .i64 0, .int .u64 0, .int .u64 0, .int .u64 0, .int .u64 0]) ?_ 1 _ rfl; (with_reducible repeat (first | refine Qd ?_ _ | refine Qb ?_ | refine Qc ?_ _)); refine Qt (cs := #[.int .i64 0, .slice none 0 0, .int .i64 0, .int .u64 0, .int .u64 0, .int .u64 0, .int .u64 0]) ?_ 0 _ rfl; (with_reducible repeat (first | refine Qd ?_ _ | refine Qb ?_ | refine Qc ?_ _)); exact BK138.out⟩, ⟨by with_reducible repeat (first | exact HB.out | apply Qk | apply Ql | apply Qj | refine Qi ?_ GE135.out | refine Qi ?_ GE136.out | refine Qi ?_ GE138.out)⟩⟩
 case round =>
  clear H'
  (try clear c1; try clear p1; try clear q1; try clear hx1; try clear c2; try clear p2; try clear c4; try clear c4b0; try clear c5; try clear c5b0; try clear c8; try clear c11; try clear c12; try clear c13; try clear p13; try clear q13; try clear hx13; try clear hcz13_0; try clear hcz13_1; try clear hcz13_2; try clear hcz13_3; try clear hcz13_4; try clear hcz13_5; try clear hcz13_6; try clear hcz9_0; try clear hcz9_1; try clear hfz13_0; try clear hfz13_1; try clear hfz13_2; try clear hfz13_3; try clear hfz13_4; try clear hfz13_5; try clear hfz13_6; try clear hfz9_0; try clear hfz9_1; try clear hx137_0; try clear hx137_1; try clear hx137_2; try clear hx137_3; try clear hx137_4; try clear hx137_5; try clear hx137_6; try clear p137; try clear q137)
  obtain ⟨x8_1, x19_1, rfl, HA, HK1, HO_8, BK135, BK136, BK138, HB⟩ := hrel
  cases gk with
  | zero => exact absurd HA.out (by simp [flow_node.l0])
  | succ k1 =>
   have H := HA.out
   clear HA
   simp only [flow_node.l0] at H
   by_cases c14 : x19_1 < (((Qh l0_1 a1).f1).length : Int)
   ·
    rw [if_pos c14] at H
    have c14b0 : decide (x19_1 < (((Qh l0_1 a1).f1).length : Int)) = true := decide_eq_true c14
    clear c14
    by_cases c15 : 0 ≤ x19_1
    rotate_left
    ·
     rw [if_neg c15] at H
     exact absurd H (by simp)
    rw [if_pos c15] at H
    have c15b0 : decide (0 ≤ x19_1) = true := decide_eq_true c15
    clear c15
    by_cases c16 : x19_1 < (((Qh l0_1 a1).f1).length : Int)
    rotate_left
    ·
     rw [if_neg c16] at H
     exact absurd H (by simp)
    rw [if_pos c16] at H
    have c16b0 : decide (x19_1 < (((Qh l0_1 a1).f1).length : Int)) = true := decide_eq_true c16
    clear c16
    by_cases c17 : 0 ≤ (rd ((Qh l0_1 a1).f1) x19_1)
    rotate_left
    ·
     rw [if_neg c17] at H
     exact absurd H (by simp)
    rw [if_pos c17] at H
    have c17b0 : decide (0 ≤ (rd ((Qh l0_1 a1).f1) x19_1)) = true := decide_eq_true c17
    clear c17
    by_cases c18 : (rd ((Qh l0_1 a1).f1) x19_1) < (l2.length : Int)
    rotate_left
    ·
     rw [if_neg c18] at H
     exact absurd H (by simp)
    rw [if_pos c18] at H
    have c18b0 : decide ((rd ((Qh l0_1 a1).f1) x19_1) < (l2.length : Int)) = true := decide_eq_true c18
    clear c18
    by_cases c19 : x8_1.length < 46912496118442
    rotate_left
    ·
     rw [if_neg c19] at H
     exact absurd H (by simp)
    rw [if_pos c19] at H
    have LMc19 := Qa.mk c19
    clear c19
    obtain ⟨y141, hy141⟩ : ∃ y_ : List (S36), y_ = (x8_1 ++ [(⟨(Qg l2 (rd ((Qh l0_1 a1).f1) x19_1)).f0, (Qg l2 (rd ((Qh l0_1 a1).f1) x19_1)).f1, (Qg l2 (rd ((Qh l0_1 a1).f1) x19_1)).f2⟩ : S36)]) := ⟨_, rfl⟩
    replace H : (flow_node.l0 k1 l2 y141 ((Qh l0_1 a1).f1) (((Qh l0_1 a1).f1).length : Int) (wrap64 (x19_1 + 1)) l0_0 l0_1 ((Qh l0_1 a1).f0) ((Qh l0_1 a1).f1) ((Qh l0_1 a1).f2) ((Qh l0_1 a1).f3.f0) ((Qh l0_1 a1).f3.f1) ((Qh l0_1 a1).f3.f2) ((Qh l0_1 a1).f3.f3)) = some (r1, r2, r3) := by first | (rw [hy141]; with_reducible exact H) | (have H2_ := (Option.bind_some _ _).symm.trans H; rw [hy141]; with_reducible exact H2_) | (have H2_ := (Option.bind_some _ _).symm.trans H; with_reducible exact H2_) | with_reducible exact H | (rw [hy141]; exact H) | exact H
    have Ny141 := Qa.mk hy141
    clear hy141
    have H' := Qa.mk H
    clear H
    have p139 : 0 ≤ (x19_1 : Int) := of_decide_eq_true (by assumption)
    have q139 : x19_1 < (((Qh l0_1 a1).f1).length : Int) := of_decide_eq_true (by assumption)
    obtain ⟨ad139, e139, hx139_0⟩ := Kd.at_int HR137_1.out x19_1 p139 q139
    cases e139
    replace hx139_0 := (HB.out.cell (World.block_lt_of_cell? w _ hx139_0)).trans hx139_0
    replace p139 := eq_true p139
    replace q139 := eq_true q139
    have p140 : 0 ≤ ((rd ((Qh l0_1 a1).f1) x19_1) : Int) := of_decide_eq_true (by assumption)
    have q140 : (rd ((Qh l0_1 a1).f1) x19_1) < (l2.length : Int) := of_decide_eq_true (by assumption)
    obtain ⟨ad140, e140, hx140_0, hx140_1, hx140_2⟩ := at_T36 HR2.out (rd ((Qh l0_1 a1).f1) x19_1) p140 q140
    cases e140
    replace hx140_0 := (HB.out.cell (World.block_lt_of_cell? w _ hx140_0)).trans hx140_0
    replace hx140_1 := (HB.out.cell (World.block_lt_of_cell? w _ hx140_1)).trans hx140_1
    replace hx140_2 := (HB.out.cell (World.block_lt_of_cell? w _ hx140_2)).trans hx140_2
    replace p140 := eq_true p140
    replace q140 := eq_true q140
    go_wp2_with (first | ((with_reducible refine gate_builtin (b := .append) (xs := #[.tmp 23, .tmp 28]) rfl ?_); at_builtin; refine Kd.R_append k36 (w0 := w) w.heap.size rfl (.tmp 23) (.tmp 28) 32 36 (.agg #[(.bool false), (.bool false), (.bool false)]) 3 rfl Try.underlying32 info36 rfl (by decide) (by omega) u8 x8_1 (⟨(Qg l2 (rd ((Qh l0_1 a1).f1) x19_1)).f0, (Qg l2 (rd ((Qh l0_1 a1).f1) x19_1)).f1, (Qg l2 (rd ((Qh l0_1 a1).f1) x19_1)).f2⟩ : S36) [.bool ((Qg l2 (rd ((Qh l0_1 a1).f1) x19_1)).f0), .bool ((Qg l2 (rd ((Qh l0_1 a1).f1) x19_1)).f1), .bool ((Qg l2 (rd ((Qh l0_1 a1).f1) x19_1)).f2)] (fun k_ => k_ ≠ gb136) (fun _ => False) rfl rfl ?aP (fun _ hk => hk.elim) ?aF ?aO ?aB ?aS ?aL ?_; (case aP => exact k36_mkM _ _ _ (⟨(Qg l2 (rd ((Qh l0_1 a1).f1) x19_1)).f0, (Qg l2 (rd ((Qh l0_1 a1).f1) x19_1)).f1, (Qg l2 (rd ((Qh l0_1 a1).f1) x19_1)).f2⟩ : S36)); (case aB => exact (by with_reducible repeat (first | exact HB.out | apply Qk | apply Ql | apply Qj | refine Qi ?_ GE135.out | refine Qi ?_ GE136.out | refine Qi ?_ GE138.out))); (case aF => exact (fun k_ hk => Kd.freshB (g := gb136) (o := .cells #[.bool false, .bool false, .bool false] 36 (0, 0)) (by (with_reducible repeat (first | refine Qd ?_ _ | refine Qb ?_ | refine Qc ?_ _)); exact BK136.out) k_ hk)); (case aO => exact (by (with_reducible repeat (first | apply Kd.Qq | apply Kd.Qr | apply Kd.Qo)); exact HO_8.out)); (case aS => exact (Qb1 (by with_reducible repeat (first | exact HB.out | apply Qk | apply Ql | apply Qj | refine Qi ?_ GE135.out | refine Qi ?_ GE136.out | refine Qi ?_ GE138.out)))); (case aL => have := LMc19.out; omega); intro v142 w20 ho hb hg hat; rw [← Ny141.out] at ho; have n0_ := Qa.mk (blk_grown (g := gb135) (o := .cells #[.slice A0_0 l0_0.length c0_0, .slice (some ad137) l0_1.length c0_1] 25 (0, 0)) (by (with_reducible repeat (first | refine Qd ?_ _ | refine Qb ?_ | refine Qc ?_ _)); exact BK135.out) hg (Kd.R_ne HO_8.out BK135.out (by decide))); have n1_ := Qa.mk (blk_grown (g := gb136) (o := .cells #[.bool false, .bool false, .bool false] 36 (0, 0)) (by (with_reducible repeat (first | refine Qd ?_ _ | refine Qb ?_ | refine Qc ?_ _)); exact BK136.out) hg (Kd.R_away HO_8.out (fun _ hk => hk))); have n2_ := Qa.mk (blk_grown (g := gb138) (o := .cells #[.int .i64 ((Qh l0_1 a1).f0), .slice (some ad139) ((Qh l0_1 a1).f1).length c137_1, .int .i64 ((Qh l0_1 a1).f2), .int .u64 ((Qh l0_1 a1).f3.f0), .int .u64 ((Qh l0_1 a1).f3.f1), .int .u64 ((Qh l0_1 a1).f3.f2), .int .u64 ((Qh l0_1 a1).f3.f3)] 53 (0, 0)) (by (with_reducible repeat (first | refine Qd ?_ _ | refine Qb ?_ | refine Qc ?_ _)); exact BK138.out) hg (Kd.R_ne HO_8.out BK138.out (by decide))); have n3_ := Qa.mk (hb); have n4_ := Qa.mk (ho); clear BK135; clear BK136; clear BK138; clear HB; clear HO_8; have BK135 := n0_; have BK136 := n1_; have BK138 := n2_; have HB := n3_; have HO143 := n4_; clear n0_ n1_ n2_ n3_ n4_; clear ho hb hg hat))
    go_roundg k1
    case measure => have := HK1.out; omega
    case rel => exact ⟨(y141), (wrap64 (x19_1 + 1)), (by first | rfl | (simp; done) | (simp [*]; done)), H', ⟨by have := HK1.out; omega⟩, ⟨by (with_reducible repeat (first | apply Kd.Qq | apply Kd.Qr | apply Kd.Qo)); exact HO143.out⟩, ⟨by (with_reducible repeat (first | refine Qd ?_ _ | refine Qb ?_ | refine Qc ?_ _)); exact BK135.out⟩, ⟨by (with_reducible repeat (first | refine Qd ?_ _ | refine Qb ?_ | refine Qc ?_ _)); exact BK136.out⟩, ⟨by (with_reducible repeat (first | refine Qd ?_ _ | refine Qb ?_ | refine Qc ?_ _)); exact BK138.out⟩, ⟨by with_reducible repeat (first | exact HB.out | apply Qk | apply Ql | apply Qj | refine Qi ?_ GE135.out | refine Qi ?_ GE136.out | refine Qi ?_ GE138.out)⟩⟩
   rw [if_neg c14] at H
   have c14b0 : decide (x19_1 < (((Qh l0_1 a1).f1).length : Int)) = false := decide_eq_false c14
   clear c14
   by_cases c21 : ((Qh l0_1 a1).f0) = 0
   ·
    rw [if_pos c21] at H
    have c21b0 : (((Qh l0_1 a1).f0) == 0) = true := beq_iff_eq.mpr c21
    have c21b1 : (((Qh l0_1 a1).f0) != 0) = false := bne_eq_false_iff_eq.mpr c21
    clear c21
    simp only [Option.some.injEq, Prod.mk.injEq] at H
    obtain ⟨rfl, rfl, rfl⟩ := H
    have hnb22 := NB138_135.out
    have hnc22 := NB135_138.out
    have hnb23 := NB138_136.out
    have hnc23 := NB136_138.out
    have hcz24_0 : wr.cell? ⟨gb138, 0, none⟩ = some (.int .i64 ((Qh l0_1 a1).f0)) := (Qe BK138.out 0).trans rfl
    have hcz24_1 : wr.cell? ⟨gb138, 1, none⟩ = some (.slice A137_1 ((Qh l0_1 a1).f1).length c137_1) := (Qe BK138.out 1).trans rfl
    have hcz24_2 : wr.cell? ⟨gb138, 2, none⟩ = some (.int .i64 ((Qh l0_1 a1).f2)) := (Qe BK138.out 2).trans rfl
    have hcz24_3 : wr.cell? ⟨gb138, 3, none⟩ = some (.int .u64 ((Qh l0_1 a1).f3.f0)) := (Qe BK138.out 3).trans rfl
    have hcz24_4 : wr.cell? ⟨gb138, 4, none⟩ = some (.int .u64 ((Qh l0_1 a1).f3.f1)) := (Qe BK138.out 4).trans rfl
    have hcz24_5 : wr.cell? ⟨gb138, 5, none⟩ = some (.int .u64 ((Qh l0_1 a1).f3.f2)) := (Qe BK138.out 5).trans rfl
    have hcz24_6 : wr.cell? ⟨gb138, 6, none⟩ = some (.int .u64 ((Qh l0_1 a1).f3.f3)) := (Qe BK138.out 6).trans rfl
    have hfz24_0 := Qf BK138.out 0
    have hfz24_1 := Qf BK138.out 1
    have hfz24_2 := Qf BK138.out 2
    have hfz24_3 := Qf BK138.out 3
    have hfz24_4 := Qf BK138.out 4
    have hfz24_5 := Qf BK138.out 5
    have hfz24_6 := Qf BK138.out 6
    have hnb25 := NB136_135.out
    have hnc25 := NB135_136.out
    have hcz26_0 : wr.cell? ⟨gb136, 0, none⟩ = some (.bool false) := (Qe BK136.out 0).trans rfl
    have hcz26_1 : wr.cell? ⟨gb136, 1, none⟩ = some (.bool false) := (Qe BK136.out 1).trans rfl
    have hcz26_2 : wr.cell? ⟨gb136, 2, none⟩ = some (.bool false) := (Qe BK136.out 2).trans rfl
    have hfz26_0 := Qf BK136.out 0
    have hfz26_1 := Qf BK136.out 1
    have hfz26_2 := Qf BK136.out 2
    go_wp2
    refine bodyPost_ret (results_cell_row rfl _ _ gb136 36 #[.bool true, .bool false, .bool false] (0, 0) _ rfl (by (with_reducible repeat (first | refine Qd ?_ _ | refine Qb ?_ | refine Qc ?_ _)); refine Qt (cs := #[.bool true, .bool false, .bool false]) ?_ 2 _ rfl; (with_reducible repeat (first | refine Qd ?_ _ | refine Qb ?_ | refine Qc ?_ _)); refine Qt (cs := #[.bool true, .bool false, .bool false]) ?_ 1 _ rfl; (with_reducible repeat (first | refine Qd ?_ _ | refine Qb ?_ | refine Qc ?_ _)); refine Qt (cs := #[.bool false, .bool false, .bool false]) ?_ 0 _ rfl; (with_reducible repeat (first | refine Qd ?_ _ | refine Qb ?_ | refine Qc ?_ _)); exact BK136.out) Try.underlying36 rfl (by kernel_rfl)) rfl ?_
    exact ⟨by first | rfl | (simp [Qw, Qx] <;> rfl) | (simp [*, Qw, Qx] <;> rfl), by with_reducible repeat (first | exact HB.out | apply Qk | apply Ql | apply Qj | refine Qi ?_ GE135.out | refine Qi ?_ GE136.out | refine Qi ?_ GE138.out)⟩
   rw [if_neg c21] at H
   have c21b0 : (((Qh l0_1 a1).f0) == 0) = false := beq_eq_false_iff_ne.mpr c21
   have c21b1 : (((Qh l0_1 a1).f0) != 0) = true := bne_iff_ne.mpr c21
   by_cases c27 : ((Qh l0_1 a1).f0) = 1
   ·
    rw [if_pos c27] at H
    have c27b0 : (((Qh l0_1 a1).f0) == 1) = true := beq_iff_eq.mpr c27
    have c27b1 : (((Qh l0_1 a1).f0) != 1) = false := bne_eq_false_iff_eq.mpr c27
    clear c27
    simp only [Option.some.injEq, Prod.mk.injEq] at H
    obtain ⟨rfl, rfl, rfl⟩ := H
    have hnb28 := NB138_135.out
    have hnc28 := NB135_138.out
    have hnb29 := NB138_136.out
    have hnc29 := NB136_138.out
    have hcz30_0 : wr.cell? ⟨gb138, 0, none⟩ = some (.int .i64 ((Qh l0_1 a1).f0)) := (Qe BK138.out 0).trans rfl
    have hcz30_1 : wr.cell? ⟨gb138, 1, none⟩ = some (.slice A137_1 ((Qh l0_1 a1).f1).length c137_1) := (Qe BK138.out 1).trans rfl
    have hcz30_2 : wr.cell? ⟨gb138, 2, none⟩ = some (.int .i64 ((Qh l0_1 a1).f2)) := (Qe BK138.out 2).trans rfl
    have hcz30_3 : wr.cell? ⟨gb138, 3, none⟩ = some (.int .u64 ((Qh l0_1 a1).f3.f0)) := (Qe BK138.out 3).trans rfl
    have hcz30_4 : wr.cell? ⟨gb138, 4, none⟩ = some (.int .u64 ((Qh l0_1 a1).f3.f1)) := (Qe BK138.out 4).trans rfl
    have hcz30_5 : wr.cell? ⟨gb138, 5, none⟩ = some (.int .u64 ((Qh l0_1 a1).f3.f2)) := (Qe BK138.out 5).trans rfl
    have hcz30_6 : wr.cell? ⟨gb138, 6, none⟩ = some (.int .u64 ((Qh l0_1 a1).f3.f3)) := (Qe BK138.out 6).trans rfl
    have hfz30_0 := Qf BK138.out 0
    have hfz30_1 := Qf BK138.out 1
    have hfz30_2 := Qf BK138.out 2
    have hfz30_3 := Qf BK138.out 3
    have hfz30_4 := Qf BK138.out 4
    have hfz30_5 := Qf BK138.out 5
    have hfz30_6 := Qf BK138.out 6
    have hnb31 := NB136_135.out
    have hnc31 := NB135_136.out
    have hcz32_0 : wr.cell? ⟨gb136, 0, none⟩ = some (.bool false) := (Qe BK136.out 0).trans rfl
    have hcz32_1 : wr.cell? ⟨gb136, 1, none⟩ = some (.bool false) := (Qe BK136.out 1).trans rfl
    have hcz32_2 : wr.cell? ⟨gb136, 2, none⟩ = some (.bool false) := (Qe BK136.out 2).trans rfl
    have hfz32_0 := Qf BK136.out 0
    have hfz32_1 := Qf BK136.out 1
    have hfz32_2 := Qf BK136.out 2
    go_wp2
    refine bodyPost_ret (results_cell_row rfl _ _ gb136 36 #[.bool false, .bool (!(((Qh l0_1 a1).f3.f0) == 0) || (!(((Qh l0_1 a1).f3.f1) == 0) || (!(((Qh l0_1 a1).f3.f2) == 0) || (!(((Qh l0_1 a1).f3.f3) == 0))))), .bool true] (0, 0) _ rfl (by (with_reducible repeat (first | refine Qd ?_ _ | refine Qb ?_ | refine Qc ?_ _)); refine Qt (cs := #[.bool false, .bool (!(((Qh l0_1 a1).f3.f0) == 0) || (!(((Qh l0_1 a1).f3.f1) == 0) || (!(((Qh l0_1 a1).f3.f2) == 0) || (!(((Qh l0_1 a1).f3.f3) == 0))))), .bool false]) ?_ 2 _ rfl; (with_reducible repeat (first | refine Qd ?_ _ | refine Qb ?_ | refine Qc ?_ _)); refine Qt (cs := #[.bool false, .bool false, .bool false]) ?_ 1 _ rfl; (with_reducible repeat (first | refine Qd ?_ _ | refine Qb ?_ | refine Qc ?_ _)); refine Qt (cs := #[.bool false, .bool false, .bool false]) ?_ 0 _ rfl; (with_reducible repeat (first | refine Qd ?_ _ | refine Qb ?_ | refine Qc ?_ _)); exact BK136.out) Try.underlying36 rfl (by kernel_rfl)) rfl ?_
    exact ⟨by first | rfl | (simp [Qw, Qx] <;> rfl) | (simp [*, Qw, Qx] <;> rfl), by with_reducible repeat (first | exact HB.out | apply Qk | apply Ql | apply Qj | refine Qi ?_ GE135.out | refine Qi ?_ GE136.out | refine Qi ?_ GE138.out)⟩
   rw [if_neg c27] at H
   have c27b0 : (((Qh l0_1 a1).f0) == 1) = false := beq_eq_false_iff_ne.mpr c27
   have c27b1 : (((Qh l0_1 a1).f0) != 1) = true := bne_iff_ne.mpr c27
   by_cases c33 : ((Qh l0_1 a1).f0) = 2
   ·
    rw [if_pos c33] at H
    have c33b0 : (((Qh l0_1 a1).f0) == 2) = true := beq_iff_eq.mpr c33
    have c33b1 : (((Qh l0_1 a1).f0) != 2) = false := bne_eq_false_iff_eq.mpr c33
    clear c33
    by_cases c34 : 0 ≤ ((Qh l0_1 a1).f2)
    rotate_left
    ·
     rw [if_neg c34] at H
     exact absurd H (by simp)
    rw [if_pos c34] at H
    have c34b0 : decide (0 ≤ ((Qh l0_1 a1).f2)) = true := decide_eq_true c34
    clear c34
    by_cases c35 : ((Qh l0_1 a1).f2) < (l0_0.length : Int)
    rotate_left
    ·
     rw [if_neg c35] at H
     exact absurd H (by simp)
    rw [if_pos c35] at H
    have c35b0 : decide (((Qh l0_1 a1).f2) < (l0_0.length : Int)) = true := decide_eq_true c35
    clear c35
    by_cases c36 : 0 ≤ ((Qa1 l0_0 ((Qh l0_1 a1).f2)).f1)
    rotate_left
    ·
     rw [if_neg c36] at H
     exact absurd H (by simp)
    rw [if_pos c36] at H
    have c36b0 : decide (0 ≤ ((Qa1 l0_0 ((Qh l0_1 a1).f2)).f1)) = true := decide_eq_true c36
    clear c36
    by_cases c37 : ((Qa1 l0_0 ((Qh l0_1 a1).f2)).f1) < (l2.length : Int)
    rotate_left
    ·
     rw [if_neg c37] at H
     exact absurd H (by simp)
    rw [if_pos c37] at H
    have c37b0 : decide (((Qa1 l0_0 ((Qh l0_1 a1).f2)).f1) < (l2.length : Int)) = true := decide_eq_true c37
    clear c37
    simp only [Option.some.injEq, Prod.mk.injEq] at H
    obtain ⟨rfl, rfl, rfl⟩ := H
    have hnb38 := NB138_135.out
    have hnc38 := NB135_138.out
    have hnb39 := NB138_136.out
    have hnc39 := NB136_138.out
    have hcz40_0 : wr.cell? ⟨gb138, 0, none⟩ = some (.int .i64 ((Qh l0_1 a1).f0)) := (Qe BK138.out 0).trans rfl
    have hcz40_1 : wr.cell? ⟨gb138, 1, none⟩ = some (.slice A137_1 ((Qh l0_1 a1).f1).length c137_1) := (Qe BK138.out 1).trans rfl
    have hcz40_2 : wr.cell? ⟨gb138, 2, none⟩ = some (.int .i64 ((Qh l0_1 a1).f2)) := (Qe BK138.out 2).trans rfl
    have hcz40_3 : wr.cell? ⟨gb138, 3, none⟩ = some (.int .u64 ((Qh l0_1 a1).f3.f0)) := (Qe BK138.out 3).trans rfl
    have hcz40_4 : wr.cell? ⟨gb138, 4, none⟩ = some (.int .u64 ((Qh l0_1 a1).f3.f1)) := (Qe BK138.out 4).trans rfl
    have hcz40_5 : wr.cell? ⟨gb138, 5, none⟩ = some (.int .u64 ((Qh l0_1 a1).f3.f2)) := (Qe BK138.out 5).trans rfl
    have hcz40_6 : wr.cell? ⟨gb138, 6, none⟩ = some (.int .u64 ((Qh l0_1 a1).f3.f3)) := (Qe BK138.out 6).trans rfl
    have hfz40_0 := Qf BK138.out 0
    have hfz40_1 := Qf BK138.out 1
    have hfz40_2 := Qf BK138.out 2
    have hfz40_3 := Qf BK138.out 3
    have hfz40_4 := Qf BK138.out 4
    have hfz40_5 := Qf BK138.out 5
    have hfz40_6 := Qf BK138.out 6
    have hnb41 := NB135_136.out
    have hnc41 := NB136_135.out
    have hcz42_0 : wr.cell? ⟨gb135, 0, none⟩ = some (.slice A0_0 l0_0.length c0_0) := (Qe BK135.out 0).trans rfl
    have hcz42_1 : wr.cell? ⟨gb135, 1, none⟩ = some (.slice (some ad137) l0_1.length c0_1) := (Qe BK135.out 1).trans rfl
    have hfz42_0 := Qf BK135.out 0
    have hfz42_1 := Qf BK135.out 1
    have p144 : 0 ≤ (((Qh l0_1 a1).f2) : Int) := of_decide_eq_true (by assumption)
    have q144 : ((Qh l0_1 a1).f2) < (l0_0.length : Int) := of_decide_eq_true (by assumption)
    obtain ⟨ad144, e144, hx144_0, hx144_1⟩ := at_T39 HR0_0.out ((Qh l0_1 a1).f2) p144 q144
    cases e144
    replace hx144_0 := (HB.out.cell (World.block_lt_of_cell? w _ hx144_0)).trans hx144_0
    replace hx144_1 := (HB.out.cell (World.block_lt_of_cell? w _ hx144_1)).trans hx144_1
    replace p144 := eq_true p144
    replace q144 := eq_true q144
    have p145 : 0 ≤ (((Qa1 l0_0 ((Qh l0_1 a1).f2)).f1) : Int) := of_decide_eq_true (by assumption)
    have q145 : ((Qa1 l0_0 ((Qh l0_1 a1).f2)).f1) < (l2.length : Int) := of_decide_eq_true (by assumption)
    obtain ⟨ad145, e145, hx145_0, hx145_1, hx145_2⟩ := at_T36 HR2.out ((Qa1 l0_0 ((Qh l0_1 a1).f2)).f1) p145 q145
    cases e145
    replace hx145_0 := (HB.out.cell (World.block_lt_of_cell? w _ hx145_0)).trans hx145_0
    replace hx145_1 := (HB.out.cell (World.block_lt_of_cell? w _ hx145_1)).trans hx145_1
    replace hx145_2 := (HB.out.cell (World.block_lt_of_cell? w _ hx145_2)).trans hx145_2
    replace p145 := eq_true p145
    replace q145 := eq_true q145
    have hcz43_0 : wr.cell? ⟨gb136, 0, none⟩ = some (.bool false) := (Qe BK136.out 0).trans rfl
    have hcz43_1 : wr.cell? ⟨gb136, 1, none⟩ = some (.bool false) := (Qe BK136.out 1).trans rfl
    have hcz43_2 : wr.cell? ⟨gb136, 2, none⟩ = some (.bool false) := (Qe BK136.out 2).trans rfl
    have hfz43_0 := Qf BK136.out 0
    have hfz43_1 := Qf BK136.out 1
    have hfz43_2 := Qf BK136.out 2
    go_wp2
    refine bodyPost_ret (results_cell_row rfl _ _ gb136 36 #[.bool ((Qg l2 ((Qa1 l0_0 ((Qh l0_1 a1).f2)).f1)).f0), .bool ((Qg l2 ((Qa1 l0_0 ((Qh l0_1 a1).f2)).f1)).f1), .bool ((Qg l2 ((Qa1 l0_0 ((Qh l0_1 a1).f2)).f1)).f2)] (0, 0) _ rfl (by (with_reducible repeat (first | refine Qd ?_ _ | refine Qb ?_ | refine Qc ?_ _)); refine Qt (cs := #[.bool ((Qg l2 ((Qa1 l0_0 ((Qh l0_1 a1).f2)).f1)).f0), .bool ((Qg l2 ((Qa1 l0_0 ((Qh l0_1 a1).f2)).f1)).f1), .bool false]) ?_ 2 _ rfl; (with_reducible repeat (first | refine Qd ?_ _ | refine Qb ?_ | refine Qc ?_ _)); refine Qt (cs := #[.bool ((Qg l2 ((Qa1 l0_0 ((Qh l0_1 a1).f2)).f1)).f0), .bool false, .bool false]) ?_ 1 _ rfl; (with_reducible repeat (first | refine Qd ?_ _ | refine Qb ?_ | refine Qc ?_ _)); refine Qt (cs := #[.bool false, .bool false, .bool false]) ?_ 0 _ rfl; (with_reducible repeat (first | refine Qd ?_ _ | refine Qb ?_ | refine Qc ?_ _)); exact BK136.out) Try.underlying36 rfl (by kernel_rfl)) rfl ?_
    exact ⟨by first | rfl | (simp [Qw, Qx] <;> rfl) | (simp [*, Qw, Qx] <;> rfl), by with_reducible repeat (first | exact HB.out | apply Qk | apply Ql | apply Qj | refine Qi ?_ GE135.out | refine Qi ?_ GE136.out | refine Qi ?_ GE138.out)⟩
   rw [if_neg c33] at H
   have c33b0 : (((Qh l0_1 a1).f0) == 2) = false := beq_eq_false_iff_ne.mpr c33
   have c33b1 : (((Qh l0_1 a1).f0) != 2) = true := bne_iff_ne.mpr c33
   by_cases c44 : ((Qh l0_1 a1).f0) = 3
   ·
    rw [if_pos c44] at H
    have c44b0 : (((Qh l0_1 a1).f0) == 3) = true := beq_iff_eq.mpr c44
    have c44b1 : (((Qh l0_1 a1).f0) != 3) = false := bne_eq_false_iff_eq.mpr c44
    clear c44
    replace H := Option.bind_eq_some_iff.mp H
    obtain ⟨⟨t146, t147, t148⟩, A450, H⟩ := H
    replace H : (some (t146, t147, t148)) = some (r1, r2, r3) := H
    have A45 := Qa.mk A450
    clear A450
    simp only [Option.some.injEq, Prod.mk.injEq] at H
    obtain ⟨rfl, rfl, rfl⟩ := H
    have hnb46 := NB138_135.out
    have hnc46 := NB135_138.out
    have hnb47 := NB138_136.out
    have hnc47 := NB136_138.out
    have hcz48_0 : wr.cell? ⟨gb138, 0, none⟩ = some (.int .i64 ((Qh l0_1 a1).f0)) := (Qe BK138.out 0).trans rfl
    have hcz48_1 : wr.cell? ⟨gb138, 1, none⟩ = some (.slice A137_1 ((Qh l0_1 a1).f1).length c137_1) := (Qe BK138.out 1).trans rfl
    have hcz48_2 : wr.cell? ⟨gb138, 2, none⟩ = some (.int .i64 ((Qh l0_1 a1).f2)) := (Qe BK138.out 2).trans rfl
    have hcz48_3 : wr.cell? ⟨gb138, 3, none⟩ = some (.int .u64 ((Qh l0_1 a1).f3.f0)) := (Qe BK138.out 3).trans rfl
    have hcz48_4 : wr.cell? ⟨gb138, 4, none⟩ = some (.int .u64 ((Qh l0_1 a1).f3.f1)) := (Qe BK138.out 4).trans rfl
    have hcz48_5 : wr.cell? ⟨gb138, 5, none⟩ = some (.int .u64 ((Qh l0_1 a1).f3.f2)) := (Qe BK138.out 5).trans rfl
    have hcz48_6 : wr.cell? ⟨gb138, 6, none⟩ = some (.int .u64 ((Qh l0_1 a1).f3.f3)) := (Qe BK138.out 6).trans rfl
    have hfz48_0 := Qf BK138.out 0
    have hfz48_1 := Qf BK138.out 1
    have hfz48_2 := Qf BK138.out 2
    have hfz48_3 := Qf BK138.out 3
    have hfz48_4 := Qf BK138.out 4
    have hfz48_5 := Qf BK138.out 5
    have hfz48_6 := Qf BK138.out 6
    obtain ⟨Ao49, co49, eo49⟩ := Kd.R_slice HO_8.out
    subst eo49
    go_wp2_with (first | ((with_reducible refine gate_callee (f := 31) rfl ?_); refine goesL_ (some 58) rfl rfl Try.func31 (by kernel_rfl) rfl #[.slice Ao49 x8_1.length co49] rfl (by (try simp only [List.map_toArray, List.map_cons, List.map_nil]); first | done | rfl | (simp only [List.length_drop, List.length_take]; rfl)) ?_; (with_reducible refine (flow_seq.calls k1 _ _ x8_1 t146 t147 t148 _ ?side1 ?side2 A45.out).mono ?_); (case side1 => repeat (first | exact (Kd.R_reads' HO_8.out).2.2 | (with_reducible refine Kd.Qf1 ?_ _) | (with_reducible refine Kd.Qe1 ?_ _) | (with_reducible refine Kd.C_drew ?_))); (case side2 => exact (Kd.R_reads' HO_8.out).2.1); rintro e w50 ⟨rfl, hb⟩; refine ⟨_, rfl, ?_⟩; have n0_ := Qa.mk (Kd.Qd1 (by (with_reducible repeat (first | apply Kd.Qq | apply Kd.Qr | apply Kd.Qo)); exact HO_8.out) hb); have n1_ := Qa.mk (Qs (g := gb135) (o := .cells #[.slice A0_0 l0_0.length c0_0, .slice (some ad137) l0_1.length c0_1] 25 (0, 0)) (by (with_reducible repeat (first | refine Qd ?_ _ | refine Qb ?_ | refine Qc ?_ _)); exact BK135.out) hb); have n2_ := Qa.mk (Qs (g := gb136) (o := .cells #[.bool false, .bool false, .bool false] 36 (0, 0)) (by (with_reducible repeat (first | refine Qd ?_ _ | refine Qb ?_ | refine Qc ?_ _)); exact BK136.out) hb); have n3_ := Qa.mk (Qs (g := gb138) (o := .cells #[.int .i64 ((Qh l0_1 a1).f0), .slice A137_1 ((Qh l0_1 a1).f1).length c137_1, .int .i64 ((Qh l0_1 a1).f2), .int .u64 ((Qh l0_1 a1).f3.f0), .int .u64 ((Qh l0_1 a1).f3.f1), .int .u64 ((Qh l0_1 a1).f3.f2), .int .u64 ((Qh l0_1 a1).f3.f3)] 53 (0, 0)) (by (with_reducible repeat (first | refine Qd ?_ _ | refine Qb ?_ | refine Qc ?_ _)); exact BK138.out) hb); have n4_ := Qa.mk (Qv (by with_reducible repeat (first | exact HB.out | apply Qk | apply Ql | apply Qj | refine Qi ?_ GE135.out | refine Qi ?_ GE136.out | refine Qi ?_ GE138.out)) hb); clear HO_8; clear BK135; clear BK136; clear BK138; clear HB; have HO_8 := n0_; have BK135 := n1_; have BK136 := n2_; have BK138 := n3_; have HB := n4_; clear n0_ n1_ n2_ n3_ n4_; (try clear hb); (try clear hb2); (try clear hk); (try clear hi); have hnb51 := NB136_135.out; have hnc51 := NB135_136.out; have hcz52_0 : w50.cell? ⟨gb136, 0, none⟩ = some (.bool false) := (Qe BK136.out 0).trans rfl; have hcz52_1 : w50.cell? ⟨gb136, 1, none⟩ = some (.bool false) := (Qe BK136.out 1).trans rfl; have hcz52_2 : w50.cell? ⟨gb136, 2, none⟩ = some (.bool false) := (Qe BK136.out 2).trans rfl; have hfz52_0 := Qf BK136.out 0; have hfz52_1 := Qf BK136.out 1; have hfz52_2 := Qf BK136.out 2))
    refine bodyPost_ret (results_cell_row rfl _ _ gb136 36 #[.bool t146, .bool t147, .bool t148] (0, 0) _ rfl (by (with_reducible repeat (first | refine Qd ?_ _ | refine Qb ?_ | refine Qc ?_ _)); refine Qt (cs := #[.bool t146, .bool t147, .bool false]) ?_ 2 _ rfl; (with_reducible repeat (first | refine Qd ?_ _ | refine Qb ?_ | refine Qc ?_ _)); refine Qt (cs := #[.bool t146, .bool false, .bool false]) ?_ 1 _ rfl; (with_reducible repeat (first | refine Qd ?_ _ | refine Qb ?_ | refine Qc ?_ _)); refine Qt (cs := #[.bool false, .bool false, .bool false]) ?_ 0 _ rfl; (with_reducible repeat (first | refine Qd ?_ _ | refine Qb ?_ | refine Qc ?_ _)); exact BK136.out) Try.underlying36 rfl (by kernel_rfl)) rfl ?_
    exact ⟨by first | rfl | (simp [Qw, Qx] <;> rfl) | (simp [*, Qw, Qx] <;> rfl), by with_reducible repeat (first | exact HB.out | apply Qk | apply Ql | apply Qj | refine Qi ?_ GE135.out | refine Qi ?_ GE136.out | refine Qi ?_ GE138.out)⟩
   rw [if_neg c44] at H
   have c44b0 : (((Qh l0_1 a1).f0) == 3) = false := beq_eq_false_iff_ne.mpr c44
   have c44b1 : (((Qh l0_1 a1).f0) != 3) = true := bne_iff_ne.mpr c44
   by_cases c53 : ((Qh l0_1 a1).f0) = 4
   ·
    rw [if_pos c53] at H
    have c53b0 : (((Qh l0_1 a1).f0) == 4) = true := beq_iff_eq.mpr c53
    have c53b1 : (((Qh l0_1 a1).f0) != 4) = false := bne_eq_false_iff_eq.mpr c53
    clear c53
    replace H := Option.bind_eq_some_iff.mp H
    obtain ⟨⟨t149, t150, t151⟩, A540, H⟩ := H
    replace H : (some (t149, t150, t151)) = some (r1, r2, r3) := H
    have A54 := Qa.mk A540
    clear A540
    simp only [Option.some.injEq, Prod.mk.injEq] at H
    obtain ⟨rfl, rfl, rfl⟩ := H
    have hnb55 := NB138_135.out
    have hnc55 := NB135_138.out
    have hnb56 := NB138_136.out
    have hnc56 := NB136_138.out
    have hcz57_0 : wr.cell? ⟨gb138, 0, none⟩ = some (.int .i64 ((Qh l0_1 a1).f0)) := (Qe BK138.out 0).trans rfl
    have hcz57_1 : wr.cell? ⟨gb138, 1, none⟩ = some (.slice A137_1 ((Qh l0_1 a1).f1).length c137_1) := (Qe BK138.out 1).trans rfl
    have hcz57_2 : wr.cell? ⟨gb138, 2, none⟩ = some (.int .i64 ((Qh l0_1 a1).f2)) := (Qe BK138.out 2).trans rfl
    have hcz57_3 : wr.cell? ⟨gb138, 3, none⟩ = some (.int .u64 ((Qh l0_1 a1).f3.f0)) := (Qe BK138.out 3).trans rfl
    have hcz57_4 : wr.cell? ⟨gb138, 4, none⟩ = some (.int .u64 ((Qh l0_1 a1).f3.f1)) := (Qe BK138.out 4).trans rfl
    have hcz57_5 : wr.cell? ⟨gb138, 5, none⟩ = some (.int .u64 ((Qh l0_1 a1).f3.f2)) := (Qe BK138.out 5).trans rfl
    have hcz57_6 : wr.cell? ⟨gb138, 6, none⟩ = some (.int .u64 ((Qh l0_1 a1).f3.f3)) := (Qe BK138.out 6).trans rfl
    have hfz57_0 := Qf BK138.out 0
    have hfz57_1 := Qf BK138.out 1
    have hfz57_2 := Qf BK138.out 2
    have hfz57_3 := Qf BK138.out 3
    have hfz57_4 := Qf BK138.out 4
    have hfz57_5 := Qf BK138.out 5
    have hfz57_6 := Qf BK138.out 6
    obtain ⟨Ao58, co58, eo58⟩ := Kd.R_slice HO_8.out
    subst eo58
    go_wp2_with (first | ((with_reducible refine gate_callee (f := 32) rfl ?_); refine goesL_ (some 62) rfl rfl Try.func32 (by kernel_rfl) rfl #[.slice Ao58 x8_1.length co58] rfl (by (try simp only [List.map_toArray, List.map_cons, List.map_nil]); first | done | rfl | (simp only [List.length_drop, List.length_take]; rfl)) ?_; (with_reducible refine (flow_choice.calls k1 _ _ x8_1 t149 t150 t151 _ ?side1 ?side2 A54.out).mono ?_); (case side1 => repeat (first | exact (Kd.R_reads' HO_8.out).2.2 | (with_reducible refine Kd.Qf1 ?_ _) | (with_reducible refine Kd.Qe1 ?_ _) | (with_reducible refine Kd.C_drew ?_))); (case side2 => exact (Kd.R_reads' HO_8.out).2.1); rintro e w59 ⟨rfl, hb⟩; refine ⟨_, rfl, ?_⟩; have n0_ := Qa.mk (Kd.Qd1 (by (with_reducible repeat (first | apply Kd.Qq | apply Kd.Qr | apply Kd.Qo)); exact HO_8.out) hb); have n1_ := Qa.mk (Qs (g := gb135) (o := .cells #[.slice A0_0 l0_0.length c0_0, .slice (some ad137) l0_1.length c0_1] 25 (0, 0)) (by (with_reducible repeat (first | refine Qd ?_ _ | refine Qb ?_ | refine Qc ?_ _)); exact BK135.out) hb); have n2_ := Qa.mk (Qs (g := gb136) (o := .cells #[.bool false, .bool false, .bool false] 36 (0, 0)) (by (with_reducible repeat (first | refine Qd ?_ _ | refine Qb ?_ | refine Qc ?_ _)); exact BK136.out) hb); have n3_ := Qa.mk (Qs (g := gb138) (o := .cells #[.int .i64 ((Qh l0_1 a1).f0), .slice A137_1 ((Qh l0_1 a1).f1).length c137_1, .int .i64 ((Qh l0_1 a1).f2), .int .u64 ((Qh l0_1 a1).f3.f0), .int .u64 ((Qh l0_1 a1).f3.f1), .int .u64 ((Qh l0_1 a1).f3.f2), .int .u64 ((Qh l0_1 a1).f3.f3)] 53 (0, 0)) (by (with_reducible repeat (first | refine Qd ?_ _ | refine Qb ?_ | refine Qc ?_ _)); exact BK138.out) hb); have n4_ := Qa.mk (Qv (by with_reducible repeat (first | exact HB.out | apply Qk | apply Ql | apply Qj | refine Qi ?_ GE135.out | refine Qi ?_ GE136.out | refine Qi ?_ GE138.out)) hb); clear HO_8; clear BK135; clear BK136; clear BK138; clear HB; have HO_8 := n0_; have BK135 := n1_; have BK136 := n2_; have BK138 := n3_; have HB := n4_; clear n0_ n1_ n2_ n3_ n4_; (try clear hb); (try clear hb2); (try clear hk); (try clear hi); have hnb60 := NB136_135.out; have hnc60 := NB135_136.out; have hcz61_0 : w59.cell? ⟨gb136, 0, none⟩ = some (.bool false) := (Qe BK136.out 0).trans rfl; have hcz61_1 : w59.cell? ⟨gb136, 1, none⟩ = some (.bool false) := (Qe BK136.out 1).trans rfl; have hcz61_2 : w59.cell? ⟨gb136, 2, none⟩ = some (.bool false) := (Qe BK136.out 2).trans rfl; have hfz61_0 := Qf BK136.out 0; have hfz61_1 := Qf BK136.out 1; have hfz61_2 := Qf BK136.out 2))
    refine bodyPost_ret (results_cell_row rfl _ _ gb136 36 #[.bool t149, .bool t150, .bool t151] (0, 0) _ rfl (by (with_reducible repeat (first | refine Qd ?_ _ | refine Qb ?_ | refine Qc ?_ _)); refine Qt (cs := #[.bool t149, .bool t150, .bool false]) ?_ 2 _ rfl; (with_reducible repeat (first | refine Qd ?_ _ | refine Qb ?_ | refine Qc ?_ _)); refine Qt (cs := #[.bool t149, .bool false, .bool false]) ?_ 1 _ rfl; (with_reducible repeat (first | refine Qd ?_ _ | refine Qb ?_ | refine Qc ?_ _)); refine Qt (cs := #[.bool false, .bool false, .bool false]) ?_ 0 _ rfl; (with_reducible repeat (first | refine Qd ?_ _ | refine Qb ?_ | refine Qc ?_ _)); exact BK136.out) Try.underlying36 rfl (by kernel_rfl)) rfl ?_
    exact ⟨by first | rfl | (simp [Qw, Qx] <;> rfl) | (simp [*, Qw, Qx] <;> rfl), by with_reducible repeat (first | exact HB.out | apply Qk | apply Ql | apply Qj | refine Qi ?_ GE135.out | refine Qi ?_ GE136.out | refine Qi ?_ GE138.out)⟩
   rw [if_neg c53] at H
   have c53b0 : (((Qh l0_1 a1).f0) == 4) = false := beq_eq_false_iff_ne.mpr c53
   have c53b1 : (((Qh l0_1 a1).f0) != 4) = true := bne_iff_ne.mpr c53
   by_cases c62 : 0 < (x8_1.length : Int)
   rotate_left
   ·
    rw [if_neg c62] at H
    exact absurd H (by simp)
   rw [if_pos c62] at H
   have c62b0 : decide (0 < (x8_1.length : Int)) = true := decide_eq_true c62
   have c62b1 : decide (0 < x8_1.length) = true := decide_eq_true (by omega)
   clear c62
   replace H := Option.bind_eq_some_iff.mp H
   obtain ⟨⟨t153, t154, t155⟩, A630, H⟩ := H
   replace H : (some (t153, t154, t155)) = some (r1, r2, r3) := H
   have A63 := Qa.mk A630
   clear A630
   simp only [Option.some.injEq, Prod.mk.injEq] at H
   obtain ⟨rfl, rfl, rfl⟩ := H
   have hnb64 := NB138_135.out
   have hnc64 := NB135_138.out
   have hnb65 := NB138_136.out
   have hnc65 := NB136_138.out
   have hcz66_0 : wr.cell? ⟨gb138, 0, none⟩ = some (.int .i64 ((Qh l0_1 a1).f0)) := (Qe BK138.out 0).trans rfl
   have hcz66_1 : wr.cell? ⟨gb138, 1, none⟩ = some (.slice A137_1 ((Qh l0_1 a1).f1).length c137_1) := (Qe BK138.out 1).trans rfl
   have hcz66_2 : wr.cell? ⟨gb138, 2, none⟩ = some (.int .i64 ((Qh l0_1 a1).f2)) := (Qe BK138.out 2).trans rfl
   have hcz66_3 : wr.cell? ⟨gb138, 3, none⟩ = some (.int .u64 ((Qh l0_1 a1).f3.f0)) := (Qe BK138.out 3).trans rfl
   have hcz66_4 : wr.cell? ⟨gb138, 4, none⟩ = some (.int .u64 ((Qh l0_1 a1).f3.f1)) := (Qe BK138.out 4).trans rfl
   have hcz66_5 : wr.cell? ⟨gb138, 5, none⟩ = some (.int .u64 ((Qh l0_1 a1).f3.f2)) := (Qe BK138.out 5).trans rfl
   have hcz66_6 : wr.cell? ⟨gb138, 6, none⟩ = some (.int .u64 ((Qh l0_1 a1).f3.f3)) := (Qe BK138.out 6).trans rfl
   have hfz66_0 := Qf BK138.out 0
   have hfz66_1 := Qf BK138.out 1
   have hfz66_2 := Qf BK138.out 2
   have hfz66_3 := Qf BK138.out 3
   have hfz66_4 := Qf BK138.out 4
   have hfz66_5 := Qf BK138.out 5
   have hfz66_6 := Qf BK138.out 6
   try go_wp2
   have n0_ := Qa.mk (Kd.Qo HO_8.out)
   have n1_ := Qa.mk (Qb BK135.out)
   have n2_ := Qa.mk (Qb BK136.out)
   have n3_ := Qa.mk (Qb BK138.out)
   have n4_ := Qa.mk (Qj HB.out)
   clear HO_8
   clear BK135
   clear BK136
   clear BK138
   clear HB
   have HO_8 := n0_
   have BK135 := n1_
   have BK136 := n2_
   have BK138 := n3_
   have HB := n4_
   clear n0_ n1_ n2_ n3_ n4_
   obtain ⟨Ao68, co68, eo68⟩ := Kd.R_slice HO_8.out
   (first | subst eo68 | (injection eo68 with f1_ f2_ f3_; have f4_ := f1_.symm; have f5_ := f3_.symm; clear f1_ f2_ f3_; subst f4_; subst f5_))
   have p152 : 0 ≤ (0 : Int) := (by omega)
   have q152 : 0 < (x8_1.length : Int) := of_decide_eq_true (by assumption)
   obtain ⟨ad152, e152, hx152_0, hx152_1, hx152_2⟩ := at_T36 (Kd.R_reads' HO_8.out).2.2 0 p152 q152
   cases e152
   have qi152 : (0 < x8_1.length) = True := eq_true (by omega)
   (try rw [show ((0 : Int)).toNat = 0 from rfl] at hx152_0)
   (try rw [show 0 * 3 = 0 from rfl] at hx152_0)
   (try rw [Addr.add_zero'] at hx152_0)
   (try rw [show ((0 : Int)).toNat = 0 from rfl] at hx152_1)
   (try rw [show 0 * 3 = 0 from rfl] at hx152_1)
   (try rw [Addr.add_zero'] at hx152_1)
   (try rw [show ((0 : Int)).toNat = 0 from rfl] at hx152_2)
   (try rw [show 0 * 3 = 0 from rfl] at hx152_2)
   (try rw [Addr.add_zero'] at hx152_2)
   replace p152 := eq_true p152
   replace q152 := eq_true q152
   refine start_ (n := 7) (S := fun w' => w'.cell? ⟨gb138, 0, none⟩ = some (.int .i64 ((Qh l0_1 a1).f0)) ∧ w'.cell? ⟨gb138, 1, none⟩ = some (.slice A137_1 ((Qh l0_1 a1).f1).length c137_1) ∧ w'.cell? ⟨gb138, 2, none⟩ = some (.int .i64 ((Qh l0_1 a1).f2)) ∧ w'.cell? ⟨gb138, 3, none⟩ = some (.int .u64 ((Qh l0_1 a1).f3.f0)) ∧ w'.cell? ⟨gb138, 4, none⟩ = some (.int .u64 ((Qh l0_1 a1).f3.f1)) ∧ w'.cell? ⟨gb138, 5, none⟩ = some (.int .u64 ((Qh l0_1 a1).f3.f2)) ∧ w'.cell? ⟨gb138, 6, none⟩ = some (.int .u64 ((Qh l0_1 a1).f3.f3)) ∧ w'.cell? ad152 = some (.bool ((Qg x8_1 0).f0)) ∧ w'.cell? ⟨ad152.block, ad152.off + 1, none⟩ = some (.bool ((Qg x8_1 0).f1)) ∧ w'.cell? ⟨ad152.block, ad152.off + 2, none⟩ = some (.bool ((Qg x8_1 0).f2))) (ds := []) #[Y, Y, Y, Y, Y, Y, Y] (by kernel_rfl) rfl rfl ⟨(Qe BK138.out 0).trans rfl, (Qe BK138.out 1).trans rfl, (Qe BK138.out 2).trans rfl, (Qe BK138.out 3).trans rfl, (Qe BK138.out 4).trans rfl, (Qe BK138.out 5).trans rfl, (Qe BK138.out 6).trans rfl, hx152_0, hx152_1, hx152_2⟩ (fun hHeld => ?_)
   generalize wr.drew = w67 at HO_8 BK135 BK136 BK138 HB hx152_0 hx152_1 hx152_2 hHeld ⊢
   refine pure_ (i := 0) (N := some 63) (v := ?_) (a' := ?_) #[J, Y, Y, Y, Y, Y, Y] rfl rfl (by kernel_rfl) (fun _ _ _ h => h) (Or.inl ⟨by rfl, ?_⟩) ?_ ?_
   rotate_left
   ·
    intro w'
    go_simp
    with_reducible rfl
   rotate_left
   ·
    simp only [Act.put, List.setIfInBounds_toArray, List.set_cons_zero, List.set_cons_succ, i64_w, i32_w]
    rfl
   refine pure_ (i := 2) (N := some 65) (v := ?_) (a' := ?_) #[J, Y, J, Y, Y, Y, Y] rfl rfl (by kernel_rfl) (fun _ _ _ h => h) (Or.inl ⟨by rfl, ?_⟩) ?_ ?_
   rotate_left
   ·
    intro w'
    go_simp
    with_reducible rfl
   rotate_left
   ·
    simp only [Act.put, List.setIfInBounds_toArray, List.set_cons_zero, List.set_cons_succ, i64_w, i32_w]
    rfl
   refine pure_ (i := 3) (N := some 66) (v := ?_) (a' := ?_) #[J, Y, J, J, Y, Y, Y] rfl rfl (by kernel_rfl) (fun _ _ _ h => h) (Or.inl ⟨by rfl, ?_⟩) ?_ ?_
   rotate_left
   ·
    intro w'
    go_simp
    with_reducible rfl
   rotate_left
   ·
    simp only [Act.put, List.setIfInBounds_toArray, List.set_cons_zero, List.set_cons_succ, i64_w, i32_w]
    rfl
   refine take_ (i := 1) (N := some 64) (v := ?_) (a' := ?_) #[J, J, J, J, Y, Y, Y] rfl rfl (by kernel_rfl) (fun _ _ _ h => h) (Or.inl ⟨by rfl, ?_⟩) hHeld ?_ ?_
   rotate_left
   ·
    rintro w' ⟨s0, s1, s2, s3, s4, s5, s6, s7, s8, s9⟩
    go_simp
    with_reducible rfl
   rotate_left
   ·
    simp only [Act.put, List.setIfInBounds_toArray, List.set_cons_zero, List.set_cons_succ, i64_w, i32_w]
    rfl
   refine take_ (i := 4) (N := some 67) (v := ?_) (a' := ?_) #[J, J, J, J, J, Y, Y] rfl rfl (by kernel_rfl) (fun _ _ _ h => h) (Or.inl ⟨by rfl, ?_⟩) hHeld ?_ ?_
   rotate_left
   ·
    rintro w' ⟨s0, s1, s2, s3, s4, s5, s6, s7, s8, s9⟩
    go_simp
    with_reducible rfl
   rotate_left
   ·
    simp only [Act.put, List.setIfInBounds_toArray, List.set_cons_zero, List.set_cons_succ, i64_w, i32_w]
    rfl
   refine one_ (i := 5) (N := some 68) #[J, J, J, J, J, J, Y] rfl rfl (by kernel_rfl) (by decide) (fun K hK => ?_)
   refine goes_ Try.func33 (by kernel_rfl) rfl #[.int .i64 ((Qh l0_1 a1).f0), .agg #[.bool ((Qg x8_1 0).f0), .bool ((Qg x8_1 0).f1), .bool ((Qg x8_1 0).f2)]] (by rfl) rfl rfl (by (try simp only [List.map_toArray, List.map_cons, List.map_nil]); first | done | rfl | (simp only [List.length_drop, List.length_take]; rfl)) ?_
   with_reducible refine (flow_unary.calls ((Qh l0_1 a1).f0) ((Qg x8_1 0).f0) ((Qg x8_1 0).f1) ((Qg x8_1 0).f2) t153 t154 t155 _ A63.out).mono ?_
   rintro e w69 ⟨rfl, hb⟩
   have HS7_ := (hb.cell (World.block_lt_of_cell? _ _ (hHeld.2.2.2.2.2.2.2.1))).trans (hHeld.2.2.2.2.2.2.2.1)
   have HS8_ := (hb.cell (World.block_lt_of_cell? _ _ (hHeld.2.2.2.2.2.2.2.2.1))).trans (hHeld.2.2.2.2.2.2.2.2.1)
   have HS9_ := (hb.cell (World.block_lt_of_cell? _ _ (hHeld.2.2.2.2.2.2.2.2.2))).trans (hHeld.2.2.2.2.2.2.2.2.2)
   refine ⟨_, rfl, ?_⟩
   have n0_ := Qa.mk (Kd.Qd1 (by (with_reducible repeat (first | apply Kd.Qq | apply Kd.Qr | apply Kd.Qo)); exact HO_8.out) hb)
   have n1_ := Qa.mk (Qs (g := gb135) (o := .cells #[.slice A0_0 l0_0.length c0_0, .slice (some ad137) l0_1.length c0_1] 25 (0, 0)) (by (with_reducible repeat (first | refine Qd ?_ _ | refine Qb ?_ | refine Qc ?_ _)); exact BK135.out) hb)
   have n2_ := Qa.mk (Qs (g := gb136) (o := .cells #[.bool false, .bool false, .bool false] 36 (0, 0)) (by (with_reducible repeat (first | refine Qd ?_ _ | refine Qb ?_ | refine Qc ?_ _)); exact BK136.out) hb)
   have n3_ := Qa.mk (Qs (g := gb138) (o := .cells #[.int .i64 ((Qh l0_1 a1).f0), .slice A137_1 ((Qh l0_1 a1).f1).length c137_1, .int .i64 ((Qh l0_1 a1).f2), .int .u64 ((Qh l0_1 a1).f3.f0), .int .u64 ((Qh l0_1 a1).f3.f1), .int .u64 ((Qh l0_1 a1).f3.f2), .int .u64 ((Qh l0_1 a1).f3.f3)] 53 (0, 0)) (by (with_reducible repeat (first | refine Qd ?_ _ | refine Qb ?_ | refine Qc ?_ _)); exact BK138.out) hb)
   have n4_ := Qa.mk (Qv (by with_reducible repeat (first | exact HB.out | apply Qk | apply Ql | apply Qj | refine Qi ?_ GE135.out | refine Qi ?_ GE136.out | refine Qi ?_ GE138.out)) hb)
   clear HO_8
   clear BK135
   clear BK136
   clear BK138
   clear HB
   have HO_8 := n0_
   have BK135 := n1_
   have BK136 := n2_
   have BK138 := n3_
   have HB := n4_
   clear n0_ n1_ n2_ n3_ n4_
   (try clear hb; try clear hb2; try clear hk; try clear hi)
   refine hK.out _ _ ⟨(Qe BK138.out 0).trans rfl, (Qe BK138.out 1).trans rfl, (Qe BK138.out 2).trans rfl, (Qe BK138.out 3).trans rfl, (Qe BK138.out 4).trans rfl, (Qe BK138.out 5).trans rfl, (Qe BK138.out 6).trans rfl, HS7_, HS8_, HS9_⟩ (fun hHeld => ?_)
   clear hK K
   refine norm_ (a' := ?_) ?_ ?_
   rotate_left
   ·
    show Act.put _ (some 68) _ = _
    simp only [Act.put, List.setIfInBounds_toArray, List.set_cons_zero, List.set_cons_succ, i64_w, i32_w]
    rfl
   refine one_ (i := 6) (N := none) #[J, J, J, J, J, J, J] rfl rfl (by kernel_rfl) (by decide) (fun K hK => ?_)
   have hs70 : w69.cell? ⟨gb136, 0, none⟩ = some (.bool false) := (Qe BK136.out 0).trans rfl
   have hfs70 := Qf BK136.out 0
   have hns70_0 := NB135_136.out
   have hns70_2 := NB138_136.out
   have hms70_0 := NB136_135.out
   have hms70_2 := NB136_138.out
   have hs71 : w69.cell? ⟨gb136, 1, none⟩ = some (.bool false) := (Qe BK136.out 1).trans rfl
   have hfs71 := Qf BK136.out 1
   have hns71_0 := NB135_136.out
   have hns71_2 := NB138_136.out
   have hms71_0 := NB136_135.out
   have hms71_2 := NB136_138.out
   have hs72 : w69.cell? ⟨gb136, 2, none⟩ = some (.bool false) := (Qe BK136.out 2).trans rfl
   have hfs72 := Qf BK136.out 2
   have hns72_0 := NB135_136.out
   have hns72_2 := NB138_136.out
   have hms72_0 := NB136_135.out
   have hms72_2 := NB136_138.out
   refine skip_ (w1 := ?_) (by rfl) rfl ?_ ?_
   rotate_left
   ·
    go_simp
    rfl
   refine hK.out _ _ ⟨((cell_far (p := ⟨gb136, _, none⟩) NB138_136.out _).trans (((cell_far (p := ⟨gb136, _, none⟩) NB138_136.out _).trans (((cell_far (p := ⟨gb136, _, none⟩) NB138_136.out _).trans (hHeld.1)))))), ((cell_far (p := ⟨gb136, _, none⟩) NB138_136.out _).trans (((cell_far (p := ⟨gb136, _, none⟩) NB138_136.out _).trans (((cell_far (p := ⟨gb136, _, none⟩) NB138_136.out _).trans (hHeld.2.1)))))), ((cell_far (p := ⟨gb136, _, none⟩) NB138_136.out _).trans (((cell_far (p := ⟨gb136, _, none⟩) NB138_136.out _).trans (((cell_far (p := ⟨gb136, _, none⟩) NB138_136.out _).trans (hHeld.2.2.1)))))), ((cell_far (p := ⟨gb136, _, none⟩) NB138_136.out _).trans (((cell_far (p := ⟨gb136, _, none⟩) NB138_136.out _).trans (((cell_far (p := ⟨gb136, _, none⟩) NB138_136.out _).trans (hHeld.2.2.2.1)))))), ((cell_far (p := ⟨gb136, _, none⟩) NB138_136.out _).trans (((cell_far (p := ⟨gb136, _, none⟩) NB138_136.out _).trans (((cell_far (p := ⟨gb136, _, none⟩) NB138_136.out _).trans (hHeld.2.2.2.2.1)))))), ((cell_far (p := ⟨gb136, _, none⟩) NB138_136.out _).trans (((cell_far (p := ⟨gb136, _, none⟩) NB138_136.out _).trans (((cell_far (p := ⟨gb136, _, none⟩) NB138_136.out _).trans (hHeld.2.2.2.2.2.1)))))), ((cell_far (p := ⟨gb136, _, none⟩) NB138_136.out _).trans (((cell_far (p := ⟨gb136, _, none⟩) NB138_136.out _).trans (((cell_far (p := ⟨gb136, _, none⟩) NB138_136.out _).trans (hHeld.2.2.2.2.2.2.1)))))), ((cell_far (p := ⟨gb136, _, none⟩) (by first | exact Kd.own_blk (Kd.R_away HO_8.out (fun _ hk => hk)) | (rw [add_block]; exact Kd.own_blk (Kd.R_away HO_8.out (fun _ hk => hk))) | (show (Addr.add _ _).block ≠ _; rw [add_block]; exact Kd.own_blk (Kd.R_away HO_8.out (fun _ hk => hk))) | (dsimp only; exact Kd.own_blk (Kd.R_away HO_8.out (fun _ hk => hk)))) _).trans (((cell_far (p := ⟨gb136, _, none⟩) (by first | exact Kd.own_blk (Kd.R_away HO_8.out (fun _ hk => hk)) | (rw [add_block]; exact Kd.own_blk (Kd.R_away HO_8.out (fun _ hk => hk))) | (show (Addr.add _ _).block ≠ _; rw [add_block]; exact Kd.own_blk (Kd.R_away HO_8.out (fun _ hk => hk))) | (dsimp only; exact Kd.own_blk (Kd.R_away HO_8.out (fun _ hk => hk)))) _).trans (((cell_far (p := ⟨gb136, _, none⟩) (by first | exact Kd.own_blk (Kd.R_away HO_8.out (fun _ hk => hk)) | (rw [add_block]; exact Kd.own_blk (Kd.R_away HO_8.out (fun _ hk => hk))) | (show (Addr.add _ _).block ≠ _; rw [add_block]; exact Kd.own_blk (Kd.R_away HO_8.out (fun _ hk => hk))) | (dsimp only; exact Kd.own_blk (Kd.R_away HO_8.out (fun _ hk => hk)))) _).trans (hHeld.2.2.2.2.2.2.2.1)))))), ((cell_far (p := ⟨gb136, _, none⟩) (by first | exact Kd.own_blk (Kd.R_away HO_8.out (fun _ hk => hk)) | (rw [add_block]; exact Kd.own_blk (Kd.R_away HO_8.out (fun _ hk => hk))) | (show (Addr.add _ _).block ≠ _; rw [add_block]; exact Kd.own_blk (Kd.R_away HO_8.out (fun _ hk => hk))) | (dsimp only; exact Kd.own_blk (Kd.R_away HO_8.out (fun _ hk => hk)))) _).trans (((cell_far (p := ⟨gb136, _, none⟩) (by first | exact Kd.own_blk (Kd.R_away HO_8.out (fun _ hk => hk)) | (rw [add_block]; exact Kd.own_blk (Kd.R_away HO_8.out (fun _ hk => hk))) | (show (Addr.add _ _).block ≠ _; rw [add_block]; exact Kd.own_blk (Kd.R_away HO_8.out (fun _ hk => hk))) | (dsimp only; exact Kd.own_blk (Kd.R_away HO_8.out (fun _ hk => hk)))) _).trans (((cell_far (p := ⟨gb136, _, none⟩) (by first | exact Kd.own_blk (Kd.R_away HO_8.out (fun _ hk => hk)) | (rw [add_block]; exact Kd.own_blk (Kd.R_away HO_8.out (fun _ hk => hk))) | (show (Addr.add _ _).block ≠ _; rw [add_block]; exact Kd.own_blk (Kd.R_away HO_8.out (fun _ hk => hk))) | (dsimp only; exact Kd.own_blk (Kd.R_away HO_8.out (fun _ hk => hk)))) _).trans (hHeld.2.2.2.2.2.2.2.2.1)))))), ((cell_far (p := ⟨gb136, _, none⟩) (by first | exact Kd.own_blk (Kd.R_away HO_8.out (fun _ hk => hk)) | (rw [add_block]; exact Kd.own_blk (Kd.R_away HO_8.out (fun _ hk => hk))) | (show (Addr.add _ _).block ≠ _; rw [add_block]; exact Kd.own_blk (Kd.R_away HO_8.out (fun _ hk => hk))) | (dsimp only; exact Kd.own_blk (Kd.R_away HO_8.out (fun _ hk => hk)))) _).trans (((cell_far (p := ⟨gb136, _, none⟩) (by first | exact Kd.own_blk (Kd.R_away HO_8.out (fun _ hk => hk)) | (rw [add_block]; exact Kd.own_blk (Kd.R_away HO_8.out (fun _ hk => hk))) | (show (Addr.add _ _).block ≠ _; rw [add_block]; exact Kd.own_blk (Kd.R_away HO_8.out (fun _ hk => hk))) | (dsimp only; exact Kd.own_blk (Kd.R_away HO_8.out (fun _ hk => hk)))) _).trans (((cell_far (p := ⟨gb136, _, none⟩) (by first | exact Kd.own_blk (Kd.R_away HO_8.out (fun _ hk => hk)) | (rw [add_block]; exact Kd.own_blk (Kd.R_away HO_8.out (fun _ hk => hk))) | (show (Addr.add _ _).block ≠ _; rw [add_block]; exact Kd.own_blk (Kd.R_away HO_8.out (fun _ hk => hk))) | (dsimp only; exact Kd.own_blk (Kd.R_away HO_8.out (fun _ hk => hk)))) _).trans (hHeld.2.2.2.2.2.2.2.2.2))))))⟩ (fun hHeld => ?_)
   clear hK K
   refine done_ (by kernel_rfl) ?_
   try go_wp2
   refine bodyPost_ret (results_cell_row rfl _ _ gb136 36 #[.bool t153, .bool t154, .bool t155] (0, 0) _ rfl (by (with_reducible repeat (first | refine Qd ?_ _ | refine Qb ?_ | refine Qc ?_ _)); refine Qt (cs := #[.bool t153, .bool t154, .bool false]) ?_ 2 _ rfl; (with_reducible repeat (first | refine Qd ?_ _ | refine Qb ?_ | refine Qc ?_ _)); refine Qt (cs := #[.bool t153, .bool false, .bool false]) ?_ 1 _ rfl; (with_reducible repeat (first | refine Qd ?_ _ | refine Qb ?_ | refine Qc ?_ _)); refine Qt (cs := #[.bool false, .bool false, .bool false]) ?_ 0 _ rfl; (with_reducible repeat (first | refine Qd ?_ _ | refine Qb ?_ | refine Qc ?_ _)); exact BK136.out) Try.underlying36 rfl (by kernel_rfl)) rfl ?_
   exact ⟨by first | rfl | (simp [Qw, Qx] <;> rfl) | (simp [*, Qw, Qx] <;> rfl), by with_reducible repeat (first | exact HB.out | apply Qk | apply Ql | apply Qj | refine Qi ?_ GE135.out | refine Qi ?_ GE136.out | refine Qi ?_ GE138.out)⟩
end Go.Proofs.Ytnaanamibfpbpaa.V
namespace Go.Proofs.Ytnaanamibfpbpaa.V
open Go.RowKit Go.Proofs.YtnaanamibfpbpaaW.PrintWords Go.Proofs.YtnaanamibfpbpaaW.PrintLast Go.Proofs.YtnaanamibfpbpaaW.PrintMore
attribute [local go_sem] max2_int min2_int max_two min_two max_three min_three max_four min_four tdiv_most
set_option linter.unusedVariables false
set_option linter.unusedSimpArgs false
theorem eqA35 (d : Nat) (w : World) (x0 y0 : Bool) (x1 y1 : Bool) (x2 y2 : Bool) :
    (Op.equalIn (d + 2) 35 (.agg #[.bool x0, .bool x1, .bool x2]) (.agg #[.bool y0, .bool y1, .bool y2])).run Try.prog w = .ok (x0 == y0 && (x1 == y1 && (x2 == y2))) w := by
  refine eqA_of Try.underlying35 (by kernel_rfl) ?_
  refine eqf_cons (by rfl) (by go_simp; rfl) (by go_simp; rfl) (by go_simp) ?_
  refine eqf_cons (by rfl) (by go_simp; rfl) (by go_simp; rfl) (by go_simp) ?_
  exact eqf_last (by rfl) (by go_simp; rfl) (by go_simp; rfl) (by go_simp)
end Go.Proofs.Ytnaanamibfpbpaa.V
namespace Go.Proofs.Ytnaanamibfpbpaa.V
open Go.RowKit Go.Proofs.YtnaanamibfpbpaaW.PrintWords Go.Proofs.YtnaanamibfpbpaaW.PrintLast Go.Proofs.YtnaanamibfpbpaaW.PrintMore
attribute [local go_sem] max2_int min2_int max_two min_two max_three min_three max_four min_four tdiv_most
set_option linter.unusedVariables false
set_option linter.unusedSimpArgs false
mutual
def Qp1.l0 : Nat → Int → List (S39) → List (S53) → Option (Bool)
 | 0, _, _, _ => none
 | k + 1, x3, x211000, x211001 => if x3 < (x211000.length : Int) then (if 0 ≤ x3 then (if (((Qa1 x211000 x3).f0).size : Int) > 100 then (some false) else (Qp1.l0 k (wrap64 (x3 + 1)) x211000 x211001)) else (none)) else (Qp1.l1 k 0 x211000 x211001)
def Qp1.l1 : Nat → Int → List (S39) → List (S53) → Option (Bool)
 | 0, _, _, _ => none
 | k + 1, x4, x211000, x211001 => if x4 < (x211001.length : Int) then (if 0 ≤ x4 then (if (((Qh x211001 x4).f1).length : Int) > 60 then (some false) else (Qp1.l1 k (wrap64 (x4 + 1)) x211000 x211001)) else (none)) else (if (x211000.length : Int) ≤ 30 then (some (decide ((x211001.length : Int) ≤ 300))) else (some false))
end
def Qp1.f (k : Nat) (l0_0 : List (S39)) (l0_1 : List (S53)) : Option (Bool) := Qp1.l0 k 0 l0_0 l0_1
set_option maxHeartbeats 8000000 in
set_option maxRecDepth 100000 in
theorem Qp1.calls (k : Nat) (A0_0 : Option Addr) (c0_0 : Nat) (l0_0 : List (S39)) (A0_1 : Option Addr) (c0_1 : Nat) (l0_1 : List (S53)) (r : Bool) (w : World) (hr0_0 : Kd.C k39 w A0_0 l0_0.length l0_0) (hc0_0 : l0_0.length ≤ c0_0) (hr0_1 : Kd.C k53 w A0_1 l0_1.length l0_1) (hc0_1 : l0_1.length ≤ c0_1) (h : Qp1.f k l0_0 l0_1 = some r) :
 Calls Try.prog 20 #[.agg #[.slice A0_0 l0_0.length c0_0, .slice A0_1 l0_1.length c0_1]] w fun e w' => e = .returned (.bool r) ∧ Below w.heap.size w w' := by
 have hu25 := Try.underlying25
 have HR0_0 := Qa.mk hr0_0
 have HC0_0 := Qa.mk hc0_0
 clear hr0_0 hc0_0
 have HR0_1 := Qa.mk hr0_1
 have HC0_1 := Qa.mk hc0_1
 clear hr0_1 hc0_1
 have HB := Qa.mk (Below.refl w.heap.size w)
 have H : (Qp1.l0 k 0 l0_0 l0_1) = some r := h
 clear h
 have H' := Qa.mk H
 clear H
 go_enter Try.func20, Try.ntmps20
 go_wp2_with (first | ((with_reducible refine Qg1 (N := 1) rfl ?_); (try (refine gate_guard (by rfl) ?_; dsimp only)); refine Qh1 ?hg (N := 1) ?hd (cs := #[.slice A0_0 l0_0.length c0_0, .slice A0_1 l0_1.length c0_1]) (t := 25) ?hr ?_; (case hd => rfl); (case hg => rfl); (case hr => first | (go_simp; done) | (go_simp; rfl)); intro gb210 hg w2 hbox hb; have n0_ := Qa.mk (Qv (by with_reducible repeat (first | exact HB.out | apply Qk | apply Ql | apply Qj)) hb); have n1_ := Qa.mk (hbox); have n2_ := Qa.mk ((by rw [hg]; exact (Qb1 (by with_reducible repeat (first | exact HB.out | apply Qk | apply Ql | apply Qj))) : w.heap.size ≤ gb210)); have n3_ := n2_; clear HB; have HB := n0_; have BK210 := n1_; have GW210 := n2_; have GE210 := n3_; clear n0_ n1_ n2_ n3_; clear hb hbox hg))
 go_loopg [3] k (fun kq v3 w' => ∃ (x3_1 : Int), v3 = .int .i64 x3_1 ∧ Qa (Qp1.l0 kq x3_1 l0_0 l0_1 = some r) ∧ Qa (kq ≤ k) ∧ Qa (w'.heap[gb210]? = some (.cells #[(.slice A0_0 l0_0.length c0_0), (.slice A0_1 l0_1.length c0_1)] 25 (0, 0))) ∧ Qa (Below w.heap.size w w'))
 case atStart => exact ⟨(0), (by first | rfl | (simp; done) | (simp [*]; done)), H', ⟨Nat.le_refl _⟩, ⟨by (with_reducible repeat (first | refine Qd ?_ _ | refine Qb ?_ | refine Qc ?_ _)); exact BK210.out⟩, ⟨by with_reducible repeat (first | exact HB.out | apply Qk | apply Ql | apply Qj | refine Qi ?_ GE210.out)⟩⟩
 case round =>
  clear H'
  (try clear c2; try clear p2)
  obtain ⟨x3_1, rfl, HA, HK1, BK210, HB⟩ := hrel
  cases gk with
  | zero => exact absurd HA.out (by simp [Qp1.l0])
  | succ k1 =>
   have H := HA.out
   clear HA
   simp only [Qp1.l0] at H
   by_cases c3 : x3_1 < (l0_0.length : Int)
   ·
    rw [if_pos c3] at H
    have c3b0 : decide (x3_1 < (l0_0.length : Int)) = true := decide_eq_true c3
    clear c3
    by_cases c4 : 0 ≤ x3_1
    rotate_left
    ·
     rw [if_neg c4] at H
     exact absurd H (by simp)
    rw [if_pos c4] at H
    have c4b0 : decide (0 ≤ x3_1) = true := decide_eq_true c4
    clear c4
    by_cases c5 : (((Qa1 l0_0 x3_1).f0).size : Int) > 100
    ·
     rw [if_pos c5] at H
     have c5b0 : decide (100 < (((Qa1 l0_0 x3_1).f0).size : Int)) = true := decide_eq_true c5
     have c5b1 : decide (100 < ((Qa1 l0_0 x3_1).f0).size) = true := decide_eq_true (by omega)
     clear c5
     obtain rfl := Option.some.inj H
     have hcz6_0 : wr.cell? ⟨gb210, 0, none⟩ = some (.slice A0_0 l0_0.length c0_0) := (Qe BK210.out 0).trans rfl
     have hcz6_1 : wr.cell? ⟨gb210, 1, none⟩ = some (.slice A0_1 l0_1.length c0_1) := (Qe BK210.out 1).trans rfl
     have hfz6_0 := Qf BK210.out 0
     have hfz6_1 := Qf BK210.out 1
     have p211 : 0 ≤ (x3_1 : Int) := of_decide_eq_true (by assumption)
     have q211 : x3_1 < (l0_0.length : Int) := of_decide_eq_true (by assumption)
     obtain ⟨ad211, e211, hx211_0, hx211_1⟩ := at_T39 HR0_0.out x3_1 p211 q211
     cases e211
     replace hx211_0 := (HB.out.cell (World.block_lt_of_cell? w _ hx211_0)).trans hx211_0
     replace hx211_1 := (HB.out.cell (World.block_lt_of_cell? w _ hx211_1)).trans hx211_1
     replace p211 := eq_true p211
     replace q211 := eq_true q211
     go_wp2
     go_ret
     exact ⟨by first | rfl | (simp [Qw, Qx] <;> rfl) | (simp [*, Qw, Qx] <;> rfl), by with_reducible repeat (first | exact HB.out | apply Qk | apply Ql | apply Qj | refine Qi ?_ GE210.out)⟩
    rw [if_neg c5] at H
    have c5b0 : decide (100 < (((Qa1 l0_0 x3_1).f0).size : Int)) = false := decide_eq_false c5
    have c5b1 : decide (100 < ((Qa1 l0_0 x3_1).f0).size) = false := decide_eq_false (by omega)
    clear c5
    have H' := Qa.mk H
    clear H
    have hcz7_0 : wr.cell? ⟨gb210, 0, none⟩ = some (.slice A0_0 l0_0.length c0_0) := (Qe BK210.out 0).trans rfl
    have hcz7_1 : wr.cell? ⟨gb210, 1, none⟩ = some (.slice A0_1 l0_1.length c0_1) := (Qe BK210.out 1).trans rfl
    have hfz7_0 := Qf BK210.out 0
    have hfz7_1 := Qf BK210.out 1
    have p211 : 0 ≤ (x3_1 : Int) := of_decide_eq_true (by assumption)
    have q211 : x3_1 < (l0_0.length : Int) := of_decide_eq_true (by assumption)
    obtain ⟨ad211, e211, hx211_0, hx211_1⟩ := at_T39 HR0_0.out x3_1 p211 q211
    cases e211
    replace hx211_0 := (HB.out.cell (World.block_lt_of_cell? w _ hx211_0)).trans hx211_0
    replace hx211_1 := (HB.out.cell (World.block_lt_of_cell? w _ hx211_1)).trans hx211_1
    replace p211 := eq_true p211
    replace q211 := eq_true q211
    go_wp2
    go_roundg k1
    case measure => have := HK1.out; omega
    case rel => exact ⟨(wrap64 (x3_1 + 1)), (by first | rfl | (simp; done) | (simp [*]; done)), H', ⟨by have := HK1.out; omega⟩, ⟨by (with_reducible repeat (first | refine Qd ?_ _ | refine Qb ?_ | refine Qc ?_ _)); exact BK210.out⟩, ⟨by with_reducible repeat (first | exact HB.out | apply Qk | apply Ql | apply Qj | refine Qi ?_ GE210.out)⟩⟩
   rw [if_neg c3] at H
   have c3b0 : decide (x3_1 < (l0_0.length : Int)) = false := decide_eq_false c3
   clear c3
   have H' := Qa.mk H
   clear H
   have hcz8_0 : wr.cell? ⟨gb210, 0, none⟩ = some (.slice A0_0 l0_0.length c0_0) := (Qe BK210.out 0).trans rfl
   have hcz8_1 : wr.cell? ⟨gb210, 1, none⟩ = some (.slice A0_1 l0_1.length c0_1) := (Qe BK210.out 1).trans rfl
   have hfz8_0 := Qf BK210.out 0
   have hfz8_1 := Qf BK210.out 1
   go_wp2
   go_loopg [4] k1 (fun kq v4 w' => ∃ (x4_2 : Int), v4 = .int .i64 x4_2 ∧ Qa (Qp1.l1 kq x4_2 l0_0 l0_1 = some r) ∧ Qa (kq ≤ k1) ∧ Qa (w'.heap[gb210]? = some (.cells #[(.slice A0_0 l0_0.length c0_0), (.slice A0_1 l0_1.length c0_1)] 25 (0, 0))) ∧ Qa (Below w.heap.size w w'))
   case atStart => exact ⟨(0), (by first | rfl | (simp; done) | (simp [*]; done)), H', ⟨Nat.le_refl _⟩, ⟨by (with_reducible repeat (first | refine Qd ?_ _ | refine Qb ?_ | refine Qc ?_ _)); exact BK210.out⟩, ⟨by with_reducible repeat (first | exact HB.out | apply Qk | apply Ql | apply Qj | refine Qi ?_ GE210.out)⟩⟩
   case round =>
    clear H'
    (try clear c2; try clear p2; try clear q2; try clear hx2; try clear c3; try clear c3b0; try clear c4; try clear c4b0; try clear c5; try clear c5b0; try clear c5b1; try clear p6; try clear hcz6_0; try clear hcz6_1; try clear hcz7_0; try clear hcz7_1; try clear hcz8_0; try clear hcz8_1; try clear hfz6_0; try clear hfz6_1; try clear hfz7_0; try clear hfz7_1; try clear hfz8_0; try clear hfz8_1; try clear hx211_0; try clear hx211_1; try clear p2; try clear p211; try clear q211)
    obtain ⟨x4_2, rfl, HA, HK2, BK210, HB⟩ := hrel
    cases gk with
    | zero => exact absurd HA.out (by simp [Qp1.l1])
    | succ k2 =>
     have H := HA.out
     clear HA
     simp only [Qp1.l1] at H
     by_cases c9 : x4_2 < (l0_1.length : Int)
     rotate_left
     ·
      rw [if_neg c9] at H
      have c9b0 : decide (x4_2 < (l0_1.length : Int)) = false := decide_eq_false c9
      clear c9
      by_cases c14 : (l0_0.length : Int) ≤ 30
      ·
       rw [if_pos c14] at H
       have c14b0 : decide ((l0_0.length : Int) ≤ 30) = true := decide_eq_true c14
       have c14b1 : decide (l0_0.length ≤ 30) = true := decide_eq_true (by omega)
       clear c14
       obtain rfl := Option.some.inj H
       have hcz15_0 : wr.cell? ⟨gb210, 0, none⟩ = some (.slice A0_0 l0_0.length c0_0) := (Qe BK210.out 0).trans rfl
       have hcz15_1 : wr.cell? ⟨gb210, 1, none⟩ = some (.slice A0_1 l0_1.length c0_1) := (Qe BK210.out 1).trans rfl
       have hfz15_0 := Qf BK210.out 0
       have hfz15_1 := Qf BK210.out 1
       go_wp2
       go_ret
       exact ⟨by first | rfl | (simp [Qw, Qx] <;> rfl) | (simp [*, Qw, Qx] <;> rfl), by with_reducible repeat (first | exact HB.out | apply Qk | apply Ql | apply Qj | refine Qi ?_ GE210.out)⟩
      ·
       rw [if_neg c14] at H
       have c14b0 : decide ((l0_0.length : Int) ≤ 30) = false := decide_eq_false c14
       have c14b1 : decide (l0_0.length ≤ 30) = false := decide_eq_false (by omega)
       clear c14
       obtain rfl := Option.some.inj H
       have hcz16_0 : wr.cell? ⟨gb210, 0, none⟩ = some (.slice A0_0 l0_0.length c0_0) := (Qe BK210.out 0).trans rfl
       have hcz16_1 : wr.cell? ⟨gb210, 1, none⟩ = some (.slice A0_1 l0_1.length c0_1) := (Qe BK210.out 1).trans rfl
       have hfz16_0 := Qf BK210.out 0
       have hfz16_1 := Qf BK210.out 1
       go_wp2
       go_ret
       exact ⟨by first | rfl | (simp [Qw, Qx] <;> rfl) | (simp [*, Qw, Qx] <;> rfl), by with_reducible repeat (first | exact HB.out | apply Qk | apply Ql | apply Qj | refine Qi ?_ GE210.out)⟩
     rw [if_pos c9] at H
     have c9b0 : decide (x4_2 < (l0_1.length : Int)) = true := decide_eq_true c9
     clear c9
     by_cases c10 : 0 ≤ x4_2
     rotate_left
     ·
      rw [if_neg c10] at H
      exact absurd H (by simp)
     rw [if_pos c10] at H
     have c10b0 : decide (0 ≤ x4_2) = true := decide_eq_true c10
     clear c10
     by_cases c11 : (((Qh l0_1 x4_2).f1).length : Int) > 60
     ·
      rw [if_pos c11] at H
      have c11b0 : decide (60 < (((Qh l0_1 x4_2).f1).length : Int)) = true := decide_eq_true c11
      have c11b1 : decide (60 < ((Qh l0_1 x4_2).f1).length) = true := decide_eq_true (by omega)
      clear c11
      obtain rfl := Option.some.inj H
      have hcz12_0 : wr.cell? ⟨gb210, 0, none⟩ = some (.slice A0_0 l0_0.length c0_0) := (Qe BK210.out 0).trans rfl
      have hcz12_1 : wr.cell? ⟨gb210, 1, none⟩ = some (.slice A0_1 l0_1.length c0_1) := (Qe BK210.out 1).trans rfl
      have hfz12_0 := Qf BK210.out 0
      have hfz12_1 := Qf BK210.out 1
      have p212 : 0 ≤ (x4_2 : Int) := of_decide_eq_true (by assumption)
      have q212 : x4_2 < (l0_1.length : Int) := of_decide_eq_true (by assumption)
      obtain ⟨ad212, A212_1, c212_1, e212, hx212_0, hx212_1, hx212_2, hx212_3, hx212_4, hx212_5, hx212_6, hl212_1, hi212_1⟩ := at_T53 HR0_1.out x4_2 p212 q212
      cases e212
      replace hx212_0 := (HB.out.cell (World.block_lt_of_cell? w _ hx212_0)).trans hx212_0
      replace hx212_1 := (HB.out.cell (World.block_lt_of_cell? w _ hx212_1)).trans hx212_1
      replace hx212_2 := (HB.out.cell (World.block_lt_of_cell? w _ hx212_2)).trans hx212_2
      replace hx212_3 := (HB.out.cell (World.block_lt_of_cell? w _ hx212_3)).trans hx212_3
      replace hx212_4 := (HB.out.cell (World.block_lt_of_cell? w _ hx212_4)).trans hx212_4
      replace hx212_5 := (HB.out.cell (World.block_lt_of_cell? w _ hx212_5)).trans hx212_5
      replace hx212_6 := (HB.out.cell (World.block_lt_of_cell? w _ hx212_6)).trans hx212_6
      have HR212_1 := Qa.mk hi212_1
      have HC212_1 := Qa.mk hl212_1
      clear hi212_1 hl212_1
      replace p212 := eq_true p212
      replace q212 := eq_true q212
      go_wp2
      go_ret
      exact ⟨by first | rfl | (simp [Qw, Qx] <;> rfl) | (simp [*, Qw, Qx] <;> rfl), by with_reducible repeat (first | exact HB.out | apply Qk | apply Ql | apply Qj | refine Qi ?_ GE210.out)⟩
     rw [if_neg c11] at H
     have c11b0 : decide (60 < (((Qh l0_1 x4_2).f1).length : Int)) = false := decide_eq_false c11
     have c11b1 : decide (60 < ((Qh l0_1 x4_2).f1).length) = false := decide_eq_false (by omega)
     clear c11
     have H' := Qa.mk H
     clear H
     have hcz13_0 : wr.cell? ⟨gb210, 0, none⟩ = some (.slice A0_0 l0_0.length c0_0) := (Qe BK210.out 0).trans rfl
     have hcz13_1 : wr.cell? ⟨gb210, 1, none⟩ = some (.slice A0_1 l0_1.length c0_1) := (Qe BK210.out 1).trans rfl
     have hfz13_0 := Qf BK210.out 0
     have hfz13_1 := Qf BK210.out 1
     have p212 : 0 ≤ (x4_2 : Int) := of_decide_eq_true (by assumption)
     have q212 : x4_2 < (l0_1.length : Int) := of_decide_eq_true (by assumption)
     obtain ⟨ad212, A212_1, c212_1, e212, hx212_0, hx212_1, hx212_2, hx212_3, hx212_4, hx212_5, hx212_6, hl212_1, hi212_1⟩ := at_T53 HR0_1.out x4_2 p212 q212
     cases e212
     replace hx212_0 := (HB.out.cell (World.block_lt_of_cell? w _ hx212_0)).trans hx212_0
     replace hx212_1 := (HB.out.cell (World.block_lt_of_cell? w _ hx212_1)).trans hx212_1
     replace hx212_2 := (HB.out.cell (World.block_lt_of_cell? w _ hx212_2)).trans hx212_2
     replace hx212_3 := (HB.out.cell (World.block_lt_of_cell? w _ hx212_3)).trans hx212_3
     replace hx212_4 := (HB.out.cell (World.block_lt_of_cell? w _ hx212_4)).trans hx212_4
     replace hx212_5 := (HB.out.cell (World.block_lt_of_cell? w _ hx212_5)).trans hx212_5
     replace hx212_6 := (HB.out.cell (World.block_lt_of_cell? w _ hx212_6)).trans hx212_6
     have HR212_1 := Qa.mk hi212_1
     have HC212_1 := Qa.mk hl212_1
     clear hi212_1 hl212_1
     replace p212 := eq_true p212
     replace q212 := eq_true q212
     go_wp2
     go_roundg k2
     case measure => have := HK1.out; have := HK2.out; omega
     case rel => exact ⟨(wrap64 (x4_2 + 1)), (by first | rfl | (simp; done) | (simp [*]; done)), H', ⟨by have := HK1.out; have := HK2.out; omega⟩, ⟨by (with_reducible repeat (first | refine Qd ?_ _ | refine Qb ?_ | refine Qc ?_ _)); exact BK210.out⟩, ⟨by with_reducible repeat (first | exact HB.out | apply Qk | apply Ql | apply Qj | refine Qi ?_ GE210.out)⟩⟩
def vetchref04_Letter.f (a0 : Int) (a1 : Bool) : Option (Bool) := if a0 ≥ 48 then (if a0 ≤ 57 then (some (!a1)) else (if a0 = 95 then (some true) else (if a0 ≥ 97 then (if a0 ≤ 122 then (some true) else (if a0 ≥ 65 then (some (decide (a0 ≤ 90))) else (some false))) else (if a0 ≥ 65 then (some (decide (a0 ≤ 90))) else (some false))))) else (if a0 = 95 then (some true) else (if a0 ≥ 97 then (if a0 ≤ 122 then (some true) else (if a0 ≥ 65 then (some (decide (a0 ≤ 90))) else (some false))) else (if a0 ≥ 65 then (some (decide (a0 ≤ 90))) else (some false))))
set_option maxHeartbeats 8000000 in
set_option maxRecDepth 100000 in
theorem vetchref04_Letter.calls (a0 : Int) (a1 : Bool) (r : Bool) (w : World) (h : vetchref04_Letter.f a0 a1 = some r) :
 Calls Try.prog 41 #[.int .u8 a0, .bool a1] w fun e w' => e = .returned (.bool r) ∧ Drawn0 w w' := by
 have H : (if a0 ≥ 48 then (if a0 ≤ 57 then (some (!a1)) else (if a0 = 95 then (some true) else (if a0 ≥ 97 then (if a0 ≤ 122 then (some true) else (if a0 ≥ 65 then (some (decide (a0 ≤ 90))) else (some false))) else (if a0 ≥ 65 then (some (decide (a0 ≤ 90))) else (some false))))) else (if a0 = 95 then (some true) else (if a0 ≥ 97 then (if a0 ≤ 122 then (some true) else (if a0 ≥ 65 then (some (decide (a0 ≤ 90))) else (some false))) else (if a0 ≥ 65 then (some (decide (a0 ≤ 90))) else (some false))))) = some r := h
 clear h
 by_cases c3 : a0 ≥ 48
 ·
  rw [if_pos c3] at H
  have c3b0 : decide (48 ≤ a0) = true := decide_eq_true c3
  clear c3
  by_cases c4 : a0 ≤ 57
  ·
   rw [if_pos c4] at H
   have c4b0 : decide (a0 ≤ 57) = true := decide_eq_true c4
   clear c4
   obtain rfl := Option.some.inj H
   go_enter Try.func41, Try.ntmps41
   go_wp2
   go_ret
   exact ⟨by first | rfl | (simp; done) | (simp [*]; done) | (refine congrArg (fun b_ => Ending.returned (Value.bool b_)) ?_; rw [Bool.eq_iff_iff]; simp; done), by repeat (first | exact Drawn0.refl _ | apply Drawn0.step)⟩
  rw [if_neg c4] at H
  have c4b0 : decide (a0 ≤ 57) = false := decide_eq_false c4
  clear c4
  by_cases c5 : a0 = 95
  ·
   rw [if_pos c5] at H
   have c5b0 : (a0 == 95) = true := beq_iff_eq.mpr c5
   have c5b1 : (a0 != 95) = false := bne_eq_false_iff_eq.mpr c5
   clear c5
   obtain rfl := Option.some.inj H
   go_enter Try.func41, Try.ntmps41
   go_wp2
   go_ret
   exact ⟨by first | rfl | (simp; done) | (simp [*]; done) | (refine congrArg (fun b_ => Ending.returned (Value.bool b_)) ?_; rw [Bool.eq_iff_iff]; simp; done), by repeat (first | exact Drawn0.refl _ | apply Drawn0.step)⟩
  rw [if_neg c5] at H
  have c5b0 : (a0 == 95) = false := beq_eq_false_iff_ne.mpr c5
  have c5b1 : (a0 != 95) = true := bne_iff_ne.mpr c5
  by_cases c6 : a0 ≥ 97
  ·
   rw [if_pos c6] at H
   have c6b0 : decide (97 ≤ a0) = true := decide_eq_true c6
   clear c6
   by_cases c7 : a0 ≤ 122
   ·
    rw [if_pos c7] at H
    have c7b0 : decide (a0 ≤ 122) = true := decide_eq_true c7
    clear c7
    obtain rfl := Option.some.inj H
    go_enter Try.func41, Try.ntmps41
    go_wp2
    go_ret
    exact ⟨by first | rfl | (simp; done) | (simp [*]; done) | (refine congrArg (fun b_ => Ending.returned (Value.bool b_)) ?_; rw [Bool.eq_iff_iff]; simp; done), by repeat (first | exact Drawn0.refl _ | apply Drawn0.step)⟩
   rw [if_neg c7] at H
   have c7b0 : decide (a0 ≤ 122) = false := decide_eq_false c7
   clear c7
   by_cases c8 : a0 ≥ 65
   ·
    rw [if_pos c8] at H
    have c8b0 : decide (65 ≤ a0) = true := decide_eq_true c8
    clear c8
    obtain rfl := Option.some.inj H
    go_enter Try.func41, Try.ntmps41
    go_wp2
    go_ret
    exact ⟨by first | rfl | (simp; done) | (simp [*]; done) | (refine congrArg (fun b_ => Ending.returned (Value.bool b_)) ?_; rw [Bool.eq_iff_iff]; simp; done), by repeat (first | exact Drawn0.refl _ | apply Drawn0.step)⟩
   rw [if_neg c8] at H
   have c8b0 : decide (65 ≤ a0) = false := decide_eq_false c8
   clear c8
   obtain rfl := Option.some.inj H
   go_enter Try.func41, Try.ntmps41
   go_wp2
   go_ret
   exact ⟨by first | rfl | (simp; done) | (simp [*]; done) | (refine congrArg (fun b_ => Ending.returned (Value.bool b_)) ?_; rw [Bool.eq_iff_iff]; simp; done), by repeat (first | exact Drawn0.refl _ | apply Drawn0.step)⟩
  rw [if_neg c6] at H
  have c6b0 : decide (97 ≤ a0) = false := decide_eq_false c6
  clear c6
  by_cases c9 : a0 ≥ 65
  ·
   rw [if_pos c9] at H
   have c9b0 : decide (65 ≤ a0) = true := decide_eq_true c9
   clear c9
   obtain rfl := Option.some.inj H
   go_enter Try.func41, Try.ntmps41
   go_wp2
   go_ret
   exact ⟨by first | rfl | (simp; done) | (simp [*]; done) | (refine congrArg (fun b_ => Ending.returned (Value.bool b_)) ?_; rw [Bool.eq_iff_iff]; simp; done), by repeat (first | exact Drawn0.refl _ | apply Drawn0.step)⟩
  rw [if_neg c9] at H
  have c9b0 : decide (65 ≤ a0) = false := decide_eq_false c9
  clear c9
  obtain rfl := Option.some.inj H
  go_enter Try.func41, Try.ntmps41
  go_wp2
  go_ret
  exact ⟨by first | rfl | (simp; done) | (simp [*]; done) | (refine congrArg (fun b_ => Ending.returned (Value.bool b_)) ?_; rw [Bool.eq_iff_iff]; simp; done), by repeat (first | exact Drawn0.refl _ | apply Drawn0.step)⟩
 rw [if_neg c3] at H
 have c3b0 : decide (48 ≤ a0) = false := decide_eq_false c3
 clear c3
 by_cases c10 : a0 = 95
 ·
  rw [if_pos c10] at H
  have c10b0 : (a0 == 95) = true := beq_iff_eq.mpr c10
  have c10b1 : (a0 != 95) = false := bne_eq_false_iff_eq.mpr c10
  clear c10
  obtain rfl := Option.some.inj H
  go_enter Try.func41, Try.ntmps41
  go_wp2
  go_ret
  exact ⟨by first | rfl | (simp; done) | (simp [*]; done) | (refine congrArg (fun b_ => Ending.returned (Value.bool b_)) ?_; rw [Bool.eq_iff_iff]; simp; done), by repeat (first | exact Drawn0.refl _ | apply Drawn0.step)⟩
 rw [if_neg c10] at H
 have c10b0 : (a0 == 95) = false := beq_eq_false_iff_ne.mpr c10
 have c10b1 : (a0 != 95) = true := bne_iff_ne.mpr c10
 by_cases c11 : a0 ≥ 97
 ·
  rw [if_pos c11] at H
  have c11b0 : decide (97 ≤ a0) = true := decide_eq_true c11
  clear c11
  by_cases c12 : a0 ≤ 122
  ·
   rw [if_pos c12] at H
   have c12b0 : decide (a0 ≤ 122) = true := decide_eq_true c12
   clear c12
   obtain rfl := Option.some.inj H
   go_enter Try.func41, Try.ntmps41
   go_wp2
   go_ret
   exact ⟨by first | rfl | (simp; done) | (simp [*]; done) | (refine congrArg (fun b_ => Ending.returned (Value.bool b_)) ?_; rw [Bool.eq_iff_iff]; simp; done), by repeat (first | exact Drawn0.refl _ | apply Drawn0.step)⟩
  rw [if_neg c12] at H
  have c12b0 : decide (a0 ≤ 122) = false := decide_eq_false c12
  clear c12
  by_cases c13 : a0 ≥ 65
  ·
   rw [if_pos c13] at H
   have c13b0 : decide (65 ≤ a0) = true := decide_eq_true c13
   clear c13
   obtain rfl := Option.some.inj H
   go_enter Try.func41, Try.ntmps41
   go_wp2
   go_ret
   exact ⟨by first | rfl | (simp; done) | (simp [*]; done) | (refine congrArg (fun b_ => Ending.returned (Value.bool b_)) ?_; rw [Bool.eq_iff_iff]; simp; done), by repeat (first | exact Drawn0.refl _ | apply Drawn0.step)⟩
  rw [if_neg c13] at H
  have c13b0 : decide (65 ≤ a0) = false := decide_eq_false c13
  clear c13
  obtain rfl := Option.some.inj H
  go_enter Try.func41, Try.ntmps41
  go_wp2
  go_ret
  exact ⟨by first | rfl | (simp; done) | (simp [*]; done) | (refine congrArg (fun b_ => Ending.returned (Value.bool b_)) ?_; rw [Bool.eq_iff_iff]; simp; done), by repeat (first | exact Drawn0.refl _ | apply Drawn0.step)⟩
 rw [if_neg c11] at H
 have c11b0 : decide (97 ≤ a0) = false := decide_eq_false c11
 clear c11
 by_cases c14 : a0 ≥ 65
 ·
  rw [if_pos c14] at H
  have c14b0 : decide (65 ≤ a0) = true := decide_eq_true c14
  clear c14
  obtain rfl := Option.some.inj H
  go_enter Try.func41, Try.ntmps41
  go_wp2
  go_ret
  exact ⟨by first | rfl | (simp; done) | (simp [*]; done) | (refine congrArg (fun b_ => Ending.returned (Value.bool b_)) ?_; rw [Bool.eq_iff_iff]; simp; done), by repeat (first | exact Drawn0.refl _ | apply Drawn0.step)⟩
 rw [if_neg c14] at H
 have c14b0 : decide (65 ≤ a0) = false := decide_eq_false c14
 clear c14
 obtain rfl := Option.some.inj H
 go_enter Try.func41, Try.ntmps41
 go_wp2
 go_ret
 exact ⟨by first | rfl | (simp; done) | (simp [*]; done) | (refine congrArg (fun b_ => Ending.returned (Value.bool b_)) ?_; rw [Bool.eq_iff_iff]; simp; done), by repeat (first | exact Drawn0.refl _ | apply Drawn0.step)⟩
def Qt1.l0 : Nat → ByteArray → Int → Option (Bool)
 | 0, _, _ => none
 | k + 1, x0, x3 => if x3 < (x0.size : Int) then (if 0 ≤ x3 then ((vetchref04_Letter.f (bt x0 x3) (x3 == 0)).bind fun t213 => (if t213 = true then (Qt1.l0 k x0 (wrap64 (x3 + 1))) else (some false))) else (none)) else (some (x0.toList != ([] : List UInt8)))
def Qt1.f (k : Nat) (a0 : ByteArray) : Option (Bool) := Qt1.l0 k a0 0
set_option maxHeartbeats 8000000 in
set_option maxRecDepth 100000 in
theorem Qt1.calls (k : Nat) (a0 : ByteArray) (r : Bool) (w : World) (h : Qt1.f k a0 = some r) :
 Calls Try.prog 35 #[.string a0] w fun e w' => e = .returned (.bool r) ∧ Drawn0 w w' := by
 have H : (Qt1.l0 k a0 0) = some r := h
 clear h
 have H' := Qa.mk H
 clear H
 go_enter Try.func35, Try.ntmps35
 go_wp2
 go_loopg [3] k (fun kq v3 w' => ∃ (x3_1 : Int), v3 = .int .i64 x3_1 ∧ Qa (Qt1.l0 kq a0 x3_1 = some r) ∧ Qa (kq ≤ k) ∧ Drawn0 w w')
 case atStart => exact ⟨(0), (by first | rfl | (simp; done) | (simp [*]; done)), H', ⟨Nat.le_refl _⟩, by repeat (first | exact Drawn0.refl _ | apply Drawn0.step)⟩
 case round =>
  clear H'
  obtain ⟨x3_1, rfl, HA, HK1, ⟨m1, rfl⟩⟩ := hrel
  cases gk with
  | zero => exact absurd HA.out (by simp [Qt1.l0])
  | succ k1 =>
   have H := HA.out
   clear HA
   simp only [Qt1.l0] at H
   by_cases c2 : x3_1 < (a0.size : Int)
   rotate_left
   ·
    rw [if_neg c2] at H
    have c2b0 : decide (x3_1 < (a0.size : Int)) = false := decide_eq_false c2
    clear c2
    obtain rfl := Option.some.inj H
    go_wp2
    go_ret
    exact ⟨by first | rfl | (simp; done) | (simp [*]; done) | (refine congrArg (fun b_ => Ending.returned (Value.bool b_)) ?_; rw [Bool.eq_iff_iff]; simp; done), by repeat (first | exact Drawn0.refl _ | apply Drawn0.step)⟩
   rw [if_pos c2] at H
   have c2b0 : decide (x3_1 < (a0.size : Int)) = true := decide_eq_true c2
   clear c2
   by_cases c3 : 0 ≤ x3_1
   rotate_left
   ·
    rw [if_neg c3] at H
    exact absurd H (by simp)
   rw [if_pos c3] at H
   have c3b0 : decide (0 ≤ x3_1) = true := decide_eq_true c3
   clear c3
   replace H := Option.bind_eq_some_iff.mp H
   obtain ⟨t213, A50, H⟩ := H
   replace H : (if t213 = true then (Qt1.l0 k1 a0 (wrap64 (x3_1 + 1))) else (some false)) = some r := H
   have A5 := Qa.mk A50
   clear A50
   by_cases c6 : t213 = true
   ·
    subst c6
    have H1 : (Qt1.l0 k1 a0 (wrap64 (x3_1 + 1))) = some r := by rw [if_pos rfl] at H; exact H
    clear H
    have H := H1
    clear H1
    have H' := Qa.mk H
    clear H
    have p4 : 0 ≤ (x3_1 : Int) := of_decide_eq_true (by assumption)
    have q4 : x3_1 < (a0.size : Int) := of_decide_eq_true (by assumption)
    have hx4 := bt_at a0 x3_1
    replace p4 := eq_true p4
    replace q4 := eq_true q4
    go_wp2_with (first | ((with_reducible refine gate_callee (f := 41) rfl ?_); refine goesL_ (some 15) rfl rfl Try.func41 (by kernel_rfl) rfl #[.int .u8 (bt a0 x3_1), .bool (x3_1 == 0)] rfl (by (try simp only [List.map_toArray, List.map_cons, List.map_nil]); first | done | rfl | (simp only [List.length_drop, List.length_take]; rfl)) ?_; (with_reducible refine (vetchref04_Letter.calls (bt a0 x3_1) (x3_1 == 0) true _ A5.out).mono ?_); rintro e w' ⟨rfl, ⟨nd, rfl⟩⟩; refine ⟨_, rfl, ?_⟩))
    go_roundg k1
    case measure => have := HK1.out; omega
    case rel => exact ⟨(wrap64 (x3_1 + 1)), (by first | rfl | (simp; done) | (simp [*]; done)), H', ⟨by have := HK1.out; omega⟩, by repeat (first | exact Drawn0.refl _ | apply Drawn0.step)⟩
   replace c6 := Bool.eq_false_iff.mpr c6
   subst c6
   have H1 : (some false) = some r := by rw [if_neg (show ¬ (false = true) by decide)] at H; exact H
   clear H
   have H := H1
   clear H1
   obtain rfl := Option.some.inj H
   have p4 : 0 ≤ (x3_1 : Int) := of_decide_eq_true (by assumption)
   have q4 : x3_1 < (a0.size : Int) := of_decide_eq_true (by assumption)
   have hx4 := bt_at a0 x3_1
   replace p4 := eq_true p4
   replace q4 := eq_true q4
   go_wp2_with (first | ((with_reducible refine gate_callee (f := 41) rfl ?_); refine goesL_ (some 15) rfl rfl Try.func41 (by kernel_rfl) rfl #[.int .u8 (bt a0 x3_1), .bool (x3_1 == 0)] rfl (by (try simp only [List.map_toArray, List.map_cons, List.map_nil]); first | done | rfl | (simp only [List.length_drop, List.length_take]; rfl)) ?_; (with_reducible refine (vetchref04_Letter.calls (bt a0 x3_1) (x3_1 == 0) false _ A5.out).mono ?_); rintro e w' ⟨rfl, ⟨nd, rfl⟩⟩; refine ⟨_, rfl, ?_⟩))
   go_ret
   exact ⟨by first | rfl | (simp; done) | (simp [*]; done) | (refine congrArg (fun b_ => Ending.returned (Value.bool b_)) ?_; rw [Bool.eq_iff_iff]; simp; done), by repeat (first | exact Drawn0.refl _ | apply Drawn0.step)⟩
end Go.Proofs.Ytnaanamibfpbpaa.V
namespace Go.Proofs.Ytnaanamibfpbpaa.V
open Go.RowKit Go.Proofs.YtnaanamibfpbpaaW.PrintWords Go.Proofs.YtnaanamibfpbpaaW.PrintLast Go.Proofs.YtnaanamibfpbpaaW.PrintMore
attribute [local go_sem] max2_int min2_int max_two min_two max_three min_three max_four min_four tdiv_most
set_option linter.unusedVariables false
set_option linter.unusedSimpArgs false
attribute [local go_sem high] eqA50
mutual
def Qk1.j0 : Nat → Int → Bool → Int → List Int → Int → Int → Int → Int → Int → Option (Bool)
 | 0, _, _, _, _, _, _, _, _, _ => none
 | k + 1, x1, x13, x215000, x215001, x215002, x215003, x215004, x215005, x215006 => if x13 = true then (some false) else (if x215000 ≤ 2 then (if (x215001.length : Int) = 0 then (if x215000 = 3 then (if (x215001.length : Int) < 2 then (Qk1.j1 k x1 true x215000 x215001 x215002 x215003 x215004 x215005 x215006) else (if x215000 ≥ 5 then (Qk1.j1 k x1 ((x215001.length : Int) != 1) x215000 x215001 x215002 x215003 x215004 x215005 x215006) else (Qk1.j1 k x1 false x215000 x215001 x215002 x215003 x215004 x215005 x215006))) else (if x215000 = 4 then (if (x215001.length : Int) < 2 then (Qk1.j1 k x1 true x215000 x215001 x215002 x215003 x215004 x215005 x215006) else (if x215000 ≥ 5 then (Qk1.j1 k x1 ((x215001.length : Int) != 1) x215000 x215001 x215002 x215003 x215004 x215005 x215006) else (Qk1.j1 k x1 false x215000 x215001 x215002 x215003 x215004 x215005 x215006))) else (if x215000 ≥ 5 then (Qk1.j1 k x1 ((x215001.length : Int) != 1) x215000 x215001 x215002 x215003 x215004 x215005 x215006) else (Qk1.j1 k x1 false x215000 x215001 x215002 x215003 x215004 x215005 x215006)))) else (Qk1.j1 k x1 true x215000 x215001 x215002 x215003 x215004 x215005 x215006)) else (if x215000 = 3 then (if (x215001.length : Int) < 2 then (Qk1.j1 k x1 true x215000 x215001 x215002 x215003 x215004 x215005 x215006) else (if x215000 ≥ 5 then (Qk1.j1 k x1 ((x215001.length : Int) != 1) x215000 x215001 x215002 x215003 x215004 x215005 x215006) else (Qk1.j1 k x1 false x215000 x215001 x215002 x215003 x215004 x215005 x215006))) else (if x215000 = 4 then (if (x215001.length : Int) < 2 then (Qk1.j1 k x1 true x215000 x215001 x215002 x215003 x215004 x215005 x215006) else (if x215000 ≥ 5 then (Qk1.j1 k x1 ((x215001.length : Int) != 1) x215000 x215001 x215002 x215003 x215004 x215005 x215006) else (Qk1.j1 k x1 false x215000 x215001 x215002 x215003 x215004 x215005 x215006))) else (if x215000 ≥ 5 then (Qk1.j1 k x1 ((x215001.length : Int) != 1) x215000 x215001 x215002 x215003 x215004 x215005 x215006) else (Qk1.j1 k x1 false x215000 x215001 x215002 x215003 x215004 x215005 x215006)))))
def Qk1.j1 : Nat → Int → Bool → Int → List Int → Int → Int → Int → Int → Int → Option (Bool)
 | 0, _, _, _, _, _, _, _, _, _ => none
 | k + 1, x1, x46, x215000, x215001, x215002, x215003, x215004, x215005, x215006 => if x46 = true then (some false) else (if x215000 = 2 then (if x215002 < 0 then (some false) else (if x215002 ≥ x1 then (some false) else (if x215000 = 1 then (some true) else (some (x215003 == 0 && (x215004 == 0 && (x215005 == 0 && (x215006 == 0)))))))) else (if x215002 = 0 then (if x215000 = 1 then (some true) else (some (x215003 == 0 && (x215004 == 0 && (x215005 == 0 && (x215006 == 0)))))) else (some false)))
end
def Qk1.f (k : Nat) (a0_0 : Int) (l0_1 : List Int) (a0_2 : Int) (a0_3 : Int) (a0_4 : Int) (a0_5 : Int) (a0_6 : Int) (a1 : Int) : Option (Bool) := if a0_0 < 0 then (Qk1.j0 k a1 true a0_0 l0_1 a0_2 a0_3 a0_4 a0_5 a0_6) else (Qk1.j0 k a1 (decide (a0_0 > 9)) a0_0 l0_1 a0_2 a0_3 a0_4 a0_5 a0_6)
set_option maxHeartbeats 8000000 in
set_option maxRecDepth 100000 in
theorem Qk1.calls (k : Nat) (a0_0 : Int) (A0_1 : Option Addr) (c0_1 : Nat) (l0_1 : List Int) (a0_2 : Int) (a0_3 : Int) (a0_4 : Int) (a0_5 : Int) (a0_6 : Int) (a1 : Int) (r : Bool) (w : World) (hr0_1 : Kd.C (Kd.int .i64) w A0_1 l0_1.length l0_1) (hc0_1 : l0_1.length ≤ c0_1) (h : Qk1.f k a0_0 l0_1 a0_2 a0_3 a0_4 a0_5 a0_6 a1 = some r) :
 Calls Try.prog 36 #[.agg #[.int .i64 a0_0, .slice A0_1 l0_1.length c0_1, .int .i64 a0_2, .int .u64 a0_3, .int .u64 a0_4, .int .u64 a0_5, .int .u64 a0_6], .int .i64 a1] w fun e w' => e = .returned (.bool r) ∧ Below w.heap.size w w' := by
 have hu53 := Try.underlying53
 have hu50 := Try.underlying50
 have HR0_1 := Qa.mk hr0_1
 have HC0_1 := Qa.mk hc0_1
 clear hr0_1 hc0_1
 have HB := Qa.mk (Below.refl w.heap.size w)
 have H : (if a0_0 < 0 then (Qk1.j0 k a1 true a0_0 l0_1 a0_2 a0_3 a0_4 a0_5 a0_6) else (Qk1.j0 k a1 (decide (a0_0 > 9)) a0_0 l0_1 a0_2 a0_3 a0_4 a0_5 a0_6)) = some r := h
 clear h
 have HC3 := Qa.mk H
 clear H
 go_enter Try.func36, Try.ntmps36
 go_upto_region 1 with (first | ((with_reducible refine Qg1 (N := 2) rfl ?_); refine Qh1 ?hg (N := 2) ?hd (cs := #[.int .i64 a0_0, .slice A0_1 l0_1.length c0_1, .int .i64 a0_2, .int .u64 a0_3, .int .u64 a0_4, .int .u64 a0_5, .int .u64 a0_6]) (t := 53) ?hr ?_; (case hd => rfl); (case hg => rfl); (case hr => first | (go_simp; done) | (go_simp; rfl)); intro gb214 hg w4 hbox hb; have n0_ := Qa.mk (Qv (by with_reducible repeat (first | exact HB.out | apply Qk | apply Ql | apply Qj)) hb); have n1_ := Qa.mk (hbox); have n2_ := Qa.mk ((by rw [hg]; exact (Qb1 (by with_reducible repeat (first | exact HB.out | apply Qk | apply Ql | apply Qj))) : w.heap.size ≤ gb214)); have n3_ := n2_; clear HB; have HB := n0_; have BK214 := n1_; have GW214 := n2_; have GE214 := n3_; clear n0_ n1_ n2_ n3_; clear hb hbox hg))
 (try simp only [Act.put, List.setIfInBounds_toArray, List.set_cons_zero, List.set_cons_succ])
 go_cut [13] (fun v13 wc => ∃ (kq : Nat) (x13_2 : Bool), v13 = .bool x13_2 ∧ Qa (Qk1.j0 kq a1 x13_2 a0_0 l0_1 a0_2 a0_3 a0_4 a0_5 a0_6 = some r) ∧ Qa (kq ≤ k) ∧ Qa (wc.heap[gb214]? = some (.cells #[.int .i64 a0_0, (.slice A0_1 l0_1.length c0_1), .int .i64 a0_2, .int .u64 a0_3, .int .u64 a0_4, .int .u64 a0_5, .int .u64 a0_6] 53 (0, 0))) ∧ Qa (Below w.heap.size w wc))
 case first =>
  have H := HC3.out
  clear HC3
  by_cases c5 : a0_0 < 0
  ·
   rw [if_pos c5] at H
   have c5b0 : decide (a0_0 < 0) = true := decide_eq_true c5
   clear c5
   (first | rw [c5b0] | (simp only [i64_w, i32_w]; rw [c5b0]) | skip)
   have H' := Qa.mk H
   clear H
   have hcz6_0 : w4.cell? ⟨gb214, 0, none⟩ = some (.int .i64 a0_0) := (Qe BK214.out 0).trans rfl
   have hcz6_1 : w4.cell? ⟨gb214, 1, none⟩ = some (.slice A0_1 l0_1.length c0_1) := (Qe BK214.out 1).trans rfl
   have hcz6_2 : w4.cell? ⟨gb214, 2, none⟩ = some (.int .i64 a0_2) := (Qe BK214.out 2).trans rfl
   have hcz6_3 : w4.cell? ⟨gb214, 3, none⟩ = some (.int .u64 a0_3) := (Qe BK214.out 3).trans rfl
   have hcz6_4 : w4.cell? ⟨gb214, 4, none⟩ = some (.int .u64 a0_4) := (Qe BK214.out 4).trans rfl
   have hcz6_5 : w4.cell? ⟨gb214, 5, none⟩ = some (.int .u64 a0_5) := (Qe BK214.out 5).trans rfl
   have hcz6_6 : w4.cell? ⟨gb214, 6, none⟩ = some (.int .u64 a0_6) := (Qe BK214.out 6).trans rfl
   have hfz6_0 := Qf BK214.out 0
   have hfz6_1 := Qf BK214.out 1
   have hfz6_2 := Qf BK214.out 2
   have hfz6_3 := Qf BK214.out 3
   have hfz6_4 := Qf BK214.out 4
   have hfz6_5 := Qf BK214.out 5
   have hfz6_6 := Qf BK214.out 6
   go_wp2
   go_meet
   case rel => exact ⟨_, (true), (by first | rfl | (simp; done) | (simp [*]; done)), H', ⟨by first | omega | exact Nat.le_refl _⟩, ⟨by (with_reducible repeat (first | refine Qd ?_ _ | refine Qb ?_ | refine Qc ?_ _)); exact BK214.out⟩, ⟨by with_reducible repeat (first | exact HB.out | apply Qk | apply Ql | apply Qj | refine Qi ?_ GE214.out)⟩⟩
  rw [if_neg c5] at H
  have c5b0 : decide (a0_0 < 0) = false := decide_eq_false c5
  clear c5
  (first | rw [c5b0] | (simp only [i64_w, i32_w]; rw [c5b0]) | skip)
  have H' := Qa.mk H
  clear H
  have hcz7_0 : w4.cell? ⟨gb214, 0, none⟩ = some (.int .i64 a0_0) := (Qe BK214.out 0).trans rfl
  have hcz7_1 : w4.cell? ⟨gb214, 1, none⟩ = some (.slice A0_1 l0_1.length c0_1) := (Qe BK214.out 1).trans rfl
  have hcz7_2 : w4.cell? ⟨gb214, 2, none⟩ = some (.int .i64 a0_2) := (Qe BK214.out 2).trans rfl
  have hcz7_3 : w4.cell? ⟨gb214, 3, none⟩ = some (.int .u64 a0_3) := (Qe BK214.out 3).trans rfl
  have hcz7_4 : w4.cell? ⟨gb214, 4, none⟩ = some (.int .u64 a0_4) := (Qe BK214.out 4).trans rfl
  have hcz7_5 : w4.cell? ⟨gb214, 5, none⟩ = some (.int .u64 a0_5) := (Qe BK214.out 5).trans rfl
  have hcz7_6 : w4.cell? ⟨gb214, 6, none⟩ = some (.int .u64 a0_6) := (Qe BK214.out 6).trans rfl
  have hfz7_0 := Qf BK214.out 0
  have hfz7_1 := Qf BK214.out 1
  have hfz7_2 := Qf BK214.out 2
  have hfz7_3 := Qf BK214.out 3
  have hfz7_4 := Qf BK214.out 4
  have hfz7_5 := Qf BK214.out 5
  have hfz7_6 := Qf BK214.out 6
  go_wp2
  go_meet
  case rel => exact ⟨_, (decide (a0_0 > 9)), (by first | rfl | (simp; done) | (simp [*]; done)), H', ⟨by first | omega | exact Nat.le_refl _⟩, ⟨by (with_reducible repeat (first | refine Qd ?_ _ | refine Qb ?_ | refine Qc ?_ _)); exact BK214.out⟩, ⟨by with_reducible repeat (first | exact HB.out | apply Qk | apply Ql | apply Qj | refine Qi ?_ GE214.out)⟩⟩
 case rest =>
  clear HC3
  (try clear p2; try clear c3; try clear c5; try clear c5b0; try clear hcz6_0; try clear hcz6_1; try clear hcz6_2; try clear hcz6_3; try clear hcz6_4; try clear hcz6_5; try clear hcz6_6; try clear hcz7_0; try clear hcz7_1; try clear hcz7_2; try clear hcz7_3; try clear hcz7_4; try clear hcz7_5; try clear hcz7_6; try clear hfz6_0; try clear hfz6_1; try clear hfz6_2; try clear hfz6_3; try clear hfz6_4; try clear hfz6_5; try clear hfz6_6; try clear hfz7_0; try clear hfz7_1; try clear hfz7_2; try clear hfz7_3; try clear hfz7_4; try clear hfz7_5; try clear hfz7_6)
  obtain ⟨kq, x13_2, rfl, HA, HJ2, BK214, HB⟩ := hcut
  cases kq with
  | zero => exact absurd HA.out (by simp [Qk1.j0])
  | succ kj2 =>
   have H := HA.out
   clear HA
   simp only [Qk1.j0] at H
   by_cases c8 : x13_2 = true
   ·
    subst c8
    have H1 : (some false) = some r := by rw [if_pos rfl] at H; exact H
    clear H
    have H := H1
    clear H1
    obtain rfl := Option.some.inj H
    go_wp2
    go_ret
    exact ⟨by first | rfl | (simp [Qw, Qx] <;> rfl) | (simp [*, Qw, Qx] <;> rfl), by with_reducible repeat (first | exact HB.out | apply Qk | apply Ql | apply Qj | refine Qi ?_ GE214.out)⟩
   replace c8 := Bool.eq_false_iff.mpr c8
   subst c8
   have H1 : (if a0_0 ≤ 2 then (if (l0_1.length : Int) = 0 then (if a0_0 = 3 then (if (l0_1.length : Int) < 2 then (Qk1.j1 kj2 a1 true a0_0 l0_1 a0_2 a0_3 a0_4 a0_5 a0_6) else (if a0_0 ≥ 5 then (Qk1.j1 kj2 a1 ((l0_1.length : Int) != 1) a0_0 l0_1 a0_2 a0_3 a0_4 a0_5 a0_6) else (Qk1.j1 kj2 a1 false a0_0 l0_1 a0_2 a0_3 a0_4 a0_5 a0_6))) else (if a0_0 = 4 then (if (l0_1.length : Int) < 2 then (Qk1.j1 kj2 a1 true a0_0 l0_1 a0_2 a0_3 a0_4 a0_5 a0_6) else (if a0_0 ≥ 5 then (Qk1.j1 kj2 a1 ((l0_1.length : Int) != 1) a0_0 l0_1 a0_2 a0_3 a0_4 a0_5 a0_6) else (Qk1.j1 kj2 a1 false a0_0 l0_1 a0_2 a0_3 a0_4 a0_5 a0_6))) else (if a0_0 ≥ 5 then (Qk1.j1 kj2 a1 ((l0_1.length : Int) != 1) a0_0 l0_1 a0_2 a0_3 a0_4 a0_5 a0_6) else (Qk1.j1 kj2 a1 false a0_0 l0_1 a0_2 a0_3 a0_4 a0_5 a0_6)))) else (Qk1.j1 kj2 a1 true a0_0 l0_1 a0_2 a0_3 a0_4 a0_5 a0_6)) else (if a0_0 = 3 then (if (l0_1.length : Int) < 2 then (Qk1.j1 kj2 a1 true a0_0 l0_1 a0_2 a0_3 a0_4 a0_5 a0_6) else (if a0_0 ≥ 5 then (Qk1.j1 kj2 a1 ((l0_1.length : Int) != 1) a0_0 l0_1 a0_2 a0_3 a0_4 a0_5 a0_6) else (Qk1.j1 kj2 a1 false a0_0 l0_1 a0_2 a0_3 a0_4 a0_5 a0_6))) else (if a0_0 = 4 then (if (l0_1.length : Int) < 2 then (Qk1.j1 kj2 a1 true a0_0 l0_1 a0_2 a0_3 a0_4 a0_5 a0_6) else (if a0_0 ≥ 5 then (Qk1.j1 kj2 a1 ((l0_1.length : Int) != 1) a0_0 l0_1 a0_2 a0_3 a0_4 a0_5 a0_6) else (Qk1.j1 kj2 a1 false a0_0 l0_1 a0_2 a0_3 a0_4 a0_5 a0_6))) else (if a0_0 ≥ 5 then (Qk1.j1 kj2 a1 ((l0_1.length : Int) != 1) a0_0 l0_1 a0_2 a0_3 a0_4 a0_5 a0_6) else (Qk1.j1 kj2 a1 false a0_0 l0_1 a0_2 a0_3 a0_4 a0_5 a0_6))))) = some r := by rw [if_neg (show ¬ (false = true) by decide)] at H; exact H
   clear H
   have H := H1
   clear H1
   have HC9 := Qa.mk H
   clear H
   have hcz10_0 : wc.cell? ⟨gb214, 0, none⟩ = some (.int .i64 a0_0) := (Qe BK214.out 0).trans rfl
   have hcz10_1 : wc.cell? ⟨gb214, 1, none⟩ = some (.slice A0_1 l0_1.length c0_1) := (Qe BK214.out 1).trans rfl
   have hcz10_2 : wc.cell? ⟨gb214, 2, none⟩ = some (.int .i64 a0_2) := (Qe BK214.out 2).trans rfl
   have hcz10_3 : wc.cell? ⟨gb214, 3, none⟩ = some (.int .u64 a0_3) := (Qe BK214.out 3).trans rfl
   have hcz10_4 : wc.cell? ⟨gb214, 4, none⟩ = some (.int .u64 a0_4) := (Qe BK214.out 4).trans rfl
   have hcz10_5 : wc.cell? ⟨gb214, 5, none⟩ = some (.int .u64 a0_5) := (Qe BK214.out 5).trans rfl
   have hcz10_6 : wc.cell? ⟨gb214, 6, none⟩ = some (.int .u64 a0_6) := (Qe BK214.out 6).trans rfl
   have hfz10_0 := Qf BK214.out 0
   have hfz10_1 := Qf BK214.out 1
   have hfz10_2 := Qf BK214.out 2
   have hfz10_3 := Qf BK214.out 3
   have hfz10_4 := Qf BK214.out 4
   have hfz10_5 := Qf BK214.out 5
   have hfz10_6 := Qf BK214.out 6
   go_upto_region 4 with (fail)
   go_cut [46] (fun v46 wc => ∃ (kq : Nat) (x46_8 : Bool), v46 = .bool x46_8 ∧ Qa (Qk1.j1 kq a1 x46_8 a0_0 l0_1 a0_2 a0_3 a0_4 a0_5 a0_6 = some r) ∧ Qa (kq ≤ kj2) ∧ Qa (wc.heap[gb214]? = some (.cells #[.int .i64 a0_0, (.slice A0_1 l0_1.length c0_1), .int .i64 a0_2, .int .u64 a0_3, .int .u64 a0_4, .int .u64 a0_5, .int .u64 a0_6] 53 (0, 0))) ∧ Qa (Below w.heap.size w wc))
   case first =>
    have H := HC9.out
    clear HC9
    by_cases c11 : a0_0 ≤ 2
    ·
     rw [if_pos c11] at H
     have c11b0 : decide (a0_0 ≤ 2) = true := decide_eq_true c11
     clear c11
     (first | rw [c11b0] | (simp only [i64_w, i32_w]; rw [c11b0]) | skip)
     by_cases c12 : (l0_1.length : Int) = 0
     rotate_left
     ·
      rw [if_neg c12] at H
      have c12b0 : ((l0_1.length : Int) == 0) = false := beq_eq_false_iff_ne.mpr c12
      have c12b1 : ((l0_1.length : Int) != 0) = true := bne_iff_ne.mpr c12
      have c12b2 : ¬ (l0_1 = []) := fun h_ => c12 (by rw [h_]; rfl)
      have H' := Qa.mk H
      clear H
      have hcz28_0 : wc.cell? ⟨gb214, 0, none⟩ = some (.int .i64 a0_0) := (Qe BK214.out 0).trans rfl
      have hcz28_1 : wc.cell? ⟨gb214, 1, none⟩ = some (.slice A0_1 l0_1.length c0_1) := (Qe BK214.out 1).trans rfl
      have hcz28_2 : wc.cell? ⟨gb214, 2, none⟩ = some (.int .i64 a0_2) := (Qe BK214.out 2).trans rfl
      have hcz28_3 : wc.cell? ⟨gb214, 3, none⟩ = some (.int .u64 a0_3) := (Qe BK214.out 3).trans rfl
      have hcz28_4 : wc.cell? ⟨gb214, 4, none⟩ = some (.int .u64 a0_4) := (Qe BK214.out 4).trans rfl
      have hcz28_5 : wc.cell? ⟨gb214, 5, none⟩ = some (.int .u64 a0_5) := (Qe BK214.out 5).trans rfl
      have hcz28_6 : wc.cell? ⟨gb214, 6, none⟩ = some (.int .u64 a0_6) := (Qe BK214.out 6).trans rfl
      have hfz28_0 := Qf BK214.out 0
      have hfz28_1 := Qf BK214.out 1
      have hfz28_2 := Qf BK214.out 2
      have hfz28_3 := Qf BK214.out 3
      have hfz28_4 := Qf BK214.out 4
      have hfz28_5 := Qf BK214.out 5
      have hfz28_6 := Qf BK214.out 6
      go_wp2
      go_meet
      case rel => exact ⟨_, (true), (by first | rfl | (simp; done) | (simp [*]; done)), H', ⟨by have := HJ2.out; first | omega | exact Nat.le_refl _⟩, ⟨by (with_reducible repeat (first | refine Qd ?_ _ | refine Qb ?_ | refine Qc ?_ _)); exact BK214.out⟩, ⟨by with_reducible repeat (first | exact HB.out | apply Qk | apply Ql | apply Qj | refine Qi ?_ GE214.out)⟩⟩
     rw [if_pos c12] at H
     have c12b0 : ((l0_1.length : Int) == 0) = true := beq_iff_eq.mpr c12
     have c12b1 : ((l0_1.length : Int) != 0) = false := bne_eq_false_iff_eq.mpr c12
     clear c12
     by_cases c13 : a0_0 = 3
     ·
      rw [if_pos c13] at H
      have c13b0 : (a0_0 == 3) = true := beq_iff_eq.mpr c13
      have c13b1 : (a0_0 != 3) = false := bne_eq_false_iff_eq.mpr c13
      clear c13
      by_cases c14 : (l0_1.length : Int) < 2
      ·
       rw [if_pos c14] at H
       have c14b0 : decide ((l0_1.length : Int) < 2) = true := decide_eq_true c14
       have c14b1 : decide (l0_1.length < 2) = true := decide_eq_true (by omega)
       clear c14
       have H' := Qa.mk H
       clear H
       have hcz15_0 : wc.cell? ⟨gb214, 0, none⟩ = some (.int .i64 a0_0) := (Qe BK214.out 0).trans rfl
       have hcz15_1 : wc.cell? ⟨gb214, 1, none⟩ = some (.slice A0_1 l0_1.length c0_1) := (Qe BK214.out 1).trans rfl
       have hcz15_2 : wc.cell? ⟨gb214, 2, none⟩ = some (.int .i64 a0_2) := (Qe BK214.out 2).trans rfl
       have hcz15_3 : wc.cell? ⟨gb214, 3, none⟩ = some (.int .u64 a0_3) := (Qe BK214.out 3).trans rfl
       have hcz15_4 : wc.cell? ⟨gb214, 4, none⟩ = some (.int .u64 a0_4) := (Qe BK214.out 4).trans rfl
       have hcz15_5 : wc.cell? ⟨gb214, 5, none⟩ = some (.int .u64 a0_5) := (Qe BK214.out 5).trans rfl
       have hcz15_6 : wc.cell? ⟨gb214, 6, none⟩ = some (.int .u64 a0_6) := (Qe BK214.out 6).trans rfl
       have hfz15_0 := Qf BK214.out 0
       have hfz15_1 := Qf BK214.out 1
       have hfz15_2 := Qf BK214.out 2
       have hfz15_3 := Qf BK214.out 3
       have hfz15_4 := Qf BK214.out 4
       have hfz15_5 := Qf BK214.out 5
       have hfz15_6 := Qf BK214.out 6
       go_wp2
       go_meet
       case rel => exact ⟨_, (true), (by first | rfl | (simp; done) | (simp [*]; done)), H', ⟨by have := HJ2.out; first | omega | exact Nat.le_refl _⟩, ⟨by (with_reducible repeat (first | refine Qd ?_ _ | refine Qb ?_ | refine Qc ?_ _)); exact BK214.out⟩, ⟨by with_reducible repeat (first | exact HB.out | apply Qk | apply Ql | apply Qj | refine Qi ?_ GE214.out)⟩⟩
      rw [if_neg c14] at H
      have c14b0 : decide ((l0_1.length : Int) < 2) = false := decide_eq_false c14
      have c14b1 : decide (l0_1.length < 2) = false := decide_eq_false (by omega)
      clear c14
      by_cases c16 : a0_0 ≥ 5
      ·
       rw [if_pos c16] at H
       have c16b0 : decide (5 ≤ a0_0) = true := decide_eq_true c16
       clear c16
       have H' := Qa.mk H
       clear H
       have hcz17_0 : wc.cell? ⟨gb214, 0, none⟩ = some (.int .i64 a0_0) := (Qe BK214.out 0).trans rfl
       have hcz17_1 : wc.cell? ⟨gb214, 1, none⟩ = some (.slice A0_1 l0_1.length c0_1) := (Qe BK214.out 1).trans rfl
       have hcz17_2 : wc.cell? ⟨gb214, 2, none⟩ = some (.int .i64 a0_2) := (Qe BK214.out 2).trans rfl
       have hcz17_3 : wc.cell? ⟨gb214, 3, none⟩ = some (.int .u64 a0_3) := (Qe BK214.out 3).trans rfl
       have hcz17_4 : wc.cell? ⟨gb214, 4, none⟩ = some (.int .u64 a0_4) := (Qe BK214.out 4).trans rfl
       have hcz17_5 : wc.cell? ⟨gb214, 5, none⟩ = some (.int .u64 a0_5) := (Qe BK214.out 5).trans rfl
       have hcz17_6 : wc.cell? ⟨gb214, 6, none⟩ = some (.int .u64 a0_6) := (Qe BK214.out 6).trans rfl
       have hfz17_0 := Qf BK214.out 0
       have hfz17_1 := Qf BK214.out 1
       have hfz17_2 := Qf BK214.out 2
       have hfz17_3 := Qf BK214.out 3
       have hfz17_4 := Qf BK214.out 4
       have hfz17_5 := Qf BK214.out 5
       have hfz17_6 := Qf BK214.out 6
       go_wp2
       go_meet
       case rel => exact ⟨_, (((l0_1.length : Int) != 1)), (by first | rfl | (simp; done) | (simp [*]; done)), H', ⟨by have := HJ2.out; first | omega | exact Nat.le_refl _⟩, ⟨by (with_reducible repeat (first | refine Qd ?_ _ | refine Qb ?_ | refine Qc ?_ _)); exact BK214.out⟩, ⟨by with_reducible repeat (first | exact HB.out | apply Qk | apply Ql | apply Qj | refine Qi ?_ GE214.out)⟩⟩
      rw [if_neg c16] at H
      have c16b0 : decide (5 ≤ a0_0) = false := decide_eq_false c16
      clear c16
      have H' := Qa.mk H
      clear H
      have hcz18_0 : wc.cell? ⟨gb214, 0, none⟩ = some (.int .i64 a0_0) := (Qe BK214.out 0).trans rfl
      have hcz18_1 : wc.cell? ⟨gb214, 1, none⟩ = some (.slice A0_1 l0_1.length c0_1) := (Qe BK214.out 1).trans rfl
      have hcz18_2 : wc.cell? ⟨gb214, 2, none⟩ = some (.int .i64 a0_2) := (Qe BK214.out 2).trans rfl
      have hcz18_3 : wc.cell? ⟨gb214, 3, none⟩ = some (.int .u64 a0_3) := (Qe BK214.out 3).trans rfl
      have hcz18_4 : wc.cell? ⟨gb214, 4, none⟩ = some (.int .u64 a0_4) := (Qe BK214.out 4).trans rfl
      have hcz18_5 : wc.cell? ⟨gb214, 5, none⟩ = some (.int .u64 a0_5) := (Qe BK214.out 5).trans rfl
      have hcz18_6 : wc.cell? ⟨gb214, 6, none⟩ = some (.int .u64 a0_6) := (Qe BK214.out 6).trans rfl
      have hfz18_0 := Qf BK214.out 0
      have hfz18_1 := Qf BK214.out 1
      have hfz18_2 := Qf BK214.out 2
      have hfz18_3 := Qf BK214.out 3
      have hfz18_4 := Qf BK214.out 4
      have hfz18_5 := Qf BK214.out 5
      have hfz18_6 := Qf BK214.out 6
      go_wp2
      go_meet
      case rel => exact ⟨_, (false), (by first | rfl | (simp; done) | (simp [*]; done)), H', ⟨by have := HJ2.out; first | omega | exact Nat.le_refl _⟩, ⟨by (with_reducible repeat (first | refine Qd ?_ _ | refine Qb ?_ | refine Qc ?_ _)); exact BK214.out⟩, ⟨by with_reducible repeat (first | exact HB.out | apply Qk | apply Ql | apply Qj | refine Qi ?_ GE214.out)⟩⟩
     rw [if_neg c13] at H
     have c13b0 : (a0_0 == 3) = false := beq_eq_false_iff_ne.mpr c13
     have c13b1 : (a0_0 != 3) = true := bne_iff_ne.mpr c13
     by_cases c19 : a0_0 = 4
     ·
      rw [if_pos c19] at H
      have c19b0 : (a0_0 == 4) = true := beq_iff_eq.mpr c19
      have c19b1 : (a0_0 != 4) = false := bne_eq_false_iff_eq.mpr c19
      clear c19
      by_cases c20 : (l0_1.length : Int) < 2
      ·
       rw [if_pos c20] at H
       have c20b0 : decide ((l0_1.length : Int) < 2) = true := decide_eq_true c20
       have c20b1 : decide (l0_1.length < 2) = true := decide_eq_true (by omega)
       clear c20
       have H' := Qa.mk H
       clear H
       have hcz21_0 : wc.cell? ⟨gb214, 0, none⟩ = some (.int .i64 a0_0) := (Qe BK214.out 0).trans rfl
       have hcz21_1 : wc.cell? ⟨gb214, 1, none⟩ = some (.slice A0_1 l0_1.length c0_1) := (Qe BK214.out 1).trans rfl
       have hcz21_2 : wc.cell? ⟨gb214, 2, none⟩ = some (.int .i64 a0_2) := (Qe BK214.out 2).trans rfl
       have hcz21_3 : wc.cell? ⟨gb214, 3, none⟩ = some (.int .u64 a0_3) := (Qe BK214.out 3).trans rfl
       have hcz21_4 : wc.cell? ⟨gb214, 4, none⟩ = some (.int .u64 a0_4) := (Qe BK214.out 4).trans rfl
       have hcz21_5 : wc.cell? ⟨gb214, 5, none⟩ = some (.int .u64 a0_5) := (Qe BK214.out 5).trans rfl
       have hcz21_6 : wc.cell? ⟨gb214, 6, none⟩ = some (.int .u64 a0_6) := (Qe BK214.out 6).trans rfl
       have hfz21_0 := Qf BK214.out 0
       have hfz21_1 := Qf BK214.out 1
       have hfz21_2 := Qf BK214.out 2
       have hfz21_3 := Qf BK214.out 3
       have hfz21_4 := Qf BK214.out 4
       have hfz21_5 := Qf BK214.out 5
       have hfz21_6 := Qf BK214.out 6
       go_wp2
       go_meet
       case rel => exact ⟨_, (true), (by first | rfl | (simp; done) | (simp [*]; done)), H', ⟨by have := HJ2.out; first | omega | exact Nat.le_refl _⟩, ⟨by (with_reducible repeat (first | refine Qd ?_ _ | refine Qb ?_ | refine Qc ?_ _)); exact BK214.out⟩, ⟨by with_reducible repeat (first | exact HB.out | apply Qk | apply Ql | apply Qj | refine Qi ?_ GE214.out)⟩⟩
      rw [if_neg c20] at H
      have c20b0 : decide ((l0_1.length : Int) < 2) = false := decide_eq_false c20
      have c20b1 : decide (l0_1.length < 2) = false := decide_eq_false (by omega)
      clear c20
      by_cases c22 : a0_0 ≥ 5
      ·
       rw [if_pos c22] at H
       have c22b0 : decide (5 ≤ a0_0) = true := decide_eq_true c22
       clear c22
       have H' := Qa.mk H
       clear H
       have hcz23_0 : wc.cell? ⟨gb214, 0, none⟩ = some (.int .i64 a0_0) := (Qe BK214.out 0).trans rfl
       have hcz23_1 : wc.cell? ⟨gb214, 1, none⟩ = some (.slice A0_1 l0_1.length c0_1) := (Qe BK214.out 1).trans rfl
       have hcz23_2 : wc.cell? ⟨gb214, 2, none⟩ = some (.int .i64 a0_2) := (Qe BK214.out 2).trans rfl
       have hcz23_3 : wc.cell? ⟨gb214, 3, none⟩ = some (.int .u64 a0_3) := (Qe BK214.out 3).trans rfl
       have hcz23_4 : wc.cell? ⟨gb214, 4, none⟩ = some (.int .u64 a0_4) := (Qe BK214.out 4).trans rfl
       have hcz23_5 : wc.cell? ⟨gb214, 5, none⟩ = some (.int .u64 a0_5) := (Qe BK214.out 5).trans rfl
       have hcz23_6 : wc.cell? ⟨gb214, 6, none⟩ = some (.int .u64 a0_6) := (Qe BK214.out 6).trans rfl
       have hfz23_0 := Qf BK214.out 0
       have hfz23_1 := Qf BK214.out 1
       have hfz23_2 := Qf BK214.out 2
       have hfz23_3 := Qf BK214.out 3
       have hfz23_4 := Qf BK214.out 4
       have hfz23_5 := Qf BK214.out 5
       have hfz23_6 := Qf BK214.out 6
       go_wp2
       go_meet
       case rel => exact ⟨_, (((l0_1.length : Int) != 1)), (by first | rfl | (simp; done) | (simp [*]; done)), H', ⟨by have := HJ2.out; first | omega | exact Nat.le_refl _⟩, ⟨by (with_reducible repeat (first | refine Qd ?_ _ | refine Qb ?_ | refine Qc ?_ _)); exact BK214.out⟩, ⟨by with_reducible repeat (first | exact HB.out | apply Qk | apply Ql | apply Qj | refine Qi ?_ GE214.out)⟩⟩
      rw [if_neg c22] at H
      have c22b0 : decide (5 ≤ a0_0) = false := decide_eq_false c22
      clear c22
      have H' := Qa.mk H
      clear H
      have hcz24_0 : wc.cell? ⟨gb214, 0, none⟩ = some (.int .i64 a0_0) := (Qe BK214.out 0).trans rfl
      have hcz24_1 : wc.cell? ⟨gb214, 1, none⟩ = some (.slice A0_1 l0_1.length c0_1) := (Qe BK214.out 1).trans rfl
      have hcz24_2 : wc.cell? ⟨gb214, 2, none⟩ = some (.int .i64 a0_2) := (Qe BK214.out 2).trans rfl
      have hcz24_3 : wc.cell? ⟨gb214, 3, none⟩ = some (.int .u64 a0_3) := (Qe BK214.out 3).trans rfl
      have hcz24_4 : wc.cell? ⟨gb214, 4, none⟩ = some (.int .u64 a0_4) := (Qe BK214.out 4).trans rfl
      have hcz24_5 : wc.cell? ⟨gb214, 5, none⟩ = some (.int .u64 a0_5) := (Qe BK214.out 5).trans rfl
      have hcz24_6 : wc.cell? ⟨gb214, 6, none⟩ = some (.int .u64 a0_6) := (Qe BK214.out 6).trans rfl
      have hfz24_0 := Qf BK214.out 0
      have hfz24_1 := Qf BK214.out 1
      have hfz24_2 := Qf BK214.out 2
      have hfz24_3 := Qf BK214.out 3
      have hfz24_4 := Qf BK214.out 4
      have hfz24_5 := Qf BK214.out 5
      have hfz24_6 := Qf BK214.out 6
      go_wp2
      go_meet
      case rel => exact ⟨_, (false), (by first | rfl | (simp; done) | (simp [*]; done)), H', ⟨by have := HJ2.out; first | omega | exact Nat.le_refl _⟩, ⟨by (with_reducible repeat (first | refine Qd ?_ _ | refine Qb ?_ | refine Qc ?_ _)); exact BK214.out⟩, ⟨by with_reducible repeat (first | exact HB.out | apply Qk | apply Ql | apply Qj | refine Qi ?_ GE214.out)⟩⟩
     rw [if_neg c19] at H
     have c19b0 : (a0_0 == 4) = false := beq_eq_false_iff_ne.mpr c19
     have c19b1 : (a0_0 != 4) = true := bne_iff_ne.mpr c19
     by_cases c25 : a0_0 ≥ 5
     ·
      rw [if_pos c25] at H
      have c25b0 : decide (5 ≤ a0_0) = true := decide_eq_true c25
      clear c25
      have H' := Qa.mk H
      clear H
      have hcz26_0 : wc.cell? ⟨gb214, 0, none⟩ = some (.int .i64 a0_0) := (Qe BK214.out 0).trans rfl
      have hcz26_1 : wc.cell? ⟨gb214, 1, none⟩ = some (.slice A0_1 l0_1.length c0_1) := (Qe BK214.out 1).trans rfl
      have hcz26_2 : wc.cell? ⟨gb214, 2, none⟩ = some (.int .i64 a0_2) := (Qe BK214.out 2).trans rfl
      have hcz26_3 : wc.cell? ⟨gb214, 3, none⟩ = some (.int .u64 a0_3) := (Qe BK214.out 3).trans rfl
      have hcz26_4 : wc.cell? ⟨gb214, 4, none⟩ = some (.int .u64 a0_4) := (Qe BK214.out 4).trans rfl
      have hcz26_5 : wc.cell? ⟨gb214, 5, none⟩ = some (.int .u64 a0_5) := (Qe BK214.out 5).trans rfl
      have hcz26_6 : wc.cell? ⟨gb214, 6, none⟩ = some (.int .u64 a0_6) := (Qe BK214.out 6).trans rfl
      have hfz26_0 := Qf BK214.out 0
      have hfz26_1 := Qf BK214.out 1
      have hfz26_2 := Qf BK214.out 2
      have hfz26_3 := Qf BK214.out 3
      have hfz26_4 := Qf BK214.out 4
      have hfz26_5 := Qf BK214.out 5
      have hfz26_6 := Qf BK214.out 6
      go_wp2
      go_meet
      case rel => exact ⟨_, (((l0_1.length : Int) != 1)), (by first | rfl | (simp; done) | (simp [*]; done)), H', ⟨by have := HJ2.out; first | omega | exact Nat.le_refl _⟩, ⟨by (with_reducible repeat (first | refine Qd ?_ _ | refine Qb ?_ | refine Qc ?_ _)); exact BK214.out⟩, ⟨by with_reducible repeat (first | exact HB.out | apply Qk | apply Ql | apply Qj | refine Qi ?_ GE214.out)⟩⟩
     rw [if_neg c25] at H
     have c25b0 : decide (5 ≤ a0_0) = false := decide_eq_false c25
     clear c25
     have H' := Qa.mk H
     clear H
     have hcz27_0 : wc.cell? ⟨gb214, 0, none⟩ = some (.int .i64 a0_0) := (Qe BK214.out 0).trans rfl
     have hcz27_1 : wc.cell? ⟨gb214, 1, none⟩ = some (.slice A0_1 l0_1.length c0_1) := (Qe BK214.out 1).trans rfl
     have hcz27_2 : wc.cell? ⟨gb214, 2, none⟩ = some (.int .i64 a0_2) := (Qe BK214.out 2).trans rfl
     have hcz27_3 : wc.cell? ⟨gb214, 3, none⟩ = some (.int .u64 a0_3) := (Qe BK214.out 3).trans rfl
     have hcz27_4 : wc.cell? ⟨gb214, 4, none⟩ = some (.int .u64 a0_4) := (Qe BK214.out 4).trans rfl
     have hcz27_5 : wc.cell? ⟨gb214, 5, none⟩ = some (.int .u64 a0_5) := (Qe BK214.out 5).trans rfl
     have hcz27_6 : wc.cell? ⟨gb214, 6, none⟩ = some (.int .u64 a0_6) := (Qe BK214.out 6).trans rfl
     have hfz27_0 := Qf BK214.out 0
     have hfz27_1 := Qf BK214.out 1
     have hfz27_2 := Qf BK214.out 2
     have hfz27_3 := Qf BK214.out 3
     have hfz27_4 := Qf BK214.out 4
     have hfz27_5 := Qf BK214.out 5
     have hfz27_6 := Qf BK214.out 6
     go_wp2
     go_meet
     case rel => exact ⟨_, (false), (by first | rfl | (simp; done) | (simp [*]; done)), H', ⟨by have := HJ2.out; first | omega | exact Nat.le_refl _⟩, ⟨by (with_reducible repeat (first | refine Qd ?_ _ | refine Qb ?_ | refine Qc ?_ _)); exact BK214.out⟩, ⟨by with_reducible repeat (first | exact HB.out | apply Qk | apply Ql | apply Qj | refine Qi ?_ GE214.out)⟩⟩
    rw [if_neg c11] at H
    have c11b0 : decide (a0_0 ≤ 2) = false := decide_eq_false c11
    clear c11
    (first | rw [c11b0] | (simp only [i64_w, i32_w]; rw [c11b0]) | skip)
    by_cases c29 : a0_0 = 3
    ·
     rw [if_pos c29] at H
     have c29b0 : (a0_0 == 3) = true := beq_iff_eq.mpr c29
     have c29b1 : (a0_0 != 3) = false := bne_eq_false_iff_eq.mpr c29
     clear c29
     by_cases c30 : (l0_1.length : Int) < 2
     ·
      rw [if_pos c30] at H
      have c30b0 : decide ((l0_1.length : Int) < 2) = true := decide_eq_true c30
      have c30b1 : decide (l0_1.length < 2) = true := decide_eq_true (by omega)
      clear c30
      have H' := Qa.mk H
      clear H
      have hcz31_0 : wc.cell? ⟨gb214, 0, none⟩ = some (.int .i64 a0_0) := (Qe BK214.out 0).trans rfl
      have hcz31_1 : wc.cell? ⟨gb214, 1, none⟩ = some (.slice A0_1 l0_1.length c0_1) := (Qe BK214.out 1).trans rfl
      have hcz31_2 : wc.cell? ⟨gb214, 2, none⟩ = some (.int .i64 a0_2) := (Qe BK214.out 2).trans rfl
      have hcz31_3 : wc.cell? ⟨gb214, 3, none⟩ = some (.int .u64 a0_3) := (Qe BK214.out 3).trans rfl
      have hcz31_4 : wc.cell? ⟨gb214, 4, none⟩ = some (.int .u64 a0_4) := (Qe BK214.out 4).trans rfl
      have hcz31_5 : wc.cell? ⟨gb214, 5, none⟩ = some (.int .u64 a0_5) := (Qe BK214.out 5).trans rfl
      have hcz31_6 : wc.cell? ⟨gb214, 6, none⟩ = some (.int .u64 a0_6) := (Qe BK214.out 6).trans rfl
      have hfz31_0 := Qf BK214.out 0
      have hfz31_1 := Qf BK214.out 1
      have hfz31_2 := Qf BK214.out 2
      have hfz31_3 := Qf BK214.out 3
      have hfz31_4 := Qf BK214.out 4
      have hfz31_5 := Qf BK214.out 5
      have hfz31_6 := Qf BK214.out 6
      go_wp2
      go_meet
      case rel => exact ⟨_, (true), (by first | rfl | (simp; done) | (simp [*]; done)), H', ⟨by have := HJ2.out; first | omega | exact Nat.le_refl _⟩, ⟨by (with_reducible repeat (first | refine Qd ?_ _ | refine Qb ?_ | refine Qc ?_ _)); exact BK214.out⟩, ⟨by with_reducible repeat (first | exact HB.out | apply Qk | apply Ql | apply Qj | refine Qi ?_ GE214.out)⟩⟩
     rw [if_neg c30] at H
     have c30b0 : decide ((l0_1.length : Int) < 2) = false := decide_eq_false c30
     have c30b1 : decide (l0_1.length < 2) = false := decide_eq_false (by omega)
     clear c30
     by_cases c32 : a0_0 ≥ 5
     ·
      rw [if_pos c32] at H
      have c32b0 : decide (5 ≤ a0_0) = true := decide_eq_true c32
      clear c32
      have H' := Qa.mk H
      clear H
      have hcz33_0 : wc.cell? ⟨gb214, 0, none⟩ = some (.int .i64 a0_0) := (Qe BK214.out 0).trans rfl
      have hcz33_1 : wc.cell? ⟨gb214, 1, none⟩ = some (.slice A0_1 l0_1.length c0_1) := (Qe BK214.out 1).trans rfl
      have hcz33_2 : wc.cell? ⟨gb214, 2, none⟩ = some (.int .i64 a0_2) := (Qe BK214.out 2).trans rfl
      have hcz33_3 : wc.cell? ⟨gb214, 3, none⟩ = some (.int .u64 a0_3) := (Qe BK214.out 3).trans rfl
      have hcz33_4 : wc.cell? ⟨gb214, 4, none⟩ = some (.int .u64 a0_4) := (Qe BK214.out 4).trans rfl
      have hcz33_5 : wc.cell? ⟨gb214, 5, none⟩ = some (.int .u64 a0_5) := (Qe BK214.out 5).trans rfl
      have hcz33_6 : wc.cell? ⟨gb214, 6, none⟩ = some (.int .u64 a0_6) := (Qe BK214.out 6).trans rfl
      have hfz33_0 := Qf BK214.out 0
      have hfz33_1 := Qf BK214.out 1
      have hfz33_2 := Qf BK214.out 2
      have hfz33_3 := Qf BK214.out 3
      have hfz33_4 := Qf BK214.out 4
      have hfz33_5 := Qf BK214.out 5
      have hfz33_6 := Qf BK214.out 6
      go_wp2
      go_meet
      case rel => exact ⟨_, (((l0_1.length : Int) != 1)), (by first | rfl | (simp; done) | (simp [*]; done)), H', ⟨by have := HJ2.out; first | omega | exact Nat.le_refl _⟩, ⟨by (with_reducible repeat (first | refine Qd ?_ _ | refine Qb ?_ | refine Qc ?_ _)); exact BK214.out⟩, ⟨by with_reducible repeat (first | exact HB.out | apply Qk | apply Ql | apply Qj | refine Qi ?_ GE214.out)⟩⟩
     rw [if_neg c32] at H
     have c32b0 : decide (5 ≤ a0_0) = false := decide_eq_false c32
     clear c32
     have H' := Qa.mk H
     clear H
     have hcz34_0 : wc.cell? ⟨gb214, 0, none⟩ = some (.int .i64 a0_0) := (Qe BK214.out 0).trans rfl
     have hcz34_1 : wc.cell? ⟨gb214, 1, none⟩ = some (.slice A0_1 l0_1.length c0_1) := (Qe BK214.out 1).trans rfl
     have hcz34_2 : wc.cell? ⟨gb214, 2, none⟩ = some (.int .i64 a0_2) := (Qe BK214.out 2).trans rfl
     have hcz34_3 : wc.cell? ⟨gb214, 3, none⟩ = some (.int .u64 a0_3) := (Qe BK214.out 3).trans rfl
     have hcz34_4 : wc.cell? ⟨gb214, 4, none⟩ = some (.int .u64 a0_4) := (Qe BK214.out 4).trans rfl
     have hcz34_5 : wc.cell? ⟨gb214, 5, none⟩ = some (.int .u64 a0_5) := (Qe BK214.out 5).trans rfl
     have hcz34_6 : wc.cell? ⟨gb214, 6, none⟩ = some (.int .u64 a0_6) := (Qe BK214.out 6).trans rfl
     have hfz34_0 := Qf BK214.out 0
     have hfz34_1 := Qf BK214.out 1
     have hfz34_2 := Qf BK214.out 2
     have hfz34_3 := Qf BK214.out 3
     have hfz34_4 := Qf BK214.out 4
     have hfz34_5 := Qf BK214.out 5
     have hfz34_6 := Qf BK214.out 6
     go_wp2
     go_meet
     case rel => exact ⟨_, (false), (by first | rfl | (simp; done) | (simp [*]; done)), H', ⟨by have := HJ2.out; first | omega | exact Nat.le_refl _⟩, ⟨by (with_reducible repeat (first | refine Qd ?_ _ | refine Qb ?_ | refine Qc ?_ _)); exact BK214.out⟩, ⟨by with_reducible repeat (first | exact HB.out | apply Qk | apply Ql | apply Qj | refine Qi ?_ GE214.out)⟩⟩
    rw [if_neg c29] at H
    have c29b0 : (a0_0 == 3) = false := beq_eq_false_iff_ne.mpr c29
    have c29b1 : (a0_0 != 3) = true := bne_iff_ne.mpr c29
    by_cases c35 : a0_0 = 4
    ·
     rw [if_pos c35] at H
     have c35b0 : (a0_0 == 4) = true := beq_iff_eq.mpr c35
     have c35b1 : (a0_0 != 4) = false := bne_eq_false_iff_eq.mpr c35
     clear c35
     by_cases c36 : (l0_1.length : Int) < 2
     ·
      rw [if_pos c36] at H
      have c36b0 : decide ((l0_1.length : Int) < 2) = true := decide_eq_true c36
      have c36b1 : decide (l0_1.length < 2) = true := decide_eq_true (by omega)
      clear c36
      have H' := Qa.mk H
      clear H
      have hcz37_0 : wc.cell? ⟨gb214, 0, none⟩ = some (.int .i64 a0_0) := (Qe BK214.out 0).trans rfl
      have hcz37_1 : wc.cell? ⟨gb214, 1, none⟩ = some (.slice A0_1 l0_1.length c0_1) := (Qe BK214.out 1).trans rfl
      have hcz37_2 : wc.cell? ⟨gb214, 2, none⟩ = some (.int .i64 a0_2) := (Qe BK214.out 2).trans rfl
      have hcz37_3 : wc.cell? ⟨gb214, 3, none⟩ = some (.int .u64 a0_3) := (Qe BK214.out 3).trans rfl
      have hcz37_4 : wc.cell? ⟨gb214, 4, none⟩ = some (.int .u64 a0_4) := (Qe BK214.out 4).trans rfl
      have hcz37_5 : wc.cell? ⟨gb214, 5, none⟩ = some (.int .u64 a0_5) := (Qe BK214.out 5).trans rfl
      have hcz37_6 : wc.cell? ⟨gb214, 6, none⟩ = some (.int .u64 a0_6) := (Qe BK214.out 6).trans rfl
      have hfz37_0 := Qf BK214.out 0
      have hfz37_1 := Qf BK214.out 1
      have hfz37_2 := Qf BK214.out 2
      have hfz37_3 := Qf BK214.out 3
      have hfz37_4 := Qf BK214.out 4
      have hfz37_5 := Qf BK214.out 5
      have hfz37_6 := Qf BK214.out 6
      go_wp2
      go_meet
      case rel => exact ⟨_, (true), (by first | rfl | (simp; done) | (simp [*]; done)), H', ⟨by have := HJ2.out; first | omega | exact Nat.le_refl _⟩, ⟨by (with_reducible repeat (first | refine Qd ?_ _ | refine Qb ?_ | refine Qc ?_ _)); exact BK214.out⟩, ⟨by with_reducible repeat (first | exact HB.out | apply Qk | apply Ql | apply Qj | refine Qi ?_ GE214.out)⟩⟩
     rw [if_neg c36] at H
     have c36b0 : decide ((l0_1.length : Int) < 2) = false := decide_eq_false c36
     have c36b1 : decide (l0_1.length < 2) = false := decide_eq_false (by omega)
     clear c36
     by_cases c38 : a0_0 ≥ 5
     ·
      rw [if_pos c38] at H
      have c38b0 : decide (5 ≤ a0_0) = true := decide_eq_true c38
      clear c38
      have H' := Qa.mk H
      clear H
      have hcz39_0 : wc.cell? ⟨gb214, 0, none⟩ = some (.int .i64 a0_0) := (Qe BK214.out 0).trans rfl
      have hcz39_1 : wc.cell? ⟨gb214, 1, none⟩ = some (.slice A0_1 l0_1.length c0_1) := (Qe BK214.out 1).trans rfl
      have hcz39_2 : wc.cell? ⟨gb214, 2, none⟩ = some (.int .i64 a0_2) := (Qe BK214.out 2).trans rfl
      have hcz39_3 : wc.cell? ⟨gb214, 3, none⟩ = some (.int .u64 a0_3) := (Qe BK214.out 3).trans rfl
      have hcz39_4 : wc.cell? ⟨gb214, 4, none⟩ = some (.int .u64 a0_4) := (Qe BK214.out 4).trans rfl
      have hcz39_5 : wc.cell? ⟨gb214, 5, none⟩ = some (.int .u64 a0_5) := (Qe BK214.out 5).trans rfl
      have hcz39_6 : wc.cell? ⟨gb214, 6, none⟩ = some (.int .u64 a0_6) := (Qe BK214.out 6).trans rfl
      have hfz39_0 := Qf BK214.out 0
      have hfz39_1 := Qf BK214.out 1
      have hfz39_2 := Qf BK214.out 2
      have hfz39_3 := Qf BK214.out 3
      have hfz39_4 := Qf BK214.out 4
      have hfz39_5 := Qf BK214.out 5
      have hfz39_6 := Qf BK214.out 6
      go_wp2
      go_meet
      case rel => exact ⟨_, (((l0_1.length : Int) != 1)), (by first | rfl | (simp; done) | (simp [*]; done)), H', ⟨by have := HJ2.out; first | omega | exact Nat.le_refl _⟩, ⟨by (with_reducible repeat (first | refine Qd ?_ _ | refine Qb ?_ | refine Qc ?_ _)); exact BK214.out⟩, ⟨by with_reducible repeat (first | exact HB.out | apply Qk | apply Ql | apply Qj | refine Qi ?_ GE214.out)⟩⟩
     rw [if_neg c38] at H
     have c38b0 : decide (5 ≤ a0_0) = false := decide_eq_false c38
     clear c38
     have H' := Qa.mk H
     clear H
     have hcz40_0 : wc.cell? ⟨gb214, 0, none⟩ = some (.int .i64 a0_0) := (Qe BK214.out 0).trans rfl
     have hcz40_1 : wc.cell? ⟨gb214, 1, none⟩ = some (.slice A0_1 l0_1.length c0_1) := (Qe BK214.out 1).trans rfl
     have hcz40_2 : wc.cell? ⟨gb214, 2, none⟩ = some (.int .i64 a0_2) := (Qe BK214.out 2).trans rfl
     have hcz40_3 : wc.cell? ⟨gb214, 3, none⟩ = some (.int .u64 a0_3) := (Qe BK214.out 3).trans rfl
     have hcz40_4 : wc.cell? ⟨gb214, 4, none⟩ = some (.int .u64 a0_4) := (Qe BK214.out 4).trans rfl
     have hcz40_5 : wc.cell? ⟨gb214, 5, none⟩ = some (.int .u64 a0_5) := (Qe BK214.out 5).trans rfl
     have hcz40_6 : wc.cell? ⟨gb214, 6, none⟩ = some (.int .u64 a0_6) := (Qe BK214.out 6).trans rfl
     have hfz40_0 := Qf BK214.out 0
     have hfz40_1 := Qf BK214.out 1
     have hfz40_2 := Qf BK214.out 2
     have hfz40_3 := Qf BK214.out 3
     have hfz40_4 := Qf BK214.out 4
     have hfz40_5 := Qf BK214.out 5
     have hfz40_6 := Qf BK214.out 6
     go_wp2
     go_meet
     case rel => exact ⟨_, (false), (by first | rfl | (simp; done) | (simp [*]; done)), H', ⟨by have := HJ2.out; first | omega | exact Nat.le_refl _⟩, ⟨by (with_reducible repeat (first | refine Qd ?_ _ | refine Qb ?_ | refine Qc ?_ _)); exact BK214.out⟩, ⟨by with_reducible repeat (first | exact HB.out | apply Qk | apply Ql | apply Qj | refine Qi ?_ GE214.out)⟩⟩
    rw [if_neg c35] at H
    have c35b0 : (a0_0 == 4) = false := beq_eq_false_iff_ne.mpr c35
    have c35b1 : (a0_0 != 4) = true := bne_iff_ne.mpr c35
    by_cases c41 : a0_0 ≥ 5
    ·
     rw [if_pos c41] at H
     have c41b0 : decide (5 ≤ a0_0) = true := decide_eq_true c41
     clear c41
     have H' := Qa.mk H
     clear H
     have hcz42_0 : wc.cell? ⟨gb214, 0, none⟩ = some (.int .i64 a0_0) := (Qe BK214.out 0).trans rfl
     have hcz42_1 : wc.cell? ⟨gb214, 1, none⟩ = some (.slice A0_1 l0_1.length c0_1) := (Qe BK214.out 1).trans rfl
     have hcz42_2 : wc.cell? ⟨gb214, 2, none⟩ = some (.int .i64 a0_2) := (Qe BK214.out 2).trans rfl
     have hcz42_3 : wc.cell? ⟨gb214, 3, none⟩ = some (.int .u64 a0_3) := (Qe BK214.out 3).trans rfl
     have hcz42_4 : wc.cell? ⟨gb214, 4, none⟩ = some (.int .u64 a0_4) := (Qe BK214.out 4).trans rfl
     have hcz42_5 : wc.cell? ⟨gb214, 5, none⟩ = some (.int .u64 a0_5) := (Qe BK214.out 5).trans rfl
     have hcz42_6 : wc.cell? ⟨gb214, 6, none⟩ = some (.int .u64 a0_6) := (Qe BK214.out 6).trans rfl
     have hfz42_0 := Qf BK214.out 0
     have hfz42_1 := Qf BK214.out 1
     have hfz42_2 := Qf BK214.out 2
     have hfz42_3 := Qf BK214.out 3
     have hfz42_4 := Qf BK214.out 4
     have hfz42_5 := Qf BK214.out 5
     have hfz42_6 := Qf BK214.out 6
     go_wp2
     go_meet
     case rel => exact ⟨_, (((l0_1.length : Int) != 1)), (by first | rfl | (simp; done) | (simp [*]; done)), H', ⟨by have := HJ2.out; first | omega | exact Nat.le_refl _⟩, ⟨by (with_reducible repeat (first | refine Qd ?_ _ | refine Qb ?_ | refine Qc ?_ _)); exact BK214.out⟩, ⟨by with_reducible repeat (first | exact HB.out | apply Qk | apply Ql | apply Qj | refine Qi ?_ GE214.out)⟩⟩
    rw [if_neg c41] at H
    have c41b0 : decide (5 ≤ a0_0) = false := decide_eq_false c41
    clear c41
    have H' := Qa.mk H
    clear H
    have hcz43_0 : wc.cell? ⟨gb214, 0, none⟩ = some (.int .i64 a0_0) := (Qe BK214.out 0).trans rfl
    have hcz43_1 : wc.cell? ⟨gb214, 1, none⟩ = some (.slice A0_1 l0_1.length c0_1) := (Qe BK214.out 1).trans rfl
    have hcz43_2 : wc.cell? ⟨gb214, 2, none⟩ = some (.int .i64 a0_2) := (Qe BK214.out 2).trans rfl
    have hcz43_3 : wc.cell? ⟨gb214, 3, none⟩ = some (.int .u64 a0_3) := (Qe BK214.out 3).trans rfl
    have hcz43_4 : wc.cell? ⟨gb214, 4, none⟩ = some (.int .u64 a0_4) := (Qe BK214.out 4).trans rfl
    have hcz43_5 : wc.cell? ⟨gb214, 5, none⟩ = some (.int .u64 a0_5) := (Qe BK214.out 5).trans rfl
    have hcz43_6 : wc.cell? ⟨gb214, 6, none⟩ = some (.int .u64 a0_6) := (Qe BK214.out 6).trans rfl
    have hfz43_0 := Qf BK214.out 0
    have hfz43_1 := Qf BK214.out 1
    have hfz43_2 := Qf BK214.out 2
    have hfz43_3 := Qf BK214.out 3
    have hfz43_4 := Qf BK214.out 4
    have hfz43_5 := Qf BK214.out 5
    have hfz43_6 := Qf BK214.out 6
    go_wp2
    go_meet
    case rel => exact ⟨_, (false), (by first | rfl | (simp; done) | (simp [*]; done)), H', ⟨by have := HJ2.out; first | omega | exact Nat.le_refl _⟩, ⟨by (with_reducible repeat (first | refine Qd ?_ _ | refine Qb ?_ | refine Qc ?_ _)); exact BK214.out⟩, ⟨by with_reducible repeat (first | exact HB.out | apply Qk | apply Ql | apply Qj | refine Qi ?_ GE214.out)⟩⟩
   case rest =>
    clear HC9
    (try clear c1; try clear c2; try clear p2; try clear c3; try clear c4; try clear c5; try clear c5b0; try clear c8; try clear c11; try clear c11b0; try clear c12; try clear c12b0; try clear c12b1; try clear c12b2; try clear c13; try clear c13b0; try clear c13b1; try clear c14; try clear c14b0; try clear c14b1; try clear c16; try clear c16b0; try clear c19; try clear c19b0; try clear c19b1; try clear c20; try clear c20b0; try clear c20b1; try clear c22; try clear c22b0; try clear c25; try clear c25b0; try clear c29; try clear c29b0; try clear c29b1; try clear c30; try clear c30b0; try clear c30b1; try clear c32; try clear c32b0; try clear c35; try clear c35b0; try clear c35b1; try clear c36; try clear c36b0; try clear c36b1; try clear c38; try clear c38b0; try clear c41; try clear c41b0; try clear hcz10_0; try clear hcz10_1; try clear hcz10_2; try clear hcz10_3; try clear hcz10_4; try clear hcz10_5; try clear hcz10_6; try clear hcz15_0; try clear hcz15_1; try clear hcz15_2; try clear hcz15_3; try clear hcz15_4; try clear hcz15_5; try clear hcz15_6; try clear hcz17_0; try clear hcz17_1; try clear hcz17_2; try clear hcz17_3; try clear hcz17_4; try clear hcz17_5; try clear hcz17_6; try clear hcz18_0; try clear hcz18_1; try clear hcz18_2; try clear hcz18_3; try clear hcz18_4; try clear hcz18_5; try clear hcz18_6; try clear hcz21_0; try clear hcz21_1; try clear hcz21_2; try clear hcz21_3; try clear hcz21_4; try clear hcz21_5; try clear hcz21_6; try clear hcz23_0; try clear hcz23_1; try clear hcz23_2; try clear hcz23_3; try clear hcz23_4; try clear hcz23_5; try clear hcz23_6; try clear hcz24_0; try clear hcz24_1; try clear hcz24_2; try clear hcz24_3; try clear hcz24_4; try clear hcz24_5; try clear hcz24_6; try clear hcz26_0; try clear hcz26_1; try clear hcz26_2; try clear hcz26_3; try clear hcz26_4; try clear hcz26_5; try clear hcz26_6; try clear hcz27_0; try clear hcz27_1; try clear hcz27_2; try clear hcz27_3; try clear hcz27_4; try clear hcz27_5; try clear hcz27_6; try clear hcz28_0; try clear hcz28_1; try clear hcz28_2; try clear hcz28_3; try clear hcz28_4; try clear hcz28_5; try clear hcz28_6; try clear hcz31_0; try clear hcz31_1; try clear hcz31_2; try clear hcz31_3; try clear hcz31_4; try clear hcz31_5; try clear hcz31_6; try clear hcz33_0; try clear hcz33_1; try clear hcz33_2; try clear hcz33_3; try clear hcz33_4; try clear hcz33_5; try clear hcz33_6; try clear hcz34_0; try clear hcz34_1; try clear hcz34_2; try clear hcz34_3; try clear hcz34_4; try clear hcz34_5; try clear hcz34_6; try clear hcz37_0; try clear hcz37_1; try clear hcz37_2; try clear hcz37_3; try clear hcz37_4; try clear hcz37_5; try clear hcz37_6; try clear hcz39_0; try clear hcz39_1; try clear hcz39_2; try clear hcz39_3; try clear hcz39_4; try clear hcz39_5; try clear hcz39_6; try clear hcz40_0; try clear hcz40_1; try clear hcz40_2; try clear hcz40_3; try clear hcz40_4; try clear hcz40_5; try clear hcz40_6; try clear hcz42_0; try clear hcz42_1; try clear hcz42_2; try clear hcz42_3; try clear hcz42_4; try clear hcz42_5; try clear hcz42_6; try clear hcz43_0; try clear hcz43_1; try clear hcz43_2; try clear hcz43_3; try clear hcz43_4; try clear hcz43_5; try clear hcz43_6; try clear hcz6_0; try clear hcz6_1; try clear hcz6_2; try clear hcz6_3; try clear hcz6_4; try clear hcz6_5; try clear hcz6_6; try clear hcz7_0; try clear hcz7_1; try clear hcz7_2; try clear hcz7_3; try clear hcz7_4; try clear hcz7_5; try clear hcz7_6; try clear hfz10_0; try clear hfz10_1; try clear hfz10_2; try clear hfz10_3; try clear hfz10_4; try clear hfz10_5; try clear hfz10_6; try clear hfz15_0; try clear hfz15_1; try clear hfz15_2; try clear hfz15_3; try clear hfz15_4; try clear hfz15_5; try clear hfz15_6; try clear hfz17_0; try clear hfz17_1; try clear hfz17_2; try clear hfz17_3; try clear hfz17_4; try clear hfz17_5; try clear hfz17_6; try clear hfz18_0; try clear hfz18_1; try clear hfz18_2; try clear hfz18_3; try clear hfz18_4; try clear hfz18_5; try clear hfz18_6; try clear hfz21_0; try clear hfz21_1; try clear hfz21_2; try clear hfz21_3; try clear hfz21_4; try clear hfz21_5; try clear hfz21_6; try clear hfz23_0; try clear hfz23_1; try clear hfz23_2; try clear hfz23_3; try clear hfz23_4; try clear hfz23_5; try clear hfz23_6; try clear hfz24_0; try clear hfz24_1; try clear hfz24_2; try clear hfz24_3; try clear hfz24_4; try clear hfz24_5; try clear hfz24_6; try clear hfz26_0; try clear hfz26_1; try clear hfz26_2; try clear hfz26_3; try clear hfz26_4; try clear hfz26_5; try clear hfz26_6; try clear hfz27_0; try clear hfz27_1; try clear hfz27_2; try clear hfz27_3; try clear hfz27_4; try clear hfz27_5; try clear hfz27_6; try clear hfz28_0; try clear hfz28_1; try clear hfz28_2; try clear hfz28_3; try clear hfz28_4; try clear hfz28_5; try clear hfz28_6; try clear hfz31_0; try clear hfz31_1; try clear hfz31_2; try clear hfz31_3; try clear hfz31_4; try clear hfz31_5; try clear hfz31_6; try clear hfz33_0; try clear hfz33_1; try clear hfz33_2; try clear hfz33_3; try clear hfz33_4; try clear hfz33_5; try clear hfz33_6; try clear hfz34_0; try clear hfz34_1; try clear hfz34_2; try clear hfz34_3; try clear hfz34_4; try clear hfz34_5; try clear hfz34_6; try clear hfz37_0; try clear hfz37_1; try clear hfz37_2; try clear hfz37_3; try clear hfz37_4; try clear hfz37_5; try clear hfz37_6; try clear hfz39_0; try clear hfz39_1; try clear hfz39_2; try clear hfz39_3; try clear hfz39_4; try clear hfz39_5; try clear hfz39_6; try clear hfz40_0; try clear hfz40_1; try clear hfz40_2; try clear hfz40_3; try clear hfz40_4; try clear hfz40_5; try clear hfz40_6; try clear hfz42_0; try clear hfz42_1; try clear hfz42_2; try clear hfz42_3; try clear hfz42_4; try clear hfz42_5; try clear hfz42_6; try clear hfz43_0; try clear hfz43_1; try clear hfz43_2; try clear hfz43_3; try clear hfz43_4; try clear hfz43_5; try clear hfz43_6; try clear hfz6_0; try clear hfz6_1; try clear hfz6_2; try clear hfz6_3; try clear hfz6_4; try clear hfz6_5; try clear hfz6_6; try clear hfz7_0; try clear hfz7_1; try clear hfz7_2; try clear hfz7_3; try clear hfz7_4; try clear hfz7_5; try clear hfz7_6; try clear p2)
    obtain ⟨kq, x46_8, rfl, HA, HJ8, BK214, HB⟩ := hcut
    cases kq with
    | zero => exact absurd HA.out (by simp [Qk1.j1])
    | succ kj8 =>
     have H := HA.out
     clear HA
     simp only [Qk1.j1] at H
     by_cases c44 : x46_8 = true
     ·
      subst c44
      have H1 : (some false) = some r := by rw [if_pos rfl] at H; exact H
      clear H
      have H := H1
      clear H1
      obtain rfl := Option.some.inj H
      go_wp2
      go_ret
      exact ⟨by first | rfl | (simp [Qw, Qx] <;> rfl) | (simp [*, Qw, Qx] <;> rfl), by with_reducible repeat (first | exact HB.out | apply Qk | apply Ql | apply Qj | refine Qi ?_ GE214.out)⟩
     replace c44 := Bool.eq_false_iff.mpr c44
     subst c44
     have H1 : (if a0_0 = 2 then (if a0_2 < 0 then (some false) else (if a0_2 ≥ a1 then (some false) else (if a0_0 = 1 then (some true) else (some (a0_3 == 0 && (a0_4 == 0 && (a0_5 == 0 && (a0_6 == 0)))))))) else (if a0_2 = 0 then (if a0_0 = 1 then (some true) else (some (a0_3 == 0 && (a0_4 == 0 && (a0_5 == 0 && (a0_6 == 0)))))) else (some false))) = some r := by rw [if_neg (show ¬ (false = true) by decide)] at H; exact H
     clear H
     have H := H1
     clear H1
     by_cases c45 : a0_0 = 2
     ·
      rw [if_pos c45] at H
      have c45b0 : (a0_0 == 2) = true := beq_iff_eq.mpr c45
      have c45b1 : (a0_0 != 2) = false := bne_eq_false_iff_eq.mpr c45
      clear c45
      by_cases c46 : a0_2 < 0
      ·
       rw [if_pos c46] at H
       have c46b0 : decide (a0_2 < 0) = true := decide_eq_true c46
       clear c46
       obtain rfl := Option.some.inj H
       have hcz47_0 : wc.cell? ⟨gb214, 0, none⟩ = some (.int .i64 a0_0) := (Qe BK214.out 0).trans rfl
       have hcz47_1 : wc.cell? ⟨gb214, 1, none⟩ = some (.slice A0_1 l0_1.length c0_1) := (Qe BK214.out 1).trans rfl
       have hcz47_2 : wc.cell? ⟨gb214, 2, none⟩ = some (.int .i64 a0_2) := (Qe BK214.out 2).trans rfl
       have hcz47_3 : wc.cell? ⟨gb214, 3, none⟩ = some (.int .u64 a0_3) := (Qe BK214.out 3).trans rfl
       have hcz47_4 : wc.cell? ⟨gb214, 4, none⟩ = some (.int .u64 a0_4) := (Qe BK214.out 4).trans rfl
       have hcz47_5 : wc.cell? ⟨gb214, 5, none⟩ = some (.int .u64 a0_5) := (Qe BK214.out 5).trans rfl
       have hcz47_6 : wc.cell? ⟨gb214, 6, none⟩ = some (.int .u64 a0_6) := (Qe BK214.out 6).trans rfl
       have hfz47_0 := Qf BK214.out 0
       have hfz47_1 := Qf BK214.out 1
       have hfz47_2 := Qf BK214.out 2
       have hfz47_3 := Qf BK214.out 3
       have hfz47_4 := Qf BK214.out 4
       have hfz47_5 := Qf BK214.out 5
       have hfz47_6 := Qf BK214.out 6
       go_wp2
       go_ret
       exact ⟨by first | rfl | (simp [Qw, Qx] <;> rfl) | (simp [*, Qw, Qx] <;> rfl), by with_reducible repeat (first | exact HB.out | apply Qk | apply Ql | apply Qj | refine Qi ?_ GE214.out)⟩
      rw [if_neg c46] at H
      have c46b0 : decide (a0_2 < 0) = false := decide_eq_false c46
      clear c46
      by_cases c48 : a0_2 ≥ a1
      ·
       rw [if_pos c48] at H
       have c48b0 : decide (a1 ≤ a0_2) = true := decide_eq_true c48
       clear c48
       obtain rfl := Option.some.inj H
       have hcz49_0 : wc.cell? ⟨gb214, 0, none⟩ = some (.int .i64 a0_0) := (Qe BK214.out 0).trans rfl
       have hcz49_1 : wc.cell? ⟨gb214, 1, none⟩ = some (.slice A0_1 l0_1.length c0_1) := (Qe BK214.out 1).trans rfl
       have hcz49_2 : wc.cell? ⟨gb214, 2, none⟩ = some (.int .i64 a0_2) := (Qe BK214.out 2).trans rfl
       have hcz49_3 : wc.cell? ⟨gb214, 3, none⟩ = some (.int .u64 a0_3) := (Qe BK214.out 3).trans rfl
       have hcz49_4 : wc.cell? ⟨gb214, 4, none⟩ = some (.int .u64 a0_4) := (Qe BK214.out 4).trans rfl
       have hcz49_5 : wc.cell? ⟨gb214, 5, none⟩ = some (.int .u64 a0_5) := (Qe BK214.out 5).trans rfl
       have hcz49_6 : wc.cell? ⟨gb214, 6, none⟩ = some (.int .u64 a0_6) := (Qe BK214.out 6).trans rfl
       have hfz49_0 := Qf BK214.out 0
       have hfz49_1 := Qf BK214.out 1
       have hfz49_2 := Qf BK214.out 2
       have hfz49_3 := Qf BK214.out 3
       have hfz49_4 := Qf BK214.out 4
       have hfz49_5 := Qf BK214.out 5
       have hfz49_6 := Qf BK214.out 6
       go_wp2
       go_ret
       exact ⟨by first | rfl | (simp [Qw, Qx] <;> rfl) | (simp [*, Qw, Qx] <;> rfl), by with_reducible repeat (first | exact HB.out | apply Qk | apply Ql | apply Qj | refine Qi ?_ GE214.out)⟩
      rw [if_neg c48] at H
      have c48b0 : decide (a1 ≤ a0_2) = false := decide_eq_false c48
      clear c48
      by_cases c50 : a0_0 = 1
      ·
       rw [if_pos c50] at H
       have c50b0 : (a0_0 == 1) = true := beq_iff_eq.mpr c50
       have c50b1 : (a0_0 != 1) = false := bne_eq_false_iff_eq.mpr c50
       clear c50
       obtain rfl := Option.some.inj H
       have hcz51_0 : wc.cell? ⟨gb214, 0, none⟩ = some (.int .i64 a0_0) := (Qe BK214.out 0).trans rfl
       have hcz51_1 : wc.cell? ⟨gb214, 1, none⟩ = some (.slice A0_1 l0_1.length c0_1) := (Qe BK214.out 1).trans rfl
       have hcz51_2 : wc.cell? ⟨gb214, 2, none⟩ = some (.int .i64 a0_2) := (Qe BK214.out 2).trans rfl
       have hcz51_3 : wc.cell? ⟨gb214, 3, none⟩ = some (.int .u64 a0_3) := (Qe BK214.out 3).trans rfl
       have hcz51_4 : wc.cell? ⟨gb214, 4, none⟩ = some (.int .u64 a0_4) := (Qe BK214.out 4).trans rfl
       have hcz51_5 : wc.cell? ⟨gb214, 5, none⟩ = some (.int .u64 a0_5) := (Qe BK214.out 5).trans rfl
       have hcz51_6 : wc.cell? ⟨gb214, 6, none⟩ = some (.int .u64 a0_6) := (Qe BK214.out 6).trans rfl
       have hfz51_0 := Qf BK214.out 0
       have hfz51_1 := Qf BK214.out 1
       have hfz51_2 := Qf BK214.out 2
       have hfz51_3 := Qf BK214.out 3
       have hfz51_4 := Qf BK214.out 4
       have hfz51_5 := Qf BK214.out 5
       have hfz51_6 := Qf BK214.out 6
       go_wp2
       go_ret
       exact ⟨by first | rfl | (simp [Qw, Qx] <;> rfl) | (simp [*, Qw, Qx] <;> rfl), by with_reducible repeat (first | exact HB.out | apply Qk | apply Ql | apply Qj | refine Qi ?_ GE214.out)⟩
      rw [if_neg c50] at H
      have c50b0 : (a0_0 == 1) = false := beq_eq_false_iff_ne.mpr c50
      have c50b1 : (a0_0 != 1) = true := bne_iff_ne.mpr c50
      obtain rfl := Option.some.inj H
      have hcz52_0 : wc.cell? ⟨gb214, 0, none⟩ = some (.int .i64 a0_0) := (Qe BK214.out 0).trans rfl
      have hcz52_1 : wc.cell? ⟨gb214, 1, none⟩ = some (.slice A0_1 l0_1.length c0_1) := (Qe BK214.out 1).trans rfl
      have hcz52_2 : wc.cell? ⟨gb214, 2, none⟩ = some (.int .i64 a0_2) := (Qe BK214.out 2).trans rfl
      have hcz52_3 : wc.cell? ⟨gb214, 3, none⟩ = some (.int .u64 a0_3) := (Qe BK214.out 3).trans rfl
      have hcz52_4 : wc.cell? ⟨gb214, 4, none⟩ = some (.int .u64 a0_4) := (Qe BK214.out 4).trans rfl
      have hcz52_5 : wc.cell? ⟨gb214, 5, none⟩ = some (.int .u64 a0_5) := (Qe BK214.out 5).trans rfl
      have hcz52_6 : wc.cell? ⟨gb214, 6, none⟩ = some (.int .u64 a0_6) := (Qe BK214.out 6).trans rfl
      have hfz52_0 := Qf BK214.out 0
      have hfz52_1 := Qf BK214.out 1
      have hfz52_2 := Qf BK214.out 2
      have hfz52_3 := Qf BK214.out 3
      have hfz52_4 := Qf BK214.out 4
      have hfz52_5 := Qf BK214.out 5
      have hfz52_6 := Qf BK214.out 6
      go_wp2
      go_ret
      exact ⟨by first | rfl | (simp [Qw, Qx] <;> rfl) | (simp [*, Qw, Qx] <;> rfl), by with_reducible repeat (first | exact HB.out | apply Qk | apply Ql | apply Qj | refine Qi ?_ GE214.out)⟩
     rw [if_neg c45] at H
     have c45b0 : (a0_0 == 2) = false := beq_eq_false_iff_ne.mpr c45
     have c45b1 : (a0_0 != 2) = true := bne_iff_ne.mpr c45
     by_cases c53 : a0_2 = 0
     rotate_left
     ·
      rw [if_neg c53] at H
      have c53b0 : (a0_2 == 0) = false := beq_eq_false_iff_ne.mpr c53
      have c53b1 : (a0_2 != 0) = true := bne_iff_ne.mpr c53
      obtain rfl := Option.some.inj H
      have hcz57_0 : wc.cell? ⟨gb214, 0, none⟩ = some (.int .i64 a0_0) := (Qe BK214.out 0).trans rfl
      have hcz57_1 : wc.cell? ⟨gb214, 1, none⟩ = some (.slice A0_1 l0_1.length c0_1) := (Qe BK214.out 1).trans rfl
      have hcz57_2 : wc.cell? ⟨gb214, 2, none⟩ = some (.int .i64 a0_2) := (Qe BK214.out 2).trans rfl
      have hcz57_3 : wc.cell? ⟨gb214, 3, none⟩ = some (.int .u64 a0_3) := (Qe BK214.out 3).trans rfl
      have hcz57_4 : wc.cell? ⟨gb214, 4, none⟩ = some (.int .u64 a0_4) := (Qe BK214.out 4).trans rfl
      have hcz57_5 : wc.cell? ⟨gb214, 5, none⟩ = some (.int .u64 a0_5) := (Qe BK214.out 5).trans rfl
      have hcz57_6 : wc.cell? ⟨gb214, 6, none⟩ = some (.int .u64 a0_6) := (Qe BK214.out 6).trans rfl
      have hfz57_0 := Qf BK214.out 0
      have hfz57_1 := Qf BK214.out 1
      have hfz57_2 := Qf BK214.out 2
      have hfz57_3 := Qf BK214.out 3
      have hfz57_4 := Qf BK214.out 4
      have hfz57_5 := Qf BK214.out 5
      have hfz57_6 := Qf BK214.out 6
      go_wp2
      go_ret
      exact ⟨by first | rfl | (simp [Qw, Qx] <;> rfl) | (simp [*, Qw, Qx] <;> rfl), by with_reducible repeat (first | exact HB.out | apply Qk | apply Ql | apply Qj | refine Qi ?_ GE214.out)⟩
     rw [if_pos c53] at H
     have c53b0 : (a0_2 == 0) = true := beq_iff_eq.mpr c53
     have c53b1 : (a0_2 != 0) = false := bne_eq_false_iff_eq.mpr c53
     clear c53
     by_cases c54 : a0_0 = 1
     ·
      rw [if_pos c54] at H
      have c54b0 : (a0_0 == 1) = true := beq_iff_eq.mpr c54
      have c54b1 : (a0_0 != 1) = false := bne_eq_false_iff_eq.mpr c54
      clear c54
      obtain rfl := Option.some.inj H
      have hcz55_0 : wc.cell? ⟨gb214, 0, none⟩ = some (.int .i64 a0_0) := (Qe BK214.out 0).trans rfl
      have hcz55_1 : wc.cell? ⟨gb214, 1, none⟩ = some (.slice A0_1 l0_1.length c0_1) := (Qe BK214.out 1).trans rfl
      have hcz55_2 : wc.cell? ⟨gb214, 2, none⟩ = some (.int .i64 a0_2) := (Qe BK214.out 2).trans rfl
      have hcz55_3 : wc.cell? ⟨gb214, 3, none⟩ = some (.int .u64 a0_3) := (Qe BK214.out 3).trans rfl
      have hcz55_4 : wc.cell? ⟨gb214, 4, none⟩ = some (.int .u64 a0_4) := (Qe BK214.out 4).trans rfl
      have hcz55_5 : wc.cell? ⟨gb214, 5, none⟩ = some (.int .u64 a0_5) := (Qe BK214.out 5).trans rfl
      have hcz55_6 : wc.cell? ⟨gb214, 6, none⟩ = some (.int .u64 a0_6) := (Qe BK214.out 6).trans rfl
      have hfz55_0 := Qf BK214.out 0
      have hfz55_1 := Qf BK214.out 1
      have hfz55_2 := Qf BK214.out 2
      have hfz55_3 := Qf BK214.out 3
      have hfz55_4 := Qf BK214.out 4
      have hfz55_5 := Qf BK214.out 5
      have hfz55_6 := Qf BK214.out 6
      go_wp2
      go_ret
      exact ⟨by first | rfl | (simp [Qw, Qx] <;> rfl) | (simp [*, Qw, Qx] <;> rfl), by with_reducible repeat (first | exact HB.out | apply Qk | apply Ql | apply Qj | refine Qi ?_ GE214.out)⟩
     rw [if_neg c54] at H
     have c54b0 : (a0_0 == 1) = false := beq_eq_false_iff_ne.mpr c54
     have c54b1 : (a0_0 != 1) = true := bne_iff_ne.mpr c54
     obtain rfl := Option.some.inj H
     have hcz56_0 : wc.cell? ⟨gb214, 0, none⟩ = some (.int .i64 a0_0) := (Qe BK214.out 0).trans rfl
     have hcz56_1 : wc.cell? ⟨gb214, 1, none⟩ = some (.slice A0_1 l0_1.length c0_1) := (Qe BK214.out 1).trans rfl
     have hcz56_2 : wc.cell? ⟨gb214, 2, none⟩ = some (.int .i64 a0_2) := (Qe BK214.out 2).trans rfl
     have hcz56_3 : wc.cell? ⟨gb214, 3, none⟩ = some (.int .u64 a0_3) := (Qe BK214.out 3).trans rfl
     have hcz56_4 : wc.cell? ⟨gb214, 4, none⟩ = some (.int .u64 a0_4) := (Qe BK214.out 4).trans rfl
     have hcz56_5 : wc.cell? ⟨gb214, 5, none⟩ = some (.int .u64 a0_5) := (Qe BK214.out 5).trans rfl
     have hcz56_6 : wc.cell? ⟨gb214, 6, none⟩ = some (.int .u64 a0_6) := (Qe BK214.out 6).trans rfl
     have hfz56_0 := Qf BK214.out 0
     have hfz56_1 := Qf BK214.out 1
     have hfz56_2 := Qf BK214.out 2
     have hfz56_3 := Qf BK214.out 3
     have hfz56_4 := Qf BK214.out 4
     have hfz56_5 := Qf BK214.out 5
     have hfz56_6 := Qf BK214.out 6
     go_wp2
     go_ret
     exact ⟨by first | rfl | (simp [Qw, Qx] <;> rfl) | (simp [*, Qw, Qx] <;> rfl), by with_reducible repeat (first | exact HB.out | apply Qk | apply Ql | apply Qj | refine Qi ?_ GE214.out)⟩
end Go.Proofs.Ytnaanamibfpbpaa.V
