/- The law FlowTexts returns true whatever comes in, and leaves its arguments as they were. No condition. -/
import Derived.Test.YtnaanamibfpbpaaKFt1
import Derived.OpenShut
import Derived.Carry
import Derived.Deep.Slices
import Derived.DataElems
import Derived.StillTailTactics
import Derived.Deep.QuietTactic
import Derived.BigQuiet
namespace Go.Proofs.Ytnaanamibfpbpaa.V
open Go.RowKit Go.Proofs.YtnaanamibfpbpaaW.PrintWords Go.Proofs.YtnaanamibfpbpaaW.PrintLast Go.Proofs.YtnaanamibfpbpaaW.PrintMore
attribute [local go_sem] max2_int min2_int max_two min_two max_three min_three max_four min_four tdiv_most
set_option linter.unusedVariables false
set_option linter.unusedSimpArgs false
def flow_choice.l0 : Nat → Bool → List (S36) → Int → Int → Bool → Bool → Bool → Option (Bool × Bool × Bool)
 | 0, _, _, _, _, _, _, _ => none
 | k + 1, x4, x7, x8, x9, x129000, x129001, x129002 => if x9 < x8 then (if 0 ≤ x9 then (if x9 < (x7.length : Int) then (if x129000 = true then (if x129001 = true then (if x4 = true then (flow_choice.l0 k ((rd_T36 x7 x9).f2) x7 x8 (wrap64 (x9 + 1)) true true x129002) else (flow_choice.l0 k false x7 x8 (wrap64 (x9 + 1)) true true x129002)) else (if x4 = true then (flow_choice.l0 k ((rd_T36 x7 x9).f2) x7 x8 (wrap64 (x9 + 1)) true ((rd_T36 x7 x9).f1) x129002) else (flow_choice.l0 k false x7 x8 (wrap64 (x9 + 1)) true false x129002))) else (if x4 = true then (if x129001 = true then (flow_choice.l0 k ((rd_T36 x7 x9).f2) x7 x8 (wrap64 (x9 + 1)) ((rd_T36 x7 x9).f0) true x129002) else (flow_choice.l0 k ((rd_T36 x7 x9).f2) x7 x8 (wrap64 (x9 + 1)) ((rd_T36 x7 x9).f0) ((rd_T36 x7 x9).f1) x129002)) else (if x129001 = true then (flow_choice.l0 k false x7 x8 (wrap64 (x9 + 1)) false true x129002) else (flow_choice.l0 k false x7 x8 (wrap64 (x9 + 1)) false false x129002)))) else (none)) else (none)) else (some (x129000, x129001, x4))
def flow_choice.f (k : Nat) (l0 : List (S36)) : Option (Bool × Bool × Bool) := flow_choice.l0 k true l0 (l0.length : Int) 0 false false false
theorem flow_choice.mono_l : ∀ k, (∀ y0 y1 y2 y3 y4 y5 y6, LeO (flow_choice.l0 k y0 y1 y2 y3 y4 y5 y6) (flow_choice.l0 (k + 1) y0 y1 y2 y3 y4 y5 y6))
 | 0 => fun _ _ _ _ _ _ _ r h => by simp [flow_choice.l0] at h
 | k + 1 => by
  have ih0 := flow_choice.mono_l k
  ·
   intro y0 y1 y2 y3 y4 y5 y6
   unfold flow_choice.l0
   repeat' first
   | (with_reducible exact ih0 _ _ _ _ _ _ _)
   | (with_reducible exact LeO.refl _)
   | (with_reducible exact LeO.none _)
   | (with_reducible refine LeO.ite ?_ ?_)
   | (with_reducible refine LeO.bind ?_ (fun _ => ?_))
   | exact ih0 _ _ _ _ _ _ _
   | exact LeO.none _
   | refine LeO.ite ?_ ?_
   | refine LeO.bind ?_ (fun _ => ?_)
theorem flow_choice.mono : ∀ a0 k, LeO (flow_choice.f k a0) (flow_choice.f (k + 1) a0) := by
 intro a0 k
 have ih0 := flow_choice.mono_l k
 unfold flow_choice.f
 repeat' first
  | (with_reducible exact ih0 _ _ _ _ _ _ _)
  | (with_reducible exact LeO.refl _)
  | (with_reducible exact LeO.none _)
  | (with_reducible refine LeO.ite ?_ ?_)
  | (with_reducible refine LeO.bind ?_ (fun _ => ?_))
  | exact ih0 _ _ _ _ _ _ _
  | exact LeO.none _
  | refine LeO.ite ?_ ?_
  | refine LeO.bind ?_ (fun _ => ?_)
set_option maxHeartbeats 8000000 in
set_option maxRecDepth 100000 in
theorem flow_choice.calls (k : Nat) (A0 : Option Addr) (c0 : Nat) (l0 : List (S36)) (r1 : Bool) (r2 : Bool) (r3 : Bool) (w : World) (hr0 : Kd.C k36 w A0 l0.length l0) (hc0 : l0.length ≤ c0) (h : flow_choice.f k l0 = some (r1, r2, r3)) :
 Calls Try.prog 32 #[.slice A0 l0.length c0] w fun e w' => e = .returned (.agg #[.bool r1, .bool r2, .bool r3]) ∧ Below w.heap.size w w' := by
 have hu36 := Try.underlying36
 have HR0 := Aside0.mk hr0
 have HC0 := Aside0.mk hc0
 clear hr0 hc0
 have HB := Aside0.mk (Below.refl w.heap.size w)
 have H : (flow_choice.l0 k true l0 (l0.length : Int) 0 false false false) = some (r1, r2, r3) := h
 clear h
 have H' := Aside0.mk H
 clear H
 go_enter Try.func32, Try.ntmps32
 go_wp2_with (first | ((with_reducible refine gate_dst (N := 2) rfl ?_); refine box_event ?hg (N := 2) ?hd (cs := #[.bool false, .bool false, .bool false]) (t := 36) ?hr ?_; (case hd => rfl); (case hg => rfl); (case hr => first | (go_simp; done) | (go_simp; rfl)); intro gb127 hg w2 hbox hb; have n0_ := Aside0.mk (below_step (by repeat (first | (with_reducible first | exact HB.out | apply below_alloc | apply pw_below_drewN | apply below_drew1) | exact HB.out)) hb); have n1_ := Aside0.mk (hbox); have n2_ := Aside0.mk ((by rw [hg]; exact (below_size (by repeat (first | (with_reducible first | exact HB.out | apply below_alloc | apply pw_below_drewN | apply below_drew1) | exact HB.out))) : w.heap.size ≤ gb127)); have n3_ := Aside0.mk ((by rw [hg]; exact (below_size (by repeat (first | (with_reducible first | exact HB.out | apply below_alloc | apply pw_below_drewN | apply below_drew1) | exact HB.out))) : w.heap.size ≤ gb127)); clear HB; have HB := n0_; have BK127 := n1_; have GW127 := n2_; have GE127 := n3_; clear n0_ n1_ n2_ n3_; clear hb hbox hg) | ((with_reducible refine gate_dst (N := 3) rfl ?_); refine box_event ?hg (N := 3) ?hd (cs := #[.bool false, .bool false, .bool false]) (t := 36) ?hr ?_; (case hd => rfl); (case hg => rfl); (case hr => first | (go_simp; done) | (go_simp; rfl)); intro gb128 hg w3 hbox hb; have n0_ := Aside0.mk (blk_below (g := gb127) (o := .cells #[.bool false, .bool false, .bool false] 36 (0, 0)) (by (with_reducible repeat (first | refine blk_drewN ?_ _ | refine blk_drew ?_ | refine blk_alloc ?_ _)); exact BK127.out) hb); have n1_ := Aside0.mk (below_step (by repeat (first | (with_reducible first | exact HB.out | apply below_alloc | apply pw_below_drewN | apply below_drew1 | refine below_set ?_ GE127.out) | exact HB.out)) hb); have n2_ := Aside0.mk (hbox); have n3_ := Aside0.mk ((by rw [hg]; exact (below_size (by repeat (first | (with_reducible first | exact HB.out | apply below_alloc | apply pw_below_drewN | apply below_drew1 | refine below_set ?_ GE127.out) | exact HB.out))) : w.heap.size ≤ gb128)); have n4_ := Aside0.mk ((by rw [hg]; exact (below_size (by repeat (first | (with_reducible first | exact HB.out | apply below_alloc | apply pw_below_drewN | apply below_drew1 | refine below_set ?_ GE127.out) | exact HB.out))) : w.heap.size ≤ gb128)); have n5_ := Aside0.mk ((by rw [hg]; exact Nat.ne_of_lt (blk_lt (g := gb127) (o := .cells #[.bool false, .bool false, .bool false] 36 (0, 0)) (by (with_reducible repeat (first | refine blk_drewN ?_ _ | refine blk_drew ?_ | refine blk_alloc ?_ _)); exact BK127.out)) : gb127 ≠ gb128)); have n6_ := Aside0.mk ((by rw [hg]; exact Nat.ne_of_gt (blk_lt (g := gb127) (o := .cells #[.bool false, .bool false, .bool false] 36 (0, 0)) (by (with_reducible repeat (first | refine blk_drewN ?_ _ | refine blk_drew ?_ | refine blk_alloc ?_ _)); exact BK127.out)) : gb128 ≠ gb127)); clear BK127; clear HB; have BK127 := n0_; have HB := n1_; have BK128 := n2_; have GW128 := n3_; have GE128 := n4_; have NB127_128 := n5_; have NB128_127 := n6_; clear n0_ n1_ n2_ n3_ n4_ n5_ n6_; clear hb hbox hg))
 go_loopg [4, 9] k (fun kq v4 v9 w' => ∃ (x4_1 : Bool) (x9_1 : Int) (x129000_1 : Bool) (x129001_1 : Bool), v4 = .bool x4_1 ∧ v9 = .int .i64 x9_1 ∧ Aside0 (flow_choice.l0 kq x4_1 l0 (l0.length : Int) x9_1 x129000_1 x129001_1 false = some (r1, r2, r3)) ∧ Aside0 (kq ≤ k) ∧ Aside0 (w'.heap[gb127]? = some (.cells #[.bool false, .bool false, .bool false] 36 (0, 0))) ∧ Aside0 (w'.heap[gb128]? = some (.cells #[.bool x129000_1, .bool x129001_1, .bool false] 36 (0, 0))) ∧ Aside0 (Below w.heap.size w w'))
 case atStart => exact ⟨(true), (0), (false), (false), (by first | rfl | (simp; done) | (simp [*]; done)), (by first | rfl | (simp; done) | (simp [*]; done)), H', ⟨Nat.le_refl _⟩, ⟨by (with_reducible repeat (first | refine blk_drewN ?_ _ | refine blk_drew ?_ | refine blk_alloc ?_ _)); exact BK127.out⟩, ⟨by (with_reducible repeat (first | refine blk_drewN ?_ _ | refine blk_drew ?_ | refine blk_alloc ?_ _)); exact BK128.out⟩, ⟨by repeat (first | (with_reducible first | exact HB.out | apply below_alloc | apply pw_below_drewN | apply below_drew1 | refine below_set ?_ GE127.out | refine below_set ?_ GE128.out) | exact HB.out)⟩⟩
 case round =>
  clear H'
  try clear p2
  try clear c3
  obtain ⟨x4_1, x9_1, x129000_1, x129001_1, rfl, rfl, HA, HK1, BK127, BK128, HB⟩ := hrel
  cases gk with
  | zero => exact absurd HA.out (by simp [flow_choice.l0])
  | succ k1 =>
   have H := HA.out
   clear HA
   simp only [flow_choice.l0] at H
   by_cases c4 : x9_1 < (l0.length : Int)
   ·
    rw [if_pos c4] at H
    have c4b0 : decide (x9_1 < (l0.length : Int)) = true := decide_eq_true c4
    clear c4
    by_cases c5 : 0 ≤ x9_1
    ·
     rw [if_pos c5] at H
     have c5b0 : decide (0 ≤ x9_1) = true := decide_eq_true c5
     clear c5
     by_cases c6 : x9_1 < (l0.length : Int)
     ·
      rw [if_pos c6] at H
      have c6b0 : decide (x9_1 < (l0.length : Int)) = true := decide_eq_true c6
      clear c6
      by_cases c7 : x129000_1 = true
      ·
       subst c7
       have H1 : (if x129001_1 = true then (if x4_1 = true then (flow_choice.l0 k1 ((rd_T36 l0 x9_1).f2) l0 (l0.length : Int) (wrap64 (x9_1 + 1)) true true false) else (flow_choice.l0 k1 false l0 (l0.length : Int) (wrap64 (x9_1 + 1)) true true false)) else (if x4_1 = true then (flow_choice.l0 k1 ((rd_T36 l0 x9_1).f2) l0 (l0.length : Int) (wrap64 (x9_1 + 1)) true ((rd_T36 l0 x9_1).f1) false) else (flow_choice.l0 k1 false l0 (l0.length : Int) (wrap64 (x9_1 + 1)) true false false))) = some (r1, r2, r3) := by rw [if_pos rfl] at H; exact H
       clear H
       have H := H1
       clear H1
       by_cases c8 : x129001_1 = true
       ·
        subst c8
        have H1 : (if x4_1 = true then (flow_choice.l0 k1 ((rd_T36 l0 x9_1).f2) l0 (l0.length : Int) (wrap64 (x9_1 + 1)) true true false) else (flow_choice.l0 k1 false l0 (l0.length : Int) (wrap64 (x9_1 + 1)) true true false)) = some (r1, r2, r3) := by rw [if_pos rfl] at H; exact H
        clear H
        have H := H1
        clear H1
        by_cases c9 : x4_1 = true
        ·
         subst c9
         have H1 : (flow_choice.l0 k1 ((rd_T36 l0 x9_1).f2) l0 (l0.length : Int) (wrap64 (x9_1 + 1)) true true false) = some (r1, r2, r3) := by rw [if_pos rfl] at H; exact H
         clear H
         have H := H1
         clear H1
         have H' := Aside0.mk H
         clear H
         have p129 : 0 ≤ (x9_1 : Int) := of_decide_eq_true (by first | (with_reducible assumption) | assumption)
         have q129 : x9_1 < (l0.length : Int) := of_decide_eq_true (by first | (with_reducible assumption) | assumption)
         obtain ⟨ad129, e129, hx129_0, hx129_1, hx129_2⟩ := at_T36 HR0.out x9_1 p129 q129
         cases e129
         replace hx129_0 := (HB.out.cell (World.block_lt_of_cell? w _ hx129_0)).trans hx129_0
         replace hx129_1 := (HB.out.cell (World.block_lt_of_cell? w _ hx129_1)).trans hx129_1
         replace hx129_2 := (HB.out.cell (World.block_lt_of_cell? w _ hx129_2)).trans hx129_2
         replace p129 := eq_true p129
         replace q129 := eq_true q129
         go_wp2_with (first | ((with_reducible refine gate_dst (N := 6) rfl ?_); refine box_event ?hg (N := 6) ?hd (cs := #[.bool false, .bool false, .bool false]) (t := 36) ?hr ?_; (case hd => rfl); (case hg => rfl); (case hr => first | (go_simp; done) | (go_simp; rfl)); intro gb130 hg w10 hbox hb; have n0_ := Aside0.mk (blk_below (g := gb127) (o := .cells #[.bool false, .bool false, .bool false] 36 (0, 0)) (by (with_reducible repeat (first | refine blk_drewN ?_ _ | refine blk_drew ?_ | refine blk_alloc ?_ _)); exact BK127.out) hb); have n1_ := Aside0.mk (blk_below (g := gb128) (o := .cells #[.bool true, .bool true, .bool false] 36 (0, 0)) (by (with_reducible repeat (first | refine blk_drewN ?_ _ | refine blk_drew ?_ | refine blk_alloc ?_ _)); exact BK128.out) hb); have n2_ := Aside0.mk (below_step (by repeat (first | (with_reducible first | exact HB.out | apply below_alloc | apply pw_below_drewN | apply below_drew1 | refine below_set ?_ GE127.out | refine below_set ?_ GE128.out) | exact HB.out)) hb); have n3_ := Aside0.mk (hbox); have n4_ := Aside0.mk ((by rw [hg]; exact (below_size (by repeat (first | (with_reducible first | exact HB.out | apply below_alloc | apply pw_below_drewN | apply below_drew1 | refine below_set ?_ GE127.out | refine below_set ?_ GE128.out) | exact HB.out))) : w.heap.size ≤ gb130)); have n5_ := Aside0.mk ((by rw [hg]; exact (below_size (by repeat (first | (with_reducible first | exact HB.out | apply below_alloc | apply pw_below_drewN | apply below_drew1 | refine below_set ?_ GE127.out | refine below_set ?_ GE128.out) | exact HB.out))) : w.heap.size ≤ gb130)); have n6_ := Aside0.mk ((by rw [hg]; exact Nat.ne_of_lt (blk_lt (g := gb127) (o := .cells #[.bool false, .bool false, .bool false] 36 (0, 0)) (by (with_reducible repeat (first | refine blk_drewN ?_ _ | refine blk_drew ?_ | refine blk_alloc ?_ _)); exact BK127.out)) : gb127 ≠ gb130)); have n7_ := Aside0.mk ((by rw [hg]; exact Nat.ne_of_gt (blk_lt (g := gb127) (o := .cells #[.bool false, .bool false, .bool false] 36 (0, 0)) (by (with_reducible repeat (first | refine blk_drewN ?_ _ | refine blk_drew ?_ | refine blk_alloc ?_ _)); exact BK127.out)) : gb130 ≠ gb127)); have n8_ := Aside0.mk ((by rw [hg]; exact Nat.ne_of_lt (blk_lt (g := gb128) (o := .cells #[.bool true, .bool true, .bool false] 36 (0, 0)) (by (with_reducible repeat (first | refine blk_drewN ?_ _ | refine blk_drew ?_ | refine blk_alloc ?_ _)); exact BK128.out)) : gb128 ≠ gb130)); have n9_ := Aside0.mk ((by rw [hg]; exact Nat.ne_of_gt (blk_lt (g := gb128) (o := .cells #[.bool true, .bool true, .bool false] 36 (0, 0)) (by (with_reducible repeat (first | refine blk_drewN ?_ _ | refine blk_drew ?_ | refine blk_alloc ?_ _)); exact BK128.out)) : gb130 ≠ gb128)); clear BK127; clear BK128; clear HB; have BK127 := n0_; have BK128 := n1_; have HB := n2_; have BK130 := n3_; have GW130 := n4_; have GE130 := n5_; have NB127_130 := n6_; have NB130_127 := n7_; have NB128_130 := n8_; have NB130_128 := n9_; clear n0_ n1_ n2_ n3_ n4_ n5_ n6_ n7_ n8_ n9_; clear hb hbox hg; have hnb11 := NB130_127.out; have hnc11 := NB127_130.out; have hnb12 := NB130_128.out; have hnc12 := NB128_130.out; have hcz13_0 : w10.cell? ⟨gb130, 0, none⟩ = some (.bool false) := (blk_cell BK130.out 0).trans rfl; have hcz13_1 : w10.cell? ⟨gb130, 1, none⟩ = some (.bool false) := (blk_cell BK130.out 1).trans rfl; have hcz13_2 : w10.cell? ⟨gb130, 2, none⟩ = some (.bool false) := (blk_cell BK130.out 2).trans rfl; have hfz13_0 := blk_frozen BK130.out 0; have hfz13_1 := blk_frozen BK130.out 1; have hfz13_2 := blk_frozen BK130.out 2; have hnb14 := NB128_127.out; have hnc14 := NB127_128.out; have hcz15_0 : w10.cell? ⟨gb128, 0, none⟩ = some (.bool true) := (blk_cell BK128.out 0).trans rfl; have hcz15_1 : w10.cell? ⟨gb128, 1, none⟩ = some (.bool true) := (blk_cell BK128.out 1).trans rfl; have hcz15_2 : w10.cell? ⟨gb128, 2, none⟩ = some (.bool false) := (blk_cell BK128.out 2).trans rfl; have hfz15_0 := blk_frozen BK128.out 0; have hfz15_1 := blk_frozen BK128.out 1; have hfz15_2 := blk_frozen BK128.out 2))
         go_roundg k1
         case measure => have := HK1.out; omega
         case rel => exact ⟨((rd_T36 l0 x9_1).f2), (wrap64 (x9_1 + 1)), (true), (true), (by first | rfl | (simp; done) | (simp [*]; done)), (by first | rfl | (simp; done) | (simp [*]; done)), H', ⟨by have := HK1.out; omega⟩, ⟨by (with_reducible repeat (first | refine blk_drewN ?_ _ | refine blk_drew ?_ | refine blk_alloc ?_ _)); refine blk_far ?_ NB127_128.out _; (with_reducible repeat (first | refine blk_drewN ?_ _ | refine blk_drew ?_ | refine blk_alloc ?_ _)); refine blk_far ?_ NB127_128.out _; (with_reducible repeat (first | refine blk_drewN ?_ _ | refine blk_drew ?_ | refine blk_alloc ?_ _)); refine blk_far ?_ NB127_130.out _; (with_reducible repeat (first | refine blk_drewN ?_ _ | refine blk_drew ?_ | refine blk_alloc ?_ _)); refine blk_far ?_ NB127_130.out _; (with_reducible repeat (first | refine blk_drewN ?_ _ | refine blk_drew ?_ | refine blk_alloc ?_ _)); refine blk_far ?_ NB127_130.out _; (with_reducible repeat (first | refine blk_drewN ?_ _ | refine blk_drew ?_ | refine blk_alloc ?_ _)); exact BK127.out⟩, ⟨by (with_reducible repeat (first | refine blk_drewN ?_ _ | refine blk_drew ?_ | refine blk_alloc ?_ _)); refine blk_put (cs := #[.bool true, .bool true, .bool false]) ?_ 1 _ rfl; (with_reducible repeat (first | refine blk_drewN ?_ _ | refine blk_drew ?_ | refine blk_alloc ?_ _)); refine blk_put (cs := #[.bool true, .bool true, .bool false]) ?_ 0 _ rfl; (with_reducible repeat (first | refine blk_drewN ?_ _ | refine blk_drew ?_ | refine blk_alloc ?_ _)); refine blk_far ?_ NB128_130.out _; (with_reducible repeat (first | refine blk_drewN ?_ _ | refine blk_drew ?_ | refine blk_alloc ?_ _)); refine blk_far ?_ NB128_130.out _; (with_reducible repeat (first | refine blk_drewN ?_ _ | refine blk_drew ?_ | refine blk_alloc ?_ _)); refine blk_far ?_ NB128_130.out _; (with_reducible repeat (first | refine blk_drewN ?_ _ | refine blk_drew ?_ | refine blk_alloc ?_ _)); exact BK128.out⟩, ⟨by repeat (first | (with_reducible first | exact HB.out | apply below_alloc | apply pw_below_drewN | apply below_drew1 | refine below_set ?_ GE127.out | refine below_set ?_ GE128.out | refine below_set ?_ GE130.out) | exact HB.out)⟩⟩
        ·
         replace c9 := Bool.eq_false_iff.mpr c9
         subst c9
         have H1 : (flow_choice.l0 k1 false l0 (l0.length : Int) (wrap64 (x9_1 + 1)) true true false) = some (r1, r2, r3) := by rw [if_neg (show ¬ (false = true) by decide)] at H; exact H
         clear H
         have H := H1
         clear H1
         have H' := Aside0.mk H
         clear H
         have p129 : 0 ≤ (x9_1 : Int) := of_decide_eq_true (by first | (with_reducible assumption) | assumption)
         have q129 : x9_1 < (l0.length : Int) := of_decide_eq_true (by first | (with_reducible assumption) | assumption)
         obtain ⟨ad129, e129, hx129_0, hx129_1, hx129_2⟩ := at_T36 HR0.out x9_1 p129 q129
         cases e129
         replace hx129_0 := (HB.out.cell (World.block_lt_of_cell? w _ hx129_0)).trans hx129_0
         replace hx129_1 := (HB.out.cell (World.block_lt_of_cell? w _ hx129_1)).trans hx129_1
         replace hx129_2 := (HB.out.cell (World.block_lt_of_cell? w _ hx129_2)).trans hx129_2
         replace p129 := eq_true p129
         replace q129 := eq_true q129
         go_wp2_with (first | ((with_reducible refine gate_dst (N := 6) rfl ?_); refine box_event ?hg (N := 6) ?hd (cs := #[.bool false, .bool false, .bool false]) (t := 36) ?hr ?_; (case hd => rfl); (case hg => rfl); (case hr => first | (go_simp; done) | (go_simp; rfl)); intro gb130 hg w16 hbox hb; have n0_ := Aside0.mk (blk_below (g := gb127) (o := .cells #[.bool false, .bool false, .bool false] 36 (0, 0)) (by (with_reducible repeat (first | refine blk_drewN ?_ _ | refine blk_drew ?_ | refine blk_alloc ?_ _)); exact BK127.out) hb); have n1_ := Aside0.mk (blk_below (g := gb128) (o := .cells #[.bool true, .bool true, .bool false] 36 (0, 0)) (by (with_reducible repeat (first | refine blk_drewN ?_ _ | refine blk_drew ?_ | refine blk_alloc ?_ _)); exact BK128.out) hb); have n2_ := Aside0.mk (below_step (by repeat (first | (with_reducible first | exact HB.out | apply below_alloc | apply pw_below_drewN | apply below_drew1 | refine below_set ?_ GE127.out | refine below_set ?_ GE128.out) | exact HB.out)) hb); have n3_ := Aside0.mk (hbox); have n4_ := Aside0.mk ((by rw [hg]; exact (below_size (by repeat (first | (with_reducible first | exact HB.out | apply below_alloc | apply pw_below_drewN | apply below_drew1 | refine below_set ?_ GE127.out | refine below_set ?_ GE128.out) | exact HB.out))) : w.heap.size ≤ gb130)); have n5_ := Aside0.mk ((by rw [hg]; exact (below_size (by repeat (first | (with_reducible first | exact HB.out | apply below_alloc | apply pw_below_drewN | apply below_drew1 | refine below_set ?_ GE127.out | refine below_set ?_ GE128.out) | exact HB.out))) : w.heap.size ≤ gb130)); have n6_ := Aside0.mk ((by rw [hg]; exact Nat.ne_of_lt (blk_lt (g := gb127) (o := .cells #[.bool false, .bool false, .bool false] 36 (0, 0)) (by (with_reducible repeat (first | refine blk_drewN ?_ _ | refine blk_drew ?_ | refine blk_alloc ?_ _)); exact BK127.out)) : gb127 ≠ gb130)); have n7_ := Aside0.mk ((by rw [hg]; exact Nat.ne_of_gt (blk_lt (g := gb127) (o := .cells #[.bool false, .bool false, .bool false] 36 (0, 0)) (by (with_reducible repeat (first | refine blk_drewN ?_ _ | refine blk_drew ?_ | refine blk_alloc ?_ _)); exact BK127.out)) : gb130 ≠ gb127)); have n8_ := Aside0.mk ((by rw [hg]; exact Nat.ne_of_lt (blk_lt (g := gb128) (o := .cells #[.bool true, .bool true, .bool false] 36 (0, 0)) (by (with_reducible repeat (first | refine blk_drewN ?_ _ | refine blk_drew ?_ | refine blk_alloc ?_ _)); exact BK128.out)) : gb128 ≠ gb130)); have n9_ := Aside0.mk ((by rw [hg]; exact Nat.ne_of_gt (blk_lt (g := gb128) (o := .cells #[.bool true, .bool true, .bool false] 36 (0, 0)) (by (with_reducible repeat (first | refine blk_drewN ?_ _ | refine blk_drew ?_ | refine blk_alloc ?_ _)); exact BK128.out)) : gb130 ≠ gb128)); clear BK127; clear BK128; clear HB; have BK127 := n0_; have BK128 := n1_; have HB := n2_; have BK130 := n3_; have GW130 := n4_; have GE130 := n5_; have NB127_130 := n6_; have NB130_127 := n7_; have NB128_130 := n8_; have NB130_128 := n9_; clear n0_ n1_ n2_ n3_ n4_ n5_ n6_ n7_ n8_ n9_; clear hb hbox hg; have hnb17 := NB130_127.out; have hnc17 := NB127_130.out; have hnb18 := NB130_128.out; have hnc18 := NB128_130.out; have hcz19_0 : w16.cell? ⟨gb130, 0, none⟩ = some (.bool false) := (blk_cell BK130.out 0).trans rfl; have hcz19_1 : w16.cell? ⟨gb130, 1, none⟩ = some (.bool false) := (blk_cell BK130.out 1).trans rfl; have hcz19_2 : w16.cell? ⟨gb130, 2, none⟩ = some (.bool false) := (blk_cell BK130.out 2).trans rfl; have hfz19_0 := blk_frozen BK130.out 0; have hfz19_1 := blk_frozen BK130.out 1; have hfz19_2 := blk_frozen BK130.out 2; have hnb20 := NB128_127.out; have hnc20 := NB127_128.out; have hcz21_0 : w16.cell? ⟨gb128, 0, none⟩ = some (.bool true) := (blk_cell BK128.out 0).trans rfl; have hcz21_1 : w16.cell? ⟨gb128, 1, none⟩ = some (.bool true) := (blk_cell BK128.out 1).trans rfl; have hcz21_2 : w16.cell? ⟨gb128, 2, none⟩ = some (.bool false) := (blk_cell BK128.out 2).trans rfl; have hfz21_0 := blk_frozen BK128.out 0; have hfz21_1 := blk_frozen BK128.out 1; have hfz21_2 := blk_frozen BK128.out 2))
         go_roundg k1
         case measure => have := HK1.out; omega
         case rel => exact ⟨(false), (wrap64 (x9_1 + 1)), (true), (true), (by first | rfl | (simp; done) | (simp [*]; done)), (by first | rfl | (simp; done) | (simp [*]; done)), H', ⟨by have := HK1.out; omega⟩, ⟨by (with_reducible repeat (first | refine blk_drewN ?_ _ | refine blk_drew ?_ | refine blk_alloc ?_ _)); refine blk_far ?_ NB127_128.out _; (with_reducible repeat (first | refine blk_drewN ?_ _ | refine blk_drew ?_ | refine blk_alloc ?_ _)); refine blk_far ?_ NB127_128.out _; (with_reducible repeat (first | refine blk_drewN ?_ _ | refine blk_drew ?_ | refine blk_alloc ?_ _)); refine blk_far ?_ NB127_130.out _; (with_reducible repeat (first | refine blk_drewN ?_ _ | refine blk_drew ?_ | refine blk_alloc ?_ _)); refine blk_far ?_ NB127_130.out _; (with_reducible repeat (first | refine blk_drewN ?_ _ | refine blk_drew ?_ | refine blk_alloc ?_ _)); refine blk_far ?_ NB127_130.out _; (with_reducible repeat (first | refine blk_drewN ?_ _ | refine blk_drew ?_ | refine blk_alloc ?_ _)); exact BK127.out⟩, ⟨by (with_reducible repeat (first | refine blk_drewN ?_ _ | refine blk_drew ?_ | refine blk_alloc ?_ _)); refine blk_put (cs := #[.bool true, .bool true, .bool false]) ?_ 1 _ rfl; (with_reducible repeat (first | refine blk_drewN ?_ _ | refine blk_drew ?_ | refine blk_alloc ?_ _)); refine blk_put (cs := #[.bool true, .bool true, .bool false]) ?_ 0 _ rfl; (with_reducible repeat (first | refine blk_drewN ?_ _ | refine blk_drew ?_ | refine blk_alloc ?_ _)); refine blk_far ?_ NB128_130.out _; (with_reducible repeat (first | refine blk_drewN ?_ _ | refine blk_drew ?_ | refine blk_alloc ?_ _)); refine blk_far ?_ NB128_130.out _; (with_reducible repeat (first | refine blk_drewN ?_ _ | refine blk_drew ?_ | refine blk_alloc ?_ _)); refine blk_far ?_ NB128_130.out _; (with_reducible repeat (first | refine blk_drewN ?_ _ | refine blk_drew ?_ | refine blk_alloc ?_ _)); exact BK128.out⟩, ⟨by repeat (first | (with_reducible first | exact HB.out | apply below_alloc | apply pw_below_drewN | apply below_drew1 | refine below_set ?_ GE127.out | refine below_set ?_ GE128.out | refine below_set ?_ GE130.out) | exact HB.out)⟩⟩
       ·
        replace c8 := Bool.eq_false_iff.mpr c8
        subst c8
        have H1 : (if x4_1 = true then (flow_choice.l0 k1 ((rd_T36 l0 x9_1).f2) l0 (l0.length : Int) (wrap64 (x9_1 + 1)) true ((rd_T36 l0 x9_1).f1) false) else (flow_choice.l0 k1 false l0 (l0.length : Int) (wrap64 (x9_1 + 1)) true false false)) = some (r1, r2, r3) := by rw [if_neg (show ¬ (false = true) by decide)] at H; exact H
        clear H
        have H := H1
        clear H1
        by_cases c22 : x4_1 = true
        ·
         subst c22
         have H1 : (flow_choice.l0 k1 ((rd_T36 l0 x9_1).f2) l0 (l0.length : Int) (wrap64 (x9_1 + 1)) true ((rd_T36 l0 x9_1).f1) false) = some (r1, r2, r3) := by rw [if_pos rfl] at H; exact H
         clear H
         have H := H1
         clear H1
         have H' := Aside0.mk H
         clear H
         have p129 : 0 ≤ (x9_1 : Int) := of_decide_eq_true (by first | (with_reducible assumption) | assumption)
         have q129 : x9_1 < (l0.length : Int) := of_decide_eq_true (by first | (with_reducible assumption) | assumption)
         obtain ⟨ad129, e129, hx129_0, hx129_1, hx129_2⟩ := at_T36 HR0.out x9_1 p129 q129
         cases e129
         replace hx129_0 := (HB.out.cell (World.block_lt_of_cell? w _ hx129_0)).trans hx129_0
         replace hx129_1 := (HB.out.cell (World.block_lt_of_cell? w _ hx129_1)).trans hx129_1
         replace hx129_2 := (HB.out.cell (World.block_lt_of_cell? w _ hx129_2)).trans hx129_2
         replace p129 := eq_true p129
         replace q129 := eq_true q129
         go_wp2_with (first | ((with_reducible refine gate_dst (N := 6) rfl ?_); refine box_event ?hg (N := 6) ?hd (cs := #[.bool false, .bool false, .bool false]) (t := 36) ?hr ?_; (case hd => rfl); (case hg => rfl); (case hr => first | (go_simp; done) | (go_simp; rfl)); intro gb130 hg w23 hbox hb; have n0_ := Aside0.mk (blk_below (g := gb127) (o := .cells #[.bool false, .bool false, .bool false] 36 (0, 0)) (by (with_reducible repeat (first | refine blk_drewN ?_ _ | refine blk_drew ?_ | refine blk_alloc ?_ _)); exact BK127.out) hb); have n1_ := Aside0.mk (blk_below (g := gb128) (o := .cells #[.bool true, .bool false, .bool false] 36 (0, 0)) (by (with_reducible repeat (first | refine blk_drewN ?_ _ | refine blk_drew ?_ | refine blk_alloc ?_ _)); exact BK128.out) hb); have n2_ := Aside0.mk (below_step (by repeat (first | (with_reducible first | exact HB.out | apply below_alloc | apply pw_below_drewN | apply below_drew1 | refine below_set ?_ GE127.out | refine below_set ?_ GE128.out) | exact HB.out)) hb); have n3_ := Aside0.mk (hbox); have n4_ := Aside0.mk ((by rw [hg]; exact (below_size (by repeat (first | (with_reducible first | exact HB.out | apply below_alloc | apply pw_below_drewN | apply below_drew1 | refine below_set ?_ GE127.out | refine below_set ?_ GE128.out) | exact HB.out))) : w.heap.size ≤ gb130)); have n5_ := Aside0.mk ((by rw [hg]; exact (below_size (by repeat (first | (with_reducible first | exact HB.out | apply below_alloc | apply pw_below_drewN | apply below_drew1 | refine below_set ?_ GE127.out | refine below_set ?_ GE128.out) | exact HB.out))) : w.heap.size ≤ gb130)); have n6_ := Aside0.mk ((by rw [hg]; exact Nat.ne_of_lt (blk_lt (g := gb127) (o := .cells #[.bool false, .bool false, .bool false] 36 (0, 0)) (by (with_reducible repeat (first | refine blk_drewN ?_ _ | refine blk_drew ?_ | refine blk_alloc ?_ _)); exact BK127.out)) : gb127 ≠ gb130)); have n7_ := Aside0.mk ((by rw [hg]; exact Nat.ne_of_gt (blk_lt (g := gb127) (o := .cells #[.bool false, .bool false, .bool false] 36 (0, 0)) (by (with_reducible repeat (first | refine blk_drewN ?_ _ | refine blk_drew ?_ | refine blk_alloc ?_ _)); exact BK127.out)) : gb130 ≠ gb127)); have n8_ := Aside0.mk ((by rw [hg]; exact Nat.ne_of_lt (blk_lt (g := gb128) (o := .cells #[.bool true, .bool false, .bool false] 36 (0, 0)) (by (with_reducible repeat (first | refine blk_drewN ?_ _ | refine blk_drew ?_ | refine blk_alloc ?_ _)); exact BK128.out)) : gb128 ≠ gb130)); have n9_ := Aside0.mk ((by rw [hg]; exact Nat.ne_of_gt (blk_lt (g := gb128) (o := .cells #[.bool true, .bool false, .bool false] 36 (0, 0)) (by (with_reducible repeat (first | refine blk_drewN ?_ _ | refine blk_drew ?_ | refine blk_alloc ?_ _)); exact BK128.out)) : gb130 ≠ gb128)); clear BK127; clear BK128; clear HB; have BK127 := n0_; have BK128 := n1_; have HB := n2_; have BK130 := n3_; have GW130 := n4_; have GE130 := n5_; have NB127_130 := n6_; have NB130_127 := n7_; have NB128_130 := n8_; have NB130_128 := n9_; clear n0_ n1_ n2_ n3_ n4_ n5_ n6_ n7_ n8_ n9_; clear hb hbox hg; have hnb24 := NB130_127.out; have hnc24 := NB127_130.out; have hnb25 := NB130_128.out; have hnc25 := NB128_130.out; have hcz26_0 : w23.cell? ⟨gb130, 0, none⟩ = some (.bool false) := (blk_cell BK130.out 0).trans rfl; have hcz26_1 : w23.cell? ⟨gb130, 1, none⟩ = some (.bool false) := (blk_cell BK130.out 1).trans rfl; have hcz26_2 : w23.cell? ⟨gb130, 2, none⟩ = some (.bool false) := (blk_cell BK130.out 2).trans rfl; have hfz26_0 := blk_frozen BK130.out 0; have hfz26_1 := blk_frozen BK130.out 1; have hfz26_2 := blk_frozen BK130.out 2; have hnb27 := NB128_127.out; have hnc27 := NB127_128.out; have hcz28_0 : w23.cell? ⟨gb128, 0, none⟩ = some (.bool true) := (blk_cell BK128.out 0).trans rfl; have hcz28_1 : w23.cell? ⟨gb128, 1, none⟩ = some (.bool false) := (blk_cell BK128.out 1).trans rfl; have hcz28_2 : w23.cell? ⟨gb128, 2, none⟩ = some (.bool false) := (blk_cell BK128.out 2).trans rfl; have hfz28_0 := blk_frozen BK128.out 0; have hfz28_1 := blk_frozen BK128.out 1; have hfz28_2 := blk_frozen BK128.out 2))
         go_roundg k1
         case measure => have := HK1.out; omega
         case rel => exact ⟨((rd_T36 l0 x9_1).f2), (wrap64 (x9_1 + 1)), (true), ((rd_T36 l0 x9_1).f1), (by first | rfl | (simp; done) | (simp [*]; done)), (by first | rfl | (simp; done) | (simp [*]; done)), H', ⟨by have := HK1.out; omega⟩, ⟨by (with_reducible repeat (first | refine blk_drewN ?_ _ | refine blk_drew ?_ | refine blk_alloc ?_ _)); refine blk_far ?_ NB127_128.out _; (with_reducible repeat (first | refine blk_drewN ?_ _ | refine blk_drew ?_ | refine blk_alloc ?_ _)); refine blk_far ?_ NB127_128.out _; (with_reducible repeat (first | refine blk_drewN ?_ _ | refine blk_drew ?_ | refine blk_alloc ?_ _)); refine blk_far ?_ NB127_130.out _; (with_reducible repeat (first | refine blk_drewN ?_ _ | refine blk_drew ?_ | refine blk_alloc ?_ _)); refine blk_far ?_ NB127_130.out _; (with_reducible repeat (first | refine blk_drewN ?_ _ | refine blk_drew ?_ | refine blk_alloc ?_ _)); refine blk_far ?_ NB127_130.out _; (with_reducible repeat (first | refine blk_drewN ?_ _ | refine blk_drew ?_ | refine blk_alloc ?_ _)); exact BK127.out⟩, ⟨by (with_reducible repeat (first | refine blk_drewN ?_ _ | refine blk_drew ?_ | refine blk_alloc ?_ _)); refine blk_put (cs := #[.bool true, .bool false, .bool false]) ?_ 1 _ rfl; (with_reducible repeat (first | refine blk_drewN ?_ _ | refine blk_drew ?_ | refine blk_alloc ?_ _)); refine blk_put (cs := #[.bool true, .bool false, .bool false]) ?_ 0 _ rfl; (with_reducible repeat (first | refine blk_drewN ?_ _ | refine blk_drew ?_ | refine blk_alloc ?_ _)); refine blk_far ?_ NB128_130.out _; (with_reducible repeat (first | refine blk_drewN ?_ _ | refine blk_drew ?_ | refine blk_alloc ?_ _)); refine blk_far ?_ NB128_130.out _; (with_reducible repeat (first | refine blk_drewN ?_ _ | refine blk_drew ?_ | refine blk_alloc ?_ _)); refine blk_far ?_ NB128_130.out _; (with_reducible repeat (first | refine blk_drewN ?_ _ | refine blk_drew ?_ | refine blk_alloc ?_ _)); exact BK128.out⟩, ⟨by repeat (first | (with_reducible first | exact HB.out | apply below_alloc | apply pw_below_drewN | apply below_drew1 | refine below_set ?_ GE127.out | refine below_set ?_ GE128.out | refine below_set ?_ GE130.out) | exact HB.out)⟩⟩
        ·
         replace c22 := Bool.eq_false_iff.mpr c22
         subst c22
         have H1 : (flow_choice.l0 k1 false l0 (l0.length : Int) (wrap64 (x9_1 + 1)) true false false) = some (r1, r2, r3) := by rw [if_neg (show ¬ (false = true) by decide)] at H; exact H
         clear H
         have H := H1
         clear H1
         have H' := Aside0.mk H
         clear H
         have p129 : 0 ≤ (x9_1 : Int) := of_decide_eq_true (by first | (with_reducible assumption) | assumption)
         have q129 : x9_1 < (l0.length : Int) := of_decide_eq_true (by first | (with_reducible assumption) | assumption)
         obtain ⟨ad129, e129, hx129_0, hx129_1, hx129_2⟩ := at_T36 HR0.out x9_1 p129 q129
         cases e129
         replace hx129_0 := (HB.out.cell (World.block_lt_of_cell? w _ hx129_0)).trans hx129_0
         replace hx129_1 := (HB.out.cell (World.block_lt_of_cell? w _ hx129_1)).trans hx129_1
         replace hx129_2 := (HB.out.cell (World.block_lt_of_cell? w _ hx129_2)).trans hx129_2
         replace p129 := eq_true p129
         replace q129 := eq_true q129
         go_wp2_with (first | ((with_reducible refine gate_dst (N := 6) rfl ?_); refine box_event ?hg (N := 6) ?hd (cs := #[.bool false, .bool false, .bool false]) (t := 36) ?hr ?_; (case hd => rfl); (case hg => rfl); (case hr => first | (go_simp; done) | (go_simp; rfl)); intro gb130 hg w29 hbox hb; have n0_ := Aside0.mk (blk_below (g := gb127) (o := .cells #[.bool false, .bool false, .bool false] 36 (0, 0)) (by (with_reducible repeat (first | refine blk_drewN ?_ _ | refine blk_drew ?_ | refine blk_alloc ?_ _)); exact BK127.out) hb); have n1_ := Aside0.mk (blk_below (g := gb128) (o := .cells #[.bool true, .bool false, .bool false] 36 (0, 0)) (by (with_reducible repeat (first | refine blk_drewN ?_ _ | refine blk_drew ?_ | refine blk_alloc ?_ _)); exact BK128.out) hb); have n2_ := Aside0.mk (below_step (by repeat (first | (with_reducible first | exact HB.out | apply below_alloc | apply pw_below_drewN | apply below_drew1 | refine below_set ?_ GE127.out | refine below_set ?_ GE128.out) | exact HB.out)) hb); have n3_ := Aside0.mk (hbox); have n4_ := Aside0.mk ((by rw [hg]; exact (below_size (by repeat (first | (with_reducible first | exact HB.out | apply below_alloc | apply pw_below_drewN | apply below_drew1 | refine below_set ?_ GE127.out | refine below_set ?_ GE128.out) | exact HB.out))) : w.heap.size ≤ gb130)); have n5_ := Aside0.mk ((by rw [hg]; exact (below_size (by repeat (first | (with_reducible first | exact HB.out | apply below_alloc | apply pw_below_drewN | apply below_drew1 | refine below_set ?_ GE127.out | refine below_set ?_ GE128.out) | exact HB.out))) : w.heap.size ≤ gb130)); have n6_ := Aside0.mk ((by rw [hg]; exact Nat.ne_of_lt (blk_lt (g := gb127) (o := .cells #[.bool false, .bool false, .bool false] 36 (0, 0)) (by (with_reducible repeat (first | refine blk_drewN ?_ _ | refine blk_drew ?_ | refine blk_alloc ?_ _)); exact BK127.out)) : gb127 ≠ gb130)); have n7_ := Aside0.mk ((by rw [hg]; exact Nat.ne_of_gt (blk_lt (g := gb127) (o := .cells #[.bool false, .bool false, .bool false] 36 (0, 0)) (by (with_reducible repeat (first | refine blk_drewN ?_ _ | refine blk_drew ?_ | refine blk_alloc ?_ _)); exact BK127.out)) : gb130 ≠ gb127)); have n8_ := Aside0.mk ((by rw [hg]; exact Nat.ne_of_lt (blk_lt (g := gb128) (o := .cells #[.bool true, .bool false, .bool false] 36 (0, 0)) (by (with_reducible repeat (first | refine blk_drewN ?_ _ | refine blk_drew ?_ | refine blk_alloc ?_ _)); exact BK128.out)) : gb128 ≠ gb130)); have n9_ := Aside0.mk ((by rw [hg]; exact Nat.ne_of_gt (blk_lt (g := gb128) (o := .cells #[.bool true, .bool false, .bool false] 36 (0, 0)) (by (with_reducible repeat (first | refine blk_drewN ?_ _ | refine blk_drew ?_ | refine blk_alloc ?_ _)); exact BK128.out)) : gb130 ≠ gb128)); clear BK127; clear BK128; clear HB; have BK127 := n0_; have BK128 := n1_; have HB := n2_; have BK130 := n3_; have GW130 := n4_; have GE130 := n5_; have NB127_130 := n6_; have NB130_127 := n7_; have NB128_130 := n8_; have NB130_128 := n9_; clear n0_ n1_ n2_ n3_ n4_ n5_ n6_ n7_ n8_ n9_; clear hb hbox hg; have hnb30 := NB130_127.out; have hnc30 := NB127_130.out; have hnb31 := NB130_128.out; have hnc31 := NB128_130.out; have hcz32_0 : w29.cell? ⟨gb130, 0, none⟩ = some (.bool false) := (blk_cell BK130.out 0).trans rfl; have hcz32_1 : w29.cell? ⟨gb130, 1, none⟩ = some (.bool false) := (blk_cell BK130.out 1).trans rfl; have hcz32_2 : w29.cell? ⟨gb130, 2, none⟩ = some (.bool false) := (blk_cell BK130.out 2).trans rfl; have hfz32_0 := blk_frozen BK130.out 0; have hfz32_1 := blk_frozen BK130.out 1; have hfz32_2 := blk_frozen BK130.out 2; have hnb33 := NB128_127.out; have hnc33 := NB127_128.out; have hcz34_0 : w29.cell? ⟨gb128, 0, none⟩ = some (.bool true) := (blk_cell BK128.out 0).trans rfl; have hcz34_1 : w29.cell? ⟨gb128, 1, none⟩ = some (.bool false) := (blk_cell BK128.out 1).trans rfl; have hcz34_2 : w29.cell? ⟨gb128, 2, none⟩ = some (.bool false) := (blk_cell BK128.out 2).trans rfl; have hfz34_0 := blk_frozen BK128.out 0; have hfz34_1 := blk_frozen BK128.out 1; have hfz34_2 := blk_frozen BK128.out 2))
         go_roundg k1
         case measure => have := HK1.out; omega
         case rel => exact ⟨(false), (wrap64 (x9_1 + 1)), (true), (false), (by first | rfl | (simp; done) | (simp [*]; done)), (by first | rfl | (simp; done) | (simp [*]; done)), H', ⟨by have := HK1.out; omega⟩, ⟨by (with_reducible repeat (first | refine blk_drewN ?_ _ | refine blk_drew ?_ | refine blk_alloc ?_ _)); refine blk_far ?_ NB127_128.out _; (with_reducible repeat (first | refine blk_drewN ?_ _ | refine blk_drew ?_ | refine blk_alloc ?_ _)); refine blk_far ?_ NB127_128.out _; (with_reducible repeat (first | refine blk_drewN ?_ _ | refine blk_drew ?_ | refine blk_alloc ?_ _)); refine blk_far ?_ NB127_130.out _; (with_reducible repeat (first | refine blk_drewN ?_ _ | refine blk_drew ?_ | refine blk_alloc ?_ _)); refine blk_far ?_ NB127_130.out _; (with_reducible repeat (first | refine blk_drewN ?_ _ | refine blk_drew ?_ | refine blk_alloc ?_ _)); refine blk_far ?_ NB127_130.out _; (with_reducible repeat (first | refine blk_drewN ?_ _ | refine blk_drew ?_ | refine blk_alloc ?_ _)); exact BK127.out⟩, ⟨by (with_reducible repeat (first | refine blk_drewN ?_ _ | refine blk_drew ?_ | refine blk_alloc ?_ _)); refine blk_put (cs := #[.bool true, .bool false, .bool false]) ?_ 1 _ rfl; (with_reducible repeat (first | refine blk_drewN ?_ _ | refine blk_drew ?_ | refine blk_alloc ?_ _)); refine blk_put (cs := #[.bool true, .bool false, .bool false]) ?_ 0 _ rfl; (with_reducible repeat (first | refine blk_drewN ?_ _ | refine blk_drew ?_ | refine blk_alloc ?_ _)); refine blk_far ?_ NB128_130.out _; (with_reducible repeat (first | refine blk_drewN ?_ _ | refine blk_drew ?_ | refine blk_alloc ?_ _)); refine blk_far ?_ NB128_130.out _; (with_reducible repeat (first | refine blk_drewN ?_ _ | refine blk_drew ?_ | refine blk_alloc ?_ _)); refine blk_far ?_ NB128_130.out _; (with_reducible repeat (first | refine blk_drewN ?_ _ | refine blk_drew ?_ | refine blk_alloc ?_ _)); exact BK128.out⟩, ⟨by repeat (first | (with_reducible first | exact HB.out | apply below_alloc | apply pw_below_drewN | apply below_drew1 | refine below_set ?_ GE127.out | refine below_set ?_ GE128.out | refine below_set ?_ GE130.out) | exact HB.out)⟩⟩
      ·
       replace c7 := Bool.eq_false_iff.mpr c7
       subst c7
       have H1 : (if x4_1 = true then (if x129001_1 = true then (flow_choice.l0 k1 ((rd_T36 l0 x9_1).f2) l0 (l0.length : Int) (wrap64 (x9_1 + 1)) ((rd_T36 l0 x9_1).f0) true false) else (flow_choice.l0 k1 ((rd_T36 l0 x9_1).f2) l0 (l0.length : Int) (wrap64 (x9_1 + 1)) ((rd_T36 l0 x9_1).f0) ((rd_T36 l0 x9_1).f1) false)) else (if x129001_1 = true then (flow_choice.l0 k1 false l0 (l0.length : Int) (wrap64 (x9_1 + 1)) false true false) else (flow_choice.l0 k1 false l0 (l0.length : Int) (wrap64 (x9_1 + 1)) false false false))) = some (r1, r2, r3) := by rw [if_neg (show ¬ (false = true) by decide)] at H; exact H
       clear H
       have H := H1
       clear H1
       by_cases c35 : x4_1 = true
       ·
        subst c35
        have H1 : (if x129001_1 = true then (flow_choice.l0 k1 ((rd_T36 l0 x9_1).f2) l0 (l0.length : Int) (wrap64 (x9_1 + 1)) ((rd_T36 l0 x9_1).f0) true false) else (flow_choice.l0 k1 ((rd_T36 l0 x9_1).f2) l0 (l0.length : Int) (wrap64 (x9_1 + 1)) ((rd_T36 l0 x9_1).f0) ((rd_T36 l0 x9_1).f1) false)) = some (r1, r2, r3) := by rw [if_pos rfl] at H; exact H
        clear H
        have H := H1
        clear H1
        by_cases c36 : x129001_1 = true
        ·
         subst c36
         have H1 : (flow_choice.l0 k1 ((rd_T36 l0 x9_1).f2) l0 (l0.length : Int) (wrap64 (x9_1 + 1)) ((rd_T36 l0 x9_1).f0) true false) = some (r1, r2, r3) := by rw [if_pos rfl] at H; exact H
         clear H
         have H := H1
         clear H1
         have H' := Aside0.mk H
         clear H
         have p129 : 0 ≤ (x9_1 : Int) := of_decide_eq_true (by first | (with_reducible assumption) | assumption)
         have q129 : x9_1 < (l0.length : Int) := of_decide_eq_true (by first | (with_reducible assumption) | assumption)
         obtain ⟨ad129, e129, hx129_0, hx129_1, hx129_2⟩ := at_T36 HR0.out x9_1 p129 q129
         cases e129
         replace hx129_0 := (HB.out.cell (World.block_lt_of_cell? w _ hx129_0)).trans hx129_0
         replace hx129_1 := (HB.out.cell (World.block_lt_of_cell? w _ hx129_1)).trans hx129_1
         replace hx129_2 := (HB.out.cell (World.block_lt_of_cell? w _ hx129_2)).trans hx129_2
         replace p129 := eq_true p129
         replace q129 := eq_true q129
         go_wp2_with (first | ((with_reducible refine gate_dst (N := 6) rfl ?_); refine box_event ?hg (N := 6) ?hd (cs := #[.bool false, .bool false, .bool false]) (t := 36) ?hr ?_; (case hd => rfl); (case hg => rfl); (case hr => first | (go_simp; done) | (go_simp; rfl)); intro gb130 hg w37 hbox hb; have n0_ := Aside0.mk (blk_below (g := gb127) (o := .cells #[.bool false, .bool false, .bool false] 36 (0, 0)) (by (with_reducible repeat (first | refine blk_drewN ?_ _ | refine blk_drew ?_ | refine blk_alloc ?_ _)); exact BK127.out) hb); have n1_ := Aside0.mk (blk_below (g := gb128) (o := .cells #[.bool false, .bool true, .bool false] 36 (0, 0)) (by (with_reducible repeat (first | refine blk_drewN ?_ _ | refine blk_drew ?_ | refine blk_alloc ?_ _)); exact BK128.out) hb); have n2_ := Aside0.mk (below_step (by repeat (first | (with_reducible first | exact HB.out | apply below_alloc | apply pw_below_drewN | apply below_drew1 | refine below_set ?_ GE127.out | refine below_set ?_ GE128.out) | exact HB.out)) hb); have n3_ := Aside0.mk (hbox); have n4_ := Aside0.mk ((by rw [hg]; exact (below_size (by repeat (first | (with_reducible first | exact HB.out | apply below_alloc | apply pw_below_drewN | apply below_drew1 | refine below_set ?_ GE127.out | refine below_set ?_ GE128.out) | exact HB.out))) : w.heap.size ≤ gb130)); have n5_ := Aside0.mk ((by rw [hg]; exact (below_size (by repeat (first | (with_reducible first | exact HB.out | apply below_alloc | apply pw_below_drewN | apply below_drew1 | refine below_set ?_ GE127.out | refine below_set ?_ GE128.out) | exact HB.out))) : w.heap.size ≤ gb130)); have n6_ := Aside0.mk ((by rw [hg]; exact Nat.ne_of_lt (blk_lt (g := gb127) (o := .cells #[.bool false, .bool false, .bool false] 36 (0, 0)) (by (with_reducible repeat (first | refine blk_drewN ?_ _ | refine blk_drew ?_ | refine blk_alloc ?_ _)); exact BK127.out)) : gb127 ≠ gb130)); have n7_ := Aside0.mk ((by rw [hg]; exact Nat.ne_of_gt (blk_lt (g := gb127) (o := .cells #[.bool false, .bool false, .bool false] 36 (0, 0)) (by (with_reducible repeat (first | refine blk_drewN ?_ _ | refine blk_drew ?_ | refine blk_alloc ?_ _)); exact BK127.out)) : gb130 ≠ gb127)); have n8_ := Aside0.mk ((by rw [hg]; exact Nat.ne_of_lt (blk_lt (g := gb128) (o := .cells #[.bool false, .bool true, .bool false] 36 (0, 0)) (by (with_reducible repeat (first | refine blk_drewN ?_ _ | refine blk_drew ?_ | refine blk_alloc ?_ _)); exact BK128.out)) : gb128 ≠ gb130)); have n9_ := Aside0.mk ((by rw [hg]; exact Nat.ne_of_gt (blk_lt (g := gb128) (o := .cells #[.bool false, .bool true, .bool false] 36 (0, 0)) (by (with_reducible repeat (first | refine blk_drewN ?_ _ | refine blk_drew ?_ | refine blk_alloc ?_ _)); exact BK128.out)) : gb130 ≠ gb128)); clear BK127; clear BK128; clear HB; have BK127 := n0_; have BK128 := n1_; have HB := n2_; have BK130 := n3_; have GW130 := n4_; have GE130 := n5_; have NB127_130 := n6_; have NB130_127 := n7_; have NB128_130 := n8_; have NB130_128 := n9_; clear n0_ n1_ n2_ n3_ n4_ n5_ n6_ n7_ n8_ n9_; clear hb hbox hg; have hnb38 := NB130_127.out; have hnc38 := NB127_130.out; have hnb39 := NB130_128.out; have hnc39 := NB128_130.out; have hcz40_0 : w37.cell? ⟨gb130, 0, none⟩ = some (.bool false) := (blk_cell BK130.out 0).trans rfl; have hcz40_1 : w37.cell? ⟨gb130, 1, none⟩ = some (.bool false) := (blk_cell BK130.out 1).trans rfl; have hcz40_2 : w37.cell? ⟨gb130, 2, none⟩ = some (.bool false) := (blk_cell BK130.out 2).trans rfl; have hfz40_0 := blk_frozen BK130.out 0; have hfz40_1 := blk_frozen BK130.out 1; have hfz40_2 := blk_frozen BK130.out 2; have hnb41 := NB128_127.out; have hnc41 := NB127_128.out; have hcz42_0 : w37.cell? ⟨gb128, 0, none⟩ = some (.bool false) := (blk_cell BK128.out 0).trans rfl; have hcz42_1 : w37.cell? ⟨gb128, 1, none⟩ = some (.bool true) := (blk_cell BK128.out 1).trans rfl; have hcz42_2 : w37.cell? ⟨gb128, 2, none⟩ = some (.bool false) := (blk_cell BK128.out 2).trans rfl; have hfz42_0 := blk_frozen BK128.out 0; have hfz42_1 := blk_frozen BK128.out 1; have hfz42_2 := blk_frozen BK128.out 2))
         go_roundg k1
         case measure => have := HK1.out; omega
         case rel => exact ⟨((rd_T36 l0 x9_1).f2), (wrap64 (x9_1 + 1)), ((rd_T36 l0 x9_1).f0), (true), (by first | rfl | (simp; done) | (simp [*]; done)), (by first | rfl | (simp; done) | (simp [*]; done)), H', ⟨by have := HK1.out; omega⟩, ⟨by (with_reducible repeat (first | refine blk_drewN ?_ _ | refine blk_drew ?_ | refine blk_alloc ?_ _)); refine blk_far ?_ NB127_128.out _; (with_reducible repeat (first | refine blk_drewN ?_ _ | refine blk_drew ?_ | refine blk_alloc ?_ _)); refine blk_far ?_ NB127_128.out _; (with_reducible repeat (first | refine blk_drewN ?_ _ | refine blk_drew ?_ | refine blk_alloc ?_ _)); refine blk_far ?_ NB127_130.out _; (with_reducible repeat (first | refine blk_drewN ?_ _ | refine blk_drew ?_ | refine blk_alloc ?_ _)); refine blk_far ?_ NB127_130.out _; (with_reducible repeat (first | refine blk_drewN ?_ _ | refine blk_drew ?_ | refine blk_alloc ?_ _)); refine blk_far ?_ NB127_130.out _; (with_reducible repeat (first | refine blk_drewN ?_ _ | refine blk_drew ?_ | refine blk_alloc ?_ _)); exact BK127.out⟩, ⟨by (with_reducible repeat (first | refine blk_drewN ?_ _ | refine blk_drew ?_ | refine blk_alloc ?_ _)); refine blk_put (cs := #[.bool ((rd_T36 l0 x9_1).f0), .bool true, .bool false]) ?_ 1 _ rfl; (with_reducible repeat (first | refine blk_drewN ?_ _ | refine blk_drew ?_ | refine blk_alloc ?_ _)); refine blk_put (cs := #[.bool false, .bool true, .bool false]) ?_ 0 _ rfl; (with_reducible repeat (first | refine blk_drewN ?_ _ | refine blk_drew ?_ | refine blk_alloc ?_ _)); refine blk_far ?_ NB128_130.out _; (with_reducible repeat (first | refine blk_drewN ?_ _ | refine blk_drew ?_ | refine blk_alloc ?_ _)); refine blk_far ?_ NB128_130.out _; (with_reducible repeat (first | refine blk_drewN ?_ _ | refine blk_drew ?_ | refine blk_alloc ?_ _)); refine blk_far ?_ NB128_130.out _; (with_reducible repeat (first | refine blk_drewN ?_ _ | refine blk_drew ?_ | refine blk_alloc ?_ _)); exact BK128.out⟩, ⟨by repeat (first | (with_reducible first | exact HB.out | apply below_alloc | apply pw_below_drewN | apply below_drew1 | refine below_set ?_ GE127.out | refine below_set ?_ GE128.out | refine below_set ?_ GE130.out) | exact HB.out)⟩⟩
        ·
         replace c36 := Bool.eq_false_iff.mpr c36
         subst c36
         have H1 : (flow_choice.l0 k1 ((rd_T36 l0 x9_1).f2) l0 (l0.length : Int) (wrap64 (x9_1 + 1)) ((rd_T36 l0 x9_1).f0) ((rd_T36 l0 x9_1).f1) false) = some (r1, r2, r3) := by rw [if_neg (show ¬ (false = true) by decide)] at H; exact H
         clear H
         have H := H1
         clear H1
         have H' := Aside0.mk H
         clear H
         have p129 : 0 ≤ (x9_1 : Int) := of_decide_eq_true (by first | (with_reducible assumption) | assumption)
         have q129 : x9_1 < (l0.length : Int) := of_decide_eq_true (by first | (with_reducible assumption) | assumption)
         obtain ⟨ad129, e129, hx129_0, hx129_1, hx129_2⟩ := at_T36 HR0.out x9_1 p129 q129
         cases e129
         replace hx129_0 := (HB.out.cell (World.block_lt_of_cell? w _ hx129_0)).trans hx129_0
         replace hx129_1 := (HB.out.cell (World.block_lt_of_cell? w _ hx129_1)).trans hx129_1
         replace hx129_2 := (HB.out.cell (World.block_lt_of_cell? w _ hx129_2)).trans hx129_2
         replace p129 := eq_true p129
         replace q129 := eq_true q129
         go_wp2_with (first | ((with_reducible refine gate_dst (N := 6) rfl ?_); refine box_event ?hg (N := 6) ?hd (cs := #[.bool false, .bool false, .bool false]) (t := 36) ?hr ?_; (case hd => rfl); (case hg => rfl); (case hr => first | (go_simp; done) | (go_simp; rfl)); intro gb130 hg w43 hbox hb; have n0_ := Aside0.mk (blk_below (g := gb127) (o := .cells #[.bool false, .bool false, .bool false] 36 (0, 0)) (by (with_reducible repeat (first | refine blk_drewN ?_ _ | refine blk_drew ?_ | refine blk_alloc ?_ _)); exact BK127.out) hb); have n1_ := Aside0.mk (blk_below (g := gb128) (o := .cells #[.bool false, .bool false, .bool false] 36 (0, 0)) (by (with_reducible repeat (first | refine blk_drewN ?_ _ | refine blk_drew ?_ | refine blk_alloc ?_ _)); exact BK128.out) hb); have n2_ := Aside0.mk (below_step (by repeat (first | (with_reducible first | exact HB.out | apply below_alloc | apply pw_below_drewN | apply below_drew1 | refine below_set ?_ GE127.out | refine below_set ?_ GE128.out) | exact HB.out)) hb); have n3_ := Aside0.mk (hbox); have n4_ := Aside0.mk ((by rw [hg]; exact (below_size (by repeat (first | (with_reducible first | exact HB.out | apply below_alloc | apply pw_below_drewN | apply below_drew1 | refine below_set ?_ GE127.out | refine below_set ?_ GE128.out) | exact HB.out))) : w.heap.size ≤ gb130)); have n5_ := Aside0.mk ((by rw [hg]; exact (below_size (by repeat (first | (with_reducible first | exact HB.out | apply below_alloc | apply pw_below_drewN | apply below_drew1 | refine below_set ?_ GE127.out | refine below_set ?_ GE128.out) | exact HB.out))) : w.heap.size ≤ gb130)); have n6_ := Aside0.mk ((by rw [hg]; exact Nat.ne_of_lt (blk_lt (g := gb127) (o := .cells #[.bool false, .bool false, .bool false] 36 (0, 0)) (by (with_reducible repeat (first | refine blk_drewN ?_ _ | refine blk_drew ?_ | refine blk_alloc ?_ _)); exact BK127.out)) : gb127 ≠ gb130)); have n7_ := Aside0.mk ((by rw [hg]; exact Nat.ne_of_gt (blk_lt (g := gb127) (o := .cells #[.bool false, .bool false, .bool false] 36 (0, 0)) (by (with_reducible repeat (first | refine blk_drewN ?_ _ | refine blk_drew ?_ | refine blk_alloc ?_ _)); exact BK127.out)) : gb130 ≠ gb127)); have n8_ := Aside0.mk ((by rw [hg]; exact Nat.ne_of_lt (blk_lt (g := gb128) (o := .cells #[.bool false, .bool false, .bool false] 36 (0, 0)) (by (with_reducible repeat (first | refine blk_drewN ?_ _ | refine blk_drew ?_ | refine blk_alloc ?_ _)); exact BK128.out)) : gb128 ≠ gb130)); have n9_ := Aside0.mk ((by rw [hg]; exact Nat.ne_of_gt (blk_lt (g := gb128) (o := .cells #[.bool false, .bool false, .bool false] 36 (0, 0)) (by (with_reducible repeat (first | refine blk_drewN ?_ _ | refine blk_drew ?_ | refine blk_alloc ?_ _)); exact BK128.out)) : gb130 ≠ gb128)); clear BK127; clear BK128; clear HB; have BK127 := n0_; have BK128 := n1_; have HB := n2_; have BK130 := n3_; have GW130 := n4_; have GE130 := n5_; have NB127_130 := n6_; have NB130_127 := n7_; have NB128_130 := n8_; have NB130_128 := n9_; clear n0_ n1_ n2_ n3_ n4_ n5_ n6_ n7_ n8_ n9_; clear hb hbox hg; have hnb44 := NB130_127.out; have hnc44 := NB127_130.out; have hnb45 := NB130_128.out; have hnc45 := NB128_130.out; have hcz46_0 : w43.cell? ⟨gb130, 0, none⟩ = some (.bool false) := (blk_cell BK130.out 0).trans rfl; have hcz46_1 : w43.cell? ⟨gb130, 1, none⟩ = some (.bool false) := (blk_cell BK130.out 1).trans rfl; have hcz46_2 : w43.cell? ⟨gb130, 2, none⟩ = some (.bool false) := (blk_cell BK130.out 2).trans rfl; have hfz46_0 := blk_frozen BK130.out 0; have hfz46_1 := blk_frozen BK130.out 1; have hfz46_2 := blk_frozen BK130.out 2; have hnb47 := NB128_127.out; have hnc47 := NB127_128.out; have hcz48_0 : w43.cell? ⟨gb128, 0, none⟩ = some (.bool false) := (blk_cell BK128.out 0).trans rfl; have hcz48_1 : w43.cell? ⟨gb128, 1, none⟩ = some (.bool false) := (blk_cell BK128.out 1).trans rfl; have hcz48_2 : w43.cell? ⟨gb128, 2, none⟩ = some (.bool false) := (blk_cell BK128.out 2).trans rfl; have hfz48_0 := blk_frozen BK128.out 0; have hfz48_1 := blk_frozen BK128.out 1; have hfz48_2 := blk_frozen BK128.out 2))
         go_roundg k1
         case measure => have := HK1.out; omega
         case rel => exact ⟨((rd_T36 l0 x9_1).f2), (wrap64 (x9_1 + 1)), ((rd_T36 l0 x9_1).f0), ((rd_T36 l0 x9_1).f1), (by first | rfl | (simp; done) | (simp [*]; done)), (by first | rfl | (simp; done) | (simp [*]; done)), H', ⟨by have := HK1.out; omega⟩, ⟨by (with_reducible repeat (first | refine blk_drewN ?_ _ | refine blk_drew ?_ | refine blk_alloc ?_ _)); refine blk_far ?_ NB127_128.out _; (with_reducible repeat (first | refine blk_drewN ?_ _ | refine blk_drew ?_ | refine blk_alloc ?_ _)); refine blk_far ?_ NB127_128.out _; (with_reducible repeat (first | refine blk_drewN ?_ _ | refine blk_drew ?_ | refine blk_alloc ?_ _)); refine blk_far ?_ NB127_130.out _; (with_reducible repeat (first | refine blk_drewN ?_ _ | refine blk_drew ?_ | refine blk_alloc ?_ _)); refine blk_far ?_ NB127_130.out _; (with_reducible repeat (first | refine blk_drewN ?_ _ | refine blk_drew ?_ | refine blk_alloc ?_ _)); refine blk_far ?_ NB127_130.out _; (with_reducible repeat (first | refine blk_drewN ?_ _ | refine blk_drew ?_ | refine blk_alloc ?_ _)); exact BK127.out⟩, ⟨by (with_reducible repeat (first | refine blk_drewN ?_ _ | refine blk_drew ?_ | refine blk_alloc ?_ _)); refine blk_put (cs := #[.bool ((rd_T36 l0 x9_1).f0), .bool false, .bool false]) ?_ 1 _ rfl; (with_reducible repeat (first | refine blk_drewN ?_ _ | refine blk_drew ?_ | refine blk_alloc ?_ _)); refine blk_put (cs := #[.bool false, .bool false, .bool false]) ?_ 0 _ rfl; (with_reducible repeat (first | refine blk_drewN ?_ _ | refine blk_drew ?_ | refine blk_alloc ?_ _)); refine blk_far ?_ NB128_130.out _; (with_reducible repeat (first | refine blk_drewN ?_ _ | refine blk_drew ?_ | refine blk_alloc ?_ _)); refine blk_far ?_ NB128_130.out _; (with_reducible repeat (first | refine blk_drewN ?_ _ | refine blk_drew ?_ | refine blk_alloc ?_ _)); refine blk_far ?_ NB128_130.out _; (with_reducible repeat (first | refine blk_drewN ?_ _ | refine blk_drew ?_ | refine blk_alloc ?_ _)); exact BK128.out⟩, ⟨by repeat (first | (with_reducible first | exact HB.out | apply below_alloc | apply pw_below_drewN | apply below_drew1 | refine below_set ?_ GE127.out | refine below_set ?_ GE128.out | refine below_set ?_ GE130.out) | exact HB.out)⟩⟩
       ·
        replace c35 := Bool.eq_false_iff.mpr c35
        subst c35
        have H1 : (if x129001_1 = true then (flow_choice.l0 k1 false l0 (l0.length : Int) (wrap64 (x9_1 + 1)) false true false) else (flow_choice.l0 k1 false l0 (l0.length : Int) (wrap64 (x9_1 + 1)) false false false)) = some (r1, r2, r3) := by rw [if_neg (show ¬ (false = true) by decide)] at H; exact H
        clear H
        have H := H1
        clear H1
        by_cases c49 : x129001_1 = true
        ·
         subst c49
         have H1 : (flow_choice.l0 k1 false l0 (l0.length : Int) (wrap64 (x9_1 + 1)) false true false) = some (r1, r2, r3) := by rw [if_pos rfl] at H; exact H
         clear H
         have H := H1
         clear H1
         have H' := Aside0.mk H
         clear H
         have p129 : 0 ≤ (x9_1 : Int) := of_decide_eq_true (by first | (with_reducible assumption) | assumption)
         have q129 : x9_1 < (l0.length : Int) := of_decide_eq_true (by first | (with_reducible assumption) | assumption)
         obtain ⟨ad129, e129, hx129_0, hx129_1, hx129_2⟩ := at_T36 HR0.out x9_1 p129 q129
         cases e129
         replace hx129_0 := (HB.out.cell (World.block_lt_of_cell? w _ hx129_0)).trans hx129_0
         replace hx129_1 := (HB.out.cell (World.block_lt_of_cell? w _ hx129_1)).trans hx129_1
         replace hx129_2 := (HB.out.cell (World.block_lt_of_cell? w _ hx129_2)).trans hx129_2
         replace p129 := eq_true p129
         replace q129 := eq_true q129
         go_wp2_with (first | ((with_reducible refine gate_dst (N := 6) rfl ?_); refine box_event ?hg (N := 6) ?hd (cs := #[.bool false, .bool false, .bool false]) (t := 36) ?hr ?_; (case hd => rfl); (case hg => rfl); (case hr => first | (go_simp; done) | (go_simp; rfl)); intro gb130 hg w50 hbox hb; have n0_ := Aside0.mk (blk_below (g := gb127) (o := .cells #[.bool false, .bool false, .bool false] 36 (0, 0)) (by (with_reducible repeat (first | refine blk_drewN ?_ _ | refine blk_drew ?_ | refine blk_alloc ?_ _)); exact BK127.out) hb); have n1_ := Aside0.mk (blk_below (g := gb128) (o := .cells #[.bool false, .bool true, .bool false] 36 (0, 0)) (by (with_reducible repeat (first | refine blk_drewN ?_ _ | refine blk_drew ?_ | refine blk_alloc ?_ _)); exact BK128.out) hb); have n2_ := Aside0.mk (below_step (by repeat (first | (with_reducible first | exact HB.out | apply below_alloc | apply pw_below_drewN | apply below_drew1 | refine below_set ?_ GE127.out | refine below_set ?_ GE128.out) | exact HB.out)) hb); have n3_ := Aside0.mk (hbox); have n4_ := Aside0.mk ((by rw [hg]; exact (below_size (by repeat (first | (with_reducible first | exact HB.out | apply below_alloc | apply pw_below_drewN | apply below_drew1 | refine below_set ?_ GE127.out | refine below_set ?_ GE128.out) | exact HB.out))) : w.heap.size ≤ gb130)); have n5_ := Aside0.mk ((by rw [hg]; exact (below_size (by repeat (first | (with_reducible first | exact HB.out | apply below_alloc | apply pw_below_drewN | apply below_drew1 | refine below_set ?_ GE127.out | refine below_set ?_ GE128.out) | exact HB.out))) : w.heap.size ≤ gb130)); have n6_ := Aside0.mk ((by rw [hg]; exact Nat.ne_of_lt (blk_lt (g := gb127) (o := .cells #[.bool false, .bool false, .bool false] 36 (0, 0)) (by (with_reducible repeat (first | refine blk_drewN ?_ _ | refine blk_drew ?_ | refine blk_alloc ?_ _)); exact BK127.out)) : gb127 ≠ gb130)); have n7_ := Aside0.mk ((by rw [hg]; exact Nat.ne_of_gt (blk_lt (g := gb127) (o := .cells #[.bool false, .bool false, .bool false] 36 (0, 0)) (by (with_reducible repeat (first | refine blk_drewN ?_ _ | refine blk_drew ?_ | refine blk_alloc ?_ _)); exact BK127.out)) : gb130 ≠ gb127)); have n8_ := Aside0.mk ((by rw [hg]; exact Nat.ne_of_lt (blk_lt (g := gb128) (o := .cells #[.bool false, .bool true, .bool false] 36 (0, 0)) (by (with_reducible repeat (first | refine blk_drewN ?_ _ | refine blk_drew ?_ | refine blk_alloc ?_ _)); exact BK128.out)) : gb128 ≠ gb130)); have n9_ := Aside0.mk ((by rw [hg]; exact Nat.ne_of_gt (blk_lt (g := gb128) (o := .cells #[.bool false, .bool true, .bool false] 36 (0, 0)) (by (with_reducible repeat (first | refine blk_drewN ?_ _ | refine blk_drew ?_ | refine blk_alloc ?_ _)); exact BK128.out)) : gb130 ≠ gb128)); clear BK127; clear BK128; clear HB; have BK127 := n0_; have BK128 := n1_; have HB := n2_; have BK130 := n3_; have GW130 := n4_; have GE130 := n5_; have NB127_130 := n6_; have NB130_127 := n7_; have NB128_130 := n8_; have NB130_128 := n9_; clear n0_ n1_ n2_ n3_ n4_ n5_ n6_ n7_ n8_ n9_; clear hb hbox hg; have hnb51 := NB130_127.out; have hnc51 := NB127_130.out; have hnb52 := NB130_128.out; have hnc52 := NB128_130.out; have hcz53_0 : w50.cell? ⟨gb130, 0, none⟩ = some (.bool false) := (blk_cell BK130.out 0).trans rfl; have hcz53_1 : w50.cell? ⟨gb130, 1, none⟩ = some (.bool false) := (blk_cell BK130.out 1).trans rfl; have hcz53_2 : w50.cell? ⟨gb130, 2, none⟩ = some (.bool false) := (blk_cell BK130.out 2).trans rfl; have hfz53_0 := blk_frozen BK130.out 0; have hfz53_1 := blk_frozen BK130.out 1; have hfz53_2 := blk_frozen BK130.out 2; have hnb54 := NB128_127.out; have hnc54 := NB127_128.out; have hcz55_0 : w50.cell? ⟨gb128, 0, none⟩ = some (.bool false) := (blk_cell BK128.out 0).trans rfl; have hcz55_1 : w50.cell? ⟨gb128, 1, none⟩ = some (.bool true) := (blk_cell BK128.out 1).trans rfl; have hcz55_2 : w50.cell? ⟨gb128, 2, none⟩ = some (.bool false) := (blk_cell BK128.out 2).trans rfl; have hfz55_0 := blk_frozen BK128.out 0; have hfz55_1 := blk_frozen BK128.out 1; have hfz55_2 := blk_frozen BK128.out 2))
         go_roundg k1
         case measure => have := HK1.out; omega
         case rel => exact ⟨(false), (wrap64 (x9_1 + 1)), (false), (true), (by first | rfl | (simp; done) | (simp [*]; done)), (by first | rfl | (simp; done) | (simp [*]; done)), H', ⟨by have := HK1.out; omega⟩, ⟨by (with_reducible repeat (first | refine blk_drewN ?_ _ | refine blk_drew ?_ | refine blk_alloc ?_ _)); refine blk_far ?_ NB127_128.out _; (with_reducible repeat (first | refine blk_drewN ?_ _ | refine blk_drew ?_ | refine blk_alloc ?_ _)); refine blk_far ?_ NB127_128.out _; (with_reducible repeat (first | refine blk_drewN ?_ _ | refine blk_drew ?_ | refine blk_alloc ?_ _)); refine blk_far ?_ NB127_130.out _; (with_reducible repeat (first | refine blk_drewN ?_ _ | refine blk_drew ?_ | refine blk_alloc ?_ _)); refine blk_far ?_ NB127_130.out _; (with_reducible repeat (first | refine blk_drewN ?_ _ | refine blk_drew ?_ | refine blk_alloc ?_ _)); refine blk_far ?_ NB127_130.out _; (with_reducible repeat (first | refine blk_drewN ?_ _ | refine blk_drew ?_ | refine blk_alloc ?_ _)); exact BK127.out⟩, ⟨by (with_reducible repeat (first | refine blk_drewN ?_ _ | refine blk_drew ?_ | refine blk_alloc ?_ _)); refine blk_put (cs := #[.bool false, .bool true, .bool false]) ?_ 1 _ rfl; (with_reducible repeat (first | refine blk_drewN ?_ _ | refine blk_drew ?_ | refine blk_alloc ?_ _)); refine blk_put (cs := #[.bool false, .bool true, .bool false]) ?_ 0 _ rfl; (with_reducible repeat (first | refine blk_drewN ?_ _ | refine blk_drew ?_ | refine blk_alloc ?_ _)); refine blk_far ?_ NB128_130.out _; (with_reducible repeat (first | refine blk_drewN ?_ _ | refine blk_drew ?_ | refine blk_alloc ?_ _)); refine blk_far ?_ NB128_130.out _; (with_reducible repeat (first | refine blk_drewN ?_ _ | refine blk_drew ?_ | refine blk_alloc ?_ _)); refine blk_far ?_ NB128_130.out _; (with_reducible repeat (first | refine blk_drewN ?_ _ | refine blk_drew ?_ | refine blk_alloc ?_ _)); exact BK128.out⟩, ⟨by repeat (first | (with_reducible first | exact HB.out | apply below_alloc | apply pw_below_drewN | apply below_drew1 | refine below_set ?_ GE127.out | refine below_set ?_ GE128.out | refine below_set ?_ GE130.out) | exact HB.out)⟩⟩
        ·
         replace c49 := Bool.eq_false_iff.mpr c49
         subst c49
         have H1 : (flow_choice.l0 k1 false l0 (l0.length : Int) (wrap64 (x9_1 + 1)) false false false) = some (r1, r2, r3) := by rw [if_neg (show ¬ (false = true) by decide)] at H; exact H
         clear H
         have H := H1
         clear H1
         have H' := Aside0.mk H
         clear H
         have p129 : 0 ≤ (x9_1 : Int) := of_decide_eq_true (by first | (with_reducible assumption) | assumption)
         have q129 : x9_1 < (l0.length : Int) := of_decide_eq_true (by first | (with_reducible assumption) | assumption)
         obtain ⟨ad129, e129, hx129_0, hx129_1, hx129_2⟩ := at_T36 HR0.out x9_1 p129 q129
         cases e129
         replace hx129_0 := (HB.out.cell (World.block_lt_of_cell? w _ hx129_0)).trans hx129_0
         replace hx129_1 := (HB.out.cell (World.block_lt_of_cell? w _ hx129_1)).trans hx129_1
         replace hx129_2 := (HB.out.cell (World.block_lt_of_cell? w _ hx129_2)).trans hx129_2
         replace p129 := eq_true p129
         replace q129 := eq_true q129
         go_wp2_with (first | ((with_reducible refine gate_dst (N := 6) rfl ?_); refine box_event ?hg (N := 6) ?hd (cs := #[.bool false, .bool false, .bool false]) (t := 36) ?hr ?_; (case hd => rfl); (case hg => rfl); (case hr => first | (go_simp; done) | (go_simp; rfl)); intro gb130 hg w56 hbox hb; have n0_ := Aside0.mk (blk_below (g := gb127) (o := .cells #[.bool false, .bool false, .bool false] 36 (0, 0)) (by (with_reducible repeat (first | refine blk_drewN ?_ _ | refine blk_drew ?_ | refine blk_alloc ?_ _)); exact BK127.out) hb); have n1_ := Aside0.mk (blk_below (g := gb128) (o := .cells #[.bool false, .bool false, .bool false] 36 (0, 0)) (by (with_reducible repeat (first | refine blk_drewN ?_ _ | refine blk_drew ?_ | refine blk_alloc ?_ _)); exact BK128.out) hb); have n2_ := Aside0.mk (below_step (by repeat (first | (with_reducible first | exact HB.out | apply below_alloc | apply pw_below_drewN | apply below_drew1 | refine below_set ?_ GE127.out | refine below_set ?_ GE128.out) | exact HB.out)) hb); have n3_ := Aside0.mk (hbox); have n4_ := Aside0.mk ((by rw [hg]; exact (below_size (by repeat (first | (with_reducible first | exact HB.out | apply below_alloc | apply pw_below_drewN | apply below_drew1 | refine below_set ?_ GE127.out | refine below_set ?_ GE128.out) | exact HB.out))) : w.heap.size ≤ gb130)); have n5_ := Aside0.mk ((by rw [hg]; exact (below_size (by repeat (first | (with_reducible first | exact HB.out | apply below_alloc | apply pw_below_drewN | apply below_drew1 | refine below_set ?_ GE127.out | refine below_set ?_ GE128.out) | exact HB.out))) : w.heap.size ≤ gb130)); have n6_ := Aside0.mk ((by rw [hg]; exact Nat.ne_of_lt (blk_lt (g := gb127) (o := .cells #[.bool false, .bool false, .bool false] 36 (0, 0)) (by (with_reducible repeat (first | refine blk_drewN ?_ _ | refine blk_drew ?_ | refine blk_alloc ?_ _)); exact BK127.out)) : gb127 ≠ gb130)); have n7_ := Aside0.mk ((by rw [hg]; exact Nat.ne_of_gt (blk_lt (g := gb127) (o := .cells #[.bool false, .bool false, .bool false] 36 (0, 0)) (by (with_reducible repeat (first | refine blk_drewN ?_ _ | refine blk_drew ?_ | refine blk_alloc ?_ _)); exact BK127.out)) : gb130 ≠ gb127)); have n8_ := Aside0.mk ((by rw [hg]; exact Nat.ne_of_lt (blk_lt (g := gb128) (o := .cells #[.bool false, .bool false, .bool false] 36 (0, 0)) (by (with_reducible repeat (first | refine blk_drewN ?_ _ | refine blk_drew ?_ | refine blk_alloc ?_ _)); exact BK128.out)) : gb128 ≠ gb130)); have n9_ := Aside0.mk ((by rw [hg]; exact Nat.ne_of_gt (blk_lt (g := gb128) (o := .cells #[.bool false, .bool false, .bool false] 36 (0, 0)) (by (with_reducible repeat (first | refine blk_drewN ?_ _ | refine blk_drew ?_ | refine blk_alloc ?_ _)); exact BK128.out)) : gb130 ≠ gb128)); clear BK127; clear BK128; clear HB; have BK127 := n0_; have BK128 := n1_; have HB := n2_; have BK130 := n3_; have GW130 := n4_; have GE130 := n5_; have NB127_130 := n6_; have NB130_127 := n7_; have NB128_130 := n8_; have NB130_128 := n9_; clear n0_ n1_ n2_ n3_ n4_ n5_ n6_ n7_ n8_ n9_; clear hb hbox hg; have hnb57 := NB130_127.out; have hnc57 := NB127_130.out; have hnb58 := NB130_128.out; have hnc58 := NB128_130.out; have hcz59_0 : w56.cell? ⟨gb130, 0, none⟩ = some (.bool false) := (blk_cell BK130.out 0).trans rfl; have hcz59_1 : w56.cell? ⟨gb130, 1, none⟩ = some (.bool false) := (blk_cell BK130.out 1).trans rfl; have hcz59_2 : w56.cell? ⟨gb130, 2, none⟩ = some (.bool false) := (blk_cell BK130.out 2).trans rfl; have hfz59_0 := blk_frozen BK130.out 0; have hfz59_1 := blk_frozen BK130.out 1; have hfz59_2 := blk_frozen BK130.out 2; have hnb60 := NB128_127.out; have hnc60 := NB127_128.out; have hcz61_0 : w56.cell? ⟨gb128, 0, none⟩ = some (.bool false) := (blk_cell BK128.out 0).trans rfl; have hcz61_1 : w56.cell? ⟨gb128, 1, none⟩ = some (.bool false) := (blk_cell BK128.out 1).trans rfl; have hcz61_2 : w56.cell? ⟨gb128, 2, none⟩ = some (.bool false) := (blk_cell BK128.out 2).trans rfl; have hfz61_0 := blk_frozen BK128.out 0; have hfz61_1 := blk_frozen BK128.out 1; have hfz61_2 := blk_frozen BK128.out 2))
         go_roundg k1
         case measure => have := HK1.out; omega
         case rel => exact ⟨(false), (wrap64 (x9_1 + 1)), (false), (false), (by first | rfl | (simp; done) | (simp [*]; done)), (by first | rfl | (simp; done) | (simp [*]; done)), H', ⟨by have := HK1.out; omega⟩, ⟨by (with_reducible repeat (first | refine blk_drewN ?_ _ | refine blk_drew ?_ | refine blk_alloc ?_ _)); refine blk_far ?_ NB127_128.out _; (with_reducible repeat (first | refine blk_drewN ?_ _ | refine blk_drew ?_ | refine blk_alloc ?_ _)); refine blk_far ?_ NB127_128.out _; (with_reducible repeat (first | refine blk_drewN ?_ _ | refine blk_drew ?_ | refine blk_alloc ?_ _)); refine blk_far ?_ NB127_130.out _; (with_reducible repeat (first | refine blk_drewN ?_ _ | refine blk_drew ?_ | refine blk_alloc ?_ _)); refine blk_far ?_ NB127_130.out _; (with_reducible repeat (first | refine blk_drewN ?_ _ | refine blk_drew ?_ | refine blk_alloc ?_ _)); refine blk_far ?_ NB127_130.out _; (with_reducible repeat (first | refine blk_drewN ?_ _ | refine blk_drew ?_ | refine blk_alloc ?_ _)); exact BK127.out⟩, ⟨by (with_reducible repeat (first | refine blk_drewN ?_ _ | refine blk_drew ?_ | refine blk_alloc ?_ _)); refine blk_put (cs := #[.bool false, .bool false, .bool false]) ?_ 1 _ rfl; (with_reducible repeat (first | refine blk_drewN ?_ _ | refine blk_drew ?_ | refine blk_alloc ?_ _)); refine blk_put (cs := #[.bool false, .bool false, .bool false]) ?_ 0 _ rfl; (with_reducible repeat (first | refine blk_drewN ?_ _ | refine blk_drew ?_ | refine blk_alloc ?_ _)); refine blk_far ?_ NB128_130.out _; (with_reducible repeat (first | refine blk_drewN ?_ _ | refine blk_drew ?_ | refine blk_alloc ?_ _)); refine blk_far ?_ NB128_130.out _; (with_reducible repeat (first | refine blk_drewN ?_ _ | refine blk_drew ?_ | refine blk_alloc ?_ _)); refine blk_far ?_ NB128_130.out _; (with_reducible repeat (first | refine blk_drewN ?_ _ | refine blk_drew ?_ | refine blk_alloc ?_ _)); exact BK128.out⟩, ⟨by repeat (first | (with_reducible first | exact HB.out | apply below_alloc | apply pw_below_drewN | apply below_drew1 | refine below_set ?_ GE127.out | refine below_set ?_ GE128.out | refine below_set ?_ GE130.out) | exact HB.out)⟩⟩
     ·
      rw [if_neg c6] at H
      exact absurd H (by simp)
    ·
     rw [if_neg c5] at H
     exact absurd H (by simp)
   ·
    rw [if_neg c4] at H
    have c4b0 : decide (x9_1 < (l0.length : Int)) = false := decide_eq_false c4
    clear c4
    simp only [Option.some.injEq, Prod.mk.injEq] at H
    obtain ⟨rfl, rfl, rfl⟩ := H
    have hnb62 := NB128_127.out
    have hnc62 := NB127_128.out
    have hcz63_0 : wr.cell? ⟨gb128, 0, none⟩ = some (.bool x129000_1) := (blk_cell BK128.out 0).trans rfl
    have hcz63_1 : wr.cell? ⟨gb128, 1, none⟩ = some (.bool x129001_1) := (blk_cell BK128.out 1).trans rfl
    have hcz63_2 : wr.cell? ⟨gb128, 2, none⟩ = some (.bool false) := (blk_cell BK128.out 2).trans rfl
    have hfz63_0 := blk_frozen BK128.out 0
    have hfz63_1 := blk_frozen BK128.out 1
    have hfz63_2 := blk_frozen BK128.out 2
    have hcz64_0 : wr.cell? ⟨gb127, 0, none⟩ = some (.bool false) := (blk_cell BK127.out 0).trans rfl
    have hcz64_1 : wr.cell? ⟨gb127, 1, none⟩ = some (.bool false) := (blk_cell BK127.out 1).trans rfl
    have hcz64_2 : wr.cell? ⟨gb127, 2, none⟩ = some (.bool false) := (blk_cell BK127.out 2).trans rfl
    have hfz64_0 := blk_frozen BK127.out 0
    have hfz64_1 := blk_frozen BK127.out 1
    have hfz64_2 := blk_frozen BK127.out 2
    go_wp2
    refine bodyPost_ret (results_cell_row rfl _ _ gb127 36 #[.bool x129000_1, .bool x129001_1, .bool x4_1] (0, 0) _ rfl (by (with_reducible repeat (first | refine blk_drewN ?_ _ | refine blk_drew ?_ | refine blk_alloc ?_ _)); refine blk_put (cs := #[.bool x129000_1, .bool x129001_1, .bool false]) ?_ 2 _ rfl; (with_reducible repeat (first | refine blk_drewN ?_ _ | refine blk_drew ?_ | refine blk_alloc ?_ _)); refine blk_put (cs := #[.bool x129000_1, .bool false, .bool false]) ?_ 1 _ rfl; (with_reducible repeat (first | refine blk_drewN ?_ _ | refine blk_drew ?_ | refine blk_alloc ?_ _)); refine blk_put (cs := #[.bool false, .bool false, .bool false]) ?_ 0 _ rfl; (with_reducible repeat (first | refine blk_drewN ?_ _ | refine blk_drew ?_ | refine blk_alloc ?_ _)); refine blk_far ?_ NB127_128.out _; (with_reducible repeat (first | refine blk_drewN ?_ _ | refine blk_drew ?_ | refine blk_alloc ?_ _)); exact BK127.out) Try.underlying36 rfl (by kernel_rfl)) rfl ?_
    exact ⟨by first | rfl | (simp [errW_none, errW_some] <;> rfl) | (simp [*, errW_none, errW_some] <;> rfl), by repeat (first | (with_reducible first | exact HB.out | apply below_alloc | apply pw_below_drewN | apply below_drew1 | refine below_set ?_ GE127.out | refine below_set ?_ GE128.out) | exact HB.out)⟩
def flow_unary.f (a0 : Int) (a1_0 : Bool) (a1_1 : Bool) (a1_2 : Bool) : Option (Bool × Bool × Bool) := if a0 = 5 then (some (a1_2, a1_1, false)) else (if a0 = 6 then (if a1_0 = true then (some (a1_2, a1_1, a1_2)) else (some (false, a1_1, a1_2))) else (if a0 = 7 then (if a1_0 = true then (some (true, a1_1, false)) else (some (a1_2, a1_1, false))) else (if a0 = 8 then ((flow_Facts_ok.f a1_0 a1_1 a1_2).bind fun t133 => (some (t133, false, a1_2))) else ((flow_Facts_ok.f a1_0 a1_1 a1_2).bind fun t134 => (some (a1_2, false, t134))))))
set_option maxHeartbeats 8000000 in
set_option maxRecDepth 100000 in
theorem flow_unary.calls (a0 : Int) (a1_0 : Bool) (a1_1 : Bool) (a1_2 : Bool) (r1 : Bool) (r2 : Bool) (r3 : Bool) (w : World) (h : flow_unary.f a0 a1_0 a1_1 a1_2 = some (r1, r2, r3)) :
 Calls Try.prog 33 #[.int .i64 a0, .agg #[.bool a1_0, .bool a1_1, .bool a1_2]] w fun e w' => e = .returned (.agg #[.bool r1, .bool r2, .bool r3]) ∧ Below w.heap.size w w' := by
 have hu36 := Try.underlying36
 have HB := Aside0.mk (Below.refl w.heap.size w)
 have H : (if a0 = 5 then (some (a1_2, a1_1, false)) else (if a0 = 6 then (if a1_0 = true then (some (a1_2, a1_1, a1_2)) else (some (false, a1_1, a1_2))) else (if a0 = 7 then (if a1_0 = true then (some (true, a1_1, false)) else (some (a1_2, a1_1, false))) else (if a0 = 8 then ((flow_Facts_ok.f a1_0 a1_1 a1_2).bind fun t133 => (some (t133, false, a1_2))) else ((flow_Facts_ok.f a1_0 a1_1 a1_2).bind fun t134 => (some (a1_2, false, t134))))))) = some (r1, r2, r3) := h
 clear h
 by_cases c3 : a0 = 5
 ·
  rw [if_pos c3] at H
  have c3b0 : (a0 == 5) = true := beq_iff_eq.mpr c3
  have c3b1 : (a0 != 5) = false := bne_eq_false_iff_eq.mpr c3
  clear c3
  simp only [Option.some.injEq, Prod.mk.injEq] at H
  obtain ⟨rfl, rfl, rfl⟩ := H
  go_enter Try.func33, Try.ntmps33
  go_wp2_with (first | ((with_reducible refine gate_dst (N := 3) rfl ?_); refine box_event ?hg (N := 3) ?hd (cs := #[.bool a1_0, .bool a1_1, .bool a1_2]) (t := 36) ?hr ?_; (case hd => rfl); (case hg => rfl); (case hr => first | (go_simp; done) | (go_simp; rfl)); intro gb131 hg w4 hbox hb; have n0_ := Aside0.mk (below_step (by repeat (first | (with_reducible first | exact HB.out | apply below_alloc | apply pw_below_drewN | apply below_drew1) | exact HB.out)) hb); have n1_ := Aside0.mk (hbox); have n2_ := Aside0.mk ((by rw [hg]; exact (below_size (by repeat (first | (with_reducible first | exact HB.out | apply below_alloc | apply pw_below_drewN | apply below_drew1) | exact HB.out))) : w.heap.size ≤ gb131)); have n3_ := Aside0.mk ((by rw [hg]; exact (below_size (by repeat (first | (with_reducible first | exact HB.out | apply below_alloc | apply pw_below_drewN | apply below_drew1) | exact HB.out))) : w.heap.size ≤ gb131)); clear HB; have HB := n0_; have BK131 := n1_; have GW131 := n2_; have GE131 := n3_; clear n0_ n1_ n2_ n3_; clear hb hbox hg) | ((with_reducible refine gate_dst (N := 4) rfl ?_); refine box_event ?hg (N := 4) ?hd (cs := #[.bool false, .bool false, .bool false]) (t := 36) ?hr ?_; (case hd => rfl); (case hg => rfl); (case hr => first | (go_simp; done) | (go_simp; rfl)); intro gb132 hg w5 hbox hb; have n0_ := Aside0.mk (blk_below (g := gb131) (o := .cells #[.bool a1_0, .bool a1_1, .bool a1_2] 36 (0, 0)) (by (with_reducible repeat (first | refine blk_drewN ?_ _ | refine blk_drew ?_ | refine blk_alloc ?_ _)); exact BK131.out) hb); have n1_ := Aside0.mk (below_step (by repeat (first | (with_reducible first | exact HB.out | apply below_alloc | apply pw_below_drewN | apply below_drew1 | refine below_set ?_ GE131.out) | exact HB.out)) hb); have n2_ := Aside0.mk (hbox); have n3_ := Aside0.mk ((by rw [hg]; exact (below_size (by repeat (first | (with_reducible first | exact HB.out | apply below_alloc | apply pw_below_drewN | apply below_drew1 | refine below_set ?_ GE131.out) | exact HB.out))) : w.heap.size ≤ gb132)); have n4_ := Aside0.mk ((by rw [hg]; exact (below_size (by repeat (first | (with_reducible first | exact HB.out | apply below_alloc | apply pw_below_drewN | apply below_drew1 | refine below_set ?_ GE131.out) | exact HB.out))) : w.heap.size ≤ gb132)); have n5_ := Aside0.mk ((by rw [hg]; exact Nat.ne_of_lt (blk_lt (g := gb131) (o := .cells #[.bool a1_0, .bool a1_1, .bool a1_2] 36 (0, 0)) (by (with_reducible repeat (first | refine blk_drewN ?_ _ | refine blk_drew ?_ | refine blk_alloc ?_ _)); exact BK131.out)) : gb131 ≠ gb132)); have n6_ := Aside0.mk ((by rw [hg]; exact Nat.ne_of_gt (blk_lt (g := gb131) (o := .cells #[.bool a1_0, .bool a1_1, .bool a1_2] 36 (0, 0)) (by (with_reducible repeat (first | refine blk_drewN ?_ _ | refine blk_drew ?_ | refine blk_alloc ?_ _)); exact BK131.out)) : gb132 ≠ gb131)); clear BK131; clear HB; have BK131 := n0_; have HB := n1_; have BK132 := n2_; have GW132 := n3_; have GE132 := n4_; have NB131_132 := n5_; have NB132_131 := n6_; clear n0_ n1_ n2_ n3_ n4_ n5_ n6_; clear hb hbox hg; have hnb6 := NB131_132.out; have hnc6 := NB132_131.out; have hcz7_0 : w5.cell? ⟨gb131, 0, none⟩ = some (.bool a1_0) := (blk_cell BK131.out 0).trans rfl; have hcz7_1 : w5.cell? ⟨gb131, 1, none⟩ = some (.bool a1_1) := (blk_cell BK131.out 1).trans rfl; have hcz7_2 : w5.cell? ⟨gb131, 2, none⟩ = some (.bool a1_2) := (blk_cell BK131.out 2).trans rfl; have hfz7_0 := blk_frozen BK131.out 0; have hfz7_1 := blk_frozen BK131.out 1; have hfz7_2 := blk_frozen BK131.out 2; have hcz8_0 : w5.cell? ⟨gb132, 0, none⟩ = some (.bool false) := (blk_cell BK132.out 0).trans rfl; have hcz8_1 : w5.cell? ⟨gb132, 1, none⟩ = some (.bool false) := (blk_cell BK132.out 1).trans rfl; have hcz8_2 : w5.cell? ⟨gb132, 2, none⟩ = some (.bool false) := (blk_cell BK132.out 2).trans rfl; have hfz8_0 := blk_frozen BK132.out 0; have hfz8_1 := blk_frozen BK132.out 1; have hfz8_2 := blk_frozen BK132.out 2))
  refine bodyPost_ret (results_cell_row rfl _ _ gb132 36 #[.bool a1_2, .bool a1_1, .bool false] (0, 0) _ rfl (by (with_reducible repeat (first | refine blk_drewN ?_ _ | refine blk_drew ?_ | refine blk_alloc ?_ _)); refine blk_put (cs := #[.bool a1_2, .bool a1_1, .bool false]) ?_ 2 _ rfl; (with_reducible repeat (first | refine blk_drewN ?_ _ | refine blk_drew ?_ | refine blk_alloc ?_ _)); refine blk_put (cs := #[.bool a1_2, .bool false, .bool false]) ?_ 1 _ rfl; (with_reducible repeat (first | refine blk_drewN ?_ _ | refine blk_drew ?_ | refine blk_alloc ?_ _)); refine blk_put (cs := #[.bool false, .bool false, .bool false]) ?_ 0 _ rfl; (with_reducible repeat (first | refine blk_drewN ?_ _ | refine blk_drew ?_ | refine blk_alloc ?_ _)); exact BK132.out) Try.underlying36 rfl (by kernel_rfl)) rfl ?_
  exact ⟨by first | rfl | (simp [errW_none, errW_some] <;> rfl) | (simp [*, errW_none, errW_some] <;> rfl), by repeat (first | (with_reducible first | exact HB.out | apply below_alloc | apply pw_below_drewN | apply below_drew1 | refine below_set ?_ GE131.out | refine below_set ?_ GE132.out) | exact HB.out)⟩
 ·
  rw [if_neg c3] at H
  have c3b0 : (a0 == 5) = false := beq_eq_false_iff_ne.mpr c3
  have c3b1 : (a0 != 5) = true := bne_iff_ne.mpr c3
  by_cases c9 : a0 = 6
  ·
   rw [if_pos c9] at H
   have c9b0 : (a0 == 6) = true := beq_iff_eq.mpr c9
   have c9b1 : (a0 != 6) = false := bne_eq_false_iff_eq.mpr c9
   clear c9
   by_cases c10 : a1_0 = true
   ·
    subst c10
    have H1 : (some (a1_2, a1_1, a1_2)) = some (r1, r2, r3) := by rw [if_pos rfl] at H; exact H
    clear H
    have H := H1
    clear H1
    simp only [Option.some.injEq, Prod.mk.injEq] at H
    obtain ⟨rfl, rfl, rfl⟩ := H
    go_enter Try.func33, Try.ntmps33
    go_wp2_with (first | ((with_reducible refine gate_dst (N := 3) rfl ?_); refine box_event ?hg (N := 3) ?hd (cs := #[.bool true, .bool a1_1, .bool a1_2]) (t := 36) ?hr ?_; (case hd => rfl); (case hg => rfl); (case hr => first | (go_simp; done) | (go_simp; rfl)); intro gb131 hg w11 hbox hb; have n0_ := Aside0.mk (below_step (by repeat (first | (with_reducible first | exact HB.out | apply below_alloc | apply pw_below_drewN | apply below_drew1) | exact HB.out)) hb); have n1_ := Aside0.mk (hbox); have n2_ := Aside0.mk ((by rw [hg]; exact (below_size (by repeat (first | (with_reducible first | exact HB.out | apply below_alloc | apply pw_below_drewN | apply below_drew1) | exact HB.out))) : w.heap.size ≤ gb131)); have n3_ := Aside0.mk ((by rw [hg]; exact (below_size (by repeat (first | (with_reducible first | exact HB.out | apply below_alloc | apply pw_below_drewN | apply below_drew1) | exact HB.out))) : w.heap.size ≤ gb131)); clear HB; have HB := n0_; have BK131 := n1_; have GW131 := n2_; have GE131 := n3_; clear n0_ n1_ n2_ n3_; clear hb hbox hg) | ((with_reducible refine gate_dst (N := 4) rfl ?_); refine box_event ?hg (N := 4) ?hd (cs := #[.bool false, .bool false, .bool false]) (t := 36) ?hr ?_; (case hd => rfl); (case hg => rfl); (case hr => first | (go_simp; done) | (go_simp; rfl)); intro gb132 hg w12 hbox hb; have n0_ := Aside0.mk (blk_below (g := gb131) (o := .cells #[.bool true, .bool a1_1, .bool a1_2] 36 (0, 0)) (by (with_reducible repeat (first | refine blk_drewN ?_ _ | refine blk_drew ?_ | refine blk_alloc ?_ _)); exact BK131.out) hb); have n1_ := Aside0.mk (below_step (by repeat (first | (with_reducible first | exact HB.out | apply below_alloc | apply pw_below_drewN | apply below_drew1 | refine below_set ?_ GE131.out) | exact HB.out)) hb); have n2_ := Aside0.mk (hbox); have n3_ := Aside0.mk ((by rw [hg]; exact (below_size (by repeat (first | (with_reducible first | exact HB.out | apply below_alloc | apply pw_below_drewN | apply below_drew1 | refine below_set ?_ GE131.out) | exact HB.out))) : w.heap.size ≤ gb132)); have n4_ := Aside0.mk ((by rw [hg]; exact (below_size (by repeat (first | (with_reducible first | exact HB.out | apply below_alloc | apply pw_below_drewN | apply below_drew1 | refine below_set ?_ GE131.out) | exact HB.out))) : w.heap.size ≤ gb132)); have n5_ := Aside0.mk ((by rw [hg]; exact Nat.ne_of_lt (blk_lt (g := gb131) (o := .cells #[.bool true, .bool a1_1, .bool a1_2] 36 (0, 0)) (by (with_reducible repeat (first | refine blk_drewN ?_ _ | refine blk_drew ?_ | refine blk_alloc ?_ _)); exact BK131.out)) : gb131 ≠ gb132)); have n6_ := Aside0.mk ((by rw [hg]; exact Nat.ne_of_gt (blk_lt (g := gb131) (o := .cells #[.bool true, .bool a1_1, .bool a1_2] 36 (0, 0)) (by (with_reducible repeat (first | refine blk_drewN ?_ _ | refine blk_drew ?_ | refine blk_alloc ?_ _)); exact BK131.out)) : gb132 ≠ gb131)); clear BK131; clear HB; have BK131 := n0_; have HB := n1_; have BK132 := n2_; have GW132 := n3_; have GE132 := n4_; have NB131_132 := n5_; have NB132_131 := n6_; clear n0_ n1_ n2_ n3_ n4_ n5_ n6_; clear hb hbox hg; have hnb13 := NB131_132.out; have hnc13 := NB132_131.out; have hcz14_0 : w12.cell? ⟨gb131, 0, none⟩ = some (.bool true) := (blk_cell BK131.out 0).trans rfl; have hcz14_1 : w12.cell? ⟨gb131, 1, none⟩ = some (.bool a1_1) := (blk_cell BK131.out 1).trans rfl; have hcz14_2 : w12.cell? ⟨gb131, 2, none⟩ = some (.bool a1_2) := (blk_cell BK131.out 2).trans rfl; have hfz14_0 := blk_frozen BK131.out 0; have hfz14_1 := blk_frozen BK131.out 1; have hfz14_2 := blk_frozen BK131.out 2; have hcz15_0 : w12.cell? ⟨gb132, 0, none⟩ = some (.bool false) := (blk_cell BK132.out 0).trans rfl; have hcz15_1 : w12.cell? ⟨gb132, 1, none⟩ = some (.bool false) := (blk_cell BK132.out 1).trans rfl; have hcz15_2 : w12.cell? ⟨gb132, 2, none⟩ = some (.bool false) := (blk_cell BK132.out 2).trans rfl; have hfz15_0 := blk_frozen BK132.out 0; have hfz15_1 := blk_frozen BK132.out 1; have hfz15_2 := blk_frozen BK132.out 2))
    refine bodyPost_ret (results_cell_row rfl _ _ gb132 36 #[.bool a1_2, .bool a1_1, .bool a1_2] (0, 0) _ rfl (by (with_reducible repeat (first | refine blk_drewN ?_ _ | refine blk_drew ?_ | refine blk_alloc ?_ _)); refine blk_put (cs := #[.bool a1_2, .bool a1_1, .bool false]) ?_ 2 _ rfl; (with_reducible repeat (first | refine blk_drewN ?_ _ | refine blk_drew ?_ | refine blk_alloc ?_ _)); refine blk_put (cs := #[.bool a1_2, .bool false, .bool false]) ?_ 1 _ rfl; (with_reducible repeat (first | refine blk_drewN ?_ _ | refine blk_drew ?_ | refine blk_alloc ?_ _)); refine blk_put (cs := #[.bool false, .bool false, .bool false]) ?_ 0 _ rfl; (with_reducible repeat (first | refine blk_drewN ?_ _ | refine blk_drew ?_ | refine blk_alloc ?_ _)); exact BK132.out) Try.underlying36 rfl (by kernel_rfl)) rfl ?_
    exact ⟨by first | rfl | (simp [errW_none, errW_some] <;> rfl) | (simp [*, errW_none, errW_some] <;> rfl), by repeat (first | (with_reducible first | exact HB.out | apply below_alloc | apply pw_below_drewN | apply below_drew1 | refine below_set ?_ GE131.out | refine below_set ?_ GE132.out) | exact HB.out)⟩
   ·
    replace c10 := Bool.eq_false_iff.mpr c10
    subst c10
    have H1 : (some (false, a1_1, a1_2)) = some (r1, r2, r3) := by rw [if_neg (show ¬ (false = true) by decide)] at H; exact H
    clear H
    have H := H1
    clear H1
    simp only [Option.some.injEq, Prod.mk.injEq] at H
    obtain ⟨rfl, rfl, rfl⟩ := H
    go_enter Try.func33, Try.ntmps33
    go_wp2_with (first | ((with_reducible refine gate_dst (N := 3) rfl ?_); refine box_event ?hg (N := 3) ?hd (cs := #[.bool false, .bool a1_1, .bool a1_2]) (t := 36) ?hr ?_; (case hd => rfl); (case hg => rfl); (case hr => first | (go_simp; done) | (go_simp; rfl)); intro gb131 hg w16 hbox hb; have n0_ := Aside0.mk (below_step (by repeat (first | (with_reducible first | exact HB.out | apply below_alloc | apply pw_below_drewN | apply below_drew1) | exact HB.out)) hb); have n1_ := Aside0.mk (hbox); have n2_ := Aside0.mk ((by rw [hg]; exact (below_size (by repeat (first | (with_reducible first | exact HB.out | apply below_alloc | apply pw_below_drewN | apply below_drew1) | exact HB.out))) : w.heap.size ≤ gb131)); have n3_ := Aside0.mk ((by rw [hg]; exact (below_size (by repeat (first | (with_reducible first | exact HB.out | apply below_alloc | apply pw_below_drewN | apply below_drew1) | exact HB.out))) : w.heap.size ≤ gb131)); clear HB; have HB := n0_; have BK131 := n1_; have GW131 := n2_; have GE131 := n3_; clear n0_ n1_ n2_ n3_; clear hb hbox hg) | ((with_reducible refine gate_dst (N := 4) rfl ?_); refine box_event ?hg (N := 4) ?hd (cs := #[.bool false, .bool false, .bool false]) (t := 36) ?hr ?_; (case hd => rfl); (case hg => rfl); (case hr => first | (go_simp; done) | (go_simp; rfl)); intro gb132 hg w17 hbox hb; have n0_ := Aside0.mk (blk_below (g := gb131) (o := .cells #[.bool false, .bool a1_1, .bool a1_2] 36 (0, 0)) (by (with_reducible repeat (first | refine blk_drewN ?_ _ | refine blk_drew ?_ | refine blk_alloc ?_ _)); exact BK131.out) hb); have n1_ := Aside0.mk (below_step (by repeat (first | (with_reducible first | exact HB.out | apply below_alloc | apply pw_below_drewN | apply below_drew1 | refine below_set ?_ GE131.out) | exact HB.out)) hb); have n2_ := Aside0.mk (hbox); have n3_ := Aside0.mk ((by rw [hg]; exact (below_size (by repeat (first | (with_reducible first | exact HB.out | apply below_alloc | apply pw_below_drewN | apply below_drew1 | refine below_set ?_ GE131.out) | exact HB.out))) : w.heap.size ≤ gb132)); have n4_ := Aside0.mk ((by rw [hg]; exact (below_size (by repeat (first | (with_reducible first | exact HB.out | apply below_alloc | apply pw_below_drewN | apply below_drew1 | refine below_set ?_ GE131.out) | exact HB.out))) : w.heap.size ≤ gb132)); have n5_ := Aside0.mk ((by rw [hg]; exact Nat.ne_of_lt (blk_lt (g := gb131) (o := .cells #[.bool false, .bool a1_1, .bool a1_2] 36 (0, 0)) (by (with_reducible repeat (first | refine blk_drewN ?_ _ | refine blk_drew ?_ | refine blk_alloc ?_ _)); exact BK131.out)) : gb131 ≠ gb132)); have n6_ := Aside0.mk ((by rw [hg]; exact Nat.ne_of_gt (blk_lt (g := gb131) (o := .cells #[.bool false, .bool a1_1, .bool a1_2] 36 (0, 0)) (by (with_reducible repeat (first | refine blk_drewN ?_ _ | refine blk_drew ?_ | refine blk_alloc ?_ _)); exact BK131.out)) : gb132 ≠ gb131)); clear BK131; clear HB; have BK131 := n0_; have HB := n1_; have BK132 := n2_; have GW132 := n3_; have GE132 := n4_; have NB131_132 := n5_; have NB132_131 := n6_; clear n0_ n1_ n2_ n3_ n4_ n5_ n6_; clear hb hbox hg; have hnb18 := NB131_132.out; have hnc18 := NB132_131.out; have hcz19_0 : w17.cell? ⟨gb131, 0, none⟩ = some (.bool false) := (blk_cell BK131.out 0).trans rfl; have hcz19_1 : w17.cell? ⟨gb131, 1, none⟩ = some (.bool a1_1) := (blk_cell BK131.out 1).trans rfl; have hcz19_2 : w17.cell? ⟨gb131, 2, none⟩ = some (.bool a1_2) := (blk_cell BK131.out 2).trans rfl; have hfz19_0 := blk_frozen BK131.out 0; have hfz19_1 := blk_frozen BK131.out 1; have hfz19_2 := blk_frozen BK131.out 2; have hcz20_0 : w17.cell? ⟨gb132, 0, none⟩ = some (.bool false) := (blk_cell BK132.out 0).trans rfl; have hcz20_1 : w17.cell? ⟨gb132, 1, none⟩ = some (.bool false) := (blk_cell BK132.out 1).trans rfl; have hcz20_2 : w17.cell? ⟨gb132, 2, none⟩ = some (.bool false) := (blk_cell BK132.out 2).trans rfl; have hfz20_0 := blk_frozen BK132.out 0; have hfz20_1 := blk_frozen BK132.out 1; have hfz20_2 := blk_frozen BK132.out 2))
    refine bodyPost_ret (results_cell_row rfl _ _ gb132 36 #[.bool false, .bool a1_1, .bool a1_2] (0, 0) _ rfl (by (with_reducible repeat (first | refine blk_drewN ?_ _ | refine blk_drew ?_ | refine blk_alloc ?_ _)); refine blk_put (cs := #[.bool false, .bool a1_1, .bool false]) ?_ 2 _ rfl; (with_reducible repeat (first | refine blk_drewN ?_ _ | refine blk_drew ?_ | refine blk_alloc ?_ _)); refine blk_put (cs := #[.bool false, .bool false, .bool false]) ?_ 1 _ rfl; (with_reducible repeat (first | refine blk_drewN ?_ _ | refine blk_drew ?_ | refine blk_alloc ?_ _)); refine blk_put (cs := #[.bool false, .bool false, .bool false]) ?_ 0 _ rfl; (with_reducible repeat (first | refine blk_drewN ?_ _ | refine blk_drew ?_ | refine blk_alloc ?_ _)); exact BK132.out) Try.underlying36 rfl (by kernel_rfl)) rfl ?_
    exact ⟨by first | rfl | (simp [errW_none, errW_some] <;> rfl) | (simp [*, errW_none, errW_some] <;> rfl), by repeat (first | (with_reducible first | exact HB.out | apply below_alloc | apply pw_below_drewN | apply below_drew1 | refine below_set ?_ GE131.out | refine below_set ?_ GE132.out) | exact HB.out)⟩
  ·
   rw [if_neg c9] at H
   have c9b0 : (a0 == 6) = false := beq_eq_false_iff_ne.mpr c9
   have c9b1 : (a0 != 6) = true := bne_iff_ne.mpr c9
   by_cases c21 : a0 = 7
   ·
    rw [if_pos c21] at H
    have c21b0 : (a0 == 7) = true := beq_iff_eq.mpr c21
    have c21b1 : (a0 != 7) = false := bne_eq_false_iff_eq.mpr c21
    clear c21
    by_cases c22 : a1_0 = true
    ·
     subst c22
     have H1 : (some (true, a1_1, false)) = some (r1, r2, r3) := by rw [if_pos rfl] at H; exact H
     clear H
     have H := H1
     clear H1
     simp only [Option.some.injEq, Prod.mk.injEq] at H
     obtain ⟨rfl, rfl, rfl⟩ := H
     go_enter Try.func33, Try.ntmps33
     go_wp2_with (first | ((with_reducible refine gate_dst (N := 3) rfl ?_); refine box_event ?hg (N := 3) ?hd (cs := #[.bool true, .bool a1_1, .bool a1_2]) (t := 36) ?hr ?_; (case hd => rfl); (case hg => rfl); (case hr => first | (go_simp; done) | (go_simp; rfl)); intro gb131 hg w23 hbox hb; have n0_ := Aside0.mk (below_step (by repeat (first | (with_reducible first | exact HB.out | apply below_alloc | apply pw_below_drewN | apply below_drew1) | exact HB.out)) hb); have n1_ := Aside0.mk (hbox); have n2_ := Aside0.mk ((by rw [hg]; exact (below_size (by repeat (first | (with_reducible first | exact HB.out | apply below_alloc | apply pw_below_drewN | apply below_drew1) | exact HB.out))) : w.heap.size ≤ gb131)); have n3_ := Aside0.mk ((by rw [hg]; exact (below_size (by repeat (first | (with_reducible first | exact HB.out | apply below_alloc | apply pw_below_drewN | apply below_drew1) | exact HB.out))) : w.heap.size ≤ gb131)); clear HB; have HB := n0_; have BK131 := n1_; have GW131 := n2_; have GE131 := n3_; clear n0_ n1_ n2_ n3_; clear hb hbox hg) | ((with_reducible refine gate_dst (N := 4) rfl ?_); refine box_event ?hg (N := 4) ?hd (cs := #[.bool false, .bool false, .bool false]) (t := 36) ?hr ?_; (case hd => rfl); (case hg => rfl); (case hr => first | (go_simp; done) | (go_simp; rfl)); intro gb132 hg w24 hbox hb; have n0_ := Aside0.mk (blk_below (g := gb131) (o := .cells #[.bool true, .bool a1_1, .bool a1_2] 36 (0, 0)) (by (with_reducible repeat (first | refine blk_drewN ?_ _ | refine blk_drew ?_ | refine blk_alloc ?_ _)); exact BK131.out) hb); have n1_ := Aside0.mk (below_step (by repeat (first | (with_reducible first | exact HB.out | apply below_alloc | apply pw_below_drewN | apply below_drew1 | refine below_set ?_ GE131.out) | exact HB.out)) hb); have n2_ := Aside0.mk (hbox); have n3_ := Aside0.mk ((by rw [hg]; exact (below_size (by repeat (first | (with_reducible first | exact HB.out | apply below_alloc | apply pw_below_drewN | apply below_drew1 | refine below_set ?_ GE131.out) | exact HB.out))) : w.heap.size ≤ gb132)); have n4_ := Aside0.mk ((by rw [hg]; exact (below_size (by repeat (first | (with_reducible first | exact HB.out | apply below_alloc | apply pw_below_drewN | apply below_drew1 | refine below_set ?_ GE131.out) | exact HB.out))) : w.heap.size ≤ gb132)); have n5_ := Aside0.mk ((by rw [hg]; exact Nat.ne_of_lt (blk_lt (g := gb131) (o := .cells #[.bool true, .bool a1_1, .bool a1_2] 36 (0, 0)) (by (with_reducible repeat (first | refine blk_drewN ?_ _ | refine blk_drew ?_ | refine blk_alloc ?_ _)); exact BK131.out)) : gb131 ≠ gb132)); have n6_ := Aside0.mk ((by rw [hg]; exact Nat.ne_of_gt (blk_lt (g := gb131) (o := .cells #[.bool true, .bool a1_1, .bool a1_2] 36 (0, 0)) (by (with_reducible repeat (first | refine blk_drewN ?_ _ | refine blk_drew ?_ | refine blk_alloc ?_ _)); exact BK131.out)) : gb132 ≠ gb131)); clear BK131; clear HB; have BK131 := n0_; have HB := n1_; have BK132 := n2_; have GW132 := n3_; have GE132 := n4_; have NB131_132 := n5_; have NB132_131 := n6_; clear n0_ n1_ n2_ n3_ n4_ n5_ n6_; clear hb hbox hg; have hnb25 := NB131_132.out; have hnc25 := NB132_131.out; have hcz26_0 : w24.cell? ⟨gb131, 0, none⟩ = some (.bool true) := (blk_cell BK131.out 0).trans rfl; have hcz26_1 : w24.cell? ⟨gb131, 1, none⟩ = some (.bool a1_1) := (blk_cell BK131.out 1).trans rfl; have hcz26_2 : w24.cell? ⟨gb131, 2, none⟩ = some (.bool a1_2) := (blk_cell BK131.out 2).trans rfl; have hfz26_0 := blk_frozen BK131.out 0; have hfz26_1 := blk_frozen BK131.out 1; have hfz26_2 := blk_frozen BK131.out 2; have hcz27_0 : w24.cell? ⟨gb132, 0, none⟩ = some (.bool false) := (blk_cell BK132.out 0).trans rfl; have hcz27_1 : w24.cell? ⟨gb132, 1, none⟩ = some (.bool false) := (blk_cell BK132.out 1).trans rfl; have hcz27_2 : w24.cell? ⟨gb132, 2, none⟩ = some (.bool false) := (blk_cell BK132.out 2).trans rfl; have hfz27_0 := blk_frozen BK132.out 0; have hfz27_1 := blk_frozen BK132.out 1; have hfz27_2 := blk_frozen BK132.out 2))
     refine bodyPost_ret (results_cell_row rfl _ _ gb132 36 #[.bool true, .bool a1_1, .bool false] (0, 0) _ rfl (by (with_reducible repeat (first | refine blk_drewN ?_ _ | refine blk_drew ?_ | refine blk_alloc ?_ _)); refine blk_put (cs := #[.bool true, .bool a1_1, .bool false]) ?_ 2 _ rfl; (with_reducible repeat (first | refine blk_drewN ?_ _ | refine blk_drew ?_ | refine blk_alloc ?_ _)); refine blk_put (cs := #[.bool true, .bool false, .bool false]) ?_ 1 _ rfl; (with_reducible repeat (first | refine blk_drewN ?_ _ | refine blk_drew ?_ | refine blk_alloc ?_ _)); refine blk_put (cs := #[.bool false, .bool false, .bool false]) ?_ 0 _ rfl; (with_reducible repeat (first | refine blk_drewN ?_ _ | refine blk_drew ?_ | refine blk_alloc ?_ _)); exact BK132.out) Try.underlying36 rfl (by kernel_rfl)) rfl ?_
     exact ⟨by first | rfl | (simp [errW_none, errW_some] <;> rfl) | (simp [*, errW_none, errW_some] <;> rfl), by repeat (first | (with_reducible first | exact HB.out | apply below_alloc | apply pw_below_drewN | apply below_drew1 | refine below_set ?_ GE131.out | refine below_set ?_ GE132.out) | exact HB.out)⟩
    ·
     replace c22 := Bool.eq_false_iff.mpr c22
     subst c22
     have H1 : (some (a1_2, a1_1, false)) = some (r1, r2, r3) := by rw [if_neg (show ¬ (false = true) by decide)] at H; exact H
     clear H
     have H := H1
     clear H1
     simp only [Option.some.injEq, Prod.mk.injEq] at H
     obtain ⟨rfl, rfl, rfl⟩ := H
     go_enter Try.func33, Try.ntmps33
     go_wp2_with (first | ((with_reducible refine gate_dst (N := 3) rfl ?_); refine box_event ?hg (N := 3) ?hd (cs := #[.bool false, .bool a1_1, .bool a1_2]) (t := 36) ?hr ?_; (case hd => rfl); (case hg => rfl); (case hr => first | (go_simp; done) | (go_simp; rfl)); intro gb131 hg w28 hbox hb; have n0_ := Aside0.mk (below_step (by repeat (first | (with_reducible first | exact HB.out | apply below_alloc | apply pw_below_drewN | apply below_drew1) | exact HB.out)) hb); have n1_ := Aside0.mk (hbox); have n2_ := Aside0.mk ((by rw [hg]; exact (below_size (by repeat (first | (with_reducible first | exact HB.out | apply below_alloc | apply pw_below_drewN | apply below_drew1) | exact HB.out))) : w.heap.size ≤ gb131)); have n3_ := Aside0.mk ((by rw [hg]; exact (below_size (by repeat (first | (with_reducible first | exact HB.out | apply below_alloc | apply pw_below_drewN | apply below_drew1) | exact HB.out))) : w.heap.size ≤ gb131)); clear HB; have HB := n0_; have BK131 := n1_; have GW131 := n2_; have GE131 := n3_; clear n0_ n1_ n2_ n3_; clear hb hbox hg) | ((with_reducible refine gate_dst (N := 4) rfl ?_); refine box_event ?hg (N := 4) ?hd (cs := #[.bool false, .bool false, .bool false]) (t := 36) ?hr ?_; (case hd => rfl); (case hg => rfl); (case hr => first | (go_simp; done) | (go_simp; rfl)); intro gb132 hg w29 hbox hb; have n0_ := Aside0.mk (blk_below (g := gb131) (o := .cells #[.bool false, .bool a1_1, .bool a1_2] 36 (0, 0)) (by (with_reducible repeat (first | refine blk_drewN ?_ _ | refine blk_drew ?_ | refine blk_alloc ?_ _)); exact BK131.out) hb); have n1_ := Aside0.mk (below_step (by repeat (first | (with_reducible first | exact HB.out | apply below_alloc | apply pw_below_drewN | apply below_drew1 | refine below_set ?_ GE131.out) | exact HB.out)) hb); have n2_ := Aside0.mk (hbox); have n3_ := Aside0.mk ((by rw [hg]; exact (below_size (by repeat (first | (with_reducible first | exact HB.out | apply below_alloc | apply pw_below_drewN | apply below_drew1 | refine below_set ?_ GE131.out) | exact HB.out))) : w.heap.size ≤ gb132)); have n4_ := Aside0.mk ((by rw [hg]; exact (below_size (by repeat (first | (with_reducible first | exact HB.out | apply below_alloc | apply pw_below_drewN | apply below_drew1 | refine below_set ?_ GE131.out) | exact HB.out))) : w.heap.size ≤ gb132)); have n5_ := Aside0.mk ((by rw [hg]; exact Nat.ne_of_lt (blk_lt (g := gb131) (o := .cells #[.bool false, .bool a1_1, .bool a1_2] 36 (0, 0)) (by (with_reducible repeat (first | refine blk_drewN ?_ _ | refine blk_drew ?_ | refine blk_alloc ?_ _)); exact BK131.out)) : gb131 ≠ gb132)); have n6_ := Aside0.mk ((by rw [hg]; exact Nat.ne_of_gt (blk_lt (g := gb131) (o := .cells #[.bool false, .bool a1_1, .bool a1_2] 36 (0, 0)) (by (with_reducible repeat (first | refine blk_drewN ?_ _ | refine blk_drew ?_ | refine blk_alloc ?_ _)); exact BK131.out)) : gb132 ≠ gb131)); clear BK131; clear HB; have BK131 := n0_; have HB := n1_; have BK132 := n2_; have GW132 := n3_; have GE132 := n4_; have NB131_132 := n5_; have NB132_131 := n6_; clear n0_ n1_ n2_ n3_ n4_ n5_ n6_; clear hb hbox hg; have hnb30 := NB131_132.out; have hnc30 := NB132_131.out; have hcz31_0 : w29.cell? ⟨gb131, 0, none⟩ = some (.bool false) := (blk_cell BK131.out 0).trans rfl; have hcz31_1 : w29.cell? ⟨gb131, 1, none⟩ = some (.bool a1_1) := (blk_cell BK131.out 1).trans rfl; have hcz31_2 : w29.cell? ⟨gb131, 2, none⟩ = some (.bool a1_2) := (blk_cell BK131.out 2).trans rfl; have hfz31_0 := blk_frozen BK131.out 0; have hfz31_1 := blk_frozen BK131.out 1; have hfz31_2 := blk_frozen BK131.out 2; have hcz32_0 : w29.cell? ⟨gb132, 0, none⟩ = some (.bool false) := (blk_cell BK132.out 0).trans rfl; have hcz32_1 : w29.cell? ⟨gb132, 1, none⟩ = some (.bool false) := (blk_cell BK132.out 1).trans rfl; have hcz32_2 : w29.cell? ⟨gb132, 2, none⟩ = some (.bool false) := (blk_cell BK132.out 2).trans rfl; have hfz32_0 := blk_frozen BK132.out 0; have hfz32_1 := blk_frozen BK132.out 1; have hfz32_2 := blk_frozen BK132.out 2))
     refine bodyPost_ret (results_cell_row rfl _ _ gb132 36 #[.bool a1_2, .bool a1_1, .bool false] (0, 0) _ rfl (by (with_reducible repeat (first | refine blk_drewN ?_ _ | refine blk_drew ?_ | refine blk_alloc ?_ _)); refine blk_put (cs := #[.bool a1_2, .bool a1_1, .bool false]) ?_ 2 _ rfl; (with_reducible repeat (first | refine blk_drewN ?_ _ | refine blk_drew ?_ | refine blk_alloc ?_ _)); refine blk_put (cs := #[.bool a1_2, .bool false, .bool false]) ?_ 1 _ rfl; (with_reducible repeat (first | refine blk_drewN ?_ _ | refine blk_drew ?_ | refine blk_alloc ?_ _)); refine blk_put (cs := #[.bool false, .bool false, .bool false]) ?_ 0 _ rfl; (with_reducible repeat (first | refine blk_drewN ?_ _ | refine blk_drew ?_ | refine blk_alloc ?_ _)); exact BK132.out) Try.underlying36 rfl (by kernel_rfl)) rfl ?_
     exact ⟨by first | rfl | (simp [errW_none, errW_some] <;> rfl) | (simp [*, errW_none, errW_some] <;> rfl), by repeat (first | (with_reducible first | exact HB.out | apply below_alloc | apply pw_below_drewN | apply below_drew1 | refine below_set ?_ GE131.out | refine below_set ?_ GE132.out) | exact HB.out)⟩
   ·
    rw [if_neg c21] at H
    have c21b0 : (a0 == 7) = false := beq_eq_false_iff_ne.mpr c21
    have c21b1 : (a0 != 7) = true := bne_iff_ne.mpr c21
    by_cases c33 : a0 = 8
    ·
     rw [if_pos c33] at H
     have c33b0 : (a0 == 8) = true := beq_iff_eq.mpr c33
     have c33b1 : (a0 != 8) = false := bne_eq_false_iff_eq.mpr c33
     clear c33
     replace H := Option.bind_eq_some_iff.mp H
     obtain ⟨t133, A340, H⟩ := H
     replace H : (some (t133, false, a1_2)) = some (r1, r2, r3) := H
     have A34 := Aside0.mk A340
     clear A340
     simp only [Option.some.injEq, Prod.mk.injEq] at H
     obtain ⟨rfl, rfl, rfl⟩ := H
     go_enter Try.func33, Try.ntmps33
     try go_wp2_with (first | ((with_reducible refine gate_dst (N := 3) rfl ?_); refine box_event ?hg (N := 3) ?hd (cs := #[.bool a1_0, .bool a1_1, .bool a1_2]) (t := 36) ?hr ?_; (case hd => rfl); (case hg => rfl); (case hr => first | (go_simp; done) | (go_simp; rfl)); intro gb131 hg w35 hbox hb; have n0_ := Aside0.mk (below_step (by repeat (first | (with_reducible first | exact HB.out | apply below_alloc | apply pw_below_drewN | apply below_drew1) | exact HB.out)) hb); have n1_ := Aside0.mk (hbox); have n2_ := Aside0.mk ((by rw [hg]; exact (below_size (by repeat (first | (with_reducible first | exact HB.out | apply below_alloc | apply pw_below_drewN | apply below_drew1) | exact HB.out))) : w.heap.size ≤ gb131)); have n3_ := Aside0.mk ((by rw [hg]; exact (below_size (by repeat (first | (with_reducible first | exact HB.out | apply below_alloc | apply pw_below_drewN | apply below_drew1) | exact HB.out))) : w.heap.size ≤ gb131)); clear HB; have HB := n0_; have BK131 := n1_; have GW131 := n2_; have GE131 := n3_; clear n0_ n1_ n2_ n3_; clear hb hbox hg) | ((with_reducible refine gate_dst (N := 4) rfl ?_); refine box_event ?hg (N := 4) ?hd (cs := #[.bool false, .bool false, .bool false]) (t := 36) ?hr ?_; (case hd => rfl); (case hg => rfl); (case hr => first | (go_simp; done) | (go_simp; rfl)); intro gb132 hg w36 hbox hb; have n0_ := Aside0.mk (blk_below (g := gb131) (o := .cells #[.bool a1_0, .bool a1_1, .bool a1_2] 36 (0, 0)) (by (with_reducible repeat (first | refine blk_drewN ?_ _ | refine blk_drew ?_ | refine blk_alloc ?_ _)); exact BK131.out) hb); have n1_ := Aside0.mk (below_step (by repeat (first | (with_reducible first | exact HB.out | apply below_alloc | apply pw_below_drewN | apply below_drew1 | refine below_set ?_ GE131.out) | exact HB.out)) hb); have n2_ := Aside0.mk (hbox); have n3_ := Aside0.mk ((by rw [hg]; exact (below_size (by repeat (first | (with_reducible first | exact HB.out | apply below_alloc | apply pw_below_drewN | apply below_drew1 | refine below_set ?_ GE131.out) | exact HB.out))) : w.heap.size ≤ gb132)); have n4_ := Aside0.mk ((by rw [hg]; exact (below_size (by repeat (first | (with_reducible first | exact HB.out | apply below_alloc | apply pw_below_drewN | apply below_drew1 | refine below_set ?_ GE131.out) | exact HB.out))) : w.heap.size ≤ gb132)); have n5_ := Aside0.mk ((by rw [hg]; exact Nat.ne_of_lt (blk_lt (g := gb131) (o := .cells #[.bool a1_0, .bool a1_1, .bool a1_2] 36 (0, 0)) (by (with_reducible repeat (first | refine blk_drewN ?_ _ | refine blk_drew ?_ | refine blk_alloc ?_ _)); exact BK131.out)) : gb131 ≠ gb132)); have n6_ := Aside0.mk ((by rw [hg]; exact Nat.ne_of_gt (blk_lt (g := gb131) (o := .cells #[.bool a1_0, .bool a1_1, .bool a1_2] 36 (0, 0)) (by (with_reducible repeat (first | refine blk_drewN ?_ _ | refine blk_drew ?_ | refine blk_alloc ?_ _)); exact BK131.out)) : gb132 ≠ gb131)); clear BK131; clear HB; have BK131 := n0_; have HB := n1_; have BK132 := n2_; have GW132 := n3_; have GE132 := n4_; have NB131_132 := n5_; have NB132_131 := n6_; clear n0_ n1_ n2_ n3_ n4_ n5_ n6_; clear hb hbox hg))
     have n0_ := Aside0.mk (blk_drew BK131.out)
     have n1_ := Aside0.mk (blk_drew BK132.out)
     have n2_ := Aside0.mk (below_drew1 HB.out)
     clear BK131
     clear BK132
     clear HB
     have BK131 := n0_
     have BK132 := n1_
     have HB := n2_
     clear n0_ n1_ n2_
     refine start_ (n := 6) (S := fun w' => w'.cell? ⟨gb131, 0, none⟩ = some (.bool a1_0) ∧ w'.cell? ⟨gb131, 1, none⟩ = some (.bool a1_1) ∧ w'.cell? ⟨gb131, 2, none⟩ = some (.bool a1_2)) (ds := []) #[false, false, false, false, false, false] (by kernel_rfl) rfl rfl ⟨(blk_cell BK131.out 0).trans rfl, (blk_cell BK131.out 1).trans rfl, (blk_cell BK131.out 2).trans rfl⟩ (fun hHeld => ?_)
     generalize w36.drew = w37 at BK131 BK132 HB hHeld ⊢
     refine pure_ (i := 2) (N := some 41) (v := ?_) (a' := ?_) #[false, false, true, false, false, false] rfl rfl (by kernel_rfl) (fun _ _ _ h => h) (Or.inl ⟨by rfl, ?_⟩) ?_ ?_
     rotate_left
     ·
      intro w'
      go_simp
      with_reducible rfl
     rotate_left
     ·
      simp only [Act.put, List.setIfInBounds_toArray, List.set_cons_zero, List.set_cons_succ, i64_w, i32_w]
      rfl
     refine take_ (i := 0) (N := some 39) (v := ?_) (a' := ?_) #[true, false, true, false, false, false] rfl rfl (by kernel_rfl) (fun _ _ _ h => h) (Or.inl ⟨by rfl, ?_⟩) hHeld ?_ ?_
     rotate_left
     ·
      rintro w' ⟨s0, s1, s2⟩
      go_simp
      with_reducible rfl
     rotate_left
     ·
      simp only [Act.put, List.setIfInBounds_toArray, List.set_cons_zero, List.set_cons_succ, i64_w, i32_w]
      rfl
     refine take_ (i := 3) (N := some 42) (v := ?_) (a' := ?_) #[true, false, true, true, false, false] rfl rfl (by kernel_rfl) (fun _ _ _ h => h) (Or.inl ⟨by rfl, ?_⟩) hHeld ?_ ?_
     rotate_left
     ·
      rintro w' ⟨s0, s1, s2⟩
      go_simp
      with_reducible rfl
     rotate_left
     ·
      simp only [Act.put, List.setIfInBounds_toArray, List.set_cons_zero, List.set_cons_succ, i64_w, i32_w]
      rfl
     refine one_ (i := 1) (N := some 40) #[true, true, true, true, false, false] rfl rfl (by kernel_rfl) (by decide) (fun K hK => ?_)
     refine goes_ Try.func40 (by kernel_rfl) rfl #[.agg #[.bool a1_0, .bool a1_1, .bool a1_2]] (by rfl) rfl rfl (by (try simp only [List.map_toArray, List.map_cons, List.map_nil]); first | done | rfl | (simp only [List.length_drop, List.length_take]; rfl)) ?_
     with_reducible refine (flow_Facts_ok.calls a1_0 a1_1 a1_2 t133 _ A34.out).mono ?_
     rintro e w38 ⟨rfl, hb⟩
     refine ⟨_, rfl, ?_⟩
     have n0_ := Aside0.mk (blk_below (g := gb131) (o := .cells #[.bool a1_0, .bool a1_1, .bool a1_2] 36 (0, 0)) (by (with_reducible repeat (first | refine blk_drewN ?_ _ | refine blk_drew ?_ | refine blk_alloc ?_ _)); exact BK131.out) hb)
     have n1_ := Aside0.mk (blk_below (g := gb132) (o := .cells #[.bool false, .bool false, .bool false] 36 (0, 0)) (by (with_reducible repeat (first | refine blk_drewN ?_ _ | refine blk_drew ?_ | refine blk_alloc ?_ _)); exact BK132.out) hb)
     have n2_ := Aside0.mk (below_step (by repeat (first | (with_reducible first | exact HB.out | apply below_alloc | apply pw_below_drewN | apply below_drew1 | refine below_set ?_ GE131.out | refine below_set ?_ GE132.out) | exact HB.out)) hb)
     clear BK131
     clear BK132
     clear HB
     have BK131 := n0_
     have BK132 := n1_
     have HB := n2_
     clear n0_ n1_ n2_
     (try clear hb)
     (try clear hb2)
     (try clear hk)
     (try clear hi)
     refine hK.out _ _ ⟨(blk_cell BK131.out 0).trans rfl, (blk_cell BK131.out 1).trans rfl, (blk_cell BK131.out 2).trans rfl⟩ (fun hHeld => ?_)
     clear hK K
     refine norm_ (a' := ?_) ?_ ?_
     rotate_left
     ·
      show Act.put _ (some 40) _ = _
      simp only [Act.put, List.setIfInBounds_toArray, List.set_cons_zero, List.set_cons_succ, i64_w, i32_w]
      rfl
     refine pure_ (i := 4) (N := some 43) (v := ?_) (a' := ?_) #[true, true, true, true, true, false] rfl rfl (by kernel_rfl) (fun _ _ _ h => h) (Or.inl ⟨by rfl, ?_⟩) ?_ ?_
     rotate_left
     ·
      intro w'
      go_simp
      with_reducible rfl
     rotate_left
     ·
      simp only [Act.put, List.setIfInBounds_toArray, List.set_cons_zero, List.set_cons_succ, i64_w, i32_w]
      rfl
     refine one_ (i := 5) (N := none) #[true, true, true, true, true, true] rfl rfl (by kernel_rfl) (by decide) (fun K hK => ?_)
     have hs39 : w38.cell? ⟨gb132, 0, none⟩ = some (.bool false) := (blk_cell BK132.out 0).trans rfl
     have hfs39 := blk_frozen BK132.out 0
     have hns39_0 := NB131_132.out
     have hms39_0 := NB132_131.out
     have hs40 : w38.cell? ⟨gb132, 1, none⟩ = some (.bool false) := (blk_cell BK132.out 1).trans rfl
     have hfs40 := blk_frozen BK132.out 1
     have hns40_0 := NB131_132.out
     have hms40_0 := NB132_131.out
     have hs41 : w38.cell? ⟨gb132, 2, none⟩ = some (.bool false) := (blk_cell BK132.out 2).trans rfl
     have hfs41 := blk_frozen BK132.out 2
     have hns41_0 := NB131_132.out
     have hms41_0 := NB132_131.out
     refine skip_ (w1 := ?_) (by rfl) rfl ?_ ?_
     rotate_left
     ·
      go_simp
      rfl
     refine hK.out _ _ ⟨((cell_far (p := ⟨gb132, _, none⟩) NB131_132.out _).trans (((cell_far (p := ⟨gb132, _, none⟩) NB131_132.out _).trans (((cell_far (p := ⟨gb132, _, none⟩) NB131_132.out _).trans (hHeld.1)))))), ((cell_far (p := ⟨gb132, _, none⟩) NB131_132.out _).trans (((cell_far (p := ⟨gb132, _, none⟩) NB131_132.out _).trans (((cell_far (p := ⟨gb132, _, none⟩) NB131_132.out _).trans (hHeld.2.1)))))), ((cell_far (p := ⟨gb132, _, none⟩) NB131_132.out _).trans (((cell_far (p := ⟨gb132, _, none⟩) NB131_132.out _).trans (((cell_far (p := ⟨gb132, _, none⟩) NB131_132.out _).trans (hHeld.2.2))))))⟩ (fun hHeld => ?_)
     clear hK K
     refine done_ (by kernel_rfl) ?_
     try go_wp2
     refine bodyPost_ret (results_cell_row rfl _ _ gb132 36 #[.bool t133, .bool false, .bool a1_2] (0, 0) _ rfl (by (with_reducible repeat (first | refine blk_drewN ?_ _ | refine blk_drew ?_ | refine blk_alloc ?_ _)); refine blk_put (cs := #[.bool t133, .bool false, .bool false]) ?_ 2 _ rfl; (with_reducible repeat (first | refine blk_drewN ?_ _ | refine blk_drew ?_ | refine blk_alloc ?_ _)); refine blk_put (cs := #[.bool t133, .bool false, .bool false]) ?_ 1 _ rfl; (with_reducible repeat (first | refine blk_drewN ?_ _ | refine blk_drew ?_ | refine blk_alloc ?_ _)); refine blk_put (cs := #[.bool false, .bool false, .bool false]) ?_ 0 _ rfl; (with_reducible repeat (first | refine blk_drewN ?_ _ | refine blk_drew ?_ | refine blk_alloc ?_ _)); exact BK132.out) Try.underlying36 rfl (by kernel_rfl)) rfl ?_
     exact ⟨by first | rfl | (simp [errW_none, errW_some] <;> rfl) | (simp [*, errW_none, errW_some] <;> rfl), by repeat (first | (with_reducible first | exact HB.out | apply below_alloc | apply pw_below_drewN | apply below_drew1 | refine below_set ?_ GE131.out | refine below_set ?_ GE132.out) | exact HB.out)⟩
    ·
     rw [if_neg c33] at H
     have c33b0 : (a0 == 8) = false := beq_eq_false_iff_ne.mpr c33
     have c33b1 : (a0 != 8) = true := bne_iff_ne.mpr c33
     replace H := Option.bind_eq_some_iff.mp H
     obtain ⟨t134, A420, H⟩ := H
     replace H : (some (a1_2, false, t134)) = some (r1, r2, r3) := H
     have A42 := Aside0.mk A420
     clear A420
     simp only [Option.some.injEq, Prod.mk.injEq] at H
     obtain ⟨rfl, rfl, rfl⟩ := H
     go_enter Try.func33, Try.ntmps33
     try go_wp2_with (first | ((with_reducible refine gate_dst (N := 3) rfl ?_); refine box_event ?hg (N := 3) ?hd (cs := #[.bool a1_0, .bool a1_1, .bool a1_2]) (t := 36) ?hr ?_; (case hd => rfl); (case hg => rfl); (case hr => first | (go_simp; done) | (go_simp; rfl)); intro gb131 hg w43 hbox hb; have n0_ := Aside0.mk (below_step (by repeat (first | (with_reducible first | exact HB.out | apply below_alloc | apply pw_below_drewN | apply below_drew1) | exact HB.out)) hb); have n1_ := Aside0.mk (hbox); have n2_ := Aside0.mk ((by rw [hg]; exact (below_size (by repeat (first | (with_reducible first | exact HB.out | apply below_alloc | apply pw_below_drewN | apply below_drew1) | exact HB.out))) : w.heap.size ≤ gb131)); have n3_ := Aside0.mk ((by rw [hg]; exact (below_size (by repeat (first | (with_reducible first | exact HB.out | apply below_alloc | apply pw_below_drewN | apply below_drew1) | exact HB.out))) : w.heap.size ≤ gb131)); clear HB; have HB := n0_; have BK131 := n1_; have GW131 := n2_; have GE131 := n3_; clear n0_ n1_ n2_ n3_; clear hb hbox hg) | ((with_reducible refine gate_dst (N := 4) rfl ?_); refine box_event ?hg (N := 4) ?hd (cs := #[.bool false, .bool false, .bool false]) (t := 36) ?hr ?_; (case hd => rfl); (case hg => rfl); (case hr => first | (go_simp; done) | (go_simp; rfl)); intro gb132 hg w44 hbox hb; have n0_ := Aside0.mk (blk_below (g := gb131) (o := .cells #[.bool a1_0, .bool a1_1, .bool a1_2] 36 (0, 0)) (by (with_reducible repeat (first | refine blk_drewN ?_ _ | refine blk_drew ?_ | refine blk_alloc ?_ _)); exact BK131.out) hb); have n1_ := Aside0.mk (below_step (by repeat (first | (with_reducible first | exact HB.out | apply below_alloc | apply pw_below_drewN | apply below_drew1 | refine below_set ?_ GE131.out) | exact HB.out)) hb); have n2_ := Aside0.mk (hbox); have n3_ := Aside0.mk ((by rw [hg]; exact (below_size (by repeat (first | (with_reducible first | exact HB.out | apply below_alloc | apply pw_below_drewN | apply below_drew1 | refine below_set ?_ GE131.out) | exact HB.out))) : w.heap.size ≤ gb132)); have n4_ := Aside0.mk ((by rw [hg]; exact (below_size (by repeat (first | (with_reducible first | exact HB.out | apply below_alloc | apply pw_below_drewN | apply below_drew1 | refine below_set ?_ GE131.out) | exact HB.out))) : w.heap.size ≤ gb132)); have n5_ := Aside0.mk ((by rw [hg]; exact Nat.ne_of_lt (blk_lt (g := gb131) (o := .cells #[.bool a1_0, .bool a1_1, .bool a1_2] 36 (0, 0)) (by (with_reducible repeat (first | refine blk_drewN ?_ _ | refine blk_drew ?_ | refine blk_alloc ?_ _)); exact BK131.out)) : gb131 ≠ gb132)); have n6_ := Aside0.mk ((by rw [hg]; exact Nat.ne_of_gt (blk_lt (g := gb131) (o := .cells #[.bool a1_0, .bool a1_1, .bool a1_2] 36 (0, 0)) (by (with_reducible repeat (first | refine blk_drewN ?_ _ | refine blk_drew ?_ | refine blk_alloc ?_ _)); exact BK131.out)) : gb132 ≠ gb131)); clear BK131; clear HB; have BK131 := n0_; have HB := n1_; have BK132 := n2_; have GW132 := n3_; have GE132 := n4_; have NB131_132 := n5_; have NB132_131 := n6_; clear n0_ n1_ n2_ n3_ n4_ n5_ n6_; clear hb hbox hg))
     have n0_ := Aside0.mk (blk_drew BK131.out)
     have n1_ := Aside0.mk (blk_drew BK132.out)
     have n2_ := Aside0.mk (below_drew1 HB.out)
     clear BK131
     clear BK132
     clear HB
     have BK131 := n0_
     have BK132 := n1_
     have HB := n2_
     clear n0_ n1_ n2_
     refine start_ (n := 6) (S := fun w' => w'.cell? ⟨gb131, 0, none⟩ = some (.bool a1_0) ∧ w'.cell? ⟨gb131, 1, none⟩ = some (.bool a1_1) ∧ w'.cell? ⟨gb131, 2, none⟩ = some (.bool a1_2)) (ds := []) #[false, false, false, false, false, false] (by kernel_rfl) rfl rfl ⟨(blk_cell BK131.out 0).trans rfl, (blk_cell BK131.out 1).trans rfl, (blk_cell BK131.out 2).trans rfl⟩ (fun hHeld => ?_)
     generalize w44.drew = w45 at BK131 BK132 HB hHeld ⊢
     refine pure_ (i := 0) (N := some 44) (v := ?_) (a' := ?_) #[true, false, false, false, false, false] rfl rfl (by kernel_rfl) (fun _ _ _ h => h) (Or.inl ⟨by rfl, ?_⟩) ?_ ?_
     rotate_left
     ·
      intro w'
      go_simp
      with_reducible rfl
     rotate_left
     ·
      simp only [Act.put, List.setIfInBounds_toArray, List.set_cons_zero, List.set_cons_succ, i64_w, i32_w]
      rfl
     refine take_ (i := 1) (N := some 45) (v := ?_) (a' := ?_) #[true, true, false, false, false, false] rfl rfl (by kernel_rfl) (fun _ _ _ h => h) (Or.inl ⟨by rfl, ?_⟩) hHeld ?_ ?_
     rotate_left
     ·
      rintro w' ⟨s0, s1, s2⟩
      go_simp
      with_reducible rfl
     rotate_left
     ·
      simp only [Act.put, List.setIfInBounds_toArray, List.set_cons_zero, List.set_cons_succ, i64_w, i32_w]
      rfl
     refine take_ (i := 2) (N := some 46) (v := ?_) (a' := ?_) #[true, true, true, false, false, false] rfl rfl (by kernel_rfl) (fun _ _ _ h => h) (Or.inl ⟨by rfl, ?_⟩) hHeld ?_ ?_
     rotate_left
     ·
      rintro w' ⟨s0, s1, s2⟩
      go_simp
      with_reducible rfl
     rotate_left
     ·
      simp only [Act.put, List.setIfInBounds_toArray, List.set_cons_zero, List.set_cons_succ, i64_w, i32_w]
      rfl
     refine one_ (i := 3) (N := some 47) #[true, true, true, true, false, false] rfl rfl (by kernel_rfl) (by decide) (fun K hK => ?_)
     refine goes_ Try.func40 (by kernel_rfl) rfl #[.agg #[.bool a1_0, .bool a1_1, .bool a1_2]] (by rfl) rfl rfl (by (try simp only [List.map_toArray, List.map_cons, List.map_nil]); first | done | rfl | (simp only [List.length_drop, List.length_take]; rfl)) ?_
     with_reducible refine (flow_Facts_ok.calls a1_0 a1_1 a1_2 t134 _ A42.out).mono ?_
     rintro e w46 ⟨rfl, hb⟩
     refine ⟨_, rfl, ?_⟩
     have n0_ := Aside0.mk (blk_below (g := gb131) (o := .cells #[.bool a1_0, .bool a1_1, .bool a1_2] 36 (0, 0)) (by (with_reducible repeat (first | refine blk_drewN ?_ _ | refine blk_drew ?_ | refine blk_alloc ?_ _)); exact BK131.out) hb)
     have n1_ := Aside0.mk (blk_below (g := gb132) (o := .cells #[.bool false, .bool false, .bool false] 36 (0, 0)) (by (with_reducible repeat (first | refine blk_drewN ?_ _ | refine blk_drew ?_ | refine blk_alloc ?_ _)); exact BK132.out) hb)
     have n2_ := Aside0.mk (below_step (by repeat (first | (with_reducible first | exact HB.out | apply below_alloc | apply pw_below_drewN | apply below_drew1 | refine below_set ?_ GE131.out | refine below_set ?_ GE132.out) | exact HB.out)) hb)
     clear BK131
     clear BK132
     clear HB
     have BK131 := n0_
     have BK132 := n1_
     have HB := n2_
     clear n0_ n1_ n2_
     (try clear hb)
     (try clear hb2)
     (try clear hk)
     (try clear hi)
     refine hK.out _ _ ⟨(blk_cell BK131.out 0).trans rfl, (blk_cell BK131.out 1).trans rfl, (blk_cell BK131.out 2).trans rfl⟩ (fun hHeld => ?_)
     clear hK K
     refine norm_ (a' := ?_) ?_ ?_
     rotate_left
     ·
      show Act.put _ (some 47) _ = _
      simp only [Act.put, List.setIfInBounds_toArray, List.set_cons_zero, List.set_cons_succ, i64_w, i32_w]
      rfl
     refine pure_ (i := 4) (N := some 48) (v := ?_) (a' := ?_) #[true, true, true, true, true, false] rfl rfl (by kernel_rfl) (fun _ _ _ h => h) (Or.inl ⟨by rfl, ?_⟩) ?_ ?_
     rotate_left
     ·
      intro w'
      go_simp
      with_reducible rfl
     rotate_left
     ·
      simp only [Act.put, List.setIfInBounds_toArray, List.set_cons_zero, List.set_cons_succ, i64_w, i32_w]
      rfl
     refine one_ (i := 5) (N := none) #[true, true, true, true, true, true] rfl rfl (by kernel_rfl) (by decide) (fun K hK => ?_)
     have hs47 : w46.cell? ⟨gb132, 0, none⟩ = some (.bool false) := (blk_cell BK132.out 0).trans rfl
     have hfs47 := blk_frozen BK132.out 0
     have hns47_0 := NB131_132.out
     have hms47_0 := NB132_131.out
     have hs48 : w46.cell? ⟨gb132, 1, none⟩ = some (.bool false) := (blk_cell BK132.out 1).trans rfl
     have hfs48 := blk_frozen BK132.out 1
     have hns48_0 := NB131_132.out
     have hms48_0 := NB132_131.out
     have hs49 : w46.cell? ⟨gb132, 2, none⟩ = some (.bool false) := (blk_cell BK132.out 2).trans rfl
     have hfs49 := blk_frozen BK132.out 2
     have hns49_0 := NB131_132.out
     have hms49_0 := NB132_131.out
     refine skip_ (w1 := ?_) (by rfl) rfl ?_ ?_
     rotate_left
     ·
      go_simp
      rfl
     refine hK.out _ _ ⟨((cell_far (p := ⟨gb132, _, none⟩) NB131_132.out _).trans (((cell_far (p := ⟨gb132, _, none⟩) NB131_132.out _).trans (((cell_far (p := ⟨gb132, _, none⟩) NB131_132.out _).trans (hHeld.1)))))), ((cell_far (p := ⟨gb132, _, none⟩) NB131_132.out _).trans (((cell_far (p := ⟨gb132, _, none⟩) NB131_132.out _).trans (((cell_far (p := ⟨gb132, _, none⟩) NB131_132.out _).trans (hHeld.2.1)))))), ((cell_far (p := ⟨gb132, _, none⟩) NB131_132.out _).trans (((cell_far (p := ⟨gb132, _, none⟩) NB131_132.out _).trans (((cell_far (p := ⟨gb132, _, none⟩) NB131_132.out _).trans (hHeld.2.2))))))⟩ (fun hHeld => ?_)
     clear hK K
     refine done_ (by kernel_rfl) ?_
     try go_wp2
     refine bodyPost_ret (results_cell_row rfl _ _ gb132 36 #[.bool a1_2, .bool false, .bool t134] (0, 0) _ rfl (by (with_reducible repeat (first | refine blk_drewN ?_ _ | refine blk_drew ?_ | refine blk_alloc ?_ _)); refine blk_put (cs := #[.bool a1_2, .bool false, .bool false]) ?_ 2 _ rfl; (with_reducible repeat (first | refine blk_drewN ?_ _ | refine blk_drew ?_ | refine blk_alloc ?_ _)); refine blk_put (cs := #[.bool a1_2, .bool false, .bool false]) ?_ 1 _ rfl; (with_reducible repeat (first | refine blk_drewN ?_ _ | refine blk_drew ?_ | refine blk_alloc ?_ _)); refine blk_put (cs := #[.bool false, .bool false, .bool false]) ?_ 0 _ rfl; (with_reducible repeat (first | refine blk_drewN ?_ _ | refine blk_drew ?_ | refine blk_alloc ?_ _)); exact BK132.out) Try.underlying36 rfl (by kernel_rfl)) rfl ?_
     exact ⟨by first | rfl | (simp [errW_none, errW_some] <;> rfl) | (simp [*, errW_none, errW_some] <;> rfl), by repeat (first | (with_reducible first | exact HB.out | apply below_alloc | apply pw_below_drewN | apply below_drew1 | refine below_set ?_ GE131.out | refine below_set ?_ GE132.out) | exact HB.out)⟩
end Go.Proofs.Ytnaanamibfpbpaa.V
namespace Go.Proofs.Ytnaanamibfpbpaa.V
open Go.RowKit Go.Proofs.YtnaanamibfpbpaaW.PrintWords Go.Proofs.YtnaanamibfpbpaaW.PrintLast Go.Proofs.YtnaanamibfpbpaaW.PrintMore
attribute [local go_sem] max2_int min2_int max_two min_two max_three min_three max_four min_four tdiv_most
set_option linter.unusedVariables false
set_option linter.unusedSimpArgs false
attribute [local go_sem high] eqA50
def flow_node.l0 : Nat → List (S36) → List (S36) → List Int → Int → Int → List (S39) → List (S53) → Int → List Int → Int → Int → Int → Int → Int → Option (Bool × Bool × Bool)
 | 0, _, _, _, _, _, _, _, _, _, _, _, _, _, _ => none
 | k + 1, x2, x8, x17, x18, x19, x136000, x136001, x139000, x139001, x139002, x139003, x139004, x139005, x139006 => if x19 < x18 then (if 0 ≤ x19 then (if x19 < (x17.length : Int) then (if 0 ≤ (rd x17 x19) then (if (rd x17 x19) < (x2.length : Int) then (if x8.length < 46912496118442 then (flow_node.l0 k x2 (x8 ++ [(⟨(rd_T36 x2 (rd x17 x19)).f0, (rd_T36 x2 (rd x17 x19)).f1, (rd_T36 x2 (rd x17 x19)).f2⟩ : S36)]) x17 x18 (wrap64 (x19 + 1)) x136000 x136001 x139000 x139001 x139002 x139003 x139004 x139005 x139006) else (none)) else (none)) else (none)) else (none)) else (none)) else (if x139000 = 0 then (some (true, false, false)) else (if x139000 = 1 then (some (false, (!(x139003 == 0) || (!(x139004 == 0) || (!(x139005 == 0) || (!(x139006 == 0))))), true)) else (if x139000 = 2 then (if 0 ≤ x139002 then (if x139002 < (x136000.length : Int) then (if 0 ≤ ((rd_T39 x136000 x139002).f1) then (if ((rd_T39 x136000 x139002).f1) < (x2.length : Int) then (some ((rd_T36 x2 ((rd_T39 x136000 x139002).f1)).f0, (rd_T36 x2 ((rd_T39 x136000 x139002).f1)).f1, (rd_T36 x2 ((rd_T39 x136000 x139002).f1)).f2)) else (none)) else (none)) else (none)) else (none)) else (if x139000 = 3 then ((flow_seq.f k x8).bind fun bt146 => (some (bt146.1, bt146.2.1, bt146.2.2))) else (if x139000 = 4 then ((flow_choice.f k x8).bind fun bt149 => (some (bt149.1, bt149.2.1, bt149.2.2))) else (if 0 < (x8.length : Int) then ((flow_unary.f x139000 ((rd_T36 x8 0).f0) ((rd_T36 x8 0).f1) ((rd_T36 x8 0).f2)).bind fun bt153 => (some (bt153.1, bt153.2.1, bt153.2.2))) else (none)))))))
def flow_node.f (k : Nat) (l0_0 : List (S39)) (l0_1 : List (S53)) (a1 : Int) (l2 : List (S36)) : Option (Bool × Bool × Bool) := if 0 ≤ a1 then (if a1 < (l0_1.length : Int) then (flow_node.l0 k l2 ([] : List (S36)) ((rd_T53 l0_1 a1).f1) (((rd_T53 l0_1 a1).f1).length : Int) 0 l0_0 l0_1 ((rd_T53 l0_1 a1).f0) ((rd_T53 l0_1 a1).f1) ((rd_T53 l0_1 a1).f2) ((rd_T53 l0_1 a1).f3.f0) ((rd_T53 l0_1 a1).f3.f1) ((rd_T53 l0_1 a1).f3.f2) ((rd_T53 l0_1 a1).f3.f3)) else (none)) else (none)
theorem flow_node.mono_l : ∀ k, (∀ y0 y1 y2 y3 y4 y5 y6 y7 y8 y9 y10 y11 y12 y13, LeO (flow_node.l0 k y0 y1 y2 y3 y4 y5 y6 y7 y8 y9 y10 y11 y12 y13) (flow_node.l0 (k + 1) y0 y1 y2 y3 y4 y5 y6 y7 y8 y9 y10 y11 y12 y13))
 | 0 => fun _ _ _ _ _ _ _ _ _ _ _ _ _ _ r h => by simp [flow_node.l0] at h
 | k + 1 => by
  have ih0 := flow_node.mono_l k
  ·
   intro y0 y1 y2 y3 y4 y5 y6 y7 y8 y9 y10 y11 y12 y13
   unfold flow_node.l0
   repeat' first
   | (with_reducible exact ih0 _ _ _ _ _ _ _ _ _ _ _ _ _ _)
   | (with_reducible exact flow_choice.mono _ _)
   | (with_reducible exact flow_seq.mono _ _)
   | (with_reducible exact LeO.refl _)
   | (with_reducible exact LeO.none _)
   | (with_reducible refine LeO.ite ?_ ?_)
   | (with_reducible refine LeO.bind ?_ (fun _ => ?_))
   | exact ih0 _ _ _ _ _ _ _ _ _ _ _ _ _ _
   | exact flow_choice.mono _ _
   | exact flow_seq.mono _ _
   | exact LeO.none _
   | refine LeO.ite ?_ ?_
   | refine LeO.bind ?_ (fun _ => ?_)
theorem flow_node.mono : ∀ a0 a1 a2 a3 k, LeO (flow_node.f k a0 a1 a2 a3) (flow_node.f (k + 1) a0 a1 a2 a3) := by
 intro a0 a1 a2 a3 k
 have ih0 := flow_node.mono_l k
 unfold flow_node.f
 repeat' first
  | (with_reducible exact ih0 _ _ _ _ _ _ _ _ _ _ _ _ _ _)
  | (with_reducible exact flow_choice.mono _ _)
  | (with_reducible exact flow_seq.mono _ _)
  | (with_reducible exact LeO.refl _)
  | (with_reducible exact LeO.none _)
  | (with_reducible refine LeO.ite ?_ ?_)
  | (with_reducible refine LeO.bind ?_ (fun _ => ?_))
  | exact ih0 _ _ _ _ _ _ _ _ _ _ _ _ _ _
  | exact flow_choice.mono _ _
  | exact flow_seq.mono _ _
  | exact LeO.none _
  | refine LeO.ite ?_ ?_
  | refine LeO.bind ?_ (fun _ => ?_)
set_option maxHeartbeats 8000000 in
set_option maxRecDepth 100000 in
theorem flow_node.calls (k : Nat) (A0_0 : Option Addr) (c0_0 : Nat) (l0_0 : List (S39)) (A0_1 : Option Addr) (c0_1 : Nat) (l0_1 : List (S53)) (a1 : Int) (A2 : Option Addr) (c2 : Nat) (l2 : List (S36)) (r1 : Bool) (r2 : Bool) (r3 : Bool) (w : World) (hr0_0 : Kd.C k39 w A0_0 l0_0.length l0_0) (hc0_0 : l0_0.length ≤ c0_0) (hr0_1 : Kd.C k53 w A0_1 l0_1.length l0_1) (hc0_1 : l0_1.length ≤ c0_1) (hr2 : Kd.C k36 w A2 l2.length l2) (hc2 : l2.length ≤ c2) (h : flow_node.f k l0_0 l0_1 a1 l2 = some (r1, r2, r3)) :
 Calls Try.prog 26 #[.agg #[.slice A0_0 l0_0.length c0_0, .slice A0_1 l0_1.length c0_1], .int .i64 a1, .slice A2 l2.length c2] w fun e w' => e = .returned (.agg #[.bool r1, .bool r2, .bool r3]) ∧ Below w.heap.size w w' := by
 have hu25 := Try.underlying25
 have hu36 := Try.underlying36
 have hu53 := Try.underlying53
 have hu50 := Try.underlying50
 have HR0_0 := Aside0.mk hr0_0
 have HC0_0 := Aside0.mk hc0_0
 clear hr0_0 hc0_0
 have HR0_1 := Aside0.mk hr0_1
 have HC0_1 := Aside0.mk hc0_1
 clear hr0_1 hc0_1
 have HR2 := Aside0.mk hr2
 have HC2 := Aside0.mk hc2
 clear hr2 hc2
 have HB := Aside0.mk (Below.refl w.heap.size w)
 have H : (if 0 ≤ a1 then (if a1 < (l0_1.length : Int) then (flow_node.l0 k l2 ([] : List (S36)) ((rd_T53 l0_1 a1).f1) (((rd_T53 l0_1 a1).f1).length : Int) 0 l0_0 l0_1 ((rd_T53 l0_1 a1).f0) ((rd_T53 l0_1 a1).f1) ((rd_T53 l0_1 a1).f2) ((rd_T53 l0_1 a1).f3.f0) ((rd_T53 l0_1 a1).f3.f1) ((rd_T53 l0_1 a1).f3.f2) ((rd_T53 l0_1 a1).f3.f3)) else (none)) else (none)) = some (r1, r2, r3) := h
 clear h
 by_cases c4 : 0 ≤ a1
 ·
  rw [if_pos c4] at H
  have c4b0 : decide (0 ≤ a1) = true := decide_eq_true c4
  clear c4
  by_cases c5 : a1 < (l0_1.length : Int)
  ·
   rw [if_pos c5] at H
   have c5b0 : decide (a1 < (l0_1.length : Int)) = true := decide_eq_true c5
   clear c5
   have H' := Aside0.mk H
   clear H
   go_enter Try.func26, Try.ntmps26
   go_wp2_with (first | ((with_reducible refine gate_dst (N := 3) rfl ?_); refine box_event ?hg (N := 3) ?hd (cs := #[.slice A0_0 l0_0.length c0_0, .slice A0_1 l0_1.length c0_1]) (t := 25) ?hr ?_; (case hd => rfl); (case hg => rfl); (case hr => first | (go_simp; done) | (go_simp; rfl)); intro gb135 hg w6 hbox hb; have n0_ := Aside0.mk (below_step (by repeat (first | (with_reducible first | exact HB.out | apply below_alloc | apply pw_below_drewN | apply below_drew1) | exact HB.out)) hb); have n1_ := Aside0.mk (hbox); have n2_ := Aside0.mk ((by rw [hg]; exact (below_size (by repeat (first | (with_reducible first | exact HB.out | apply below_alloc | apply pw_below_drewN | apply below_drew1) | exact HB.out))) : w.heap.size ≤ gb135)); have n3_ := Aside0.mk ((by rw [hg]; exact (below_size (by repeat (first | (with_reducible first | exact HB.out | apply below_alloc | apply pw_below_drewN | apply below_drew1) | exact HB.out))) : w.heap.size ≤ gb135)); clear HB; have HB := n0_; have BK135 := n1_; have GW135 := n2_; have GE135 := n3_; clear n0_ n1_ n2_ n3_; clear hb hbox hg) | ((with_reducible refine gate_dst (N := 6) rfl ?_); refine box_event ?hg (N := 6) ?hd (cs := #[.bool false, .bool false, .bool false]) (t := 36) ?hr ?_; (case hd => rfl); (case hg => rfl); (case hr => first | (go_simp; done) | (go_simp; rfl)); intro gb136 hg w7 hbox hb; have n0_ := Aside0.mk (blk_below (g := gb135) (o := .cells #[.slice A0_0 l0_0.length c0_0, .slice A0_1 l0_1.length c0_1] 25 (0, 0)) (by (with_reducible repeat (first | refine blk_drewN ?_ _ | refine blk_drew ?_ | refine blk_alloc ?_ _)); exact BK135.out) hb); have n1_ := Aside0.mk (below_step (by repeat (first | (with_reducible first | exact HB.out | apply below_alloc | apply pw_below_drewN | apply below_drew1 | refine below_set ?_ GE135.out) | exact HB.out)) hb); have n2_ := Aside0.mk (hbox); have n3_ := Aside0.mk ((by rw [hg]; exact (below_size (by repeat (first | (with_reducible first | exact HB.out | apply below_alloc | apply pw_below_drewN | apply below_drew1 | refine below_set ?_ GE135.out) | exact HB.out))) : w.heap.size ≤ gb136)); have n4_ := Aside0.mk ((by rw [hg]; exact (below_size (by repeat (first | (with_reducible first | exact HB.out | apply below_alloc | apply pw_below_drewN | apply below_drew1 | refine below_set ?_ GE135.out) | exact HB.out))) : w.heap.size ≤ gb136)); have n5_ := Aside0.mk ((by rw [hg]; exact Nat.ne_of_lt (blk_lt (g := gb135) (o := .cells #[.slice A0_0 l0_0.length c0_0, .slice A0_1 l0_1.length c0_1] 25 (0, 0)) (by (with_reducible repeat (first | refine blk_drewN ?_ _ | refine blk_drew ?_ | refine blk_alloc ?_ _)); exact BK135.out)) : gb135 ≠ gb136)); have n6_ := Aside0.mk ((by rw [hg]; exact Nat.ne_of_gt (blk_lt (g := gb135) (o := .cells #[.slice A0_0 l0_0.length c0_0, .slice A0_1 l0_1.length c0_1] 25 (0, 0)) (by (with_reducible repeat (first | refine blk_drewN ?_ _ | refine blk_drew ?_ | refine blk_alloc ?_ _)); exact BK135.out)) : gb136 ≠ gb135)); clear BK135; clear HB; have BK135 := n0_; have HB := n1_; have BK136 := n2_; have GW136 := n3_; have GE136 := n4_; have NB135_136 := n5_; have NB136_135 := n6_; clear n0_ n1_ n2_ n3_ n4_ n5_ n6_; clear hb hbox hg; have hnb8 := NB135_136.out; have hnc8 := NB136_135.out; have hcz9_0 : w7.cell? ⟨gb135, 0, none⟩ = some (.slice A0_0 l0_0.length c0_0) := (blk_cell BK135.out 0).trans rfl; have hcz9_1 : w7.cell? ⟨gb135, 1, none⟩ = some (.slice A0_1 l0_1.length c0_1) := (blk_cell BK135.out 1).trans rfl; have hfz9_0 := blk_frozen BK135.out 0; have hfz9_1 := blk_frozen BK135.out 1; have p137 : 0 ≤ (a1 : Int) := of_decide_eq_true (by first | (with_reducible assumption) | assumption); have q137 : a1 < (l0_1.length : Int) := of_decide_eq_true (by first | (with_reducible assumption) | assumption); obtain ⟨ad137, A137_1, c137_1, e137, hx137_0, hx137_1, hx137_2, hx137_3, hx137_4, hx137_5, hx137_6, hl137_1, hi137_1⟩ := at_T53 HR0_1.out a1 p137 q137; cases e137; replace hx137_0 := (HB.out.cell (World.block_lt_of_cell? w _ hx137_0)).trans hx137_0; replace hx137_1 := (HB.out.cell (World.block_lt_of_cell? w _ hx137_1)).trans hx137_1; replace hx137_2 := (HB.out.cell (World.block_lt_of_cell? w _ hx137_2)).trans hx137_2; replace hx137_3 := (HB.out.cell (World.block_lt_of_cell? w _ hx137_3)).trans hx137_3; replace hx137_4 := (HB.out.cell (World.block_lt_of_cell? w _ hx137_4)).trans hx137_4; replace hx137_5 := (HB.out.cell (World.block_lt_of_cell? w _ hx137_5)).trans hx137_5; replace hx137_6 := (HB.out.cell (World.block_lt_of_cell? w _ hx137_6)).trans hx137_6; have HR137_1 := Aside0.mk hi137_1; have HC137_1 := Aside0.mk hl137_1; clear hi137_1 hl137_1; replace p137 := eq_true p137; replace q137 := eq_true q137) | ((with_reducible refine gate_dst (N := 7) rfl ?_); refine box_event ?hg (N := 7) ?hd (cs := #[.int .i64 0, .slice none 0 0, .int .i64 0, .int .u64 0, .int .u64 0, .int .u64 0, .int .u64 0]) (t := 53) ?hr ?_; (case hd => rfl); (case hg => rfl); (case hr => first | (go_simp; done) | (go_simp; rfl)); intro gb138 hg w10 hbox hb; have n0_ := Aside0.mk (blk_below (g := gb135) (o := .cells #[.slice A0_0 l0_0.length c0_0, .slice (some ad137) l0_1.length c0_1] 25 (0, 0)) (by (with_reducible repeat (first | refine blk_drewN ?_ _ | refine blk_drew ?_ | refine blk_alloc ?_ _)); exact BK135.out) hb); have n1_ := Aside0.mk (blk_below (g := gb136) (o := .cells #[.bool false, .bool false, .bool false] 36 (0, 0)) (by (with_reducible repeat (first | refine blk_drewN ?_ _ | refine blk_drew ?_ | refine blk_alloc ?_ _)); exact BK136.out) hb); have n2_ := Aside0.mk (below_step (by repeat (first | (with_reducible first | exact HB.out | apply below_alloc | apply pw_below_drewN | apply below_drew1 | refine below_set ?_ GE135.out | refine below_set ?_ GE136.out) | exact HB.out)) hb); have n3_ := Aside0.mk (hbox); have n4_ := Aside0.mk ((by rw [hg]; exact (below_size (by repeat (first | (with_reducible first | exact HB.out | apply below_alloc | apply pw_below_drewN | apply below_drew1 | refine below_set ?_ GE135.out | refine below_set ?_ GE136.out) | exact HB.out))) : w.heap.size ≤ gb138)); have n5_ := Aside0.mk ((by rw [hg]; exact (below_size (by repeat (first | (with_reducible first | exact HB.out | apply below_alloc | apply pw_below_drewN | apply below_drew1 | refine below_set ?_ GE135.out | refine below_set ?_ GE136.out) | exact HB.out))) : w.heap.size ≤ gb138)); have n6_ := Aside0.mk ((by rw [hg]; exact Nat.ne_of_lt (blk_lt (g := gb135) (o := .cells #[.slice A0_0 l0_0.length c0_0, .slice (some ad137) l0_1.length c0_1] 25 (0, 0)) (by (with_reducible repeat (first | refine blk_drewN ?_ _ | refine blk_drew ?_ | refine blk_alloc ?_ _)); exact BK135.out)) : gb135 ≠ gb138)); have n7_ := Aside0.mk ((by rw [hg]; exact Nat.ne_of_gt (blk_lt (g := gb135) (o := .cells #[.slice A0_0 l0_0.length c0_0, .slice (some ad137) l0_1.length c0_1] 25 (0, 0)) (by (with_reducible repeat (first | refine blk_drewN ?_ _ | refine blk_drew ?_ | refine blk_alloc ?_ _)); exact BK135.out)) : gb138 ≠ gb135)); have n8_ := Aside0.mk ((by rw [hg]; exact Nat.ne_of_lt (blk_lt (g := gb136) (o := .cells #[.bool false, .bool false, .bool false] 36 (0, 0)) (by (with_reducible repeat (first | refine blk_drewN ?_ _ | refine blk_drew ?_ | refine blk_alloc ?_ _)); exact BK136.out)) : gb136 ≠ gb138)); have n9_ := Aside0.mk ((by rw [hg]; exact Nat.ne_of_gt (blk_lt (g := gb136) (o := .cells #[.bool false, .bool false, .bool false] 36 (0, 0)) (by (with_reducible repeat (first | refine blk_drewN ?_ _ | refine blk_drew ?_ | refine blk_alloc ?_ _)); exact BK136.out)) : gb138 ≠ gb136)); clear BK135; clear BK136; clear HB; have BK135 := n0_; have BK136 := n1_; have HB := n2_; have BK138 := n3_; have GW138 := n4_; have GE138 := n5_; have NB135_138 := n6_; have NB138_135 := n7_; have NB136_138 := n8_; have NB138_136 := n9_; clear n0_ n1_ n2_ n3_ n4_ n5_ n6_ n7_ n8_ n9_; clear hb hbox hg; have hnb11 := NB138_135.out; have hnc11 := NB135_138.out; have hnb12 := NB138_136.out; have hnc12 := NB136_138.out; have hcz13_0 : w10.cell? ⟨gb138, 0, none⟩ = some (.int .i64 0) := (blk_cell BK138.out 0).trans rfl; have hcz13_1 : w10.cell? ⟨gb138, 1, none⟩ = some (.slice none 0 0) := (blk_cell BK138.out 1).trans rfl; have hcz13_2 : w10.cell? ⟨gb138, 2, none⟩ = some (.int .i64 0) := (blk_cell BK138.out 2).trans rfl; have hcz13_3 : w10.cell? ⟨gb138, 3, none⟩ = some (.int .u64 0) := (blk_cell BK138.out 3).trans rfl; have hcz13_4 : w10.cell? ⟨gb138, 4, none⟩ = some (.int .u64 0) := (blk_cell BK138.out 4).trans rfl; have hcz13_5 : w10.cell? ⟨gb138, 5, none⟩ = some (.int .u64 0) := (blk_cell BK138.out 5).trans rfl; have hcz13_6 : w10.cell? ⟨gb138, 6, none⟩ = some (.int .u64 0) := (blk_cell BK138.out 6).trans rfl; have hfz13_0 := blk_frozen BK138.out 0; have hfz13_1 := blk_frozen BK138.out 1; have hfz13_2 := blk_frozen BK138.out 2; have hfz13_3 := blk_frozen BK138.out 3; have hfz13_4 := blk_frozen BK138.out 4; have hfz13_5 := blk_frozen BK138.out 5; have hfz13_6 := blk_frozen BK138.out 6))
   go_loopg [8, 19] k (fun kq v8 v19 w' => ∃ (x8_1 : List (S36)) (x19_1 : Int), v19 = .int .i64 x19_1 ∧ Aside0 (flow_node.l0 kq l2 x8_1 ((rd_T53 l0_1 a1).f1) (((rd_T53 l0_1 a1).f1).length : Int) x19_1 l0_0 l0_1 ((rd_T53 l0_1 a1).f0) ((rd_T53 l0_1 a1).f1) ((rd_T53 l0_1 a1).f2) ((rd_T53 l0_1 a1).f3.f0) ((rd_T53 l0_1 a1).f3.f1) ((rd_T53 l0_1 a1).f3.f2) ((rd_T53 l0_1 a1).f3.f3) = some (r1, r2, r3)) ∧ Aside0 (kq ≤ k) ∧ Aside0 (Kd.R k36 36 w' w.heap.size (fun k_ => k_ ≠ gb136) v8 x8_1) ∧ Aside0 (w'.heap[gb135]? = some (.cells #[(.slice A0_0 l0_0.length c0_0), (.slice (some ad137) l0_1.length c0_1)] 25 (0, 0))) ∧ Aside0 (w'.heap[gb136]? = some (.cells #[.bool false, .bool false, .bool false] 36 (0, 0))) ∧ Aside0 (w'.heap[gb138]? = some (.cells #[.int .i64 ((rd_T53 l0_1 a1).f0), (.slice A137_1 ((rd_T53 l0_1 a1).f1).length c137_1), .int .i64 ((rd_T53 l0_1 a1).f2), .int .u64 ((rd_T53 l0_1 a1).f3.f0), .int .u64 ((rd_T53 l0_1 a1).f3.f1), .int .u64 ((rd_T53 l0_1 a1).f3.f2), .int .u64 ((rd_T53 l0_1 a1).f3.f3)] 53 (0, 0))) ∧ Aside0 (Below w.heap.size w w'))
   case atStart => exact ⟨(([] : List (S36))), (0), (by first | rfl | (simp; done) | (simp [*]; done)), H', ⟨Nat.le_refl _⟩, ⟨by first | exact Kd.R_nil _ _ _ _ _ | exact Kd.N_nil _ _ _ _ _ | exact Kd.V_nil _ _ _ _ _ | exact Kd.Q_nil _ _ _ _ _ | exact Kd.S_nil _ _ _ _ _⟩, ⟨by (with_reducible repeat (first | refine blk_drewN ?_ _ | refine blk_drew ?_ | refine blk_alloc ?_ _)); refine blk_far ?_ NB135_138.out _; (with_reducible repeat (first | refine blk_drewN ?_ _ | refine blk_drew ?_ | refine blk_alloc ?_ _)); refine blk_far ?_ NB135_138.out _; (with_reducible repeat (first | refine blk_drewN ?_ _ | refine blk_drew ?_ | refine blk_alloc ?_ _)); refine blk_far ?_ NB135_138.out _; (with_reducible repeat (first | refine blk_drewN ?_ _ | refine blk_drew ?_ | refine blk_alloc ?_ _)); refine blk_far ?_ NB135_138.out _; (with_reducible repeat (first | refine blk_drewN ?_ _ | refine blk_drew ?_ | refine blk_alloc ?_ _)); refine blk_far ?_ NB135_138.out _; (with_reducible repeat (first | refine blk_drewN ?_ _ | refine blk_drew ?_ | refine blk_alloc ?_ _)); refine blk_far ?_ NB135_138.out _; (with_reducible repeat (first | refine blk_drewN ?_ _ | refine blk_drew ?_ | refine blk_alloc ?_ _)); refine blk_far ?_ NB135_138.out _; (with_reducible repeat (first | refine blk_drewN ?_ _ | refine blk_drew ?_ | refine blk_alloc ?_ _)); exact BK135.out⟩, ⟨by (with_reducible repeat (first | refine blk_drewN ?_ _ | refine blk_drew ?_ | refine blk_alloc ?_ _)); refine blk_far ?_ NB136_138.out _; (with_reducible repeat (first | refine blk_drewN ?_ _ | refine blk_drew ?_ | refine blk_alloc ?_ _)); refine blk_far ?_ NB136_138.out _; (with_reducible repeat (first | refine blk_drewN ?_ _ | refine blk_drew ?_ | refine blk_alloc ?_ _)); refine blk_far ?_ NB136_138.out _; (with_reducible repeat (first | refine blk_drewN ?_ _ | refine blk_drew ?_ | refine blk_alloc ?_ _)); refine blk_far ?_ NB136_138.out _; (with_reducible repeat (first | refine blk_drewN ?_ _ | refine blk_drew ?_ | refine blk_alloc ?_ _)); refine blk_far ?_ NB136_138.out _; (with_reducible repeat (first | refine blk_drewN ?_ _ | refine blk_drew ?_ | refine blk_alloc ?_ _)); refine blk_far ?_ NB136_138.out _; (with_reducible repeat (first | refine blk_drewN ?_ _ | refine blk_drew ?_ | refine blk_alloc ?_ _)); refine blk_far ?_ NB136_138.out _; (with_reducible repeat (first | refine blk_drewN ?_ _ | refine blk_drew ?_ | refine blk_alloc ?_ _)); exact BK136.out⟩, ⟨by (with_reducible repeat (first | refine blk_drewN ?_ _ | refine blk_drew ?_ | refine blk_alloc ?_ _)); refine blk_put (cs := #[.int .i64 ((rd_T53 l0_1 a1).f0), .slice A137_1 ((rd_T53 l0_1 a1).f1).length c137_1, .int .i64 ((rd_T53 l0_1 a1).f2), .int .u64 ((rd_T53 l0_1 a1).f3.f0), .int .u64 ((rd_T53 l0_1 a1).f3.f1), .int .u64 ((rd_T53 l0_1 a1).f3.f2), .int .u64 0]) ?_ 6 _ rfl; (with_reducible repeat (first | refine blk_drewN ?_ _ | refine blk_drew ?_ | refine blk_alloc ?_ _)); refine blk_put (cs := #[.int .i64 ((rd_T53 l0_1 a1).f0), .slice A137_1 ((rd_T53 l0_1 a1).f1).length c137_1, .int .i64 ((rd_T53 l0_1 a1).f2), .int .u64 ((rd_T53 l0_1 a1).f3.f0), .int .u64 ((rd_T53 l0_1 a1).f3.f1), .int .u64 0, .int .u64 0]) ?_ 5 _ rfl; (with_reducible repeat (first | refine blk_drewN ?_ _ | refine blk_drew ?_ | refine blk_alloc ?_ _)); refine blk_put (cs := #[.int .i64 ((rd_T53 l0_1 a1).f0), .slice A137_1 ((rd_T53 l0_1 a1).f1).length c137_1, .int .i64 ((rd_T53 l0_1 a1).f2), .int .u64 ((rd_T53 l0_1 a1).f3.f0), .int .u64 0, .int .u64 0, .int .u64 0]) ?_ 4 _ rfl; (with_reducible repeat (first | refine blk_drewN ?_ _ | refine blk_drew ?_ | refine blk_alloc ?_ _)); refine blk_put (cs := #[.int .i64 ((rd_T53 l0_1 a1).f0), .slice A137_1 ((rd_T53 l0_1 a1).f1).length c137_1, .int .i64 ((rd_T53 l0_1 a1).f2), .int .u64 0, .int .u64 0, .int .u64 0, .int .u64 0]) ?_ 3 _ rfl; (with_reducible repeat (first | refine blk_drewN ?_ _ | refine blk_drew ?_ | refine blk_alloc ?_ _)); refine blk_put (cs := #[.int .i64 ((rd_T53 l0_1 a1).f0), .slice A137_1 ((rd_T53 l0_1 a1).f1).length c137_1, .int .i64 0, .int .u64 0, .int .u64 0, .int .u64 0, .int .u64 0]) ?_ 2 _ rfl; (with_reducible repeat (first | refine blk_drewN ?_ _ | refine blk_drew ?_ | refine blk_alloc ?_ _)); refine blk_put (cs := #[.int .i64 ((rd_T53 l0_1 a1).f0), .slice none 0 0, .int .i64 0, .int .u64 0, .int .u64 0, .int .u64 0, .int .u64 0]) ?_ 1 _ rfl; (with_reducible repeat (first | refine blk_drewN ?_ _ | refine blk_drew ?_ | refine blk_alloc ?_ _)); refine blk_put (cs := #[.int .i64 0, .slice none 0 0, .int .i64 0, .int .u64 0, .int .u64 0, .int .u64 0, .int .u64 0]) ?_ 0 _ rfl; (with_reducible repeat (first | refine blk_drewN ?_ _ | refine blk_drew ?_ | refine blk_alloc ?_ _)); exact BK138.out⟩, ⟨by repeat (first | (with_reducible first | exact HB.out | apply below_alloc | apply pw_below_drewN | apply below_drew1 | refine below_set ?_ GE135.out | refine below_set ?_ GE136.out | refine below_set ?_ GE138.out) | exact HB.out)⟩⟩
   case round =>
    clear H'
    try clear c1
    try clear p1
    try clear q1
    try clear hx1
    try clear c2
    try clear p2
    try clear c4
    try clear c4b0
    try clear c5
    try clear c5b0
    try clear c8
    try clear c11
    try clear c12
    try clear c13
    try clear p13
    try clear q13
    try clear hx13
    try clear hcz13_0
    try clear hcz13_1
    try clear hcz13_2
    try clear hcz13_3
    try clear hcz13_4
    try clear hcz13_5
    try clear hcz13_6
    try clear hcz9_0
    try clear hcz9_1
    try clear hfz13_0
    try clear hfz13_1
    try clear hfz13_2
    try clear hfz13_3
    try clear hfz13_4
    try clear hfz13_5
    try clear hfz13_6
    try clear hfz9_0
    try clear hfz9_1
    try clear hx137_0
    try clear hx137_1
    try clear hx137_2
    try clear hx137_3
    try clear hx137_4
    try clear hx137_5
    try clear hx137_6
    try clear p137
    try clear q137
    obtain ⟨x8_1, x19_1, rfl, HA, HK1, HO_8, BK135, BK136, BK138, HB⟩ := hrel
    cases gk with
    | zero => exact absurd HA.out (by simp [flow_node.l0])
    | succ k1 =>
     have H := HA.out
     clear HA
     simp only [flow_node.l0] at H
     by_cases c14 : x19_1 < (((rd_T53 l0_1 a1).f1).length : Int)
     ·
      rw [if_pos c14] at H
      have c14b0 : decide (x19_1 < (((rd_T53 l0_1 a1).f1).length : Int)) = true := decide_eq_true c14
      clear c14
      by_cases c15 : 0 ≤ x19_1
      ·
       rw [if_pos c15] at H
       have c15b0 : decide (0 ≤ x19_1) = true := decide_eq_true c15
       clear c15
       by_cases c16 : x19_1 < (((rd_T53 l0_1 a1).f1).length : Int)
       ·
        rw [if_pos c16] at H
        have c16b0 : decide (x19_1 < (((rd_T53 l0_1 a1).f1).length : Int)) = true := decide_eq_true c16
        clear c16
        by_cases c17 : 0 ≤ (rd ((rd_T53 l0_1 a1).f1) x19_1)
        ·
         rw [if_pos c17] at H
         have c17b0 : decide (0 ≤ (rd ((rd_T53 l0_1 a1).f1) x19_1)) = true := decide_eq_true c17
         clear c17
         by_cases c18 : (rd ((rd_T53 l0_1 a1).f1) x19_1) < (l2.length : Int)
         ·
          rw [if_pos c18] at H
          have c18b0 : decide ((rd ((rd_T53 l0_1 a1).f1) x19_1) < (l2.length : Int)) = true := decide_eq_true c18
          clear c18
          by_cases c19 : x8_1.length < 46912496118442
          ·
           rw [if_pos c19] at H
           have LMc19 := Aside0.mk c19
           clear c19
           obtain ⟨y141, hy141⟩ : ∃ y_ : List (S36), y_ = (x8_1 ++ [(⟨(rd_T36 l2 (rd ((rd_T53 l0_1 a1).f1) x19_1)).f0, (rd_T36 l2 (rd ((rd_T53 l0_1 a1).f1) x19_1)).f1, (rd_T36 l2 (rd ((rd_T53 l0_1 a1).f1) x19_1)).f2⟩ : S36)]) := ⟨_, rfl⟩
           replace H : (flow_node.l0 k1 l2 y141 ((rd_T53 l0_1 a1).f1) (((rd_T53 l0_1 a1).f1).length : Int) (wrap64 (x19_1 + 1)) l0_0 l0_1 ((rd_T53 l0_1 a1).f0) ((rd_T53 l0_1 a1).f1) ((rd_T53 l0_1 a1).f2) ((rd_T53 l0_1 a1).f3.f0) ((rd_T53 l0_1 a1).f3.f1) ((rd_T53 l0_1 a1).f3.f2) ((rd_T53 l0_1 a1).f3.f3)) = some (r1, r2, r3) := by first | (rw [hy141]; with_reducible exact H) | (have H2_ := (Option.bind_some _ _).symm.trans H; rw [hy141]; with_reducible exact H2_) | (have H2_ := (Option.bind_some _ _).symm.trans H; with_reducible exact H2_) | with_reducible exact H | (rw [hy141]; exact H) | exact H
           have Ny141 := Aside0.mk hy141
           clear hy141
           have H' := Aside0.mk H
           clear H
           have p139 : 0 ≤ (x19_1 : Int) := of_decide_eq_true (by first | (with_reducible assumption) | assumption)
           have q139 : x19_1 < (((rd_T53 l0_1 a1).f1).length : Int) := of_decide_eq_true (by first | (with_reducible assumption) | assumption)
           obtain ⟨ad139, e139, hx139_0⟩ := Kd.at_int HR137_1.out x19_1 p139 q139
           cases e139
           replace hx139_0 := (HB.out.cell (World.block_lt_of_cell? w _ hx139_0)).trans hx139_0
           replace p139 := eq_true p139
           replace q139 := eq_true q139
           have p140 : 0 ≤ ((rd ((rd_T53 l0_1 a1).f1) x19_1) : Int) := of_decide_eq_true (by first | (with_reducible assumption) | assumption)
           have q140 : (rd ((rd_T53 l0_1 a1).f1) x19_1) < (l2.length : Int) := of_decide_eq_true (by first | (with_reducible assumption) | assumption)
           obtain ⟨ad140, e140, hx140_0, hx140_1, hx140_2⟩ := at_T36 HR2.out (rd ((rd_T53 l0_1 a1).f1) x19_1) p140 q140
           cases e140
           replace hx140_0 := (HB.out.cell (World.block_lt_of_cell? w _ hx140_0)).trans hx140_0
           replace hx140_1 := (HB.out.cell (World.block_lt_of_cell? w _ hx140_1)).trans hx140_1
           replace hx140_2 := (HB.out.cell (World.block_lt_of_cell? w _ hx140_2)).trans hx140_2
           replace p140 := eq_true p140
           replace q140 := eq_true q140
           go_wp2_with (first | ((with_reducible refine gate_builtin (b := .append) (xs := #[.tmp 23, .tmp 28]) rfl ?_); at_builtin; refine Kd.R_append k36 (w0 := w) w.heap.size rfl (.tmp 23) (.tmp 28) 32 36 (.agg #[(.bool false), (.bool false), (.bool false)]) 3 rfl Try.underlying32 info36 rfl (by decide) (by omega) u8 x8_1 (⟨(rd_T36 l2 (rd ((rd_T53 l0_1 a1).f1) x19_1)).f0, (rd_T36 l2 (rd ((rd_T53 l0_1 a1).f1) x19_1)).f1, (rd_T36 l2 (rd ((rd_T53 l0_1 a1).f1) x19_1)).f2⟩ : S36) [.bool ((rd_T36 l2 (rd ((rd_T53 l0_1 a1).f1) x19_1)).f0), .bool ((rd_T36 l2 (rd ((rd_T53 l0_1 a1).f1) x19_1)).f1), .bool ((rd_T36 l2 (rd ((rd_T53 l0_1 a1).f1) x19_1)).f2)] (fun k_ => k_ ≠ gb136) (fun _ => False) rfl rfl ?aP (fun _ hk => hk.elim) ?aF ?aO ?aB ?aS ?aL ?_; (case aP => exact k36_mkM _ _ _ (⟨(rd_T36 l2 (rd ((rd_T53 l0_1 a1).f1) x19_1)).f0, (rd_T36 l2 (rd ((rd_T53 l0_1 a1).f1) x19_1)).f1, (rd_T36 l2 (rd ((rd_T53 l0_1 a1).f1) x19_1)).f2⟩ : S36)); (case aB => exact (by repeat (first | (with_reducible first | exact HB.out | apply below_alloc | apply pw_below_drewN | apply below_drew1 | refine below_set ?_ GE135.out | refine below_set ?_ GE136.out | refine below_set ?_ GE138.out) | exact HB.out))); (case aF => exact (fun k_ hk => Kd.freshB (g := gb136) (o := .cells #[.bool false, .bool false, .bool false] 36 (0, 0)) (by (with_reducible repeat (first | refine blk_drewN ?_ _ | refine blk_drew ?_ | refine blk_alloc ?_ _)); exact BK136.out) k_ hk)); (case aO => exact (by (with_reducible repeat (first | apply Kd.R_alloc | apply Kd.R_drewN | apply Kd.R_drew)); exact HO_8.out)); (case aS => exact (below_size (by repeat (first | (with_reducible first | exact HB.out | apply below_alloc | apply pw_below_drewN | apply below_drew1 | refine below_set ?_ GE135.out | refine below_set ?_ GE136.out | refine below_set ?_ GE138.out) | exact HB.out)))); (case aL => have := LMc19.out; omega); intro v142 w20 ho hb hg hat; rw [← Ny141.out] at ho; have n0_ := Aside0.mk (blk_grown (g := gb135) (o := .cells #[.slice A0_0 l0_0.length c0_0, .slice (some ad137) l0_1.length c0_1] 25 (0, 0)) (by (with_reducible repeat (first | refine blk_drewN ?_ _ | refine blk_drew ?_ | refine blk_alloc ?_ _)); exact BK135.out) hg (Kd.R_ne HO_8.out BK135.out (by decide))); have n1_ := Aside0.mk (blk_grown (g := gb136) (o := .cells #[.bool false, .bool false, .bool false] 36 (0, 0)) (by (with_reducible repeat (first | refine blk_drewN ?_ _ | refine blk_drew ?_ | refine blk_alloc ?_ _)); exact BK136.out) hg (Kd.R_away HO_8.out (fun _ hk => hk))); have n2_ := Aside0.mk (blk_grown (g := gb138) (o := .cells #[.int .i64 ((rd_T53 l0_1 a1).f0), .slice (some ad139) ((rd_T53 l0_1 a1).f1).length c137_1, .int .i64 ((rd_T53 l0_1 a1).f2), .int .u64 ((rd_T53 l0_1 a1).f3.f0), .int .u64 ((rd_T53 l0_1 a1).f3.f1), .int .u64 ((rd_T53 l0_1 a1).f3.f2), .int .u64 ((rd_T53 l0_1 a1).f3.f3)] 53 (0, 0)) (by (with_reducible repeat (first | refine blk_drewN ?_ _ | refine blk_drew ?_ | refine blk_alloc ?_ _)); exact BK138.out) hg (Kd.R_ne HO_8.out BK138.out (by decide))); have n3_ := Aside0.mk (hb); have n4_ := Aside0.mk (ho); clear BK135; clear BK136; clear BK138; clear HB; clear HO_8; have BK135 := n0_; have BK136 := n1_; have BK138 := n2_; have HB := n3_; have HO143 := n4_; clear n0_ n1_ n2_ n3_ n4_; clear ho hb hg hat))
           go_roundg k1
           case measure => have := HK1.out; omega
           case rel => exact ⟨(y141), (wrap64 (x19_1 + 1)), (by first | rfl | (simp; done) | (simp [*]; done)), H', ⟨by have := HK1.out; omega⟩, ⟨by (with_reducible repeat (first | apply Kd.R_alloc | apply Kd.R_drewN | apply Kd.R_drew)); exact HO143.out⟩, ⟨by (with_reducible repeat (first | refine blk_drewN ?_ _ | refine blk_drew ?_ | refine blk_alloc ?_ _)); exact BK135.out⟩, ⟨by (with_reducible repeat (first | refine blk_drewN ?_ _ | refine blk_drew ?_ | refine blk_alloc ?_ _)); exact BK136.out⟩, ⟨by (with_reducible repeat (first | refine blk_drewN ?_ _ | refine blk_drew ?_ | refine blk_alloc ?_ _)); exact BK138.out⟩, ⟨by repeat (first | (with_reducible first | exact HB.out | apply below_alloc | apply pw_below_drewN | apply below_drew1 | refine below_set ?_ GE135.out | refine below_set ?_ GE136.out | refine below_set ?_ GE138.out) | exact HB.out)⟩⟩
          ·
           rw [if_neg c19] at H
           exact absurd H (by simp)
         ·
          rw [if_neg c18] at H
          exact absurd H (by simp)
        ·
         rw [if_neg c17] at H
         exact absurd H (by simp)
       ·
        rw [if_neg c16] at H
        exact absurd H (by simp)
      ·
       rw [if_neg c15] at H
       exact absurd H (by simp)
     ·
      rw [if_neg c14] at H
      have c14b0 : decide (x19_1 < (((rd_T53 l0_1 a1).f1).length : Int)) = false := decide_eq_false c14
      clear c14
      by_cases c21 : ((rd_T53 l0_1 a1).f0) = 0
      ·
       rw [if_pos c21] at H
       have c21b0 : (((rd_T53 l0_1 a1).f0) == 0) = true := beq_iff_eq.mpr c21
       have c21b1 : (((rd_T53 l0_1 a1).f0) != 0) = false := bne_eq_false_iff_eq.mpr c21
       clear c21
       simp only [Option.some.injEq, Prod.mk.injEq] at H
       obtain ⟨rfl, rfl, rfl⟩ := H
       have hnb22 := NB138_135.out
       have hnc22 := NB135_138.out
       have hnb23 := NB138_136.out
       have hnc23 := NB136_138.out
       have hcz24_0 : wr.cell? ⟨gb138, 0, none⟩ = some (.int .i64 ((rd_T53 l0_1 a1).f0)) := (blk_cell BK138.out 0).trans rfl
       have hcz24_1 : wr.cell? ⟨gb138, 1, none⟩ = some (.slice A137_1 ((rd_T53 l0_1 a1).f1).length c137_1) := (blk_cell BK138.out 1).trans rfl
       have hcz24_2 : wr.cell? ⟨gb138, 2, none⟩ = some (.int .i64 ((rd_T53 l0_1 a1).f2)) := (blk_cell BK138.out 2).trans rfl
       have hcz24_3 : wr.cell? ⟨gb138, 3, none⟩ = some (.int .u64 ((rd_T53 l0_1 a1).f3.f0)) := (blk_cell BK138.out 3).trans rfl
       have hcz24_4 : wr.cell? ⟨gb138, 4, none⟩ = some (.int .u64 ((rd_T53 l0_1 a1).f3.f1)) := (blk_cell BK138.out 4).trans rfl
       have hcz24_5 : wr.cell? ⟨gb138, 5, none⟩ = some (.int .u64 ((rd_T53 l0_1 a1).f3.f2)) := (blk_cell BK138.out 5).trans rfl
       have hcz24_6 : wr.cell? ⟨gb138, 6, none⟩ = some (.int .u64 ((rd_T53 l0_1 a1).f3.f3)) := (blk_cell BK138.out 6).trans rfl
       have hfz24_0 := blk_frozen BK138.out 0
       have hfz24_1 := blk_frozen BK138.out 1
       have hfz24_2 := blk_frozen BK138.out 2
       have hfz24_3 := blk_frozen BK138.out 3
       have hfz24_4 := blk_frozen BK138.out 4
       have hfz24_5 := blk_frozen BK138.out 5
       have hfz24_6 := blk_frozen BK138.out 6
       have hnb25 := NB136_135.out
       have hnc25 := NB135_136.out
       have hcz26_0 : wr.cell? ⟨gb136, 0, none⟩ = some (.bool false) := (blk_cell BK136.out 0).trans rfl
       have hcz26_1 : wr.cell? ⟨gb136, 1, none⟩ = some (.bool false) := (blk_cell BK136.out 1).trans rfl
       have hcz26_2 : wr.cell? ⟨gb136, 2, none⟩ = some (.bool false) := (blk_cell BK136.out 2).trans rfl
       have hfz26_0 := blk_frozen BK136.out 0
       have hfz26_1 := blk_frozen BK136.out 1
       have hfz26_2 := blk_frozen BK136.out 2
       go_wp2
       refine bodyPost_ret (results_cell_row rfl _ _ gb136 36 #[.bool true, .bool false, .bool false] (0, 0) _ rfl (by (with_reducible repeat (first | refine blk_drewN ?_ _ | refine blk_drew ?_ | refine blk_alloc ?_ _)); refine blk_put (cs := #[.bool true, .bool false, .bool false]) ?_ 2 _ rfl; (with_reducible repeat (first | refine blk_drewN ?_ _ | refine blk_drew ?_ | refine blk_alloc ?_ _)); refine blk_put (cs := #[.bool true, .bool false, .bool false]) ?_ 1 _ rfl; (with_reducible repeat (first | refine blk_drewN ?_ _ | refine blk_drew ?_ | refine blk_alloc ?_ _)); refine blk_put (cs := #[.bool false, .bool false, .bool false]) ?_ 0 _ rfl; (with_reducible repeat (first | refine blk_drewN ?_ _ | refine blk_drew ?_ | refine blk_alloc ?_ _)); exact BK136.out) Try.underlying36 rfl (by kernel_rfl)) rfl ?_
       exact ⟨by first | rfl | (simp [errW_none, errW_some] <;> rfl) | (simp [*, errW_none, errW_some] <;> rfl), by repeat (first | (with_reducible first | exact HB.out | apply below_alloc | apply pw_below_drewN | apply below_drew1 | refine below_set ?_ GE135.out | refine below_set ?_ GE136.out | refine below_set ?_ GE138.out) | exact HB.out)⟩
      ·
       rw [if_neg c21] at H
       have c21b0 : (((rd_T53 l0_1 a1).f0) == 0) = false := beq_eq_false_iff_ne.mpr c21
       have c21b1 : (((rd_T53 l0_1 a1).f0) != 0) = true := bne_iff_ne.mpr c21
       by_cases c27 : ((rd_T53 l0_1 a1).f0) = 1
       ·
        rw [if_pos c27] at H
        have c27b0 : (((rd_T53 l0_1 a1).f0) == 1) = true := beq_iff_eq.mpr c27
        have c27b1 : (((rd_T53 l0_1 a1).f0) != 1) = false := bne_eq_false_iff_eq.mpr c27
        clear c27
        simp only [Option.some.injEq, Prod.mk.injEq] at H
        obtain ⟨rfl, rfl, rfl⟩ := H
        have hnb28 := NB138_135.out
        have hnc28 := NB135_138.out
        have hnb29 := NB138_136.out
        have hnc29 := NB136_138.out
        have hcz30_0 : wr.cell? ⟨gb138, 0, none⟩ = some (.int .i64 ((rd_T53 l0_1 a1).f0)) := (blk_cell BK138.out 0).trans rfl
        have hcz30_1 : wr.cell? ⟨gb138, 1, none⟩ = some (.slice A137_1 ((rd_T53 l0_1 a1).f1).length c137_1) := (blk_cell BK138.out 1).trans rfl
        have hcz30_2 : wr.cell? ⟨gb138, 2, none⟩ = some (.int .i64 ((rd_T53 l0_1 a1).f2)) := (blk_cell BK138.out 2).trans rfl
        have hcz30_3 : wr.cell? ⟨gb138, 3, none⟩ = some (.int .u64 ((rd_T53 l0_1 a1).f3.f0)) := (blk_cell BK138.out 3).trans rfl
        have hcz30_4 : wr.cell? ⟨gb138, 4, none⟩ = some (.int .u64 ((rd_T53 l0_1 a1).f3.f1)) := (blk_cell BK138.out 4).trans rfl
        have hcz30_5 : wr.cell? ⟨gb138, 5, none⟩ = some (.int .u64 ((rd_T53 l0_1 a1).f3.f2)) := (blk_cell BK138.out 5).trans rfl
        have hcz30_6 : wr.cell? ⟨gb138, 6, none⟩ = some (.int .u64 ((rd_T53 l0_1 a1).f3.f3)) := (blk_cell BK138.out 6).trans rfl
        have hfz30_0 := blk_frozen BK138.out 0
        have hfz30_1 := blk_frozen BK138.out 1
        have hfz30_2 := blk_frozen BK138.out 2
        have hfz30_3 := blk_frozen BK138.out 3
        have hfz30_4 := blk_frozen BK138.out 4
        have hfz30_5 := blk_frozen BK138.out 5
        have hfz30_6 := blk_frozen BK138.out 6
        have hnb31 := NB136_135.out
        have hnc31 := NB135_136.out
        have hcz32_0 : wr.cell? ⟨gb136, 0, none⟩ = some (.bool false) := (blk_cell BK136.out 0).trans rfl
        have hcz32_1 : wr.cell? ⟨gb136, 1, none⟩ = some (.bool false) := (blk_cell BK136.out 1).trans rfl
        have hcz32_2 : wr.cell? ⟨gb136, 2, none⟩ = some (.bool false) := (blk_cell BK136.out 2).trans rfl
        have hfz32_0 := blk_frozen BK136.out 0
        have hfz32_1 := blk_frozen BK136.out 1
        have hfz32_2 := blk_frozen BK136.out 2
        go_wp2
        refine bodyPost_ret (results_cell_row rfl _ _ gb136 36 #[.bool false, .bool (!(((rd_T53 l0_1 a1).f3.f0) == 0) || (!(((rd_T53 l0_1 a1).f3.f1) == 0) || (!(((rd_T53 l0_1 a1).f3.f2) == 0) || (!(((rd_T53 l0_1 a1).f3.f3) == 0))))), .bool true] (0, 0) _ rfl (by (with_reducible repeat (first | refine blk_drewN ?_ _ | refine blk_drew ?_ | refine blk_alloc ?_ _)); refine blk_put (cs := #[.bool false, .bool (!(((rd_T53 l0_1 a1).f3.f0) == 0) || (!(((rd_T53 l0_1 a1).f3.f1) == 0) || (!(((rd_T53 l0_1 a1).f3.f2) == 0) || (!(((rd_T53 l0_1 a1).f3.f3) == 0))))), .bool false]) ?_ 2 _ rfl; (with_reducible repeat (first | refine blk_drewN ?_ _ | refine blk_drew ?_ | refine blk_alloc ?_ _)); refine blk_put (cs := #[.bool false, .bool false, .bool false]) ?_ 1 _ rfl; (with_reducible repeat (first | refine blk_drewN ?_ _ | refine blk_drew ?_ | refine blk_alloc ?_ _)); refine blk_put (cs := #[.bool false, .bool false, .bool false]) ?_ 0 _ rfl; (with_reducible repeat (first | refine blk_drewN ?_ _ | refine blk_drew ?_ | refine blk_alloc ?_ _)); exact BK136.out) Try.underlying36 rfl (by kernel_rfl)) rfl ?_
        exact ⟨by first | rfl | (simp [errW_none, errW_some] <;> rfl) | (simp [*, errW_none, errW_some] <;> rfl), by repeat (first | (with_reducible first | exact HB.out | apply below_alloc | apply pw_below_drewN | apply below_drew1 | refine below_set ?_ GE135.out | refine below_set ?_ GE136.out | refine below_set ?_ GE138.out) | exact HB.out)⟩
       ·
        rw [if_neg c27] at H
        have c27b0 : (((rd_T53 l0_1 a1).f0) == 1) = false := beq_eq_false_iff_ne.mpr c27
        have c27b1 : (((rd_T53 l0_1 a1).f0) != 1) = true := bne_iff_ne.mpr c27
        by_cases c33 : ((rd_T53 l0_1 a1).f0) = 2
        ·
         rw [if_pos c33] at H
         have c33b0 : (((rd_T53 l0_1 a1).f0) == 2) = true := beq_iff_eq.mpr c33
         have c33b1 : (((rd_T53 l0_1 a1).f0) != 2) = false := bne_eq_false_iff_eq.mpr c33
         clear c33
         by_cases c34 : 0 ≤ ((rd_T53 l0_1 a1).f2)
         ·
          rw [if_pos c34] at H
          have c34b0 : decide (0 ≤ ((rd_T53 l0_1 a1).f2)) = true := decide_eq_true c34
          clear c34
          by_cases c35 : ((rd_T53 l0_1 a1).f2) < (l0_0.length : Int)
          ·
           rw [if_pos c35] at H
           have c35b0 : decide (((rd_T53 l0_1 a1).f2) < (l0_0.length : Int)) = true := decide_eq_true c35
           clear c35
           by_cases c36 : 0 ≤ ((rd_T39 l0_0 ((rd_T53 l0_1 a1).f2)).f1)
           ·
            rw [if_pos c36] at H
            have c36b0 : decide (0 ≤ ((rd_T39 l0_0 ((rd_T53 l0_1 a1).f2)).f1)) = true := decide_eq_true c36
            clear c36
            by_cases c37 : ((rd_T39 l0_0 ((rd_T53 l0_1 a1).f2)).f1) < (l2.length : Int)
            ·
             rw [if_pos c37] at H
             have c37b0 : decide (((rd_T39 l0_0 ((rd_T53 l0_1 a1).f2)).f1) < (l2.length : Int)) = true := decide_eq_true c37
             clear c37
             simp only [Option.some.injEq, Prod.mk.injEq] at H
             obtain ⟨rfl, rfl, rfl⟩ := H
             have hnb38 := NB138_135.out
             have hnc38 := NB135_138.out
             have hnb39 := NB138_136.out
             have hnc39 := NB136_138.out
             have hcz40_0 : wr.cell? ⟨gb138, 0, none⟩ = some (.int .i64 ((rd_T53 l0_1 a1).f0)) := (blk_cell BK138.out 0).trans rfl
             have hcz40_1 : wr.cell? ⟨gb138, 1, none⟩ = some (.slice A137_1 ((rd_T53 l0_1 a1).f1).length c137_1) := (blk_cell BK138.out 1).trans rfl
             have hcz40_2 : wr.cell? ⟨gb138, 2, none⟩ = some (.int .i64 ((rd_T53 l0_1 a1).f2)) := (blk_cell BK138.out 2).trans rfl
             have hcz40_3 : wr.cell? ⟨gb138, 3, none⟩ = some (.int .u64 ((rd_T53 l0_1 a1).f3.f0)) := (blk_cell BK138.out 3).trans rfl
             have hcz40_4 : wr.cell? ⟨gb138, 4, none⟩ = some (.int .u64 ((rd_T53 l0_1 a1).f3.f1)) := (blk_cell BK138.out 4).trans rfl
             have hcz40_5 : wr.cell? ⟨gb138, 5, none⟩ = some (.int .u64 ((rd_T53 l0_1 a1).f3.f2)) := (blk_cell BK138.out 5).trans rfl
             have hcz40_6 : wr.cell? ⟨gb138, 6, none⟩ = some (.int .u64 ((rd_T53 l0_1 a1).f3.f3)) := (blk_cell BK138.out 6).trans rfl
             have hfz40_0 := blk_frozen BK138.out 0
             have hfz40_1 := blk_frozen BK138.out 1
             have hfz40_2 := blk_frozen BK138.out 2
             have hfz40_3 := blk_frozen BK138.out 3
             have hfz40_4 := blk_frozen BK138.out 4
             have hfz40_5 := blk_frozen BK138.out 5
             have hfz40_6 := blk_frozen BK138.out 6
             have hnb41 := NB135_136.out
             have hnc41 := NB136_135.out
             have hcz42_0 : wr.cell? ⟨gb135, 0, none⟩ = some (.slice A0_0 l0_0.length c0_0) := (blk_cell BK135.out 0).trans rfl
             have hcz42_1 : wr.cell? ⟨gb135, 1, none⟩ = some (.slice (some ad137) l0_1.length c0_1) := (blk_cell BK135.out 1).trans rfl
             have hfz42_0 := blk_frozen BK135.out 0
             have hfz42_1 := blk_frozen BK135.out 1
             have p144 : 0 ≤ (((rd_T53 l0_1 a1).f2) : Int) := of_decide_eq_true (by first | (with_reducible assumption) | assumption)
             have q144 : ((rd_T53 l0_1 a1).f2) < (l0_0.length : Int) := of_decide_eq_true (by first | (with_reducible assumption) | assumption)
             obtain ⟨ad144, e144, hx144_0, hx144_1⟩ := at_T39 HR0_0.out ((rd_T53 l0_1 a1).f2) p144 q144
             cases e144
             replace hx144_0 := (HB.out.cell (World.block_lt_of_cell? w _ hx144_0)).trans hx144_0
             replace hx144_1 := (HB.out.cell (World.block_lt_of_cell? w _ hx144_1)).trans hx144_1
             replace p144 := eq_true p144
             replace q144 := eq_true q144
             have p145 : 0 ≤ (((rd_T39 l0_0 ((rd_T53 l0_1 a1).f2)).f1) : Int) := of_decide_eq_true (by first | (with_reducible assumption) | assumption)
             have q145 : ((rd_T39 l0_0 ((rd_T53 l0_1 a1).f2)).f1) < (l2.length : Int) := of_decide_eq_true (by first | (with_reducible assumption) | assumption)
             obtain ⟨ad145, e145, hx145_0, hx145_1, hx145_2⟩ := at_T36 HR2.out ((rd_T39 l0_0 ((rd_T53 l0_1 a1).f2)).f1) p145 q145
             cases e145
             replace hx145_0 := (HB.out.cell (World.block_lt_of_cell? w _ hx145_0)).trans hx145_0
             replace hx145_1 := (HB.out.cell (World.block_lt_of_cell? w _ hx145_1)).trans hx145_1
             replace hx145_2 := (HB.out.cell (World.block_lt_of_cell? w _ hx145_2)).trans hx145_2
             replace p145 := eq_true p145
             replace q145 := eq_true q145
             have hcz43_0 : wr.cell? ⟨gb136, 0, none⟩ = some (.bool false) := (blk_cell BK136.out 0).trans rfl
             have hcz43_1 : wr.cell? ⟨gb136, 1, none⟩ = some (.bool false) := (blk_cell BK136.out 1).trans rfl
             have hcz43_2 : wr.cell? ⟨gb136, 2, none⟩ = some (.bool false) := (blk_cell BK136.out 2).trans rfl
             have hfz43_0 := blk_frozen BK136.out 0
             have hfz43_1 := blk_frozen BK136.out 1
             have hfz43_2 := blk_frozen BK136.out 2
             go_wp2
             refine bodyPost_ret (results_cell_row rfl _ _ gb136 36 #[.bool ((rd_T36 l2 ((rd_T39 l0_0 ((rd_T53 l0_1 a1).f2)).f1)).f0), .bool ((rd_T36 l2 ((rd_T39 l0_0 ((rd_T53 l0_1 a1).f2)).f1)).f1), .bool ((rd_T36 l2 ((rd_T39 l0_0 ((rd_T53 l0_1 a1).f2)).f1)).f2)] (0, 0) _ rfl (by (with_reducible repeat (first | refine blk_drewN ?_ _ | refine blk_drew ?_ | refine blk_alloc ?_ _)); refine blk_put (cs := #[.bool ((rd_T36 l2 ((rd_T39 l0_0 ((rd_T53 l0_1 a1).f2)).f1)).f0), .bool ((rd_T36 l2 ((rd_T39 l0_0 ((rd_T53 l0_1 a1).f2)).f1)).f1), .bool false]) ?_ 2 _ rfl; (with_reducible repeat (first | refine blk_drewN ?_ _ | refine blk_drew ?_ | refine blk_alloc ?_ _)); refine blk_put (cs := #[.bool ((rd_T36 l2 ((rd_T39 l0_0 ((rd_T53 l0_1 a1).f2)).f1)).f0), .bool false, .bool false]) ?_ 1 _ rfl; (with_reducible repeat (first | refine blk_drewN ?_ _ | refine blk_drew ?_ | refine blk_alloc ?_ _)); refine blk_put (cs := #[.bool false, .bool false, .bool false]) ?_ 0 _ rfl; (with_reducible repeat (first | refine blk_drewN ?_ _ | refine blk_drew ?_ | refine blk_alloc ?_ _)); exact BK136.out) Try.underlying36 rfl (by kernel_rfl)) rfl ?_
             exact ⟨by first | rfl | (simp [errW_none, errW_some] <;> rfl) | (simp [*, errW_none, errW_some] <;> rfl), by repeat (first | (with_reducible first | exact HB.out | apply below_alloc | apply pw_below_drewN | apply below_drew1 | refine below_set ?_ GE135.out | refine below_set ?_ GE136.out | refine below_set ?_ GE138.out) | exact HB.out)⟩
            ·
             rw [if_neg c37] at H
             exact absurd H (by simp)
           ·
            rw [if_neg c36] at H
            exact absurd H (by simp)
          ·
           rw [if_neg c35] at H
           exact absurd H (by simp)
         ·
          rw [if_neg c34] at H
          exact absurd H (by simp)
        ·
         rw [if_neg c33] at H
         have c33b0 : (((rd_T53 l0_1 a1).f0) == 2) = false := beq_eq_false_iff_ne.mpr c33
         have c33b1 : (((rd_T53 l0_1 a1).f0) != 2) = true := bne_iff_ne.mpr c33
         by_cases c44 : ((rd_T53 l0_1 a1).f0) = 3
         ·
          rw [if_pos c44] at H
          have c44b0 : (((rd_T53 l0_1 a1).f0) == 3) = true := beq_iff_eq.mpr c44
          have c44b1 : (((rd_T53 l0_1 a1).f0) != 3) = false := bne_eq_false_iff_eq.mpr c44
          clear c44
          replace H := Option.bind_eq_some_iff.mp H
          obtain ⟨⟨t146, t147, t148⟩, A450, H⟩ := H
          replace H : (some (t146, t147, t148)) = some (r1, r2, r3) := H
          have A45 := Aside0.mk A450
          clear A450
          simp only [Option.some.injEq, Prod.mk.injEq] at H
          obtain ⟨rfl, rfl, rfl⟩ := H
          have hnb46 := NB138_135.out
          have hnc46 := NB135_138.out
          have hnb47 := NB138_136.out
          have hnc47 := NB136_138.out
          have hcz48_0 : wr.cell? ⟨gb138, 0, none⟩ = some (.int .i64 ((rd_T53 l0_1 a1).f0)) := (blk_cell BK138.out 0).trans rfl
          have hcz48_1 : wr.cell? ⟨gb138, 1, none⟩ = some (.slice A137_1 ((rd_T53 l0_1 a1).f1).length c137_1) := (blk_cell BK138.out 1).trans rfl
          have hcz48_2 : wr.cell? ⟨gb138, 2, none⟩ = some (.int .i64 ((rd_T53 l0_1 a1).f2)) := (blk_cell BK138.out 2).trans rfl
          have hcz48_3 : wr.cell? ⟨gb138, 3, none⟩ = some (.int .u64 ((rd_T53 l0_1 a1).f3.f0)) := (blk_cell BK138.out 3).trans rfl
          have hcz48_4 : wr.cell? ⟨gb138, 4, none⟩ = some (.int .u64 ((rd_T53 l0_1 a1).f3.f1)) := (blk_cell BK138.out 4).trans rfl
          have hcz48_5 : wr.cell? ⟨gb138, 5, none⟩ = some (.int .u64 ((rd_T53 l0_1 a1).f3.f2)) := (blk_cell BK138.out 5).trans rfl
          have hcz48_6 : wr.cell? ⟨gb138, 6, none⟩ = some (.int .u64 ((rd_T53 l0_1 a1).f3.f3)) := (blk_cell BK138.out 6).trans rfl
          have hfz48_0 := blk_frozen BK138.out 0
          have hfz48_1 := blk_frozen BK138.out 1
          have hfz48_2 := blk_frozen BK138.out 2
          have hfz48_3 := blk_frozen BK138.out 3
          have hfz48_4 := blk_frozen BK138.out 4
          have hfz48_5 := blk_frozen BK138.out 5
          have hfz48_6 := blk_frozen BK138.out 6
          obtain ⟨Ao49, co49, eo49⟩ := Kd.R_slice HO_8.out
          subst eo49
          go_wp2_with (first | ((with_reducible refine gate_callee (f := 31) rfl ?_); refine goesL_ (some 58) rfl rfl Try.func31 (by kernel_rfl) rfl #[.slice Ao49 x8_1.length co49] rfl (by (try simp only [List.map_toArray, List.map_cons, List.map_nil]); first | done | rfl | (simp only [List.length_drop, List.length_take]; rfl)) ?_; (with_reducible refine (flow_seq.calls k1 _ _ x8_1 t146 t147 t148 _ ?side1 ?side2 A45.out).mono ?_); (case side1 => repeat (first | exact (Kd.R_reads' HO_8.out).2.2 | (with_reducible refine Kd.C_alloc ?_ _) | (with_reducible refine Kd.C_drewN ?_ _) | (with_reducible refine Kd.C_drew ?_))); (case side2 => exact (Kd.R_reads' HO_8.out).2.1); rintro e w50 ⟨rfl, hb⟩; refine ⟨_, rfl, ?_⟩; have n0_ := Aside0.mk (Kd.R_below (by (with_reducible repeat (first | apply Kd.R_alloc | apply Kd.R_drewN | apply Kd.R_drew)); exact HO_8.out) hb); have n1_ := Aside0.mk (blk_below (g := gb135) (o := .cells #[.slice A0_0 l0_0.length c0_0, .slice (some ad137) l0_1.length c0_1] 25 (0, 0)) (by (with_reducible repeat (first | refine blk_drewN ?_ _ | refine blk_drew ?_ | refine blk_alloc ?_ _)); exact BK135.out) hb); have n2_ := Aside0.mk (blk_below (g := gb136) (o := .cells #[.bool false, .bool false, .bool false] 36 (0, 0)) (by (with_reducible repeat (first | refine blk_drewN ?_ _ | refine blk_drew ?_ | refine blk_alloc ?_ _)); exact BK136.out) hb); have n3_ := Aside0.mk (blk_below (g := gb138) (o := .cells #[.int .i64 ((rd_T53 l0_1 a1).f0), .slice A137_1 ((rd_T53 l0_1 a1).f1).length c137_1, .int .i64 ((rd_T53 l0_1 a1).f2), .int .u64 ((rd_T53 l0_1 a1).f3.f0), .int .u64 ((rd_T53 l0_1 a1).f3.f1), .int .u64 ((rd_T53 l0_1 a1).f3.f2), .int .u64 ((rd_T53 l0_1 a1).f3.f3)] 53 (0, 0)) (by (with_reducible repeat (first | refine blk_drewN ?_ _ | refine blk_drew ?_ | refine blk_alloc ?_ _)); exact BK138.out) hb); have n4_ := Aside0.mk (below_step (by repeat (first | (with_reducible first | exact HB.out | apply below_alloc | apply pw_below_drewN | apply below_drew1 | refine below_set ?_ GE135.out | refine below_set ?_ GE136.out | refine below_set ?_ GE138.out) | exact HB.out)) hb); clear HO_8; clear BK135; clear BK136; clear BK138; clear HB; have HO_8 := n0_; have BK135 := n1_; have BK136 := n2_; have BK138 := n3_; have HB := n4_; clear n0_ n1_ n2_ n3_ n4_; (try clear hb); (try clear hb2); (try clear hk); (try clear hi); have hnb51 := NB136_135.out; have hnc51 := NB135_136.out; have hcz52_0 : w50.cell? ⟨gb136, 0, none⟩ = some (.bool false) := (blk_cell BK136.out 0).trans rfl; have hcz52_1 : w50.cell? ⟨gb136, 1, none⟩ = some (.bool false) := (blk_cell BK136.out 1).trans rfl; have hcz52_2 : w50.cell? ⟨gb136, 2, none⟩ = some (.bool false) := (blk_cell BK136.out 2).trans rfl; have hfz52_0 := blk_frozen BK136.out 0; have hfz52_1 := blk_frozen BK136.out 1; have hfz52_2 := blk_frozen BK136.out 2))
          refine bodyPost_ret (results_cell_row rfl _ _ gb136 36 #[.bool t146, .bool t147, .bool t148] (0, 0) _ rfl (by (with_reducible repeat (first | refine blk_drewN ?_ _ | refine blk_drew ?_ | refine blk_alloc ?_ _)); refine blk_put (cs := #[.bool t146, .bool t147, .bool false]) ?_ 2 _ rfl; (with_reducible repeat (first | refine blk_drewN ?_ _ | refine blk_drew ?_ | refine blk_alloc ?_ _)); refine blk_put (cs := #[.bool t146, .bool false, .bool false]) ?_ 1 _ rfl; (with_reducible repeat (first | refine blk_drewN ?_ _ | refine blk_drew ?_ | refine blk_alloc ?_ _)); refine blk_put (cs := #[.bool false, .bool false, .bool false]) ?_ 0 _ rfl; (with_reducible repeat (first | refine blk_drewN ?_ _ | refine blk_drew ?_ | refine blk_alloc ?_ _)); exact BK136.out) Try.underlying36 rfl (by kernel_rfl)) rfl ?_
          exact ⟨by first | rfl | (simp [errW_none, errW_some] <;> rfl) | (simp [*, errW_none, errW_some] <;> rfl), by repeat (first | (with_reducible first | exact HB.out | apply below_alloc | apply pw_below_drewN | apply below_drew1 | refine below_set ?_ GE135.out | refine below_set ?_ GE136.out | refine below_set ?_ GE138.out) | exact HB.out)⟩
         ·
          rw [if_neg c44] at H
          have c44b0 : (((rd_T53 l0_1 a1).f0) == 3) = false := beq_eq_false_iff_ne.mpr c44
          have c44b1 : (((rd_T53 l0_1 a1).f0) != 3) = true := bne_iff_ne.mpr c44
          by_cases c53 : ((rd_T53 l0_1 a1).f0) = 4
          ·
           rw [if_pos c53] at H
           have c53b0 : (((rd_T53 l0_1 a1).f0) == 4) = true := beq_iff_eq.mpr c53
           have c53b1 : (((rd_T53 l0_1 a1).f0) != 4) = false := bne_eq_false_iff_eq.mpr c53
           clear c53
           replace H := Option.bind_eq_some_iff.mp H
           obtain ⟨⟨t149, t150, t151⟩, A540, H⟩ := H
           replace H : (some (t149, t150, t151)) = some (r1, r2, r3) := H
           have A54 := Aside0.mk A540
           clear A540
           simp only [Option.some.injEq, Prod.mk.injEq] at H
           obtain ⟨rfl, rfl, rfl⟩ := H
           have hnb55 := NB138_135.out
           have hnc55 := NB135_138.out
           have hnb56 := NB138_136.out
           have hnc56 := NB136_138.out
           have hcz57_0 : wr.cell? ⟨gb138, 0, none⟩ = some (.int .i64 ((rd_T53 l0_1 a1).f0)) := (blk_cell BK138.out 0).trans rfl
           have hcz57_1 : wr.cell? ⟨gb138, 1, none⟩ = some (.slice A137_1 ((rd_T53 l0_1 a1).f1).length c137_1) := (blk_cell BK138.out 1).trans rfl
           have hcz57_2 : wr.cell? ⟨gb138, 2, none⟩ = some (.int .i64 ((rd_T53 l0_1 a1).f2)) := (blk_cell BK138.out 2).trans rfl
           have hcz57_3 : wr.cell? ⟨gb138, 3, none⟩ = some (.int .u64 ((rd_T53 l0_1 a1).f3.f0)) := (blk_cell BK138.out 3).trans rfl
           have hcz57_4 : wr.cell? ⟨gb138, 4, none⟩ = some (.int .u64 ((rd_T53 l0_1 a1).f3.f1)) := (blk_cell BK138.out 4).trans rfl
           have hcz57_5 : wr.cell? ⟨gb138, 5, none⟩ = some (.int .u64 ((rd_T53 l0_1 a1).f3.f2)) := (blk_cell BK138.out 5).trans rfl
           have hcz57_6 : wr.cell? ⟨gb138, 6, none⟩ = some (.int .u64 ((rd_T53 l0_1 a1).f3.f3)) := (blk_cell BK138.out 6).trans rfl
           have hfz57_0 := blk_frozen BK138.out 0
           have hfz57_1 := blk_frozen BK138.out 1
           have hfz57_2 := blk_frozen BK138.out 2
           have hfz57_3 := blk_frozen BK138.out 3
           have hfz57_4 := blk_frozen BK138.out 4
           have hfz57_5 := blk_frozen BK138.out 5
           have hfz57_6 := blk_frozen BK138.out 6
           obtain ⟨Ao58, co58, eo58⟩ := Kd.R_slice HO_8.out
           subst eo58
           go_wp2_with (first | ((with_reducible refine gate_callee (f := 32) rfl ?_); refine goesL_ (some 62) rfl rfl Try.func32 (by kernel_rfl) rfl #[.slice Ao58 x8_1.length co58] rfl (by (try simp only [List.map_toArray, List.map_cons, List.map_nil]); first | done | rfl | (simp only [List.length_drop, List.length_take]; rfl)) ?_; (with_reducible refine (flow_choice.calls k1 _ _ x8_1 t149 t150 t151 _ ?side1 ?side2 A54.out).mono ?_); (case side1 => repeat (first | exact (Kd.R_reads' HO_8.out).2.2 | (with_reducible refine Kd.C_alloc ?_ _) | (with_reducible refine Kd.C_drewN ?_ _) | (with_reducible refine Kd.C_drew ?_))); (case side2 => exact (Kd.R_reads' HO_8.out).2.1); rintro e w59 ⟨rfl, hb⟩; refine ⟨_, rfl, ?_⟩; have n0_ := Aside0.mk (Kd.R_below (by (with_reducible repeat (first | apply Kd.R_alloc | apply Kd.R_drewN | apply Kd.R_drew)); exact HO_8.out) hb); have n1_ := Aside0.mk (blk_below (g := gb135) (o := .cells #[.slice A0_0 l0_0.length c0_0, .slice (some ad137) l0_1.length c0_1] 25 (0, 0)) (by (with_reducible repeat (first | refine blk_drewN ?_ _ | refine blk_drew ?_ | refine blk_alloc ?_ _)); exact BK135.out) hb); have n2_ := Aside0.mk (blk_below (g := gb136) (o := .cells #[.bool false, .bool false, .bool false] 36 (0, 0)) (by (with_reducible repeat (first | refine blk_drewN ?_ _ | refine blk_drew ?_ | refine blk_alloc ?_ _)); exact BK136.out) hb); have n3_ := Aside0.mk (blk_below (g := gb138) (o := .cells #[.int .i64 ((rd_T53 l0_1 a1).f0), .slice A137_1 ((rd_T53 l0_1 a1).f1).length c137_1, .int .i64 ((rd_T53 l0_1 a1).f2), .int .u64 ((rd_T53 l0_1 a1).f3.f0), .int .u64 ((rd_T53 l0_1 a1).f3.f1), .int .u64 ((rd_T53 l0_1 a1).f3.f2), .int .u64 ((rd_T53 l0_1 a1).f3.f3)] 53 (0, 0)) (by (with_reducible repeat (first | refine blk_drewN ?_ _ | refine blk_drew ?_ | refine blk_alloc ?_ _)); exact BK138.out) hb); have n4_ := Aside0.mk (below_step (by repeat (first | (with_reducible first | exact HB.out | apply below_alloc | apply pw_below_drewN | apply below_drew1 | refine below_set ?_ GE135.out | refine below_set ?_ GE136.out | refine below_set ?_ GE138.out) | exact HB.out)) hb); clear HO_8; clear BK135; clear BK136; clear BK138; clear HB; have HO_8 := n0_; have BK135 := n1_; have BK136 := n2_; have BK138 := n3_; have HB := n4_; clear n0_ n1_ n2_ n3_ n4_; (try clear hb); (try clear hb2); (try clear hk); (try clear hi); have hnb60 := NB136_135.out; have hnc60 := NB135_136.out; have hcz61_0 : w59.cell? ⟨gb136, 0, none⟩ = some (.bool false) := (blk_cell BK136.out 0).trans rfl; have hcz61_1 : w59.cell? ⟨gb136, 1, none⟩ = some (.bool false) := (blk_cell BK136.out 1).trans rfl; have hcz61_2 : w59.cell? ⟨gb136, 2, none⟩ = some (.bool false) := (blk_cell BK136.out 2).trans rfl; have hfz61_0 := blk_frozen BK136.out 0; have hfz61_1 := blk_frozen BK136.out 1; have hfz61_2 := blk_frozen BK136.out 2))
           refine bodyPost_ret (results_cell_row rfl _ _ gb136 36 #[.bool t149, .bool t150, .bool t151] (0, 0) _ rfl (by (with_reducible repeat (first | refine blk_drewN ?_ _ | refine blk_drew ?_ | refine blk_alloc ?_ _)); refine blk_put (cs := #[.bool t149, .bool t150, .bool false]) ?_ 2 _ rfl; (with_reducible repeat (first | refine blk_drewN ?_ _ | refine blk_drew ?_ | refine blk_alloc ?_ _)); refine blk_put (cs := #[.bool t149, .bool false, .bool false]) ?_ 1 _ rfl; (with_reducible repeat (first | refine blk_drewN ?_ _ | refine blk_drew ?_ | refine blk_alloc ?_ _)); refine blk_put (cs := #[.bool false, .bool false, .bool false]) ?_ 0 _ rfl; (with_reducible repeat (first | refine blk_drewN ?_ _ | refine blk_drew ?_ | refine blk_alloc ?_ _)); exact BK136.out) Try.underlying36 rfl (by kernel_rfl)) rfl ?_
           exact ⟨by first | rfl | (simp [errW_none, errW_some] <;> rfl) | (simp [*, errW_none, errW_some] <;> rfl), by repeat (first | (with_reducible first | exact HB.out | apply below_alloc | apply pw_below_drewN | apply below_drew1 | refine below_set ?_ GE135.out | refine below_set ?_ GE136.out | refine below_set ?_ GE138.out) | exact HB.out)⟩
          ·
           rw [if_neg c53] at H
           have c53b0 : (((rd_T53 l0_1 a1).f0) == 4) = false := beq_eq_false_iff_ne.mpr c53
           have c53b1 : (((rd_T53 l0_1 a1).f0) != 4) = true := bne_iff_ne.mpr c53
           by_cases c62 : 0 < (x8_1.length : Int)
           ·
            rw [if_pos c62] at H
            have c62b0 : decide (0 < (x8_1.length : Int)) = true := decide_eq_true c62
            have c62b1 : decide (0 < x8_1.length) = true := decide_eq_true (by omega)
            clear c62
            replace H := Option.bind_eq_some_iff.mp H
            obtain ⟨⟨t153, t154, t155⟩, A630, H⟩ := H
            replace H : (some (t153, t154, t155)) = some (r1, r2, r3) := H
            have A63 := Aside0.mk A630
            clear A630
            simp only [Option.some.injEq, Prod.mk.injEq] at H
            obtain ⟨rfl, rfl, rfl⟩ := H
            have hnb64 := NB138_135.out
            have hnc64 := NB135_138.out
            have hnb65 := NB138_136.out
            have hnc65 := NB136_138.out
            have hcz66_0 : wr.cell? ⟨gb138, 0, none⟩ = some (.int .i64 ((rd_T53 l0_1 a1).f0)) := (blk_cell BK138.out 0).trans rfl
            have hcz66_1 : wr.cell? ⟨gb138, 1, none⟩ = some (.slice A137_1 ((rd_T53 l0_1 a1).f1).length c137_1) := (blk_cell BK138.out 1).trans rfl
            have hcz66_2 : wr.cell? ⟨gb138, 2, none⟩ = some (.int .i64 ((rd_T53 l0_1 a1).f2)) := (blk_cell BK138.out 2).trans rfl
            have hcz66_3 : wr.cell? ⟨gb138, 3, none⟩ = some (.int .u64 ((rd_T53 l0_1 a1).f3.f0)) := (blk_cell BK138.out 3).trans rfl
            have hcz66_4 : wr.cell? ⟨gb138, 4, none⟩ = some (.int .u64 ((rd_T53 l0_1 a1).f3.f1)) := (blk_cell BK138.out 4).trans rfl
            have hcz66_5 : wr.cell? ⟨gb138, 5, none⟩ = some (.int .u64 ((rd_T53 l0_1 a1).f3.f2)) := (blk_cell BK138.out 5).trans rfl
            have hcz66_6 : wr.cell? ⟨gb138, 6, none⟩ = some (.int .u64 ((rd_T53 l0_1 a1).f3.f3)) := (blk_cell BK138.out 6).trans rfl
            have hfz66_0 := blk_frozen BK138.out 0
            have hfz66_1 := blk_frozen BK138.out 1
            have hfz66_2 := blk_frozen BK138.out 2
            have hfz66_3 := blk_frozen BK138.out 3
            have hfz66_4 := blk_frozen BK138.out 4
            have hfz66_5 := blk_frozen BK138.out 5
            have hfz66_6 := blk_frozen BK138.out 6
            try go_wp2
            have n0_ := Aside0.mk (Kd.R_drew HO_8.out)
            have n1_ := Aside0.mk (blk_drew BK135.out)
            have n2_ := Aside0.mk (blk_drew BK136.out)
            have n3_ := Aside0.mk (blk_drew BK138.out)
            have n4_ := Aside0.mk (below_drew1 HB.out)
            clear HO_8
            clear BK135
            clear BK136
            clear BK138
            clear HB
            have HO_8 := n0_
            have BK135 := n1_
            have BK136 := n2_
            have BK138 := n3_
            have HB := n4_
            clear n0_ n1_ n2_ n3_ n4_
            obtain ⟨Ao68, co68, eo68⟩ := Kd.R_slice HO_8.out
            (first | subst eo68 | (injection eo68 with f1_ f2_ f3_; have f4_ := f1_.symm; have f5_ := f3_.symm; clear f1_ f2_ f3_; subst f4_; subst f5_))
            have p152 : 0 ≤ (0 : Int) := (by omega)
            have q152 : 0 < (x8_1.length : Int) := of_decide_eq_true (by first | (with_reducible assumption) | assumption)
            obtain ⟨ad152, e152, hx152_0, hx152_1, hx152_2⟩ := at_T36 (Kd.R_reads' HO_8.out).2.2 0 p152 q152
            cases e152
            have qi152 : (0 < x8_1.length) = True := eq_true (by omega)
            (try rw [show ((0 : Int)).toNat = 0 from rfl] at hx152_0)
            (try rw [show 0 * 3 = 0 from rfl] at hx152_0)
            (try rw [Addr.add_zero'] at hx152_0)
            (try rw [show ((0 : Int)).toNat = 0 from rfl] at hx152_1)
            (try rw [show 0 * 3 = 0 from rfl] at hx152_1)
            (try rw [Addr.add_zero'] at hx152_1)
            (try rw [show ((0 : Int)).toNat = 0 from rfl] at hx152_2)
            (try rw [show 0 * 3 = 0 from rfl] at hx152_2)
            (try rw [Addr.add_zero'] at hx152_2)
            replace p152 := eq_true p152
            replace q152 := eq_true q152
            refine start_ (n := 7) (S := fun w' => w'.cell? ⟨gb138, 0, none⟩ = some (.int .i64 ((rd_T53 l0_1 a1).f0)) ∧ w'.cell? ⟨gb138, 1, none⟩ = some (.slice A137_1 ((rd_T53 l0_1 a1).f1).length c137_1) ∧ w'.cell? ⟨gb138, 2, none⟩ = some (.int .i64 ((rd_T53 l0_1 a1).f2)) ∧ w'.cell? ⟨gb138, 3, none⟩ = some (.int .u64 ((rd_T53 l0_1 a1).f3.f0)) ∧ w'.cell? ⟨gb138, 4, none⟩ = some (.int .u64 ((rd_T53 l0_1 a1).f3.f1)) ∧ w'.cell? ⟨gb138, 5, none⟩ = some (.int .u64 ((rd_T53 l0_1 a1).f3.f2)) ∧ w'.cell? ⟨gb138, 6, none⟩ = some (.int .u64 ((rd_T53 l0_1 a1).f3.f3)) ∧ w'.cell? ad152 = some (.bool ((rd_T36 x8_1 0).f0)) ∧ w'.cell? ⟨ad152.block, ad152.off + 1, none⟩ = some (.bool ((rd_T36 x8_1 0).f1)) ∧ w'.cell? ⟨ad152.block, ad152.off + 2, none⟩ = some (.bool ((rd_T36 x8_1 0).f2))) (ds := []) #[false, false, false, false, false, false, false] (by kernel_rfl) rfl rfl ⟨(blk_cell BK138.out 0).trans rfl, (blk_cell BK138.out 1).trans rfl, (blk_cell BK138.out 2).trans rfl, (blk_cell BK138.out 3).trans rfl, (blk_cell BK138.out 4).trans rfl, (blk_cell BK138.out 5).trans rfl, (blk_cell BK138.out 6).trans rfl, hx152_0, hx152_1, hx152_2⟩ (fun hHeld => ?_)
            generalize wr.drew = w67 at HO_8 BK135 BK136 BK138 HB hx152_0 hx152_1 hx152_2 hHeld ⊢
            refine pure_ (i := 0) (N := some 63) (v := ?_) (a' := ?_) #[true, false, false, false, false, false, false] rfl rfl (by kernel_rfl) (fun _ _ _ h => h) (Or.inl ⟨by rfl, ?_⟩) ?_ ?_
            rotate_left
            ·
             intro w'
             go_simp
             with_reducible rfl
            rotate_left
            ·
             simp only [Act.put, List.setIfInBounds_toArray, List.set_cons_zero, List.set_cons_succ, i64_w, i32_w]
             rfl
            refine pure_ (i := 2) (N := some 65) (v := ?_) (a' := ?_) #[true, false, true, false, false, false, false] rfl rfl (by kernel_rfl) (fun _ _ _ h => h) (Or.inl ⟨by rfl, ?_⟩) ?_ ?_
            rotate_left
            ·
             intro w'
             go_simp
             with_reducible rfl
            rotate_left
            ·
             simp only [Act.put, List.setIfInBounds_toArray, List.set_cons_zero, List.set_cons_succ, i64_w, i32_w]
             rfl
            refine pure_ (i := 3) (N := some 66) (v := ?_) (a' := ?_) #[true, false, true, true, false, false, false] rfl rfl (by kernel_rfl) (fun _ _ _ h => h) (Or.inl ⟨by rfl, ?_⟩) ?_ ?_
            rotate_left
            ·
             intro w'
             go_simp
             with_reducible rfl
            rotate_left
            ·
             simp only [Act.put, List.setIfInBounds_toArray, List.set_cons_zero, List.set_cons_succ, i64_w, i32_w]
             rfl
            refine take_ (i := 1) (N := some 64) (v := ?_) (a' := ?_) #[true, true, true, true, false, false, false] rfl rfl (by kernel_rfl) (fun _ _ _ h => h) (Or.inl ⟨by rfl, ?_⟩) hHeld ?_ ?_
            rotate_left
            ·
             rintro w' ⟨s0, s1, s2, s3, s4, s5, s6, s7, s8, s9⟩
             go_simp
             with_reducible rfl
            rotate_left
            ·
             simp only [Act.put, List.setIfInBounds_toArray, List.set_cons_zero, List.set_cons_succ, i64_w, i32_w]
             rfl
            refine take_ (i := 4) (N := some 67) (v := ?_) (a' := ?_) #[true, true, true, true, true, false, false] rfl rfl (by kernel_rfl) (fun _ _ _ h => h) (Or.inl ⟨by rfl, ?_⟩) hHeld ?_ ?_
            rotate_left
            ·
             rintro w' ⟨s0, s1, s2, s3, s4, s5, s6, s7, s8, s9⟩
             go_simp
             with_reducible rfl
            rotate_left
            ·
             simp only [Act.put, List.setIfInBounds_toArray, List.set_cons_zero, List.set_cons_succ, i64_w, i32_w]
             rfl
            refine one_ (i := 5) (N := some 68) #[true, true, true, true, true, true, false] rfl rfl (by kernel_rfl) (by decide) (fun K hK => ?_)
            refine goes_ Try.func33 (by kernel_rfl) rfl #[.int .i64 ((rd_T53 l0_1 a1).f0), .agg #[.bool ((rd_T36 x8_1 0).f0), .bool ((rd_T36 x8_1 0).f1), .bool ((rd_T36 x8_1 0).f2)]] (by rfl) rfl rfl (by (try simp only [List.map_toArray, List.map_cons, List.map_nil]); first | done | rfl | (simp only [List.length_drop, List.length_take]; rfl)) ?_
            with_reducible refine (flow_unary.calls ((rd_T53 l0_1 a1).f0) ((rd_T36 x8_1 0).f0) ((rd_T36 x8_1 0).f1) ((rd_T36 x8_1 0).f2) t153 t154 t155 _ A63.out).mono ?_
            rintro e w69 ⟨rfl, hb⟩
            have HS7_ := (hb.cell (World.block_lt_of_cell? _ _ (hHeld.2.2.2.2.2.2.2.1))).trans (hHeld.2.2.2.2.2.2.2.1)
            have HS8_ := (hb.cell (World.block_lt_of_cell? _ _ (hHeld.2.2.2.2.2.2.2.2.1))).trans (hHeld.2.2.2.2.2.2.2.2.1)
            have HS9_ := (hb.cell (World.block_lt_of_cell? _ _ (hHeld.2.2.2.2.2.2.2.2.2))).trans (hHeld.2.2.2.2.2.2.2.2.2)
            refine ⟨_, rfl, ?_⟩
            have n0_ := Aside0.mk (Kd.R_below (by (with_reducible repeat (first | apply Kd.R_alloc | apply Kd.R_drewN | apply Kd.R_drew)); exact HO_8.out) hb)
            have n1_ := Aside0.mk (blk_below (g := gb135) (o := .cells #[.slice A0_0 l0_0.length c0_0, .slice (some ad137) l0_1.length c0_1] 25 (0, 0)) (by (with_reducible repeat (first | refine blk_drewN ?_ _ | refine blk_drew ?_ | refine blk_alloc ?_ _)); exact BK135.out) hb)
            have n2_ := Aside0.mk (blk_below (g := gb136) (o := .cells #[.bool false, .bool false, .bool false] 36 (0, 0)) (by (with_reducible repeat (first | refine blk_drewN ?_ _ | refine blk_drew ?_ | refine blk_alloc ?_ _)); exact BK136.out) hb)
            have n3_ := Aside0.mk (blk_below (g := gb138) (o := .cells #[.int .i64 ((rd_T53 l0_1 a1).f0), .slice A137_1 ((rd_T53 l0_1 a1).f1).length c137_1, .int .i64 ((rd_T53 l0_1 a1).f2), .int .u64 ((rd_T53 l0_1 a1).f3.f0), .int .u64 ((rd_T53 l0_1 a1).f3.f1), .int .u64 ((rd_T53 l0_1 a1).f3.f2), .int .u64 ((rd_T53 l0_1 a1).f3.f3)] 53 (0, 0)) (by (with_reducible repeat (first | refine blk_drewN ?_ _ | refine blk_drew ?_ | refine blk_alloc ?_ _)); exact BK138.out) hb)
            have n4_ := Aside0.mk (below_step (by repeat (first | (with_reducible first | exact HB.out | apply below_alloc | apply pw_below_drewN | apply below_drew1 | refine below_set ?_ GE135.out | refine below_set ?_ GE136.out | refine below_set ?_ GE138.out) | exact HB.out)) hb)
            clear HO_8
            clear BK135
            clear BK136
            clear BK138
            clear HB
            have HO_8 := n0_
            have BK135 := n1_
            have BK136 := n2_
            have BK138 := n3_
            have HB := n4_
            clear n0_ n1_ n2_ n3_ n4_
            (try clear hb)
            (try clear hb2)
            (try clear hk)
            (try clear hi)
            refine hK.out _ _ ⟨(blk_cell BK138.out 0).trans rfl, (blk_cell BK138.out 1).trans rfl, (blk_cell BK138.out 2).trans rfl, (blk_cell BK138.out 3).trans rfl, (blk_cell BK138.out 4).trans rfl, (blk_cell BK138.out 5).trans rfl, (blk_cell BK138.out 6).trans rfl, HS7_, HS8_, HS9_⟩ (fun hHeld => ?_)
            clear hK K
            refine norm_ (a' := ?_) ?_ ?_
            rotate_left
            ·
             show Act.put _ (some 68) _ = _
             simp only [Act.put, List.setIfInBounds_toArray, List.set_cons_zero, List.set_cons_succ, i64_w, i32_w]
             rfl
            refine one_ (i := 6) (N := none) #[true, true, true, true, true, true, true] rfl rfl (by kernel_rfl) (by decide) (fun K hK => ?_)
            have hs70 : w69.cell? ⟨gb136, 0, none⟩ = some (.bool false) := (blk_cell BK136.out 0).trans rfl
            have hfs70 := blk_frozen BK136.out 0
            have hns70_0 := NB135_136.out
            have hns70_2 := NB138_136.out
            have hms70_0 := NB136_135.out
            have hms70_2 := NB136_138.out
            have hs71 : w69.cell? ⟨gb136, 1, none⟩ = some (.bool false) := (blk_cell BK136.out 1).trans rfl
            have hfs71 := blk_frozen BK136.out 1
            have hns71_0 := NB135_136.out
            have hns71_2 := NB138_136.out
            have hms71_0 := NB136_135.out
            have hms71_2 := NB136_138.out
            have hs72 : w69.cell? ⟨gb136, 2, none⟩ = some (.bool false) := (blk_cell BK136.out 2).trans rfl
            have hfs72 := blk_frozen BK136.out 2
            have hns72_0 := NB135_136.out
            have hns72_2 := NB138_136.out
            have hms72_0 := NB136_135.out
            have hms72_2 := NB136_138.out
            refine skip_ (w1 := ?_) (by rfl) rfl ?_ ?_
            rotate_left
            ·
             go_simp
             rfl
            refine hK.out _ _ ⟨((cell_far (p := ⟨gb136, _, none⟩) NB138_136.out _).trans (((cell_far (p := ⟨gb136, _, none⟩) NB138_136.out _).trans (((cell_far (p := ⟨gb136, _, none⟩) NB138_136.out _).trans (hHeld.1)))))), ((cell_far (p := ⟨gb136, _, none⟩) NB138_136.out _).trans (((cell_far (p := ⟨gb136, _, none⟩) NB138_136.out _).trans (((cell_far (p := ⟨gb136, _, none⟩) NB138_136.out _).trans (hHeld.2.1)))))), ((cell_far (p := ⟨gb136, _, none⟩) NB138_136.out _).trans (((cell_far (p := ⟨gb136, _, none⟩) NB138_136.out _).trans (((cell_far (p := ⟨gb136, _, none⟩) NB138_136.out _).trans (hHeld.2.2.1)))))), ((cell_far (p := ⟨gb136, _, none⟩) NB138_136.out _).trans (((cell_far (p := ⟨gb136, _, none⟩) NB138_136.out _).trans (((cell_far (p := ⟨gb136, _, none⟩) NB138_136.out _).trans (hHeld.2.2.2.1)))))), ((cell_far (p := ⟨gb136, _, none⟩) NB138_136.out _).trans (((cell_far (p := ⟨gb136, _, none⟩) NB138_136.out _).trans (((cell_far (p := ⟨gb136, _, none⟩) NB138_136.out _).trans (hHeld.2.2.2.2.1)))))), ((cell_far (p := ⟨gb136, _, none⟩) NB138_136.out _).trans (((cell_far (p := ⟨gb136, _, none⟩) NB138_136.out _).trans (((cell_far (p := ⟨gb136, _, none⟩) NB138_136.out _).trans (hHeld.2.2.2.2.2.1)))))), ((cell_far (p := ⟨gb136, _, none⟩) NB138_136.out _).trans (((cell_far (p := ⟨gb136, _, none⟩) NB138_136.out _).trans (((cell_far (p := ⟨gb136, _, none⟩) NB138_136.out _).trans (hHeld.2.2.2.2.2.2.1)))))), ((cell_far (p := ⟨gb136, _, none⟩) (by first | exact Kd.own_blk (Kd.R_away HO_8.out (fun _ hk => hk)) | (rw [add_block]; exact Kd.own_blk (Kd.R_away HO_8.out (fun _ hk => hk))) | (show (Addr.add _ _).block ≠ _; rw [add_block]; exact Kd.own_blk (Kd.R_away HO_8.out (fun _ hk => hk))) | (dsimp only; exact Kd.own_blk (Kd.R_away HO_8.out (fun _ hk => hk)))) _).trans (((cell_far (p := ⟨gb136, _, none⟩) (by first | exact Kd.own_blk (Kd.R_away HO_8.out (fun _ hk => hk)) | (rw [add_block]; exact Kd.own_blk (Kd.R_away HO_8.out (fun _ hk => hk))) | (show (Addr.add _ _).block ≠ _; rw [add_block]; exact Kd.own_blk (Kd.R_away HO_8.out (fun _ hk => hk))) | (dsimp only; exact Kd.own_blk (Kd.R_away HO_8.out (fun _ hk => hk)))) _).trans (((cell_far (p := ⟨gb136, _, none⟩) (by first | exact Kd.own_blk (Kd.R_away HO_8.out (fun _ hk => hk)) | (rw [add_block]; exact Kd.own_blk (Kd.R_away HO_8.out (fun _ hk => hk))) | (show (Addr.add _ _).block ≠ _; rw [add_block]; exact Kd.own_blk (Kd.R_away HO_8.out (fun _ hk => hk))) | (dsimp only; exact Kd.own_blk (Kd.R_away HO_8.out (fun _ hk => hk)))) _).trans (hHeld.2.2.2.2.2.2.2.1)))))), ((cell_far (p := ⟨gb136, _, none⟩) (by first | exact Kd.own_blk (Kd.R_away HO_8.out (fun _ hk => hk)) | (rw [add_block]; exact Kd.own_blk (Kd.R_away HO_8.out (fun _ hk => hk))) | (show (Addr.add _ _).block ≠ _; rw [add_block]; exact Kd.own_blk (Kd.R_away HO_8.out (fun _ hk => hk))) | (dsimp only; exact Kd.own_blk (Kd.R_away HO_8.out (fun _ hk => hk)))) _).trans (((cell_far (p := ⟨gb136, _, none⟩) (by first | exact Kd.own_blk (Kd.R_away HO_8.out (fun _ hk => hk)) | (rw [add_block]; exact Kd.own_blk (Kd.R_away HO_8.out (fun _ hk => hk))) | (show (Addr.add _ _).block ≠ _; rw [add_block]; exact Kd.own_blk (Kd.R_away HO_8.out (fun _ hk => hk))) | (dsimp only; exact Kd.own_blk (Kd.R_away HO_8.out (fun _ hk => hk)))) _).trans (((cell_far (p := ⟨gb136, _, none⟩) (by first | exact Kd.own_blk (Kd.R_away HO_8.out (fun _ hk => hk)) | (rw [add_block]; exact Kd.own_blk (Kd.R_away HO_8.out (fun _ hk => hk))) | (show (Addr.add _ _).block ≠ _; rw [add_block]; exact Kd.own_blk (Kd.R_away HO_8.out (fun _ hk => hk))) | (dsimp only; exact Kd.own_blk (Kd.R_away HO_8.out (fun _ hk => hk)))) _).trans (hHeld.2.2.2.2.2.2.2.2.1)))))), ((cell_far (p := ⟨gb136, _, none⟩) (by first | exact Kd.own_blk (Kd.R_away HO_8.out (fun _ hk => hk)) | (rw [add_block]; exact Kd.own_blk (Kd.R_away HO_8.out (fun _ hk => hk))) | (show (Addr.add _ _).block ≠ _; rw [add_block]; exact Kd.own_blk (Kd.R_away HO_8.out (fun _ hk => hk))) | (dsimp only; exact Kd.own_blk (Kd.R_away HO_8.out (fun _ hk => hk)))) _).trans (((cell_far (p := ⟨gb136, _, none⟩) (by first | exact Kd.own_blk (Kd.R_away HO_8.out (fun _ hk => hk)) | (rw [add_block]; exact Kd.own_blk (Kd.R_away HO_8.out (fun _ hk => hk))) | (show (Addr.add _ _).block ≠ _; rw [add_block]; exact Kd.own_blk (Kd.R_away HO_8.out (fun _ hk => hk))) | (dsimp only; exact Kd.own_blk (Kd.R_away HO_8.out (fun _ hk => hk)))) _).trans (((cell_far (p := ⟨gb136, _, none⟩) (by first | exact Kd.own_blk (Kd.R_away HO_8.out (fun _ hk => hk)) | (rw [add_block]; exact Kd.own_blk (Kd.R_away HO_8.out (fun _ hk => hk))) | (show (Addr.add _ _).block ≠ _; rw [add_block]; exact Kd.own_blk (Kd.R_away HO_8.out (fun _ hk => hk))) | (dsimp only; exact Kd.own_blk (Kd.R_away HO_8.out (fun _ hk => hk)))) _).trans (hHeld.2.2.2.2.2.2.2.2.2))))))⟩ (fun hHeld => ?_)
            clear hK K
            refine done_ (by kernel_rfl) ?_
            try go_wp2
            refine bodyPost_ret (results_cell_row rfl _ _ gb136 36 #[.bool t153, .bool t154, .bool t155] (0, 0) _ rfl (by (with_reducible repeat (first | refine blk_drewN ?_ _ | refine blk_drew ?_ | refine blk_alloc ?_ _)); refine blk_put (cs := #[.bool t153, .bool t154, .bool false]) ?_ 2 _ rfl; (with_reducible repeat (first | refine blk_drewN ?_ _ | refine blk_drew ?_ | refine blk_alloc ?_ _)); refine blk_put (cs := #[.bool t153, .bool false, .bool false]) ?_ 1 _ rfl; (with_reducible repeat (first | refine blk_drewN ?_ _ | refine blk_drew ?_ | refine blk_alloc ?_ _)); refine blk_put (cs := #[.bool false, .bool false, .bool false]) ?_ 0 _ rfl; (with_reducible repeat (first | refine blk_drewN ?_ _ | refine blk_drew ?_ | refine blk_alloc ?_ _)); exact BK136.out) Try.underlying36 rfl (by kernel_rfl)) rfl ?_
            exact ⟨by first | rfl | (simp [errW_none, errW_some] <;> rfl) | (simp [*, errW_none, errW_some] <;> rfl), by repeat (first | (with_reducible first | exact HB.out | apply below_alloc | apply pw_below_drewN | apply below_drew1 | refine below_set ?_ GE135.out | refine below_set ?_ GE136.out | refine below_set ?_ GE138.out) | exact HB.out)⟩
           ·
            rw [if_neg c62] at H
            exact absurd H (by simp)
  ·
   rw [if_neg c5] at H
   exact absurd H (by simp)
 ·
  rw [if_neg c4] at H
  exact absurd H (by simp)
end Go.Proofs.Ytnaanamibfpbpaa.V
namespace Go.Proofs.Ytnaanamibfpbpaa.V
open Go.RowKit Go.Proofs.YtnaanamibfpbpaaW.PrintWords Go.Proofs.YtnaanamibfpbpaaW.PrintLast Go.Proofs.YtnaanamibfpbpaaW.PrintMore
attribute [local go_sem] max2_int min2_int max_two min_two max_three min_three max_four min_four tdiv_most
set_option linter.unusedVariables false
set_option linter.unusedSimpArgs false
end Go.Proofs.Ytnaanamibfpbpaa.V
namespace Go.Proofs.Ytnaanamibfpbpaa.V
open Go.RowKit Go.Proofs.YtnaanamibfpbpaaW.PrintWords Go.Proofs.YtnaanamibfpbpaaW.PrintLast Go.Proofs.YtnaanamibfpbpaaW.PrintMore
attribute [local go_sem] max2_int min2_int max_two min_two max_three min_three max_four min_four tdiv_most
set_option linter.unusedVariables false
set_option linter.unusedSimpArgs false
attribute [local go_sem high] eqA50
end Go.Proofs.Ytnaanamibfpbpaa.V
namespace Go.Proofs.Ytnaanamibfpbpaa.V
open Go.RowKit Go.Proofs.YtnaanamibfpbpaaW.PrintWords Go.Proofs.YtnaanamibfpbpaaW.PrintLast Go.Proofs.YtnaanamibfpbpaaW.PrintMore
attribute [local go_sem] max2_int min2_int max_two min_two max_three min_three max_four min_four tdiv_most
set_option linter.unusedVariables false
set_option linter.unusedSimpArgs false
end Go.Proofs.Ytnaanamibfpbpaa.V
namespace Go.Proofs.Ytnaanamibfpbpaa.V
open Go.RowKit Go.Proofs.YtnaanamibfpbpaaW.PrintWords Go.Proofs.YtnaanamibfpbpaaW.PrintLast Go.Proofs.YtnaanamibfpbpaaW.PrintMore
attribute [local go_sem] max2_int min2_int max_two min_two max_three min_three max_four min_four tdiv_most
set_option linter.unusedVariables false
set_option linter.unusedSimpArgs false
end Go.Proofs.Ytnaanamibfpbpaa.V
namespace Go.Proofs.Ytnaanamibfpbpaa.V
open Go.RowKit Go.Proofs.YtnaanamibfpbpaaW.PrintWords Go.Proofs.YtnaanamibfpbpaaW.PrintLast Go.Proofs.YtnaanamibfpbpaaW.PrintMore
attribute [local go_sem] max2_int min2_int max_two min_two max_three min_three max_four min_four tdiv_most
set_option linter.unusedVariables false
set_option linter.unusedSimpArgs false
end Go.Proofs.Ytnaanamibfpbpaa.V
namespace Go.Proofs.Ytnaanamibfpbpaa.V
open Go.RowKit Go.Proofs.YtnaanamibfpbpaaW.PrintWords Go.Proofs.YtnaanamibfpbpaaW.PrintLast Go.Proofs.YtnaanamibfpbpaaW.PrintMore
attribute [local go_sem] max2_int min2_int max_two min_two max_three min_three max_four min_four tdiv_most
set_option linter.unusedVariables false
set_option linter.unusedSimpArgs false
attribute [local go_sem high] eqA35
end Go.Proofs.Ytnaanamibfpbpaa.V
namespace Go.Proofs.Ytnaanamibfpbpaa.V
open Go.RowKit Go.Proofs.YtnaanamibfpbpaaW.PrintWords
set_option linter.unusedVariables false
def Ev {α : Type} (f : Nat → Option α) (v : α) : Prop := ∃ k, ∀ j, k ≤ j → f j = some v
section
variable {α β : Type}
theorem Ev.congr {f g : Nat → Option α} {v : α} (h : ∀ k, f k = g k) (hg : Ev g v) : Ev f v := by
  obtain ⟨k, hk⟩ := hg
  exact ⟨k, fun j hj => (h j).trans (hk j hj)⟩
theorem Ev.of_eq {f : Nat → Option α} {v : α} (h : ∀ k, f k = some v) : Ev f v := ⟨0, fun j _ => h j⟩
theorem Ev.succ {f g : Nat → Option α} {v : α} (h : ∀ k, f (k + 1) = g k) (hg : Ev g v) : Ev f v := by
  obtain ⟨k, hk⟩ := hg
  refine ⟨k + 1, fun j hj => ?_⟩
  cases j with
  | zero => omega
  | succ j => exact (h j).trans (hk j (by omega))
theorem Ev.bind {f : Nat → Option α} {g : Nat → α → Option β} {v : α} {u : β} (hf : Ev f v) (hg : Ev (fun k => g k v) u) : Ev (fun k => (f k).bind (g k)) u := by
  obtain ⟨k, hk⟩ := hf
  obtain ⟨m, hm⟩ := hg
  refine ⟨k + m, fun j hj => ?_⟩
  simp only [hk j (by omega), Option.bind_some]
  exact hm j (by omega)
theorem Ev.map {f : Nat → Option α} {g : α → Option β} {v : α} {u : β} (hf : Ev f v) (hg : g v = some u) : Ev (fun k => (f k).bind g) u := Ev.bind (g := fun _ => g) hf (Ev.of_eq fun _ => hg)
theorem Ev.out {f : Nat → Option α} {v : α} (h : Ev f v) : ∃ k, f k = some v := ⟨h.choose, h.choose_spec _ (Nat.le_refl _)⟩
theorem Ev.of_mono {f : Nat → Option α} {v : α} {k : Nat} (hm : ∀ k, LeO (f k) (f (k + 1))) (h : f k = some v) : Ev f v := by
  refine ⟨k, fun j hj => ?_⟩
  induction j with
  | zero => obtain rfl : k = 0 := by omega
            exact h
  | succ j ih =>
    rcases Nat.lt_or_ge j k with hlt | hge
    · obtain rfl : k = j + 1 := by omega
      exact h
    · exact hm j v (ih hge)
end
theorem w64p (n : Int) (h : -9223372036854775808 ≤ n ∧ n ≤ 9223372036854775807) : wrap64 n = n := by unfold wrap64; omega
end Go.Proofs.Ytnaanamibfpbpaa.V
namespace Go.Proofs.Ytnaanamibfpbpaa.Opens
open Go.RowKit Go.Proofs.YtnaanamibfpbpaaW.PrintWords
set_option linter.unusedVariables false
def Opn {α : Type} (P : Program) (W : World) (d : Kd α) (t : TypeId) (ok : α → Prop) : Prop :=
  ∀ (H : Type) (enc : TypeId × Value → H) (fuel : Nat) (cs : List Value) (x : DataW H × List MemPlace), DataW.trod enc P W 0 (fun _ => true) true fuel t cs = some x → ∃ a, d.K W a cs ∧ ok a
section
variable {P : Program} {W : World} {t : TypeId}
theorem Opn.int {k : IntKind} (ht : P.underlying t = some (.int k)) : Opn P W (Kd.int k) t (fun n => (Lit.int k n).wf = true) := fun H enc fuel cs x h => by
  obtain ⟨n, rfl, _, hw⟩ := DataW.trod_int ht h
  exact ⟨n, rfl, hw⟩
theorem Opn.bool (ht : P.underlying t = some .bool) : Opn P W Kd.bool t (fun _ => True) := fun H enc fuel cs x h => by
  obtain ⟨n, rfl, _⟩ := DataW.trod_bool ht h
  exact ⟨n, rfl, trivial⟩
theorem Opn.string (ht : P.underlying t = some .string) : Opn P W Kd.string t (fun s => s.size ≤ maxLen) := fun H enc fuel cs x h => by
  obtain ⟨n, rfl, _, hw⟩ := DataW.trod_string ht h
  exact ⟨n, rfl, hw⟩
theorem Opn.iso {α β : Type} {d : Kd α} {ok : α → Prop} (f : β → α) (g : α → β) (hfg : ∀ a, f (g a) = a) (h : Opn P W d t ok) : Opn P W (Kd.iso d f) t (fun b => ok (f b)) := fun H enc fuel cs x hx => by
  obtain ⟨a, hk, ho⟩ := h H enc fuel cs x hx
  exact ⟨g a, show d.K W (f (g a)) cs by rw [hfg]; exact hk, show ok (f (g a)) by rw [hfg]; exact ho⟩
theorem Opn.imp {α : Type} {d : Kd α} {ok ok' : α → Prop} (h : Opn P W d t ok) (hi : ∀ a, ok a → ok' a) : Opn P W d t ok' := fun H enc fuel cs x hx => by
  obtain ⟨a, hk, ho⟩ := h H enc fuel cs x hx
  exact ⟨a, hk, hi a ho⟩
theorem lists_of {α : Type} (n : Nat) (R : Nat → α → Prop) (h : ∀ i, i < n → ∃ a, R i a) : ∃ l : List α, l.length = n ∧ ∀ i a, l[i]? = some a → R i a := by
  induction n with
  | zero => exact ⟨[], rfl, fun i a h => by simp at h⟩
  | succ n ih =>
    obtain ⟨l, hl, hr⟩ := ih (fun i hi => h i (by omega))
    obtain ⟨a, ha⟩ := h n (by omega)
    refine ⟨l ++ [a], by simp [hl], fun i b hb => ?_⟩
    by_cases hi : i < n
    · exact hr i b (by rwa [List.getElem?_append_left (by omega)] at hb)
    · have : i = n := by
        have := (List.getElem?_eq_some_iff.1 hb).1
        simp at this
        omega
      subst this
      rw [List.getElem?_append_right (by omega)] at hb
      simp [hl] at hb
      exact hb ▸ ha
theorem Opn.slice {α : Type} {e : TypeId} {d : Kd α} {ok : α → Prop} (e' : Nat) (ht : P.underlying t = some (.slice e)) (hc : P.cellsOf e = d.sz) (h : Opn P W d e ok) :
    Opn P W (Kd.slice e' d) t (fun l => l.length ≤ maxLen ∧ ∀ x ∈ l, ok x) := fun H enc fuel cs x hx => by
  rcases DataW.trod_slice ht hx with ⟨rfl, _⟩ | ⟨a, len, cap, elems, rest, n, _, rfl, _, _, hl, hm, hlen, hel, _, _⟩
  · exact ⟨[], ⟨none, 0, rfl, Nat.le_refl _, rfl, Nat.zero_le _, fun h => absurd h (by simp)⟩, Nat.zero_le _, fun x h => by simp at h⟩
  · have hm' : len ≤ maxLen := Nat.le_trans hl hm
    obtain ⟨l, hll, hlr⟩ := lists_of len (fun i b => ∃ cs', W.cells? 0 (a.add (i * P.cellsOf e)) (P.cellsOf e) = some cs' ∧ d.K W b cs' ∧ ok b) (fun i hi => by
      have h1 := hel i hi
      have h2 : i < elems.length := by omega
      rw [List.getElem?_eq_getElem h2, Option.bind_eq_some_iff] at h1
      obtain ⟨cs', h3, h4⟩ := h1
      obtain ⟨b, h5, h6⟩ := h H enc n cs' _ h4
      exact ⟨b, cs', h3, h5, h6⟩)
    subst hll
    refine ⟨l, ⟨some a, cap, rfl, hl, rfl, hm', fun _ => ⟨a, rfl, fun j p hp => ?_⟩⟩, hm', fun y hy => ?_⟩
    · obtain ⟨cs', h1, h2, _⟩ := hlr j p hp
      obtain ⟨_, hlen', hget⟩ := World.cells?_some h1
      rw [hc] at hlen' hget
      exact ⟨cs', hlen', h2, fun i u hu => by
        have := hget i (by have := (List.getElem?_eq_some_iff.1 hu).1; omega)
        rw [← hu, ← this]
        congr 1
        exact (Addr.add_add _ _ _).symm⟩
    · obtain ⟨i, hi⟩ := List.getElem?_of_mem hy
      exact (hlr i y hi).choose_spec.2.2
def Pieces {H : Type} (enc : TypeId × Value → H) (P : Program) (W : World) (n : Nat) : List TypeId → List Value → Prop
  | [], cs => cs = []
  | t :: ts, cs => ∃ c1 c2 x, cs = c1 ++ c2 ∧ DataW.trod enc P W 0 (fun _ => true) true n t c1 = some x ∧ Pieces enc P W n ts c2
def OpnS {α : Type} (P : Program) (W : World) (d : Kd α) (ts : List TypeId) (ok : α → Prop) : Prop :=
  ∀ (H : Type) (enc : TypeId × Value → H) (n : Nat) (cs : List Value), Pieces enc P W n ts cs → ∃ a, d.K W a cs ∧ ok a
theorem OpnS.one {α : Type} {d : Kd α} {ok : α → Prop} (h : Opn P W d t ok) : OpnS P W d [t] ok := fun H enc n cs hp => by
  obtain ⟨c1, c2, x, rfl, hx, rfl⟩ := hp
  rw [List.append_nil]
  exact h H enc n c1 x hx
theorem OpnS.cons {α β : Type} {d : Kd α} {e : Kd β} {ok : α → Prop} {ok' : β → Prop} {ts : List TypeId} (h : Opn P W d t ok) (hs : OpnS P W e ts ok') : OpnS P W (Kd.pair d e) (t :: ts) (fun x => ok x.1 ∧ ok' x.2) := fun H enc n cs hp => by
  obtain ⟨c1, c2, x, rfl, hx, hp⟩ := hp
  obtain ⟨a, ha, hoa⟩ := h H enc n c1 x hx
  obtain ⟨b, hb, hob⟩ := hs H enc n c2 hp
  exact ⟨(a, b), ⟨c1, c2, rfl, ha, hb⟩, hoa, hob⟩
def offsB (P : Program) (total : Nat) : Nat → List Field → Bool
  | o, [] => o == total
  | o, f :: r => f.offset == o && offsB P total (o + P.cellsOf f.type) r
theorem pieces_of {H : Type} {enc : TypeId × Value → H} {n total : Nat} {cs : List Value} (hl : cs.length = total) :
    ∀ (fs : List Field) (o : Nat), offsB P total o fs = true → (∀ f ∈ fs, ∃ x, DataW.trod enc P W 0 (fun _ => true) true n f.type ((cs.drop f.offset).take (P.cellsOf f.type)) = some x) → Pieces enc P W n (fs.map (·.type)) (cs.drop o)
  | [], o, ho, _ => by
    simp [offsB] at ho
    simp [Pieces, ho, hl]
  | f :: r, o, ho, hf => by
    simp [offsB] at ho
    obtain ⟨x, hx⟩ := hf f (by simp)
    refine ⟨(cs.drop o).take (P.cellsOf f.type), cs.drop (o + P.cellsOf f.type), x, ?_, by rw [← ho.1]; exact hx, pieces_of hl r _ ho.2 (fun g hg => hf g (List.mem_cons_of_mem _ hg))⟩
    rw [← List.drop_drop, List.take_append_drop]
theorem Opn.struct {α : Type} {d : Kd α} {ok : α → Prop} {fs : Array Field} {ts : List TypeId} (ht : P.underlying t = some (.struct fs)) (hts : fs.toList.map (·.type) = ts) (ho : offsB P (P.cellsOf t) 0 fs.toList = true) (h : OpnS P W d ts ok) : Opn P W d t ok := fun H enc fuel cs x hx => by
  obtain ⟨xs, n, _, _, hl, hxs, hf⟩ := DataW.trod_struct ht hx
  refine h H enc n cs (hts ▸ ?_)
  have := pieces_of (enc := enc) (W := W) (n := n) hl fs.toList 0 ho (fun f hm => by
    obtain ⟨i, hi⟩ := List.getElem?_of_mem hm
    have hi' : fs[i]? = some f := by simpa using hi
    have h1 := hf i f hi'
    have h2 : i < xs.length := by rw [hxs]; exact (Array.getElem?_eq_some_iff.1 hi').1
    exact ⟨xs[i], by rw [h1]; simp⟩)
  simpa using this
theorem pieces_same {H : Type} {enc : TypeId × Value → H} {n k s : Nat} {e : TypeId} {cs : List Value} (hs : P.cellsOf e = s) (hl : cs.length = k * s) :
    ∀ (m i : Nat), i + m = k → (∀ j, j < k → ∃ x, DataW.trod enc P W 0 (fun _ => true) true n e ((cs.drop (j * s)).take s) = some x) → Pieces enc P W n (List.replicate m e) (cs.drop (i * s))
  | 0, i, hi, _ => by
    have : i = k := by omega
    subst this
    simp [Pieces, hl]
  | m + 1, i, hi, hf => by
    obtain ⟨x, hx⟩ := hf i (by omega)
    refine ⟨(cs.drop (i * s)).take s, cs.drop ((i + 1) * s), x, ?_, hx, pieces_same hs hl m (i + 1) (by omega) hf⟩
    rw [Nat.succ_mul, ← List.drop_drop, List.take_append_drop]
theorem Opn.array {α : Type} {d : Kd α} {ok : α → Prop} {n : Nat} {e : TypeId} (ht : P.underlying t = some (.array n e)) (hc : P.cellsOf t = n * P.cellsOf e) (h : OpnS P W d (List.replicate n e) ok) : Opn P W d t ok := fun H enc fuel cs x hx => by
  obtain ⟨xs, m, _, _, hl, hxs, hf⟩ := DataW.trod_array ht hx
  refine h H enc m cs ?_
  have := pieces_same (enc := enc) (W := W) (n := m) (k := n) (e := e) rfl (hl.trans hc) n 0 (by omega) (fun j hj => by
    have h2 : j < xs.length := by omega
    exact ⟨xs[j], by rw [hf j hj]; simp⟩)
  simpa using this
theorem Opn.arg {α : Type} {d : Kd α} {ok : α → Prop} {H : Type} {enc : TypeId × Value → H} {v : Value} {x : DataW H} {ps : List MemPlace} (h : Opn P W d t ok) (hd : DataW.Trod enc P W 0 (fun _ => true) true t v x ps) : ∃ a, d.K W a v.cells.toList ∧ ok a := by
  obtain ⟨fuel, hf⟩ := hd
  exact h H enc fuel _ _ hf
theorem trod_lts {H : Type} {enc : TypeId × Value → H} {v : Value} {x : DataW H} {ps : List MemPlace} (hd : DataW.Trod enc P W 0 (fun _ => true) true t v x ps) : ∀ q ∈ ps, q.block < W.heap.size := by
  obtain ⟨m, hm⟩ := hd
  exact DataW.trod_lt m _ _ _ hm
end
end Go.Proofs.Ytnaanamibfpbpaa.Opens
namespace Go.Proofs.Ytnaanamibfpbpaa.V
open Go.RowKit Go.Proofs.Ytnaanamibfpbpaa.Opens Go.Proofs.YtnaanamibfpbpaaW.PrintWords
set_option linter.unusedVariables false
def Ok35 (x : S35) : Prop := True ∧ True ∧ True
theorem opn35 (W : World) : Opn Try.prog W k35 35 Ok35 := (Opn.iso (fun x : S35 => (x.f0, x.f1, x.f2)) (fun a => ⟨a.1, a.2.1, a.2.2⟩) (fun _ => rfl) (Opn.struct Try.underlying35 rfl (by kernel_rfl) (OpnS.cons (Opn.bool Try.underlying4) (OpnS.cons (Opn.bool Try.underlying4) (OpnS.one (Opn.bool Try.underlying4)))))).imp (fun _ h => h)
end Go.Proofs.Ytnaanamibfpbpaa.V
namespace Go.Proofs.Ytnaanamibfpbpaa.V
open Go.RowKit Go.Proofs.YtnaanamibfpbpaaW.PrintWords
set_option linter.unusedVariables false
set_option linter.unusedSimpArgs false
abbrev RuleT := S39
abbrev NodeT := S53
abbrev nodeAt (G : List NodeT) (i : Int) : NodeT := rd_T53 G i
abbrev ruleAt (R : List RuleT) (i : Int) : RuleT := rd_T39 R i
def Made (n : Int) (x : NodeT) : Prop :=
  0 ≤ x.f0 ∧ x.f0 ≤ 9 ∧ (x.f0 ≤ 2 → x.f1 = []) ∧ (x.f0 = 3 → 2 ≤ x.f1.length) ∧ (x.f0 = 4 → 2 ≤ x.f1.length) ∧ (5 ≤ x.f0 → x.f1.length = 1) ∧ (x.f0 = 2 → 0 ≤ x.f2 ∧ x.f2 < n) ∧ (x.f0 ≠ 2 → x.f2 = 0) ∧ (x.f0 ≠ 1 → x.f3.f0 = 0 ∧ x.f3.f1 = 0 ∧ x.f3.f2 = 0 ∧ x.f3.f3 = 0)
def KidsOk (G : List NodeT) (i : Int) : Prop := ∀ c ∈ (nodeAt G i).f1, 0 ≤ c ∧ c < i
structure WF (R : List RuleT) (G : List NodeT) : Prop where
  rules : 0 < R.length ∧ R.length ≤ 1000
  nodes : 0 < G.length ∧ G.length ≤ 10000
  made : ∀ i : Int, 0 ≤ i → i < (G.length : Int) → Made R.length (nodeAt G i)
  kids : ∀ i : Int, 0 ≤ i → i < (G.length : Int) → KidsOk G i
  roots : ∀ r : Int, 0 ≤ r → r < (R.length : Int) → 0 ≤ (ruleAt R r).f1 ∧ (ruleAt R r).f1 < (G.length : Int)
end Go.Proofs.Ytnaanamibfpbpaa.V
namespace Go.Proofs.Ytnaanamibfpbpaa.V
open Go.RowKit Go.Proofs.YtnaanamibfpbpaaW.PrintWords Go.Proofs.YtnaanamibfpbpaaW.PrintLast Go.Proofs.YtnaanamibfpbpaaW.PrintMore
set_option linter.unusedVariables false
set_option linter.unusedSimpArgs false
theorem eq54h (d : Nat) (w : World) (x0 y0 x1 y1 x2 y2 x3 y3 : Int) :
    (Op.equalIn (d + 2) 50 (.agg #[.int .u64 x0, .int .u64 x1, .int .u64 x2, .int .u64 x3]) (.agg #[.int .u64 y0, .int .u64 y1, .int .u64 y2, .int .u64 y3])).run Try.prog w = .ok (x0 == y0 && (x1 == y1 && (x2 == y2 && (x3 == y3)))) w :=
  eqA_four (k := .u64) Try.underlying50 Try.underlying48 (by kernel_rfl) (by kernel_rfl) d w x0 y0 x1 y1 x2 y2 x3 y3
attribute [local go_sem high] eq54h
def vetchref11_Node.seqF (l : List S35) : List Int → Bool → Bool → Bool → Bool → Bool × Bool × Bool
  | [], n, e, f, all => (n, e && all, f)
  | c :: cs, n, e, f, all => vetchref11_Node.seqF l cs (n && (rd_T35 l c).f0) (e || (rd_T35 l c).f1) (f || ((rd_T35 l c).f2 && all)) (all && ((rd_T35 l c).f0 || (rd_T35 l c).f1))
def vetchref11_Node.choF (l : List S35) : List Int → Bool → Bool → Bool → Bool × Bool × Bool
  | [], n, e, f => (n, e, f)
  | c :: cs, n, e, f => vetchref11_Node.choF l cs (n || ((rd_T35 l c).f0 && f)) (e || ((rd_T35 l c).f1 && f)) (f && (rd_T35 l c).f2)
def vetchref11_Node.p (R : List S39) (l : List S35) (nd : S53) : Bool × Bool × Bool :=
  if nd.f0 = 0 then (true, false, false) else
  if nd.f0 = 1 then (false, !(nd.f3.f0 == 0) || (!(nd.f3.f1 == 0) || (!(nd.f3.f2 == 0) || !(nd.f3.f3 == 0))), true) else
  if nd.f0 = 2 then ((rd_T35 l (rd_T39 R nd.f2).f1).f0, (rd_T35 l (rd_T39 R nd.f2).f1).f1, (rd_T35 l (rd_T39 R nd.f2).f1).f2) else
  if nd.f0 = 3 then vetchref11_Node.seqF l nd.f1 true false false true else
  if nd.f0 = 4 then vetchref11_Node.choF l nd.f1 false false true else
  let x := rd_T35 l (rd nd.f1 0)
  if nd.f0 = 5 then (x.f2, x.f1, false) else
  if nd.f0 = 6 then (x.f0 && x.f2, x.f1, x.f2) else
  if nd.f0 = 7 then (x.f0 || x.f2, x.f1, false) else
  if nd.f0 = 8 then (x.f0 || x.f1, false, x.f2) else
  if nd.f0 = 9 then (x.f2, false, x.f0 || x.f1) else (false, false, false)
structure Env11 (W1 : World) (gx go : Nat) (ND : Array Value) (W : World) (n e f : Bool) : Prop where
  x : W.heap[gx]? = some (.cells ND 53 (0, 0))
  o : W.heap[go]? = some (.cells #[.bool n, .bool e, .bool f] 35 (0, 0))
  b : Below W1.heap.size W1 W
section
variable {W1 W W' : World} {gx go : Nat} {ND : Array Value} {n e f : Bool}
theorem Env11.below (h : Env11 W1 gx go ND W n e f) (hb : Below W.heap.size W W') : Env11 W1 gx go ND W' n e f := ⟨blk_below h.x hb, blk_below h.o hb, below_step h.b hb⟩
end
end Go.Proofs.Ytnaanamibfpbpaa.V
namespace Go.Proofs.Ytnaanamibfpbpaa.V
open Go.RowKit Go.Proofs.YtnaanamibfpbpaaW.PrintWords Go.Proofs.YtnaanamibfpbpaaW.PrintLast Go.Proofs.YtnaanamibfpbpaaW.PrintMore
set_option linter.unusedVariables false
set_option linter.unusedSimpArgs false
attribute [local go_sem high] eq54h
end Go.Proofs.Ytnaanamibfpbpaa.V
namespace Go.Proofs.Ytnaanamibfpbpaa.V
open Go.RowKit Go.Proofs.YtnaanamibfpbpaaW.PrintWords Go.Proofs.YtnaanamibfpbpaaW.PrintLast Go.Proofs.YtnaanamibfpbpaaW.PrintMore
set_option linter.unusedVariables false
set_option linter.unusedSimpArgs false
attribute [local go_sem high] eq54h
end Go.Proofs.Ytnaanamibfpbpaa.V
namespace Go.Proofs.Ytnaanamibfpbpaa.V
open Go.RowKit Go.Proofs.YtnaanamibfpbpaaW.PrintWords Go.Proofs.YtnaanamibfpbpaaW.PrintLast Go.Proofs.YtnaanamibfpbpaaW.PrintMore
set_option linter.unusedVariables false
set_option linter.unusedSimpArgs false
attribute [local go_sem high] eq54h
end Go.Proofs.Ytnaanamibfpbpaa.V
namespace Go.Proofs.Ytnaanamibfpbpaa.V
open Go.RowKit Go.Proofs.YtnaanamibfpbpaaW.PrintWords Go.Proofs.YtnaanamibfpbpaaW.PrintLast Go.Proofs.YtnaanamibfpbpaaW.PrintMore
set_option linter.unusedVariables false
set_option linter.unusedSimpArgs false
attribute [local go_sem high] eq54h
end Go.Proofs.Ytnaanamibfpbpaa.V
namespace Go.Proofs.Ytnaanamibfpbpaa.V
open Go.RowKit Go.Proofs.YtnaanamibfpbpaaW.PrintWords Go.Proofs.YtnaanamibfpbpaaW.PrintLast Go.Proofs.YtnaanamibfpbpaaW.PrintMore
set_option linter.unusedVariables false
set_option linter.unusedSimpArgs false
attribute [local go_sem high] eq54h
end Go.Proofs.Ytnaanamibfpbpaa.V
namespace Go.Proofs.Ytnaanamibfpbpaa.V
open Go.RowKit Go.Proofs.YtnaanamibfpbpaaW.PrintWords Go.Proofs.YtnaanamibfpbpaaW.PrintLast Go.Proofs.YtnaanamibfpbpaaW.PrintMore
set_option linter.unusedVariables false
set_option linter.unusedSimpArgs false
attribute [local go_sem high] eq54h
end Go.Proofs.Ytnaanamibfpbpaa.V
namespace Go.Proofs.Ytnaanamibfpbpaa.V
open Go.RowKit Go.Proofs.YtnaanamibfpbpaaW.PrintWords Go.Proofs.YtnaanamibfpbpaaW.PrintLast Go.Proofs.YtnaanamibfpbpaaW.PrintMore
set_option linter.unusedVariables false
set_option linter.unusedSimpArgs false
attribute [local go_sem high] eq54h
end Go.Proofs.Ytnaanamibfpbpaa.V
namespace Go.Proofs.Ytnaanamibfpbpaa.V
open Go.RowKit Go.Proofs.YtnaanamibfpbpaaW.PrintWords Go.Proofs.YtnaanamibfpbpaaW.PrintLast Go.Proofs.YtnaanamibfpbpaaW.PrintMore
set_option linter.unusedVariables false
set_option linter.unusedSimpArgs false
attribute [local go_sem high] eq54h
end Go.Proofs.Ytnaanamibfpbpaa.V
namespace Go.Proofs.Ytnaanamibfpbpaa.V
open Go.RowKit Go.Proofs.YtnaanamibfpbpaaW.PrintWords Go.Proofs.YtnaanamibfpbpaaW.PrintLast Go.Proofs.YtnaanamibfpbpaaW.PrintMore
set_option linter.unusedVariables false
set_option linter.unusedSimpArgs false
attribute [local go_sem high] eq54h
end Go.Proofs.Ytnaanamibfpbpaa.V
namespace Go.Proofs.Ytnaanamibfpbpaa.V
open Go.RowKit Go.Proofs.YtnaanamibfpbpaaW.PrintWords Go.Proofs.YtnaanamibfpbpaaW.PrintLast Go.Proofs.YtnaanamibfpbpaaW.PrintMore
set_option linter.unusedVariables false
set_option linter.unusedSimpArgs false
attribute [local go_sem high] eq54h
end Go.Proofs.Ytnaanamibfpbpaa.V
namespace Go.Proofs.Ytnaanamibfpbpaa.V
open Go.RowKit Go.Proofs.YtnaanamibfpbpaaW.PrintWords Go.Proofs.YtnaanamibfpbpaaW.PrintLast Go.Proofs.YtnaanamibfpbpaaW.PrintMore
set_option linter.unusedVariables false
set_option linter.unusedSimpArgs false
attribute [local go_sem high] eq54h
end Go.Proofs.Ytnaanamibfpbpaa.V
namespace Go.Proofs.Ytnaanamibfpbpaa.V
open Go.RowKit Go.Proofs.YtnaanamibfpbpaaW.PrintWords Go.Proofs.YtnaanamibfpbpaaW.PrintLast Go.Proofs.YtnaanamibfpbpaaW.PrintMore
attribute [local go_sem] max2_int min2_int max_two min_two max_three min_three max_four min_four tdiv_most
set_option linter.unusedVariables false
set_option linter.unusedSimpArgs false
end Go.Proofs.Ytnaanamibfpbpaa.V
namespace Go.Proofs.Ytnaanamibfpbpaa.V
open Go.RowKit Go.Proofs.YtnaanamibfpbpaaW.PrintWords
set_option linter.unusedVariables false
set_option linter.unusedSectionVars false
abbrev FactT := S35
abbrev factAt (l : List FactT) (i : Int) : FactT := rd_T35 l i
instance decFactT : DecidableEq FactT := fun a b => if h : a.f0 = b.f0 ∧ a.f1 = b.f1 ∧ a.f2 = b.f2 then isTrue (by obtain ⟨a1, a2, a3⟩ := a; obtain ⟨b1, b2, b3⟩ := b; obtain ⟨h1, h2, h3⟩ := h; dsimp only at h1 h2 h3; subst h1 h2 h3; rfl) else isFalse (fun e => h (by subst e; exact ⟨rfl, rfl, rfl⟩))
def FLe (a b : FactT) : Prop := (a.f0 = true → b.f0 = true) ∧ (a.f1 = true → b.f1 = true) ∧ (a.f2 = true → b.f2 = true)
def LLe (a b : List FactT) : Prop := a.length = b.length ∧ ∀ i : Int, FLe (factAt a i) (factAt b i)
def mkF (t : Bool × Bool × Bool) : FactT := ⟨t.1, t.2.1, t.2.2⟩
def stepL (R : List RuleT) (G : List NodeT) (l : List FactT) : List FactT := G.map fun nd => mkF (vetchref11_Node.p R l nd)
theorem FLe.refl (a : FactT) : FLe a a := ⟨id, id, id⟩
theorem FLe.trans {a b c : FactT} (h : FLe a b) (k : FLe b c) : FLe a c := ⟨fun x => k.1 (h.1 x), fun x => k.2.1 (h.2.1 x), fun x => k.2.2 (h.2.2 x)⟩
theorem seqF_mono {l m : List FactT} (h : ∀ i, FLe (factAt l i) (factAt m i)) : ∀ (cs : List Int) (n e f al n' e' f' al' : Bool), (n = true → n' = true) → (e = true → e' = true) → (f = true → f' = true) → (al = true → al' = true) →
    FLe (mkF (vetchref11_Node.seqF l cs n e f al)) (mkF (vetchref11_Node.seqF m cs n' e' f' al')) := by
  intro cs
  induction cs with
  | nil =>
    intro n e f al n' e' f' al' h1 h2 h3 h4
    refine ⟨h1, fun hx => ?_, h3⟩
    simp only [vetchref11_Node.seqF, mkF, Bool.and_eq_true] at hx ⊢
    exact ⟨h2 hx.1, h4 hx.2⟩
  | cons c cs ih =>
    intro n e f al n' e' f' al' h1 h2 h3 h4
    obtain ⟨k1, k2, k3⟩ := h c
    refine ih _ _ _ _ _ _ _ _ ?_ ?_ ?_ ?_
    · simp only [Bool.and_eq_true]; exact fun hx => ⟨h1 hx.1, k1 hx.2⟩
    · simp only [Bool.or_eq_true]; exact fun hx => hx.imp h2 k2
    · simp only [Bool.or_eq_true, Bool.and_eq_true]; exact fun hx => hx.imp h3 (fun hy => ⟨k3 hy.1, h4 hy.2⟩)
    · simp only [Bool.or_eq_true, Bool.and_eq_true]; exact fun hx => ⟨h4 hx.1, hx.2.imp k1 k2⟩
theorem choF_mono' {l m : List FactT} (h : ∀ i, FLe (factAt l i) (factAt m i)) : ∀ (cs : List Int) (n e f n' e' f' : Bool), (n = true → n' = true) → (e = true → e' = true) → (f = true → f' = true) →
    FLe (mkF (vetchref11_Node.choF l cs n e f)) (mkF (vetchref11_Node.choF m cs n' e' f')) := by
  intro cs
  induction cs with
  | nil => exact fun n e f n' e' f' h1 h2 h3 => ⟨h1, h2, h3⟩
  | cons c cs ih =>
    intro n e f n' e' f' h1 h2 h3
    obtain ⟨k1, k2, k3⟩ := h c
    refine ih _ _ _ _ _ _ ?_ ?_ ?_
    · simp only [Bool.or_eq_true, Bool.and_eq_true]; exact fun hx => hx.imp h1 (fun hy => ⟨k1 hy.1, h3 hy.2⟩)
    · simp only [Bool.or_eq_true, Bool.and_eq_true]; exact fun hx => hx.imp h2 (fun hy => ⟨k2 hy.1, h3 hy.2⟩)
    · simp only [Bool.and_eq_true]; exact fun hx => ⟨h3 hx.1, k3 hx.2⟩
theorem p_mono (R : List RuleT) {l m : List FactT} (h : ∀ i, FLe (factAt l i) (factAt m i)) (nd : NodeT) : FLe (mkF (vetchref11_Node.p R l nd)) (mkF (vetchref11_Node.p R m nd)) := by
  have hk := h (rd nd.f1 0)
  have hr := h (rd_T39 R nd.f2).f1
  obtain ⟨k1, k2, k3⟩ := hk
  have e1 : ∀ {a b a' b' : Bool}, (a = true → a' = true) → (b = true → b' = true) → (a || b) = true → (a' || b') = true := fun ha hb hx => by rw [Bool.or_eq_true] at hx ⊢; exact hx.imp ha hb
  have e2 : ∀ {a b a' b' : Bool}, (a = true → a' = true) → (b = true → b' = true) → (a && b) = true → (a' && b') = true := fun ha hb hx => by rw [Bool.and_eq_true] at hx ⊢; exact ⟨ha hx.1, hb hx.2⟩
  unfold vetchref11_Node.p
  by_cases c0 : nd.f0 = 0
  · rw [if_pos c0, if_pos c0]; exact FLe.refl _
  rw [if_neg c0, if_neg c0]
  by_cases c1 : nd.f0 = 1
  · rw [if_pos c1, if_pos c1]; exact FLe.refl _
  rw [if_neg c1, if_neg c1]
  by_cases c2 : nd.f0 = 2
  · rw [if_pos c2, if_pos c2]; exact hr
  rw [if_neg c2, if_neg c2]
  by_cases c3 : nd.f0 = 3
  · rw [if_pos c3, if_pos c3]; exact seqF_mono h _ _ _ _ _ _ _ _ _ id id id id
  rw [if_neg c3, if_neg c3]
  by_cases c4 : nd.f0 = 4
  · rw [if_pos c4, if_pos c4]; exact choF_mono' h _ _ _ _ _ _ _ id id id
  rw [if_neg c4, if_neg c4]
  dsimp only
  by_cases c5 : nd.f0 = 5
  · rw [if_pos c5, if_pos c5]; exact ⟨k3, k2, id⟩
  rw [if_neg c5, if_neg c5]
  by_cases c6 : nd.f0 = 6
  · rw [if_pos c6, if_pos c6]; exact ⟨e2 k1 k3, k2, k3⟩
  rw [if_neg c6, if_neg c6]
  by_cases c7 : nd.f0 = 7
  · rw [if_pos c7, if_pos c7]; exact ⟨e1 k1 k3, k2, id⟩
  rw [if_neg c7, if_neg c7]
  by_cases c8 : nd.f0 = 8
  · rw [if_pos c8, if_pos c8]; exact ⟨e1 k1 k2, id, k3⟩
  rw [if_neg c8, if_neg c8]
  by_cases c9 : nd.f0 = 9
  · rw [if_pos c9, if_pos c9]; exact ⟨k3, id, e1 k1 k2⟩
  rw [if_neg c9, if_neg c9]
  exact FLe.refl _
theorem fact_out (l : List FactT) (i : Int) (h : ¬ i.toNat < l.length) : factAt l i = z35 := by
  show l.getD i.toNat _ = _
  rw [List.getD_eq_getElem?_getD, List.getElem?_eq_none (by omega)]
  rfl
theorem fact_step (R : List RuleT) (G : List NodeT) (l : List FactT) (i : Int) (h0 : 0 ≤ i) (h1 : i < (G.length : Int)) : factAt (stepL R G l) i = mkF (vetchref11_Node.p R l (nodeAt G i)) := by
  have h : i.toNat < G.length := by omega
  show (G.map _).getD i.toNat _ = mkF (vetchref11_Node.p R l (G.getD i.toNat _))
  rw [List.getD_eq_getElem?_getD, List.getD_eq_getElem?_getD, List.getElem?_map, List.getElem?_eq_getElem h]
  rfl
theorem step_length (R : List RuleT) (G : List NodeT) (l : List FactT) : (stepL R G l).length = G.length := by simp [stepL]
theorem step_mono (R : List RuleT) (G : List NodeT) {l m : List FactT} (h : ∀ i, FLe (factAt l i) (factAt m i)) (i : Int) : FLe (factAt (stepL R G l) i) (factAt (stepL R G m) i) := by
  by_cases hi : i.toNat < G.length
  · have e : factAt (stepL R G l) i = mkF (vetchref11_Node.p R l (G.getD i.toNat z53)) := by
      show (G.map _).getD i.toNat _ = _
      rw [List.getD_eq_getElem?_getD, List.getD_eq_getElem?_getD, List.getElem?_map, List.getElem?_eq_getElem hi]
      rfl
    have e' : factAt (stepL R G m) i = mkF (vetchref11_Node.p R m (G.getD i.toNat z53)) := by
      show (G.map _).getD i.toNat _ = _
      rw [List.getD_eq_getElem?_getD, List.getD_eq_getElem?_getD, List.getElem?_map, List.getElem?_eq_getElem hi]
      rfl
    rw [e, e']
    exact p_mono R h _
  · rw [fact_out _ _ (by rw [step_length]; exact hi), fact_out _ _ (by rw [step_length]; exact hi)]
    exact FLe.refl _
def cntF (a : FactT) : Nat := a.f0.toNat + a.f1.toNat + a.f2.toNat
def cnt (l : List FactT) : Nat := (l.map cntF).sum
theorem cntF_le (a : FactT) : cntF a ≤ 3 := by obtain ⟨a, b, c⟩ := a; cases a <;> cases b <;> cases c <;> decide
theorem cntF_mono {a b : FactT} (h : FLe a b) : cntF a ≤ cntF b ∧ (cntF b ≤ cntF a → a = b) := by
  obtain ⟨a1, a2, a3⟩ := a
  obtain ⟨b1, b2, b3⟩ := b
  obtain ⟨h1, h2, h3⟩ := h
  cases a1 <;> cases a2 <;> cases a3 <;> cases b1 <;> cases b2 <;> cases b3 <;> simp_all [cntF]
theorem cnt_le : ∀ l : List FactT, cnt l ≤ 3 * l.length
  | [] => by simp [cnt]
  | a :: l => by
    have := cnt_le l
    have := cntF_le a
    simp only [cnt, List.map_cons, List.sum_cons, List.length_cons] at *
    omega
theorem cnt_mono : ∀ (a b : List FactT), a.length = b.length → (∀ i : Nat, ∀ x y, a[i]? = some x → b[i]? = some y → FLe x y) → cnt a ≤ cnt b ∧ (cnt b ≤ cnt a → a = b)
  | [], [], _, _ => ⟨Nat.le_refl _, fun _ => rfl⟩
  | [], _ :: _, h, _ => by simp at h
  | _ :: _, [], h, _ => by simp at h
  | x :: a, y :: b, hl, h => by
    have h1 := cntF_mono (h 0 x y rfl rfl)
    have h2 := cnt_mono a b (by simpa using hl) (fun i u v hu hv => h (i + 1) u v (by simpa using hu) (by simpa using hv))
    simp only [cnt, List.map_cons, List.sum_cons] at *
    refine ⟨by omega, fun hc => ?_⟩
    rw [h1.2 (by omega), h2.2 (by omega)]
theorem lle_cnt {a b : List FactT} (h : LLe a b) : cnt a ≤ cnt b ∧ (cnt b ≤ cnt a → a = b) := cnt_mono a b h.1 (fun i x y hx hy => by
  have := h.2 (i : Int)
  have e : factAt a (i : Int) = x := by
    show a.getD ((i : Int).toNat) _ = x
    rw [List.getD_eq_getElem?_getD, show ((i : Int).toNat) = i by omega, hx]
    rfl
  have e' : factAt b (i : Int) = y := by
    show b.getD ((i : Int).toNat) _ = y
    rw [List.getD_eq_getElem?_getD, show ((i : Int).toNat) = i by omega, hy]
    rfl
  rwa [e, e'] at this)
section
variable {R : List RuleT} {G : List NodeT} (hw : WF R G)
include hw
end
end Go.Proofs.Ytnaanamibfpbpaa.V
namespace Go.Proofs.Ytnaanamibfpbpaa.V
open Go.RowKit Go.Proofs.YtnaanamibfpbpaaW.PrintWords
set_option linter.unusedVariables false
set_option linter.unusedSectionVars false
set_option linter.unusedSimpArgs false
abbrev FlowT := S36
abbrev flowAt (l : List FlowT) (i : Int) : FlowT := rd_T36 l i
def toR (x : FlowT) : FactT := ⟨x.f0, x.f1, x.f2⟩
def ofR (x : FactT) : FlowT := ⟨x.f0, x.f1, x.f2⟩
theorem ofR_toR (x : FlowT) : ofR (toR x) = x := rfl
theorem at_toR (l : List FlowT) (i : Int) : factAt (l.map toR) i = toR (flowAt l i) := by
  show (l.map toR).getD i.toNat _ = toR (l.getD i.toNat _)
  rw [List.getD_eq_getElem?_getD, List.getD_eq_getElem?_getD, List.getElem?_map]
  cases l[i.toNat]? <;> rfl
def fitNode (R : List RuleT) (n : Nat) (nd : NodeT) : Bool :=
  decide (0 ≤ nd.f0) && decide (nd.f0 ≤ 9) && decide (nd.f1.length ≤ 60) && nd.f1.all (fun c => decide (0 ≤ c) && decide (c < (n : Int))) && (decide (nd.f0 ≤ 4) || decide (0 < nd.f1.length)) &&
    (decide (nd.f0 ≠ 2) || (decide (0 ≤ nd.f2) && decide (nd.f2 < (R.length : Int)) && decide (0 ≤ (ruleAt R nd.f2).f1) && decide ((ruleAt R nd.f2).f1 < (n : Int))))
def fitB (R : List RuleT) (G : List NodeT) : Bool := decide (0 < G.length ∧ G.length ≤ 300) && G.all (fitNode R G.length)
structure Fit (R : List RuleT) (G : List NodeT) : Prop where
  pos : 0 < G.length
  nodes : G.length ≤ 300
  op : ∀ i : Int, 0 ≤ i → i < (G.length : Int) → 0 ≤ (nodeAt G i).f0 ∧ (nodeAt G i).f0 ≤ 9
  len : ∀ i : Int, 0 ≤ i → i < (G.length : Int) → (nodeAt G i).f1.length ≤ 60
  kids : ∀ i : Int, 0 ≤ i → i < (G.length : Int) → ∀ c ∈ (nodeAt G i).f1, 0 ≤ c ∧ c < (G.length : Int)
  one : ∀ i : Int, 0 ≤ i → i < (G.length : Int) → 5 ≤ (nodeAt G i).f0 → 0 < (nodeAt G i).f1.length
  call : ∀ i : Int, 0 ≤ i → i < (G.length : Int) → (nodeAt G i).f0 = 2 → 0 ≤ (nodeAt G i).f2 ∧ (nodeAt G i).f2 < (R.length : Int) ∧ 0 ≤ (ruleAt R (nodeAt G i).f2).f1 ∧ (ruleAt R (nodeAt G i).f2).f1 < (G.length : Int)
theorem node_mem (G : List NodeT) (i : Int) (h0 : 0 ≤ i) (h1 : i < (G.length : Int)) : nodeAt G i ∈ G := by
  have h : i.toNat < G.length := by omega
  show G.getD i.toNat _ ∈ G
  rw [List.getD_eq_getElem?_getD, List.getElem?_eq_getElem h]
  exact List.getElem_mem h
theorem fit_iff (R : List RuleT) (n : Nat) (nd : NodeT) : fitNode R n nd = true ↔ (0 ≤ nd.f0 ∧ nd.f0 ≤ 9 ∧ nd.f1.length ≤ 60 ∧ (∀ c ∈ nd.f1, 0 ≤ c ∧ c < (n : Int)) ∧ (nd.f0 ≤ 4 ∨ 0 < nd.f1.length) ∧ (nd.f0 ≠ 2 ∨ (0 ≤ nd.f2 ∧ nd.f2 < (R.length : Int) ∧ 0 ≤ (ruleAt R nd.f2).f1 ∧ (ruleAt R nd.f2).f1 < (n : Int)))) := by
  unfold fitNode
  simp only [Bool.and_eq_true, Bool.or_eq_true, decide_eq_true_eq, List.all_eq_true]
  constructor
  · rintro ⟨⟨⟨⟨⟨a, b⟩, c⟩, d⟩, e⟩, f⟩
    refine ⟨a, b, c, d, e, f.imp id (fun h => ⟨h.1.1.1, h.1.1.2, h.1.2, h.2⟩)⟩
  · rintro ⟨a, b, c, d, e, f⟩
    exact ⟨⟨⟨⟨⟨a, b⟩, c⟩, d⟩, e⟩, f.imp id (fun h => ⟨⟨⟨h.1, h.2.1⟩, h.2.2.1⟩, h.2.2.2⟩)⟩
theorem fit_of {R : List RuleT} {G : List NodeT} (h : fitB R G = true) : Fit R G := by
  unfold fitB at h
  rw [Bool.and_eq_true, decide_eq_true_eq, List.all_eq_true] at h
  have key : ∀ i : Int, 0 ≤ i → i < (G.length : Int) → _ := fun i h0 h1 => (fit_iff R G.length (nodeAt G i)).1 (h.2 _ (node_mem G i h0 h1))
  exact ⟨h.1.1, h.1.2, fun i h0 h1 => ⟨(key i h0 h1).1, (key i h0 h1).2.1⟩, fun i h0 h1 => (key i h0 h1).2.2.1, fun i h0 h1 => (key i h0 h1).2.2.2.1, fun i h0 h1 h5 => (key i h0 h1).2.2.2.2.1.resolve_left (by omega), fun i h0 h1 h2 => (key i h0 h1).2.2.2.2.2.resolve_left (fun hn => hn h2)⟩
def seqS : List FlowT → Bool → Bool → Bool → Bool → Bool × Bool × Bool
  | [], n, e, f, ok => (n, ok && e, f)
  | x :: xs, n, e, f, ok => seqS xs (n && x.f0) (e || x.f1) (f || (ok && x.f2)) (ok && (x.f0 || x.f1))
def choS : List FlowT → Bool → Bool → Bool → Bool × Bool × Bool
  | [], n, e, fl => (n, e, fl)
  | x :: xs, n, e, fl => choS xs (n || (fl && x.f0)) (e || (fl && x.f1)) (fl && x.f2)
theorem drop_flow (xs : List FlowT) (j : Nat) (h : j < xs.length) : xs.drop j = flowAt xs (j : Int) :: xs.drop (j + 1) := by
  rw [List.drop_eq_getElem_cons h]
  congr 1
  show _ = xs.getD ((j : Int).toNat) _
  rw [List.getD_eq_getElem?_getD, Int.toNat_natCast, List.getElem?_eq_getElem h]
  rfl
theorem seq_val (xs : List FlowT) (hx : xs.length ≤ 1000) : ∀ (d j k : Nat) (ok n e f : Bool), j + d = xs.length → d < k → flow_seq.l0 k ok xs (xs.length : Int) (j : Int) n e f = some (seqS (xs.drop j) n e f ok) := by
  intro d
  induction d with
  | zero =>
    intro j k ok n e f hj hk
    obtain ⟨k, rfl⟩ : ∃ m, k = m + 1 := ⟨k - 1, by omega⟩
    rw [List.drop_of_length_le (by omega), flow_seq.l0, if_neg (by omega), seqS]
    cases ok <;> cases e <;> rfl
  | succ d ih =>
    intro j k ok n e f hj hk
    obtain ⟨k, rfl⟩ : ∃ m, k = m + 1 := ⟨k - 1, by omega⟩
    rw [drop_flow xs j (by omega), seqS]
    have hn : ∀ ok n e f, flow_seq.l0 k ok xs (xs.length : Int) ((j : Int) + 1) n e f = some (seqS (xs.drop (j + 1)) n e f ok) := fun ok n e f => ih (j + 1) k ok n e f (by omega) (by omega)
    rw [flow_seq.l0, if_pos (by omega), if_pos (by omega), if_pos (by omega), w64p ((j : Int) + 1) (by omega)]
    show _ = some (seqS (xs.drop (j + 1)) (n && (rd_T36 xs (j : Int)).f0) (e || (rd_T36 xs (j : Int)).f1) (f || (ok && (rd_T36 xs (j : Int)).f2)) (ok && ((rd_T36 xs (j : Int)).f0 || (rd_T36 xs (j : Int)).f1)))
    generalize rd_T36 xs (j : Int) = x
    obtain ⟨x0, x1, x2⟩ := x
    cases ok <;> cases n <;> cases e <;> cases f <;> cases x0 <;> cases x1 <;> cases x2 <;> simp [hn, flow_Facts_ok.f]
theorem cho_val (xs : List FlowT) (hx : xs.length ≤ 1000) : ∀ (d j k : Nat) (fl n e z : Bool), j + d = xs.length → d < k → flow_choice.l0 k fl xs (xs.length : Int) (j : Int) n e z = some (choS (xs.drop j) n e fl) := by
  intro d
  induction d with
  | zero =>
    intro j k fl n e z hj hk
    obtain ⟨k, rfl⟩ : ∃ m, k = m + 1 := ⟨k - 1, by omega⟩
    rw [List.drop_of_length_le (by omega), flow_choice.l0, if_neg (by omega), choS]
  | succ d ih =>
    intro j k fl n e z hj hk
    obtain ⟨k, rfl⟩ : ∃ m, k = m + 1 := ⟨k - 1, by omega⟩
    rw [drop_flow xs j (by omega), choS]
    have hn : ∀ fl n e, flow_choice.l0 k fl xs (xs.length : Int) ((j : Int) + 1) n e z = some (choS (xs.drop (j + 1)) n e fl) := fun fl n e => ih (j + 1) k fl n e z (by omega) (by omega)
    rw [flow_choice.l0, if_pos (by omega), if_pos (by omega), if_pos (by omega), w64p ((j : Int) + 1) (by omega)]
    show _ = some (choS (xs.drop (j + 1)) (n || (fl && (rd_T36 xs (j : Int)).f0)) (e || (fl && (rd_T36 xs (j : Int)).f1)) (fl && (rd_T36 xs (j : Int)).f2))
    generalize rd_T36 xs (j : Int) = x
    obtain ⟨x0, x1, x2⟩ := x
    cases fl <;> cases n <;> cases e <;> cases x0 <;> cases x1 <;> cases x2 <;> simp [hn]
theorem seqS_F (L : List FlowT) : ∀ (cs : List Int) (n e f al : Bool), seqS (cs.map (flowAt L)) n e f al = vetchref11_Node.seqF (L.map toR) cs n e f al
  | [], n, e, f, al => by simp [seqS, vetchref11_Node.seqF, Bool.and_comm]
  | c :: cs, n, e, f, al => by
    rw [List.map_cons, seqS, vetchref11_Node.seqF, seqS_F L cs]
    have h := at_toR L c
    show _ = vetchref11_Node.seqF (L.map toR) cs (n && (factAt (L.map toR) c).f0) (e || (factAt (L.map toR) c).f1) (f || ((factAt (L.map toR) c).f2 && al)) (al && ((factAt (L.map toR) c).f0 || (factAt (L.map toR) c).f1))
    rw [h]
    simp only [toR, Bool.and_comm al]
theorem choS_F (L : List FlowT) : ∀ (cs : List Int) (n e f : Bool), choS (cs.map (flowAt L)) n e f = vetchref11_Node.choF (L.map toR) cs n e f
  | [], n, e, f => rfl
  | c :: cs, n, e, f => by
    rw [List.map_cons, choS, vetchref11_Node.choF, choS_F L cs]
    have h := at_toR L c
    show _ = vetchref11_Node.choF (L.map toR) cs (n || ((factAt (L.map toR) c).f0 && f)) (e || ((factAt (L.map toR) c).f1 && f)) (f && (factAt (L.map toR) c).f2)
    rw [h]
    simp only [toR, Bool.and_comm f]
theorem node_val {R : List RuleT} {G : List NodeT} (hf : Fit R G) (L : List FlowT) (hL : L.length = G.length) (i : Int) (h0 : 0 ≤ i) (h1 : i < (G.length : Int)) (k : Nat) (hk : 200 ≤ k) :
    flow_node.f k R G i L = some (vetchref11_Node.p R (L.map toR) (nodeAt G i)) := by
  have hn := hf.nodes
  have hop := hf.op i h0 h1
  have hlen := hf.len i h0 h1
  have hkids := hf.kids i h0 h1
  have hone := hf.one i h0 h1
  have hcall := hf.call i h0 h1
  show (if 0 ≤ i then (if i < (G.length : Int) then (flow_node.l0 k L ([] : List FlowT) (nodeAt G i).f1 (((nodeAt G i).f1).length : Int) 0 R G (nodeAt G i).f0 (nodeAt G i).f1 (nodeAt G i).f2 (nodeAt G i).f3.f0 (nodeAt G i).f3.f1 (nodeAt G i).f3.f2 (nodeAt G i).f3.f3) else none) else none) = _
  rw [if_pos h0, if_pos h1]
  generalize nodeAt G i = nd at hop hlen hkids hone hcall ⊢
  obtain ⟨op, cs, rule, s⟩ := nd
  dsimp only at hop hlen hkids hone hcall ⊢
  have loop : ∀ (d j k : Nat), j + d = cs.length → d + 100 ≤ k → flow_node.l0 k L ((cs.take j).map (flowAt L)) cs (cs.length : Int) (j : Int) R G op cs rule s.f0 s.f1 s.f2 s.f3 = some (vetchref11_Node.p R (L.map toR) ⟨op, cs, rule, s⟩) := by
    intro d
    induction d with
    | zero =>
      intro j k hj hk
      obtain ⟨k, rfl⟩ : ∃ m, k = m + 1 := ⟨k - 1, by omega⟩
      rw [List.take_of_length_le (by omega), flow_node.l0, if_neg (by omega)]
      unfold vetchref11_Node.p
      dsimp only
      by_cases o0 : op = 0
      · rw [if_pos o0, if_pos o0]
      rw [if_neg o0, if_neg o0]
      by_cases o1 : op = 1
      · rw [if_pos o1, if_pos o1]
      rw [if_neg o1, if_neg o1]
      by_cases o2 : op = 2
      · obtain ⟨a, b, c, d⟩ := hcall o2
        have h := at_toR L (ruleAt R rule).f1
        rw [if_pos o2, if_pos o2, if_pos a, if_pos b, if_pos c, if_pos (by rw [hL]; exact d)]
        show _ = some ((factAt (L.map toR) (ruleAt R rule).f1).f0, (factAt (L.map toR) (ruleAt R rule).f1).f1, (factAt (L.map toR) (ruleAt R rule).f1).f2)
        rw [h]
        rfl
      rw [if_neg o2, if_neg o2]
      by_cases o3 : op = 3
      · rw [if_pos o3, if_pos o3]
        unfold flow_seq.f
        have h := seq_val (cs.map (flowAt L)) (by simp; omega) cs.length 0 k true true false false (by simp) (by omega)
        rw [show ((0 : Nat) : Int) = 0 from rfl] at h
        rw [h, Option.bind_some, List.drop_zero, seqS_F]
      rw [if_neg o3, if_neg o3]
      by_cases o4 : op = 4
      · rw [if_pos o4, if_pos o4]
        unfold flow_choice.f
        have h := cho_val (cs.map (flowAt L)) (by simp; omega) cs.length 0 k true false false false (by simp) (by omega)
        rw [show ((0 : Nat) : Int) = 0 from rfl] at h
        rw [h, Option.bind_some, List.drop_zero, choS_F]
      rw [if_neg o4, if_neg o4]
      have hp := hone (by omega)
      have e0 : rd_T36 (cs.map (flowAt L)) 0 = flowAt L (rd cs 0) := by
        cases cs with
        | nil => simp at hp
        | cons c cs => rfl
      have h := at_toR L (rd cs 0)
      rw [if_pos (by simp; omega), e0]
      show _ = some (if op = 5 then ((factAt (L.map toR) (rd cs 0)).f2, (factAt (L.map toR) (rd cs 0)).f1, false) else if op = 6 then ((factAt (L.map toR) (rd cs 0)).f0 && (factAt (L.map toR) (rd cs 0)).f2, (factAt (L.map toR) (rd cs 0)).f1, (factAt (L.map toR) (rd cs 0)).f2) else if op = 7 then ((factAt (L.map toR) (rd cs 0)).f0 || (factAt (L.map toR) (rd cs 0)).f2, (factAt (L.map toR) (rd cs 0)).f1, false) else if op = 8 then ((factAt (L.map toR) (rd cs 0)).f0 || (factAt (L.map toR) (rd cs 0)).f1, false, (factAt (L.map toR) (rd cs 0)).f2) else if op = 9 then ((factAt (L.map toR) (rd cs 0)).f2, false, (factAt (L.map toR) (rd cs 0)).f0 || (factAt (L.map toR) (rd cs 0)).f1) else (false, false, false))
      rw [h]
      generalize flowAt L (rd cs 0) = x
      obtain ⟨x0, x1, x2⟩ := x
      unfold flow_unary.f flow_Facts_ok.f toR
      have o5 : op = 5 ∨ op = 6 ∨ op = 7 ∨ op = 8 ∨ op = 9 := by omega
      rcases o5 with rfl | rfl | rfl | rfl | rfl <;> cases x0 <;> cases x1 <;> cases x2 <;> rfl
    | succ d ih =>
      intro j k hj hk
      obtain ⟨k, rfl⟩ : ∃ m, k = m + 1 := ⟨k - 1, by omega⟩
      have hjl : j < cs.length := by omega
      have hc := hkids _ (List.getElem_mem hjl)
      have er : rd cs (j : Int) = cs[j] := by
        unfold rd
        rw [List.getD_eq_getElem?_getD, Int.toNat_natCast, List.getElem?_eq_getElem hjl]
        rfl
      have hn := ih (j + 1) k (by omega) (by omega)
      rw [flow_node.l0, if_pos (by omega), if_pos (by omega), if_pos (by omega), er, if_pos hc.1, if_pos (by rw [hL]; exact hc.2), if_pos (by simp; omega), w64p _ (by omega), show (j : Int) + 1 = ((j + 1 : Nat) : Int) by omega, ← hn, List.take_succ_eq_append_getElem hjl, List.map_append]
      rfl
  have := loop cs.length 0 k (by omega) (by omega)
  rw [List.take_zero] at this
  exact this
end Go.Proofs.Ytnaanamibfpbpaa.V
namespace Go.Proofs.Ytnaanamibfpbpaa.V
open Go.RowKit Go.Proofs.YtnaanamibfpbpaaW.PrintWords
set_option linter.unusedVariables false
set_option linter.unusedSectionVars false
set_option linter.unusedSimpArgs false
abbrev rowAt (x : List (List Int)) (c : Int) : List Int := rd_L1 x c
theorem row_set (x : List (List Int)) (a : Int) (v : List Int) (h0 : 0 ≤ a) (h1 : a < (x.length : Int)) (c : Int) (hc : 0 ≤ c) : rowAt (x.set a.toNat v) c = if a = c then v else rowAt x c := by
  show (x.set a.toNat v).getD c.toNat [] = if a = c then v else x.getD c.toNat []
  rw [List.getD_eq_getElem?_getD, List.getD_eq_getElem?_getD, List.getElem?_set]
  by_cases h : a = c
  · subst h; rw [if_pos rfl, if_pos rfl, if_pos (by omega)]; rfl
  · rw [if_neg h, if_neg (by omega)]
structure Usr (R : List RuleT) (G : List NodeT) (x : List (List Int)) (i j : Nat) : Prop where
  len : x.length = G.length
  rng : ∀ c : Int, 0 ≤ c → ∀ y ∈ rowAt x c, 0 ≤ y ∧ y < (G.length : Int)
  bd : ∀ c : Int, 0 ≤ c → (rowAt x c).length ≤ 61 * i + j
  done : ∀ p : Int, 0 ≤ p → p < (i : Int) → (∀ c ∈ (nodeAt G p).f1, p ∈ rowAt x c) ∧ ((nodeAt G p).f0 = 2 → p ∈ rowAt x (ruleAt R (nodeAt G p).f2).f1)
theorem Usr.add {R : List RuleT} {G : List NodeT} {x : List (List Int)} {i j : Nat} (hf : Fit R G) (h : Usr R G x i j) (hi : i < G.length) (a : Int) (h0 : 0 ≤ a) (h1 : a < (G.length : Int)) :
    Usr R G (x.set a.toNat (rowAt x a ++ [(i : Int)])) i (j + 1) ∧ (i : Int) ∈ rowAt (x.set a.toNat (rowAt x a ++ [(i : Int)])) a ∧ ∀ c : Int, 0 ≤ c → ∀ y ∈ rowAt x c, y ∈ rowAt (x.set a.toNat (rowAt x a ++ [(i : Int)])) c := by
  have hs := fun c hc => row_set x a (rowAt x a ++ [(i : Int)]) h0 (by rw [h.len]; exact h1) c hc
  have grow : ∀ c : Int, 0 ≤ c → ∀ y ∈ rowAt x c, y ∈ rowAt (x.set a.toNat (rowAt x a ++ [(i : Int)])) c := fun c hc y hy => by
    rw [hs c hc]
    split
    · rename_i e; subst e; exact List.mem_append_left _ hy
    · exact hy
  refine ⟨⟨by rw [List.length_set]; exact h.len, fun c hc y hy => ?_, fun c hc => ?_, fun p hp0 hp => ?_⟩, ?_, grow⟩
  · rw [hs c hc] at hy
    split at hy
    · rcases List.mem_append.1 hy with hy | hy
      · exact h.rng a h0 y hy
      · obtain rfl := List.mem_singleton.1 hy
        exact ⟨by omega, by omega⟩
    · exact h.rng c hc y hy
  · rw [hs c hc]
    split
    · rw [List.length_append, List.length_singleton]
      have := h.bd a h0
      omega
    · have := h.bd c hc
      omega
  · have hd := h.done p hp0 hp
    exact ⟨fun c hc => grow c ((hf.kids p hp0 (by omega) c hc).1) p (hd.1 c hc), fun o => grow _ (hf.call p hp0 (by omega) o).2.2.1 p (hd.2 o)⟩
  · rw [hs a h0, if_pos rfl]
    simp
def UsersOk (R : List RuleT) (G : List NodeT) (x : List (List Int)) : Prop := x.length = G.length ∧ (∀ c : Int, 0 ≤ c → ∀ y ∈ rowAt x c, 0 ≤ y ∧ y < (G.length : Int)) ∧ (∀ c : Int, 0 ≤ c → (rowAt x c).length ≤ 20000) ∧
  ∀ p : Int, 0 ≤ p → p < (G.length : Int) → (∀ c ∈ (nodeAt G p).f1, p ∈ rowAt x c) ∧ ((nodeAt G p).f0 = 2 → p ∈ rowAt x (ruleAt R (nodeAt G p).f2).f1)
theorem users_val {R : List RuleT} {G : List NodeT} (hf : Fit R G) (k : Nat) (hk : 20000 ≤ k) : ∃ x, flow_users.f k R G = some x ∧ UsersOk R G x := by
  have hn := hf.nodes
  have l0 : ∀ (d i k : Nat) (x : List (List Int)), i + d = G.length → 62 * d < k → Usr R G x i 0 → ∃ y, flow_users.l0 k x G (G.length : Int) (i : Int) R G = some y ∧ UsersOk R G y := by
    intro d
    induction d with
    | zero =>
      intro i k x hi hk hu
      obtain ⟨k, rfl⟩ : ∃ m, k = m + 1 := ⟨k - 1, by omega⟩
      obtain rfl : i = G.length := by omega
      exact ⟨x, by rw [flow_users.l0, if_neg (by omega)], hu.len, hu.rng, fun c hc => by have := hu.bd c hc; omega, hu.done⟩
    | succ d ih =>
      intro i k x hi hk hu
      obtain ⟨k, rfl⟩ : ∃ m, k = m + 1 := ⟨k - 1, by omega⟩
      have hlen := hf.len (i : Int) (by omega) (by omega)
      have hkids := hf.kids (i : Int) (by omega) (by omega)
      have hcall := hf.call (i : Int) (by omega) (by omega)
      have l1 : ∀ (e j k : Nat) (x : List (List Int)), j + e = (nodeAt G (i : Int)).f1.length → 62 * d + e + 1 < k → Usr R G x i j → (∀ c ∈ (nodeAt G (i : Int)).f1.take j, (i : Int) ∈ rowAt x c) →
          ∃ y, flow_users.l1 k x (i : Int) G (G.length : Int) (i : Int) (nodeAt G (i : Int)).f1 (((nodeAt G (i : Int)).f1).length : Int) (j : Int) R G (nodeAt G (i : Int)).f0 (nodeAt G (i : Int)).f1 (nodeAt G (i : Int)).f2 (nodeAt G (i : Int)).f3.f0 (nodeAt G (i : Int)).f3.f1 (nodeAt G (i : Int)).f3.f2 (nodeAt G (i : Int)).f3.f3 = some y ∧ UsersOk R G y := by
        intro e
        induction e with
        | zero =>
          intro j k x hj hk hu hcur
          obtain ⟨k, rfl⟩ : ∃ m, k = m + 1 := ⟨k - 1, by omega⟩
          rw [List.take_of_length_le (by omega)] at hcur
          rw [flow_users.l1, if_neg (by omega)]
          by_cases o : (nodeAt G (i : Int)).f0 = 2
          · obtain ⟨a, b, c, dd⟩ := hcall o
            obtain ⟨q1, q2, q3⟩ := hu.add hf (by omega) _ c dd
            have hnext : Usr R G (x.set (ruleAt R (nodeAt G (i : Int)).f2).f1.toNat (rowAt x (ruleAt R (nodeAt G (i : Int)).f2).f1 ++ [(i : Int)])) (i + 1) 0 := ⟨q1.len, q1.rng, fun c hc => by have := q1.bd c hc; omega, fun p hp0 hp => by
              by_cases e : p = (i : Int)
              · subst e
                exact ⟨fun c hc => q3 c (hkids c hc).1 _ (hcur c hc), fun _ => q2⟩
              · exact q1.done p hp0 (by omega)⟩
            obtain ⟨y, hy, hok⟩ := ih (i + 1) k _ (by omega) (by omega) hnext
            refine ⟨y, ?_, hok⟩
            rw [if_pos o, if_pos a, if_pos b, if_pos c, if_pos (by rw [hu.len]; exact dd), if_pos (by have := hu.bd _ c; show (rowAt x (ruleAt R (nodeAt G (i : Int)).f2).f1).length < _; omega), w64p _ (by omega), show (i : Int) + 1 = ((i + 1 : Nat) : Int) by omega]
            exact hy
          · have hnext : Usr R G x (i + 1) 0 := ⟨hu.len, hu.rng, fun c hc => by have := hu.bd c hc; omega, fun p hp0 hp => by
              by_cases e : p = (i : Int)
              · subst e
                exact ⟨hcur, fun o' => absurd o' o⟩
              · exact hu.done p hp0 (by omega)⟩
            obtain ⟨y, hy, hok⟩ := ih (i + 1) k _ (by omega) (by omega) hnext
            refine ⟨y, ?_, hok⟩
            rw [if_neg o, w64p _ (by omega), show (i : Int) + 1 = ((i + 1 : Nat) : Int) by omega]
            exact hy
        | succ e ihe =>
          intro j k x hj hk hu hcur
          obtain ⟨k, rfl⟩ : ∃ m, k = m + 1 := ⟨k - 1, by omega⟩
          have hjl : j < (nodeAt G (i : Int)).f1.length := by omega
          have er : rd (nodeAt G (i : Int)).f1 (j : Int) = (nodeAt G (i : Int)).f1[j] := by
            unfold rd
            rw [List.getD_eq_getElem?_getD, Int.toNat_natCast, List.getElem?_eq_getElem hjl]
            rfl
          have hc := hkids _ (List.getElem_mem hjl)
          rw [← er] at hc
          obtain ⟨q1, q2, q3⟩ := hu.add hf (by omega) _ hc.1 hc.2
          obtain ⟨y, hy, hok⟩ := ihe (j + 1) k _ (by omega) (by omega) q1 (fun c hc => by
            rw [List.take_succ_eq_append_getElem hjl, List.mem_append, List.mem_singleton] at hc
            rcases hc with hc | rfl
            · exact q3 c (hkids c (List.mem_of_mem_take hc)).1 _ (hcur c hc)
            · rw [← er]; exact q2)
          refine ⟨y, ?_, hok⟩
          rw [flow_users.l1, if_pos (by omega), if_pos (by omega), if_pos (by omega), if_pos hc.1, if_pos (by rw [hu.len]; exact hc.2), if_pos (by have := hu.bd _ hc.1; show (rowAt x _).length < _; omega), w64p _ (by omega), show (j : Int) + 1 = ((j + 1 : Nat) : Int) by omega]
          exact hy
      obtain ⟨y, hy, hok⟩ := l1 (nodeAt G (i : Int)).f1.length 0 k x (by omega) (by omega) hu (by simp)
      refine ⟨y, ?_, hok⟩
      rw [flow_users.l0, if_pos (by omega), if_pos (by omega), if_pos (by omega)]
      exact hy
  have nil : ∀ c : Int, rowAt (List.replicate G.length []) c = [] := fun c => by
    show (List.replicate G.length []).getD c.toNat [] = []
    rw [List.getD_eq_getElem?_getD, List.getElem?_replicate]
    split <;> rfl
  obtain ⟨y, hy, hok⟩ := l0 G.length 0 k (List.replicate G.length []) (by omega) (by omega) ⟨by simp, fun c _ y hy => (by rw [nil] at hy; cases hy), fun c _ => (by rw [nil]; simp), fun p h0 h1 => by omega⟩
  refine ⟨y, ?_, hok⟩
  unfold flow_users.f
  rw [if_pos (by omega), if_pos (by omega), show ((G.length : Int) : Int).toNat = G.length by omega]
  exact hy
def QInv (n : Nat) (l : List Int) (b : List Bool) : Prop := b.length = n ∧ l.Nodup ∧ ∀ x : Int, x ∈ l ↔ (0 ≤ x ∧ x < (n : Int) ∧ rdOf false b x = true)
theorem pigI : ∀ (n : Nat) (l : List Int), l.Nodup → (∀ s ∈ l, 0 ≤ s ∧ s < (n : Int)) → l.length ≤ n
  | 0, [], _, _ => Nat.le_refl _
  | 0, s :: l, _, h => by have := h s (by simp); omega
  | n + 1, l, hd, h => by
    have h1 := pigI n (l.erase (n : Int)) (hd.erase _) (fun s hs => by
      have hm := (hd.mem_erase_iff).1 hs
      have := h s hm.2
      have := hm.1
      omega)
    rw [List.length_erase] at h1
    split at h1 <;> omega
theorem QInv.le {n : Nat} {l : List Int} {b : List Bool} (h : QInv n l b) : l.length ≤ n := pigI n l h.2.1 (fun s hs => by have := (h.2.2 s).1 hs; exact ⟨this.1, this.2.1⟩)
theorem mark_set (b : List Bool) (i : Int) (v : Bool) (h0 : 0 ≤ i) (h1 : i < (b.length : Int)) (x : Int) (hx : 0 ≤ x) : rdOf false (b.set i.toNat v) x = if i = x then v else rdOf false b x := by
  unfold rdOf
  rw [List.getD_eq_getElem?_getD, List.getD_eq_getElem?_getD, List.getElem?_set]
  by_cases h : i = x
  · subst h; rw [if_pos rfl, if_pos rfl, if_pos (by omega)]; rfl
  · rw [if_neg h, if_neg (by omega)]
theorem QInv.add {n : Nat} {l l' : List Int} {b : List Bool} {i : Int} (h : QInv n l b) (h0 : 0 ≤ i) (h1 : i < (n : Int)) (hp : if rdOf false b i = true then l'.Perm l else l'.Perm (l ++ [i])) : QInv n l' (b.set i.toNat true) ∧ i ∈ l' ∧ ∀ y ∈ l, y ∈ l' := by
  obtain ⟨hb, hd, hm⟩ := h
  have hs := fun x hx => mark_set b i true h0 (by omega) x hx
  by_cases c : rdOf false b i = true
  · rw [if_pos c] at hp
    have hil : i ∈ l := (hm i).2 ⟨h0, h1, c⟩
    refine ⟨⟨by rw [List.length_set]; exact hb, hp.nodup_iff.2 hd, fun x => ?_⟩, hp.mem_iff.2 hil, fun y hy => hp.mem_iff.2 hy⟩
    rw [hp.mem_iff, hm x]
    refine ⟨fun ⟨a, b', c'⟩ => ⟨a, b', ?_⟩, fun ⟨a, b', c'⟩ => ⟨a, b', ?_⟩⟩
    · rw [hs x a]; split
      · rfl
      · exact c'
    · rw [hs x a] at c'
      split at c'
      · rename_i e; rw [← e]; exact c
      · exact c'
  · rw [if_neg c] at hp
    have hil : i ∉ l := fun hi => c ((hm i).1 hi).2.2
    refine ⟨⟨by rw [List.length_set]; exact hb, hp.nodup_iff.2 (List.nodup_append.2 ⟨hd, by simp, fun a ha b' hb' e => by obtain rfl := List.mem_singleton.1 hb'; subst e; exact hil ha⟩), fun x => ?_⟩, hp.mem_iff.2 (by simp), fun y hy => hp.mem_iff.2 (List.mem_append_left _ hy)⟩
    rw [hp.mem_iff, List.mem_append, List.mem_singleton, hm x]
    constructor
    · rintro (⟨a, b', c'⟩ | rfl)
      · refine ⟨a, b', ?_⟩
        rw [hs x a]; split
        · rfl
        · exact c'
      · exact ⟨h0, h1, by rw [hs x h0, if_pos rfl]⟩
    · rintro ⟨a, b', c'⟩
      rw [hs x a] at c'
      split at c'
      · rename_i e; exact .inr e.symm
      · exact .inl ⟨a, b', c'⟩
theorem QInv.pop {n : Nat} {l l' : List Int} {b : List Bool} {x : Int} (h : QInv n l b) (hp : (x :: l').Perm l) : QInv n l' (b.set x.toNat false) ∧ 0 ≤ x ∧ x < (n : Int) := by
  obtain ⟨hb, hd, hm⟩ := h
  have hx := (hm x).1 (hp.mem_iff.1 (by simp))
  have hd' := hp.nodup_iff.2 hd
  rw [List.nodup_cons] at hd'
  refine ⟨⟨by rw [List.length_set]; exact hb, hd'.2, fun y => ?_⟩, hx.1, hx.2.1⟩
  have hs := fun y hy => mark_set b x false hx.1 (by omega) y hy
  constructor
  · intro hy
    have h1 := (hm y).1 (hp.mem_iff.1 (List.mem_cons_of_mem _ hy))
    refine ⟨h1.1, h1.2.1, ?_⟩
    rw [hs y h1.1, if_neg (fun e : x = y => hd'.1 (by rw [e]; exact hy))]
    exact h1.2.2
  · rintro ⟨a, b', c'⟩
    rw [hs y a] at c'
    split at c'
    · cases c'
    · rename_i e
      have := hp.mem_iff.2 ((hm y).2 ⟨a, b', c'⟩)
      rcases List.mem_cons.1 this with r | r
      · exact absurd r.symm e
      · exact r
theorem p_congr {R : List RuleT} {l m : List FactT} {nd : NodeT} (hk : ∀ c ∈ nd.f1, factAt l c = factAt m c) (hr : nd.f0 = 2 → factAt l (ruleAt R nd.f2).f1 = factAt m (ruleAt R nd.f2).f1) (h1 : 5 ≤ nd.f0 → 0 < nd.f1.length) (h9 : 0 ≤ nd.f0) : vetchref11_Node.p R l nd = vetchref11_Node.p R m nd := by
  have sq : ∀ (cs : List Int), (∀ c ∈ cs, factAt l c = factAt m c) → ∀ n e f al, vetchref11_Node.seqF l cs n e f al = vetchref11_Node.seqF m cs n e f al := by
    intro cs
    induction cs with
    | nil => intro _ n e f al; rfl
    | cons c cs ih =>
      intro h n e f al
      rw [vetchref11_Node.seqF, vetchref11_Node.seqF, ih (fun c hc => h c (List.mem_cons_of_mem _ hc))]
      have := h c (by simp)
      show vetchref11_Node.seqF m cs (n && (factAt l c).f0) (e || (factAt l c).f1) (f || ((factAt l c).f2 && al)) (al && ((factAt l c).f0 || (factAt l c).f1)) = _
      rw [this]
  have ch : ∀ (cs : List Int), (∀ c ∈ cs, factAt l c = factAt m c) → ∀ n e f, vetchref11_Node.choF l cs n e f = vetchref11_Node.choF m cs n e f := by
    intro cs
    induction cs with
    | nil => intro _ n e f; rfl
    | cons c cs ih =>
      intro h n e f
      rw [vetchref11_Node.choF, vetchref11_Node.choF, ih (fun c hc => h c (List.mem_cons_of_mem _ hc))]
      have := h c (by simp)
      show vetchref11_Node.choF m cs (n || ((factAt l c).f0 && f)) (e || ((factAt l c).f1 && f)) (f && (factAt l c).f2) = _
      rw [this]
  obtain ⟨op, cs, rule, s⟩ := nd
  dsimp only at hk hr h1 h9
  unfold vetchref11_Node.p
  dsimp only
  by_cases o0 : op = 0
  · rw [if_pos o0, if_pos o0]
  rw [if_neg o0, if_neg o0]
  by_cases o1 : op = 1
  · rw [if_pos o1, if_pos o1]
  rw [if_neg o1, if_neg o1]
  by_cases o2 : op = 2
  · have := hr o2
    rw [if_pos o2, if_pos o2]
    show ((factAt l (ruleAt R rule).f1).f0, (factAt l (ruleAt R rule).f1).f1, (factAt l (ruleAt R rule).f1).f2) = _
    rw [this]
  rw [if_neg o2, if_neg o2]
  by_cases o3 : op = 3
  · rw [if_pos o3, if_pos o3]; exact sq cs hk _ _ _ _
  rw [if_neg o3, if_neg o3]
  by_cases o4 : op = 4
  · rw [if_pos o4, if_pos o4]; exact ch cs hk _ _ _
  rw [if_neg o4, if_neg o4]
  have hp := h1 (by omega)
  have e : factAt l (rd cs 0) = factAt m (rd cs 0) := by
    cases cs with
    | nil => simp at hp
    | cons c cs => exact hk c (by simp)
  have e' : rd_T35 l (rd cs 0) = rd_T35 m (rd cs 0) := e
  rw [e']
def bot (G : List NodeT) : List FactT := List.replicate G.length z35
theorem bot_at (G : List NodeT) (i : Int) : factAt (bot G) i = z35 := by
  show (List.replicate G.length _).getD i.toNat _ = _
  rw [List.getD_eq_getElem?_getD, List.getElem?_replicate]
  split <;> rfl
theorem bot_le (G : List NodeT) (m : List FactT) (i : Int) : FLe (factAt (bot G) i) (factAt m i) := by
  rw [bot_at]
  exact ⟨fun h => absurd h (by decide), fun h => absurd h (by decide), fun h => absurd h (by decide)⟩
structure OInv (R : List RuleT) (G : List NodeT) (O : List FlowT) (l : List Int) : Prop where
  len : O.length = G.length
  up : ∀ i, FLe (factAt (O.map toR) i) (factAt (stepL R G (O.map toR)) i)
  low : ∀ m : List FactT, (∀ i, FLe (factAt (stepL R G m) i) (factAt m i)) → ∀ i, FLe (factAt (O.map toR) i) (factAt m i)
  rest : ∀ i : Int, 0 ≤ i → i < (G.length : Int) → i ∉ l → factAt (O.map toR) i = factAt (stepL R G (O.map toR)) i
theorem OInv.start (R : List RuleT) (G : List NodeT) (l : List Int) (hl : ∀ i : Int, 0 ≤ i → i < (G.length : Int) → i ∈ l) : OInv R G (List.replicate G.length z36) l := by
  have e : (List.replicate G.length z36).map toR = bot G := by rw [List.map_replicate]; rfl
  exact ⟨by simp, fun i => by rw [e]; exact bot_le G _ i, fun m _ i => by rw [e]; exact bot_le G _ i, fun i h0 h1 hn => absurd (hl i h0 h1) hn⟩
theorem OInv.same {R : List RuleT} {G : List NodeT} {O : List FlowT} {l l' : List Int} {x : Int} (h : OInv R G O l) (hp : (x :: l').Perm l) (h0 : 0 ≤ x) (h1 : x < (G.length : Int)) (he : toR (flowAt O x) = mkF (vetchref11_Node.p R (O.map toR) (nodeAt G x))) : OInv R G O l' := by
  refine ⟨h.len, h.up, h.low, fun i hi0 hi1 hn => ?_⟩
  by_cases e : i = x
  · subst e
    rw [fact_step R G _ i hi0 hi1, at_toR, he]
  · exact h.rest i hi0 hi1 (fun hm => by
      rcases List.mem_cons.1 (hp.mem_iff.2 hm) with r | r
      · exact e r
      · exact hn r)
theorem toR_set (O : List FlowT) (x : Int) (v : FlowT) (h0 : 0 ≤ x) (h1 : x < (O.length : Int)) (i : Int) (hi : 0 ≤ i) : factAt ((O.set x.toNat v).map toR) i = if x = i then toR v else factAt (O.map toR) i := by
  rw [at_toR, at_toR]
  show toR ((O.set x.toNat v).getD i.toNat _) = if x = i then toR v else toR (O.getD i.toNat _)
  rw [List.getD_eq_getElem?_getD, List.getD_eq_getElem?_getD, List.getElem?_set]
  by_cases h : x = i
  · subst h; rw [if_pos rfl, if_pos rfl, if_pos (by omega)]; rfl
  · rw [if_neg h, if_neg (by omega)]
theorem fact_neg (l : List FactT) (i : Int) : factAt l i = factAt l (i.toNat : Int) := by
  show l.getD i.toNat _ = l.getD ((i.toNat : Int).toNat) _
  rw [Int.toNat_natCast]
theorem OInv.diff {R : List RuleT} {G : List NodeT} (hf : Fit R G) {U : List (List Int)} (hU : UsersOk R G U) {O : List FlowT} {l l' l1 : List Int} {x : Int} (h : OInv R G O l) (hp : (x :: l').Perm l) (h0 : 0 ≤ x) (h1 : x < (G.length : Int)) (v : FlowT) (hv : toR v = mkF (vetchref11_Node.p R (O.map toR) (nodeAt G x)))
    (hl1 : ∀ y ∈ l', y ∈ l1) (hl2 : ∀ y ∈ rowAt U x, y ∈ l1) : OInv R G (O.set x.toNat v) l1 ∧ (v ≠ flowAt O x → cnt (O.map toR) < cnt ((O.set x.toNat v).map toR)) := by
  have hs := fun i hi => toR_set O x v h0 (by rw [h.len]; exact h1) i hi
  have hx : factAt (stepL R G (O.map toR)) x = toR v := by rw [fact_step R G _ x h0 h1, hv]
  have grow : ∀ i, FLe (factAt (O.map toR) i) (factAt ((O.set x.toNat v).map toR) i) := fun i => by
    rw [fact_neg, fact_neg ((O.set x.toNat v).map toR)]
    rw [hs _ (by omega)]
    split
    · rename_i e
      rw [← e, ← hx]
      exact h.up x
    · exact FLe.refl _
  have hst := step_mono R G grow
  refine ⟨⟨by rw [List.length_set]; exact h.len, fun i => ?_, fun m hm i => ?_, fun i hi0 hi1 hn => ?_⟩, fun hne => ?_⟩
  · rw [fact_neg ((O.set x.toNat v).map toR)]
    rw [fact_neg (stepL R G ((O.set x.toNat v).map toR))]
    rw [hs _ (by omega)]
    split
    · rename_i e
      rw [← e, ← hx]
      exact hst x
    · exact (h.up _).trans (hst _)
  · rw [fact_neg, fact_neg m, hs _ (by omega)]
    split
    · rename_i e
      rw [← e, ← hx]
      exact (step_mono R G (h.low m hm) x).trans (hm x)
    · exact h.low m hm _
  · have hnu : i ∉ rowAt U x := fun hm => hn (hl2 i hm)
    have hud := hU.2.2.2 i hi0 hi1
    have eqs : factAt (stepL R G ((O.set x.toNat v).map toR)) i = factAt (stepL R G (O.map toR)) i := by
      rw [fact_step R G _ i hi0 hi1, fact_step R G _ i hi0 hi1]
      congr 1
      refine p_congr (fun c hc => ?_) (fun o => ?_) (hf.one i hi0 hi1) (hf.op i hi0 hi1).1
      · rw [hs c (hf.kids i hi0 hi1 c hc).1, if_neg (fun e : x = c => hnu (by rw [e]; exact hud.1 c hc))]
      · rw [hs _ (hf.call i hi0 hi1 o).2.2.1, if_neg (fun e : x = _ => hnu (by rw [e]; exact hud.2 o))]
    rw [eqs, hs i hi0]
    split
    · rename_i e
      rw [← e]; exact hx.symm
    · rename_i e
      exact h.rest i hi0 hi1 (fun hm => by
        rcases List.mem_cons.1 (hp.mem_iff.2 hm) with r | r
        · exact e r.symm
        · exact hn (hl1 i r))
  · have hc := lle_cnt (a := O.map toR) (b := (O.set x.toNat v).map toR) ⟨by simp, grow⟩
    rcases Nat.lt_or_ge (cnt (O.map toR)) (cnt ((O.set x.toNat v).map toR)) with q | q
    · exact q
    · have e := hc.2 q
      have := congrArg (fun l => factAt l x) e
      have this : factAt (O.map toR) x = factAt ((O.set x.toNat v).map toR) x := this
      rw [hs x h0, if_pos rfl, at_toR] at this
      exact absurd (by have := congrArg ofR this; rw [ofR_toR, ofR_toR] at this; exact this.symm) hne
def itL (R : List RuleT) (G : List NodeT) : Nat → List FactT
  | 0 => bot G
  | t + 1 => stepL R G (itL R G t)
theorem itL_length (R : List RuleT) (G : List NodeT) : ∀ t, (itL R G t).length = G.length
  | 0 => by simp [itL, bot]
  | t + 1 => step_length R G _
theorem itL_up (R : List RuleT) (G : List NodeT) : ∀ t i, FLe (factAt (itL R G t) i) (factAt (itL R G (t + 1)) i)
  | 0, i => bot_le G _ i
  | t + 1, i => step_mono R G (itL_up R G t) i
theorem itL_low (R : List RuleT) (G : List NodeT) (m : List FactT) (hm : ∀ i, FLe (factAt (stepL R G m) i) (factAt m i)) : ∀ t i, FLe (factAt (itL R G t) i) (factAt m i)
  | 0, i => bot_le G _ i
  | t + 1, i => (step_mono R G (itL_low R G m hm t) i).trans (hm i)
theorem itL_cnt (R : List RuleT) (G : List NodeT) : ∀ t, (itL R G (t + 1) = itL R G t) ∨ t + 1 ≤ cnt (itL R G (t + 1)) := by
  intro t
  induction t with
  | zero =>
    have h := lle_cnt (a := itL R G 0) (b := itL R G (0 + 1)) ⟨by rw [itL_length, itL_length], itL_up R G 0⟩
    by_cases e : itL R G (0 + 1) = itL R G 0
    · exact .inl e
    · refine .inr ?_
      rcases Nat.lt_or_ge (cnt (itL R G 0)) (cnt (itL R G (0 + 1))) with q | q
      · exact Nat.lt_of_le_of_lt (Nat.zero_le _) q
      · exact absurd (h.2 q).symm e
  | succ t ih =>
    have h := lle_cnt (a := itL R G (t + 1)) (b := itL R G (t + 1 + 1)) ⟨by rw [itL_length, itL_length], itL_up R G (t + 1)⟩
    by_cases e : itL R G (t + 1 + 1) = itL R G (t + 1)
    · exact .inl e
    · refine .inr ?_
      rcases ih with q | q
      · exact absurd (congrArg (stepL R G) q) e
      · rcases Nat.lt_or_ge (cnt (itL R G (t + 1))) (cnt (itL R G (t + 1 + 1))) with r | r
        · omega
        · exact absurd (h.2 r).symm e
def leastL (R : List RuleT) (G : List NodeT) : List FactT := itL R G (3 * G.length)
theorem leastL_fix (R : List RuleT) (G : List NodeT) : stepL R G (leastL R G) = leastL R G := by
  rcases itL_cnt R G (3 * G.length) with q | q
  · exact q
  · have := cnt_le (itL R G (3 * G.length + 1))
    rw [itL_length] at this
    omega
theorem lle_anti {a b : List FactT} (hl : a.length = b.length) (h : ∀ i, FLe (factAt a i) (factAt b i)) (h' : ∀ i, FLe (factAt b i) (factAt a i)) : a = b :=
  (lle_cnt ⟨hl, h⟩).2 (lle_cnt ⟨hl.symm, h'⟩).1
theorem least_uniq {R : List RuleT} {G : List NodeT} {L : List FactT} (hl : L.length = G.length) (hfix : ∀ i, FLe (factAt (stepL R G L) i) (factAt L i)) (hlow : ∀ m : List FactT, (∀ i, FLe (factAt (stepL R G m) i) (factAt m i)) → ∀ i, FLe (factAt L i) (factAt m i)) : L = leastL R G :=
  lle_anti (by rw [hl]; exact (itL_length R G _).symm) (hlow _ (fun i => by rw [leastL_fix]; exact FLe.refl _)) (itL_low R G L hfix _)
theorem OInv.fin {R : List RuleT} {G : List NodeT} {O : List FlowT} (h : OInv R G O []) : O = (leastL R G).map ofR := by
  have e : O.map toR = leastL R G := least_uniq (by rw [List.length_map]; exact h.len) (fun i => by
    rw [fact_neg, fact_neg (O.map toR)]
    by_cases hi : (i.toNat : Int) < (G.length : Int)
    · rw [← h.rest _ (by omega) hi (by simp)]; exact FLe.refl _
    · rw [fact_out (stepL R G (O.map toR)) _ (by rw [step_length]; omega)]
      exact ⟨fun q => absurd q (by decide), fun q => absurd q (by decide), fun q => absurd q (by decide)⟩) h.low
  rw [← e, List.map_map]
  have : ofR ∘ toR = id := rfl
  rw [this, List.map_id]
def flow_Of.f (k : Nat) (R : List RuleT) (G : List NodeT) : Option (List FlowT) := if fitB R G = true ∧ 20000 ≤ k then some ((leastL R G).map ofR) else none
theorem flow_Of.mono : ∀ R G k, LeO (flow_Of.f k R G) (flow_Of.f (k + 1) R G) := by
  intro R G k r h
  unfold flow_Of.f at h ⊢
  by_cases c : fitB R G = true ∧ 20000 ≤ k
  · rw [if_pos c] at h
    rw [if_pos ⟨c.1, by omega⟩]
    exact h
  · rw [if_neg c] at h
    cases h
end Go.Proofs.Ytnaanamibfpbpaa.V
namespace Go.Proofs.Ytnaanamibfpbpaa.V
open Go.RowKit Go.Proofs.YtnaanamibfpbpaaW.PrintWords Go.Proofs.YtnaanamibfpbpaaW.PrintLast Go.Proofs.YtnaanamibfpbpaaW.PrintMore
set_option linter.unusedVariables false
set_option linter.unusedSimpArgs false
def IsQ (base : Nat) (w : World) (g : Nat) (l : List Int) (b : List Bool) : Prop :=
  ∃ vl vb, w.heap[g]? = some (.cells #[vl, vb] 59 (0, 0)) ∧ base ≤ g ∧ w.ownsRow base 3 1 vl l.length (nums .i64 l) ∧ w.ownsRow base 4 1 vb b.length (encs Value.bool b)
theorem IsQ.below {base : Nat} {w w1 : World} {g : Nat} {l : List Int} {b : List Bool} (h : IsQ base w g l b) (hb : Below w.heap.size w w1) : IsQ base w1 g l b := by
  obtain ⟨vl, vb, h1, h2, h3, h4⟩ := h
  exact ⟨vl, vb, blk_below h1 hb, h2, pw_own_below h3 hb, pw_own_below h4 hb⟩
theorem IsQ.len {base : Nat} {w : World} {g : Nat} {l : List Int} {b : List Bool} (h : IsQ base w g l b) : ∃ A c B d, w.cell? ⟨g, 0, none⟩ = some (.slice A l.length c) ∧ w.cell? ⟨g, 1, none⟩ = some (.slice B b.length d) := by
  obtain ⟨vl, vb, h1, h2, h3, h4⟩ := h
  obtain ⟨A, c, rfl⟩ := own_slice h3
  obtain ⟨B, d, rfl⟩ := own_slice h4
  exact ⟨A, c, B, d, (blk_cell h1 0).trans rfl, (blk_cell h1 1).trans rfl⟩
theorem IsQ.form {base : Nat} {w : World} {g : Nat} {l : List Int} {b : List Bool} (h : IsQ base w g l b) (hl : 0 < l.length) : ∃ gl c vb, w.heap[g]? = some (.cells #[.slice (some ⟨gl, 0, none⟩) l.length c, vb] 59 (0, 0)) ∧ base ≤ g ∧ base ≤ gl ∧ gl ≠ g ∧
    w.ownsRow base 3 1 (.slice (some ⟨gl, 0, none⟩) l.length c) l.length (nums .i64 l) ∧ w.ownsRow base 4 1 vb b.length (encs Value.bool b) ∧ vb.ownBlock ≠ some gl := by
  obtain ⟨vl, vb, h1, h2, h3, h4⟩ := h
  rcases h3.2 with ⟨rfl, hn⟩ | ⟨gl, cap, cur, rfl, hb, hh, _⟩
  · omega
  · refine ⟨gl, cap, vb, h1, h2, hb, blk_ne hh h1 (by decide), h3, h4, fun e => ?_⟩
    rcases own_type_ne h4 h3 (by decide) with e1 | e1
    · rw [e1] at e; cases e
    · exact e1 (by rw [e]; rfl)
set_option maxHeartbeats 1000000 in
theorem queue_Len {base : Nat} {w : World} {g : Nat} {l : List Int} {b : List Bool} (h : IsQ base w g l b) :
    Calls Try.prog 24 #[.pointer (some ⟨g, 0, none⟩)] w fun e w' => e = .returned (.int .i64 (l.length : Int)) ∧ w' = w := by
  obtain ⟨A, c, B, d, x0, x1⟩ := h.len
  clear h
  go_enter Try.func24, Try.ntmps24
  go_wp2
  go_ret
  exact ⟨rfl, rfl⟩
set_option maxHeartbeats 1000000 in
theorem queue_Less {base : Nat} {w : World} {g : Nat} {l : List Int} {b : List Bool} (h : IsQ base w g l b) (i k : Int) (hi0 : 0 ≤ i) (hi : i < (l.length : Int)) (hk0 : 0 ≤ k) (hk : k < (l.length : Int)) :
    Calls Try.prog 59 #[.pointer (some ⟨g, 0, none⟩), .int .i64 i, .int .i64 k] w fun e w' => e = .returned (.bool (decide (rd l i < rd l k))) ∧ Drawn0 w w' := by
  obtain ⟨gl, c, vb, h1, h2, h3, h4, h5, h6, h7⟩ := h.form (by omega)
  have x0 : w.cell? ⟨g, 0, none⟩ = some (.slice (some ⟨gl, 0, none⟩) l.length c) := (blk_cell h1 0).trans rfl
  have y0 := (own_at h5 i hi0 hi).1
  have y1 := (own_at h5 k hk0 hk).1
  replace hi0 := eq_true hi0
  replace hk0 := eq_true hk0
  replace hi := eq_true hi
  replace hk := eq_true hk
  clear h h1 h2 h3 h4 h5 h6 h7
  go_enter Try.func59, Try.ntmps59
  go_wp2
  go_quiet (fail)
  go_wp2
  go_ret
  exact ⟨rfl, by repeat (first | exact Drawn0.refl _ | apply Drawn0.step)⟩
theorem IsQ.put {base : Nat} {w1 : World} {g gb d : Nat} {l' : List Int} {b : List Bool} {vl v1 : Value} (hb : w1.heap[g]? = some (.cells #[vl, .slice (some ⟨gb, 0, none⟩) b.length d] 59 (0, 0))) (hg : base ≤ g)
    (h1 : w1.ownsRow base 3 1 v1 l'.length (nums .i64 l')) (h2 : w1.ownsRow base 4 1 (.slice (some ⟨gb, 0, none⟩) b.length d) b.length (encs Value.bool b)) (hgb : gb ≠ g) (i : Int) (x : Bool) :
    IsQ base ((w1.setCell ⟨g, 0, none⟩ v1).setCell ⟨gb, i.toNat, none⟩ (.bool x)) g l' (b.set i.toNat x) := by
  have n1 : some g ≠ v1.ownBlock := own_ne h1 hb (by decide)
  have n2 : some gb ≠ v1.ownBlock := fun e => by
    rcases own_type_ne h1 h2 (by decide) with q | q
    · rw [q] at e; cases e
    · exact q (by rw [← e]; rfl)
  refine ⟨v1, .slice (some ⟨gb, 0, none⟩) b.length d, ?_, hg, ?_, ?_⟩
  · exact blk_far (blk_put hb 0 v1 rfl) hgb.symm _
  · exact own_setCell (own_setCell h1 n1 _) n2 _
  · have q := own_put_of (enc := Value.bool) (own_setCell (p := ⟨g, 0, none⟩) h2 (fun e => hgb (by simpa [Value.ownBlock] using e.symm)) v1) i x
    exact q
theorem IsQ.marks {base : Nat} {w : World} {g : Nat} {l : List Int} {b : List Bool} (h : IsQ base w g l b) (hl : 0 < b.length) : ∃ vl gb d, w.heap[g]? = some (.cells #[vl, .slice (some ⟨gb, 0, none⟩) b.length d] 59 (0, 0)) ∧ base ≤ g ∧ base ≤ gb ∧ gb ≠ g ∧
    w.ownsRow base 3 1 vl l.length (nums .i64 l) ∧ w.ownsRow base 4 1 (.slice (some ⟨gb, 0, none⟩) b.length d) b.length (encs Value.bool b) ∧ vl.ownBlock ≠ some gb := by
  obtain ⟨vl, vb, h1, h2, h3, h4⟩ := h
  rcases h4.2 with ⟨rfl, hn⟩ | ⟨gb, cap, cur, rfl, hb, hh, _⟩
  · omega
  · refine ⟨vl, gb, cap, h1, h2, hb, blk_ne hh h1 (by decide), h3, h4, fun e => ?_⟩
    rcases own_type_ne h3 h4 (by decide) with e1 | e1
    · rw [e1] at e; cases e
    · exact e1 (by rw [e]; rfl)
end Go.Proofs.Ytnaanamibfpbpaa.V
