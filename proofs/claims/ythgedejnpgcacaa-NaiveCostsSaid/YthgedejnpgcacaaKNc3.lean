/- The law NaiveCosts returns true whatever comes in, and leaves its arguments as they were. No condition. -/
import Derived.Test.YthgedejnpgcacaaKNc2
import Derived.StillTailTactics
namespace Go.Proofs.Ythgedejnpgcacaa.V
open Go.RowKit Go.Proofs.YthgedejnpgcacaaW.PrintWords Go.Proofs.YthgedejnpgcacaaW.PrintLast Go.Proofs.YthgedejnpgcacaaW.PrintMore
attribute [local go_sem] max2_int min2_int max_two min_two max_three min_three max_four min_four tdiv_most
set_option linter.unusedVariables false
set_option linter.unusedSimpArgs false
attribute [local go_sem high] eqA54
mutual
def vetchref05_Made.j0 : Nat → Int → Bool → Int → List Int → Int → Int → Int → Int → Int → Option (Bool)
 | 0, _, _, _, _, _, _, _, _, _ => none
 | k + 1, x1, x13, x197000, x197001, x197002, x197003, x197004, x197005, x197006 => if x13 = true then (some false) else (if x197000 ≤ 2 then (if (x197001.length : Int) = 0 then (if x197000 = 3 then (if (x197001.length : Int) < 2 then (vetchref05_Made.j1 k x1 true x197000 x197001 x197002 x197003 x197004 x197005 x197006) else (if x197000 ≥ 5 then (vetchref05_Made.j1 k x1 ((x197001.length : Int) != 1) x197000 x197001 x197002 x197003 x197004 x197005 x197006) else (vetchref05_Made.j1 k x1 false x197000 x197001 x197002 x197003 x197004 x197005 x197006))) else (if x197000 = 4 then (if (x197001.length : Int) < 2 then (vetchref05_Made.j1 k x1 true x197000 x197001 x197002 x197003 x197004 x197005 x197006) else (if x197000 ≥ 5 then (vetchref05_Made.j1 k x1 ((x197001.length : Int) != 1) x197000 x197001 x197002 x197003 x197004 x197005 x197006) else (vetchref05_Made.j1 k x1 false x197000 x197001 x197002 x197003 x197004 x197005 x197006))) else (if x197000 ≥ 5 then (vetchref05_Made.j1 k x1 ((x197001.length : Int) != 1) x197000 x197001 x197002 x197003 x197004 x197005 x197006) else (vetchref05_Made.j1 k x1 false x197000 x197001 x197002 x197003 x197004 x197005 x197006)))) else (vetchref05_Made.j1 k x1 true x197000 x197001 x197002 x197003 x197004 x197005 x197006)) else (if x197000 = 3 then (if (x197001.length : Int) < 2 then (vetchref05_Made.j1 k x1 true x197000 x197001 x197002 x197003 x197004 x197005 x197006) else (if x197000 ≥ 5 then (vetchref05_Made.j1 k x1 ((x197001.length : Int) != 1) x197000 x197001 x197002 x197003 x197004 x197005 x197006) else (vetchref05_Made.j1 k x1 false x197000 x197001 x197002 x197003 x197004 x197005 x197006))) else (if x197000 = 4 then (if (x197001.length : Int) < 2 then (vetchref05_Made.j1 k x1 true x197000 x197001 x197002 x197003 x197004 x197005 x197006) else (if x197000 ≥ 5 then (vetchref05_Made.j1 k x1 ((x197001.length : Int) != 1) x197000 x197001 x197002 x197003 x197004 x197005 x197006) else (vetchref05_Made.j1 k x1 false x197000 x197001 x197002 x197003 x197004 x197005 x197006))) else (if x197000 ≥ 5 then (vetchref05_Made.j1 k x1 ((x197001.length : Int) != 1) x197000 x197001 x197002 x197003 x197004 x197005 x197006) else (vetchref05_Made.j1 k x1 false x197000 x197001 x197002 x197003 x197004 x197005 x197006)))))
def vetchref05_Made.j1 : Nat → Int → Bool → Int → List Int → Int → Int → Int → Int → Int → Option (Bool)
 | 0, _, _, _, _, _, _, _, _, _ => none
 | k + 1, x1, x46, x197000, x197001, x197002, x197003, x197004, x197005, x197006 => if x46 = true then (some false) else (if x197000 = 2 then (if x197002 < 0 then (some false) else (if x197002 ≥ x1 then (some false) else (if x197000 = 1 then (some true) else (some (x197003 == 0 && (x197004 == 0 && (x197005 == 0 && (x197006 == 0)))))))) else (if x197002 = 0 then (if x197000 = 1 then (some true) else (some (x197003 == 0 && (x197004 == 0 && (x197005 == 0 && (x197006 == 0)))))) else (some false)))
end
def vetchref05_Made.f (k : Nat) (a0_0 : Int) (l0_1 : List Int) (a0_2 : Int) (a0_3 : Int) (a0_4 : Int) (a0_5 : Int) (a0_6 : Int) (a1 : Int) : Option (Bool) := if a0_0 < 0 then (vetchref05_Made.j0 k a1 true a0_0 l0_1 a0_2 a0_3 a0_4 a0_5 a0_6) else (vetchref05_Made.j0 k a1 (decide (a0_0 > 9)) a0_0 l0_1 a0_2 a0_3 a0_4 a0_5 a0_6)
theorem vetchref05_Made.mono_l : ∀ k, (∀ y0 y1 y2 y3 y4 y5 y6 y7 y8, LeO (vetchref05_Made.j0 k y0 y1 y2 y3 y4 y5 y6 y7 y8) (vetchref05_Made.j0 (k + 1) y0 y1 y2 y3 y4 y5 y6 y7 y8)) ∧ (∀ y0 y1 y2 y3 y4 y5 y6 y7 y8, LeO (vetchref05_Made.j1 k y0 y1 y2 y3 y4 y5 y6 y7 y8) (vetchref05_Made.j1 (k + 1) y0 y1 y2 y3 y4 y5 y6 y7 y8))
 | 0 => ⟨fun _ _ _ _ _ _ _ _ _ r h => by simp [vetchref05_Made.j0] at h, fun _ _ _ _ _ _ _ _ _ r h => by simp [vetchref05_Made.j1] at h⟩
 | k + 1 => by
  obtain ⟨ih0, ih1⟩ := vetchref05_Made.mono_l k
  refine ⟨?_, ?_⟩
  ·
   intro y0 y1 y2 y3 y4 y5 y6 y7 y8
   unfold vetchref05_Made.j0
   repeat' first
   | (with_reducible exact ih0 _ _ _ _ _ _ _ _ _)
   | (with_reducible exact ih1 _ _ _ _ _ _ _ _ _)
   | (with_reducible exact LeO.refl _)
   | (with_reducible exact LeO.none _)
   | (with_reducible refine LeO.ite ?_ ?_)
   | (with_reducible refine LeO.bind ?_ (fun _ => ?_))
   | exact ih0 _ _ _ _ _ _ _ _ _
   | exact ih1 _ _ _ _ _ _ _ _ _
   | exact LeO.none _
   | refine LeO.ite ?_ ?_
   | refine LeO.bind ?_ (fun _ => ?_)
  ·
   intro y0 y1 y2 y3 y4 y5 y6 y7 y8
   unfold vetchref05_Made.j1
   repeat' first
   | (with_reducible exact ih0 _ _ _ _ _ _ _ _ _)
   | (with_reducible exact ih1 _ _ _ _ _ _ _ _ _)
   | (with_reducible exact LeO.refl _)
   | (with_reducible exact LeO.none _)
   | (with_reducible refine LeO.ite ?_ ?_)
   | (with_reducible refine LeO.bind ?_ (fun _ => ?_))
   | exact ih0 _ _ _ _ _ _ _ _ _
   | exact ih1 _ _ _ _ _ _ _ _ _
   | exact LeO.none _
   | refine LeO.ite ?_ ?_
   | refine LeO.bind ?_ (fun _ => ?_)
theorem vetchref05_Made.mono : ∀ a0 a1 a2 a3 a4 a5 a6 a7 k, LeO (vetchref05_Made.f k a0 a1 a2 a3 a4 a5 a6 a7) (vetchref05_Made.f (k + 1) a0 a1 a2 a3 a4 a5 a6 a7) := by
 intro a0 a1 a2 a3 a4 a5 a6 a7 k
 obtain ⟨ih0, ih1⟩ := vetchref05_Made.mono_l k
 unfold vetchref05_Made.f
 repeat' first
  | (with_reducible exact ih0 _ _ _ _ _ _ _ _ _)
  | (with_reducible exact ih1 _ _ _ _ _ _ _ _ _)
  | (with_reducible exact LeO.refl _)
  | (with_reducible exact LeO.none _)
  | (with_reducible refine LeO.ite ?_ ?_)
  | (with_reducible refine LeO.bind ?_ (fun _ => ?_))
  | exact ih0 _ _ _ _ _ _ _ _ _
  | exact ih1 _ _ _ _ _ _ _ _ _
  | exact LeO.none _
  | refine LeO.ite ?_ ?_
  | refine LeO.bind ?_ (fun _ => ?_)
set_option maxHeartbeats 8000000 in
set_option maxRecDepth 100000 in
theorem vetchref05_Made.calls (k : Nat) (a0_0 : Int) (A0_1 : Option Addr) (c0_1 : Nat) (l0_1 : List Int) (a0_2 : Int) (a0_3 : Int) (a0_4 : Int) (a0_5 : Int) (a0_6 : Int) (a1 : Int) (r : Bool) (w : World) (hr0_1 : Kd.C (Kd.int .i64) w A0_1 l0_1.length l0_1) (hc0_1 : l0_1.length ≤ c0_1) (h : vetchref05_Made.f k a0_0 l0_1 a0_2 a0_3 a0_4 a0_5 a0_6 a1 = some r) :
 Calls Try.prog 37 #[.agg #[.int .i64 a0_0, .slice A0_1 l0_1.length c0_1, .int .i64 a0_2, .int .u64 a0_3, .int .u64 a0_4, .int .u64 a0_5, .int .u64 a0_6], .int .i64 a1] w fun e w' => e = .returned (.bool r) ∧ Below w.heap.size w w' := by
 have hu56 := Try.underlying56
 have hu54 := Try.underlying54
 have HR0_1 := Aside0.mk hr0_1
 have HC0_1 := Aside0.mk hc0_1
 clear hr0_1 hc0_1
 have HB := Aside0.mk (Below.refl w.heap.size w)
 have H : (if a0_0 < 0 then (vetchref05_Made.j0 k a1 true a0_0 l0_1 a0_2 a0_3 a0_4 a0_5 a0_6) else (vetchref05_Made.j0 k a1 (decide (a0_0 > 9)) a0_0 l0_1 a0_2 a0_3 a0_4 a0_5 a0_6)) = some r := h
 clear h
 have HC3 := Aside0.mk H
 clear H
 go_enter Try.func37, Try.ntmps37
 go_upto_region 1 with (first | ((with_reducible refine gate_dst (N := 2) rfl ?_); refine box_event ?hg (N := 2) ?hd (cs := #[.int .i64 a0_0, .slice A0_1 l0_1.length c0_1, .int .i64 a0_2, .int .u64 a0_3, .int .u64 a0_4, .int .u64 a0_5, .int .u64 a0_6]) (t := 56) ?hr ?_; (case hd => rfl); (case hg => rfl); (case hr => first | (go_simp; done) | (go_simp; rfl)); intro gb196 hg w4 hbox hb; have n0_ := Aside0.mk (below_step (by repeat (first | (with_reducible first | exact HB.out | apply below_alloc | apply pw_below_drewN | apply below_drew1) | exact HB.out)) hb); have n1_ := Aside0.mk (hbox); have n2_ := Aside0.mk ((by rw [hg]; exact (below_size (by repeat (first | (with_reducible first | exact HB.out | apply below_alloc | apply pw_below_drewN | apply below_drew1) | exact HB.out))) : w.heap.size ≤ gb196)); have n3_ := Aside0.mk ((by rw [hg]; exact (below_size (by repeat (first | (with_reducible first | exact HB.out | apply below_alloc | apply pw_below_drewN | apply below_drew1) | exact HB.out))) : w.heap.size ≤ gb196)); clear HB; have HB := n0_; have BK196 := n1_; have GW196 := n2_; have GE196 := n3_; clear n0_ n1_ n2_ n3_; clear hb hbox hg))
 (try simp only [Act.put, List.setIfInBounds_toArray, List.set_cons_zero, List.set_cons_succ])
 go_cut [13] (fun v13 wc => ∃ (kq : Nat) (x13_2 : Bool), v13 = .bool x13_2 ∧ Aside0 (vetchref05_Made.j0 kq a1 x13_2 a0_0 l0_1 a0_2 a0_3 a0_4 a0_5 a0_6 = some r) ∧ Aside0 (kq ≤ k) ∧ Aside0 (wc.heap[gb196]? = some (.cells #[.int .i64 a0_0, (.slice A0_1 l0_1.length c0_1), .int .i64 a0_2, .int .u64 a0_3, .int .u64 a0_4, .int .u64 a0_5, .int .u64 a0_6] 56 (0, 0))) ∧ Aside0 (Below w.heap.size w wc))
 case first =>
  have H := HC3.out
  clear HC3
  by_cases c5 : a0_0 < 0
  ·
   rw [if_pos c5] at H
   have c5b0 : decide (a0_0 < 0) = true := decide_eq_true c5
   clear c5
   (first | rw [c5b0] | (simp only [i64_w, i32_w]; rw [c5b0]) | skip)
   have H' := Aside0.mk H
   clear H
   have hcz6_0 : w4.cell? ⟨gb196, 0, none⟩ = some (.int .i64 a0_0) := (blk_cell BK196.out 0).trans rfl
   have hcz6_1 : w4.cell? ⟨gb196, 1, none⟩ = some (.slice A0_1 l0_1.length c0_1) := (blk_cell BK196.out 1).trans rfl
   have hcz6_2 : w4.cell? ⟨gb196, 2, none⟩ = some (.int .i64 a0_2) := (blk_cell BK196.out 2).trans rfl
   have hcz6_3 : w4.cell? ⟨gb196, 3, none⟩ = some (.int .u64 a0_3) := (blk_cell BK196.out 3).trans rfl
   have hcz6_4 : w4.cell? ⟨gb196, 4, none⟩ = some (.int .u64 a0_4) := (blk_cell BK196.out 4).trans rfl
   have hcz6_5 : w4.cell? ⟨gb196, 5, none⟩ = some (.int .u64 a0_5) := (blk_cell BK196.out 5).trans rfl
   have hcz6_6 : w4.cell? ⟨gb196, 6, none⟩ = some (.int .u64 a0_6) := (blk_cell BK196.out 6).trans rfl
   have hfz6_0 := blk_frozen BK196.out 0
   have hfz6_1 := blk_frozen BK196.out 1
   have hfz6_2 := blk_frozen BK196.out 2
   have hfz6_3 := blk_frozen BK196.out 3
   have hfz6_4 := blk_frozen BK196.out 4
   have hfz6_5 := blk_frozen BK196.out 5
   have hfz6_6 := blk_frozen BK196.out 6
   go_wp2
   go_meet
   case rel => exact ⟨_, (true), (by first | rfl | (simp; done) | (simp [*]; done)), H', ⟨by first | omega | exact Nat.le_refl _⟩, ⟨by (with_reducible repeat (first | refine blk_drewN ?_ _ | refine blk_drew ?_ | refine blk_alloc ?_ _)); exact BK196.out⟩, ⟨by repeat (first | (with_reducible first | exact HB.out | apply below_alloc | apply pw_below_drewN | apply below_drew1 | refine below_set ?_ GE196.out) | exact HB.out)⟩⟩
  ·
   rw [if_neg c5] at H
   have c5b0 : decide (a0_0 < 0) = false := decide_eq_false c5
   clear c5
   (first | rw [c5b0] | (simp only [i64_w, i32_w]; rw [c5b0]) | skip)
   have H' := Aside0.mk H
   clear H
   have hcz7_0 : w4.cell? ⟨gb196, 0, none⟩ = some (.int .i64 a0_0) := (blk_cell BK196.out 0).trans rfl
   have hcz7_1 : w4.cell? ⟨gb196, 1, none⟩ = some (.slice A0_1 l0_1.length c0_1) := (blk_cell BK196.out 1).trans rfl
   have hcz7_2 : w4.cell? ⟨gb196, 2, none⟩ = some (.int .i64 a0_2) := (blk_cell BK196.out 2).trans rfl
   have hcz7_3 : w4.cell? ⟨gb196, 3, none⟩ = some (.int .u64 a0_3) := (blk_cell BK196.out 3).trans rfl
   have hcz7_4 : w4.cell? ⟨gb196, 4, none⟩ = some (.int .u64 a0_4) := (blk_cell BK196.out 4).trans rfl
   have hcz7_5 : w4.cell? ⟨gb196, 5, none⟩ = some (.int .u64 a0_5) := (blk_cell BK196.out 5).trans rfl
   have hcz7_6 : w4.cell? ⟨gb196, 6, none⟩ = some (.int .u64 a0_6) := (blk_cell BK196.out 6).trans rfl
   have hfz7_0 := blk_frozen BK196.out 0
   have hfz7_1 := blk_frozen BK196.out 1
   have hfz7_2 := blk_frozen BK196.out 2
   have hfz7_3 := blk_frozen BK196.out 3
   have hfz7_4 := blk_frozen BK196.out 4
   have hfz7_5 := blk_frozen BK196.out 5
   have hfz7_6 := blk_frozen BK196.out 6
   go_wp2
   go_meet
   case rel => exact ⟨_, (decide (a0_0 > 9)), (by first | rfl | (simp; done) | (simp [*]; done)), H', ⟨by first | omega | exact Nat.le_refl _⟩, ⟨by (with_reducible repeat (first | refine blk_drewN ?_ _ | refine blk_drew ?_ | refine blk_alloc ?_ _)); exact BK196.out⟩, ⟨by repeat (first | (with_reducible first | exact HB.out | apply below_alloc | apply pw_below_drewN | apply below_drew1 | refine below_set ?_ GE196.out) | exact HB.out)⟩⟩
 case rest =>
  clear HC3
  try clear p2
  try clear c3
  try clear c5
  try clear c5b0
  try clear hcz6_0
  try clear hcz6_1
  try clear hcz6_2
  try clear hcz6_3
  try clear hcz6_4
  try clear hcz6_5
  try clear hcz6_6
  try clear hcz7_0
  try clear hcz7_1
  try clear hcz7_2
  try clear hcz7_3
  try clear hcz7_4
  try clear hcz7_5
  try clear hcz7_6
  try clear hfz6_0
  try clear hfz6_1
  try clear hfz6_2
  try clear hfz6_3
  try clear hfz6_4
  try clear hfz6_5
  try clear hfz6_6
  try clear hfz7_0
  try clear hfz7_1
  try clear hfz7_2
  try clear hfz7_3
  try clear hfz7_4
  try clear hfz7_5
  try clear hfz7_6
  obtain ⟨kq, x13_2, rfl, HA, HJ2, BK196, HB⟩ := hcut
  cases kq with
  | zero => exact absurd HA.out (by simp [vetchref05_Made.j0])
  | succ kj2 =>
   have H := HA.out
   clear HA
   simp only [vetchref05_Made.j0] at H
   by_cases c8 : x13_2 = true
   ·
    subst c8
    have H1 : (some false) = some r := by rw [if_pos rfl] at H; exact H
    clear H
    have H := H1
    clear H1
    obtain rfl := Option.some.inj H
    go_wp2
    go_ret
    exact ⟨by first | rfl | (simp [errW_none, errW_some] <;> rfl) | (simp [*, errW_none, errW_some] <;> rfl), by repeat (first | (with_reducible first | exact HB.out | apply below_alloc | apply pw_below_drewN | apply below_drew1 | refine below_set ?_ GE196.out) | exact HB.out)⟩
   ·
    replace c8 := Bool.eq_false_iff.mpr c8
    subst c8
    have H1 : (if a0_0 ≤ 2 then (if (l0_1.length : Int) = 0 then (if a0_0 = 3 then (if (l0_1.length : Int) < 2 then (vetchref05_Made.j1 kj2 a1 true a0_0 l0_1 a0_2 a0_3 a0_4 a0_5 a0_6) else (if a0_0 ≥ 5 then (vetchref05_Made.j1 kj2 a1 ((l0_1.length : Int) != 1) a0_0 l0_1 a0_2 a0_3 a0_4 a0_5 a0_6) else (vetchref05_Made.j1 kj2 a1 false a0_0 l0_1 a0_2 a0_3 a0_4 a0_5 a0_6))) else (if a0_0 = 4 then (if (l0_1.length : Int) < 2 then (vetchref05_Made.j1 kj2 a1 true a0_0 l0_1 a0_2 a0_3 a0_4 a0_5 a0_6) else (if a0_0 ≥ 5 then (vetchref05_Made.j1 kj2 a1 ((l0_1.length : Int) != 1) a0_0 l0_1 a0_2 a0_3 a0_4 a0_5 a0_6) else (vetchref05_Made.j1 kj2 a1 false a0_0 l0_1 a0_2 a0_3 a0_4 a0_5 a0_6))) else (if a0_0 ≥ 5 then (vetchref05_Made.j1 kj2 a1 ((l0_1.length : Int) != 1) a0_0 l0_1 a0_2 a0_3 a0_4 a0_5 a0_6) else (vetchref05_Made.j1 kj2 a1 false a0_0 l0_1 a0_2 a0_3 a0_4 a0_5 a0_6)))) else (vetchref05_Made.j1 kj2 a1 true a0_0 l0_1 a0_2 a0_3 a0_4 a0_5 a0_6)) else (if a0_0 = 3 then (if (l0_1.length : Int) < 2 then (vetchref05_Made.j1 kj2 a1 true a0_0 l0_1 a0_2 a0_3 a0_4 a0_5 a0_6) else (if a0_0 ≥ 5 then (vetchref05_Made.j1 kj2 a1 ((l0_1.length : Int) != 1) a0_0 l0_1 a0_2 a0_3 a0_4 a0_5 a0_6) else (vetchref05_Made.j1 kj2 a1 false a0_0 l0_1 a0_2 a0_3 a0_4 a0_5 a0_6))) else (if a0_0 = 4 then (if (l0_1.length : Int) < 2 then (vetchref05_Made.j1 kj2 a1 true a0_0 l0_1 a0_2 a0_3 a0_4 a0_5 a0_6) else (if a0_0 ≥ 5 then (vetchref05_Made.j1 kj2 a1 ((l0_1.length : Int) != 1) a0_0 l0_1 a0_2 a0_3 a0_4 a0_5 a0_6) else (vetchref05_Made.j1 kj2 a1 false a0_0 l0_1 a0_2 a0_3 a0_4 a0_5 a0_6))) else (if a0_0 ≥ 5 then (vetchref05_Made.j1 kj2 a1 ((l0_1.length : Int) != 1) a0_0 l0_1 a0_2 a0_3 a0_4 a0_5 a0_6) else (vetchref05_Made.j1 kj2 a1 false a0_0 l0_1 a0_2 a0_3 a0_4 a0_5 a0_6))))) = some r := by rw [if_neg (show ¬ (false = true) by decide)] at H; exact H
    clear H
    have H := H1
    clear H1
    have HC9 := Aside0.mk H
    clear H
    have hcz10_0 : wc.cell? ⟨gb196, 0, none⟩ = some (.int .i64 a0_0) := (blk_cell BK196.out 0).trans rfl
    have hcz10_1 : wc.cell? ⟨gb196, 1, none⟩ = some (.slice A0_1 l0_1.length c0_1) := (blk_cell BK196.out 1).trans rfl
    have hcz10_2 : wc.cell? ⟨gb196, 2, none⟩ = some (.int .i64 a0_2) := (blk_cell BK196.out 2).trans rfl
    have hcz10_3 : wc.cell? ⟨gb196, 3, none⟩ = some (.int .u64 a0_3) := (blk_cell BK196.out 3).trans rfl
    have hcz10_4 : wc.cell? ⟨gb196, 4, none⟩ = some (.int .u64 a0_4) := (blk_cell BK196.out 4).trans rfl
    have hcz10_5 : wc.cell? ⟨gb196, 5, none⟩ = some (.int .u64 a0_5) := (blk_cell BK196.out 5).trans rfl
    have hcz10_6 : wc.cell? ⟨gb196, 6, none⟩ = some (.int .u64 a0_6) := (blk_cell BK196.out 6).trans rfl
    have hfz10_0 := blk_frozen BK196.out 0
    have hfz10_1 := blk_frozen BK196.out 1
    have hfz10_2 := blk_frozen BK196.out 2
    have hfz10_3 := blk_frozen BK196.out 3
    have hfz10_4 := blk_frozen BK196.out 4
    have hfz10_5 := blk_frozen BK196.out 5
    have hfz10_6 := blk_frozen BK196.out 6
    go_upto_region 4 with (fail)
    go_cut [46] (fun v46 wc => ∃ (kq : Nat) (x46_8 : Bool), v46 = .bool x46_8 ∧ Aside0 (vetchref05_Made.j1 kq a1 x46_8 a0_0 l0_1 a0_2 a0_3 a0_4 a0_5 a0_6 = some r) ∧ Aside0 (kq ≤ kj2) ∧ Aside0 (wc.heap[gb196]? = some (.cells #[.int .i64 a0_0, (.slice A0_1 l0_1.length c0_1), .int .i64 a0_2, .int .u64 a0_3, .int .u64 a0_4, .int .u64 a0_5, .int .u64 a0_6] 56 (0, 0))) ∧ Aside0 (Below w.heap.size w wc))
    case first =>
     have H := HC9.out
     clear HC9
     by_cases c11 : a0_0 ≤ 2
     ·
      rw [if_pos c11] at H
      have c11b0 : decide (a0_0 ≤ 2) = true := decide_eq_true c11
      clear c11
      (first | rw [c11b0] | (simp only [i64_w, i32_w]; rw [c11b0]) | skip)
      by_cases c12 : (l0_1.length : Int) = 0
      ·
       rw [if_pos c12] at H
       have c12b0 : ((l0_1.length : Int) == 0) = true := beq_iff_eq.mpr c12
       have c12b1 : ((l0_1.length : Int) != 0) = false := bne_eq_false_iff_eq.mpr c12
       clear c12
       by_cases c13 : a0_0 = 3
       ·
        rw [if_pos c13] at H
        have c13b0 : (a0_0 == 3) = true := beq_iff_eq.mpr c13
        have c13b1 : (a0_0 != 3) = false := bne_eq_false_iff_eq.mpr c13
        clear c13
        by_cases c14 : (l0_1.length : Int) < 2
        ·
         rw [if_pos c14] at H
         have c14b0 : decide ((l0_1.length : Int) < 2) = true := decide_eq_true c14
         have c14b1 : decide (l0_1.length < 2) = true := decide_eq_true (by omega)
         clear c14
         have H' := Aside0.mk H
         clear H
         have hcz15_0 : wc.cell? ⟨gb196, 0, none⟩ = some (.int .i64 a0_0) := (blk_cell BK196.out 0).trans rfl
         have hcz15_1 : wc.cell? ⟨gb196, 1, none⟩ = some (.slice A0_1 l0_1.length c0_1) := (blk_cell BK196.out 1).trans rfl
         have hcz15_2 : wc.cell? ⟨gb196, 2, none⟩ = some (.int .i64 a0_2) := (blk_cell BK196.out 2).trans rfl
         have hcz15_3 : wc.cell? ⟨gb196, 3, none⟩ = some (.int .u64 a0_3) := (blk_cell BK196.out 3).trans rfl
         have hcz15_4 : wc.cell? ⟨gb196, 4, none⟩ = some (.int .u64 a0_4) := (blk_cell BK196.out 4).trans rfl
         have hcz15_5 : wc.cell? ⟨gb196, 5, none⟩ = some (.int .u64 a0_5) := (blk_cell BK196.out 5).trans rfl
         have hcz15_6 : wc.cell? ⟨gb196, 6, none⟩ = some (.int .u64 a0_6) := (blk_cell BK196.out 6).trans rfl
         have hfz15_0 := blk_frozen BK196.out 0
         have hfz15_1 := blk_frozen BK196.out 1
         have hfz15_2 := blk_frozen BK196.out 2
         have hfz15_3 := blk_frozen BK196.out 3
         have hfz15_4 := blk_frozen BK196.out 4
         have hfz15_5 := blk_frozen BK196.out 5
         have hfz15_6 := blk_frozen BK196.out 6
         go_wp2
         go_meet
         case rel => exact ⟨_, (true), (by first | rfl | (simp; done) | (simp [*]; done)), H', ⟨by have := HJ2.out; first | omega | exact Nat.le_refl _⟩, ⟨by (with_reducible repeat (first | refine blk_drewN ?_ _ | refine blk_drew ?_ | refine blk_alloc ?_ _)); exact BK196.out⟩, ⟨by repeat (first | (with_reducible first | exact HB.out | apply below_alloc | apply pw_below_drewN | apply below_drew1 | refine below_set ?_ GE196.out) | exact HB.out)⟩⟩
        ·
         rw [if_neg c14] at H
         have c14b0 : decide ((l0_1.length : Int) < 2) = false := decide_eq_false c14
         have c14b1 : decide (l0_1.length < 2) = false := decide_eq_false (by omega)
         clear c14
         by_cases c16 : a0_0 ≥ 5
         ·
          rw [if_pos c16] at H
          have c16b0 : decide (5 ≤ a0_0) = true := decide_eq_true c16
          clear c16
          have H' := Aside0.mk H
          clear H
          have hcz17_0 : wc.cell? ⟨gb196, 0, none⟩ = some (.int .i64 a0_0) := (blk_cell BK196.out 0).trans rfl
          have hcz17_1 : wc.cell? ⟨gb196, 1, none⟩ = some (.slice A0_1 l0_1.length c0_1) := (blk_cell BK196.out 1).trans rfl
          have hcz17_2 : wc.cell? ⟨gb196, 2, none⟩ = some (.int .i64 a0_2) := (blk_cell BK196.out 2).trans rfl
          have hcz17_3 : wc.cell? ⟨gb196, 3, none⟩ = some (.int .u64 a0_3) := (blk_cell BK196.out 3).trans rfl
          have hcz17_4 : wc.cell? ⟨gb196, 4, none⟩ = some (.int .u64 a0_4) := (blk_cell BK196.out 4).trans rfl
          have hcz17_5 : wc.cell? ⟨gb196, 5, none⟩ = some (.int .u64 a0_5) := (blk_cell BK196.out 5).trans rfl
          have hcz17_6 : wc.cell? ⟨gb196, 6, none⟩ = some (.int .u64 a0_6) := (blk_cell BK196.out 6).trans rfl
          have hfz17_0 := blk_frozen BK196.out 0
          have hfz17_1 := blk_frozen BK196.out 1
          have hfz17_2 := blk_frozen BK196.out 2
          have hfz17_3 := blk_frozen BK196.out 3
          have hfz17_4 := blk_frozen BK196.out 4
          have hfz17_5 := blk_frozen BK196.out 5
          have hfz17_6 := blk_frozen BK196.out 6
          go_wp2
          go_meet
          case rel => exact ⟨_, (((l0_1.length : Int) != 1)), (by first | rfl | (simp; done) | (simp [*]; done)), H', ⟨by have := HJ2.out; first | omega | exact Nat.le_refl _⟩, ⟨by (with_reducible repeat (first | refine blk_drewN ?_ _ | refine blk_drew ?_ | refine blk_alloc ?_ _)); exact BK196.out⟩, ⟨by repeat (first | (with_reducible first | exact HB.out | apply below_alloc | apply pw_below_drewN | apply below_drew1 | refine below_set ?_ GE196.out) | exact HB.out)⟩⟩
         ·
          rw [if_neg c16] at H
          have c16b0 : decide (5 ≤ a0_0) = false := decide_eq_false c16
          clear c16
          have H' := Aside0.mk H
          clear H
          have hcz18_0 : wc.cell? ⟨gb196, 0, none⟩ = some (.int .i64 a0_0) := (blk_cell BK196.out 0).trans rfl
          have hcz18_1 : wc.cell? ⟨gb196, 1, none⟩ = some (.slice A0_1 l0_1.length c0_1) := (blk_cell BK196.out 1).trans rfl
          have hcz18_2 : wc.cell? ⟨gb196, 2, none⟩ = some (.int .i64 a0_2) := (blk_cell BK196.out 2).trans rfl
          have hcz18_3 : wc.cell? ⟨gb196, 3, none⟩ = some (.int .u64 a0_3) := (blk_cell BK196.out 3).trans rfl
          have hcz18_4 : wc.cell? ⟨gb196, 4, none⟩ = some (.int .u64 a0_4) := (blk_cell BK196.out 4).trans rfl
          have hcz18_5 : wc.cell? ⟨gb196, 5, none⟩ = some (.int .u64 a0_5) := (blk_cell BK196.out 5).trans rfl
          have hcz18_6 : wc.cell? ⟨gb196, 6, none⟩ = some (.int .u64 a0_6) := (blk_cell BK196.out 6).trans rfl
          have hfz18_0 := blk_frozen BK196.out 0
          have hfz18_1 := blk_frozen BK196.out 1
          have hfz18_2 := blk_frozen BK196.out 2
          have hfz18_3 := blk_frozen BK196.out 3
          have hfz18_4 := blk_frozen BK196.out 4
          have hfz18_5 := blk_frozen BK196.out 5
          have hfz18_6 := blk_frozen BK196.out 6
          go_wp2
          go_meet
          case rel => exact ⟨_, (false), (by first | rfl | (simp; done) | (simp [*]; done)), H', ⟨by have := HJ2.out; first | omega | exact Nat.le_refl _⟩, ⟨by (with_reducible repeat (first | refine blk_drewN ?_ _ | refine blk_drew ?_ | refine blk_alloc ?_ _)); exact BK196.out⟩, ⟨by repeat (first | (with_reducible first | exact HB.out | apply below_alloc | apply pw_below_drewN | apply below_drew1 | refine below_set ?_ GE196.out) | exact HB.out)⟩⟩
       ·
        rw [if_neg c13] at H
        have c13b0 : (a0_0 == 3) = false := beq_eq_false_iff_ne.mpr c13
        have c13b1 : (a0_0 != 3) = true := bne_iff_ne.mpr c13
        by_cases c19 : a0_0 = 4
        ·
         rw [if_pos c19] at H
         have c19b0 : (a0_0 == 4) = true := beq_iff_eq.mpr c19
         have c19b1 : (a0_0 != 4) = false := bne_eq_false_iff_eq.mpr c19
         clear c19
         by_cases c20 : (l0_1.length : Int) < 2
         ·
          rw [if_pos c20] at H
          have c20b0 : decide ((l0_1.length : Int) < 2) = true := decide_eq_true c20
          have c20b1 : decide (l0_1.length < 2) = true := decide_eq_true (by omega)
          clear c20
          have H' := Aside0.mk H
          clear H
          have hcz21_0 : wc.cell? ⟨gb196, 0, none⟩ = some (.int .i64 a0_0) := (blk_cell BK196.out 0).trans rfl
          have hcz21_1 : wc.cell? ⟨gb196, 1, none⟩ = some (.slice A0_1 l0_1.length c0_1) := (blk_cell BK196.out 1).trans rfl
          have hcz21_2 : wc.cell? ⟨gb196, 2, none⟩ = some (.int .i64 a0_2) := (blk_cell BK196.out 2).trans rfl
          have hcz21_3 : wc.cell? ⟨gb196, 3, none⟩ = some (.int .u64 a0_3) := (blk_cell BK196.out 3).trans rfl
          have hcz21_4 : wc.cell? ⟨gb196, 4, none⟩ = some (.int .u64 a0_4) := (blk_cell BK196.out 4).trans rfl
          have hcz21_5 : wc.cell? ⟨gb196, 5, none⟩ = some (.int .u64 a0_5) := (blk_cell BK196.out 5).trans rfl
          have hcz21_6 : wc.cell? ⟨gb196, 6, none⟩ = some (.int .u64 a0_6) := (blk_cell BK196.out 6).trans rfl
          have hfz21_0 := blk_frozen BK196.out 0
          have hfz21_1 := blk_frozen BK196.out 1
          have hfz21_2 := blk_frozen BK196.out 2
          have hfz21_3 := blk_frozen BK196.out 3
          have hfz21_4 := blk_frozen BK196.out 4
          have hfz21_5 := blk_frozen BK196.out 5
          have hfz21_6 := blk_frozen BK196.out 6
          go_wp2
          go_meet
          case rel => exact ⟨_, (true), (by first | rfl | (simp; done) | (simp [*]; done)), H', ⟨by have := HJ2.out; first | omega | exact Nat.le_refl _⟩, ⟨by (with_reducible repeat (first | refine blk_drewN ?_ _ | refine blk_drew ?_ | refine blk_alloc ?_ _)); exact BK196.out⟩, ⟨by repeat (first | (with_reducible first | exact HB.out | apply below_alloc | apply pw_below_drewN | apply below_drew1 | refine below_set ?_ GE196.out) | exact HB.out)⟩⟩
         ·
          rw [if_neg c20] at H
          have c20b0 : decide ((l0_1.length : Int) < 2) = false := decide_eq_false c20
          have c20b1 : decide (l0_1.length < 2) = false := decide_eq_false (by omega)
          clear c20
          by_cases c22 : a0_0 ≥ 5
          ·
           rw [if_pos c22] at H
           have c22b0 : decide (5 ≤ a0_0) = true := decide_eq_true c22
           clear c22
           have H' := Aside0.mk H
           clear H
           have hcz23_0 : wc.cell? ⟨gb196, 0, none⟩ = some (.int .i64 a0_0) := (blk_cell BK196.out 0).trans rfl
           have hcz23_1 : wc.cell? ⟨gb196, 1, none⟩ = some (.slice A0_1 l0_1.length c0_1) := (blk_cell BK196.out 1).trans rfl
           have hcz23_2 : wc.cell? ⟨gb196, 2, none⟩ = some (.int .i64 a0_2) := (blk_cell BK196.out 2).trans rfl
           have hcz23_3 : wc.cell? ⟨gb196, 3, none⟩ = some (.int .u64 a0_3) := (blk_cell BK196.out 3).trans rfl
           have hcz23_4 : wc.cell? ⟨gb196, 4, none⟩ = some (.int .u64 a0_4) := (blk_cell BK196.out 4).trans rfl
           have hcz23_5 : wc.cell? ⟨gb196, 5, none⟩ = some (.int .u64 a0_5) := (blk_cell BK196.out 5).trans rfl
           have hcz23_6 : wc.cell? ⟨gb196, 6, none⟩ = some (.int .u64 a0_6) := (blk_cell BK196.out 6).trans rfl
           have hfz23_0 := blk_frozen BK196.out 0
           have hfz23_1 := blk_frozen BK196.out 1
           have hfz23_2 := blk_frozen BK196.out 2
           have hfz23_3 := blk_frozen BK196.out 3
           have hfz23_4 := blk_frozen BK196.out 4
           have hfz23_5 := blk_frozen BK196.out 5
           have hfz23_6 := blk_frozen BK196.out 6
           go_wp2
           go_meet
           case rel => exact ⟨_, (((l0_1.length : Int) != 1)), (by first | rfl | (simp; done) | (simp [*]; done)), H', ⟨by have := HJ2.out; first | omega | exact Nat.le_refl _⟩, ⟨by (with_reducible repeat (first | refine blk_drewN ?_ _ | refine blk_drew ?_ | refine blk_alloc ?_ _)); exact BK196.out⟩, ⟨by repeat (first | (with_reducible first | exact HB.out | apply below_alloc | apply pw_below_drewN | apply below_drew1 | refine below_set ?_ GE196.out) | exact HB.out)⟩⟩
          ·
           rw [if_neg c22] at H
           have c22b0 : decide (5 ≤ a0_0) = false := decide_eq_false c22
           clear c22
           have H' := Aside0.mk H
           clear H
           have hcz24_0 : wc.cell? ⟨gb196, 0, none⟩ = some (.int .i64 a0_0) := (blk_cell BK196.out 0).trans rfl
           have hcz24_1 : wc.cell? ⟨gb196, 1, none⟩ = some (.slice A0_1 l0_1.length c0_1) := (blk_cell BK196.out 1).trans rfl
           have hcz24_2 : wc.cell? ⟨gb196, 2, none⟩ = some (.int .i64 a0_2) := (blk_cell BK196.out 2).trans rfl
           have hcz24_3 : wc.cell? ⟨gb196, 3, none⟩ = some (.int .u64 a0_3) := (blk_cell BK196.out 3).trans rfl
           have hcz24_4 : wc.cell? ⟨gb196, 4, none⟩ = some (.int .u64 a0_4) := (blk_cell BK196.out 4).trans rfl
           have hcz24_5 : wc.cell? ⟨gb196, 5, none⟩ = some (.int .u64 a0_5) := (blk_cell BK196.out 5).trans rfl
           have hcz24_6 : wc.cell? ⟨gb196, 6, none⟩ = some (.int .u64 a0_6) := (blk_cell BK196.out 6).trans rfl
           have hfz24_0 := blk_frozen BK196.out 0
           have hfz24_1 := blk_frozen BK196.out 1
           have hfz24_2 := blk_frozen BK196.out 2
           have hfz24_3 := blk_frozen BK196.out 3
           have hfz24_4 := blk_frozen BK196.out 4
           have hfz24_5 := blk_frozen BK196.out 5
           have hfz24_6 := blk_frozen BK196.out 6
           go_wp2
           go_meet
           case rel => exact ⟨_, (false), (by first | rfl | (simp; done) | (simp [*]; done)), H', ⟨by have := HJ2.out; first | omega | exact Nat.le_refl _⟩, ⟨by (with_reducible repeat (first | refine blk_drewN ?_ _ | refine blk_drew ?_ | refine blk_alloc ?_ _)); exact BK196.out⟩, ⟨by repeat (first | (with_reducible first | exact HB.out | apply below_alloc | apply pw_below_drewN | apply below_drew1 | refine below_set ?_ GE196.out) | exact HB.out)⟩⟩
        ·
         rw [if_neg c19] at H
         have c19b0 : (a0_0 == 4) = false := beq_eq_false_iff_ne.mpr c19
         have c19b1 : (a0_0 != 4) = true := bne_iff_ne.mpr c19
         by_cases c25 : a0_0 ≥ 5
         ·
          rw [if_pos c25] at H
          have c25b0 : decide (5 ≤ a0_0) = true := decide_eq_true c25
          clear c25
          have H' := Aside0.mk H
          clear H
          have hcz26_0 : wc.cell? ⟨gb196, 0, none⟩ = some (.int .i64 a0_0) := (blk_cell BK196.out 0).trans rfl
          have hcz26_1 : wc.cell? ⟨gb196, 1, none⟩ = some (.slice A0_1 l0_1.length c0_1) := (blk_cell BK196.out 1).trans rfl
          have hcz26_2 : wc.cell? ⟨gb196, 2, none⟩ = some (.int .i64 a0_2) := (blk_cell BK196.out 2).trans rfl
          have hcz26_3 : wc.cell? ⟨gb196, 3, none⟩ = some (.int .u64 a0_3) := (blk_cell BK196.out 3).trans rfl
          have hcz26_4 : wc.cell? ⟨gb196, 4, none⟩ = some (.int .u64 a0_4) := (blk_cell BK196.out 4).trans rfl
          have hcz26_5 : wc.cell? ⟨gb196, 5, none⟩ = some (.int .u64 a0_5) := (blk_cell BK196.out 5).trans rfl
          have hcz26_6 : wc.cell? ⟨gb196, 6, none⟩ = some (.int .u64 a0_6) := (blk_cell BK196.out 6).trans rfl
          have hfz26_0 := blk_frozen BK196.out 0
          have hfz26_1 := blk_frozen BK196.out 1
          have hfz26_2 := blk_frozen BK196.out 2
          have hfz26_3 := blk_frozen BK196.out 3
          have hfz26_4 := blk_frozen BK196.out 4
          have hfz26_5 := blk_frozen BK196.out 5
          have hfz26_6 := blk_frozen BK196.out 6
          go_wp2
          go_meet
          case rel => exact ⟨_, (((l0_1.length : Int) != 1)), (by first | rfl | (simp; done) | (simp [*]; done)), H', ⟨by have := HJ2.out; first | omega | exact Nat.le_refl _⟩, ⟨by (with_reducible repeat (first | refine blk_drewN ?_ _ | refine blk_drew ?_ | refine blk_alloc ?_ _)); exact BK196.out⟩, ⟨by repeat (first | (with_reducible first | exact HB.out | apply below_alloc | apply pw_below_drewN | apply below_drew1 | refine below_set ?_ GE196.out) | exact HB.out)⟩⟩
         ·
          rw [if_neg c25] at H
          have c25b0 : decide (5 ≤ a0_0) = false := decide_eq_false c25
          clear c25
          have H' := Aside0.mk H
          clear H
          have hcz27_0 : wc.cell? ⟨gb196, 0, none⟩ = some (.int .i64 a0_0) := (blk_cell BK196.out 0).trans rfl
          have hcz27_1 : wc.cell? ⟨gb196, 1, none⟩ = some (.slice A0_1 l0_1.length c0_1) := (blk_cell BK196.out 1).trans rfl
          have hcz27_2 : wc.cell? ⟨gb196, 2, none⟩ = some (.int .i64 a0_2) := (blk_cell BK196.out 2).trans rfl
          have hcz27_3 : wc.cell? ⟨gb196, 3, none⟩ = some (.int .u64 a0_3) := (blk_cell BK196.out 3).trans rfl
          have hcz27_4 : wc.cell? ⟨gb196, 4, none⟩ = some (.int .u64 a0_4) := (blk_cell BK196.out 4).trans rfl
          have hcz27_5 : wc.cell? ⟨gb196, 5, none⟩ = some (.int .u64 a0_5) := (blk_cell BK196.out 5).trans rfl
          have hcz27_6 : wc.cell? ⟨gb196, 6, none⟩ = some (.int .u64 a0_6) := (blk_cell BK196.out 6).trans rfl
          have hfz27_0 := blk_frozen BK196.out 0
          have hfz27_1 := blk_frozen BK196.out 1
          have hfz27_2 := blk_frozen BK196.out 2
          have hfz27_3 := blk_frozen BK196.out 3
          have hfz27_4 := blk_frozen BK196.out 4
          have hfz27_5 := blk_frozen BK196.out 5
          have hfz27_6 := blk_frozen BK196.out 6
          go_wp2
          go_meet
          case rel => exact ⟨_, (false), (by first | rfl | (simp; done) | (simp [*]; done)), H', ⟨by have := HJ2.out; first | omega | exact Nat.le_refl _⟩, ⟨by (with_reducible repeat (first | refine blk_drewN ?_ _ | refine blk_drew ?_ | refine blk_alloc ?_ _)); exact BK196.out⟩, ⟨by repeat (first | (with_reducible first | exact HB.out | apply below_alloc | apply pw_below_drewN | apply below_drew1 | refine below_set ?_ GE196.out) | exact HB.out)⟩⟩
      ·
       rw [if_neg c12] at H
       have c12b0 : ((l0_1.length : Int) == 0) = false := beq_eq_false_iff_ne.mpr c12
       have c12b1 : ((l0_1.length : Int) != 0) = true := bne_iff_ne.mpr c12
       have c12b2 : ¬ (l0_1 = []) := fun h_ => c12 (by rw [h_]; rfl)
       have H' := Aside0.mk H
       clear H
       have hcz28_0 : wc.cell? ⟨gb196, 0, none⟩ = some (.int .i64 a0_0) := (blk_cell BK196.out 0).trans rfl
       have hcz28_1 : wc.cell? ⟨gb196, 1, none⟩ = some (.slice A0_1 l0_1.length c0_1) := (blk_cell BK196.out 1).trans rfl
       have hcz28_2 : wc.cell? ⟨gb196, 2, none⟩ = some (.int .i64 a0_2) := (blk_cell BK196.out 2).trans rfl
       have hcz28_3 : wc.cell? ⟨gb196, 3, none⟩ = some (.int .u64 a0_3) := (blk_cell BK196.out 3).trans rfl
       have hcz28_4 : wc.cell? ⟨gb196, 4, none⟩ = some (.int .u64 a0_4) := (blk_cell BK196.out 4).trans rfl
       have hcz28_5 : wc.cell? ⟨gb196, 5, none⟩ = some (.int .u64 a0_5) := (blk_cell BK196.out 5).trans rfl
       have hcz28_6 : wc.cell? ⟨gb196, 6, none⟩ = some (.int .u64 a0_6) := (blk_cell BK196.out 6).trans rfl
       have hfz28_0 := blk_frozen BK196.out 0
       have hfz28_1 := blk_frozen BK196.out 1
       have hfz28_2 := blk_frozen BK196.out 2
       have hfz28_3 := blk_frozen BK196.out 3
       have hfz28_4 := blk_frozen BK196.out 4
       have hfz28_5 := blk_frozen BK196.out 5
       have hfz28_6 := blk_frozen BK196.out 6
       go_wp2
       go_meet
       case rel => exact ⟨_, (true), (by first | rfl | (simp; done) | (simp [*]; done)), H', ⟨by have := HJ2.out; first | omega | exact Nat.le_refl _⟩, ⟨by (with_reducible repeat (first | refine blk_drewN ?_ _ | refine blk_drew ?_ | refine blk_alloc ?_ _)); exact BK196.out⟩, ⟨by repeat (first | (with_reducible first | exact HB.out | apply below_alloc | apply pw_below_drewN | apply below_drew1 | refine below_set ?_ GE196.out) | exact HB.out)⟩⟩
     ·
      rw [if_neg c11] at H
      have c11b0 : decide (a0_0 ≤ 2) = false := decide_eq_false c11
      clear c11
      (first | rw [c11b0] | (simp only [i64_w, i32_w]; rw [c11b0]) | skip)
      by_cases c29 : a0_0 = 3
      ·
       rw [if_pos c29] at H
       have c29b0 : (a0_0 == 3) = true := beq_iff_eq.mpr c29
       have c29b1 : (a0_0 != 3) = false := bne_eq_false_iff_eq.mpr c29
       clear c29
       by_cases c30 : (l0_1.length : Int) < 2
       ·
        rw [if_pos c30] at H
        have c30b0 : decide ((l0_1.length : Int) < 2) = true := decide_eq_true c30
        have c30b1 : decide (l0_1.length < 2) = true := decide_eq_true (by omega)
        clear c30
        have H' := Aside0.mk H
        clear H
        have hcz31_0 : wc.cell? ⟨gb196, 0, none⟩ = some (.int .i64 a0_0) := (blk_cell BK196.out 0).trans rfl
        have hcz31_1 : wc.cell? ⟨gb196, 1, none⟩ = some (.slice A0_1 l0_1.length c0_1) := (blk_cell BK196.out 1).trans rfl
        have hcz31_2 : wc.cell? ⟨gb196, 2, none⟩ = some (.int .i64 a0_2) := (blk_cell BK196.out 2).trans rfl
        have hcz31_3 : wc.cell? ⟨gb196, 3, none⟩ = some (.int .u64 a0_3) := (blk_cell BK196.out 3).trans rfl
        have hcz31_4 : wc.cell? ⟨gb196, 4, none⟩ = some (.int .u64 a0_4) := (blk_cell BK196.out 4).trans rfl
        have hcz31_5 : wc.cell? ⟨gb196, 5, none⟩ = some (.int .u64 a0_5) := (blk_cell BK196.out 5).trans rfl
        have hcz31_6 : wc.cell? ⟨gb196, 6, none⟩ = some (.int .u64 a0_6) := (blk_cell BK196.out 6).trans rfl
        have hfz31_0 := blk_frozen BK196.out 0
        have hfz31_1 := blk_frozen BK196.out 1
        have hfz31_2 := blk_frozen BK196.out 2
        have hfz31_3 := blk_frozen BK196.out 3
        have hfz31_4 := blk_frozen BK196.out 4
        have hfz31_5 := blk_frozen BK196.out 5
        have hfz31_6 := blk_frozen BK196.out 6
        go_wp2
        go_meet
        case rel => exact ⟨_, (true), (by first | rfl | (simp; done) | (simp [*]; done)), H', ⟨by have := HJ2.out; first | omega | exact Nat.le_refl _⟩, ⟨by (with_reducible repeat (first | refine blk_drewN ?_ _ | refine blk_drew ?_ | refine blk_alloc ?_ _)); exact BK196.out⟩, ⟨by repeat (first | (with_reducible first | exact HB.out | apply below_alloc | apply pw_below_drewN | apply below_drew1 | refine below_set ?_ GE196.out) | exact HB.out)⟩⟩
       ·
        rw [if_neg c30] at H
        have c30b0 : decide ((l0_1.length : Int) < 2) = false := decide_eq_false c30
        have c30b1 : decide (l0_1.length < 2) = false := decide_eq_false (by omega)
        clear c30
        by_cases c32 : a0_0 ≥ 5
        ·
         rw [if_pos c32] at H
         have c32b0 : decide (5 ≤ a0_0) = true := decide_eq_true c32
         clear c32
         have H' := Aside0.mk H
         clear H
         have hcz33_0 : wc.cell? ⟨gb196, 0, none⟩ = some (.int .i64 a0_0) := (blk_cell BK196.out 0).trans rfl
         have hcz33_1 : wc.cell? ⟨gb196, 1, none⟩ = some (.slice A0_1 l0_1.length c0_1) := (blk_cell BK196.out 1).trans rfl
         have hcz33_2 : wc.cell? ⟨gb196, 2, none⟩ = some (.int .i64 a0_2) := (blk_cell BK196.out 2).trans rfl
         have hcz33_3 : wc.cell? ⟨gb196, 3, none⟩ = some (.int .u64 a0_3) := (blk_cell BK196.out 3).trans rfl
         have hcz33_4 : wc.cell? ⟨gb196, 4, none⟩ = some (.int .u64 a0_4) := (blk_cell BK196.out 4).trans rfl
         have hcz33_5 : wc.cell? ⟨gb196, 5, none⟩ = some (.int .u64 a0_5) := (blk_cell BK196.out 5).trans rfl
         have hcz33_6 : wc.cell? ⟨gb196, 6, none⟩ = some (.int .u64 a0_6) := (blk_cell BK196.out 6).trans rfl
         have hfz33_0 := blk_frozen BK196.out 0
         have hfz33_1 := blk_frozen BK196.out 1
         have hfz33_2 := blk_frozen BK196.out 2
         have hfz33_3 := blk_frozen BK196.out 3
         have hfz33_4 := blk_frozen BK196.out 4
         have hfz33_5 := blk_frozen BK196.out 5
         have hfz33_6 := blk_frozen BK196.out 6
         go_wp2
         go_meet
         case rel => exact ⟨_, (((l0_1.length : Int) != 1)), (by first | rfl | (simp; done) | (simp [*]; done)), H', ⟨by have := HJ2.out; first | omega | exact Nat.le_refl _⟩, ⟨by (with_reducible repeat (first | refine blk_drewN ?_ _ | refine blk_drew ?_ | refine blk_alloc ?_ _)); exact BK196.out⟩, ⟨by repeat (first | (with_reducible first | exact HB.out | apply below_alloc | apply pw_below_drewN | apply below_drew1 | refine below_set ?_ GE196.out) | exact HB.out)⟩⟩
        ·
         rw [if_neg c32] at H
         have c32b0 : decide (5 ≤ a0_0) = false := decide_eq_false c32
         clear c32
         have H' := Aside0.mk H
         clear H
         have hcz34_0 : wc.cell? ⟨gb196, 0, none⟩ = some (.int .i64 a0_0) := (blk_cell BK196.out 0).trans rfl
         have hcz34_1 : wc.cell? ⟨gb196, 1, none⟩ = some (.slice A0_1 l0_1.length c0_1) := (blk_cell BK196.out 1).trans rfl
         have hcz34_2 : wc.cell? ⟨gb196, 2, none⟩ = some (.int .i64 a0_2) := (blk_cell BK196.out 2).trans rfl
         have hcz34_3 : wc.cell? ⟨gb196, 3, none⟩ = some (.int .u64 a0_3) := (blk_cell BK196.out 3).trans rfl
         have hcz34_4 : wc.cell? ⟨gb196, 4, none⟩ = some (.int .u64 a0_4) := (blk_cell BK196.out 4).trans rfl
         have hcz34_5 : wc.cell? ⟨gb196, 5, none⟩ = some (.int .u64 a0_5) := (blk_cell BK196.out 5).trans rfl
         have hcz34_6 : wc.cell? ⟨gb196, 6, none⟩ = some (.int .u64 a0_6) := (blk_cell BK196.out 6).trans rfl
         have hfz34_0 := blk_frozen BK196.out 0
         have hfz34_1 := blk_frozen BK196.out 1
         have hfz34_2 := blk_frozen BK196.out 2
         have hfz34_3 := blk_frozen BK196.out 3
         have hfz34_4 := blk_frozen BK196.out 4
         have hfz34_5 := blk_frozen BK196.out 5
         have hfz34_6 := blk_frozen BK196.out 6
         go_wp2
         go_meet
         case rel => exact ⟨_, (false), (by first | rfl | (simp; done) | (simp [*]; done)), H', ⟨by have := HJ2.out; first | omega | exact Nat.le_refl _⟩, ⟨by (with_reducible repeat (first | refine blk_drewN ?_ _ | refine blk_drew ?_ | refine blk_alloc ?_ _)); exact BK196.out⟩, ⟨by repeat (first | (with_reducible first | exact HB.out | apply below_alloc | apply pw_below_drewN | apply below_drew1 | refine below_set ?_ GE196.out) | exact HB.out)⟩⟩
      ·
       rw [if_neg c29] at H
       have c29b0 : (a0_0 == 3) = false := beq_eq_false_iff_ne.mpr c29
       have c29b1 : (a0_0 != 3) = true := bne_iff_ne.mpr c29
       by_cases c35 : a0_0 = 4
       ·
        rw [if_pos c35] at H
        have c35b0 : (a0_0 == 4) = true := beq_iff_eq.mpr c35
        have c35b1 : (a0_0 != 4) = false := bne_eq_false_iff_eq.mpr c35
        clear c35
        by_cases c36 : (l0_1.length : Int) < 2
        ·
         rw [if_pos c36] at H
         have c36b0 : decide ((l0_1.length : Int) < 2) = true := decide_eq_true c36
         have c36b1 : decide (l0_1.length < 2) = true := decide_eq_true (by omega)
         clear c36
         have H' := Aside0.mk H
         clear H
         have hcz37_0 : wc.cell? ⟨gb196, 0, none⟩ = some (.int .i64 a0_0) := (blk_cell BK196.out 0).trans rfl
         have hcz37_1 : wc.cell? ⟨gb196, 1, none⟩ = some (.slice A0_1 l0_1.length c0_1) := (blk_cell BK196.out 1).trans rfl
         have hcz37_2 : wc.cell? ⟨gb196, 2, none⟩ = some (.int .i64 a0_2) := (blk_cell BK196.out 2).trans rfl
         have hcz37_3 : wc.cell? ⟨gb196, 3, none⟩ = some (.int .u64 a0_3) := (blk_cell BK196.out 3).trans rfl
         have hcz37_4 : wc.cell? ⟨gb196, 4, none⟩ = some (.int .u64 a0_4) := (blk_cell BK196.out 4).trans rfl
         have hcz37_5 : wc.cell? ⟨gb196, 5, none⟩ = some (.int .u64 a0_5) := (blk_cell BK196.out 5).trans rfl
         have hcz37_6 : wc.cell? ⟨gb196, 6, none⟩ = some (.int .u64 a0_6) := (blk_cell BK196.out 6).trans rfl
         have hfz37_0 := blk_frozen BK196.out 0
         have hfz37_1 := blk_frozen BK196.out 1
         have hfz37_2 := blk_frozen BK196.out 2
         have hfz37_3 := blk_frozen BK196.out 3
         have hfz37_4 := blk_frozen BK196.out 4
         have hfz37_5 := blk_frozen BK196.out 5
         have hfz37_6 := blk_frozen BK196.out 6
         go_wp2
         go_meet
         case rel => exact ⟨_, (true), (by first | rfl | (simp; done) | (simp [*]; done)), H', ⟨by have := HJ2.out; first | omega | exact Nat.le_refl _⟩, ⟨by (with_reducible repeat (first | refine blk_drewN ?_ _ | refine blk_drew ?_ | refine blk_alloc ?_ _)); exact BK196.out⟩, ⟨by repeat (first | (with_reducible first | exact HB.out | apply below_alloc | apply pw_below_drewN | apply below_drew1 | refine below_set ?_ GE196.out) | exact HB.out)⟩⟩
        ·
         rw [if_neg c36] at H
         have c36b0 : decide ((l0_1.length : Int) < 2) = false := decide_eq_false c36
         have c36b1 : decide (l0_1.length < 2) = false := decide_eq_false (by omega)
         clear c36
         by_cases c38 : a0_0 ≥ 5
         ·
          rw [if_pos c38] at H
          have c38b0 : decide (5 ≤ a0_0) = true := decide_eq_true c38
          clear c38
          have H' := Aside0.mk H
          clear H
          have hcz39_0 : wc.cell? ⟨gb196, 0, none⟩ = some (.int .i64 a0_0) := (blk_cell BK196.out 0).trans rfl
          have hcz39_1 : wc.cell? ⟨gb196, 1, none⟩ = some (.slice A0_1 l0_1.length c0_1) := (blk_cell BK196.out 1).trans rfl
          have hcz39_2 : wc.cell? ⟨gb196, 2, none⟩ = some (.int .i64 a0_2) := (blk_cell BK196.out 2).trans rfl
          have hcz39_3 : wc.cell? ⟨gb196, 3, none⟩ = some (.int .u64 a0_3) := (blk_cell BK196.out 3).trans rfl
          have hcz39_4 : wc.cell? ⟨gb196, 4, none⟩ = some (.int .u64 a0_4) := (blk_cell BK196.out 4).trans rfl
          have hcz39_5 : wc.cell? ⟨gb196, 5, none⟩ = some (.int .u64 a0_5) := (blk_cell BK196.out 5).trans rfl
          have hcz39_6 : wc.cell? ⟨gb196, 6, none⟩ = some (.int .u64 a0_6) := (blk_cell BK196.out 6).trans rfl
          have hfz39_0 := blk_frozen BK196.out 0
          have hfz39_1 := blk_frozen BK196.out 1
          have hfz39_2 := blk_frozen BK196.out 2
          have hfz39_3 := blk_frozen BK196.out 3
          have hfz39_4 := blk_frozen BK196.out 4
          have hfz39_5 := blk_frozen BK196.out 5
          have hfz39_6 := blk_frozen BK196.out 6
          go_wp2
          go_meet
          case rel => exact ⟨_, (((l0_1.length : Int) != 1)), (by first | rfl | (simp; done) | (simp [*]; done)), H', ⟨by have := HJ2.out; first | omega | exact Nat.le_refl _⟩, ⟨by (with_reducible repeat (first | refine blk_drewN ?_ _ | refine blk_drew ?_ | refine blk_alloc ?_ _)); exact BK196.out⟩, ⟨by repeat (first | (with_reducible first | exact HB.out | apply below_alloc | apply pw_below_drewN | apply below_drew1 | refine below_set ?_ GE196.out) | exact HB.out)⟩⟩
         ·
          rw [if_neg c38] at H
          have c38b0 : decide (5 ≤ a0_0) = false := decide_eq_false c38
          clear c38
          have H' := Aside0.mk H
          clear H
          have hcz40_0 : wc.cell? ⟨gb196, 0, none⟩ = some (.int .i64 a0_0) := (blk_cell BK196.out 0).trans rfl
          have hcz40_1 : wc.cell? ⟨gb196, 1, none⟩ = some (.slice A0_1 l0_1.length c0_1) := (blk_cell BK196.out 1).trans rfl
          have hcz40_2 : wc.cell? ⟨gb196, 2, none⟩ = some (.int .i64 a0_2) := (blk_cell BK196.out 2).trans rfl
          have hcz40_3 : wc.cell? ⟨gb196, 3, none⟩ = some (.int .u64 a0_3) := (blk_cell BK196.out 3).trans rfl
          have hcz40_4 : wc.cell? ⟨gb196, 4, none⟩ = some (.int .u64 a0_4) := (blk_cell BK196.out 4).trans rfl
          have hcz40_5 : wc.cell? ⟨gb196, 5, none⟩ = some (.int .u64 a0_5) := (blk_cell BK196.out 5).trans rfl
          have hcz40_6 : wc.cell? ⟨gb196, 6, none⟩ = some (.int .u64 a0_6) := (blk_cell BK196.out 6).trans rfl
          have hfz40_0 := blk_frozen BK196.out 0
          have hfz40_1 := blk_frozen BK196.out 1
          have hfz40_2 := blk_frozen BK196.out 2
          have hfz40_3 := blk_frozen BK196.out 3
          have hfz40_4 := blk_frozen BK196.out 4
          have hfz40_5 := blk_frozen BK196.out 5
          have hfz40_6 := blk_frozen BK196.out 6
          go_wp2
          go_meet
          case rel => exact ⟨_, (false), (by first | rfl | (simp; done) | (simp [*]; done)), H', ⟨by have := HJ2.out; first | omega | exact Nat.le_refl _⟩, ⟨by (with_reducible repeat (first | refine blk_drewN ?_ _ | refine blk_drew ?_ | refine blk_alloc ?_ _)); exact BK196.out⟩, ⟨by repeat (first | (with_reducible first | exact HB.out | apply below_alloc | apply pw_below_drewN | apply below_drew1 | refine below_set ?_ GE196.out) | exact HB.out)⟩⟩
       ·
        rw [if_neg c35] at H
        have c35b0 : (a0_0 == 4) = false := beq_eq_false_iff_ne.mpr c35
        have c35b1 : (a0_0 != 4) = true := bne_iff_ne.mpr c35
        by_cases c41 : a0_0 ≥ 5
        ·
         rw [if_pos c41] at H
         have c41b0 : decide (5 ≤ a0_0) = true := decide_eq_true c41
         clear c41
         have H' := Aside0.mk H
         clear H
         have hcz42_0 : wc.cell? ⟨gb196, 0, none⟩ = some (.int .i64 a0_0) := (blk_cell BK196.out 0).trans rfl
         have hcz42_1 : wc.cell? ⟨gb196, 1, none⟩ = some (.slice A0_1 l0_1.length c0_1) := (blk_cell BK196.out 1).trans rfl
         have hcz42_2 : wc.cell? ⟨gb196, 2, none⟩ = some (.int .i64 a0_2) := (blk_cell BK196.out 2).trans rfl
         have hcz42_3 : wc.cell? ⟨gb196, 3, none⟩ = some (.int .u64 a0_3) := (blk_cell BK196.out 3).trans rfl
         have hcz42_4 : wc.cell? ⟨gb196, 4, none⟩ = some (.int .u64 a0_4) := (blk_cell BK196.out 4).trans rfl
         have hcz42_5 : wc.cell? ⟨gb196, 5, none⟩ = some (.int .u64 a0_5) := (blk_cell BK196.out 5).trans rfl
         have hcz42_6 : wc.cell? ⟨gb196, 6, none⟩ = some (.int .u64 a0_6) := (blk_cell BK196.out 6).trans rfl
         have hfz42_0 := blk_frozen BK196.out 0
         have hfz42_1 := blk_frozen BK196.out 1
         have hfz42_2 := blk_frozen BK196.out 2
         have hfz42_3 := blk_frozen BK196.out 3
         have hfz42_4 := blk_frozen BK196.out 4
         have hfz42_5 := blk_frozen BK196.out 5
         have hfz42_6 := blk_frozen BK196.out 6
         go_wp2
         go_meet
         case rel => exact ⟨_, (((l0_1.length : Int) != 1)), (by first | rfl | (simp; done) | (simp [*]; done)), H', ⟨by have := HJ2.out; first | omega | exact Nat.le_refl _⟩, ⟨by (with_reducible repeat (first | refine blk_drewN ?_ _ | refine blk_drew ?_ | refine blk_alloc ?_ _)); exact BK196.out⟩, ⟨by repeat (first | (with_reducible first | exact HB.out | apply below_alloc | apply pw_below_drewN | apply below_drew1 | refine below_set ?_ GE196.out) | exact HB.out)⟩⟩
        ·
         rw [if_neg c41] at H
         have c41b0 : decide (5 ≤ a0_0) = false := decide_eq_false c41
         clear c41
         have H' := Aside0.mk H
         clear H
         have hcz43_0 : wc.cell? ⟨gb196, 0, none⟩ = some (.int .i64 a0_0) := (blk_cell BK196.out 0).trans rfl
         have hcz43_1 : wc.cell? ⟨gb196, 1, none⟩ = some (.slice A0_1 l0_1.length c0_1) := (blk_cell BK196.out 1).trans rfl
         have hcz43_2 : wc.cell? ⟨gb196, 2, none⟩ = some (.int .i64 a0_2) := (blk_cell BK196.out 2).trans rfl
         have hcz43_3 : wc.cell? ⟨gb196, 3, none⟩ = some (.int .u64 a0_3) := (blk_cell BK196.out 3).trans rfl
         have hcz43_4 : wc.cell? ⟨gb196, 4, none⟩ = some (.int .u64 a0_4) := (blk_cell BK196.out 4).trans rfl
         have hcz43_5 : wc.cell? ⟨gb196, 5, none⟩ = some (.int .u64 a0_5) := (blk_cell BK196.out 5).trans rfl
         have hcz43_6 : wc.cell? ⟨gb196, 6, none⟩ = some (.int .u64 a0_6) := (blk_cell BK196.out 6).trans rfl
         have hfz43_0 := blk_frozen BK196.out 0
         have hfz43_1 := blk_frozen BK196.out 1
         have hfz43_2 := blk_frozen BK196.out 2
         have hfz43_3 := blk_frozen BK196.out 3
         have hfz43_4 := blk_frozen BK196.out 4
         have hfz43_5 := blk_frozen BK196.out 5
         have hfz43_6 := blk_frozen BK196.out 6
         go_wp2
         go_meet
         case rel => exact ⟨_, (false), (by first | rfl | (simp; done) | (simp [*]; done)), H', ⟨by have := HJ2.out; first | omega | exact Nat.le_refl _⟩, ⟨by (with_reducible repeat (first | refine blk_drewN ?_ _ | refine blk_drew ?_ | refine blk_alloc ?_ _)); exact BK196.out⟩, ⟨by repeat (first | (with_reducible first | exact HB.out | apply below_alloc | apply pw_below_drewN | apply below_drew1 | refine below_set ?_ GE196.out) | exact HB.out)⟩⟩
    case rest =>
     clear HC9
     try clear c1
     try clear c2
     try clear p2
     try clear c3
     try clear c4
     try clear c5
     try clear c5b0
     try clear c8
     try clear c11
     try clear c11b0
     try clear c12
     try clear c12b0
     try clear c12b1
     try clear c12b2
     try clear c13
     try clear c13b0
     try clear c13b1
     try clear c14
     try clear c14b0
     try clear c14b1
     try clear c16
     try clear c16b0
     try clear c19
     try clear c19b0
     try clear c19b1
     try clear c20
     try clear c20b0
     try clear c20b1
     try clear c22
     try clear c22b0
     try clear c25
     try clear c25b0
     try clear c29
     try clear c29b0
     try clear c29b1
     try clear c30
     try clear c30b0
     try clear c30b1
     try clear c32
     try clear c32b0
     try clear c35
     try clear c35b0
     try clear c35b1
     try clear c36
     try clear c36b0
     try clear c36b1
     try clear c37
     try clear c38
     try clear c38b0
     try clear c41
     try clear c41b0
     try clear hcz10_0
     try clear hcz10_1
     try clear hcz10_2
     try clear hcz10_3
     try clear hcz10_4
     try clear hcz10_5
     try clear hcz10_6
     try clear hcz15_0
     try clear hcz15_1
     try clear hcz15_2
     try clear hcz15_3
     try clear hcz15_4
     try clear hcz15_5
     try clear hcz15_6
     try clear hcz17_0
     try clear hcz17_1
     try clear hcz17_2
     try clear hcz17_3
     try clear hcz17_4
     try clear hcz17_5
     try clear hcz17_6
     try clear hcz18_0
     try clear hcz18_1
     try clear hcz18_2
     try clear hcz18_3
     try clear hcz18_4
     try clear hcz18_5
     try clear hcz18_6
     try clear hcz21_0
     try clear hcz21_1
     try clear hcz21_2
     try clear hcz21_3
     try clear hcz21_4
     try clear hcz21_5
     try clear hcz21_6
     try clear hcz23_0
     try clear hcz23_1
     try clear hcz23_2
     try clear hcz23_3
     try clear hcz23_4
     try clear hcz23_5
     try clear hcz23_6
     try clear hcz24_0
     try clear hcz24_1
     try clear hcz24_2
     try clear hcz24_3
     try clear hcz24_4
     try clear hcz24_5
     try clear hcz24_6
     try clear hcz26_0
     try clear hcz26_1
     try clear hcz26_2
     try clear hcz26_3
     try clear hcz26_4
     try clear hcz26_5
     try clear hcz26_6
     try clear hcz27_0
     try clear hcz27_1
     try clear hcz27_2
     try clear hcz27_3
     try clear hcz27_4
     try clear hcz27_5
     try clear hcz27_6
     try clear hcz28_0
     try clear hcz28_1
     try clear hcz28_2
     try clear hcz28_3
     try clear hcz28_4
     try clear hcz28_5
     try clear hcz28_6
     try clear hcz31_0
     try clear hcz31_1
     try clear hcz31_2
     try clear hcz31_3
     try clear hcz31_4
     try clear hcz31_5
     try clear hcz31_6
     try clear hcz33_0
     try clear hcz33_1
     try clear hcz33_2
     try clear hcz33_3
     try clear hcz33_4
     try clear hcz33_5
     try clear hcz33_6
     try clear hcz34_0
     try clear hcz34_1
     try clear hcz34_2
     try clear hcz34_3
     try clear hcz34_4
     try clear hcz34_5
     try clear hcz34_6
     try clear hcz37_0
     try clear hcz37_1
     try clear hcz37_2
     try clear hcz37_3
     try clear hcz37_4
     try clear hcz37_5
     try clear hcz37_6
     try clear hcz39_0
     try clear hcz39_1
     try clear hcz39_2
     try clear hcz39_3
     try clear hcz39_4
     try clear hcz39_5
     try clear hcz39_6
     try clear hcz40_0
     try clear hcz40_1
     try clear hcz40_2
     try clear hcz40_3
     try clear hcz40_4
     try clear hcz40_5
     try clear hcz40_6
     try clear hcz42_0
     try clear hcz42_1
     try clear hcz42_2
     try clear hcz42_3
     try clear hcz42_4
     try clear hcz42_5
     try clear hcz42_6
     try clear hcz43_0
     try clear hcz43_1
     try clear hcz43_2
     try clear hcz43_3
     try clear hcz43_4
     try clear hcz43_5
     try clear hcz43_6
     try clear hcz6_0
     try clear hcz6_1
     try clear hcz6_2
     try clear hcz6_3
     try clear hcz6_4
     try clear hcz6_5
     try clear hcz6_6
     try clear hcz7_0
     try clear hcz7_1
     try clear hcz7_2
     try clear hcz7_3
     try clear hcz7_4
     try clear hcz7_5
     try clear hcz7_6
     try clear hfz10_0
     try clear hfz10_1
     try clear hfz10_2
     try clear hfz10_3
     try clear hfz10_4
     try clear hfz10_5
     try clear hfz10_6
     try clear hfz15_0
     try clear hfz15_1
     try clear hfz15_2
     try clear hfz15_3
     try clear hfz15_4
     try clear hfz15_5
     try clear hfz15_6
     try clear hfz17_0
     try clear hfz17_1
     try clear hfz17_2
     try clear hfz17_3
     try clear hfz17_4
     try clear hfz17_5
     try clear hfz17_6
     try clear hfz18_0
     try clear hfz18_1
     try clear hfz18_2
     try clear hfz18_3
     try clear hfz18_4
     try clear hfz18_5
     try clear hfz18_6
     try clear hfz21_0
     try clear hfz21_1
     try clear hfz21_2
     try clear hfz21_3
     try clear hfz21_4
     try clear hfz21_5
     try clear hfz21_6
     try clear hfz23_0
     try clear hfz23_1
     try clear hfz23_2
     try clear hfz23_3
     try clear hfz23_4
     try clear hfz23_5
     try clear hfz23_6
     try clear hfz24_0
     try clear hfz24_1
     try clear hfz24_2
     try clear hfz24_3
     try clear hfz24_4
     try clear hfz24_5
     try clear hfz24_6
     try clear hfz26_0
     try clear hfz26_1
     try clear hfz26_2
     try clear hfz26_3
     try clear hfz26_4
     try clear hfz26_5
     try clear hfz26_6
     try clear hfz27_0
     try clear hfz27_1
     try clear hfz27_2
     try clear hfz27_3
     try clear hfz27_4
     try clear hfz27_5
     try clear hfz27_6
     try clear hfz28_0
     try clear hfz28_1
     try clear hfz28_2
     try clear hfz28_3
     try clear hfz28_4
     try clear hfz28_5
     try clear hfz28_6
     try clear hfz31_0
     try clear hfz31_1
     try clear hfz31_2
     try clear hfz31_3
     try clear hfz31_4
     try clear hfz31_5
     try clear hfz31_6
     try clear hfz33_0
     try clear hfz33_1
     try clear hfz33_2
     try clear hfz33_3
     try clear hfz33_4
     try clear hfz33_5
     try clear hfz33_6
     try clear hfz34_0
     try clear hfz34_1
     try clear hfz34_2
     try clear hfz34_3
     try clear hfz34_4
     try clear hfz34_5
     try clear hfz34_6
     try clear hfz37_0
     try clear hfz37_1
     try clear hfz37_2
     try clear hfz37_3
     try clear hfz37_4
     try clear hfz37_5
     try clear hfz37_6
     try clear hfz39_0
     try clear hfz39_1
     try clear hfz39_2
     try clear hfz39_3
     try clear hfz39_4
     try clear hfz39_5
     try clear hfz39_6
     try clear hfz40_0
     try clear hfz40_1
     try clear hfz40_2
     try clear hfz40_3
     try clear hfz40_4
     try clear hfz40_5
     try clear hfz40_6
     try clear hfz42_0
     try clear hfz42_1
     try clear hfz42_2
     try clear hfz42_3
     try clear hfz42_4
     try clear hfz42_5
     try clear hfz42_6
     try clear hfz43_0
     try clear hfz43_1
     try clear hfz43_2
     try clear hfz43_3
     try clear hfz43_4
     try clear hfz43_5
     try clear hfz43_6
     try clear hfz6_0
     try clear hfz6_1
     try clear hfz6_2
     try clear hfz6_3
     try clear hfz6_4
     try clear hfz6_5
     try clear hfz6_6
     try clear hfz7_0
     try clear hfz7_1
     try clear hfz7_2
     try clear hfz7_3
     try clear hfz7_4
     try clear hfz7_5
     try clear hfz7_6
     try clear p2
     obtain ⟨kq, x46_8, rfl, HA, HJ8, BK196, HB⟩ := hcut
     cases kq with
     | zero => exact absurd HA.out (by simp [vetchref05_Made.j1])
     | succ kj8 =>
      have H := HA.out
      clear HA
      simp only [vetchref05_Made.j1] at H
      by_cases c44 : x46_8 = true
      ·
       subst c44
       have H1 : (some false) = some r := by rw [if_pos rfl] at H; exact H
       clear H
       have H := H1
       clear H1
       obtain rfl := Option.some.inj H
       go_wp2
       go_ret
       exact ⟨by first | rfl | (simp [errW_none, errW_some] <;> rfl) | (simp [*, errW_none, errW_some] <;> rfl), by repeat (first | (with_reducible first | exact HB.out | apply below_alloc | apply pw_below_drewN | apply below_drew1 | refine below_set ?_ GE196.out) | exact HB.out)⟩
      ·
       replace c44 := Bool.eq_false_iff.mpr c44
       subst c44
       have H1 : (if a0_0 = 2 then (if a0_2 < 0 then (some false) else (if a0_2 ≥ a1 then (some false) else (if a0_0 = 1 then (some true) else (some (a0_3 == 0 && (a0_4 == 0 && (a0_5 == 0 && (a0_6 == 0)))))))) else (if a0_2 = 0 then (if a0_0 = 1 then (some true) else (some (a0_3 == 0 && (a0_4 == 0 && (a0_5 == 0 && (a0_6 == 0)))))) else (some false))) = some r := by rw [if_neg (show ¬ (false = true) by decide)] at H; exact H
       clear H
       have H := H1
       clear H1
       by_cases c45 : a0_0 = 2
       ·
        rw [if_pos c45] at H
        have c45b0 : (a0_0 == 2) = true := beq_iff_eq.mpr c45
        have c45b1 : (a0_0 != 2) = false := bne_eq_false_iff_eq.mpr c45
        clear c45
        by_cases c46 : a0_2 < 0
        ·
         rw [if_pos c46] at H
         have c46b0 : decide (a0_2 < 0) = true := decide_eq_true c46
         clear c46
         obtain rfl := Option.some.inj H
         have hcz47_0 : wc.cell? ⟨gb196, 0, none⟩ = some (.int .i64 a0_0) := (blk_cell BK196.out 0).trans rfl
         have hcz47_1 : wc.cell? ⟨gb196, 1, none⟩ = some (.slice A0_1 l0_1.length c0_1) := (blk_cell BK196.out 1).trans rfl
         have hcz47_2 : wc.cell? ⟨gb196, 2, none⟩ = some (.int .i64 a0_2) := (blk_cell BK196.out 2).trans rfl
         have hcz47_3 : wc.cell? ⟨gb196, 3, none⟩ = some (.int .u64 a0_3) := (blk_cell BK196.out 3).trans rfl
         have hcz47_4 : wc.cell? ⟨gb196, 4, none⟩ = some (.int .u64 a0_4) := (blk_cell BK196.out 4).trans rfl
         have hcz47_5 : wc.cell? ⟨gb196, 5, none⟩ = some (.int .u64 a0_5) := (blk_cell BK196.out 5).trans rfl
         have hcz47_6 : wc.cell? ⟨gb196, 6, none⟩ = some (.int .u64 a0_6) := (blk_cell BK196.out 6).trans rfl
         have hfz47_0 := blk_frozen BK196.out 0
         have hfz47_1 := blk_frozen BK196.out 1
         have hfz47_2 := blk_frozen BK196.out 2
         have hfz47_3 := blk_frozen BK196.out 3
         have hfz47_4 := blk_frozen BK196.out 4
         have hfz47_5 := blk_frozen BK196.out 5
         have hfz47_6 := blk_frozen BK196.out 6
         go_wp2
         go_ret
         exact ⟨by first | rfl | (simp [errW_none, errW_some] <;> rfl) | (simp [*, errW_none, errW_some] <;> rfl), by repeat (first | (with_reducible first | exact HB.out | apply below_alloc | apply pw_below_drewN | apply below_drew1 | refine below_set ?_ GE196.out) | exact HB.out)⟩
        ·
         rw [if_neg c46] at H
         have c46b0 : decide (a0_2 < 0) = false := decide_eq_false c46
         clear c46
         by_cases c48 : a0_2 ≥ a1
         ·
          rw [if_pos c48] at H
          have c48b0 : decide (a1 ≤ a0_2) = true := decide_eq_true c48
          clear c48
          obtain rfl := Option.some.inj H
          have hcz49_0 : wc.cell? ⟨gb196, 0, none⟩ = some (.int .i64 a0_0) := (blk_cell BK196.out 0).trans rfl
          have hcz49_1 : wc.cell? ⟨gb196, 1, none⟩ = some (.slice A0_1 l0_1.length c0_1) := (blk_cell BK196.out 1).trans rfl
          have hcz49_2 : wc.cell? ⟨gb196, 2, none⟩ = some (.int .i64 a0_2) := (blk_cell BK196.out 2).trans rfl
          have hcz49_3 : wc.cell? ⟨gb196, 3, none⟩ = some (.int .u64 a0_3) := (blk_cell BK196.out 3).trans rfl
          have hcz49_4 : wc.cell? ⟨gb196, 4, none⟩ = some (.int .u64 a0_4) := (blk_cell BK196.out 4).trans rfl
          have hcz49_5 : wc.cell? ⟨gb196, 5, none⟩ = some (.int .u64 a0_5) := (blk_cell BK196.out 5).trans rfl
          have hcz49_6 : wc.cell? ⟨gb196, 6, none⟩ = some (.int .u64 a0_6) := (blk_cell BK196.out 6).trans rfl
          have hfz49_0 := blk_frozen BK196.out 0
          have hfz49_1 := blk_frozen BK196.out 1
          have hfz49_2 := blk_frozen BK196.out 2
          have hfz49_3 := blk_frozen BK196.out 3
          have hfz49_4 := blk_frozen BK196.out 4
          have hfz49_5 := blk_frozen BK196.out 5
          have hfz49_6 := blk_frozen BK196.out 6
          go_wp2
          go_ret
          exact ⟨by first | rfl | (simp [errW_none, errW_some] <;> rfl) | (simp [*, errW_none, errW_some] <;> rfl), by repeat (first | (with_reducible first | exact HB.out | apply below_alloc | apply pw_below_drewN | apply below_drew1 | refine below_set ?_ GE196.out) | exact HB.out)⟩
         ·
          rw [if_neg c48] at H
          have c48b0 : decide (a1 ≤ a0_2) = false := decide_eq_false c48
          clear c48
          by_cases c50 : a0_0 = 1
          ·
           rw [if_pos c50] at H
           have c50b0 : (a0_0 == 1) = true := beq_iff_eq.mpr c50
           have c50b1 : (a0_0 != 1) = false := bne_eq_false_iff_eq.mpr c50
           clear c50
           obtain rfl := Option.some.inj H
           have hcz51_0 : wc.cell? ⟨gb196, 0, none⟩ = some (.int .i64 a0_0) := (blk_cell BK196.out 0).trans rfl
           have hcz51_1 : wc.cell? ⟨gb196, 1, none⟩ = some (.slice A0_1 l0_1.length c0_1) := (blk_cell BK196.out 1).trans rfl
           have hcz51_2 : wc.cell? ⟨gb196, 2, none⟩ = some (.int .i64 a0_2) := (blk_cell BK196.out 2).trans rfl
           have hcz51_3 : wc.cell? ⟨gb196, 3, none⟩ = some (.int .u64 a0_3) := (blk_cell BK196.out 3).trans rfl
           have hcz51_4 : wc.cell? ⟨gb196, 4, none⟩ = some (.int .u64 a0_4) := (blk_cell BK196.out 4).trans rfl
           have hcz51_5 : wc.cell? ⟨gb196, 5, none⟩ = some (.int .u64 a0_5) := (blk_cell BK196.out 5).trans rfl
           have hcz51_6 : wc.cell? ⟨gb196, 6, none⟩ = some (.int .u64 a0_6) := (blk_cell BK196.out 6).trans rfl
           have hfz51_0 := blk_frozen BK196.out 0
           have hfz51_1 := blk_frozen BK196.out 1
           have hfz51_2 := blk_frozen BK196.out 2
           have hfz51_3 := blk_frozen BK196.out 3
           have hfz51_4 := blk_frozen BK196.out 4
           have hfz51_5 := blk_frozen BK196.out 5
           have hfz51_6 := blk_frozen BK196.out 6
           go_wp2
           go_ret
           exact ⟨by first | rfl | (simp [errW_none, errW_some] <;> rfl) | (simp [*, errW_none, errW_some] <;> rfl), by repeat (first | (with_reducible first | exact HB.out | apply below_alloc | apply pw_below_drewN | apply below_drew1 | refine below_set ?_ GE196.out) | exact HB.out)⟩
          ·
           rw [if_neg c50] at H
           have c50b0 : (a0_0 == 1) = false := beq_eq_false_iff_ne.mpr c50
           have c50b1 : (a0_0 != 1) = true := bne_iff_ne.mpr c50
           obtain rfl := Option.some.inj H
           have hcz52_0 : wc.cell? ⟨gb196, 0, none⟩ = some (.int .i64 a0_0) := (blk_cell BK196.out 0).trans rfl
           have hcz52_1 : wc.cell? ⟨gb196, 1, none⟩ = some (.slice A0_1 l0_1.length c0_1) := (blk_cell BK196.out 1).trans rfl
           have hcz52_2 : wc.cell? ⟨gb196, 2, none⟩ = some (.int .i64 a0_2) := (blk_cell BK196.out 2).trans rfl
           have hcz52_3 : wc.cell? ⟨gb196, 3, none⟩ = some (.int .u64 a0_3) := (blk_cell BK196.out 3).trans rfl
           have hcz52_4 : wc.cell? ⟨gb196, 4, none⟩ = some (.int .u64 a0_4) := (blk_cell BK196.out 4).trans rfl
           have hcz52_5 : wc.cell? ⟨gb196, 5, none⟩ = some (.int .u64 a0_5) := (blk_cell BK196.out 5).trans rfl
           have hcz52_6 : wc.cell? ⟨gb196, 6, none⟩ = some (.int .u64 a0_6) := (blk_cell BK196.out 6).trans rfl
           have hfz52_0 := blk_frozen BK196.out 0
           have hfz52_1 := blk_frozen BK196.out 1
           have hfz52_2 := blk_frozen BK196.out 2
           have hfz52_3 := blk_frozen BK196.out 3
           have hfz52_4 := blk_frozen BK196.out 4
           have hfz52_5 := blk_frozen BK196.out 5
           have hfz52_6 := blk_frozen BK196.out 6
           go_wp2
           go_ret
           exact ⟨by first | rfl | (simp [errW_none, errW_some] <;> rfl) | (simp [*, errW_none, errW_some] <;> rfl), by repeat (first | (with_reducible first | exact HB.out | apply below_alloc | apply pw_below_drewN | apply below_drew1 | refine below_set ?_ GE196.out) | exact HB.out)⟩
       ·
        rw [if_neg c45] at H
        have c45b0 : (a0_0 == 2) = false := beq_eq_false_iff_ne.mpr c45
        have c45b1 : (a0_0 != 2) = true := bne_iff_ne.mpr c45
        by_cases c53 : a0_2 = 0
        ·
         rw [if_pos c53] at H
         have c53b0 : (a0_2 == 0) = true := beq_iff_eq.mpr c53
         have c53b1 : (a0_2 != 0) = false := bne_eq_false_iff_eq.mpr c53
         clear c53
         by_cases c54 : a0_0 = 1
         ·
          rw [if_pos c54] at H
          have c54b0 : (a0_0 == 1) = true := beq_iff_eq.mpr c54
          have c54b1 : (a0_0 != 1) = false := bne_eq_false_iff_eq.mpr c54
          clear c54
          obtain rfl := Option.some.inj H
          have hcz55_0 : wc.cell? ⟨gb196, 0, none⟩ = some (.int .i64 a0_0) := (blk_cell BK196.out 0).trans rfl
          have hcz55_1 : wc.cell? ⟨gb196, 1, none⟩ = some (.slice A0_1 l0_1.length c0_1) := (blk_cell BK196.out 1).trans rfl
          have hcz55_2 : wc.cell? ⟨gb196, 2, none⟩ = some (.int .i64 a0_2) := (blk_cell BK196.out 2).trans rfl
          have hcz55_3 : wc.cell? ⟨gb196, 3, none⟩ = some (.int .u64 a0_3) := (blk_cell BK196.out 3).trans rfl
          have hcz55_4 : wc.cell? ⟨gb196, 4, none⟩ = some (.int .u64 a0_4) := (blk_cell BK196.out 4).trans rfl
          have hcz55_5 : wc.cell? ⟨gb196, 5, none⟩ = some (.int .u64 a0_5) := (blk_cell BK196.out 5).trans rfl
          have hcz55_6 : wc.cell? ⟨gb196, 6, none⟩ = some (.int .u64 a0_6) := (blk_cell BK196.out 6).trans rfl
          have hfz55_0 := blk_frozen BK196.out 0
          have hfz55_1 := blk_frozen BK196.out 1
          have hfz55_2 := blk_frozen BK196.out 2
          have hfz55_3 := blk_frozen BK196.out 3
          have hfz55_4 := blk_frozen BK196.out 4
          have hfz55_5 := blk_frozen BK196.out 5
          have hfz55_6 := blk_frozen BK196.out 6
          go_wp2
          go_ret
          exact ⟨by first | rfl | (simp [errW_none, errW_some] <;> rfl) | (simp [*, errW_none, errW_some] <;> rfl), by repeat (first | (with_reducible first | exact HB.out | apply below_alloc | apply pw_below_drewN | apply below_drew1 | refine below_set ?_ GE196.out) | exact HB.out)⟩
         ·
          rw [if_neg c54] at H
          have c54b0 : (a0_0 == 1) = false := beq_eq_false_iff_ne.mpr c54
          have c54b1 : (a0_0 != 1) = true := bne_iff_ne.mpr c54
          obtain rfl := Option.some.inj H
          have hcz56_0 : wc.cell? ⟨gb196, 0, none⟩ = some (.int .i64 a0_0) := (blk_cell BK196.out 0).trans rfl
          have hcz56_1 : wc.cell? ⟨gb196, 1, none⟩ = some (.slice A0_1 l0_1.length c0_1) := (blk_cell BK196.out 1).trans rfl
          have hcz56_2 : wc.cell? ⟨gb196, 2, none⟩ = some (.int .i64 a0_2) := (blk_cell BK196.out 2).trans rfl
          have hcz56_3 : wc.cell? ⟨gb196, 3, none⟩ = some (.int .u64 a0_3) := (blk_cell BK196.out 3).trans rfl
          have hcz56_4 : wc.cell? ⟨gb196, 4, none⟩ = some (.int .u64 a0_4) := (blk_cell BK196.out 4).trans rfl
          have hcz56_5 : wc.cell? ⟨gb196, 5, none⟩ = some (.int .u64 a0_5) := (blk_cell BK196.out 5).trans rfl
          have hcz56_6 : wc.cell? ⟨gb196, 6, none⟩ = some (.int .u64 a0_6) := (blk_cell BK196.out 6).trans rfl
          have hfz56_0 := blk_frozen BK196.out 0
          have hfz56_1 := blk_frozen BK196.out 1
          have hfz56_2 := blk_frozen BK196.out 2
          have hfz56_3 := blk_frozen BK196.out 3
          have hfz56_4 := blk_frozen BK196.out 4
          have hfz56_5 := blk_frozen BK196.out 5
          have hfz56_6 := blk_frozen BK196.out 6
          go_wp2
          go_ret
          exact ⟨by first | rfl | (simp [errW_none, errW_some] <;> rfl) | (simp [*, errW_none, errW_some] <;> rfl), by repeat (first | (with_reducible first | exact HB.out | apply below_alloc | apply pw_below_drewN | apply below_drew1 | refine below_set ?_ GE196.out) | exact HB.out)⟩
        ·
         rw [if_neg c53] at H
         have c53b0 : (a0_2 == 0) = false := beq_eq_false_iff_ne.mpr c53
         have c53b1 : (a0_2 != 0) = true := bne_iff_ne.mpr c53
         obtain rfl := Option.some.inj H
         have hcz57_0 : wc.cell? ⟨gb196, 0, none⟩ = some (.int .i64 a0_0) := (blk_cell BK196.out 0).trans rfl
         have hcz57_1 : wc.cell? ⟨gb196, 1, none⟩ = some (.slice A0_1 l0_1.length c0_1) := (blk_cell BK196.out 1).trans rfl
         have hcz57_2 : wc.cell? ⟨gb196, 2, none⟩ = some (.int .i64 a0_2) := (blk_cell BK196.out 2).trans rfl
         have hcz57_3 : wc.cell? ⟨gb196, 3, none⟩ = some (.int .u64 a0_3) := (blk_cell BK196.out 3).trans rfl
         have hcz57_4 : wc.cell? ⟨gb196, 4, none⟩ = some (.int .u64 a0_4) := (blk_cell BK196.out 4).trans rfl
         have hcz57_5 : wc.cell? ⟨gb196, 5, none⟩ = some (.int .u64 a0_5) := (blk_cell BK196.out 5).trans rfl
         have hcz57_6 : wc.cell? ⟨gb196, 6, none⟩ = some (.int .u64 a0_6) := (blk_cell BK196.out 6).trans rfl
         have hfz57_0 := blk_frozen BK196.out 0
         have hfz57_1 := blk_frozen BK196.out 1
         have hfz57_2 := blk_frozen BK196.out 2
         have hfz57_3 := blk_frozen BK196.out 3
         have hfz57_4 := blk_frozen BK196.out 4
         have hfz57_5 := blk_frozen BK196.out 5
         have hfz57_6 := blk_frozen BK196.out 6
         go_wp2
         go_ret
         exact ⟨by first | rfl | (simp [errW_none, errW_some] <;> rfl) | (simp [*, errW_none, errW_some] <;> rfl), by repeat (first | (with_reducible first | exact HB.out | apply below_alloc | apply pw_below_drewN | apply below_drew1 | refine below_set ?_ GE196.out) | exact HB.out)⟩
end Go.Proofs.Ythgedejnpgcacaa.V
namespace Go.Proofs.Ythgedejnpgcacaa.V
open Go.RowKit Go.Proofs.YthgedejnpgcacaaW.PrintWords Go.Proofs.YthgedejnpgcacaaW.PrintLast Go.Proofs.YthgedejnpgcacaaW.PrintMore
attribute [local go_sem] max2_int min2_int max_two min_two max_three min_three max_four min_four tdiv_most
set_option linter.unusedVariables false
set_option linter.unusedSimpArgs false
mutual
def vetchref05_Expression.l0 : Nat → Int → Int → Int → List (S51) → List (S56) → Option (Int)
 | 0, _, _, _, _, _ => none
 | k + 1, x1, x5, x6, x198000, x198001 => if x6 ≥ 0 then (if 0 ≤ x1 then (if x1 < (x198001.length : Int) then (if 0 ≤ x6 then (if x6 < (((rd_T56 x198001 x1).f1).length : Int) then (if (rd ((rd_T56 x198001 x1).f1) x6) = x5 then ((vetchref05_Expression.f k x198000 x198001 x5).bind fun t201 => (if t201 = (-2) then (some (-2)) else (vetchref05_Expression.l0 k x1 t201 (wrap64 (x6 - 1)) x198000 x198001))) else (some (-2))) else (none)) else (none)) else (none)) else (none)) else (some x5)
def vetchref05_Expression.f : Nat → List (S51) → List (S56) → Int → Option (Int)
 | 0, _, _, _ => none
 | k + 1, l0_0, l0_1, a1 => if a1 < 0 then (some (-2)) else (if 0 ≤ a1 then (if a1 < (l0_1.length : Int) then (vetchref05_Expression.l0 k a1 (wrap64 (a1 - 1)) (wrap64 ((((rd_T56 l0_1 a1).f1).length : Int) - 1)) l0_0 l0_1) else (none)) else (none))
end
theorem vetchref05_Expression.mono_l : ∀ k, (∀ y0 y1 y2, LeO (vetchref05_Expression.f k y0 y1 y2) (vetchref05_Expression.f (k + 1) y0 y1 y2)) ∧ (∀ y0 y1 y2 y3 y4, LeO (vetchref05_Expression.l0 k y0 y1 y2 y3 y4) (vetchref05_Expression.l0 (k + 1) y0 y1 y2 y3 y4))
 | 0 => ⟨fun _ _ _ r h => by simp [vetchref05_Expression.f] at h, fun _ _ _ _ _ r h => by simp [vetchref05_Expression.l0] at h⟩
 | k + 1 => by
  obtain ⟨ih0, ih1⟩ := vetchref05_Expression.mono_l k
  refine ⟨?_, ?_⟩
  ·
   intro y0 y1 y2
   unfold vetchref05_Expression.f
   repeat' first
   | (with_reducible exact ih0 _ _ _)
   | (with_reducible exact ih1 _ _ _ _ _)
   | (with_reducible exact LeO.refl _)
   | (with_reducible exact LeO.none _)
   | (with_reducible refine LeO.ite ?_ ?_)
   | (with_reducible refine LeO.bind ?_ (fun _ => ?_))
   | exact ih0 _ _ _
   | exact ih1 _ _ _ _ _
   | exact LeO.none _
   | refine LeO.ite ?_ ?_
   | refine LeO.bind ?_ (fun _ => ?_)
  ·
   intro y0 y1 y2 y3 y4
   unfold vetchref05_Expression.l0
   repeat' first
   | (with_reducible exact ih0 _ _ _)
   | (with_reducible exact ih1 _ _ _ _ _)
   | (with_reducible exact LeO.refl _)
   | (with_reducible exact LeO.none _)
   | (with_reducible refine LeO.ite ?_ ?_)
   | (with_reducible refine LeO.bind ?_ (fun _ => ?_))
   | exact ih0 _ _ _
   | exact ih1 _ _ _ _ _
   | exact LeO.none _
   | refine LeO.ite ?_ ?_
   | refine LeO.bind ?_ (fun _ => ?_)
theorem vetchref05_Expression.mono : ∀ a0 a1 a2 k, LeO (vetchref05_Expression.f k a0 a1 a2) (vetchref05_Expression.f (k + 1) a0 a1 a2) := by
 intro a0 a1 a2 k
 obtain ⟨ih0, ih1⟩ := vetchref05_Expression.mono_l k
 exact ih0 a0 a1 a2
set_option maxHeartbeats 8000000 in
set_option maxRecDepth 100000 in
theorem vetchref05_Expression.calls (k : Nat) : ∀ (A0_0 : Option Addr) (c0_0 : Nat) (l0_0 : List (S51)) (A0_1 : Option Addr) (c0_1 : Nat) (l0_1 : List (S56)) (a1 : Int) (r : Int) (w : World) (hr0_0 : Kd.C k51 w A0_0 l0_0.length l0_0) (hc0_0 : l0_0.length ≤ c0_0) (hr0_1 : Kd.C k56 w A0_1 l0_1.length l0_1) (hc0_1 : l0_1.length ≤ c0_1) (h : vetchref05_Expression.f k l0_0 l0_1 a1 = some r),
 Calls Try.prog 42 #[.agg #[.slice A0_0 l0_0.length c0_0, .slice A0_1 l0_1.length c0_1], .int .i64 a1] w fun e w' => e = .returned (.int .i64 r) ∧ Below w.heap.size w w' := by
 induction k using Nat.strongRecOn with
 | _ k ih =>
 intro A0_0 c0_0 l0_0 A0_1 c0_1 l0_1 a1 r w hr0_0 hc0_0 hr0_1 hc0_1 h
 cases k with
 | zero => exact absurd h (by simp [vetchref05_Expression.f])
 | succ k =>
 simp only [vetchref05_Expression.f] at h
 have hu25 := Try.underlying25
 have HR0_0 := Aside0.mk hr0_0
 have HC0_0 := Aside0.mk hc0_0
 clear hr0_0 hc0_0
 have HR0_1 := Aside0.mk hr0_1
 have HC0_1 := Aside0.mk hc0_1
 clear hr0_1 hc0_1
 have HB := Aside0.mk (Below.refl w.heap.size w)
 have H : (if a1 < 0 then (some (-2)) else (if 0 ≤ a1 then (if a1 < (l0_1.length : Int) then (vetchref05_Expression.l0 k a1 (wrap64 (a1 - 1)) (wrap64 ((((rd_T56 l0_1 a1).f1).length : Int) - 1)) l0_0 l0_1) else (none)) else (none))) = some r := h
 clear h
 by_cases c3 : a1 < 0
 ·
  rw [if_pos c3] at H
  have c3b0 : decide (a1 < 0) = true := decide_eq_true c3
  clear c3
  obtain rfl := Option.some.inj H
  go_enter Try.func42, Try.ntmps42
  go_wp2_with (first | ((with_reducible refine gate_dst (N := 2) rfl ?_); refine box_event ?hg (N := 2) ?hd (cs := #[.slice A0_0 l0_0.length c0_0, .slice A0_1 l0_1.length c0_1]) (t := 25) ?hr ?_; (case hd => rfl); (case hg => rfl); (case hr => first | (go_simp; done) | (go_simp; rfl)); intro gb197 hg w4 hbox hb; have n0_ := Aside0.mk (below_step (by repeat (first | (with_reducible first | exact HB.out | apply below_alloc | apply pw_below_drewN | apply below_drew1) | exact HB.out)) hb); have n1_ := Aside0.mk (hbox); have n2_ := Aside0.mk ((by rw [hg]; exact (below_size (by repeat (first | (with_reducible first | exact HB.out | apply below_alloc | apply pw_below_drewN | apply below_drew1) | exact HB.out))) : w.heap.size ≤ gb197)); have n3_ := Aside0.mk ((by rw [hg]; exact (below_size (by repeat (first | (with_reducible first | exact HB.out | apply below_alloc | apply pw_below_drewN | apply below_drew1) | exact HB.out))) : w.heap.size ≤ gb197)); clear HB; have HB := n0_; have BK197 := n1_; have GW197 := n2_; have GE197 := n3_; clear n0_ n1_ n2_ n3_; clear hb hbox hg))
  go_ret
  exact ⟨by first | rfl | (simp [errW_none, errW_some] <;> rfl) | (simp [*, errW_none, errW_some] <;> rfl), by repeat (first | (with_reducible first | exact HB.out | apply below_alloc | apply pw_below_drewN | apply below_drew1 | refine below_set ?_ GE197.out) | exact HB.out)⟩
 ·
  rw [if_neg c3] at H
  have c3b0 : decide (a1 < 0) = false := decide_eq_false c3
  clear c3
  by_cases c5 : 0 ≤ a1
  ·
   rw [if_pos c5] at H
   have c5b0 : decide (0 ≤ a1) = true := decide_eq_true c5
   clear c5
   by_cases c6 : a1 < (l0_1.length : Int)
   ·
    rw [if_pos c6] at H
    have c6b0 : decide (a1 < (l0_1.length : Int)) = true := decide_eq_true c6
    clear c6
    have H' := Aside0.mk H
    clear H
    go_enter Try.func42, Try.ntmps42
    go_wp2_with (first | ((with_reducible refine gate_dst (N := 2) rfl ?_); refine box_event ?hg (N := 2) ?hd (cs := #[.slice A0_0 l0_0.length c0_0, .slice A0_1 l0_1.length c0_1]) (t := 25) ?hr ?_; (case hd => rfl); (case hg => rfl); (case hr => first | (go_simp; done) | (go_simp; rfl)); intro gb197 hg w7 hbox hb; have n0_ := Aside0.mk (below_step (by repeat (first | (with_reducible first | exact HB.out | apply below_alloc | apply pw_below_drewN | apply below_drew1) | exact HB.out)) hb); have n1_ := Aside0.mk (hbox); have n2_ := Aside0.mk ((by rw [hg]; exact (below_size (by repeat (first | (with_reducible first | exact HB.out | apply below_alloc | apply pw_below_drewN | apply below_drew1) | exact HB.out))) : w.heap.size ≤ gb197)); have n3_ := Aside0.mk ((by rw [hg]; exact (below_size (by repeat (first | (with_reducible first | exact HB.out | apply below_alloc | apply pw_below_drewN | apply below_drew1) | exact HB.out))) : w.heap.size ≤ gb197)); clear HB; have HB := n0_; have BK197 := n1_; have GW197 := n2_; have GE197 := n3_; clear n0_ n1_ n2_ n3_; clear hb hbox hg; have hcz8_0 : w7.cell? ⟨gb197, 0, none⟩ = some (.slice A0_0 l0_0.length c0_0) := (blk_cell BK197.out 0).trans rfl; have hcz8_1 : w7.cell? ⟨gb197, 1, none⟩ = some (.slice A0_1 l0_1.length c0_1) := (blk_cell BK197.out 1).trans rfl; have hfz8_0 := blk_frozen BK197.out 0; have hfz8_1 := blk_frozen BK197.out 1; have p198 : 0 ≤ (a1 : Int) := of_decide_eq_true (by first | (with_reducible assumption) | assumption); have q198 : a1 < (l0_1.length : Int) := of_decide_eq_true (by first | (with_reducible assumption) | assumption); obtain ⟨ad198, A198_1, c198_1, e198, hx198_0, hx198_1, hx198_2, hx198_3, hx198_4, hx198_5, hx198_6, hl198_1, hi198_1⟩ := at_T56 HR0_1.out a1 p198 q198; cases e198; replace hx198_0 := (HB.out.cell (World.block_lt_of_cell? w _ hx198_0)).trans hx198_0; replace hx198_1 := (HB.out.cell (World.block_lt_of_cell? w _ hx198_1)).trans hx198_1; replace hx198_2 := (HB.out.cell (World.block_lt_of_cell? w _ hx198_2)).trans hx198_2; replace hx198_3 := (HB.out.cell (World.block_lt_of_cell? w _ hx198_3)).trans hx198_3; replace hx198_4 := (HB.out.cell (World.block_lt_of_cell? w _ hx198_4)).trans hx198_4; replace hx198_5 := (HB.out.cell (World.block_lt_of_cell? w _ hx198_5)).trans hx198_5; replace hx198_6 := (HB.out.cell (World.block_lt_of_cell? w _ hx198_6)).trans hx198_6; have HR198_1 := Aside0.mk hi198_1; have HC198_1 := Aside0.mk hl198_1; clear hi198_1 hl198_1; replace p198 := eq_true p198; replace q198 := eq_true q198))
    go_loopg [5, 6] k (fun kq v5 v6 w' => ∃ (x5_1 : Int) (x6_1 : Int), v5 = .int .i64 x5_1 ∧ v6 = .int .i64 x6_1 ∧ Aside0 (vetchref05_Expression.l0 kq a1 x5_1 x6_1 l0_0 l0_1 = some r) ∧ Aside0 (kq ≤ k) ∧ Aside0 (w'.heap[gb197]? = some (.cells #[(.slice A0_0 l0_0.length c0_0), (.slice (some ad198) l0_1.length c0_1)] 25 (0, 0))) ∧ Aside0 (Below w.heap.size w w'))
    case atStart => exact ⟨(wrap64 (a1 - 1)), (wrap64 ((((rd_T56 l0_1 a1).f1).length : Int) - 1)), (by first | rfl | (simp; done) | (simp [*]; done)), (by first | rfl | (simp; done) | (simp [*]; done)), H', ⟨Nat.le_refl _⟩, ⟨by (with_reducible repeat (first | refine blk_drewN ?_ _ | refine blk_drew ?_ | refine blk_alloc ?_ _)); exact BK197.out⟩, ⟨by repeat (first | (with_reducible first | exact HB.out | apply below_alloc | apply pw_below_drewN | apply below_drew1 | refine below_set ?_ GE197.out) | exact HB.out)⟩⟩
    case round =>
     clear H'
     try clear c1
     try clear p1
     try clear q1
     try clear hx1
     try clear p2
     try clear c3
     try clear c3b0
     try clear c4
     try clear c5
     try clear c5b0
     try clear c6
     try clear c6b0
     try clear p6
     try clear hcz8_0
     try clear hcz8_1
     try clear hfz8_0
     try clear hfz8_1
     try clear hx198_0
     try clear hx198_1
     try clear hx198_2
     try clear hx198_3
     try clear hx198_4
     try clear hx198_5
     try clear hx198_6
     try clear p198
     try clear q198
     obtain ⟨x5_1, x6_1, rfl, rfl, HA, HK1, BK197, HB⟩ := hrel
     cases gk with
     | zero => exact absurd HA.out (by simp [vetchref05_Expression.l0])
     | succ k1 =>
      have H := HA.out
      clear HA
      simp only [vetchref05_Expression.l0] at H
      by_cases c9 : x6_1 ≥ 0
      ·
       rw [if_pos c9] at H
       have c9b0 : decide (0 ≤ x6_1) = true := decide_eq_true c9
       clear c9
       by_cases c10 : 0 ≤ a1
       ·
        rw [if_pos c10] at H
        have c10b0 : decide (0 ≤ a1) = true := decide_eq_true c10
        clear c10
        by_cases c11 : a1 < (l0_1.length : Int)
        ·
         rw [if_pos c11] at H
         have c11b0 : decide (a1 < (l0_1.length : Int)) = true := decide_eq_true c11
         clear c11
         by_cases c12 : 0 ≤ x6_1
         ·
          rw [if_pos c12] at H
          have c12b0 : decide (0 ≤ x6_1) = true := decide_eq_true c12
          clear c12
          by_cases c13 : x6_1 < (((rd_T56 l0_1 a1).f1).length : Int)
          ·
           rw [if_pos c13] at H
           have c13b0 : decide (x6_1 < (((rd_T56 l0_1 a1).f1).length : Int)) = true := decide_eq_true c13
           clear c13
           by_cases c14 : (rd ((rd_T56 l0_1 a1).f1) x6_1) = x5_1
           ·
            rw [if_pos c14] at H
            have c14b0 : ((rd ((rd_T56 l0_1 a1).f1) x6_1) == x5_1) = true := beq_iff_eq.mpr c14
            have c14b1 : ((rd ((rd_T56 l0_1 a1).f1) x6_1) != x5_1) = false := bne_eq_false_iff_eq.mpr c14
            clear c14
            replace H := Option.bind_eq_some_iff.mp H
            obtain ⟨t201, A150, H⟩ := H
            replace H : (if t201 = (-2) then (some (-2)) else (vetchref05_Expression.l0 k1 a1 t201 (wrap64 (x6_1 - 1)) l0_0 l0_1)) = some r := H
            have A15 := Aside0.mk A150
            clear A150
            by_cases c16 : t201 = (-2)
            ·
             rw [if_pos c16] at H
             have c16b0 : (t201 == (-2)) = true := beq_iff_eq.mpr c16
             have c16b1 : (t201 != (-2)) = false := bne_eq_false_iff_eq.mpr c16
             clear c16
             obtain rfl := Option.some.inj H
             have hcz17_0 : wr.cell? ⟨gb197, 0, none⟩ = some (.slice A0_0 l0_0.length c0_0) := (blk_cell BK197.out 0).trans rfl
             have hcz17_1 : wr.cell? ⟨gb197, 1, none⟩ = some (.slice (some ad198) l0_1.length c0_1) := (blk_cell BK197.out 1).trans rfl
             have hfz17_0 := blk_frozen BK197.out 0
             have hfz17_1 := blk_frozen BK197.out 1
             have p199 : 0 ≤ (a1 : Int) := of_decide_eq_true (by first | (with_reducible assumption) | assumption)
             have q199 : a1 < (l0_1.length : Int) := of_decide_eq_true (by first | (with_reducible assumption) | assumption)
             obtain ⟨ad199, A199_1, c199_1, e199, hx199_0, hx199_1, hx199_2, hx199_3, hx199_4, hx199_5, hx199_6, hl199_1, hi199_1⟩ := at_T56 HR0_1.out a1 p199 q199
             obtain rfl : ad198 = ad199 := (by injection e199)
             replace hx199_0 := (HB.out.cell (World.block_lt_of_cell? w _ hx199_0)).trans hx199_0
             replace hx199_1 := (HB.out.cell (World.block_lt_of_cell? w _ hx199_1)).trans hx199_1
             replace hx199_2 := (HB.out.cell (World.block_lt_of_cell? w _ hx199_2)).trans hx199_2
             replace hx199_3 := (HB.out.cell (World.block_lt_of_cell? w _ hx199_3)).trans hx199_3
             replace hx199_4 := (HB.out.cell (World.block_lt_of_cell? w _ hx199_4)).trans hx199_4
             replace hx199_5 := (HB.out.cell (World.block_lt_of_cell? w _ hx199_5)).trans hx199_5
             replace hx199_6 := (HB.out.cell (World.block_lt_of_cell? w _ hx199_6)).trans hx199_6
             have HR199_1 := Aside0.mk hi199_1
             have HC199_1 := Aside0.mk hl199_1
             clear hi199_1 hl199_1
             replace p199 := eq_true p199
             replace q199 := eq_true q199
             have p200 : 0 ≤ (x6_1 : Int) := of_decide_eq_true (by first | (with_reducible assumption) | assumption)
             have q200 : x6_1 < (((rd_T56 l0_1 a1).f1).length : Int) := of_decide_eq_true (by first | (with_reducible assumption) | assumption)
             obtain ⟨ad200, e200, hx200_0⟩ := Kd.at_int HR199_1.out x6_1 p200 q200
             cases e200
             replace hx200_0 := (HB.out.cell (World.block_lt_of_cell? w _ hx200_0)).trans hx200_0
             replace p200 := eq_true p200
             replace q200 := eq_true q200
             go_wp2_with (first | ((with_reducible refine gate_callee (f := 42) rfl ?_); refine goesL_ (some 36) rfl rfl Try.func42 (by kernel_rfl) rfl #[.agg #[.slice A0_0 l0_0.length c0_0, .slice (some ad198) l0_1.length c0_1], .int .i64 x5_1] rfl (by (try simp only [List.map_toArray, List.map_cons, List.map_nil]); first | done | rfl | (simp only [List.length_drop, List.length_take]; rfl)) ?_; (with_reducible refine (ih k1 (by have := HK1.out; omega) _ _ l0_0 _ _ l0_1 x5_1 t201 _ ?side1 ?side2 ?side3 ?side4 A15.out).mono ?_); (case side1 => repeat (first | exact (Kd.C_below HR0_0.out HB.out) | (with_reducible refine Kd.C_alloc ?_ _) | (with_reducible refine Kd.C_drewN ?_ _) | (with_reducible refine Kd.C_drew ?_))); (case side2 => exact HC0_0.out); (case side3 => repeat (first | exact (Kd.C_below HR0_1.out HB.out) | (with_reducible refine Kd.C_alloc ?_ _) | (with_reducible refine Kd.C_drewN ?_ _) | (with_reducible refine Kd.C_drew ?_))); (case side4 => exact HC0_1.out); rintro e w18 ⟨rfl, hb⟩; refine ⟨_, rfl, ?_⟩; have n0_ := Aside0.mk (blk_below (g := gb197) (o := .cells #[.slice A0_0 l0_0.length c0_0, .slice (some ad198) l0_1.length c0_1] 25 (0, 0)) (by (with_reducible repeat (first | refine blk_drewN ?_ _ | refine blk_drew ?_ | refine blk_alloc ?_ _)); exact BK197.out) hb); have n1_ := Aside0.mk (below_step (by repeat (first | (with_reducible first | exact HB.out | apply below_alloc | apply pw_below_drewN | apply below_drew1 | refine below_set ?_ GE197.out) | exact HB.out)) hb); clear BK197; clear HB; have BK197 := n0_; have HB := n1_; clear n0_ n1_; (try clear hb); (try clear hb2); (try clear hk); (try clear hi)))
             go_ret
             exact ⟨by first | rfl | (simp [errW_none, errW_some] <;> rfl) | (simp [*, errW_none, errW_some] <;> rfl), by repeat (first | (with_reducible first | exact HB.out | apply below_alloc | apply pw_below_drewN | apply below_drew1 | refine below_set ?_ GE197.out) | exact HB.out)⟩
            ·
             rw [if_neg c16] at H
             have c16b0 : (t201 == (-2)) = false := beq_eq_false_iff_ne.mpr c16
             have c16b1 : (t201 != (-2)) = true := bne_iff_ne.mpr c16
             have H' := Aside0.mk H
             clear H
             have hcz19_0 : wr.cell? ⟨gb197, 0, none⟩ = some (.slice A0_0 l0_0.length c0_0) := (blk_cell BK197.out 0).trans rfl
             have hcz19_1 : wr.cell? ⟨gb197, 1, none⟩ = some (.slice (some ad198) l0_1.length c0_1) := (blk_cell BK197.out 1).trans rfl
             have hfz19_0 := blk_frozen BK197.out 0
             have hfz19_1 := blk_frozen BK197.out 1
             have p199 : 0 ≤ (a1 : Int) := of_decide_eq_true (by first | (with_reducible assumption) | assumption)
             have q199 : a1 < (l0_1.length : Int) := of_decide_eq_true (by first | (with_reducible assumption) | assumption)
             obtain ⟨ad199, A199_1, c199_1, e199, hx199_0, hx199_1, hx199_2, hx199_3, hx199_4, hx199_5, hx199_6, hl199_1, hi199_1⟩ := at_T56 HR0_1.out a1 p199 q199
             obtain rfl : ad198 = ad199 := (by injection e199)
             replace hx199_0 := (HB.out.cell (World.block_lt_of_cell? w _ hx199_0)).trans hx199_0
             replace hx199_1 := (HB.out.cell (World.block_lt_of_cell? w _ hx199_1)).trans hx199_1
             replace hx199_2 := (HB.out.cell (World.block_lt_of_cell? w _ hx199_2)).trans hx199_2
             replace hx199_3 := (HB.out.cell (World.block_lt_of_cell? w _ hx199_3)).trans hx199_3
             replace hx199_4 := (HB.out.cell (World.block_lt_of_cell? w _ hx199_4)).trans hx199_4
             replace hx199_5 := (HB.out.cell (World.block_lt_of_cell? w _ hx199_5)).trans hx199_5
             replace hx199_6 := (HB.out.cell (World.block_lt_of_cell? w _ hx199_6)).trans hx199_6
             have HR199_1 := Aside0.mk hi199_1
             have HC199_1 := Aside0.mk hl199_1
             clear hi199_1 hl199_1
             replace p199 := eq_true p199
             replace q199 := eq_true q199
             have p200 : 0 ≤ (x6_1 : Int) := of_decide_eq_true (by first | (with_reducible assumption) | assumption)
             have q200 : x6_1 < (((rd_T56 l0_1 a1).f1).length : Int) := of_decide_eq_true (by first | (with_reducible assumption) | assumption)
             obtain ⟨ad200, e200, hx200_0⟩ := Kd.at_int HR199_1.out x6_1 p200 q200
             cases e200
             replace hx200_0 := (HB.out.cell (World.block_lt_of_cell? w _ hx200_0)).trans hx200_0
             replace p200 := eq_true p200
             replace q200 := eq_true q200
             go_wp2_with (first | ((with_reducible refine gate_callee (f := 42) rfl ?_); refine goesL_ (some 36) rfl rfl Try.func42 (by kernel_rfl) rfl #[.agg #[.slice A0_0 l0_0.length c0_0, .slice (some ad198) l0_1.length c0_1], .int .i64 x5_1] rfl (by (try simp only [List.map_toArray, List.map_cons, List.map_nil]); first | done | rfl | (simp only [List.length_drop, List.length_take]; rfl)) ?_; (with_reducible refine (ih k1 (by have := HK1.out; omega) _ _ l0_0 _ _ l0_1 x5_1 t201 _ ?side1 ?side2 ?side3 ?side4 A15.out).mono ?_); (case side1 => repeat (first | exact (Kd.C_below HR0_0.out HB.out) | (with_reducible refine Kd.C_alloc ?_ _) | (with_reducible refine Kd.C_drewN ?_ _) | (with_reducible refine Kd.C_drew ?_))); (case side2 => exact HC0_0.out); (case side3 => repeat (first | exact (Kd.C_below HR0_1.out HB.out) | (with_reducible refine Kd.C_alloc ?_ _) | (with_reducible refine Kd.C_drewN ?_ _) | (with_reducible refine Kd.C_drew ?_))); (case side4 => exact HC0_1.out); rintro e w20 ⟨rfl, hb⟩; refine ⟨_, rfl, ?_⟩; have n0_ := Aside0.mk (blk_below (g := gb197) (o := .cells #[.slice A0_0 l0_0.length c0_0, .slice (some ad198) l0_1.length c0_1] 25 (0, 0)) (by (with_reducible repeat (first | refine blk_drewN ?_ _ | refine blk_drew ?_ | refine blk_alloc ?_ _)); exact BK197.out) hb); have n1_ := Aside0.mk (below_step (by repeat (first | (with_reducible first | exact HB.out | apply below_alloc | apply pw_below_drewN | apply below_drew1 | refine below_set ?_ GE197.out) | exact HB.out)) hb); clear BK197; clear HB; have BK197 := n0_; have HB := n1_; clear n0_ n1_; (try clear hb); (try clear hb2); (try clear hk); (try clear hi)))
             go_roundg k1
             case measure => have := HK1.out; omega
             case rel => exact ⟨(t201), (wrap64 (x6_1 - 1)), (by first | rfl | (simp; done) | (simp [*]; done)), (by first | rfl | (simp; done) | (simp [*]; done)), H', ⟨by have := HK1.out; omega⟩, ⟨by (with_reducible repeat (first | refine blk_drewN ?_ _ | refine blk_drew ?_ | refine blk_alloc ?_ _)); exact BK197.out⟩, ⟨by repeat (first | (with_reducible first | exact HB.out | apply below_alloc | apply pw_below_drewN | apply below_drew1 | refine below_set ?_ GE197.out) | exact HB.out)⟩⟩
           ·
            rw [if_neg c14] at H
            have c14b0 : ((rd ((rd_T56 l0_1 a1).f1) x6_1) == x5_1) = false := beq_eq_false_iff_ne.mpr c14
            have c14b1 : ((rd ((rd_T56 l0_1 a1).f1) x6_1) != x5_1) = true := bne_iff_ne.mpr c14
            obtain rfl := Option.some.inj H
            have hcz21_0 : wr.cell? ⟨gb197, 0, none⟩ = some (.slice A0_0 l0_0.length c0_0) := (blk_cell BK197.out 0).trans rfl
            have hcz21_1 : wr.cell? ⟨gb197, 1, none⟩ = some (.slice (some ad198) l0_1.length c0_1) := (blk_cell BK197.out 1).trans rfl
            have hfz21_0 := blk_frozen BK197.out 0
            have hfz21_1 := blk_frozen BK197.out 1
            have p199 : 0 ≤ (a1 : Int) := of_decide_eq_true (by first | (with_reducible assumption) | assumption)
            have q199 : a1 < (l0_1.length : Int) := of_decide_eq_true (by first | (with_reducible assumption) | assumption)
            obtain ⟨ad199, A199_1, c199_1, e199, hx199_0, hx199_1, hx199_2, hx199_3, hx199_4, hx199_5, hx199_6, hl199_1, hi199_1⟩ := at_T56 HR0_1.out a1 p199 q199
            obtain rfl : ad198 = ad199 := (by injection e199)
            replace hx199_0 := (HB.out.cell (World.block_lt_of_cell? w _ hx199_0)).trans hx199_0
            replace hx199_1 := (HB.out.cell (World.block_lt_of_cell? w _ hx199_1)).trans hx199_1
            replace hx199_2 := (HB.out.cell (World.block_lt_of_cell? w _ hx199_2)).trans hx199_2
            replace hx199_3 := (HB.out.cell (World.block_lt_of_cell? w _ hx199_3)).trans hx199_3
            replace hx199_4 := (HB.out.cell (World.block_lt_of_cell? w _ hx199_4)).trans hx199_4
            replace hx199_5 := (HB.out.cell (World.block_lt_of_cell? w _ hx199_5)).trans hx199_5
            replace hx199_6 := (HB.out.cell (World.block_lt_of_cell? w _ hx199_6)).trans hx199_6
            have HR199_1 := Aside0.mk hi199_1
            have HC199_1 := Aside0.mk hl199_1
            clear hi199_1 hl199_1
            replace p199 := eq_true p199
            replace q199 := eq_true q199
            have p200 : 0 ≤ (x6_1 : Int) := of_decide_eq_true (by first | (with_reducible assumption) | assumption)
            have q200 : x6_1 < (((rd_T56 l0_1 a1).f1).length : Int) := of_decide_eq_true (by first | (with_reducible assumption) | assumption)
            obtain ⟨ad200, e200, hx200_0⟩ := Kd.at_int HR199_1.out x6_1 p200 q200
            cases e200
            replace hx200_0 := (HB.out.cell (World.block_lt_of_cell? w _ hx200_0)).trans hx200_0
            replace p200 := eq_true p200
            replace q200 := eq_true q200
            go_wp2
            go_ret
            exact ⟨by first | rfl | (simp [errW_none, errW_some] <;> rfl) | (simp [*, errW_none, errW_some] <;> rfl), by repeat (first | (with_reducible first | exact HB.out | apply below_alloc | apply pw_below_drewN | apply below_drew1 | refine below_set ?_ GE197.out) | exact HB.out)⟩
          ·
           rw [if_neg c13] at H
           exact absurd H (by simp)
         ·
          rw [if_neg c12] at H
          exact absurd H (by simp)
        ·
         rw [if_neg c11] at H
         exact absurd H (by simp)
       ·
        rw [if_neg c10] at H
        exact absurd H (by simp)
      ·
       rw [if_neg c9] at H
       have c9b0 : decide (0 ≤ x6_1) = false := decide_eq_false c9
       clear c9
       obtain rfl := Option.some.inj H
       go_wp2
       go_ret
       exact ⟨by first | rfl | (simp [errW_none, errW_some] <;> rfl) | (simp [*, errW_none, errW_some] <;> rfl), by repeat (first | (with_reducible first | exact HB.out | apply below_alloc | apply pw_below_drewN | apply below_drew1 | refine below_set ?_ GE197.out) | exact HB.out)⟩
   ·
    rw [if_neg c6] at H
    exact absurd H (by simp)
  ·
   rw [if_neg c5] at H
   exact absurd H (by simp)
end Go.Proofs.Ythgedejnpgcacaa.V
namespace Go.Proofs.Ythgedejnpgcacaa.V
open Go.RowKit Go.Proofs.YthgedejnpgcacaaW.PrintWords Go.Proofs.YthgedejnpgcacaaW.PrintLast Go.Proofs.YthgedejnpgcacaaW.PrintMore
attribute [local go_sem] max2_int min2_int max_two min_two max_three min_three max_four min_four tdiv_most
set_option linter.unusedVariables false
set_option linter.unusedSimpArgs false
def vetchref05_Ordered.l0 : Nat → Int → Int → List (S51) → List (S56) → Option (Bool)
 | 0, _, _, _, _ => none
 | k + 1, x3, x4, x203000, x203001 => if x4 < (x203000.length : Int) then (if 0 ≤ x4 then (if ((rd_T51 x203000 x4).f1) ≤ x3 then (some false) else (if ((rd_T51 x203000 x4).f1) ≥ (x203001.length : Int) then (some false) else ((vetchref05_Expression.f k x203000 x203001 ((rd_T51 x203000 x4).f1)).bind fun t204 => (if t204 = x3 then (vetchref05_Ordered.l0 k ((rd_T51 x203000 x4).f1) (wrap64 (x4 + 1)) x203000 x203001) else (some false))))) else (none)) else (some (x3 == (wrap64 ((x203001.length : Int) - 1))))
def vetchref05_Ordered.f (k : Nat) (l0_0 : List (S51)) (l0_1 : List (S56)) : Option (Bool) := vetchref05_Ordered.l0 k (-1) 0 l0_0 l0_1
theorem vetchref05_Ordered.mono_l : ∀ k, (∀ y0 y1 y2 y3, LeO (vetchref05_Ordered.l0 k y0 y1 y2 y3) (vetchref05_Ordered.l0 (k + 1) y0 y1 y2 y3))
 | 0 => fun _ _ _ _ r h => by simp [vetchref05_Ordered.l0] at h
 | k + 1 => by
  have ih0 := vetchref05_Ordered.mono_l k
  ·
   intro y0 y1 y2 y3
   unfold vetchref05_Ordered.l0
   repeat' first
   | (with_reducible exact ih0 _ _ _ _)
   | (with_reducible exact vetchref05_Expression.mono _ _ _ _)
   | (with_reducible exact LeO.refl _)
   | (with_reducible exact LeO.none _)
   | (with_reducible refine LeO.ite ?_ ?_)
   | (with_reducible refine LeO.bind ?_ (fun _ => ?_))
   | exact ih0 _ _ _ _
   | exact vetchref05_Expression.mono _ _ _ _
   | exact LeO.none _
   | refine LeO.ite ?_ ?_
   | refine LeO.bind ?_ (fun _ => ?_)
theorem vetchref05_Ordered.mono : ∀ a0 a1 k, LeO (vetchref05_Ordered.f k a0 a1) (vetchref05_Ordered.f (k + 1) a0 a1) := by
 intro a0 a1 k
 have ih0 := vetchref05_Ordered.mono_l k
 unfold vetchref05_Ordered.f
 repeat' first
  | (with_reducible exact ih0 _ _ _ _)
  | (with_reducible exact vetchref05_Expression.mono _ _ _ _)
  | (with_reducible exact LeO.refl _)
  | (with_reducible exact LeO.none _)
  | (with_reducible refine LeO.ite ?_ ?_)
  | (with_reducible refine LeO.bind ?_ (fun _ => ?_))
  | exact ih0 _ _ _ _
  | exact vetchref05_Expression.mono _ _ _ _
  | exact LeO.none _
  | refine LeO.ite ?_ ?_
  | refine LeO.bind ?_ (fun _ => ?_)
set_option maxHeartbeats 8000000 in
set_option maxRecDepth 100000 in
theorem vetchref05_Ordered.calls (k : Nat) (A0_0 : Option Addr) (c0_0 : Nat) (l0_0 : List (S51)) (A0_1 : Option Addr) (c0_1 : Nat) (l0_1 : List (S56)) (r : Bool) (w : World) (hr0_0 : Kd.C k51 w A0_0 l0_0.length l0_0) (hc0_0 : l0_0.length ≤ c0_0) (hr0_1 : Kd.C k56 w A0_1 l0_1.length l0_1) (hc0_1 : l0_1.length ≤ c0_1) (h : vetchref05_Ordered.f k l0_0 l0_1 = some r) :
 Calls Try.prog 38 #[.agg #[.slice A0_0 l0_0.length c0_0, .slice A0_1 l0_1.length c0_1]] w fun e w' => e = .returned (.bool r) ∧ Below w.heap.size w w' := by
 have hu25 := Try.underlying25
 have HR0_0 := Aside0.mk hr0_0
 have HC0_0 := Aside0.mk hc0_0
 clear hr0_0 hc0_0
 have HR0_1 := Aside0.mk hr0_1
 have HC0_1 := Aside0.mk hc0_1
 clear hr0_1 hc0_1
 have HB := Aside0.mk (Below.refl w.heap.size w)
 have H : (vetchref05_Ordered.l0 k (-1) 0 l0_0 l0_1) = some r := h
 clear h
 have H' := Aside0.mk H
 clear H
 go_enter Try.func38, Try.ntmps38
 go_wp2_with (first | ((with_reducible refine gate_dst (N := 1) rfl ?_); (try (refine gate_guard (by rfl) ?_; dsimp only)); refine box_event ?hg (N := 1) ?hd (cs := #[.slice A0_0 l0_0.length c0_0, .slice A0_1 l0_1.length c0_1]) (t := 25) ?hr ?_; (case hd => rfl); (case hg => rfl); (case hr => first | (go_simp; done) | (go_simp; rfl)); intro gb202 hg w2 hbox hb; have n0_ := Aside0.mk (below_step (by repeat (first | (with_reducible first | exact HB.out | apply below_alloc | apply pw_below_drewN | apply below_drew1) | exact HB.out)) hb); have n1_ := Aside0.mk (hbox); have n2_ := Aside0.mk ((by rw [hg]; exact (below_size (by repeat (first | (with_reducible first | exact HB.out | apply below_alloc | apply pw_below_drewN | apply below_drew1) | exact HB.out))) : w.heap.size ≤ gb202)); have n3_ := Aside0.mk ((by rw [hg]; exact (below_size (by repeat (first | (with_reducible first | exact HB.out | apply below_alloc | apply pw_below_drewN | apply below_drew1) | exact HB.out))) : w.heap.size ≤ gb202)); clear HB; have HB := n0_; have BK202 := n1_; have GW202 := n2_; have GE202 := n3_; clear n0_ n1_ n2_ n3_; clear hb hbox hg))
 go_loopg [3, 4] k (fun kq v3 v4 w' => ∃ (x3_1 : Int) (x4_1 : Int), v3 = .int .i64 x3_1 ∧ v4 = .int .i64 x4_1 ∧ Aside0 (vetchref05_Ordered.l0 kq x3_1 x4_1 l0_0 l0_1 = some r) ∧ Aside0 (kq ≤ k) ∧ Aside0 (w'.heap[gb202]? = some (.cells #[(.slice A0_0 l0_0.length c0_0), (.slice A0_1 l0_1.length c0_1)] 25 (0, 0))) ∧ Aside0 (Below w.heap.size w w'))
 case atStart => exact ⟨((-1)), (0), (by first | rfl | (simp; done) | (simp [*]; done)), (by first | rfl | (simp; done) | (simp [*]; done)), H', ⟨Nat.le_refl _⟩, ⟨by (with_reducible repeat (first | refine blk_drewN ?_ _ | refine blk_drew ?_ | refine blk_alloc ?_ _)); exact BK202.out⟩, ⟨by repeat (first | (with_reducible first | exact HB.out | apply below_alloc | apply pw_below_drewN | apply below_drew1 | refine below_set ?_ GE202.out) | exact HB.out)⟩⟩
 case round =>
  clear H'
  try clear p2
  obtain ⟨x3_1, x4_1, rfl, rfl, HA, HK1, BK202, HB⟩ := hrel
  cases gk with
  | zero => exact absurd HA.out (by simp [vetchref05_Ordered.l0])
  | succ k1 =>
   have H := HA.out
   clear HA
   simp only [vetchref05_Ordered.l0] at H
   by_cases c3 : x4_1 < (l0_0.length : Int)
   ·
    rw [if_pos c3] at H
    have c3b0 : decide (x4_1 < (l0_0.length : Int)) = true := decide_eq_true c3
    clear c3
    by_cases c4 : 0 ≤ x4_1
    ·
     rw [if_pos c4] at H
     have c4b0 : decide (0 ≤ x4_1) = true := decide_eq_true c4
     clear c4
     by_cases c5 : ((rd_T51 l0_0 x4_1).f1) ≤ x3_1
     ·
      rw [if_pos c5] at H
      have c5b0 : decide (((rd_T51 l0_0 x4_1).f1) ≤ x3_1) = true := decide_eq_true c5
      clear c5
      obtain rfl := Option.some.inj H
      have hcz6_0 : wr.cell? ⟨gb202, 0, none⟩ = some (.slice A0_0 l0_0.length c0_0) := (blk_cell BK202.out 0).trans rfl
      have hcz6_1 : wr.cell? ⟨gb202, 1, none⟩ = some (.slice A0_1 l0_1.length c0_1) := (blk_cell BK202.out 1).trans rfl
      have hfz6_0 := blk_frozen BK202.out 0
      have hfz6_1 := blk_frozen BK202.out 1
      have p203 : 0 ≤ (x4_1 : Int) := of_decide_eq_true (by first | (with_reducible assumption) | assumption)
      have q203 : x4_1 < (l0_0.length : Int) := of_decide_eq_true (by first | (with_reducible assumption) | assumption)
      obtain ⟨ad203, e203, hx203_0, hx203_1⟩ := at_T51 HR0_0.out x4_1 p203 q203
      cases e203
      replace hx203_0 := (HB.out.cell (World.block_lt_of_cell? w _ hx203_0)).trans hx203_0
      replace hx203_1 := (HB.out.cell (World.block_lt_of_cell? w _ hx203_1)).trans hx203_1
      replace p203 := eq_true p203
      replace q203 := eq_true q203
      go_wp2
      go_ret
      exact ⟨by first | rfl | (simp [errW_none, errW_some] <;> rfl) | (simp [*, errW_none, errW_some] <;> rfl), by repeat (first | (with_reducible first | exact HB.out | apply below_alloc | apply pw_below_drewN | apply below_drew1 | refine below_set ?_ GE202.out) | exact HB.out)⟩
     ·
      rw [if_neg c5] at H
      have c5b0 : decide (((rd_T51 l0_0 x4_1).f1) ≤ x3_1) = false := decide_eq_false c5
      clear c5
      by_cases c7 : ((rd_T51 l0_0 x4_1).f1) ≥ (l0_1.length : Int)
      ·
       rw [if_pos c7] at H
       have c7b0 : decide ((l0_1.length : Int) ≤ ((rd_T51 l0_0 x4_1).f1)) = true := decide_eq_true c7
       clear c7
       obtain rfl := Option.some.inj H
       have hcz8_0 : wr.cell? ⟨gb202, 0, none⟩ = some (.slice A0_0 l0_0.length c0_0) := (blk_cell BK202.out 0).trans rfl
       have hcz8_1 : wr.cell? ⟨gb202, 1, none⟩ = some (.slice A0_1 l0_1.length c0_1) := (blk_cell BK202.out 1).trans rfl
       have hfz8_0 := blk_frozen BK202.out 0
       have hfz8_1 := blk_frozen BK202.out 1
       have p203 : 0 ≤ (x4_1 : Int) := of_decide_eq_true (by first | (with_reducible assumption) | assumption)
       have q203 : x4_1 < (l0_0.length : Int) := of_decide_eq_true (by first | (with_reducible assumption) | assumption)
       obtain ⟨ad203, e203, hx203_0, hx203_1⟩ := at_T51 HR0_0.out x4_1 p203 q203
       cases e203
       replace hx203_0 := (HB.out.cell (World.block_lt_of_cell? w _ hx203_0)).trans hx203_0
       replace hx203_1 := (HB.out.cell (World.block_lt_of_cell? w _ hx203_1)).trans hx203_1
       replace p203 := eq_true p203
       replace q203 := eq_true q203
       go_wp2
       go_ret
       exact ⟨by first | rfl | (simp [errW_none, errW_some] <;> rfl) | (simp [*, errW_none, errW_some] <;> rfl), by repeat (first | (with_reducible first | exact HB.out | apply below_alloc | apply pw_below_drewN | apply below_drew1 | refine below_set ?_ GE202.out) | exact HB.out)⟩
      ·
       rw [if_neg c7] at H
       have c7b0 : decide ((l0_1.length : Int) ≤ ((rd_T51 l0_0 x4_1).f1)) = false := decide_eq_false c7
       clear c7
       replace H := Option.bind_eq_some_iff.mp H
       obtain ⟨t204, A90, H⟩ := H
       replace H : (if t204 = x3_1 then (vetchref05_Ordered.l0 k1 ((rd_T51 l0_0 x4_1).f1) (wrap64 (x4_1 + 1)) l0_0 l0_1) else (some false)) = some r := H
       have A9 := Aside0.mk A90
       clear A90
       by_cases c10 : t204 = x3_1
       ·
        rw [if_pos c10] at H
        have c10b0 : (t204 == x3_1) = true := beq_iff_eq.mpr c10
        have c10b1 : (t204 != x3_1) = false := bne_eq_false_iff_eq.mpr c10
        clear c10
        have H' := Aside0.mk H
        clear H
        have hcz11_0 : wr.cell? ⟨gb202, 0, none⟩ = some (.slice A0_0 l0_0.length c0_0) := (blk_cell BK202.out 0).trans rfl
        have hcz11_1 : wr.cell? ⟨gb202, 1, none⟩ = some (.slice A0_1 l0_1.length c0_1) := (blk_cell BK202.out 1).trans rfl
        have hfz11_0 := blk_frozen BK202.out 0
        have hfz11_1 := blk_frozen BK202.out 1
        have p203 : 0 ≤ (x4_1 : Int) := of_decide_eq_true (by first | (with_reducible assumption) | assumption)
        have q203 : x4_1 < (l0_0.length : Int) := of_decide_eq_true (by first | (with_reducible assumption) | assumption)
        obtain ⟨ad203, e203, hx203_0, hx203_1⟩ := at_T51 HR0_0.out x4_1 p203 q203
        cases e203
        replace hx203_0 := (HB.out.cell (World.block_lt_of_cell? w _ hx203_0)).trans hx203_0
        replace hx203_1 := (HB.out.cell (World.block_lt_of_cell? w _ hx203_1)).trans hx203_1
        replace p203 := eq_true p203
        replace q203 := eq_true q203
        go_wp2_with (first | (go_at_call 42; (with_reducible refine (vetchref05_Expression.calls k1 _ _ l0_0 _ _ l0_1 ((rd_T51 l0_0 x4_1).f1) t204 _ ?side1 ?side2 ?side3 ?side4 A9.out).mono ?_); (case side1 => repeat (first | exact (Kd.C_below HR0_0.out HB.out) | (with_reducible refine Kd.C_alloc ?_ _) | (with_reducible refine Kd.C_drewN ?_ _) | (with_reducible refine Kd.C_drew ?_))); (case side2 => exact HC0_0.out); (case side3 => repeat (first | exact (Kd.C_below HR0_1.out HB.out) | (with_reducible refine Kd.C_alloc ?_ _) | (with_reducible refine Kd.C_drewN ?_ _) | (with_reducible refine Kd.C_drew ?_))); (case side4 => exact HC0_1.out); rintro e w12 ⟨rfl, hb⟩; have n0_ := Aside0.mk (blk_below (g := gb202) (o := .cells #[.slice (some ad203) l0_0.length c0_0, .slice A0_1 l0_1.length c0_1] 25 (0, 0)) (by (with_reducible repeat (first | refine blk_drewN ?_ _ | refine blk_drew ?_ | refine blk_alloc ?_ _)); exact BK202.out) hb); have n1_ := Aside0.mk (below_step (by repeat (first | (with_reducible first | exact HB.out | apply below_alloc | apply pw_below_drewN | apply below_drew1 | refine below_set ?_ GE202.out) | exact HB.out)) hb); clear BK202; clear HB; have BK202 := n0_; have HB := n1_; clear n0_ n1_; (try clear hb); (try clear hb2); (try clear hk); (try clear hi)))
        go_roundg k1
        case measure => have := HK1.out; omega
        case rel => exact ⟨((rd_T51 l0_0 x4_1).f1), (wrap64 (x4_1 + 1)), (by first | rfl | (simp; done) | (simp [*]; done)), (by first | rfl | (simp; done) | (simp [*]; done)), H', ⟨by have := HK1.out; omega⟩, ⟨by (with_reducible repeat (first | refine blk_drewN ?_ _ | refine blk_drew ?_ | refine blk_alloc ?_ _)); exact BK202.out⟩, ⟨by repeat (first | (with_reducible first | exact HB.out | apply below_alloc | apply pw_below_drewN | apply below_drew1 | refine below_set ?_ GE202.out) | exact HB.out)⟩⟩
       ·
        rw [if_neg c10] at H
        have c10b0 : (t204 == x3_1) = false := beq_eq_false_iff_ne.mpr c10
        have c10b1 : (t204 != x3_1) = true := bne_iff_ne.mpr c10
        obtain rfl := Option.some.inj H
        have hcz13_0 : wr.cell? ⟨gb202, 0, none⟩ = some (.slice A0_0 l0_0.length c0_0) := (blk_cell BK202.out 0).trans rfl
        have hcz13_1 : wr.cell? ⟨gb202, 1, none⟩ = some (.slice A0_1 l0_1.length c0_1) := (blk_cell BK202.out 1).trans rfl
        have hfz13_0 := blk_frozen BK202.out 0
        have hfz13_1 := blk_frozen BK202.out 1
        have p203 : 0 ≤ (x4_1 : Int) := of_decide_eq_true (by first | (with_reducible assumption) | assumption)
        have q203 : x4_1 < (l0_0.length : Int) := of_decide_eq_true (by first | (with_reducible assumption) | assumption)
        obtain ⟨ad203, e203, hx203_0, hx203_1⟩ := at_T51 HR0_0.out x4_1 p203 q203
        cases e203
        replace hx203_0 := (HB.out.cell (World.block_lt_of_cell? w _ hx203_0)).trans hx203_0
        replace hx203_1 := (HB.out.cell (World.block_lt_of_cell? w _ hx203_1)).trans hx203_1
        replace p203 := eq_true p203
        replace q203 := eq_true q203
        go_wp2_with (first | (go_at_call 42; (with_reducible refine (vetchref05_Expression.calls k1 _ _ l0_0 _ _ l0_1 ((rd_T51 l0_0 x4_1).f1) t204 _ ?side1 ?side2 ?side3 ?side4 A9.out).mono ?_); (case side1 => repeat (first | exact (Kd.C_below HR0_0.out HB.out) | (with_reducible refine Kd.C_alloc ?_ _) | (with_reducible refine Kd.C_drewN ?_ _) | (with_reducible refine Kd.C_drew ?_))); (case side2 => exact HC0_0.out); (case side3 => repeat (first | exact (Kd.C_below HR0_1.out HB.out) | (with_reducible refine Kd.C_alloc ?_ _) | (with_reducible refine Kd.C_drewN ?_ _) | (with_reducible refine Kd.C_drew ?_))); (case side4 => exact HC0_1.out); rintro e w14 ⟨rfl, hb⟩; have n0_ := Aside0.mk (blk_below (g := gb202) (o := .cells #[.slice (some ad203) l0_0.length c0_0, .slice A0_1 l0_1.length c0_1] 25 (0, 0)) (by (with_reducible repeat (first | refine blk_drewN ?_ _ | refine blk_drew ?_ | refine blk_alloc ?_ _)); exact BK202.out) hb); have n1_ := Aside0.mk (below_step (by repeat (first | (with_reducible first | exact HB.out | apply below_alloc | apply pw_below_drewN | apply below_drew1 | refine below_set ?_ GE202.out) | exact HB.out)) hb); clear BK202; clear HB; have BK202 := n0_; have HB := n1_; clear n0_ n1_; (try clear hb); (try clear hb2); (try clear hk); (try clear hi)))
        go_ret
        exact ⟨by first | rfl | (simp [errW_none, errW_some] <;> rfl) | (simp [*, errW_none, errW_some] <;> rfl), by repeat (first | (with_reducible first | exact HB.out | apply below_alloc | apply pw_below_drewN | apply below_drew1 | refine below_set ?_ GE202.out) | exact HB.out)⟩
    ·
     rw [if_neg c4] at H
     exact absurd H (by simp)
   ·
    rw [if_neg c3] at H
    have c3b0 : decide (x4_1 < (l0_0.length : Int)) = false := decide_eq_false c3
    clear c3
    obtain rfl := Option.some.inj H
    have hcz15_0 : wr.cell? ⟨gb202, 0, none⟩ = some (.slice A0_0 l0_0.length c0_0) := (blk_cell BK202.out 0).trans rfl
    have hcz15_1 : wr.cell? ⟨gb202, 1, none⟩ = some (.slice A0_1 l0_1.length c0_1) := (blk_cell BK202.out 1).trans rfl
    have hfz15_0 := blk_frozen BK202.out 0
    have hfz15_1 := blk_frozen BK202.out 1
    go_wp2
    go_ret
    exact ⟨by first | rfl | (simp [errW_none, errW_some] <;> rfl) | (simp [*, errW_none, errW_some] <;> rfl), by repeat (first | (with_reducible first | exact HB.out | apply below_alloc | apply pw_below_drewN | apply below_drew1 | refine below_set ?_ GE202.out) | exact HB.out)⟩
end Go.Proofs.Ythgedejnpgcacaa.V
namespace Go.Proofs.Ythgedejnpgcacaa.V
open Go.RowKit Go.Proofs.YthgedejnpgcacaaW.PrintWords Go.Proofs.YthgedejnpgcacaaW.PrintLast Go.Proofs.YthgedejnpgcacaaW.PrintMore
attribute [local go_sem] max2_int min2_int max_two min_two max_three min_three max_four min_four tdiv_most
set_option linter.unusedVariables false
set_option linter.unusedSimpArgs false
mutual
def vetchref05_Depth.l0 : Nat → Int → Int → Int → Int → List (S51) → List (S56) → Option (Int)
 | 0, _, _, _, _, _, _ => none
 | k + 1, x1, x2, x7, x8, x206000, x206001 => if 0 ≤ x1 then (if x1 < (x206001.length : Int) then (if x8 < (((rd_T56 x206001 x1).f1).length : Int) then (if x2 > 0 then (if 0 ≤ x8 then ((vetchref05_Depth.f k x206000 x206001 (rd ((rd_T56 x206001 x1).f1) x8) (wrap64 (x2 - 1))).bind fun t209 => (vetchref05_Depth.l0 k x1 x2 (mx x7 t209) (wrap64 (x8 + 1)) x206000 x206001)) else (none)) else (some (wrap64 (x7 + 1)))) else (some (wrap64 (x7 + 1)))) else (none)) else (none)
def vetchref05_Depth.f : Nat → List (S51) → List (S56) → Int → Int → Option (Int)
 | 0, _, _, _, _ => none
 | k + 1, l0_0, l0_1, a1, a2 => vetchref05_Depth.l0 k a1 a2 0 0 l0_0 l0_1
end
theorem vetchref05_Depth.mono_l : ∀ k, (∀ y0 y1 y2 y3, LeO (vetchref05_Depth.f k y0 y1 y2 y3) (vetchref05_Depth.f (k + 1) y0 y1 y2 y3)) ∧ (∀ y0 y1 y2 y3 y4 y5, LeO (vetchref05_Depth.l0 k y0 y1 y2 y3 y4 y5) (vetchref05_Depth.l0 (k + 1) y0 y1 y2 y3 y4 y5))
 | 0 => ⟨fun _ _ _ _ r h => by simp [vetchref05_Depth.f] at h, fun _ _ _ _ _ _ r h => by simp [vetchref05_Depth.l0] at h⟩
 | k + 1 => by
  obtain ⟨ih0, ih1⟩ := vetchref05_Depth.mono_l k
  refine ⟨?_, ?_⟩
  ·
   intro y0 y1 y2 y3
   unfold vetchref05_Depth.f
   repeat' first
   | (with_reducible exact ih0 _ _ _ _)
   | (with_reducible exact ih1 _ _ _ _ _ _)
   | (with_reducible exact LeO.refl _)
   | (with_reducible exact LeO.none _)
   | (with_reducible refine LeO.ite ?_ ?_)
   | (with_reducible refine LeO.bind ?_ (fun _ => ?_))
   | exact ih0 _ _ _ _
   | exact ih1 _ _ _ _ _ _
   | exact LeO.none _
   | refine LeO.ite ?_ ?_
   | refine LeO.bind ?_ (fun _ => ?_)
  ·
   intro y0 y1 y2 y3 y4 y5
   unfold vetchref05_Depth.l0
   repeat' first
   | (with_reducible exact ih0 _ _ _ _)
   | (with_reducible exact ih1 _ _ _ _ _ _)
   | (with_reducible exact LeO.refl _)
   | (with_reducible exact LeO.none _)
   | (with_reducible refine LeO.ite ?_ ?_)
   | (with_reducible refine LeO.bind ?_ (fun _ => ?_))
   | exact ih0 _ _ _ _
   | exact ih1 _ _ _ _ _ _
   | exact LeO.none _
   | refine LeO.ite ?_ ?_
   | refine LeO.bind ?_ (fun _ => ?_)
theorem vetchref05_Depth.mono : ∀ a0 a1 a2 a3 k, LeO (vetchref05_Depth.f k a0 a1 a2 a3) (vetchref05_Depth.f (k + 1) a0 a1 a2 a3) := by
 intro a0 a1 a2 a3 k
 obtain ⟨ih0, ih1⟩ := vetchref05_Depth.mono_l k
 exact ih0 a0 a1 a2 a3
def vetchref05_Depth.T5 : Bool × List (List Nat × List Nat) := (true, [([], []), ([], []), ([], []), ([2], [2]), ([], []), ([3, 4], [3, 4]), ([5], [5]), ([6], [6]), ([], []), ([7, 8], [7, 8]), ([9], [9]), ([], []), ([11], [11]), ([1, 10, 12], [1, 10, 12]), ([0, 13], [0, 13]), ([14, 13, 0, 1, 2, 3, 4, 5, 6, 7, 8, 9, 10, 11, 12, 13, 14], [0, 14])])
def vetchref05_Depth.B5 : List Nat := [0, 0, 0, 4, 0, 28, 60, 124, 0, 508, 1020, 0, 2048, 8190, 16383, 32767]
theorem vetchref05_Depth.tab5 : rtab .any (opsOf Try.f39 5) = vetchref05_Depth.T5 := by kernel_rfl
theorem vetchref05_Depth.bits5 : waitsOk vetchref05_Depth.T5.2 vetchref05_Depth.B5 = true := by kernel_rfl
set_option maxHeartbeats 8000000 in
set_option maxRecDepth 100000 in
theorem vetchref05_Depth.calls (k : Nat) : ∀ (A0_0 : Option Addr) (c0_0 : Nat) (l0_0 : List (S51)) (A0_1 : Option Addr) (c0_1 : Nat) (l0_1 : List (S56)) (a1 : Int) (a2 : Int) (r : Int) (w : World) (hr0_0 : Kd.C k51 w A0_0 l0_0.length l0_0) (hc0_0 : l0_0.length ≤ c0_0) (hr0_1 : Kd.C k56 w A0_1 l0_1.length l0_1) (hc0_1 : l0_1.length ≤ c0_1) (h : vetchref05_Depth.f k l0_0 l0_1 a1 a2 = some r),
 Calls Try.prog 39 #[.agg #[.slice A0_0 l0_0.length c0_0, .slice A0_1 l0_1.length c0_1], .int .i64 a1, .int .i64 a2] w fun e w' => e = .returned (.int .i64 r) ∧ Below w.heap.size w w' := by
 induction k using Nat.strongRecOn with
 | _ k ih =>
 intro A0_0 c0_0 l0_0 A0_1 c0_1 l0_1 a1 a2 r w hr0_0 hc0_0 hr0_1 hc0_1 h
 cases k with
 | zero => exact absurd h (by simp [vetchref05_Depth.f])
 | succ k =>
 simp only [vetchref05_Depth.f] at h
 have hu25 := Try.underlying25
 have HR0_0 := Aside0.mk hr0_0
 have HC0_0 := Aside0.mk hc0_0
 clear hr0_0 hc0_0
 have HR0_1 := Aside0.mk hr0_1
 have HC0_1 := Aside0.mk hc0_1
 clear hr0_1 hc0_1
 have HB := Aside0.mk (Below.refl w.heap.size w)
 have H : (vetchref05_Depth.l0 k a1 a2 0 0 l0_0 l0_1) = some r := h
 clear h
 have H' := Aside0.mk H
 clear H
 go_enter Try.func39, Try.ntmps39
 go_wp2_with (first | ((with_reducible refine gate_dst (N := 3) rfl ?_); refine box_event ?hg (N := 3) ?hd (cs := #[.slice A0_0 l0_0.length c0_0, .slice A0_1 l0_1.length c0_1]) (t := 25) ?hr ?_; (case hd => rfl); (case hg => rfl); (case hr => first | (go_simp; done) | (go_simp; rfl)); intro gb205 hg w4 hbox hb; have n0_ := Aside0.mk (below_step (by repeat (first | (with_reducible first | exact HB.out | apply below_alloc | apply pw_below_drewN | apply below_drew1) | exact HB.out)) hb); have n1_ := Aside0.mk (hbox); have n2_ := Aside0.mk ((by rw [hg]; exact (below_size (by repeat (first | (with_reducible first | exact HB.out | apply below_alloc | apply pw_below_drewN | apply below_drew1) | exact HB.out))) : w.heap.size ≤ gb205)); have n3_ := Aside0.mk ((by rw [hg]; exact (below_size (by repeat (first | (with_reducible first | exact HB.out | apply below_alloc | apply pw_below_drewN | apply below_drew1) | exact HB.out))) : w.heap.size ≤ gb205)); clear HB; have HB := n0_; have BK205 := n1_; have GW205 := n2_; have GE205 := n3_; clear n0_ n1_ n2_ n3_; clear hb hbox hg))
 go_loopg [7, 8] k (fun kq v7 v8 w' => ∃ (x7_1 : Int) (x8_1 : Int), v7 = .int .i64 x7_1 ∧ v8 = .int .i64 x8_1 ∧ Aside0 (vetchref05_Depth.l0 kq a1 a2 x7_1 x8_1 l0_0 l0_1 = some r) ∧ Aside0 (kq ≤ k) ∧ Aside0 (w'.heap[gb205]? = some (.cells #[(.slice A0_0 l0_0.length c0_0), (.slice A0_1 l0_1.length c0_1)] 25 (0, 0))) ∧ Aside0 (Below w.heap.size w w'))
 case atStart => exact ⟨(0), (0), (by first | rfl | (simp; done) | (simp [*]; done)), (by first | rfl | (simp; done) | (simp [*]; done)), H', ⟨Nat.le_refl _⟩, ⟨by (with_reducible repeat (first | refine blk_drewN ?_ _ | refine blk_drew ?_ | refine blk_alloc ?_ _)); exact BK205.out⟩, ⟨by repeat (first | (with_reducible first | exact HB.out | apply below_alloc | apply pw_below_drewN | apply below_drew1 | refine below_set ?_ GE205.out) | exact HB.out)⟩⟩
 case round =>
  clear H'
  try clear p2
  try clear c3
  obtain ⟨x7_1, x8_1, rfl, rfl, HA, HK1, BK205, HB⟩ := hrel
  cases gk with
  | zero => exact absurd HA.out (by simp [vetchref05_Depth.l0])
  | succ k1 =>
   have H := HA.out
   clear HA
   simp only [vetchref05_Depth.l0] at H
   by_cases c5 : 0 ≤ a1
   ·
    rw [if_pos c5] at H
    have c5b0 : decide (0 ≤ a1) = true := decide_eq_true c5
    clear c5
    by_cases c6 : a1 < (l0_1.length : Int)
    ·
     rw [if_pos c6] at H
     have c6b0 : decide (a1 < (l0_1.length : Int)) = true := decide_eq_true c6
     clear c6
     by_cases c7 : x8_1 < (((rd_T56 l0_1 a1).f1).length : Int)
     ·
      rw [if_pos c7] at H
      have c7b0 : decide (x8_1 < (((rd_T56 l0_1 a1).f1).length : Int)) = true := decide_eq_true c7
      clear c7
      by_cases c8 : a2 > 0
      ·
       rw [if_pos c8] at H
       have c8b0 : decide (0 < a2) = true := decide_eq_true c8
       clear c8
       by_cases c9 : 0 ≤ x8_1
       ·
        rw [if_pos c9] at H
        have c9b0 : decide (0 ≤ x8_1) = true := decide_eq_true c9
        clear c9
        replace H := Option.bind_eq_some_iff.mp H
        obtain ⟨t209, A100, H⟩ := H
        replace H : (vetchref05_Depth.l0 k1 a1 a2 (mx x7_1 t209) (wrap64 (x8_1 + 1)) l0_0 l0_1) = some r := H
        have A10 := Aside0.mk A100
        clear A100
        obtain ⟨ji11, hji11⟩ : ∃ j_ : Int, (mx x7_1 t209) = j_ := ⟨_, rfl⟩
        replace H : (vetchref05_Depth.l0 k1 a1 a2 ji11 (wrap64 (x8_1 + 1)) l0_0 l0_1) = some r := by first | (rw [hji11] at H; exact H) | (simp only [hji11] at H ⊢; exact H)
        (try rw [hji11] at A10)
        have hji11_ : (if x7_1 < t209 then t209 else x7_1) = ji11 := hji11
        have H' := Aside0.mk H
        clear H
        have hcz12_0 : wr.cell? ⟨gb205, 0, none⟩ = some (.slice A0_0 l0_0.length c0_0) := (blk_cell BK205.out 0).trans rfl
        have hcz12_1 : wr.cell? ⟨gb205, 1, none⟩ = some (.slice A0_1 l0_1.length c0_1) := (blk_cell BK205.out 1).trans rfl
        have hfz12_0 := blk_frozen BK205.out 0
        have hfz12_1 := blk_frozen BK205.out 1
        have p206 : 0 ≤ (a1 : Int) := of_decide_eq_true (by first | (with_reducible assumption) | assumption)
        have q206 : a1 < (l0_1.length : Int) := of_decide_eq_true (by first | (with_reducible assumption) | assumption)
        obtain ⟨ad206, A206_1, c206_1, e206, hx206_0, hx206_1, hx206_2, hx206_3, hx206_4, hx206_5, hx206_6, hl206_1, hi206_1⟩ := at_T56 HR0_1.out a1 p206 q206
        cases e206
        replace hx206_0 := (HB.out.cell (World.block_lt_of_cell? w _ hx206_0)).trans hx206_0
        replace hx206_1 := (HB.out.cell (World.block_lt_of_cell? w _ hx206_1)).trans hx206_1
        replace hx206_2 := (HB.out.cell (World.block_lt_of_cell? w _ hx206_2)).trans hx206_2
        replace hx206_3 := (HB.out.cell (World.block_lt_of_cell? w _ hx206_3)).trans hx206_3
        replace hx206_4 := (HB.out.cell (World.block_lt_of_cell? w _ hx206_4)).trans hx206_4
        replace hx206_5 := (HB.out.cell (World.block_lt_of_cell? w _ hx206_5)).trans hx206_5
        replace hx206_6 := (HB.out.cell (World.block_lt_of_cell? w _ hx206_6)).trans hx206_6
        have HR206_1 := Aside0.mk hi206_1
        have HC206_1 := Aside0.mk hl206_1
        clear hi206_1 hl206_1
        replace p206 := eq_true p206
        replace q206 := eq_true q206
        try go_wp2
        have n0_ := Aside0.mk (blk_drew BK205.out)
        have n1_ := Aside0.mk (below_drew1 HB.out)
        clear BK205
        clear HB
        have BK205 := n0_
        have HB := n1_
        clear n0_ n1_
        have p207 : 0 ≤ (a1 : Int) := of_decide_eq_true (by first | (with_reducible assumption) | assumption)
        have q207 : a1 < (l0_1.length : Int) := of_decide_eq_true (by first | (with_reducible assumption) | assumption)
        obtain ⟨ad207, A207_1, c207_1, e207, hx207_0, hx207_1, hx207_2, hx207_3, hx207_4, hx207_5, hx207_6, hl207_1, hi207_1⟩ := at_T56 HR0_1.out a1 p207 q207
        have hw207_6 := hx207_6
        have hw207_5 := hx207_5
        have hw207_4 := hx207_4
        have hw207_3 := hx207_3
        have hw207_2 := hx207_2
        have hw207_1 := hx207_1
        have hw207_0 := hx207_0
        obtain rfl : ad206 = ad207 := (by injection e207)
        replace hx207_0 := (HB.out.cell (World.block_lt_of_cell? w _ hx207_0)).trans hx207_0
        replace hx207_1 := (HB.out.cell (World.block_lt_of_cell? w _ hx207_1)).trans hx207_1
        replace hx207_2 := (HB.out.cell (World.block_lt_of_cell? w _ hx207_2)).trans hx207_2
        replace hx207_3 := (HB.out.cell (World.block_lt_of_cell? w _ hx207_3)).trans hx207_3
        replace hx207_4 := (HB.out.cell (World.block_lt_of_cell? w _ hx207_4)).trans hx207_4
        replace hx207_5 := (HB.out.cell (World.block_lt_of_cell? w _ hx207_5)).trans hx207_5
        replace hx207_6 := (HB.out.cell (World.block_lt_of_cell? w _ hx207_6)).trans hx207_6
        have HR207_1 := Aside0.mk hi207_1
        have HC207_1 := Aside0.mk hl207_1
        clear hi207_1 hl207_1
        replace p207 := eq_true p207
        replace q207 := eq_true q207
        have p208 : 0 ≤ (x8_1 : Int) := of_decide_eq_true (by first | (with_reducible assumption) | assumption)
        have q208 : x8_1 < (((rd_T56 l0_1 a1).f1).length : Int) := of_decide_eq_true (by first | (with_reducible assumption) | assumption)
        obtain ⟨ad208, e208, hx208_0⟩ := Kd.at_int HR207_1.out x8_1 p208 q208
        have hw208_0 := hx208_0
        cases e208
        replace hx208_0 := (HB.out.cell (World.block_lt_of_cell? w _ hx208_0)).trans hx208_0
        replace p208 := eq_true p208
        replace q208 := eq_true q208
        refine start_ (n := 16) (S := fun w' => w'.cell? ⟨gb205, 0, none⟩ = some (.slice A0_0 l0_0.length c0_0) ∧ w'.cell? ⟨gb205, 1, none⟩ = some (.slice (some ad206) l0_1.length c0_1) ∧ w'.cell? (ad206.add ((a1).toNat * 7)) = some (.int .i64 ((rd_T56 l0_1 a1).f0)) ∧ w'.cell? ⟨(ad206.add ((a1).toNat * 7)).block, (ad206.add ((a1).toNat * 7)).off + 1, none⟩ = some (.slice (some ad208) ((rd_T56 l0_1 a1).f1).length c207_1) ∧ w'.cell? ⟨(ad206.add ((a1).toNat * 7)).block, (ad206.add ((a1).toNat * 7)).off + 2, none⟩ = some (.int .i64 ((rd_T56 l0_1 a1).f2)) ∧ w'.cell? ⟨(ad206.add ((a1).toNat * 7)).block, (ad206.add ((a1).toNat * 7)).off + 3, none⟩ = some (.int .u64 ((rd_T56 l0_1 a1).f3.f0)) ∧ w'.cell? ⟨(ad206.add ((a1).toNat * 7)).block, (ad206.add ((a1).toNat * 7)).off + 4, none⟩ = some (.int .u64 ((rd_T56 l0_1 a1).f3.f1)) ∧ w'.cell? ⟨(ad206.add ((a1).toNat * 7)).block, (ad206.add ((a1).toNat * 7)).off + 5, none⟩ = some (.int .u64 ((rd_T56 l0_1 a1).f3.f2)) ∧ w'.cell? ⟨(ad206.add ((a1).toNat * 7)).block, (ad206.add ((a1).toNat * 7)).off + 6, none⟩ = some (.int .u64 ((rd_T56 l0_1 a1).f3.f3)) ∧ w'.cell? (ad208.add (x8_1).toNat) = some (.int .i64 (rd ((rd_T56 l0_1 a1).f1) x8_1))) (ds := []) #[false, false, false, false, false, false, false, false, false, false, false, false, false, false, false, false] (by kernel_rfl) rfl rfl ⟨(blk_cell BK205.out 0).trans rfl, (blk_cell BK205.out 1).trans rfl, ((HB.out.cell (World.block_lt_of_cell? w _ hw207_0)).trans hw207_0), ((HB.out.cell (World.block_lt_of_cell? w _ hw207_1)).trans hw207_1), ((HB.out.cell (World.block_lt_of_cell? w _ hw207_2)).trans hw207_2), ((HB.out.cell (World.block_lt_of_cell? w _ hw207_3)).trans hw207_3), ((HB.out.cell (World.block_lt_of_cell? w _ hw207_4)).trans hw207_4), ((HB.out.cell (World.block_lt_of_cell? w _ hw207_5)).trans hw207_5), ((HB.out.cell (World.block_lt_of_cell? w _ hw207_6)).trans hw207_6), ((HB.out.cell (World.block_lt_of_cell? w _ hw208_0)).trans hw208_0)⟩ (fun hHeld => ?_); refine with_tabW vetchref05_Depth.tab5 vetchref05_Depth.bits5 (fun HT_ HW_ => ?_)
        generalize wr.drew = w13 at BK205 HB HR207_1 hx207_0 hx207_1 hx207_2 hx207_3 hx207_4 hx207_5 hx207_6 hx208_0 hHeld ⊢
        refine pure_ (i := 0) (N := some 24) (v := ?_) (a' := ?_) #[true, false, false, false, false, false, false, false, false, false, false, false, false, false, false, false] rfl rfl (any_of HT_.out (by kernel_rfl)) (fun _ _ _ h => h) (Or.inl ⟨by rfl, ?_⟩) ?_ ?_
        rotate_left
        ·
         intro w'
         go_simp
         with_reducible rfl
        rotate_left
        ·
         simp only [Act.put, List.setIfInBounds_toArray, List.set_cons_zero, List.set_cons_succ, i64_w, i32_w]
         rfl
        refine pure_ (i := 2) (N := some 26) (v := ?_) (a' := ?_) #[true, false, true, false, false, false, false, false, false, false, false, false, false, false, false, false] rfl rfl (any_of HT_.out (by kernel_rfl)) (fun _ _ _ h => h) (Or.inl ⟨by rfl, ?_⟩) ?_ ?_
        rotate_left
        ·
         intro w'
         go_simp
         with_reducible rfl
        rotate_left
        ·
         simp only [Act.put, List.setIfInBounds_toArray, List.set_cons_zero, List.set_cons_succ, i64_w, i32_w]
         rfl
        refine pure_ (i := 4) (N := some 28) (v := ?_) (a' := ?_) #[true, false, true, false, true, false, false, false, false, false, false, false, false, false, false, false] rfl rfl (any_of HT_.out (by kernel_rfl)) (fun _ _ _ h => h) (Or.inl ⟨by rfl, ?_⟩) ?_ ?_
        rotate_left
        ·
         intro w'
         go_simp
         with_reducible rfl
        rotate_left
        ·
         simp only [Act.put, List.setIfInBounds_toArray, List.set_cons_zero, List.set_cons_succ, i64_w, i32_w]
         rfl
        refine pure_ (i := 8) (N := some 32) (v := ?_) (a' := ?_) #[true, false, true, false, true, false, false, false, true, false, false, false, false, false, false, false] rfl rfl (any_of HT_.out (by kernel_rfl)) (fun _ _ _ h => h) (Or.inl ⟨by rfl, ?_⟩) ?_ ?_
        rotate_left
        ·
         intro w'
         go_simp
         with_reducible rfl
        rotate_left
        ·
         simp only [Act.put, List.setIfInBounds_toArray, List.set_cons_zero, List.set_cons_succ, i64_w, i32_w]
         rfl
        refine pure_ (i := 11) (N := some 35) (v := ?_) (a' := ?_) #[true, false, true, false, true, false, false, false, true, false, false, true, false, false, false, false] rfl rfl (any_of HT_.out (by kernel_rfl)) (fun _ _ _ h => h) (Or.inl ⟨by rfl, ?_⟩) ?_ ?_
        rotate_left
        ·
         intro w'
         go_simp
         with_reducible rfl
        rotate_left
        ·
         simp only [Act.put, List.setIfInBounds_toArray, List.set_cons_zero, List.set_cons_succ, i64_w, i32_w]
         rfl
        refine pure_ (i := 12) (N := some 36) (v := ?_) (a' := ?_) #[true, false, true, false, true, false, false, false, true, false, false, true, true, false, false, false] rfl rfl (any_of HT_.out (by kernel_rfl)) (fun _ _ _ h => h) (Or.inl ⟨by rfl, ?_⟩) ?_ ?_
        rotate_left
        ·
         intro w'
         go_simp
         with_reducible rfl
        rotate_left
        ·
         simp only [Act.put, List.setIfInBounds_toArray, List.set_cons_zero, List.set_cons_succ, i64_w, i32_w]
         rfl
        refine take_ (i := 1) (N := some 25) (v := ?_) (a' := ?_) #[true, true, true, false, true, false, false, false, true, false, false, true, true, false, false, false] rfl rfl (take_ofW HT_.out HW_.out (by kernel_rfl)) (fun _ _ _ h => h) (Or.inl ⟨by rfl, ?_⟩) hHeld ?_ ?_
        rotate_left
        ·
         rintro w' ⟨s0, s1, s2, s3, s4, s5, s6, s7, s8, s9⟩
         go_simp
         with_reducible rfl
        rotate_left
        ·
         simp only [Act.put, List.setIfInBounds_toArray, List.set_cons_zero, List.set_cons_succ, i64_w, i32_w]
         rfl
        refine take_ (i := 3) (N := some 27) (v := ?_) (a' := ?_) #[true, true, true, true, true, false, false, false, true, false, false, true, true, false, false, false] rfl rfl (take_ofW HT_.out HW_.out (by kernel_rfl)) (fun _ _ _ h => h) (Or.inl ⟨by rfl, ?_⟩) hHeld ?_ ?_
        rotate_left
        ·
         rintro w' ⟨s0, s1, s2, s3, s4, s5, s6, s7, s8, s9⟩
         go_simp
         with_reducible rfl
        rotate_left
        ·
         simp only [Act.put, List.setIfInBounds_toArray, List.set_cons_zero, List.set_cons_succ, i64_w, i32_w]
         rfl
        refine pure_ (i := 5) (N := some 29) (v := ?_) (a' := ?_) #[true, true, true, true, true, true, false, false, true, false, false, true, true, false, false, false] rfl rfl (any_of HT_.out (by kernel_rfl)) (fun _ _ _ h => h) (Or.inl ⟨by rfl, ?_⟩) ?_ ?_
        rotate_left
        ·
         intro w'
         go_simp
         with_reducible rfl
        rotate_left
        ·
         simp only [Act.put, List.setIfInBounds_toArray, List.set_cons_zero, List.set_cons_succ, i64_w, i32_w]
         rfl
        refine pure_ (i := 6) (N := some 30) (v := ?_) (a' := ?_) #[true, true, true, true, true, true, true, false, true, false, false, true, true, false, false, false] rfl rfl (any_of HT_.out (by kernel_rfl)) (fun _ _ _ h => h) (Or.inl ⟨by rfl, ?_⟩) ?_ ?_
        rotate_left
        ·
         intro w'
         go_simp
         with_reducible rfl
        rotate_left
        ·
         simp only [Act.put, List.setIfInBounds_toArray, List.set_cons_zero, List.set_cons_succ, i64_w, i32_w]
         rfl
        refine take_ (i := 7) (N := some 31) (v := ?_) (a' := ?_) #[true, true, true, true, true, true, true, true, true, false, false, true, true, false, false, false] rfl rfl (take_ofW HT_.out HW_.out (by kernel_rfl)) (fun _ _ _ h => h) (Or.inl ⟨by rfl, ?_⟩) hHeld ?_ ?_
        rotate_left
        ·
         rintro w' ⟨s0, s1, s2, s3, s4, s5, s6, s7, s8, s9⟩
         go_simp
         with_reducible rfl
        rotate_left
        ·
         simp only [Act.put, List.setIfInBounds_toArray, List.set_cons_zero, List.set_cons_succ, i64_w, i32_w]
         rfl
        refine pure_ (i := 9) (N := some 33) (v := ?_) (a' := ?_) #[true, true, true, true, true, true, true, true, true, true, false, true, true, false, false, false] rfl rfl (any_of HT_.out (by kernel_rfl)) (fun _ _ _ h => h) (Or.inl ⟨by rfl, ?_⟩) ?_ ?_
        rotate_left
        ·
         intro w'
         go_simp
         with_reducible rfl
        rotate_left
        ·
         simp only [Act.put, List.setIfInBounds_toArray, List.set_cons_zero, List.set_cons_succ, i64_w, i32_w]
         rfl
        refine take_ (i := 10) (N := some 34) (v := ?_) (a' := ?_) #[true, true, true, true, true, true, true, true, true, true, true, true, true, false, false, false] rfl rfl (take_ofW HT_.out HW_.out (by kernel_rfl)) (fun _ _ _ h => h) (Or.inl ⟨by rfl, ?_⟩) hHeld ?_ ?_
        rotate_left
        ·
         rintro w' ⟨s0, s1, s2, s3, s4, s5, s6, s7, s8, s9⟩
         go_simp
         with_reducible rfl
        rotate_left
        ·
         simp only [Act.put, List.setIfInBounds_toArray, List.set_cons_zero, List.set_cons_succ, i64_w, i32_w]
         rfl
        refine one_ (i := 13) (N := some 37) #[true, true, true, true, true, true, true, true, true, true, true, true, true, true, false, false] rfl rfl (one_of HT_.out (by kernel_rfl)) (by decide) (fun K hK => ?_)
        refine goes_ Try.func39 (by kernel_rfl) rfl #[.agg #[.slice A0_0 l0_0.length c0_0, .slice (some ad206) l0_1.length c0_1], .int .i64 (rd ((rd_T56 l0_1 a1).f1) x8_1), .int .i64 (wrap64 (a2 - 1))] (by rfl) rfl rfl (by (try simp only [List.map_toArray, List.map_cons, List.map_nil]); first | done | rfl | (simp only [List.length_drop, List.length_take]; rfl)) ?_
        with_reducible refine (ih k1 (by have := HK1.out; omega) _ _ l0_0 _ _ l0_1 (rd ((rd_T56 l0_1 a1).f1) x8_1) (wrap64 (a2 - 1)) t209 _ ?side1 ?side2 ?side3 ?side4 A10.out).mono ?_
        (case side1 => repeat (first | exact (Kd.C_below HR0_0.out HB.out) | (with_reducible refine Kd.C_alloc ?_ _) | (with_reducible refine Kd.C_drewN ?_ _) | (with_reducible refine Kd.C_drew ?_)))
        (case side2 => exact HC0_0.out)
        (case side3 => repeat (first | exact (Kd.C_below HR0_1.out HB.out) | (with_reducible refine Kd.C_alloc ?_ _) | (with_reducible refine Kd.C_drewN ?_ _) | (with_reducible refine Kd.C_drew ?_)))
        (case side4 => exact HC0_1.out)
        rintro e w14 ⟨rfl, hb⟩
        refine ⟨_, rfl, ?_⟩
        have n0_ := Aside0.mk (blk_below (g := gb205) (o := .cells #[.slice A0_0 l0_0.length c0_0, .slice (some ad206) l0_1.length c0_1] 25 (0, 0)) (by (with_reducible repeat (first | refine blk_drewN ?_ _ | refine blk_drew ?_ | refine blk_alloc ?_ _)); exact BK205.out) hb)
        have n1_ := Aside0.mk (below_step (by repeat (first | (with_reducible first | exact HB.out | apply below_alloc | apply pw_below_drewN | apply below_drew1 | refine below_set ?_ GE205.out) | exact HB.out)) hb)
        clear BK205
        clear HB
        have BK205 := n0_
        have HB := n1_
        clear n0_ n1_
        (try clear hb)
        (try clear hb2)
        (try clear hk)
        (try clear hi)
        refine hK.out _ _ ⟨(blk_cell BK205.out 0).trans rfl, (blk_cell BK205.out 1).trans rfl, ((HB.out.cell (World.block_lt_of_cell? w _ hw207_0)).trans hw207_0), ((HB.out.cell (World.block_lt_of_cell? w _ hw207_1)).trans hw207_1), ((HB.out.cell (World.block_lt_of_cell? w _ hw207_2)).trans hw207_2), ((HB.out.cell (World.block_lt_of_cell? w _ hw207_3)).trans hw207_3), ((HB.out.cell (World.block_lt_of_cell? w _ hw207_4)).trans hw207_4), ((HB.out.cell (World.block_lt_of_cell? w _ hw207_5)).trans hw207_5), ((HB.out.cell (World.block_lt_of_cell? w _ hw207_6)).trans hw207_6), ((HB.out.cell (World.block_lt_of_cell? w _ hw208_0)).trans hw208_0)⟩ (fun hHeld => ?_)
        clear hK K
        refine norm_ (a' := ?_) ?_ ?_
        rotate_left
        ·
         show Act.put _ (some 37) _ = _
         simp only [Act.put, List.setIfInBounds_toArray, List.set_cons_zero, List.set_cons_succ, i64_w, i32_w]
         rfl
        refine pure_ (i := 14) (N := some 38) (v := ?_) (a' := ?_) #[true, true, true, true, true, true, true, true, true, true, true, true, true, true, true, false] rfl rfl (any_of HT_.out (by kernel_rfl)) (fun _ _ _ h => h) (Or.inl ⟨by rfl, ?_⟩) ?_ ?_
        rotate_left
        ·
         intro w'
         go_simp
         with_reducible rfl
        rotate_left
        ·
         simp only [Act.put, List.setIfInBounds_toArray, List.set_cons_zero, List.set_cons_succ, i64_w, i32_w]
         rfl
        refine pure_ (i := 15) (N := some 7) (v := ?_) (a' := ?_) #[true, true, true, true, true, true, true, true, true, true, true, true, true, true, true, true] rfl rfl (any_of HT_.out (by kernel_rfl)) (fun _ _ _ h => h) (Or.inl ⟨by rfl, ?_⟩) ?_ ?_
        rotate_left
        ·
         intro w'
         go_simp
         with_reducible rfl
        rotate_left
        ·
         simp only [Act.put, List.setIfInBounds_toArray, List.set_cons_zero, List.set_cons_succ, i64_w, i32_w]
         rfl
        refine done_ (done_of HT_.out (by kernel_rfl)) ?_
        try go_wp2
        go_roundg k1
        case measure => have := HK1.out; omega
        case rel => exact ⟨(ji11), (wrap64 (x8_1 + 1)), (by first | rfl | (simp; done) | (simp only [← hji11] <;> (first | rfl | simp)) | (simp [*]; done)), (by first | rfl | (simp; done) | (simp [*]; done)), H', ⟨by have := HK1.out; omega⟩, ⟨by (with_reducible repeat (first | refine blk_drewN ?_ _ | refine blk_drew ?_ | refine blk_alloc ?_ _)); exact BK205.out⟩, ⟨by repeat (first | (with_reducible first | exact HB.out | apply below_alloc | apply pw_below_drewN | apply below_drew1 | refine below_set ?_ GE205.out) | exact HB.out)⟩⟩
       ·
        rw [if_neg c9] at H
        exact absurd H (by simp)
      ·
       rw [if_neg c8] at H
       have c8b0 : decide (0 < a2) = false := decide_eq_false c8
       clear c8
       obtain rfl := Option.some.inj H
       have hcz15_0 : wr.cell? ⟨gb205, 0, none⟩ = some (.slice A0_0 l0_0.length c0_0) := (blk_cell BK205.out 0).trans rfl
       have hcz15_1 : wr.cell? ⟨gb205, 1, none⟩ = some (.slice A0_1 l0_1.length c0_1) := (blk_cell BK205.out 1).trans rfl
       have hfz15_0 := blk_frozen BK205.out 0
       have hfz15_1 := blk_frozen BK205.out 1
       have p206 : 0 ≤ (a1 : Int) := of_decide_eq_true (by first | (with_reducible assumption) | assumption)
       have q206 : a1 < (l0_1.length : Int) := of_decide_eq_true (by first | (with_reducible assumption) | assumption)
       obtain ⟨ad206, A206_1, c206_1, e206, hx206_0, hx206_1, hx206_2, hx206_3, hx206_4, hx206_5, hx206_6, hl206_1, hi206_1⟩ := at_T56 HR0_1.out a1 p206 q206
       cases e206
       replace hx206_0 := (HB.out.cell (World.block_lt_of_cell? w _ hx206_0)).trans hx206_0
       replace hx206_1 := (HB.out.cell (World.block_lt_of_cell? w _ hx206_1)).trans hx206_1
       replace hx206_2 := (HB.out.cell (World.block_lt_of_cell? w _ hx206_2)).trans hx206_2
       replace hx206_3 := (HB.out.cell (World.block_lt_of_cell? w _ hx206_3)).trans hx206_3
       replace hx206_4 := (HB.out.cell (World.block_lt_of_cell? w _ hx206_4)).trans hx206_4
       replace hx206_5 := (HB.out.cell (World.block_lt_of_cell? w _ hx206_5)).trans hx206_5
       replace hx206_6 := (HB.out.cell (World.block_lt_of_cell? w _ hx206_6)).trans hx206_6
       have HR206_1 := Aside0.mk hi206_1
       have HC206_1 := Aside0.mk hl206_1
       clear hi206_1 hl206_1
       replace p206 := eq_true p206
       replace q206 := eq_true q206
       go_wp2
       go_ret
       exact ⟨by first | rfl | (simp [errW_none, errW_some] <;> rfl) | (simp [*, errW_none, errW_some] <;> rfl), by repeat (first | (with_reducible first | exact HB.out | apply below_alloc | apply pw_below_drewN | apply below_drew1 | refine below_set ?_ GE205.out) | exact HB.out)⟩
     ·
      rw [if_neg c7] at H
      have c7b0 : decide (x8_1 < (((rd_T56 l0_1 a1).f1).length : Int)) = false := decide_eq_false c7
      clear c7
      obtain rfl := Option.some.inj H
      have hcz16_0 : wr.cell? ⟨gb205, 0, none⟩ = some (.slice A0_0 l0_0.length c0_0) := (blk_cell BK205.out 0).trans rfl
      have hcz16_1 : wr.cell? ⟨gb205, 1, none⟩ = some (.slice A0_1 l0_1.length c0_1) := (blk_cell BK205.out 1).trans rfl
      have hfz16_0 := blk_frozen BK205.out 0
      have hfz16_1 := blk_frozen BK205.out 1
      have p206 : 0 ≤ (a1 : Int) := of_decide_eq_true (by first | (with_reducible assumption) | assumption)
      have q206 : a1 < (l0_1.length : Int) := of_decide_eq_true (by first | (with_reducible assumption) | assumption)
      obtain ⟨ad206, A206_1, c206_1, e206, hx206_0, hx206_1, hx206_2, hx206_3, hx206_4, hx206_5, hx206_6, hl206_1, hi206_1⟩ := at_T56 HR0_1.out a1 p206 q206
      cases e206
      replace hx206_0 := (HB.out.cell (World.block_lt_of_cell? w _ hx206_0)).trans hx206_0
      replace hx206_1 := (HB.out.cell (World.block_lt_of_cell? w _ hx206_1)).trans hx206_1
      replace hx206_2 := (HB.out.cell (World.block_lt_of_cell? w _ hx206_2)).trans hx206_2
      replace hx206_3 := (HB.out.cell (World.block_lt_of_cell? w _ hx206_3)).trans hx206_3
      replace hx206_4 := (HB.out.cell (World.block_lt_of_cell? w _ hx206_4)).trans hx206_4
      replace hx206_5 := (HB.out.cell (World.block_lt_of_cell? w _ hx206_5)).trans hx206_5
      replace hx206_6 := (HB.out.cell (World.block_lt_of_cell? w _ hx206_6)).trans hx206_6
      have HR206_1 := Aside0.mk hi206_1
      have HC206_1 := Aside0.mk hl206_1
      clear hi206_1 hl206_1
      replace p206 := eq_true p206
      replace q206 := eq_true q206
      go_wp2
      go_ret
      exact ⟨by first | rfl | (simp [errW_none, errW_some] <;> rfl) | (simp [*, errW_none, errW_some] <;> rfl), by repeat (first | (with_reducible first | exact HB.out | apply below_alloc | apply pw_below_drewN | apply below_drew1 | refine below_set ?_ GE205.out) | exact HB.out)⟩
    ·
     rw [if_neg c6] at H
     exact absurd H (by simp)
   ·
    rw [if_neg c5] at H
    exact absurd H (by simp)
end Go.Proofs.Ythgedejnpgcacaa.V
namespace Go.Proofs.Ythgedejnpgcacaa.V
open Go.RowKit Go.Proofs.YthgedejnpgcacaaW.PrintWords Go.Proofs.YthgedejnpgcacaaW.PrintLast Go.Proofs.YthgedejnpgcacaaW.PrintMore
attribute [local go_sem] max2_int min2_int max_two min_two max_three min_three max_four min_four tdiv_most
set_option linter.unusedVariables false
set_option linter.unusedSimpArgs false
mutual
def vetchref05_Check.j0 : Nat → Bool → List (S51) → List (S56) → Option (ByteArray × Int × Int)
 | 0, _, _, _ => none
 | k + 1, x18, x211000, x211001 => if x18 = true then (some ((⟨#[]⟩ : ByteArray), 4, 0)) else (if (x211000.length : Int) = 0 then (some ((⟨#[114, 117, 108, 101, 115]⟩ : ByteArray), 10, 0)) else (vetchref05_Check.l0 k 0 x211000 x211001))
def vetchref05_Check.l0 : Nat → Int → List (S51) → List (S56) → Option (ByteArray × Int × Int)
 | 0, _, _, _ => none
 | k + 1, x5, x211000, x211001 => if x5 < (x211000.length : Int) then (if 0 ≤ x5 then ((vetchref04_Name.f k ((rd_T51 x211000 x5).f0)).bind fun t212 => (if t212 = true then (vetchref05_Check.l1 k x5 0 x211000 x211001) else (some ((⟨#[114, 117, 108, 101, 115]⟩ : ByteArray), 10, x5)))) else (none)) else (vetchref05_Check.l2 k 0 x211000 x211001)
def vetchref05_Check.l1 : Nat → Int → Int → List (S51) → List (S56) → Option (ByteArray × Int × Int)
 | 0, _, _, _, _ => none
 | k + 1, x5, x6, x211000, x211001 => if x6 < x5 then (if 0 ≤ x6 then (if x6 < (x211000.length : Int) then (if 0 ≤ x5 then (if x5 < (x211000.length : Int) then (if ((rd_T51 x211000 x6).f0).toList = ((rd_T51 x211000 x5).f0).toList then (some ((⟨#[114, 117, 108, 101, 115]⟩ : ByteArray), 10, x5)) else (vetchref05_Check.l1 k x5 (wrap64 (x6 + 1)) x211000 x211001)) else (none)) else (none)) else (none)) else (none)) else (vetchref05_Check.l0 k (wrap64 (x5 + 1)) x211000 x211001)
def vetchref05_Check.l2 : Nat → Int → List (S51) → List (S56) → Option (ByteArray × Int × Int)
 | 0, _, _, _ => none
 | k + 1, x7, x211000, x211001 => if x7 < (x211001.length : Int) then (if 0 ≤ x7 then ((vetchref05_Made.f k ((rd_T56 x211001 x7).f0) ((rd_T56 x211001 x7).f1) ((rd_T56 x211001 x7).f2) ((rd_T56 x211001 x7).f3.f0) ((rd_T56 x211001 x7).f3.f1) ((rd_T56 x211001 x7).f3.f2) ((rd_T56 x211001 x7).f3.f3) (x211000.length : Int)).bind fun t216 => (if t216 = true then (vetchref05_Check.l2 k (wrap64 (x7 + 1)) x211000 x211001) else (some ((⟨#[110, 111, 100, 101, 115]⟩ : ByteArray), 10, x7)))) else (none)) else ((vetchref05_Ordered.f k x211000 x211001).bind fun t217 => (if t217 = true then (vetchref05_Check.l3 k 0 x211000 x211001) else (some ((⟨#[]⟩ : ByteArray), 10, 0))))
def vetchref05_Check.l3 : Nat → Int → List (S51) → List (S56) → Option (ByteArray × Int × Int)
 | 0, _, _, _ => none
 | k + 1, x8, x211000, x211001 => if x8 < (x211001.length : Int) then ((vetchref05_Depth.f k x211000 x211001 x8 205).bind fun t218 => (if t218 > 200 then (some ((⟨#[110, 111, 100, 101, 115]⟩ : ByteArray), 5, x8)) else (vetchref05_Check.l3 k (wrap64 (x8 + 1)) x211000 x211001))) else (some ((⟨#[]⟩ : ByteArray), 0, 0))
end
def vetchref05_Check.f (k : Nat) (l0_0 : List (S51)) (l0_1 : List (S56)) : Option (ByteArray × Int × Int) := if (l0_0.length : Int) > 1000 then (vetchref05_Check.j0 k true l0_0 l0_1) else (vetchref05_Check.j0 k (decide ((l0_1.length : Int) > 10000)) l0_0 l0_1)
theorem vetchref05_Check.mono_l : ∀ k, (∀ y0 y1 y2, LeO (vetchref05_Check.j0 k y0 y1 y2) (vetchref05_Check.j0 (k + 1) y0 y1 y2)) ∧ (∀ y0 y1 y2, LeO (vetchref05_Check.l0 k y0 y1 y2) (vetchref05_Check.l0 (k + 1) y0 y1 y2)) ∧ (∀ y0 y1 y2 y3, LeO (vetchref05_Check.l1 k y0 y1 y2 y3) (vetchref05_Check.l1 (k + 1) y0 y1 y2 y3)) ∧ (∀ y0 y1 y2, LeO (vetchref05_Check.l2 k y0 y1 y2) (vetchref05_Check.l2 (k + 1) y0 y1 y2)) ∧ (∀ y0 y1 y2, LeO (vetchref05_Check.l3 k y0 y1 y2) (vetchref05_Check.l3 (k + 1) y0 y1 y2))
 | 0 => ⟨fun _ _ _ r h => by simp [vetchref05_Check.j0] at h, fun _ _ _ r h => by simp [vetchref05_Check.l0] at h, fun _ _ _ _ r h => by simp [vetchref05_Check.l1] at h, fun _ _ _ r h => by simp [vetchref05_Check.l2] at h, fun _ _ _ r h => by simp [vetchref05_Check.l3] at h⟩
 | k + 1 => by
  obtain ⟨ih0, ih1, ih2, ih3, ih4⟩ := vetchref05_Check.mono_l k
  refine ⟨?_, ?_, ?_, ?_, ?_⟩
  ·
   intro y0 y1 y2
   unfold vetchref05_Check.j0
   repeat' first
   | (with_reducible exact ih0 _ _ _)
   | (with_reducible exact ih1 _ _ _)
   | (with_reducible exact ih2 _ _ _ _)
   | (with_reducible exact ih3 _ _ _)
   | (with_reducible exact ih4 _ _ _)
   | (with_reducible exact vetchref04_Name.mono _ _)
   | (with_reducible exact vetchref05_Depth.mono _ _ _ _ _)
   | (with_reducible exact vetchref05_Made.mono _ _ _ _ _ _ _ _ _)
   | (with_reducible exact vetchref05_Ordered.mono _ _ _)
   | (with_reducible exact LeO.refl _)
   | (with_reducible exact LeO.none _)
   | (with_reducible refine LeO.ite ?_ ?_)
   | (with_reducible refine LeO.bind ?_ (fun _ => ?_))
   | exact ih0 _ _ _
   | exact ih1 _ _ _
   | exact ih2 _ _ _ _
   | exact ih3 _ _ _
   | exact ih4 _ _ _
   | exact vetchref04_Name.mono _ _
   | exact vetchref05_Depth.mono _ _ _ _ _
   | exact vetchref05_Made.mono _ _ _ _ _ _ _ _ _
   | exact vetchref05_Ordered.mono _ _ _
   | exact LeO.none _
   | refine LeO.ite ?_ ?_
   | refine LeO.bind ?_ (fun _ => ?_)
  ·
   intro y0 y1 y2
   unfold vetchref05_Check.l0
   repeat' first
   | (with_reducible exact ih0 _ _ _)
   | (with_reducible exact ih1 _ _ _)
   | (with_reducible exact ih2 _ _ _ _)
   | (with_reducible exact ih3 _ _ _)
   | (with_reducible exact ih4 _ _ _)
   | (with_reducible exact vetchref04_Name.mono _ _)
   | (with_reducible exact vetchref05_Depth.mono _ _ _ _ _)
   | (with_reducible exact vetchref05_Made.mono _ _ _ _ _ _ _ _ _)
   | (with_reducible exact vetchref05_Ordered.mono _ _ _)
   | (with_reducible exact LeO.refl _)
   | (with_reducible exact LeO.none _)
   | (with_reducible refine LeO.ite ?_ ?_)
   | (with_reducible refine LeO.bind ?_ (fun _ => ?_))
   | exact ih0 _ _ _
   | exact ih1 _ _ _
   | exact ih2 _ _ _ _
   | exact ih3 _ _ _
   | exact ih4 _ _ _
   | exact vetchref04_Name.mono _ _
   | exact vetchref05_Depth.mono _ _ _ _ _
   | exact vetchref05_Made.mono _ _ _ _ _ _ _ _ _
   | exact vetchref05_Ordered.mono _ _ _
   | exact LeO.none _
   | refine LeO.ite ?_ ?_
   | refine LeO.bind ?_ (fun _ => ?_)
  ·
   intro y0 y1 y2 y3
   unfold vetchref05_Check.l1
   repeat' first
   | (with_reducible exact ih0 _ _ _)
   | (with_reducible exact ih1 _ _ _)
   | (with_reducible exact ih2 _ _ _ _)
   | (with_reducible exact ih3 _ _ _)
   | (with_reducible exact ih4 _ _ _)
   | (with_reducible exact vetchref04_Name.mono _ _)
   | (with_reducible exact vetchref05_Depth.mono _ _ _ _ _)
   | (with_reducible exact vetchref05_Made.mono _ _ _ _ _ _ _ _ _)
   | (with_reducible exact vetchref05_Ordered.mono _ _ _)
   | (with_reducible exact LeO.refl _)
   | (with_reducible exact LeO.none _)
   | (with_reducible refine LeO.ite ?_ ?_)
   | (with_reducible refine LeO.bind ?_ (fun _ => ?_))
   | exact ih0 _ _ _
   | exact ih1 _ _ _
   | exact ih2 _ _ _ _
   | exact ih3 _ _ _
   | exact ih4 _ _ _
   | exact vetchref04_Name.mono _ _
   | exact vetchref05_Depth.mono _ _ _ _ _
   | exact vetchref05_Made.mono _ _ _ _ _ _ _ _ _
   | exact vetchref05_Ordered.mono _ _ _
   | exact LeO.none _
   | refine LeO.ite ?_ ?_
   | refine LeO.bind ?_ (fun _ => ?_)
  ·
   intro y0 y1 y2
   unfold vetchref05_Check.l2
   repeat' first
   | (with_reducible exact ih0 _ _ _)
   | (with_reducible exact ih1 _ _ _)
   | (with_reducible exact ih2 _ _ _ _)
   | (with_reducible exact ih3 _ _ _)
   | (with_reducible exact ih4 _ _ _)
   | (with_reducible exact vetchref04_Name.mono _ _)
   | (with_reducible exact vetchref05_Depth.mono _ _ _ _ _)
   | (with_reducible exact vetchref05_Made.mono _ _ _ _ _ _ _ _ _)
   | (with_reducible exact vetchref05_Ordered.mono _ _ _)
   | (with_reducible exact LeO.refl _)
   | (with_reducible exact LeO.none _)
   | (with_reducible refine LeO.ite ?_ ?_)
   | (with_reducible refine LeO.bind ?_ (fun _ => ?_))
   | exact ih0 _ _ _
   | exact ih1 _ _ _
   | exact ih2 _ _ _ _
   | exact ih3 _ _ _
   | exact ih4 _ _ _
   | exact vetchref04_Name.mono _ _
   | exact vetchref05_Depth.mono _ _ _ _ _
   | exact vetchref05_Made.mono _ _ _ _ _ _ _ _ _
   | exact vetchref05_Ordered.mono _ _ _
   | exact LeO.none _
   | refine LeO.ite ?_ ?_
   | refine LeO.bind ?_ (fun _ => ?_)
  ·
   intro y0 y1 y2
   unfold vetchref05_Check.l3
   repeat' first
   | (with_reducible exact ih0 _ _ _)
   | (with_reducible exact ih1 _ _ _)
   | (with_reducible exact ih2 _ _ _ _)
   | (with_reducible exact ih3 _ _ _)
   | (with_reducible exact ih4 _ _ _)
   | (with_reducible exact vetchref04_Name.mono _ _)
   | (with_reducible exact vetchref05_Depth.mono _ _ _ _ _)
   | (with_reducible exact vetchref05_Made.mono _ _ _ _ _ _ _ _ _)
   | (with_reducible exact vetchref05_Ordered.mono _ _ _)
   | (with_reducible exact LeO.refl _)
   | (with_reducible exact LeO.none _)
   | (with_reducible refine LeO.ite ?_ ?_)
   | (with_reducible refine LeO.bind ?_ (fun _ => ?_))
   | exact ih0 _ _ _
   | exact ih1 _ _ _
   | exact ih2 _ _ _ _
   | exact ih3 _ _ _
   | exact ih4 _ _ _
   | exact vetchref04_Name.mono _ _
   | exact vetchref05_Depth.mono _ _ _ _ _
   | exact vetchref05_Made.mono _ _ _ _ _ _ _ _ _
   | exact vetchref05_Ordered.mono _ _ _
   | exact LeO.none _
   | refine LeO.ite ?_ ?_
   | refine LeO.bind ?_ (fun _ => ?_)
theorem vetchref05_Check.mono : ∀ a0 a1 k, LeO (vetchref05_Check.f k a0 a1) (vetchref05_Check.f (k + 1) a0 a1) := by
 intro a0 a1 k
 obtain ⟨ih0, ih1, ih2, ih3, ih4⟩ := vetchref05_Check.mono_l k
 unfold vetchref05_Check.f
 repeat' first
  | (with_reducible exact ih0 _ _ _)
  | (with_reducible exact ih1 _ _ _)
  | (with_reducible exact ih2 _ _ _ _)
  | (with_reducible exact ih3 _ _ _)
  | (with_reducible exact ih4 _ _ _)
  | (with_reducible exact vetchref04_Name.mono _ _)
  | (with_reducible exact vetchref05_Depth.mono _ _ _ _ _)
  | (with_reducible exact vetchref05_Made.mono _ _ _ _ _ _ _ _ _)
  | (with_reducible exact vetchref05_Ordered.mono _ _ _)
  | (with_reducible exact LeO.refl _)
  | (with_reducible exact LeO.none _)
  | (with_reducible refine LeO.ite ?_ ?_)
  | (with_reducible refine LeO.bind ?_ (fun _ => ?_))
  | exact ih0 _ _ _
  | exact ih1 _ _ _
  | exact ih2 _ _ _ _
  | exact ih3 _ _ _
  | exact ih4 _ _ _
  | exact vetchref04_Name.mono _ _
  | exact vetchref05_Depth.mono _ _ _ _ _
  | exact vetchref05_Made.mono _ _ _ _ _ _ _ _ _
  | exact vetchref05_Ordered.mono _ _ _
  | exact LeO.none _
  | refine LeO.ite ?_ ?_
  | refine LeO.bind ?_ (fun _ => ?_)
def vetchref05_Check.T13 : Bool × List (List Nat × List Nat) := (true, [([], []), ([0], [0]), ([], []), ([1, 2], [1, 2]), ([3], [3]), ([4], [4]), ([], []), ([6], [6]), ([], []), ([7, 8], [7, 8]), ([9], [9]), ([10], [10]), ([5, 11], [5, 11])])
def vetchref05_Check.B13 : List Nat := [0, 1, 0, 7, 15, 31, 0, 64, 0, 448, 960, 1984, 4095]
theorem vetchref05_Check.tab13 : rtab .any (opsOf Try.f32 13) = vetchref05_Check.T13 := by kernel_rfl
theorem vetchref05_Check.bits13 : waitsOk vetchref05_Check.T13.2 vetchref05_Check.B13 = true := by kernel_rfl
def vetchref05_Check.T18 : Bool × List (List Nat × List Nat) := (true, [([], []), ([0], [0]), ([], []), ([1, 2], [1, 2]), ([3], [3]), ([], []), ([5], [5]), ([6], [6]), ([4, 7], [4, 7]), ([8], [8])])
def vetchref05_Check.B18 : List Nat := [0, 1, 0, 7, 15, 0, 32, 96, 255, 511]
theorem vetchref05_Check.tab18 : rtab .any (opsOf Try.f32 18) = vetchref05_Check.T18 := by kernel_rfl
theorem vetchref05_Check.bits18 : waitsOk vetchref05_Check.T18.2 vetchref05_Check.B18 = true := by kernel_rfl
set_option maxHeartbeats 8000000 in
set_option maxRecDepth 100000 in
theorem vetchref05_Check.calls (k : Nat) (A0_0 : Option Addr) (c0_0 : Nat) (l0_0 : List (S51)) (A0_1 : Option Addr) (c0_1 : Nat) (l0_1 : List (S56)) (r1 : ByteArray) (r2 : Int) (r3 : Int) (w : World) (hr0_0 : Kd.C k51 w A0_0 l0_0.length l0_0) (hc0_0 : l0_0.length ≤ c0_0) (hr0_1 : Kd.C k56 w A0_1 l0_1.length l0_1) (hc0_1 : l0_1.length ≤ c0_1) (h : vetchref05_Check.f k l0_0 l0_1 = some (r1, r2, r3)) :
 Calls Try.prog 32 #[.agg #[.slice A0_0 l0_0.length c0_0, .slice A0_1 l0_1.length c0_1]] w fun e w' => e = .returned (.tuple #[.string r1, .int .i64 r2, .int .i64 r3]) ∧ Below w.heap.size w w' := by
 have hu25 := Try.underlying25
 have hu56 := Try.underlying56
 have HR0_0 := Aside0.mk hr0_0
 have HC0_0 := Aside0.mk hc0_0
 clear hr0_0 hc0_0
 have HR0_1 := Aside0.mk hr0_1
 have HC0_1 := Aside0.mk hc0_1
 clear hr0_1 hc0_1
 have HB := Aside0.mk (Below.refl w.heap.size w)
 have H : (if (l0_0.length : Int) > 1000 then (vetchref05_Check.j0 k true l0_0 l0_1) else (vetchref05_Check.j0 k (decide ((l0_1.length : Int) > 10000)) l0_0 l0_1)) = some (r1, r2, r3) := h
 clear h
 have HC2 := Aside0.mk H
 clear H
 go_enter Try.func32, Try.ntmps32
 go_upto_region 1 with (first | ((with_reducible refine gate_dst (N := 1) rfl ?_); (try (refine gate_guard (by rfl) ?_; dsimp only)); refine box_event ?hg (N := 1) ?hd (cs := #[.slice A0_0 l0_0.length c0_0, .slice A0_1 l0_1.length c0_1]) (t := 25) ?hr ?_; (case hd => rfl); (case hg => rfl); (case hr => first | (go_simp; done) | (go_simp; rfl)); intro gb210 hg w3 hbox hb; have n0_ := Aside0.mk (below_step (by repeat (first | (with_reducible first | exact HB.out | apply below_alloc | apply pw_below_drewN | apply below_drew1) | exact HB.out)) hb); have n1_ := Aside0.mk (hbox); have n2_ := Aside0.mk ((by rw [hg]; exact (below_size (by repeat (first | (with_reducible first | exact HB.out | apply below_alloc | apply pw_below_drewN | apply below_drew1) | exact HB.out))) : w.heap.size ≤ gb210)); have n3_ := Aside0.mk ((by rw [hg]; exact (below_size (by repeat (first | (with_reducible first | exact HB.out | apply below_alloc | apply pw_below_drewN | apply below_drew1) | exact HB.out))) : w.heap.size ≤ gb210)); clear HB; have HB := n0_; have BK210 := n1_; have GW210 := n2_; have GE210 := n3_; clear n0_ n1_ n2_ n3_; clear hb hbox hg))
 (try simp only [Act.put, List.setIfInBounds_toArray, List.set_cons_zero, List.set_cons_succ])
 go_cut [18] (fun v18 wc => ∃ (kq : Nat) (x18_1 : Bool), v18 = .bool x18_1 ∧ Aside0 (vetchref05_Check.j0 kq x18_1 l0_0 l0_1 = some (r1, r2, r3)) ∧ Aside0 (kq ≤ k) ∧ Aside0 (wc.heap[gb210]? = some (.cells #[(.slice A0_0 l0_0.length c0_0), (.slice A0_1 l0_1.length c0_1)] 25 (0, 0))) ∧ Aside0 (Below w.heap.size w wc))
 case first =>
  have H := HC2.out
  clear HC2
  by_cases c4 : (l0_0.length : Int) > 1000
  ·
   rw [if_pos c4] at H
   have c4b0 : decide (1000 < (l0_0.length : Int)) = true := decide_eq_true c4
   have c4b1 : decide (1000 < l0_0.length) = true := decide_eq_true (by omega)
   clear c4
   (first | rw [c4b0] | (simp only [i64_w, i32_w]; rw [c4b0]) | skip)
   have H' := Aside0.mk H
   clear H
   have hcz5_0 : w3.cell? ⟨gb210, 0, none⟩ = some (.slice A0_0 l0_0.length c0_0) := (blk_cell BK210.out 0).trans rfl
   have hcz5_1 : w3.cell? ⟨gb210, 1, none⟩ = some (.slice A0_1 l0_1.length c0_1) := (blk_cell BK210.out 1).trans rfl
   have hfz5_0 := blk_frozen BK210.out 0
   have hfz5_1 := blk_frozen BK210.out 1
   go_wp2
   go_meet
   case rel => exact ⟨_, (true), (by first | rfl | (simp; done) | (simp [*]; done)), H', ⟨by first | omega | exact Nat.le_refl _⟩, ⟨by (with_reducible repeat (first | refine blk_drewN ?_ _ | refine blk_drew ?_ | refine blk_alloc ?_ _)); exact BK210.out⟩, ⟨by repeat (first | (with_reducible first | exact HB.out | apply below_alloc | apply pw_below_drewN | apply below_drew1 | refine below_set ?_ GE210.out) | exact HB.out)⟩⟩
  ·
   rw [if_neg c4] at H
   have c4b0 : decide (1000 < (l0_0.length : Int)) = false := decide_eq_false c4
   have c4b1 : decide (1000 < l0_0.length) = false := decide_eq_false (by omega)
   clear c4
   (first | rw [c4b0] | (simp only [i64_w, i32_w]; rw [c4b0]) | skip)
   have H' := Aside0.mk H
   clear H
   have hcz6_0 : w3.cell? ⟨gb210, 0, none⟩ = some (.slice A0_0 l0_0.length c0_0) := (blk_cell BK210.out 0).trans rfl
   have hcz6_1 : w3.cell? ⟨gb210, 1, none⟩ = some (.slice A0_1 l0_1.length c0_1) := (blk_cell BK210.out 1).trans rfl
   have hfz6_0 := blk_frozen BK210.out 0
   have hfz6_1 := blk_frozen BK210.out 1
   go_wp2
   go_meet
   case rel => exact ⟨_, (decide ((l0_1.length : Int) > 10000)), (by first | rfl | (simp; done) | (simp [*]; done)), H', ⟨by first | omega | exact Nat.le_refl _⟩, ⟨by (with_reducible repeat (first | refine blk_drewN ?_ _ | refine blk_drew ?_ | refine blk_alloc ?_ _)); exact BK210.out⟩, ⟨by repeat (first | (with_reducible first | exact HB.out | apply below_alloc | apply pw_below_drewN | apply below_drew1 | refine below_set ?_ GE210.out) | exact HB.out)⟩⟩
 case rest =>
  clear HC2
  try clear p2
  try clear c3
  try clear c4
  try clear c4b0
  try clear c4b1
  try clear hcz5_0
  try clear hcz5_1
  try clear hcz6_0
  try clear hcz6_1
  try clear hfz5_0
  try clear hfz5_1
  try clear hfz6_0
  try clear hfz6_1
  obtain ⟨kq, x18_1, rfl, HA, HJ1, BK210, HB⟩ := hcut
  cases kq with
  | zero => exact absurd HA.out (by simp [vetchref05_Check.j0])
  | succ kj1 =>
   have H := HA.out
   clear HA
   simp only [vetchref05_Check.j0] at H
   by_cases c7 : x18_1 = true
   ·
    subst c7
    have H1 : (some ((⟨#[]⟩ : ByteArray), 4, 0)) = some (r1, r2, r3) := by rw [if_pos rfl] at H; exact H
    clear H
    have H := H1
    clear H1
    simp only [Option.some.injEq, Prod.mk.injEq] at H
    obtain ⟨rfl, rfl, rfl⟩ := H
    go_wp2
    go_ret3
    exact ⟨by first | rfl | (simp [errW_none, errW_some] <;> rfl) | (simp [*, errW_none, errW_some] <;> rfl), by repeat (first | (with_reducible first | exact HB.out | apply below_alloc | apply pw_below_drewN | apply below_drew1 | refine below_set ?_ GE210.out) | exact HB.out)⟩
   ·
    replace c7 := Bool.eq_false_iff.mpr c7
    subst c7
    have H1 : (if (l0_0.length : Int) = 0 then (some ((⟨#[114, 117, 108, 101, 115]⟩ : ByteArray), 10, 0)) else (vetchref05_Check.l0 kj1 0 l0_0 l0_1)) = some (r1, r2, r3) := by rw [if_neg (show ¬ (false = true) by decide)] at H; exact H
    clear H
    have H := H1
    clear H1
    by_cases c8 : (l0_0.length : Int) = 0
    ·
     rw [if_pos c8] at H
     have c8b0 : ((l0_0.length : Int) == 0) = true := beq_iff_eq.mpr c8
     have c8b1 : ((l0_0.length : Int) != 0) = false := bne_eq_false_iff_eq.mpr c8
     clear c8
     simp only [Option.some.injEq, Prod.mk.injEq] at H
     obtain ⟨rfl, rfl, rfl⟩ := H
     have hcz9_0 : wc.cell? ⟨gb210, 0, none⟩ = some (.slice A0_0 l0_0.length c0_0) := (blk_cell BK210.out 0).trans rfl
     have hcz9_1 : wc.cell? ⟨gb210, 1, none⟩ = some (.slice A0_1 l0_1.length c0_1) := (blk_cell BK210.out 1).trans rfl
     have hfz9_0 := blk_frozen BK210.out 0
     have hfz9_1 := blk_frozen BK210.out 1
     go_wp2
     go_ret3
     exact ⟨by first | rfl | (simp [errW_none, errW_some] <;> rfl) | (simp [*, errW_none, errW_some] <;> rfl), by repeat (first | (with_reducible first | exact HB.out | apply below_alloc | apply pw_below_drewN | apply below_drew1 | refine below_set ?_ GE210.out) | exact HB.out)⟩
    ·
     rw [if_neg c8] at H
     have c8b0 : ((l0_0.length : Int) == 0) = false := beq_eq_false_iff_ne.mpr c8
     have c8b1 : ((l0_0.length : Int) != 0) = true := bne_iff_ne.mpr c8
     have c8b2 : ¬ (l0_0 = []) := fun h_ => c8 (by rw [h_]; rfl)
     have H' := Aside0.mk H
     clear H
     have hcz10_0 : wc.cell? ⟨gb210, 0, none⟩ = some (.slice A0_0 l0_0.length c0_0) := (blk_cell BK210.out 0).trans rfl
     have hcz10_1 : wc.cell? ⟨gb210, 1, none⟩ = some (.slice A0_1 l0_1.length c0_1) := (blk_cell BK210.out 1).trans rfl
     have hfz10_0 := blk_frozen BK210.out 0
     have hfz10_1 := blk_frozen BK210.out 1
     go_wp2
     go_loopg [5] kj1 (fun kq v5 w' => ∃ (x5_2 : Int), v5 = .int .i64 x5_2 ∧ Aside0 (vetchref05_Check.l0 kq x5_2 l0_0 l0_1 = some (r1, r2, r3)) ∧ Aside0 (kq ≤ kj1) ∧ Aside0 (w'.heap[gb210]? = some (.cells #[(.slice A0_0 l0_0.length c0_0), (.slice A0_1 l0_1.length c0_1)] 25 (0, 0))) ∧ Aside0 (Below w.heap.size w w'))
     case atStart => exact ⟨(0), (by first | rfl | (simp; done) | (simp [*]; done)), H', ⟨Nat.le_refl _⟩, ⟨by (with_reducible repeat (first | refine blk_drewN ?_ _ | refine blk_drew ?_ | refine blk_alloc ?_ _)); exact BK210.out⟩, ⟨by repeat (first | (with_reducible first | exact HB.out | apply below_alloc | apply pw_below_drewN | apply below_drew1 | refine below_set ?_ GE210.out) | exact HB.out)⟩⟩
     case round =>
      clear H'
      try clear p2
      try clear c3
      try clear c4
      try clear c4b0
      try clear c4b1
      try clear c7
      try clear c8
      try clear c8b0
      try clear c8b1
      try clear c8b2
      try clear hcz10_0
      try clear hcz10_1
      try clear hcz5_0
      try clear hcz5_1
      try clear hcz6_0
      try clear hcz6_1
      try clear hcz9_0
      try clear hcz9_1
      try clear hfz10_0
      try clear hfz10_1
      try clear hfz5_0
      try clear hfz5_1
      try clear hfz6_0
      try clear hfz6_1
      try clear hfz9_0
      try clear hfz9_1
      try clear p2
      obtain ⟨x5_2, rfl, HA, HK2, BK210, HB⟩ := hrel
      cases gk with
      | zero => exact absurd HA.out (by simp [vetchref05_Check.l0])
      | succ k2 =>
       have H := HA.out
       clear HA
       simp only [vetchref05_Check.l0] at H
       by_cases c11 : x5_2 < (l0_0.length : Int)
       ·
        rw [if_pos c11] at H
        have c11b0 : decide (x5_2 < (l0_0.length : Int)) = true := decide_eq_true c11
        clear c11
        by_cases c12 : 0 ≤ x5_2
        ·
         rw [if_pos c12] at H
         have c12b0 : decide (0 ≤ x5_2) = true := decide_eq_true c12
         clear c12
         replace H := Option.bind_eq_some_iff.mp H
         obtain ⟨t212, A130, H⟩ := H
         replace H : (if t212 = true then (vetchref05_Check.l1 k2 x5_2 0 l0_0 l0_1) else (some ((⟨#[114, 117, 108, 101, 115]⟩ : ByteArray), 10, x5_2))) = some (r1, r2, r3) := H
         have A13 := Aside0.mk A130
         clear A130
         by_cases c14 : t212 = true
         ·
          subst c14
          have H1 : (vetchref05_Check.l1 k2 x5_2 0 l0_0 l0_1) = some (r1, r2, r3) := by rw [if_pos rfl] at H; exact H
          clear H
          have H := H1
          clear H1
          have H' := Aside0.mk H
          clear H
          have hcz15_0 : wr.cell? ⟨gb210, 0, none⟩ = some (.slice A0_0 l0_0.length c0_0) := (blk_cell BK210.out 0).trans rfl
          have hcz15_1 : wr.cell? ⟨gb210, 1, none⟩ = some (.slice A0_1 l0_1.length c0_1) := (blk_cell BK210.out 1).trans rfl
          have hfz15_0 := blk_frozen BK210.out 0
          have hfz15_1 := blk_frozen BK210.out 1
          have p211 : 0 ≤ (x5_2 : Int) := of_decide_eq_true (by first | (with_reducible assumption) | assumption)
          have q211 : x5_2 < (l0_0.length : Int) := of_decide_eq_true (by first | (with_reducible assumption) | assumption)
          obtain ⟨ad211, e211, hx211_0, hx211_1⟩ := at_T51 HR0_0.out x5_2 p211 q211
          cases e211
          replace hx211_0 := (HB.out.cell (World.block_lt_of_cell? w _ hx211_0)).trans hx211_0
          replace hx211_1 := (HB.out.cell (World.block_lt_of_cell? w _ hx211_1)).trans hx211_1
          replace p211 := eq_true p211
          replace q211 := eq_true q211
          go_wp2_with (first | ((with_reducible refine gate_callee (f := 36) rfl ?_); refine goesL_ (some 36) rfl rfl Try.func36 (by kernel_rfl) rfl #[.string ((rd_T51 l0_0 x5_2).f0)] rfl (by (try simp only [List.map_toArray, List.map_cons, List.map_nil]); first | done | rfl | (simp only [List.length_drop, List.length_take]; rfl)) ?_; (with_reducible refine (vetchref04_Name.calls k2 ((rd_T51 l0_0 x5_2).f0) true _ A13.out).mono ?_); rintro e w' ⟨rfl, ⟨nd, rfl⟩⟩; refine ⟨_, rfl, ?_⟩))
          go_loopg [6] k2 (fun kq v6 w' => ∃ (x6_3 : Int), v6 = .int .i64 x6_3 ∧ Aside0 (vetchref05_Check.l1 kq x5_2 x6_3 l0_0 l0_1 = some (r1, r2, r3)) ∧ Aside0 (kq ≤ k2) ∧ Aside0 (w'.heap[gb210]? = some (.cells #[(.slice (some ad211) l0_0.length c0_0), (.slice A0_1 l0_1.length c0_1)] 25 (0, 0))) ∧ Aside0 (Below w.heap.size w w'))
          case atStart => exact ⟨(0), (by first | rfl | (simp; done) | (simp [*]; done)), H', ⟨Nat.le_refl _⟩, ⟨by (with_reducible repeat (first | refine blk_drewN ?_ _ | refine blk_drew ?_ | refine blk_alloc ?_ _)); exact BK210.out⟩, ⟨by repeat (first | (with_reducible first | exact HB.out | apply below_alloc | apply pw_below_drewN | apply below_drew1 | refine below_set ?_ GE210.out) | exact HB.out)⟩⟩
          case round =>
           clear H'
           try clear c1
           try clear p2
           try clear q2
           try clear hx2
           try clear c3
           try clear c4
           try clear c4b0
           try clear c4b1
           try clear c7
           try clear c8
           try clear c8b0
           try clear c8b1
           try clear c8b2
           try clear c11
           try clear c11b0
           try clear c12
           try clear c12b0
           try clear c14
           try clear hcz10_0
           try clear hcz10_1
           try clear hcz15_0
           try clear hcz15_1
           try clear hcz5_0
           try clear hcz5_1
           try clear hcz6_0
           try clear hcz6_1
           try clear hcz9_0
           try clear hcz9_1
           try clear hfz10_0
           try clear hfz10_1
           try clear hfz15_0
           try clear hfz15_1
           try clear hfz5_0
           try clear hfz5_1
           try clear hfz6_0
           try clear hfz6_1
           try clear hfz9_0
           try clear hfz9_1
           try clear hx211_0
           try clear hx211_1
           try clear p2
           try clear p211
           try clear q211
           obtain ⟨x6_3, rfl, HA, HK3, BK210, HB⟩ := hrel
           cases gk with
           | zero => exact absurd HA.out (by simp [vetchref05_Check.l1])
           | succ k3 =>
            have H := HA.out
            clear HA
            simp only [vetchref05_Check.l1] at H
            by_cases c16 : x6_3 < x5_2
            ·
             rw [if_pos c16] at H
             have c16b0 : decide (x6_3 < x5_2) = true := decide_eq_true c16
             clear c16
             by_cases c17 : 0 ≤ x6_3
             ·
              rw [if_pos c17] at H
              have c17b0 : decide (0 ≤ x6_3) = true := decide_eq_true c17
              clear c17
              by_cases c18 : x6_3 < (l0_0.length : Int)
              ·
               rw [if_pos c18] at H
               have c18b0 : decide (x6_3 < (l0_0.length : Int)) = true := decide_eq_true c18
               clear c18
               by_cases c19 : 0 ≤ x5_2
               ·
                rw [if_pos c19] at H
                have c19b0 : decide (0 ≤ x5_2) = true := decide_eq_true c19
                clear c19
                by_cases c20 : x5_2 < (l0_0.length : Int)
                ·
                 rw [if_pos c20] at H
                 have c20b0 : decide (x5_2 < (l0_0.length : Int)) = true := decide_eq_true c20
                 clear c20
                 by_cases c21 : ((rd_T51 l0_0 x6_3).f0).toList = ((rd_T51 l0_0 x5_2).f0).toList
                 ·
                  rw [if_pos c21] at H
                  have c21b0 : (((rd_T51 l0_0 x6_3).f0).toList == ((rd_T51 l0_0 x5_2).f0).toList) = true := beq_iff_eq.mpr c21
                  have c21b1 : (((rd_T51 l0_0 x6_3).f0).toList != ((rd_T51 l0_0 x5_2).f0).toList) = false := bne_eq_false_iff_eq.mpr c21
                  clear c21
                  simp only [Option.some.injEq, Prod.mk.injEq] at H
                  obtain ⟨rfl, rfl, rfl⟩ := H
                  try go_wp2
                  have n0_ := Aside0.mk (blk_drew BK210.out)
                  have n1_ := Aside0.mk (below_drew1 HB.out)
                  clear BK210
                  clear HB
                  have BK210 := n0_
                  have HB := n1_
                  clear n0_ n1_
                  have p213 : 0 ≤ (x6_3 : Int) := of_decide_eq_true (by first | (with_reducible assumption) | assumption)
                  have q213 : x6_3 < (l0_0.length : Int) := of_decide_eq_true (by first | (with_reducible assumption) | assumption)
                  obtain ⟨ad213, e213, hx213_0, hx213_1⟩ := at_T51 HR0_0.out x6_3 p213 q213
                  have hw213_1 := hx213_1
                  have hw213_0 := hx213_0
                  obtain rfl : ad211 = ad213 := (by injection e213)
                  replace hx213_0 := (HB.out.cell (World.block_lt_of_cell? w _ hx213_0)).trans hx213_0
                  replace hx213_1 := (HB.out.cell (World.block_lt_of_cell? w _ hx213_1)).trans hx213_1
                  replace p213 := eq_true p213
                  replace q213 := eq_true q213
                  have p214 : 0 ≤ (x5_2 : Int) := of_decide_eq_true (by first | (with_reducible assumption) | assumption)
                  have q214 : x5_2 < (l0_0.length : Int) := of_decide_eq_true (by first | (with_reducible assumption) | assumption)
                  obtain ⟨ad214, e214, hx214_0, hx214_1⟩ := at_T51 HR0_0.out x5_2 p214 q214
                  have hw214_1 := hx214_1
                  have hw214_0 := hx214_0
                  obtain rfl : ad211 = ad214 := (by injection e214)
                  replace hx214_0 := (HB.out.cell (World.block_lt_of_cell? w _ hx214_0)).trans hx214_0
                  replace hx214_1 := (HB.out.cell (World.block_lt_of_cell? w _ hx214_1)).trans hx214_1
                  replace p214 := eq_true p214
                  replace q214 := eq_true q214
                  refine start_ (n := 13) (S := fun w' => w'.cell? ⟨gb210, 0, none⟩ = some (.slice (some ad211) l0_0.length c0_0) ∧ w'.cell? ⟨gb210, 1, none⟩ = some (.slice A0_1 l0_1.length c0_1) ∧ w'.cell? (ad211.add ((x6_3).toNat * 2)) = some (.string ((rd_T51 l0_0 x6_3).f0)) ∧ w'.cell? ⟨(ad211.add ((x6_3).toNat * 2)).block, (ad211.add ((x6_3).toNat * 2)).off + 1, none⟩ = some (.int .i64 ((rd_T51 l0_0 x6_3).f1)) ∧ w'.cell? (ad211.add ((x5_2).toNat * 2)) = some (.string ((rd_T51 l0_0 x5_2).f0)) ∧ w'.cell? ⟨(ad211.add ((x5_2).toNat * 2)).block, (ad211.add ((x5_2).toNat * 2)).off + 1, none⟩ = some (.int .i64 ((rd_T51 l0_0 x5_2).f1))) (ds := []) #[false, false, false, false, false, false, false, false, false, false, false, false, false] (by kernel_rfl) rfl rfl ⟨(blk_cell BK210.out 0).trans rfl, (blk_cell BK210.out 1).trans rfl, ((HB.out.cell (World.block_lt_of_cell? w _ hw213_0)).trans hw213_0), ((HB.out.cell (World.block_lt_of_cell? w _ hw213_1)).trans hw213_1), ((HB.out.cell (World.block_lt_of_cell? w _ hw214_0)).trans hw214_0), ((HB.out.cell (World.block_lt_of_cell? w _ hw214_1)).trans hw214_1)⟩ (fun hHeld => ?_); refine with_tabW vetchref05_Check.tab13 vetchref05_Check.bits13 (fun HT_ HW_ => ?_)
                  generalize wr.drew = w22 at BK210 HB hx213_0 hx213_1 hx214_0 hx214_1 hHeld ⊢
                  refine pure_ (i := 0) (N := some 44) (v := ?_) (a' := ?_) #[true, false, false, false, false, false, false, false, false, false, false, false, false] rfl rfl (any_of HT_.out (by kernel_rfl)) (fun _ _ _ h => h) (Or.inl ⟨by rfl, ?_⟩) ?_ ?_
                  rotate_left
                  ·
                   intro w'
                   go_simp
                   with_reducible rfl
                  rotate_left
                  ·
                   simp only [Act.put, List.setIfInBounds_toArray, List.set_cons_zero, List.set_cons_succ, i64_w, i32_w]
                   rfl
                  refine pure_ (i := 2) (N := some 46) (v := ?_) (a' := ?_) #[true, false, true, false, false, false, false, false, false, false, false, false, false] rfl rfl (any_of HT_.out (by kernel_rfl)) (fun _ _ _ h => h) (Or.inl ⟨by rfl, ?_⟩) ?_ ?_
                  rotate_left
                  ·
                   intro w'
                   go_simp
                   with_reducible rfl
                  rotate_left
                  ·
                   simp only [Act.put, List.setIfInBounds_toArray, List.set_cons_zero, List.set_cons_succ, i64_w, i32_w]
                   rfl
                  refine pure_ (i := 6) (N := some 50) (v := ?_) (a' := ?_) #[true, false, true, false, false, false, true, false, false, false, false, false, false] rfl rfl (any_of HT_.out (by kernel_rfl)) (fun _ _ _ h => h) (Or.inl ⟨by rfl, ?_⟩) ?_ ?_
                  rotate_left
                  ·
                   intro w'
                   go_simp
                   with_reducible rfl
                  rotate_left
                  ·
                   simp only [Act.put, List.setIfInBounds_toArray, List.set_cons_zero, List.set_cons_succ, i64_w, i32_w]
                   rfl
                  refine pure_ (i := 8) (N := some 52) (v := ?_) (a' := ?_) #[true, false, true, false, false, false, true, false, true, false, false, false, false] rfl rfl (any_of HT_.out (by kernel_rfl)) (fun _ _ _ h => h) (Or.inl ⟨by rfl, ?_⟩) ?_ ?_
                  rotate_left
                  ·
                   intro w'
                   go_simp
                   with_reducible rfl
                  rotate_left
                  ·
                   simp only [Act.put, List.setIfInBounds_toArray, List.set_cons_zero, List.set_cons_succ, i64_w, i32_w]
                   rfl
                  refine take_ (i := 1) (N := some 45) (v := ?_) (a' := ?_) #[true, true, true, false, false, false, true, false, true, false, false, false, false] rfl rfl (take_ofW HT_.out HW_.out (by kernel_rfl)) (fun _ _ _ h => h) (Or.inl ⟨by rfl, ?_⟩) hHeld ?_ ?_
                  rotate_left
                  ·
                   rintro w' ⟨s0, s1, s2, s3, s4, s5⟩
                   go_simp
                   with_reducible rfl
                  rotate_left
                  ·
                   simp only [Act.put, List.setIfInBounds_toArray, List.set_cons_zero, List.set_cons_succ, i64_w, i32_w]
                   rfl
                  refine pure_ (i := 3) (N := some 47) (v := ?_) (a' := ?_) #[true, true, true, true, false, false, true, false, true, false, false, false, false] rfl rfl (any_of HT_.out (by kernel_rfl)) (fun _ _ _ h => h) (Or.inl ⟨by rfl, ?_⟩) ?_ ?_
                  rotate_left
                  ·
                   intro w'
                   go_simp
                   with_reducible rfl
                  rotate_left
                  ·
                   simp only [Act.put, List.setIfInBounds_toArray, List.set_cons_zero, List.set_cons_succ, i64_w, i32_w]
                   rfl
                  refine pure_ (i := 4) (N := some 48) (v := ?_) (a' := ?_) #[true, true, true, true, true, false, true, false, true, false, false, false, false] rfl rfl (any_of HT_.out (by kernel_rfl)) (fun _ _ _ h => h) (Or.inl ⟨by rfl, ?_⟩) ?_ ?_
                  rotate_left
                  ·
                   intro w'
                   go_simp
                   with_reducible rfl
                  rotate_left
                  ·
                   simp only [Act.put, List.setIfInBounds_toArray, List.set_cons_zero, List.set_cons_succ, i64_w, i32_w]
                   rfl
                  refine take_ (i := 5) (N := some 49) (v := ?_) (a' := ?_) #[true, true, true, true, true, true, true, false, true, false, false, false, false] rfl rfl (take_ofW HT_.out HW_.out (by kernel_rfl)) (fun _ _ _ h => h) (Or.inl ⟨by rfl, ?_⟩) hHeld ?_ ?_
                  rotate_left
                  ·
                   rintro w' ⟨s0, s1, s2, s3, s4, s5⟩
                   go_simp
                   with_reducible rfl
                  rotate_left
                  ·
                   simp only [Act.put, List.setIfInBounds_toArray, List.set_cons_zero, List.set_cons_succ, i64_w, i32_w]
                   rfl
                  refine take_ (i := 7) (N := some 51) (v := ?_) (a' := ?_) #[true, true, true, true, true, true, true, true, true, false, false, false, false] rfl rfl (take_ofW HT_.out HW_.out (by kernel_rfl)) (fun _ _ _ h => h) (Or.inl ⟨by rfl, ?_⟩) hHeld ?_ ?_
                  rotate_left
                  ·
                   rintro w' ⟨s0, s1, s2, s3, s4, s5⟩
                   go_simp
                   with_reducible rfl
                  rotate_left
                  ·
                   simp only [Act.put, List.setIfInBounds_toArray, List.set_cons_zero, List.set_cons_succ, i64_w, i32_w]
                   rfl
                  refine pure_ (i := 9) (N := some 53) (v := ?_) (a' := ?_) #[true, true, true, true, true, true, true, true, true, true, false, false, false] rfl rfl (any_of HT_.out (by kernel_rfl)) (fun _ _ _ h => h) (Or.inl ⟨by rfl, ?_⟩) ?_ ?_
                  rotate_left
                  ·
                   intro w'
                   go_simp
                   with_reducible rfl
                  rotate_left
                  ·
                   simp only [Act.put, List.setIfInBounds_toArray, List.set_cons_zero, List.set_cons_succ, i64_w, i32_w]
                   rfl
                  refine pure_ (i := 10) (N := some 54) (v := ?_) (a' := ?_) #[true, true, true, true, true, true, true, true, true, true, true, false, false] rfl rfl (any_of HT_.out (by kernel_rfl)) (fun _ _ _ h => h) (Or.inl ⟨by rfl, ?_⟩) ?_ ?_
                  rotate_left
                  ·
                   intro w'
                   go_simp
                   with_reducible rfl
                  rotate_left
                  ·
                   simp only [Act.put, List.setIfInBounds_toArray, List.set_cons_zero, List.set_cons_succ, i64_w, i32_w]
                   rfl
                  refine take_ (i := 11) (N := some 55) (v := ?_) (a' := ?_) #[true, true, true, true, true, true, true, true, true, true, true, true, false] rfl rfl (take_ofW HT_.out HW_.out (by kernel_rfl)) (fun _ _ _ h => h) (Or.inl ⟨by rfl, ?_⟩) hHeld ?_ ?_
                  rotate_left
                  ·
                   rintro w' ⟨s0, s1, s2, s3, s4, s5⟩
                   go_simp
                   with_reducible rfl
                  rotate_left
                  ·
                   simp only [Act.put, List.setIfInBounds_toArray, List.set_cons_zero, List.set_cons_succ, i64_w, i32_w]
                   rfl
                  refine pure_ (i := 12) (N := some 56) (v := ?_) (a' := ?_) #[true, true, true, true, true, true, true, true, true, true, true, true, true] rfl rfl (any_of HT_.out (by kernel_rfl)) (fun _ _ _ h => h) (Or.inl ⟨by rfl, ?_⟩) ?_ ?_
                  rotate_left
                  ·
                   intro w'
                   go_simp
                   with_reducible rfl
                  rotate_left
                  ·
                   simp only [Act.put, List.setIfInBounds_toArray, List.set_cons_zero, List.set_cons_succ, i64_w, i32_w]
                   rfl
                  refine done_ (done_of HT_.out (by kernel_rfl)) ?_
                  try go_wp2
                  go_ret3
                  exact ⟨by first | rfl | (simp [errW_none, errW_some] <;> rfl) | (simp [*, errW_none, errW_some] <;> rfl), by repeat (first | (with_reducible first | exact HB.out | apply below_alloc | apply pw_below_drewN | apply below_drew1 | refine below_set ?_ GE210.out) | exact HB.out)⟩
                 ·
                  rw [if_neg c21] at H
                  have c21b0 : (((rd_T51 l0_0 x6_3).f0).toList == ((rd_T51 l0_0 x5_2).f0).toList) = false := beq_eq_false_iff_ne.mpr c21
                  have c21b1 : (((rd_T51 l0_0 x6_3).f0).toList != ((rd_T51 l0_0 x5_2).f0).toList) = true := bne_iff_ne.mpr c21
                  have H' := Aside0.mk H
                  clear H
                  try go_wp2
                  have n0_ := Aside0.mk (blk_drew BK210.out)
                  have n1_ := Aside0.mk (below_drew1 HB.out)
                  clear BK210
                  clear HB
                  have BK210 := n0_
                  have HB := n1_
                  clear n0_ n1_
                  have p213 : 0 ≤ (x6_3 : Int) := of_decide_eq_true (by first | (with_reducible assumption) | assumption)
                  have q213 : x6_3 < (l0_0.length : Int) := of_decide_eq_true (by first | (with_reducible assumption) | assumption)
                  obtain ⟨ad213, e213, hx213_0, hx213_1⟩ := at_T51 HR0_0.out x6_3 p213 q213
                  have hw213_1 := hx213_1
                  have hw213_0 := hx213_0
                  obtain rfl : ad211 = ad213 := (by injection e213)
                  replace hx213_0 := (HB.out.cell (World.block_lt_of_cell? w _ hx213_0)).trans hx213_0
                  replace hx213_1 := (HB.out.cell (World.block_lt_of_cell? w _ hx213_1)).trans hx213_1
                  replace p213 := eq_true p213
                  replace q213 := eq_true q213
                  have p214 : 0 ≤ (x5_2 : Int) := of_decide_eq_true (by first | (with_reducible assumption) | assumption)
                  have q214 : x5_2 < (l0_0.length : Int) := of_decide_eq_true (by first | (with_reducible assumption) | assumption)
                  obtain ⟨ad214, e214, hx214_0, hx214_1⟩ := at_T51 HR0_0.out x5_2 p214 q214
                  have hw214_1 := hx214_1
                  have hw214_0 := hx214_0
                  obtain rfl : ad211 = ad214 := (by injection e214)
                  replace hx214_0 := (HB.out.cell (World.block_lt_of_cell? w _ hx214_0)).trans hx214_0
                  replace hx214_1 := (HB.out.cell (World.block_lt_of_cell? w _ hx214_1)).trans hx214_1
                  replace p214 := eq_true p214
                  replace q214 := eq_true q214
                  refine start_ (n := 13) (S := fun w' => w'.cell? ⟨gb210, 0, none⟩ = some (.slice (some ad211) l0_0.length c0_0) ∧ w'.cell? ⟨gb210, 1, none⟩ = some (.slice A0_1 l0_1.length c0_1) ∧ w'.cell? (ad211.add ((x6_3).toNat * 2)) = some (.string ((rd_T51 l0_0 x6_3).f0)) ∧ w'.cell? ⟨(ad211.add ((x6_3).toNat * 2)).block, (ad211.add ((x6_3).toNat * 2)).off + 1, none⟩ = some (.int .i64 ((rd_T51 l0_0 x6_3).f1)) ∧ w'.cell? (ad211.add ((x5_2).toNat * 2)) = some (.string ((rd_T51 l0_0 x5_2).f0)) ∧ w'.cell? ⟨(ad211.add ((x5_2).toNat * 2)).block, (ad211.add ((x5_2).toNat * 2)).off + 1, none⟩ = some (.int .i64 ((rd_T51 l0_0 x5_2).f1))) (ds := []) #[false, false, false, false, false, false, false, false, false, false, false, false, false] (by kernel_rfl) rfl rfl ⟨(blk_cell BK210.out 0).trans rfl, (blk_cell BK210.out 1).trans rfl, ((HB.out.cell (World.block_lt_of_cell? w _ hw213_0)).trans hw213_0), ((HB.out.cell (World.block_lt_of_cell? w _ hw213_1)).trans hw213_1), ((HB.out.cell (World.block_lt_of_cell? w _ hw214_0)).trans hw214_0), ((HB.out.cell (World.block_lt_of_cell? w _ hw214_1)).trans hw214_1)⟩ (fun hHeld => ?_); refine with_tabW vetchref05_Check.tab13 vetchref05_Check.bits13 (fun HT_ HW_ => ?_)
                  generalize wr.drew = w23 at BK210 HB hx213_0 hx213_1 hx214_0 hx214_1 hHeld ⊢
                  refine pure_ (i := 0) (N := some 44) (v := ?_) (a' := ?_) #[true, false, false, false, false, false, false, false, false, false, false, false, false] rfl rfl (any_of HT_.out (by kernel_rfl)) (fun _ _ _ h => h) (Or.inl ⟨by rfl, ?_⟩) ?_ ?_
                  rotate_left
                  ·
                   intro w'
                   go_simp
                   with_reducible rfl
                  rotate_left
                  ·
                   simp only [Act.put, List.setIfInBounds_toArray, List.set_cons_zero, List.set_cons_succ, i64_w, i32_w]
                   rfl
                  refine pure_ (i := 2) (N := some 46) (v := ?_) (a' := ?_) #[true, false, true, false, false, false, false, false, false, false, false, false, false] rfl rfl (any_of HT_.out (by kernel_rfl)) (fun _ _ _ h => h) (Or.inl ⟨by rfl, ?_⟩) ?_ ?_
                  rotate_left
                  ·
                   intro w'
                   go_simp
                   with_reducible rfl
                  rotate_left
                  ·
                   simp only [Act.put, List.setIfInBounds_toArray, List.set_cons_zero, List.set_cons_succ, i64_w, i32_w]
                   rfl
                  refine pure_ (i := 6) (N := some 50) (v := ?_) (a' := ?_) #[true, false, true, false, false, false, true, false, false, false, false, false, false] rfl rfl (any_of HT_.out (by kernel_rfl)) (fun _ _ _ h => h) (Or.inl ⟨by rfl, ?_⟩) ?_ ?_
                  rotate_left
                  ·
                   intro w'
                   go_simp
                   with_reducible rfl
                  rotate_left
                  ·
                   simp only [Act.put, List.setIfInBounds_toArray, List.set_cons_zero, List.set_cons_succ, i64_w, i32_w]
                   rfl
                  refine pure_ (i := 8) (N := some 52) (v := ?_) (a' := ?_) #[true, false, true, false, false, false, true, false, true, false, false, false, false] rfl rfl (any_of HT_.out (by kernel_rfl)) (fun _ _ _ h => h) (Or.inl ⟨by rfl, ?_⟩) ?_ ?_
                  rotate_left
                  ·
                   intro w'
                   go_simp
                   with_reducible rfl
                  rotate_left
                  ·
                   simp only [Act.put, List.setIfInBounds_toArray, List.set_cons_zero, List.set_cons_succ, i64_w, i32_w]
                   rfl
                  refine take_ (i := 1) (N := some 45) (v := ?_) (a' := ?_) #[true, true, true, false, false, false, true, false, true, false, false, false, false] rfl rfl (take_ofW HT_.out HW_.out (by kernel_rfl)) (fun _ _ _ h => h) (Or.inl ⟨by rfl, ?_⟩) hHeld ?_ ?_
                  rotate_left
                  ·
                   rintro w' ⟨s0, s1, s2, s3, s4, s5⟩
                   go_simp
                   with_reducible rfl
                  rotate_left
                  ·
                   simp only [Act.put, List.setIfInBounds_toArray, List.set_cons_zero, List.set_cons_succ, i64_w, i32_w]
                   rfl
                  refine pure_ (i := 3) (N := some 47) (v := ?_) (a' := ?_) #[true, true, true, true, false, false, true, false, true, false, false, false, false] rfl rfl (any_of HT_.out (by kernel_rfl)) (fun _ _ _ h => h) (Or.inl ⟨by rfl, ?_⟩) ?_ ?_
                  rotate_left
                  ·
                   intro w'
                   go_simp
                   with_reducible rfl
                  rotate_left
                  ·
                   simp only [Act.put, List.setIfInBounds_toArray, List.set_cons_zero, List.set_cons_succ, i64_w, i32_w]
                   rfl
                  refine pure_ (i := 4) (N := some 48) (v := ?_) (a' := ?_) #[true, true, true, true, true, false, true, false, true, false, false, false, false] rfl rfl (any_of HT_.out (by kernel_rfl)) (fun _ _ _ h => h) (Or.inl ⟨by rfl, ?_⟩) ?_ ?_
                  rotate_left
                  ·
                   intro w'
                   go_simp
                   with_reducible rfl
                  rotate_left
                  ·
                   simp only [Act.put, List.setIfInBounds_toArray, List.set_cons_zero, List.set_cons_succ, i64_w, i32_w]
                   rfl
                  refine take_ (i := 5) (N := some 49) (v := ?_) (a' := ?_) #[true, true, true, true, true, true, true, false, true, false, false, false, false] rfl rfl (take_ofW HT_.out HW_.out (by kernel_rfl)) (fun _ _ _ h => h) (Or.inl ⟨by rfl, ?_⟩) hHeld ?_ ?_
                  rotate_left
                  ·
                   rintro w' ⟨s0, s1, s2, s3, s4, s5⟩
                   go_simp
                   with_reducible rfl
                  rotate_left
                  ·
                   simp only [Act.put, List.setIfInBounds_toArray, List.set_cons_zero, List.set_cons_succ, i64_w, i32_w]
                   rfl
                  refine take_ (i := 7) (N := some 51) (v := ?_) (a' := ?_) #[true, true, true, true, true, true, true, true, true, false, false, false, false] rfl rfl (take_ofW HT_.out HW_.out (by kernel_rfl)) (fun _ _ _ h => h) (Or.inl ⟨by rfl, ?_⟩) hHeld ?_ ?_
                  rotate_left
                  ·
                   rintro w' ⟨s0, s1, s2, s3, s4, s5⟩
                   go_simp
                   with_reducible rfl
                  rotate_left
                  ·
                   simp only [Act.put, List.setIfInBounds_toArray, List.set_cons_zero, List.set_cons_succ, i64_w, i32_w]
                   rfl
                  refine pure_ (i := 9) (N := some 53) (v := ?_) (a' := ?_) #[true, true, true, true, true, true, true, true, true, true, false, false, false] rfl rfl (any_of HT_.out (by kernel_rfl)) (fun _ _ _ h => h) (Or.inl ⟨by rfl, ?_⟩) ?_ ?_
                  rotate_left
                  ·
                   intro w'
                   go_simp
                   with_reducible rfl
                  rotate_left
                  ·
                   simp only [Act.put, List.setIfInBounds_toArray, List.set_cons_zero, List.set_cons_succ, i64_w, i32_w]
                   rfl
                  refine pure_ (i := 10) (N := some 54) (v := ?_) (a' := ?_) #[true, true, true, true, true, true, true, true, true, true, true, false, false] rfl rfl (any_of HT_.out (by kernel_rfl)) (fun _ _ _ h => h) (Or.inl ⟨by rfl, ?_⟩) ?_ ?_
                  rotate_left
                  ·
                   intro w'
                   go_simp
                   with_reducible rfl
                  rotate_left
                  ·
                   simp only [Act.put, List.setIfInBounds_toArray, List.set_cons_zero, List.set_cons_succ, i64_w, i32_w]
                   rfl
                  refine take_ (i := 11) (N := some 55) (v := ?_) (a' := ?_) #[true, true, true, true, true, true, true, true, true, true, true, true, false] rfl rfl (take_ofW HT_.out HW_.out (by kernel_rfl)) (fun _ _ _ h => h) (Or.inl ⟨by rfl, ?_⟩) hHeld ?_ ?_
                  rotate_left
                  ·
                   rintro w' ⟨s0, s1, s2, s3, s4, s5⟩
                   go_simp
                   with_reducible rfl
                  rotate_left
                  ·
                   simp only [Act.put, List.setIfInBounds_toArray, List.set_cons_zero, List.set_cons_succ, i64_w, i32_w]
                   rfl
                  refine pure_ (i := 12) (N := some 56) (v := ?_) (a' := ?_) #[true, true, true, true, true, true, true, true, true, true, true, true, true] rfl rfl (any_of HT_.out (by kernel_rfl)) (fun _ _ _ h => h) (Or.inl ⟨by rfl, ?_⟩) ?_ ?_
                  rotate_left
                  ·
                   intro w'
                   go_simp
                   with_reducible rfl
                  rotate_left
                  ·
                   simp only [Act.put, List.setIfInBounds_toArray, List.set_cons_zero, List.set_cons_succ, i64_w, i32_w]
                   rfl
                  refine done_ (done_of HT_.out (by kernel_rfl)) ?_
                  try go_wp2
                  go_roundg k3
                  case measure => have := HJ1.out; have := HK2.out; have := HK3.out; omega
                  case rel => exact ⟨(wrap64 (x6_3 + 1)), (by first | rfl | (simp; done) | (simp [*]; done)), H', ⟨by have := HJ1.out; have := HK2.out; have := HK3.out; omega⟩, ⟨by (with_reducible repeat (first | refine blk_drewN ?_ _ | refine blk_drew ?_ | refine blk_alloc ?_ _)); exact BK210.out⟩, ⟨by repeat (first | (with_reducible first | exact HB.out | apply below_alloc | apply pw_below_drewN | apply below_drew1 | refine below_set ?_ GE210.out) | exact HB.out)⟩⟩
                ·
                 rw [if_neg c20] at H
                 exact absurd H (by simp)
               ·
                rw [if_neg c19] at H
                exact absurd H (by simp)
              ·
               rw [if_neg c18] at H
               exact absurd H (by simp)
             ·
              rw [if_neg c17] at H
              exact absurd H (by simp)
            ·
             rw [if_neg c16] at H
             have c16b0 : decide (x6_3 < x5_2) = false := decide_eq_false c16
             clear c16
             have H' := Aside0.mk H
             clear H
             go_wp2
             go_roundg k3
             case measure => have := HJ1.out; have := HK2.out; have := HK3.out; omega
             case rel => exact ⟨(wrap64 (x5_2 + 1)), (by first | rfl | (simp; done) | (simp [*]; done)), H', ⟨by have := HJ1.out; have := HK2.out; have := HK3.out; omega⟩, ⟨by (with_reducible repeat (first | refine blk_drewN ?_ _ | refine blk_drew ?_ | refine blk_alloc ?_ _)); exact BK210.out⟩, ⟨by repeat (first | (with_reducible first | exact HB.out | apply below_alloc | apply pw_below_drewN | apply below_drew1 | refine below_set ?_ GE210.out) | exact HB.out)⟩⟩
         ·
          replace c14 := Bool.eq_false_iff.mpr c14
          subst c14
          have H1 : (some ((⟨#[114, 117, 108, 101, 115]⟩ : ByteArray), 10, x5_2)) = some (r1, r2, r3) := by rw [if_neg (show ¬ (false = true) by decide)] at H; exact H
          clear H
          have H := H1
          clear H1
          simp only [Option.some.injEq, Prod.mk.injEq] at H
          obtain ⟨rfl, rfl, rfl⟩ := H
          have hcz24_0 : wr.cell? ⟨gb210, 0, none⟩ = some (.slice A0_0 l0_0.length c0_0) := (blk_cell BK210.out 0).trans rfl
          have hcz24_1 : wr.cell? ⟨gb210, 1, none⟩ = some (.slice A0_1 l0_1.length c0_1) := (blk_cell BK210.out 1).trans rfl
          have hfz24_0 := blk_frozen BK210.out 0
          have hfz24_1 := blk_frozen BK210.out 1
          have p211 : 0 ≤ (x5_2 : Int) := of_decide_eq_true (by first | (with_reducible assumption) | assumption)
          have q211 : x5_2 < (l0_0.length : Int) := of_decide_eq_true (by first | (with_reducible assumption) | assumption)
          obtain ⟨ad211, e211, hx211_0, hx211_1⟩ := at_T51 HR0_0.out x5_2 p211 q211
          cases e211
          replace hx211_0 := (HB.out.cell (World.block_lt_of_cell? w _ hx211_0)).trans hx211_0
          replace hx211_1 := (HB.out.cell (World.block_lt_of_cell? w _ hx211_1)).trans hx211_1
          replace p211 := eq_true p211
          replace q211 := eq_true q211
          go_wp2_with (first | ((with_reducible refine gate_callee (f := 36) rfl ?_); refine goesL_ (some 36) rfl rfl Try.func36 (by kernel_rfl) rfl #[.string ((rd_T51 l0_0 x5_2).f0)] rfl (by (try simp only [List.map_toArray, List.map_cons, List.map_nil]); first | done | rfl | (simp only [List.length_drop, List.length_take]; rfl)) ?_; (with_reducible refine (vetchref04_Name.calls k2 ((rd_T51 l0_0 x5_2).f0) false _ A13.out).mono ?_); rintro e w' ⟨rfl, ⟨nd, rfl⟩⟩; refine ⟨_, rfl, ?_⟩))
          go_ret3
          exact ⟨by first | rfl | (simp [errW_none, errW_some] <;> rfl) | (simp [*, errW_none, errW_some] <;> rfl), by repeat (first | (with_reducible first | exact HB.out | apply below_alloc | apply pw_below_drewN | apply below_drew1 | refine below_set ?_ GE210.out) | exact HB.out)⟩
        ·
         rw [if_neg c12] at H
         exact absurd H (by simp)
       ·
        rw [if_neg c11] at H
        have c11b0 : decide (x5_2 < (l0_0.length : Int)) = false := decide_eq_false c11
        clear c11
        have H' := Aside0.mk H
        clear H
        have hcz25_0 : wr.cell? ⟨gb210, 0, none⟩ = some (.slice A0_0 l0_0.length c0_0) := (blk_cell BK210.out 0).trans rfl
        have hcz25_1 : wr.cell? ⟨gb210, 1, none⟩ = some (.slice A0_1 l0_1.length c0_1) := (blk_cell BK210.out 1).trans rfl
        have hfz25_0 := blk_frozen BK210.out 0
        have hfz25_1 := blk_frozen BK210.out 1
        go_wp2
        go_loopg [7] k2 (fun kq v7 w' => ∃ (x7_3 : Int), v7 = .int .i64 x7_3 ∧ Aside0 (vetchref05_Check.l2 kq x7_3 l0_0 l0_1 = some (r1, r2, r3)) ∧ Aside0 (kq ≤ k2) ∧ Aside0 (w'.heap[gb210]? = some (.cells #[(.slice A0_0 l0_0.length c0_0), (.slice A0_1 l0_1.length c0_1)] 25 (0, 0))) ∧ Aside0 (Below w.heap.size w w'))
        case atStart => exact ⟨(0), (by first | rfl | (simp; done) | (simp [*]; done)), H', ⟨Nat.le_refl _⟩, ⟨by (with_reducible repeat (first | refine blk_drewN ?_ _ | refine blk_drew ?_ | refine blk_alloc ?_ _)); exact BK210.out⟩, ⟨by repeat (first | (with_reducible first | exact HB.out | apply below_alloc | apply pw_below_drewN | apply below_drew1 | refine below_set ?_ GE210.out) | exact HB.out)⟩⟩
        case round =>
         clear H'
         try clear c1
         try clear c2
         try clear p2
         try clear q2
         try clear hx2
         try clear c3
         try clear c4
         try clear c4b0
         try clear c4b1
         try clear p6
         try clear c7
         try clear c8
         try clear c8b0
         try clear c8b1
         try clear c8b2
         try clear c11
         try clear c11b0
         try clear c12
         try clear c12b0
         try clear c14
         try clear c16
         try clear c16b0
         try clear c17
         try clear c17b0
         try clear c18
         try clear c18b0
         try clear c19
         try clear c19b0
         try clear c20
         try clear c20b0
         try clear c21
         try clear c21b0
         try clear c21b1
         try clear p21
         try clear q21
         try clear hx21
         try clear hcz10_0
         try clear hcz10_1
         try clear hcz15_0
         try clear hcz15_1
         try clear hcz24_0
         try clear hcz24_1
         try clear hcz25_0
         try clear hcz25_1
         try clear hcz5_0
         try clear hcz5_1
         try clear hcz6_0
         try clear hcz6_1
         try clear hcz9_0
         try clear hcz9_1
         try clear hfz10_0
         try clear hfz10_1
         try clear hfz15_0
         try clear hfz15_1
         try clear hfz24_0
         try clear hfz24_1
         try clear hfz25_0
         try clear hfz25_1
         try clear hfz5_0
         try clear hfz5_1
         try clear hfz6_0
         try clear hfz6_1
         try clear hfz9_0
         try clear hfz9_1
         try clear hx211_0
         try clear hx211_1
         try clear hx213_0
         try clear hx213_1
         try clear hx214_0
         try clear hx214_1
         try clear p2
         try clear p211
         try clear p213
         try clear p214
         try clear q2
         try clear q211
         try clear q213
         try clear q214
         obtain ⟨x7_3, rfl, HA, HK3, BK210, HB⟩ := hrel
         cases gk with
         | zero => exact absurd HA.out (by simp [vetchref05_Check.l2])
         | succ k3 =>
          have H := HA.out
          clear HA
          simp only [vetchref05_Check.l2] at H
          by_cases c26 : x7_3 < (l0_1.length : Int)
          ·
           rw [if_pos c26] at H
           have c26b0 : decide (x7_3 < (l0_1.length : Int)) = true := decide_eq_true c26
           clear c26
           by_cases c27 : 0 ≤ x7_3
           ·
            rw [if_pos c27] at H
            have c27b0 : decide (0 ≤ x7_3) = true := decide_eq_true c27
            clear c27
            replace H := Option.bind_eq_some_iff.mp H
            obtain ⟨t216, A280, H⟩ := H
            replace H : (if t216 = true then (vetchref05_Check.l2 k3 (wrap64 (x7_3 + 1)) l0_0 l0_1) else (some ((⟨#[110, 111, 100, 101, 115]⟩ : ByteArray), 10, x7_3))) = some (r1, r2, r3) := H
            have A28 := Aside0.mk A280
            clear A280
            by_cases c29 : t216 = true
            ·
             subst c29
             have H1 : (vetchref05_Check.l2 k3 (wrap64 (x7_3 + 1)) l0_0 l0_1) = some (r1, r2, r3) := by rw [if_pos rfl] at H; exact H
             clear H
             have H := H1
             clear H1
             have H' := Aside0.mk H
             clear H
             have hcz30_0 : wr.cell? ⟨gb210, 0, none⟩ = some (.slice A0_0 l0_0.length c0_0) := (blk_cell BK210.out 0).trans rfl
             have hcz30_1 : wr.cell? ⟨gb210, 1, none⟩ = some (.slice A0_1 l0_1.length c0_1) := (blk_cell BK210.out 1).trans rfl
             have hfz30_0 := blk_frozen BK210.out 0
             have hfz30_1 := blk_frozen BK210.out 1
             try go_wp2
             have n0_ := Aside0.mk (blk_drew BK210.out)
             have n1_ := Aside0.mk (below_drew1 HB.out)
             clear BK210
             clear HB
             have BK210 := n0_
             have HB := n1_
             clear n0_ n1_
             have p215 : 0 ≤ (x7_3 : Int) := of_decide_eq_true (by first | (with_reducible assumption) | assumption)
             have q215 : x7_3 < (l0_1.length : Int) := of_decide_eq_true (by first | (with_reducible assumption) | assumption)
             obtain ⟨ad215, A215_1, c215_1, e215, hx215_0, hx215_1, hx215_2, hx215_3, hx215_4, hx215_5, hx215_6, hl215_1, hi215_1⟩ := at_T56 HR0_1.out x7_3 p215 q215
             have hw215_6 := hx215_6
             have hw215_5 := hx215_5
             have hw215_4 := hx215_4
             have hw215_3 := hx215_3
             have hw215_2 := hx215_2
             have hw215_1 := hx215_1
             have hw215_0 := hx215_0
             cases e215
             replace hx215_0 := (HB.out.cell (World.block_lt_of_cell? w _ hx215_0)).trans hx215_0
             replace hx215_1 := (HB.out.cell (World.block_lt_of_cell? w _ hx215_1)).trans hx215_1
             replace hx215_2 := (HB.out.cell (World.block_lt_of_cell? w _ hx215_2)).trans hx215_2
             replace hx215_3 := (HB.out.cell (World.block_lt_of_cell? w _ hx215_3)).trans hx215_3
             replace hx215_4 := (HB.out.cell (World.block_lt_of_cell? w _ hx215_4)).trans hx215_4
             replace hx215_5 := (HB.out.cell (World.block_lt_of_cell? w _ hx215_5)).trans hx215_5
             replace hx215_6 := (HB.out.cell (World.block_lt_of_cell? w _ hx215_6)).trans hx215_6
             have HR215_1 := Aside0.mk hi215_1
             have HC215_1 := Aside0.mk hl215_1
             clear hi215_1 hl215_1
             replace p215 := eq_true p215
             replace q215 := eq_true q215
             refine start_ (n := 10) (S := fun w' => w'.cell? ⟨gb210, 0, none⟩ = some (.slice A0_0 l0_0.length c0_0) ∧ w'.cell? ⟨gb210, 1, none⟩ = some (.slice (some ad215) l0_1.length c0_1) ∧ w'.cell? (ad215.add ((x7_3).toNat * 7)) = some (.int .i64 ((rd_T56 l0_1 x7_3).f0)) ∧ w'.cell? ⟨(ad215.add ((x7_3).toNat * 7)).block, (ad215.add ((x7_3).toNat * 7)).off + 1, none⟩ = some (.slice A215_1 ((rd_T56 l0_1 x7_3).f1).length c215_1) ∧ w'.cell? ⟨(ad215.add ((x7_3).toNat * 7)).block, (ad215.add ((x7_3).toNat * 7)).off + 2, none⟩ = some (.int .i64 ((rd_T56 l0_1 x7_3).f2)) ∧ w'.cell? ⟨(ad215.add ((x7_3).toNat * 7)).block, (ad215.add ((x7_3).toNat * 7)).off + 3, none⟩ = some (.int .u64 ((rd_T56 l0_1 x7_3).f3.f0)) ∧ w'.cell? ⟨(ad215.add ((x7_3).toNat * 7)).block, (ad215.add ((x7_3).toNat * 7)).off + 4, none⟩ = some (.int .u64 ((rd_T56 l0_1 x7_3).f3.f1)) ∧ w'.cell? ⟨(ad215.add ((x7_3).toNat * 7)).block, (ad215.add ((x7_3).toNat * 7)).off + 5, none⟩ = some (.int .u64 ((rd_T56 l0_1 x7_3).f3.f2)) ∧ w'.cell? ⟨(ad215.add ((x7_3).toNat * 7)).block, (ad215.add ((x7_3).toNat * 7)).off + 6, none⟩ = some (.int .u64 ((rd_T56 l0_1 x7_3).f3.f3))) (ds := []) #[false, false, false, false, false, false, false, false, false, false] (by kernel_rfl) rfl rfl ⟨(blk_cell BK210.out 0).trans rfl, (blk_cell BK210.out 1).trans rfl, ((HB.out.cell (World.block_lt_of_cell? w _ hw215_0)).trans hw215_0), ((HB.out.cell (World.block_lt_of_cell? w _ hw215_1)).trans hw215_1), ((HB.out.cell (World.block_lt_of_cell? w _ hw215_2)).trans hw215_2), ((HB.out.cell (World.block_lt_of_cell? w _ hw215_3)).trans hw215_3), ((HB.out.cell (World.block_lt_of_cell? w _ hw215_4)).trans hw215_4), ((HB.out.cell (World.block_lt_of_cell? w _ hw215_5)).trans hw215_5), ((HB.out.cell (World.block_lt_of_cell? w _ hw215_6)).trans hw215_6)⟩ (fun hHeld => ?_); refine with_tabW vetchref05_Check.tab18 vetchref05_Check.bits18 (fun HT_ HW_ => ?_)
             generalize wr.drew = w31 at BK210 HB HR215_1 hx215_0 hx215_1 hx215_2 hx215_3 hx215_4 hx215_5 hx215_6 hHeld ⊢
             refine pure_ (i := 0) (N := some 65) (v := ?_) (a' := ?_) #[true, false, false, false, false, false, false, false, false, false] rfl rfl (any_of HT_.out (by kernel_rfl)) (fun _ _ _ h => h) (Or.inl ⟨by rfl, ?_⟩) ?_ ?_
             rotate_left
             ·
              intro w'
              go_simp
              with_reducible rfl
             rotate_left
             ·
              simp only [Act.put, List.setIfInBounds_toArray, List.set_cons_zero, List.set_cons_succ, i64_w, i32_w]
              rfl
             refine pure_ (i := 2) (N := some 67) (v := ?_) (a' := ?_) #[true, false, true, false, false, false, false, false, false, false] rfl rfl (any_of HT_.out (by kernel_rfl)) (fun _ _ _ h => h) (Or.inl ⟨by rfl, ?_⟩) ?_ ?_
             rotate_left
             ·
              intro w'
              go_simp
              with_reducible rfl
             rotate_left
             ·
              simp only [Act.put, List.setIfInBounds_toArray, List.set_cons_zero, List.set_cons_succ, i64_w, i32_w]
              rfl
             refine pure_ (i := 5) (N := some 70) (v := ?_) (a' := ?_) #[true, false, true, false, false, true, false, false, false, false] rfl rfl (any_of HT_.out (by kernel_rfl)) (fun _ _ _ h => h) (Or.inl ⟨by rfl, ?_⟩) ?_ ?_
             rotate_left
             ·
              intro w'
              go_simp
              with_reducible rfl
             rotate_left
             ·
              simp only [Act.put, List.setIfInBounds_toArray, List.set_cons_zero, List.set_cons_succ, i64_w, i32_w]
              rfl
             refine take_ (i := 1) (N := some 66) (v := ?_) (a' := ?_) #[true, true, true, false, false, true, false, false, false, false] rfl rfl (take_ofW HT_.out HW_.out (by kernel_rfl)) (fun _ _ _ h => h) (Or.inl ⟨by rfl, ?_⟩) hHeld ?_ ?_
             rotate_left
             ·
              rintro w' ⟨s0, s1, s2, s3, s4, s5, s6, s7, s8⟩
              go_simp
              with_reducible rfl
             rotate_left
             ·
              simp only [Act.put, List.setIfInBounds_toArray, List.set_cons_zero, List.set_cons_succ, i64_w, i32_w]
              rfl
             refine pure_ (i := 3) (N := some 68) (v := ?_) (a' := ?_) #[true, true, true, true, false, true, false, false, false, false] rfl rfl (any_of HT_.out (by kernel_rfl)) (fun _ _ _ h => h) (Or.inl ⟨by rfl, ?_⟩) ?_ ?_
             rotate_left
             ·
              intro w'
              go_simp
              with_reducible rfl
             rotate_left
             ·
              simp only [Act.put, List.setIfInBounds_toArray, List.set_cons_zero, List.set_cons_succ, i64_w, i32_w]
              rfl
             refine take_ (i := 4) (N := some 69) (v := ?_) (a' := ?_) #[true, true, true, true, true, true, false, false, false, false] rfl rfl (take_ofW HT_.out HW_.out (by kernel_rfl)) (fun _ _ _ h => h) (Or.inl ⟨by rfl, ?_⟩) hHeld ?_ ?_
             rotate_left
             ·
              rintro w' ⟨s0, s1, s2, s3, s4, s5, s6, s7, s8⟩
              go_simp
              with_reducible rfl
             rotate_left
             ·
              simp only [Act.put, List.setIfInBounds_toArray, List.set_cons_zero, List.set_cons_succ, i64_w, i32_w]
              rfl
             refine take_ (i := 6) (N := some 71) (v := ?_) (a' := ?_) #[true, true, true, true, true, true, true, false, false, false] rfl rfl (take_ofW HT_.out HW_.out (by kernel_rfl)) (fun _ _ _ h => h) (Or.inl ⟨by rfl, ?_⟩) hHeld ?_ ?_
             rotate_left
             ·
              rintro w' ⟨s0, s1, s2, s3, s4, s5, s6, s7, s8⟩
              go_simp
              with_reducible rfl
             rotate_left
             ·
              simp only [Act.put, List.setIfInBounds_toArray, List.set_cons_zero, List.set_cons_succ, i64_w, i32_w]
              rfl
             refine pure_ (i := 7) (N := some 72) (v := ?_) (a' := ?_) #[true, true, true, true, true, true, true, true, false, false] rfl rfl (any_of HT_.out (by kernel_rfl)) (fun _ _ _ h => h) (Or.inl ⟨by rfl, ?_⟩) ?_ ?_
             rotate_left
             ·
              intro w'
              go_simp
              with_reducible rfl
             rotate_left
             ·
              simp only [Act.put, List.setIfInBounds_toArray, List.set_cons_zero, List.set_cons_succ, i64_w, i32_w]
              rfl
             refine one_ (i := 8) (N := some 73) #[true, true, true, true, true, true, true, true, true, false] rfl rfl (one_of HT_.out (by kernel_rfl)) (by decide) (fun K hK => ?_)
             refine goes_ Try.func37 (by kernel_rfl) rfl #[.agg #[.int .i64 ((rd_T56 l0_1 x7_3).f0), .slice A215_1 ((rd_T56 l0_1 x7_3).f1).length c215_1, .int .i64 ((rd_T56 l0_1 x7_3).f2), .int .u64 ((rd_T56 l0_1 x7_3).f3.f0), .int .u64 ((rd_T56 l0_1 x7_3).f3.f1), .int .u64 ((rd_T56 l0_1 x7_3).f3.f2), .int .u64 ((rd_T56 l0_1 x7_3).f3.f3)], .int .i64 (l0_0.length : Int)] (by rfl) rfl rfl (by (try simp only [List.map_toArray, List.map_cons, List.map_nil]); first | done | rfl | (simp only [List.length_drop, List.length_take]; rfl)) ?_
             with_reducible refine (vetchref05_Made.calls k3 ((rd_T56 l0_1 x7_3).f0) _ _ ((rd_T56 l0_1 x7_3).f1) ((rd_T56 l0_1 x7_3).f2) ((rd_T56 l0_1 x7_3).f3.f0) ((rd_T56 l0_1 x7_3).f3.f1) ((rd_T56 l0_1 x7_3).f3.f2) ((rd_T56 l0_1 x7_3).f3.f3) (l0_0.length : Int) true _ ?side1 ?side2 A28.out).mono ?_
             (case side1 => repeat (first | exact (Kd.C_below HR215_1.out HB.out) | (with_reducible refine Kd.C_alloc ?_ _) | (with_reducible refine Kd.C_drewN ?_ _) | (with_reducible refine Kd.C_drew ?_)))
             (case side2 => exact HC215_1.out)
             rintro e w32 ⟨rfl, hb⟩
             refine ⟨_, rfl, ?_⟩
             have n0_ := Aside0.mk (blk_below (g := gb210) (o := .cells #[.slice A0_0 l0_0.length c0_0, .slice (some ad215) l0_1.length c0_1] 25 (0, 0)) (by (with_reducible repeat (first | refine blk_drewN ?_ _ | refine blk_drew ?_ | refine blk_alloc ?_ _)); exact BK210.out) hb)
             have n1_ := Aside0.mk (below_step (by repeat (first | (with_reducible first | exact HB.out | apply below_alloc | apply pw_below_drewN | apply below_drew1 | refine below_set ?_ GE210.out) | exact HB.out)) hb)
             clear BK210
             clear HB
             have BK210 := n0_
             have HB := n1_
             clear n0_ n1_
             (try clear hb)
             (try clear hb2)
             (try clear hk)
             (try clear hi)
             refine hK.out _ _ ⟨(blk_cell BK210.out 0).trans rfl, (blk_cell BK210.out 1).trans rfl, ((HB.out.cell (World.block_lt_of_cell? w _ hw215_0)).trans hw215_0), ((HB.out.cell (World.block_lt_of_cell? w _ hw215_1)).trans hw215_1), ((HB.out.cell (World.block_lt_of_cell? w _ hw215_2)).trans hw215_2), ((HB.out.cell (World.block_lt_of_cell? w _ hw215_3)).trans hw215_3), ((HB.out.cell (World.block_lt_of_cell? w _ hw215_4)).trans hw215_4), ((HB.out.cell (World.block_lt_of_cell? w _ hw215_5)).trans hw215_5), ((HB.out.cell (World.block_lt_of_cell? w _ hw215_6)).trans hw215_6)⟩ (fun hHeld => ?_)
             clear hK K
             refine norm_ (a' := ?_) ?_ ?_
             rotate_left
             ·
              show Act.put _ (some 73) _ = _
              simp only [Act.put, List.setIfInBounds_toArray, List.set_cons_zero, List.set_cons_succ, i64_w, i32_w]
              rfl
             refine pure_ (i := 9) (N := some 74) (v := ?_) (a' := ?_) #[true, true, true, true, true, true, true, true, true, true] rfl rfl (any_of HT_.out (by kernel_rfl)) (fun _ _ _ h => h) (Or.inl ⟨by rfl, ?_⟩) ?_ ?_
             rotate_left
             ·
              intro w'
              go_simp
              with_reducible rfl
             rotate_left
             ·
              simp only [Act.put, List.setIfInBounds_toArray, List.set_cons_zero, List.set_cons_succ, i64_w, i32_w]
              rfl
             refine done_ (done_of HT_.out (by kernel_rfl)) ?_
             try go_wp2
             go_roundg k3
             case measure => have := HJ1.out; have := HK2.out; have := HK3.out; omega
             case rel => exact ⟨(wrap64 (x7_3 + 1)), (by first | rfl | (simp; done) | (simp [*]; done)), H', ⟨by have := HJ1.out; have := HK2.out; have := HK3.out; omega⟩, ⟨by (with_reducible repeat (first | refine blk_drewN ?_ _ | refine blk_drew ?_ | refine blk_alloc ?_ _)); exact BK210.out⟩, ⟨by repeat (first | (with_reducible first | exact HB.out | apply below_alloc | apply pw_below_drewN | apply below_drew1 | refine below_set ?_ GE210.out) | exact HB.out)⟩⟩
            ·
             replace c29 := Bool.eq_false_iff.mpr c29
             subst c29
             have H1 : (some ((⟨#[110, 111, 100, 101, 115]⟩ : ByteArray), 10, x7_3)) = some (r1, r2, r3) := by rw [if_neg (show ¬ (false = true) by decide)] at H; exact H
             clear H
             have H := H1
             clear H1
             simp only [Option.some.injEq, Prod.mk.injEq] at H
             obtain ⟨rfl, rfl, rfl⟩ := H
             have hcz33_0 : wr.cell? ⟨gb210, 0, none⟩ = some (.slice A0_0 l0_0.length c0_0) := (blk_cell BK210.out 0).trans rfl
             have hcz33_1 : wr.cell? ⟨gb210, 1, none⟩ = some (.slice A0_1 l0_1.length c0_1) := (blk_cell BK210.out 1).trans rfl
             have hfz33_0 := blk_frozen BK210.out 0
             have hfz33_1 := blk_frozen BK210.out 1
             try go_wp2
             have n0_ := Aside0.mk (blk_drew BK210.out)
             have n1_ := Aside0.mk (below_drew1 HB.out)
             clear BK210
             clear HB
             have BK210 := n0_
             have HB := n1_
             clear n0_ n1_
             have p215 : 0 ≤ (x7_3 : Int) := of_decide_eq_true (by first | (with_reducible assumption) | assumption)
             have q215 : x7_3 < (l0_1.length : Int) := of_decide_eq_true (by first | (with_reducible assumption) | assumption)
             obtain ⟨ad215, A215_1, c215_1, e215, hx215_0, hx215_1, hx215_2, hx215_3, hx215_4, hx215_5, hx215_6, hl215_1, hi215_1⟩ := at_T56 HR0_1.out x7_3 p215 q215
             have hw215_6 := hx215_6
             have hw215_5 := hx215_5
             have hw215_4 := hx215_4
             have hw215_3 := hx215_3
             have hw215_2 := hx215_2
             have hw215_1 := hx215_1
             have hw215_0 := hx215_0
             cases e215
             replace hx215_0 := (HB.out.cell (World.block_lt_of_cell? w _ hx215_0)).trans hx215_0
             replace hx215_1 := (HB.out.cell (World.block_lt_of_cell? w _ hx215_1)).trans hx215_1
             replace hx215_2 := (HB.out.cell (World.block_lt_of_cell? w _ hx215_2)).trans hx215_2
             replace hx215_3 := (HB.out.cell (World.block_lt_of_cell? w _ hx215_3)).trans hx215_3
             replace hx215_4 := (HB.out.cell (World.block_lt_of_cell? w _ hx215_4)).trans hx215_4
             replace hx215_5 := (HB.out.cell (World.block_lt_of_cell? w _ hx215_5)).trans hx215_5
             replace hx215_6 := (HB.out.cell (World.block_lt_of_cell? w _ hx215_6)).trans hx215_6
             have HR215_1 := Aside0.mk hi215_1
             have HC215_1 := Aside0.mk hl215_1
             clear hi215_1 hl215_1
             replace p215 := eq_true p215
             replace q215 := eq_true q215
             refine start_ (n := 10) (S := fun w' => w'.cell? ⟨gb210, 0, none⟩ = some (.slice A0_0 l0_0.length c0_0) ∧ w'.cell? ⟨gb210, 1, none⟩ = some (.slice (some ad215) l0_1.length c0_1) ∧ w'.cell? (ad215.add ((x7_3).toNat * 7)) = some (.int .i64 ((rd_T56 l0_1 x7_3).f0)) ∧ w'.cell? ⟨(ad215.add ((x7_3).toNat * 7)).block, (ad215.add ((x7_3).toNat * 7)).off + 1, none⟩ = some (.slice A215_1 ((rd_T56 l0_1 x7_3).f1).length c215_1) ∧ w'.cell? ⟨(ad215.add ((x7_3).toNat * 7)).block, (ad215.add ((x7_3).toNat * 7)).off + 2, none⟩ = some (.int .i64 ((rd_T56 l0_1 x7_3).f2)) ∧ w'.cell? ⟨(ad215.add ((x7_3).toNat * 7)).block, (ad215.add ((x7_3).toNat * 7)).off + 3, none⟩ = some (.int .u64 ((rd_T56 l0_1 x7_3).f3.f0)) ∧ w'.cell? ⟨(ad215.add ((x7_3).toNat * 7)).block, (ad215.add ((x7_3).toNat * 7)).off + 4, none⟩ = some (.int .u64 ((rd_T56 l0_1 x7_3).f3.f1)) ∧ w'.cell? ⟨(ad215.add ((x7_3).toNat * 7)).block, (ad215.add ((x7_3).toNat * 7)).off + 5, none⟩ = some (.int .u64 ((rd_T56 l0_1 x7_3).f3.f2)) ∧ w'.cell? ⟨(ad215.add ((x7_3).toNat * 7)).block, (ad215.add ((x7_3).toNat * 7)).off + 6, none⟩ = some (.int .u64 ((rd_T56 l0_1 x7_3).f3.f3))) (ds := []) #[false, false, false, false, false, false, false, false, false, false] (by kernel_rfl) rfl rfl ⟨(blk_cell BK210.out 0).trans rfl, (blk_cell BK210.out 1).trans rfl, ((HB.out.cell (World.block_lt_of_cell? w _ hw215_0)).trans hw215_0), ((HB.out.cell (World.block_lt_of_cell? w _ hw215_1)).trans hw215_1), ((HB.out.cell (World.block_lt_of_cell? w _ hw215_2)).trans hw215_2), ((HB.out.cell (World.block_lt_of_cell? w _ hw215_3)).trans hw215_3), ((HB.out.cell (World.block_lt_of_cell? w _ hw215_4)).trans hw215_4), ((HB.out.cell (World.block_lt_of_cell? w _ hw215_5)).trans hw215_5), ((HB.out.cell (World.block_lt_of_cell? w _ hw215_6)).trans hw215_6)⟩ (fun hHeld => ?_); refine with_tabW vetchref05_Check.tab18 vetchref05_Check.bits18 (fun HT_ HW_ => ?_)
             generalize wr.drew = w34 at BK210 HB HR215_1 hx215_0 hx215_1 hx215_2 hx215_3 hx215_4 hx215_5 hx215_6 hHeld ⊢
             refine pure_ (i := 0) (N := some 65) (v := ?_) (a' := ?_) #[true, false, false, false, false, false, false, false, false, false] rfl rfl (any_of HT_.out (by kernel_rfl)) (fun _ _ _ h => h) (Or.inl ⟨by rfl, ?_⟩) ?_ ?_
             rotate_left
             ·
              intro w'
              go_simp
              with_reducible rfl
             rotate_left
             ·
              simp only [Act.put, List.setIfInBounds_toArray, List.set_cons_zero, List.set_cons_succ, i64_w, i32_w]
              rfl
             refine pure_ (i := 2) (N := some 67) (v := ?_) (a' := ?_) #[true, false, true, false, false, false, false, false, false, false] rfl rfl (any_of HT_.out (by kernel_rfl)) (fun _ _ _ h => h) (Or.inl ⟨by rfl, ?_⟩) ?_ ?_
             rotate_left
             ·
              intro w'
              go_simp
              with_reducible rfl
             rotate_left
             ·
              simp only [Act.put, List.setIfInBounds_toArray, List.set_cons_zero, List.set_cons_succ, i64_w, i32_w]
              rfl
             refine pure_ (i := 5) (N := some 70) (v := ?_) (a' := ?_) #[true, false, true, false, false, true, false, false, false, false] rfl rfl (any_of HT_.out (by kernel_rfl)) (fun _ _ _ h => h) (Or.inl ⟨by rfl, ?_⟩) ?_ ?_
             rotate_left
             ·
              intro w'
              go_simp
              with_reducible rfl
             rotate_left
             ·
              simp only [Act.put, List.setIfInBounds_toArray, List.set_cons_zero, List.set_cons_succ, i64_w, i32_w]
              rfl
             refine take_ (i := 1) (N := some 66) (v := ?_) (a' := ?_) #[true, true, true, false, false, true, false, false, false, false] rfl rfl (take_ofW HT_.out HW_.out (by kernel_rfl)) (fun _ _ _ h => h) (Or.inl ⟨by rfl, ?_⟩) hHeld ?_ ?_
             rotate_left
             ·
              rintro w' ⟨s0, s1, s2, s3, s4, s5, s6, s7, s8⟩
              go_simp
              with_reducible rfl
             rotate_left
             ·
              simp only [Act.put, List.setIfInBounds_toArray, List.set_cons_zero, List.set_cons_succ, i64_w, i32_w]
              rfl
             refine pure_ (i := 3) (N := some 68) (v := ?_) (a' := ?_) #[true, true, true, true, false, true, false, false, false, false] rfl rfl (any_of HT_.out (by kernel_rfl)) (fun _ _ _ h => h) (Or.inl ⟨by rfl, ?_⟩) ?_ ?_
             rotate_left
             ·
              intro w'
              go_simp
              with_reducible rfl
             rotate_left
             ·
              simp only [Act.put, List.setIfInBounds_toArray, List.set_cons_zero, List.set_cons_succ, i64_w, i32_w]
              rfl
             refine take_ (i := 4) (N := some 69) (v := ?_) (a' := ?_) #[true, true, true, true, true, true, false, false, false, false] rfl rfl (take_ofW HT_.out HW_.out (by kernel_rfl)) (fun _ _ _ h => h) (Or.inl ⟨by rfl, ?_⟩) hHeld ?_ ?_
             rotate_left
             ·
              rintro w' ⟨s0, s1, s2, s3, s4, s5, s6, s7, s8⟩
              go_simp
              with_reducible rfl
             rotate_left
             ·
              simp only [Act.put, List.setIfInBounds_toArray, List.set_cons_zero, List.set_cons_succ, i64_w, i32_w]
              rfl
             refine take_ (i := 6) (N := some 71) (v := ?_) (a' := ?_) #[true, true, true, true, true, true, true, false, false, false] rfl rfl (take_ofW HT_.out HW_.out (by kernel_rfl)) (fun _ _ _ h => h) (Or.inl ⟨by rfl, ?_⟩) hHeld ?_ ?_
             rotate_left
             ·
              rintro w' ⟨s0, s1, s2, s3, s4, s5, s6, s7, s8⟩
              go_simp
              with_reducible rfl
             rotate_left
             ·
              simp only [Act.put, List.setIfInBounds_toArray, List.set_cons_zero, List.set_cons_succ, i64_w, i32_w]
              rfl
             refine pure_ (i := 7) (N := some 72) (v := ?_) (a' := ?_) #[true, true, true, true, true, true, true, true, false, false] rfl rfl (any_of HT_.out (by kernel_rfl)) (fun _ _ _ h => h) (Or.inl ⟨by rfl, ?_⟩) ?_ ?_
             rotate_left
             ·
              intro w'
              go_simp
              with_reducible rfl
             rotate_left
             ·
              simp only [Act.put, List.setIfInBounds_toArray, List.set_cons_zero, List.set_cons_succ, i64_w, i32_w]
              rfl
             refine one_ (i := 8) (N := some 73) #[true, true, true, true, true, true, true, true, true, false] rfl rfl (one_of HT_.out (by kernel_rfl)) (by decide) (fun K hK => ?_)
             refine goes_ Try.func37 (by kernel_rfl) rfl #[.agg #[.int .i64 ((rd_T56 l0_1 x7_3).f0), .slice A215_1 ((rd_T56 l0_1 x7_3).f1).length c215_1, .int .i64 ((rd_T56 l0_1 x7_3).f2), .int .u64 ((rd_T56 l0_1 x7_3).f3.f0), .int .u64 ((rd_T56 l0_1 x7_3).f3.f1), .int .u64 ((rd_T56 l0_1 x7_3).f3.f2), .int .u64 ((rd_T56 l0_1 x7_3).f3.f3)], .int .i64 (l0_0.length : Int)] (by rfl) rfl rfl (by (try simp only [List.map_toArray, List.map_cons, List.map_nil]); first | done | rfl | (simp only [List.length_drop, List.length_take]; rfl)) ?_
             with_reducible refine (vetchref05_Made.calls k3 ((rd_T56 l0_1 x7_3).f0) _ _ ((rd_T56 l0_1 x7_3).f1) ((rd_T56 l0_1 x7_3).f2) ((rd_T56 l0_1 x7_3).f3.f0) ((rd_T56 l0_1 x7_3).f3.f1) ((rd_T56 l0_1 x7_3).f3.f2) ((rd_T56 l0_1 x7_3).f3.f3) (l0_0.length : Int) false _ ?side1 ?side2 A28.out).mono ?_
             (case side1 => repeat (first | exact (Kd.C_below HR215_1.out HB.out) | (with_reducible refine Kd.C_alloc ?_ _) | (with_reducible refine Kd.C_drewN ?_ _) | (with_reducible refine Kd.C_drew ?_)))
             (case side2 => exact HC215_1.out)
             rintro e w35 ⟨rfl, hb⟩
             refine ⟨_, rfl, ?_⟩
             have n0_ := Aside0.mk (blk_below (g := gb210) (o := .cells #[.slice A0_0 l0_0.length c0_0, .slice (some ad215) l0_1.length c0_1] 25 (0, 0)) (by (with_reducible repeat (first | refine blk_drewN ?_ _ | refine blk_drew ?_ | refine blk_alloc ?_ _)); exact BK210.out) hb)
             have n1_ := Aside0.mk (below_step (by repeat (first | (with_reducible first | exact HB.out | apply below_alloc | apply pw_below_drewN | apply below_drew1 | refine below_set ?_ GE210.out) | exact HB.out)) hb)
             clear BK210
             clear HB
             have BK210 := n0_
             have HB := n1_
             clear n0_ n1_
             (try clear hb)
             (try clear hb2)
             (try clear hk)
             (try clear hi)
             refine hK.out _ _ ⟨(blk_cell BK210.out 0).trans rfl, (blk_cell BK210.out 1).trans rfl, ((HB.out.cell (World.block_lt_of_cell? w _ hw215_0)).trans hw215_0), ((HB.out.cell (World.block_lt_of_cell? w _ hw215_1)).trans hw215_1), ((HB.out.cell (World.block_lt_of_cell? w _ hw215_2)).trans hw215_2), ((HB.out.cell (World.block_lt_of_cell? w _ hw215_3)).trans hw215_3), ((HB.out.cell (World.block_lt_of_cell? w _ hw215_4)).trans hw215_4), ((HB.out.cell (World.block_lt_of_cell? w _ hw215_5)).trans hw215_5), ((HB.out.cell (World.block_lt_of_cell? w _ hw215_6)).trans hw215_6)⟩ (fun hHeld => ?_)
             clear hK K
             refine norm_ (a' := ?_) ?_ ?_
             rotate_left
             ·
              show Act.put _ (some 73) _ = _
              simp only [Act.put, List.setIfInBounds_toArray, List.set_cons_zero, List.set_cons_succ, i64_w, i32_w]
              rfl
             refine pure_ (i := 9) (N := some 74) (v := ?_) (a' := ?_) #[true, true, true, true, true, true, true, true, true, true] rfl rfl (any_of HT_.out (by kernel_rfl)) (fun _ _ _ h => h) (Or.inl ⟨by rfl, ?_⟩) ?_ ?_
             rotate_left
             ·
              intro w'
              go_simp
              with_reducible rfl
             rotate_left
             ·
              simp only [Act.put, List.setIfInBounds_toArray, List.set_cons_zero, List.set_cons_succ, i64_w, i32_w]
              rfl
             refine done_ (done_of HT_.out (by kernel_rfl)) ?_
             try go_wp2
             go_ret3
             exact ⟨by first | rfl | (simp [errW_none, errW_some] <;> rfl) | (simp [*, errW_none, errW_some] <;> rfl), by repeat (first | (with_reducible first | exact HB.out | apply below_alloc | apply pw_below_drewN | apply below_drew1 | refine below_set ?_ GE210.out) | exact HB.out)⟩
           ·
            rw [if_neg c27] at H
            exact absurd H (by simp)
          ·
           rw [if_neg c26] at H
           have c26b0 : decide (x7_3 < (l0_1.length : Int)) = false := decide_eq_false c26
           clear c26
           replace H := Option.bind_eq_some_iff.mp H
           obtain ⟨t217, A360, H⟩ := H
           replace H : (if t217 = true then (vetchref05_Check.l3 k3 0 l0_0 l0_1) else (some ((⟨#[]⟩ : ByteArray), 10, 0))) = some (r1, r2, r3) := H
           have A36 := Aside0.mk A360
           clear A360
           by_cases c37 : t217 = true
           ·
            subst c37
            have H1 : (vetchref05_Check.l3 k3 0 l0_0 l0_1) = some (r1, r2, r3) := by rw [if_pos rfl] at H; exact H
            clear H
            have H := H1
            clear H1
            have H' := Aside0.mk H
            clear H
            have hcz38_0 : wr.cell? ⟨gb210, 0, none⟩ = some (.slice A0_0 l0_0.length c0_0) := (blk_cell BK210.out 0).trans rfl
            have hcz38_1 : wr.cell? ⟨gb210, 1, none⟩ = some (.slice A0_1 l0_1.length c0_1) := (blk_cell BK210.out 1).trans rfl
            have hfz38_0 := blk_frozen BK210.out 0
            have hfz38_1 := blk_frozen BK210.out 1
            go_wp2_with (first | ((with_reducible refine gate_callee (f := 38) rfl ?_); refine goesL_ (some 77) rfl rfl Try.func38 (by kernel_rfl) rfl #[.agg #[.slice A0_0 l0_0.length c0_0, .slice A0_1 l0_1.length c0_1]] rfl (by (try simp only [List.map_toArray, List.map_cons, List.map_nil]); first | done | rfl | (simp only [List.length_drop, List.length_take]; rfl)) ?_; (with_reducible refine (vetchref05_Ordered.calls k3 _ _ l0_0 _ _ l0_1 true _ ?side1 ?side2 ?side3 ?side4 A36.out).mono ?_); (case side1 => repeat (first | exact (Kd.C_below HR0_0.out HB.out) | (with_reducible refine Kd.C_alloc ?_ _) | (with_reducible refine Kd.C_drewN ?_ _) | (with_reducible refine Kd.C_drew ?_))); (case side2 => exact HC0_0.out); (case side3 => repeat (first | exact (Kd.C_below HR0_1.out HB.out) | (with_reducible refine Kd.C_alloc ?_ _) | (with_reducible refine Kd.C_drewN ?_ _) | (with_reducible refine Kd.C_drew ?_))); (case side4 => exact HC0_1.out); rintro e w39 ⟨rfl, hb⟩; refine ⟨_, rfl, ?_⟩; have n0_ := Aside0.mk (blk_below (g := gb210) (o := .cells #[.slice A0_0 l0_0.length c0_0, .slice A0_1 l0_1.length c0_1] 25 (0, 0)) (by (with_reducible repeat (first | refine blk_drewN ?_ _ | refine blk_drew ?_ | refine blk_alloc ?_ _)); exact BK210.out) hb); have n1_ := Aside0.mk (below_step (by repeat (first | (with_reducible first | exact HB.out | apply below_alloc | apply pw_below_drewN | apply below_drew1 | refine below_set ?_ GE210.out) | exact HB.out)) hb); clear BK210; clear HB; have BK210 := n0_; have HB := n1_; clear n0_ n1_; (try clear hb); (try clear hb2); (try clear hk); (try clear hi)))
            go_loopg [8] k3 (fun kq v8 w' => ∃ (x8_4 : Int), v8 = .int .i64 x8_4 ∧ Aside0 (vetchref05_Check.l3 kq x8_4 l0_0 l0_1 = some (r1, r2, r3)) ∧ Aside0 (kq ≤ k3) ∧ Aside0 (w'.heap[gb210]? = some (.cells #[(.slice A0_0 l0_0.length c0_0), (.slice A0_1 l0_1.length c0_1)] 25 (0, 0))) ∧ Aside0 (Below w.heap.size w w'))
            case atStart => exact ⟨(0), (by first | rfl | (simp; done) | (simp [*]; done)), H', ⟨Nat.le_refl _⟩, ⟨by (with_reducible repeat (first | refine blk_drewN ?_ _ | refine blk_drew ?_ | refine blk_alloc ?_ _)); exact BK210.out⟩, ⟨by repeat (first | (with_reducible first | exact HB.out | apply below_alloc | apply pw_below_drewN | apply below_drew1 | refine below_set ?_ GE210.out) | exact HB.out)⟩⟩
            case round =>
             clear H'
             try clear c1
             try clear c2
             try clear p2
             try clear q2
             try clear hx2
             try clear c3
             try clear c4
             try clear c4b0
             try clear c4b1
             try clear p6
             try clear c7
             try clear c8
             try clear c8b0
             try clear c8b1
             try clear c8b2
             try clear c11
             try clear c11b0
             try clear c12
             try clear c12b0
             try clear c14
             try clear c16
             try clear c16b0
             try clear c17
             try clear c17b0
             try clear c18
             try clear c18b0
             try clear c19
             try clear c19b0
             try clear c20
             try clear c20b0
             try clear c21
             try clear c21b0
             try clear c21b1
             try clear p21
             try clear q21
             try clear hx21
             try clear c26
             try clear c26b0
             try clear c27
             try clear c27b0
             try clear c29
             try clear c36
             try clear c37
             try clear c38
             try clear hcz10_0
             try clear hcz10_1
             try clear hcz15_0
             try clear hcz15_1
             try clear hcz24_0
             try clear hcz24_1
             try clear hcz25_0
             try clear hcz25_1
             try clear hcz30_0
             try clear hcz30_1
             try clear hcz33_0
             try clear hcz33_1
             try clear hcz38_0
             try clear hcz38_1
             try clear hcz5_0
             try clear hcz5_1
             try clear hcz6_0
             try clear hcz6_1
             try clear hcz9_0
             try clear hcz9_1
             try clear hfz10_0
             try clear hfz10_1
             try clear hfz15_0
             try clear hfz15_1
             try clear hfz24_0
             try clear hfz24_1
             try clear hfz25_0
             try clear hfz25_1
             try clear hfz30_0
             try clear hfz30_1
             try clear hfz33_0
             try clear hfz33_1
             try clear hfz38_0
             try clear hfz38_1
             try clear hfz5_0
             try clear hfz5_1
             try clear hfz6_0
             try clear hfz6_1
             try clear hfz9_0
             try clear hfz9_1
             try clear hx211_0
             try clear hx211_1
             try clear hx213_0
             try clear hx213_1
             try clear hx214_0
             try clear hx214_1
             try clear hx215_0
             try clear hx215_1
             try clear hx215_2
             try clear hx215_3
             try clear hx215_4
             try clear hx215_5
             try clear hx215_6
             try clear p2
             try clear p21
             try clear p211
             try clear p213
             try clear p214
             try clear p215
             try clear p6
             try clear q2
             try clear q21
             try clear q211
             try clear q213
             try clear q214
             try clear q215
             obtain ⟨x8_4, rfl, HA, HK4, BK210, HB⟩ := hrel
             cases gk with
             | zero => exact absurd HA.out (by simp [vetchref05_Check.l3])
             | succ k4 =>
              have H := HA.out
              clear HA
              simp only [vetchref05_Check.l3] at H
              by_cases c40 : x8_4 < (l0_1.length : Int)
              ·
               rw [if_pos c40] at H
               have c40b0 : decide (x8_4 < (l0_1.length : Int)) = true := decide_eq_true c40
               clear c40
               replace H := Option.bind_eq_some_iff.mp H
               obtain ⟨t218, A410, H⟩ := H
               replace H : (if t218 > 200 then (some ((⟨#[110, 111, 100, 101, 115]⟩ : ByteArray), 5, x8_4)) else (vetchref05_Check.l3 k4 (wrap64 (x8_4 + 1)) l0_0 l0_1)) = some (r1, r2, r3) := H
               have A41 := Aside0.mk A410
               clear A410
               by_cases c42 : t218 > 200
               ·
                rw [if_pos c42] at H
                have c42b0 : decide (200 < t218) = true := decide_eq_true c42
                clear c42
                simp only [Option.some.injEq, Prod.mk.injEq] at H
                obtain ⟨rfl, rfl, rfl⟩ := H
                have hcz43_0 : wr.cell? ⟨gb210, 0, none⟩ = some (.slice A0_0 l0_0.length c0_0) := (blk_cell BK210.out 0).trans rfl
                have hcz43_1 : wr.cell? ⟨gb210, 1, none⟩ = some (.slice A0_1 l0_1.length c0_1) := (blk_cell BK210.out 1).trans rfl
                have hfz43_0 := blk_frozen BK210.out 0
                have hfz43_1 := blk_frozen BK210.out 1
                go_wp2_with (first | ((with_reducible refine gate_callee (f := 39) rfl ?_); refine goesL_ (some 88) rfl rfl Try.func39 (by kernel_rfl) rfl #[.agg #[.slice A0_0 l0_0.length c0_0, .slice A0_1 l0_1.length c0_1], .int .i64 x8_4, .int .i64 205] rfl (by (try simp only [List.map_toArray, List.map_cons, List.map_nil]); first | done | rfl | (simp only [List.length_drop, List.length_take]; rfl)) ?_; (with_reducible refine (vetchref05_Depth.calls k4 _ _ l0_0 _ _ l0_1 x8_4 205 t218 _ ?side1 ?side2 ?side3 ?side4 A41.out).mono ?_); (case side1 => repeat (first | exact (Kd.C_below HR0_0.out HB.out) | (with_reducible refine Kd.C_alloc ?_ _) | (with_reducible refine Kd.C_drewN ?_ _) | (with_reducible refine Kd.C_drew ?_))); (case side2 => exact HC0_0.out); (case side3 => repeat (first | exact (Kd.C_below HR0_1.out HB.out) | (with_reducible refine Kd.C_alloc ?_ _) | (with_reducible refine Kd.C_drewN ?_ _) | (with_reducible refine Kd.C_drew ?_))); (case side4 => exact HC0_1.out); rintro e w44 ⟨rfl, hb⟩; refine ⟨_, rfl, ?_⟩; have n0_ := Aside0.mk (blk_below (g := gb210) (o := .cells #[.slice A0_0 l0_0.length c0_0, .slice A0_1 l0_1.length c0_1] 25 (0, 0)) (by (with_reducible repeat (first | refine blk_drewN ?_ _ | refine blk_drew ?_ | refine blk_alloc ?_ _)); exact BK210.out) hb); have n1_ := Aside0.mk (below_step (by repeat (first | (with_reducible first | exact HB.out | apply below_alloc | apply pw_below_drewN | apply below_drew1 | refine below_set ?_ GE210.out) | exact HB.out)) hb); clear BK210; clear HB; have BK210 := n0_; have HB := n1_; clear n0_ n1_; (try clear hb); (try clear hb2); (try clear hk); (try clear hi)))
                go_ret3
                exact ⟨by first | rfl | (simp [errW_none, errW_some] <;> rfl) | (simp [*, errW_none, errW_some] <;> rfl), by repeat (first | (with_reducible first | exact HB.out | apply below_alloc | apply pw_below_drewN | apply below_drew1 | refine below_set ?_ GE210.out) | exact HB.out)⟩
               ·
                rw [if_neg c42] at H
                have c42b0 : decide (200 < t218) = false := decide_eq_false c42
                clear c42
                have H' := Aside0.mk H
                clear H
                have hcz45_0 : wr.cell? ⟨gb210, 0, none⟩ = some (.slice A0_0 l0_0.length c0_0) := (blk_cell BK210.out 0).trans rfl
                have hcz45_1 : wr.cell? ⟨gb210, 1, none⟩ = some (.slice A0_1 l0_1.length c0_1) := (blk_cell BK210.out 1).trans rfl
                have hfz45_0 := blk_frozen BK210.out 0
                have hfz45_1 := blk_frozen BK210.out 1
                go_wp2_with (first | ((with_reducible refine gate_callee (f := 39) rfl ?_); refine goesL_ (some 88) rfl rfl Try.func39 (by kernel_rfl) rfl #[.agg #[.slice A0_0 l0_0.length c0_0, .slice A0_1 l0_1.length c0_1], .int .i64 x8_4, .int .i64 205] rfl (by (try simp only [List.map_toArray, List.map_cons, List.map_nil]); first | done | rfl | (simp only [List.length_drop, List.length_take]; rfl)) ?_; (with_reducible refine (vetchref05_Depth.calls k4 _ _ l0_0 _ _ l0_1 x8_4 205 t218 _ ?side1 ?side2 ?side3 ?side4 A41.out).mono ?_); (case side1 => repeat (first | exact (Kd.C_below HR0_0.out HB.out) | (with_reducible refine Kd.C_alloc ?_ _) | (with_reducible refine Kd.C_drewN ?_ _) | (with_reducible refine Kd.C_drew ?_))); (case side2 => exact HC0_0.out); (case side3 => repeat (first | exact (Kd.C_below HR0_1.out HB.out) | (with_reducible refine Kd.C_alloc ?_ _) | (with_reducible refine Kd.C_drewN ?_ _) | (with_reducible refine Kd.C_drew ?_))); (case side4 => exact HC0_1.out); rintro e w46 ⟨rfl, hb⟩; refine ⟨_, rfl, ?_⟩; have n0_ := Aside0.mk (blk_below (g := gb210) (o := .cells #[.slice A0_0 l0_0.length c0_0, .slice A0_1 l0_1.length c0_1] 25 (0, 0)) (by (with_reducible repeat (first | refine blk_drewN ?_ _ | refine blk_drew ?_ | refine blk_alloc ?_ _)); exact BK210.out) hb); have n1_ := Aside0.mk (below_step (by repeat (first | (with_reducible first | exact HB.out | apply below_alloc | apply pw_below_drewN | apply below_drew1 | refine below_set ?_ GE210.out) | exact HB.out)) hb); clear BK210; clear HB; have BK210 := n0_; have HB := n1_; clear n0_ n1_; (try clear hb); (try clear hb2); (try clear hk); (try clear hi)))
                go_roundg k4
                case measure => have := HJ1.out; have := HK2.out; have := HK3.out; have := HK4.out; omega
                case rel => exact ⟨(wrap64 (x8_4 + 1)), (by first | rfl | (simp; done) | (simp [*]; done)), H', ⟨by have := HJ1.out; have := HK2.out; have := HK3.out; have := HK4.out; omega⟩, ⟨by (with_reducible repeat (first | refine blk_drewN ?_ _ | refine blk_drew ?_ | refine blk_alloc ?_ _)); exact BK210.out⟩, ⟨by repeat (first | (with_reducible first | exact HB.out | apply below_alloc | apply pw_below_drewN | apply below_drew1 | refine below_set ?_ GE210.out) | exact HB.out)⟩⟩
              ·
               rw [if_neg c40] at H
               have c40b0 : decide (x8_4 < (l0_1.length : Int)) = false := decide_eq_false c40
               clear c40
               simp only [Option.some.injEq, Prod.mk.injEq] at H
               obtain ⟨rfl, rfl, rfl⟩ := H
               have hcz47_0 : wr.cell? ⟨gb210, 0, none⟩ = some (.slice A0_0 l0_0.length c0_0) := (blk_cell BK210.out 0).trans rfl
               have hcz47_1 : wr.cell? ⟨gb210, 1, none⟩ = some (.slice A0_1 l0_1.length c0_1) := (blk_cell BK210.out 1).trans rfl
               have hfz47_0 := blk_frozen BK210.out 0
               have hfz47_1 := blk_frozen BK210.out 1
               go_wp2
               go_ret3
               exact ⟨by first | rfl | (simp [errW_none, errW_some] <;> rfl) | (simp [*, errW_none, errW_some] <;> rfl), by repeat (first | (with_reducible first | exact HB.out | apply below_alloc | apply pw_below_drewN | apply below_drew1 | refine below_set ?_ GE210.out) | exact HB.out)⟩
           ·
            replace c37 := Bool.eq_false_iff.mpr c37
            subst c37
            have H1 : (some ((⟨#[]⟩ : ByteArray), 10, 0)) = some (r1, r2, r3) := by rw [if_neg (show ¬ (false = true) by decide)] at H; exact H
            clear H
            have H := H1
            clear H1
            simp only [Option.some.injEq, Prod.mk.injEq] at H
            obtain ⟨rfl, rfl, rfl⟩ := H
            have hcz48_0 : wr.cell? ⟨gb210, 0, none⟩ = some (.slice A0_0 l0_0.length c0_0) := (blk_cell BK210.out 0).trans rfl
            have hcz48_1 : wr.cell? ⟨gb210, 1, none⟩ = some (.slice A0_1 l0_1.length c0_1) := (blk_cell BK210.out 1).trans rfl
            have hfz48_0 := blk_frozen BK210.out 0
            have hfz48_1 := blk_frozen BK210.out 1
            go_wp2_with (first | ((with_reducible refine gate_callee (f := 38) rfl ?_); refine goesL_ (some 77) rfl rfl Try.func38 (by kernel_rfl) rfl #[.agg #[.slice A0_0 l0_0.length c0_0, .slice A0_1 l0_1.length c0_1]] rfl (by (try simp only [List.map_toArray, List.map_cons, List.map_nil]); first | done | rfl | (simp only [List.length_drop, List.length_take]; rfl)) ?_; (with_reducible refine (vetchref05_Ordered.calls k3 _ _ l0_0 _ _ l0_1 false _ ?side1 ?side2 ?side3 ?side4 A36.out).mono ?_); (case side1 => repeat (first | exact (Kd.C_below HR0_0.out HB.out) | (with_reducible refine Kd.C_alloc ?_ _) | (with_reducible refine Kd.C_drewN ?_ _) | (with_reducible refine Kd.C_drew ?_))); (case side2 => exact HC0_0.out); (case side3 => repeat (first | exact (Kd.C_below HR0_1.out HB.out) | (with_reducible refine Kd.C_alloc ?_ _) | (with_reducible refine Kd.C_drewN ?_ _) | (with_reducible refine Kd.C_drew ?_))); (case side4 => exact HC0_1.out); rintro e w49 ⟨rfl, hb⟩; refine ⟨_, rfl, ?_⟩; have n0_ := Aside0.mk (blk_below (g := gb210) (o := .cells #[.slice A0_0 l0_0.length c0_0, .slice A0_1 l0_1.length c0_1] 25 (0, 0)) (by (with_reducible repeat (first | refine blk_drewN ?_ _ | refine blk_drew ?_ | refine blk_alloc ?_ _)); exact BK210.out) hb); have n1_ := Aside0.mk (below_step (by repeat (first | (with_reducible first | exact HB.out | apply below_alloc | apply pw_below_drewN | apply below_drew1 | refine below_set ?_ GE210.out) | exact HB.out)) hb); clear BK210; clear HB; have BK210 := n0_; have HB := n1_; clear n0_ n1_; (try clear hb); (try clear hb2); (try clear hk); (try clear hi)))
            go_ret3
            exact ⟨by first | rfl | (simp [errW_none, errW_some] <;> rfl) | (simp [*, errW_none, errW_some] <;> rfl), by repeat (first | (with_reducible first | exact HB.out | apply below_alloc | apply pw_below_drewN | apply below_drew1 | refine below_set ?_ GE210.out) | exact HB.out)⟩
end Go.Proofs.Ythgedejnpgcacaa.V
namespace Go.Proofs.Ythgedejnpgcacaa.V
open Go.RowKit Go.Proofs.YthgedejnpgcacaaW.PrintWords Go.Proofs.YthgedejnpgcacaaW.PrintLast Go.Proofs.YthgedejnpgcacaaW.PrintMore
attribute [local go_sem] max2_int min2_int max_two min_two max_three min_three max_four min_four tdiv_most
set_option linter.unusedVariables false
set_option linter.unusedSimpArgs false
def vetchref05_Valid.f (k : Nat) (l0_0 : List (S51)) (l0_1 : List (S56)) : Option (Bool) := (vetchref05_Check.f k l0_0 l0_1).bind fun bt220 => (some (bt220.2.1 == 0))
theorem vetchref05_Valid.mono : ∀ a0 a1 k, LeO (vetchref05_Valid.f k a0 a1) (vetchref05_Valid.f (k + 1) a0 a1) := by
 intro a0 a1 k
 unfold vetchref05_Valid.f
 repeat' first
  | (with_reducible exact vetchref05_Check.mono _ _ _)
  | (with_reducible exact LeO.refl _)
  | (with_reducible exact LeO.none _)
  | (with_reducible refine LeO.ite ?_ ?_)
  | (with_reducible refine LeO.bind ?_ (fun _ => ?_))
  | exact vetchref05_Check.mono _ _ _
  | exact LeO.none _
  | refine LeO.ite ?_ ?_
  | refine LeO.bind ?_ (fun _ => ?_)
set_option maxHeartbeats 8000000 in
set_option maxRecDepth 100000 in
theorem vetchref05_Valid.calls (k : Nat) (A0_0 : Option Addr) (c0_0 : Nat) (l0_0 : List (S51)) (A0_1 : Option Addr) (c0_1 : Nat) (l0_1 : List (S56)) (r : Bool) (w : World) (hr0_0 : Kd.C k51 w A0_0 l0_0.length l0_0) (hc0_0 : l0_0.length ≤ c0_0) (hr0_1 : Kd.C k56 w A0_1 l0_1.length l0_1) (hc0_1 : l0_1.length ≤ c0_1) (h : vetchref05_Valid.f k l0_0 l0_1 = some r) :
 Calls Try.prog 25 #[.agg #[.slice A0_0 l0_0.length c0_0, .slice A0_1 l0_1.length c0_1]] w fun e w' => e = .returned (.bool r) ∧ Below w.heap.size w w' := by
 have hu25 := Try.underlying25
 have HR0_0 := Aside0.mk hr0_0
 have HC0_0 := Aside0.mk hc0_0
 clear hr0_0 hc0_0
 have HR0_1 := Aside0.mk hr0_1
 have HC0_1 := Aside0.mk hc0_1
 clear hr0_1 hc0_1
 have HB := Aside0.mk (Below.refl w.heap.size w)
 have H : ((vetchref05_Check.f k l0_0 l0_1).bind fun bt220 => (some (bt220.2.1 == 0))) = some r := h
 clear h
 replace H := Option.bind_eq_some_iff.mp H
 obtain ⟨⟨t220, t221, t222⟩, A20, H⟩ := H
 replace H : (some (t221 == 0)) = some r := H
 have A2 := Aside0.mk A20
 clear A20
 obtain rfl := Option.some.inj H
 go_enter Try.func25, Try.ntmps25
 go_wp2_with (first | ((with_reducible refine gate_dst (N := 1) rfl ?_); refine box_event ?hg (N := 1) ?hd (cs := #[.slice A0_0 l0_0.length c0_0, .slice A0_1 l0_1.length c0_1]) (t := 25) ?hr ?_; (case hd => rfl); (case hg => rfl); (case hr => first | (go_simp; done) | (go_simp; rfl)); intro gb219 hg w3 hbox hb; have n0_ := Aside0.mk (below_step (by repeat (first | (with_reducible first | exact HB.out | apply below_alloc | apply pw_below_drewN | apply below_drew1) | exact HB.out)) hb); have n1_ := Aside0.mk (hbox); have n2_ := Aside0.mk ((by rw [hg]; exact (below_size (by repeat (first | (with_reducible first | exact HB.out | apply below_alloc | apply pw_below_drewN | apply below_drew1) | exact HB.out))) : w.heap.size ≤ gb219)); have n3_ := Aside0.mk ((by rw [hg]; exact (below_size (by repeat (first | (with_reducible first | exact HB.out | apply below_alloc | apply pw_below_drewN | apply below_drew1) | exact HB.out))) : w.heap.size ≤ gb219)); clear HB; have HB := n0_; have BK219 := n1_; have GW219 := n2_; have GE219 := n3_; clear n0_ n1_ n2_ n3_; clear hb hbox hg; have hcz4_0 : w3.cell? ⟨gb219, 0, none⟩ = some (.slice A0_0 l0_0.length c0_0) := (blk_cell BK219.out 0).trans rfl; have hcz4_1 : w3.cell? ⟨gb219, 1, none⟩ = some (.slice A0_1 l0_1.length c0_1) := (blk_cell BK219.out 1).trans rfl; have hfz4_0 := blk_frozen BK219.out 0; have hfz4_1 := blk_frozen BK219.out 1) | ((with_reducible refine gate_callee (f := 32) rfl ?_); refine goesL_ (some 8) rfl rfl Try.func32 (by kernel_rfl) rfl #[.agg #[.slice A0_0 l0_0.length c0_0, .slice A0_1 l0_1.length c0_1]] rfl (by (try simp only [List.map_toArray, List.map_cons, List.map_nil]); first | done | rfl | (simp only [List.length_drop, List.length_take]; rfl)) ?_; (with_reducible refine (vetchref05_Check.calls k _ _ l0_0 _ _ l0_1 t220 t221 t222 _ ?side1 ?side2 ?side3 ?side4 A2.out).mono ?_); (case side1 => repeat (first | exact (Kd.C_below HR0_0.out HB.out) | (with_reducible refine Kd.C_alloc ?_ _) | (with_reducible refine Kd.C_drewN ?_ _) | (with_reducible refine Kd.C_drew ?_))); (case side2 => exact HC0_0.out); (case side3 => repeat (first | exact (Kd.C_below HR0_1.out HB.out) | (with_reducible refine Kd.C_alloc ?_ _) | (with_reducible refine Kd.C_drewN ?_ _) | (with_reducible refine Kd.C_drew ?_))); (case side4 => exact HC0_1.out); rintro e w5 ⟨rfl, hb⟩; refine ⟨_, rfl, ?_⟩; have n0_ := Aside0.mk (blk_below (g := gb219) (o := .cells #[.slice A0_0 l0_0.length c0_0, .slice A0_1 l0_1.length c0_1] 25 (0, 0)) (by (with_reducible repeat (first | refine blk_drewN ?_ _ | refine blk_drew ?_ | refine blk_alloc ?_ _)); exact BK219.out) hb); have n1_ := Aside0.mk (below_step (by repeat (first | (with_reducible first | exact HB.out | apply below_alloc | apply pw_below_drewN | apply below_drew1 | refine below_set ?_ GE219.out) | exact HB.out)) hb); clear BK219; clear HB; have BK219 := n0_; have HB := n1_; clear n0_ n1_; (try clear hb); (try clear hb2); (try clear hk); (try clear hi)))
 go_ret
 exact ⟨by first | rfl | (simp [errW_none, errW_some] <;> rfl) | (simp [*, errW_none, errW_some] <;> rfl), by repeat (first | (with_reducible first | exact HB.out | apply below_alloc | apply pw_below_drewN | apply below_drew1 | refine below_set ?_ GE219.out) | exact HB.out)⟩
def vetchref05_Small.f (k : Nat) (l0_0 : List (S51)) (l0_1 : List (S56)) : Option (Bool) := (vetchref05_Few.f k l0_0 l0_1).bind fun t224 => (if t224 = true then ((vetchref05_Valid.f k l0_0 l0_1).bind fun t225 => (some t225)) else (some false))
theorem vetchref05_Small.mono : ∀ a0 a1 k, LeO (vetchref05_Small.f k a0 a1) (vetchref05_Small.f (k + 1) a0 a1) := by
 intro a0 a1 k
 unfold vetchref05_Small.f
 repeat' first
  | (with_reducible exact vetchref05_Few.mono _ _ _)
  | (with_reducible exact vetchref05_Valid.mono _ _ _)
  | (with_reducible exact LeO.refl _)
  | (with_reducible exact LeO.none _)
  | (with_reducible refine LeO.ite ?_ ?_)
  | (with_reducible refine LeO.bind ?_ (fun _ => ?_))
  | exact vetchref05_Few.mono _ _ _
  | exact vetchref05_Valid.mono _ _ _
  | exact LeO.none _
  | refine LeO.ite ?_ ?_
  | refine LeO.bind ?_ (fun _ => ?_)
set_option maxHeartbeats 8000000 in
set_option maxRecDepth 100000 in
theorem vetchref05_Small.calls (k : Nat) (A0_0 : Option Addr) (c0_0 : Nat) (l0_0 : List (S51)) (A0_1 : Option Addr) (c0_1 : Nat) (l0_1 : List (S56)) (r : Bool) (w : World) (hr0_0 : Kd.C k51 w A0_0 l0_0.length l0_0) (hc0_0 : l0_0.length ≤ c0_0) (hr0_1 : Kd.C k56 w A0_1 l0_1.length l0_1) (hc0_1 : l0_1.length ≤ c0_1) (h : vetchref05_Small.f k l0_0 l0_1 = some r) :
 Calls Try.prog 18 #[.agg #[.slice A0_0 l0_0.length c0_0, .slice A0_1 l0_1.length c0_1]] w fun e w' => e = .returned (.bool r) ∧ Below w.heap.size w w' := by
 have hu25 := Try.underlying25
 have HR0_0 := Aside0.mk hr0_0
 have HC0_0 := Aside0.mk hc0_0
 clear hr0_0 hc0_0
 have HR0_1 := Aside0.mk hr0_1
 have HC0_1 := Aside0.mk hc0_1
 clear hr0_1 hc0_1
 have HB := Aside0.mk (Below.refl w.heap.size w)
 have H : ((vetchref05_Few.f k l0_0 l0_1).bind fun t224 => (if t224 = true then ((vetchref05_Valid.f k l0_0 l0_1).bind fun t225 => (some t225)) else (some false))) = some r := h
 clear h
 replace H := Option.bind_eq_some_iff.mp H
 obtain ⟨t224, A20, H⟩ := H
 replace H : (if t224 = true then ((vetchref05_Valid.f k l0_0 l0_1).bind fun t225 => (some t225)) else (some false)) = some r := H
 have A2 := Aside0.mk A20
 clear A20
 by_cases c3 : t224 = true
 ·
  subst c3
  have H1 : ((vetchref05_Valid.f k l0_0 l0_1).bind fun t225 => (some t225)) = some r := by rw [if_pos rfl] at H; exact H
  clear H
  have H := H1
  clear H1
  replace H := Option.bind_eq_some_iff.mp H
  obtain ⟨t225, A40, H⟩ := H
  replace H : (some t225) = some r := H
  have A4 := Aside0.mk A40
  clear A40
  obtain rfl := Option.some.inj H
  go_enter Try.func18, Try.ntmps18
  go_wp2_with (first | ((with_reducible refine gate_dst (N := 1) rfl ?_); refine box_event ?hg (N := 1) ?hd (cs := #[.slice A0_0 l0_0.length c0_0, .slice A0_1 l0_1.length c0_1]) (t := 25) ?hr ?_; (case hd => rfl); (case hg => rfl); (case hr => first | (go_simp; done) | (go_simp; rfl)); intro gb223 hg w5 hbox hb; have n0_ := Aside0.mk (below_step (by repeat (first | (with_reducible first | exact HB.out | apply below_alloc | apply pw_below_drewN | apply below_drew1) | exact HB.out)) hb); have n1_ := Aside0.mk (hbox); have n2_ := Aside0.mk ((by rw [hg]; exact (below_size (by repeat (first | (with_reducible first | exact HB.out | apply below_alloc | apply pw_below_drewN | apply below_drew1) | exact HB.out))) : w.heap.size ≤ gb223)); have n3_ := Aside0.mk ((by rw [hg]; exact (below_size (by repeat (first | (with_reducible first | exact HB.out | apply below_alloc | apply pw_below_drewN | apply below_drew1) | exact HB.out))) : w.heap.size ≤ gb223)); clear HB; have HB := n0_; have BK223 := n1_; have GW223 := n2_; have GE223 := n3_; clear n0_ n1_ n2_ n3_; clear hb hbox hg; have hcz6_0 : w5.cell? ⟨gb223, 0, none⟩ = some (.slice A0_0 l0_0.length c0_0) := (blk_cell BK223.out 0).trans rfl; have hcz6_1 : w5.cell? ⟨gb223, 1, none⟩ = some (.slice A0_1 l0_1.length c0_1) := (blk_cell BK223.out 1).trans rfl; have hfz6_0 := blk_frozen BK223.out 0; have hfz6_1 := blk_frozen BK223.out 1) | ((with_reducible refine gate_callee (f := 24) rfl ?_); refine goesL_ (some 4) rfl rfl Try.func24 (by kernel_rfl) rfl #[.agg #[.slice A0_0 l0_0.length c0_0, .slice A0_1 l0_1.length c0_1]] rfl (by (try simp only [List.map_toArray, List.map_cons, List.map_nil]); first | done | rfl | (simp only [List.length_drop, List.length_take]; rfl)) ?_; (with_reducible refine (vetchref05_Few.calls k _ _ l0_0 _ _ l0_1 true _ ?side1 ?side2 ?side3 ?side4 A2.out).mono ?_); (case side1 => repeat (first | exact (Kd.C_below HR0_0.out HB.out) | (with_reducible refine Kd.C_alloc ?_ _) | (with_reducible refine Kd.C_drewN ?_ _) | (with_reducible refine Kd.C_drew ?_))); (case side2 => exact HC0_0.out); (case side3 => repeat (first | exact (Kd.C_below HR0_1.out HB.out) | (with_reducible refine Kd.C_alloc ?_ _) | (with_reducible refine Kd.C_drewN ?_ _) | (with_reducible refine Kd.C_drew ?_))); (case side4 => exact HC0_1.out); rintro e w7 ⟨rfl, hb⟩; refine ⟨_, rfl, ?_⟩; have n0_ := Aside0.mk (blk_below (g := gb223) (o := .cells #[.slice A0_0 l0_0.length c0_0, .slice A0_1 l0_1.length c0_1] 25 (0, 0)) (by (with_reducible repeat (first | refine blk_drewN ?_ _ | refine blk_drew ?_ | refine blk_alloc ?_ _)); exact BK223.out) hb); have n1_ := Aside0.mk (below_step (by repeat (first | (with_reducible first | exact HB.out | apply below_alloc | apply pw_below_drewN | apply below_drew1 | refine below_set ?_ GE223.out) | exact HB.out)) hb); clear BK223; clear HB; have BK223 := n0_; have HB := n1_; clear n0_ n1_; (try clear hb); (try clear hb2); (try clear hk); (try clear hi); have hcz8_0 : w7.cell? ⟨gb223, 0, none⟩ = some (.slice A0_0 l0_0.length c0_0) := (blk_cell BK223.out 0).trans rfl; have hcz8_1 : w7.cell? ⟨gb223, 1, none⟩ = some (.slice A0_1 l0_1.length c0_1) := (blk_cell BK223.out 1).trans rfl; have hfz8_0 := blk_frozen BK223.out 0; have hfz8_1 := blk_frozen BK223.out 1) | (go_at_call 25; (with_reducible refine (vetchref05_Valid.calls k _ _ l0_0 _ _ l0_1 t225 _ ?side1 ?side2 ?side3 ?side4 A4.out).mono ?_); (case side1 => repeat (first | exact (Kd.C_below HR0_0.out HB.out) | (with_reducible refine Kd.C_alloc ?_ _) | (with_reducible refine Kd.C_drewN ?_ _) | (with_reducible refine Kd.C_drew ?_))); (case side2 => exact HC0_0.out); (case side3 => repeat (first | exact (Kd.C_below HR0_1.out HB.out) | (with_reducible refine Kd.C_alloc ?_ _) | (with_reducible refine Kd.C_drewN ?_ _) | (with_reducible refine Kd.C_drew ?_))); (case side4 => exact HC0_1.out); rintro e w9 ⟨rfl, hb⟩; have n0_ := Aside0.mk (blk_below (g := gb223) (o := .cells #[.slice A0_0 l0_0.length c0_0, .slice A0_1 l0_1.length c0_1] 25 (0, 0)) (by (with_reducible repeat (first | refine blk_drewN ?_ _ | refine blk_drew ?_ | refine blk_alloc ?_ _)); exact BK223.out) hb); have n1_ := Aside0.mk (below_step (by repeat (first | (with_reducible first | exact HB.out | apply below_alloc | apply pw_below_drewN | apply below_drew1 | refine below_set ?_ GE223.out) | exact HB.out)) hb); clear BK223; clear HB; have BK223 := n0_; have HB := n1_; clear n0_ n1_; (try clear hb); (try clear hb2); (try clear hk); (try clear hi)))
  go_ret
  exact ⟨by first | rfl | (simp [errW_none, errW_some] <;> rfl) | (simp [*, errW_none, errW_some] <;> rfl), by repeat (first | (with_reducible first | exact HB.out | apply below_alloc | apply pw_below_drewN | apply below_drew1 | refine below_set ?_ GE223.out) | exact HB.out)⟩
 ·
  replace c3 := Bool.eq_false_iff.mpr c3
  subst c3
  have H1 : (some false) = some r := by rw [if_neg (show ¬ (false = true) by decide)] at H; exact H
  clear H
  have H := H1
  clear H1
  obtain rfl := Option.some.inj H
  go_enter Try.func18, Try.ntmps18
  go_wp2_with (first | ((with_reducible refine gate_dst (N := 1) rfl ?_); refine box_event ?hg (N := 1) ?hd (cs := #[.slice A0_0 l0_0.length c0_0, .slice A0_1 l0_1.length c0_1]) (t := 25) ?hr ?_; (case hd => rfl); (case hg => rfl); (case hr => first | (go_simp; done) | (go_simp; rfl)); intro gb223 hg w10 hbox hb; have n0_ := Aside0.mk (below_step (by repeat (first | (with_reducible first | exact HB.out | apply below_alloc | apply pw_below_drewN | apply below_drew1) | exact HB.out)) hb); have n1_ := Aside0.mk (hbox); have n2_ := Aside0.mk ((by rw [hg]; exact (below_size (by repeat (first | (with_reducible first | exact HB.out | apply below_alloc | apply pw_below_drewN | apply below_drew1) | exact HB.out))) : w.heap.size ≤ gb223)); have n3_ := Aside0.mk ((by rw [hg]; exact (below_size (by repeat (first | (with_reducible first | exact HB.out | apply below_alloc | apply pw_below_drewN | apply below_drew1) | exact HB.out))) : w.heap.size ≤ gb223)); clear HB; have HB := n0_; have BK223 := n1_; have GW223 := n2_; have GE223 := n3_; clear n0_ n1_ n2_ n3_; clear hb hbox hg; have hcz11_0 : w10.cell? ⟨gb223, 0, none⟩ = some (.slice A0_0 l0_0.length c0_0) := (blk_cell BK223.out 0).trans rfl; have hcz11_1 : w10.cell? ⟨gb223, 1, none⟩ = some (.slice A0_1 l0_1.length c0_1) := (blk_cell BK223.out 1).trans rfl; have hfz11_0 := blk_frozen BK223.out 0; have hfz11_1 := blk_frozen BK223.out 1) | ((with_reducible refine gate_callee (f := 24) rfl ?_); refine goesL_ (some 4) rfl rfl Try.func24 (by kernel_rfl) rfl #[.agg #[.slice A0_0 l0_0.length c0_0, .slice A0_1 l0_1.length c0_1]] rfl (by (try simp only [List.map_toArray, List.map_cons, List.map_nil]); first | done | rfl | (simp only [List.length_drop, List.length_take]; rfl)) ?_; (with_reducible refine (vetchref05_Few.calls k _ _ l0_0 _ _ l0_1 false _ ?side1 ?side2 ?side3 ?side4 A2.out).mono ?_); (case side1 => repeat (first | exact (Kd.C_below HR0_0.out HB.out) | (with_reducible refine Kd.C_alloc ?_ _) | (with_reducible refine Kd.C_drewN ?_ _) | (with_reducible refine Kd.C_drew ?_))); (case side2 => exact HC0_0.out); (case side3 => repeat (first | exact (Kd.C_below HR0_1.out HB.out) | (with_reducible refine Kd.C_alloc ?_ _) | (with_reducible refine Kd.C_drewN ?_ _) | (with_reducible refine Kd.C_drew ?_))); (case side4 => exact HC0_1.out); rintro e w12 ⟨rfl, hb⟩; refine ⟨_, rfl, ?_⟩; have n0_ := Aside0.mk (blk_below (g := gb223) (o := .cells #[.slice A0_0 l0_0.length c0_0, .slice A0_1 l0_1.length c0_1] 25 (0, 0)) (by (with_reducible repeat (first | refine blk_drewN ?_ _ | refine blk_drew ?_ | refine blk_alloc ?_ _)); exact BK223.out) hb); have n1_ := Aside0.mk (below_step (by repeat (first | (with_reducible first | exact HB.out | apply below_alloc | apply pw_below_drewN | apply below_drew1 | refine below_set ?_ GE223.out) | exact HB.out)) hb); clear BK223; clear HB; have BK223 := n0_; have HB := n1_; clear n0_ n1_; (try clear hb); (try clear hb2); (try clear hk); (try clear hi)))
  go_ret
  exact ⟨by first | rfl | (simp [errW_none, errW_some] <;> rfl) | (simp [*, errW_none, errW_some] <;> rfl), by repeat (first | (with_reducible first | exact HB.out | apply below_alloc | apply pw_below_drewN | apply below_drew1 | refine below_set ?_ GE223.out) | exact HB.out)⟩
def vetchlaw18_fits.f (k : Nat) (l0_0 : List (S51)) (l0_1 : List (S56)) (a1 : ByteArray) (a2 : Int) : Option (Bool) := (vetchref05_Small.f k l0_0 l0_1).bind fun t227 => (if t227 = true then (if (a1.size : Int) ≤ 60 then (some (decide (a2 ≤ 5000))) else (some false)) else (some false))
theorem vetchlaw18_fits.mono : ∀ a0 a1 a2 a3 k, LeO (vetchlaw18_fits.f k a0 a1 a2 a3) (vetchlaw18_fits.f (k + 1) a0 a1 a2 a3) := by
 intro a0 a1 a2 a3 k
 unfold vetchlaw18_fits.f
 repeat' first
  | (with_reducible exact vetchref05_Small.mono _ _ _)
  | (with_reducible exact LeO.refl _)
  | (with_reducible exact LeO.none _)
  | (with_reducible refine LeO.ite ?_ ?_)
  | (with_reducible refine LeO.bind ?_ (fun _ => ?_))
  | exact vetchref05_Small.mono _ _ _
  | exact LeO.none _
  | refine LeO.ite ?_ ?_
  | refine LeO.bind ?_ (fun _ => ?_)
set_option maxHeartbeats 8000000 in
set_option maxRecDepth 100000 in
theorem vetchlaw18_fits.calls (k : Nat) (A0_0 : Option Addr) (c0_0 : Nat) (l0_0 : List (S51)) (A0_1 : Option Addr) (c0_1 : Nat) (l0_1 : List (S56)) (a1 : ByteArray) (a2 : Int) (r : Bool) (w : World) (hr0_0 : Kd.C k51 w A0_0 l0_0.length l0_0) (hc0_0 : l0_0.length ≤ c0_0) (hr0_1 : Kd.C k56 w A0_1 l0_1.length l0_1) (hc0_1 : l0_1.length ≤ c0_1) (h : vetchlaw18_fits.f k l0_0 l0_1 a1 a2 = some r) :
 Calls Try.prog 10 #[.agg #[.slice A0_0 l0_0.length c0_0, .slice A0_1 l0_1.length c0_1], .string a1, .int .i64 a2] w fun e w' => e = .returned (.bool r) ∧ Below w.heap.size w w' := by
 have hu25 := Try.underlying25
 have HR0_0 := Aside0.mk hr0_0
 have HC0_0 := Aside0.mk hc0_0
 clear hr0_0 hc0_0
 have HR0_1 := Aside0.mk hr0_1
 have HC0_1 := Aside0.mk hc0_1
 clear hr0_1 hc0_1
 have HB := Aside0.mk (Below.refl w.heap.size w)
 have H : ((vetchref05_Small.f k l0_0 l0_1).bind fun t227 => (if t227 = true then (if (a1.size : Int) ≤ 60 then (some (decide (a2 ≤ 5000))) else (some false)) else (some false))) = some r := h
 clear h
 replace H := Option.bind_eq_some_iff.mp H
 obtain ⟨t227, A40, H⟩ := H
 replace H : (if t227 = true then (if (a1.size : Int) ≤ 60 then (some (decide (a2 ≤ 5000))) else (some false)) else (some false)) = some r := H
 have A4 := Aside0.mk A40
 clear A40
 by_cases c5 : t227 = true
 ·
  subst c5
  have H1 : (if (a1.size : Int) ≤ 60 then (some (decide (a2 ≤ 5000))) else (some false)) = some r := by rw [if_pos rfl] at H; exact H
  clear H
  have H := H1
  clear H1
  by_cases c6 : (a1.size : Int) ≤ 60
  ·
   rw [if_pos c6] at H
   have c6b0 : decide ((a1.size : Int) ≤ 60) = true := decide_eq_true c6
   have c6b1 : decide (a1.size ≤ 60) = true := decide_eq_true (by omega)
   clear c6
   obtain rfl := Option.some.inj H
   go_enter Try.func10, Try.ntmps10
   go_wp2_with (first | ((with_reducible refine gate_dst (N := 3) rfl ?_); (try (refine gate_guard (by rfl) ?_; dsimp only)); refine box_event ?hg (N := 3) ?hd (cs := #[.slice A0_0 l0_0.length c0_0, .slice A0_1 l0_1.length c0_1]) (t := 25) ?hr ?_; (case hd => rfl); (case hg => rfl); (case hr => first | (go_simp; done) | (go_simp; rfl)); intro gb226 hg w7 hbox hb; have n0_ := Aside0.mk (below_step (by repeat (first | (with_reducible first | exact HB.out | apply below_alloc | apply pw_below_drewN | apply below_drew1) | exact HB.out)) hb); have n1_ := Aside0.mk (hbox); have n2_ := Aside0.mk ((by rw [hg]; exact (below_size (by repeat (first | (with_reducible first | exact HB.out | apply below_alloc | apply pw_below_drewN | apply below_drew1) | exact HB.out))) : w.heap.size ≤ gb226)); have n3_ := Aside0.mk ((by rw [hg]; exact (below_size (by repeat (first | (with_reducible first | exact HB.out | apply below_alloc | apply pw_below_drewN | apply below_drew1) | exact HB.out))) : w.heap.size ≤ gb226)); clear HB; have HB := n0_; have BK226 := n1_; have GW226 := n2_; have GE226 := n3_; clear n0_ n1_ n2_ n3_; clear hb hbox hg; have hcz8_0 : w7.cell? ⟨gb226, 0, none⟩ = some (.slice A0_0 l0_0.length c0_0) := (blk_cell BK226.out 0).trans rfl; have hcz8_1 : w7.cell? ⟨gb226, 1, none⟩ = some (.slice A0_1 l0_1.length c0_1) := (blk_cell BK226.out 1).trans rfl; have hfz8_0 := blk_frozen BK226.out 0; have hfz8_1 := blk_frozen BK226.out 1) | ((with_reducible refine gate_callee (f := 18) rfl ?_); refine goesL_ (some 8) rfl rfl Try.func18 (by kernel_rfl) rfl #[.agg #[.slice A0_0 l0_0.length c0_0, .slice A0_1 l0_1.length c0_1]] rfl (by (try simp only [List.map_toArray, List.map_cons, List.map_nil]); first | done | rfl | (simp only [List.length_drop, List.length_take]; rfl)) ?_; (with_reducible refine (vetchref05_Small.calls k _ _ l0_0 _ _ l0_1 true _ ?side1 ?side2 ?side3 ?side4 A4.out).mono ?_); (case side1 => repeat (first | exact (Kd.C_below HR0_0.out HB.out) | (with_reducible refine Kd.C_alloc ?_ _) | (with_reducible refine Kd.C_drewN ?_ _) | (with_reducible refine Kd.C_drew ?_))); (case side2 => exact HC0_0.out); (case side3 => repeat (first | exact (Kd.C_below HR0_1.out HB.out) | (with_reducible refine Kd.C_alloc ?_ _) | (with_reducible refine Kd.C_drewN ?_ _) | (with_reducible refine Kd.C_drew ?_))); (case side4 => exact HC0_1.out); rintro e w9 ⟨rfl, hb⟩; refine ⟨_, rfl, ?_⟩; have n0_ := Aside0.mk (blk_below (g := gb226) (o := .cells #[.slice A0_0 l0_0.length c0_0, .slice A0_1 l0_1.length c0_1] 25 (0, 0)) (by (with_reducible repeat (first | refine blk_drewN ?_ _ | refine blk_drew ?_ | refine blk_alloc ?_ _)); exact BK226.out) hb); have n1_ := Aside0.mk (below_step (by repeat (first | (with_reducible first | exact HB.out | apply below_alloc | apply pw_below_drewN | apply below_drew1 | refine below_set ?_ GE226.out) | exact HB.out)) hb); clear BK226; clear HB; have BK226 := n0_; have HB := n1_; clear n0_ n1_; (try clear hb); (try clear hb2); (try clear hk); (try clear hi)))
   go_ret
   exact ⟨by first | rfl | (simp [errW_none, errW_some] <;> rfl) | (simp [*, errW_none, errW_some] <;> rfl), by repeat (first | (with_reducible first | exact HB.out | apply below_alloc | apply pw_below_drewN | apply below_drew1 | refine below_set ?_ GE226.out) | exact HB.out)⟩
  ·
   rw [if_neg c6] at H
   have c6b0 : decide ((a1.size : Int) ≤ 60) = false := decide_eq_false c6
   have c6b1 : decide (a1.size ≤ 60) = false := decide_eq_false (by omega)
   clear c6
   obtain rfl := Option.some.inj H
   go_enter Try.func10, Try.ntmps10
   go_wp2_with (first | ((with_reducible refine gate_dst (N := 3) rfl ?_); (try (refine gate_guard (by rfl) ?_; dsimp only)); refine box_event ?hg (N := 3) ?hd (cs := #[.slice A0_0 l0_0.length c0_0, .slice A0_1 l0_1.length c0_1]) (t := 25) ?hr ?_; (case hd => rfl); (case hg => rfl); (case hr => first | (go_simp; done) | (go_simp; rfl)); intro gb226 hg w10 hbox hb; have n0_ := Aside0.mk (below_step (by repeat (first | (with_reducible first | exact HB.out | apply below_alloc | apply pw_below_drewN | apply below_drew1) | exact HB.out)) hb); have n1_ := Aside0.mk (hbox); have n2_ := Aside0.mk ((by rw [hg]; exact (below_size (by repeat (first | (with_reducible first | exact HB.out | apply below_alloc | apply pw_below_drewN | apply below_drew1) | exact HB.out))) : w.heap.size ≤ gb226)); have n3_ := Aside0.mk ((by rw [hg]; exact (below_size (by repeat (first | (with_reducible first | exact HB.out | apply below_alloc | apply pw_below_drewN | apply below_drew1) | exact HB.out))) : w.heap.size ≤ gb226)); clear HB; have HB := n0_; have BK226 := n1_; have GW226 := n2_; have GE226 := n3_; clear n0_ n1_ n2_ n3_; clear hb hbox hg; have hcz11_0 : w10.cell? ⟨gb226, 0, none⟩ = some (.slice A0_0 l0_0.length c0_0) := (blk_cell BK226.out 0).trans rfl; have hcz11_1 : w10.cell? ⟨gb226, 1, none⟩ = some (.slice A0_1 l0_1.length c0_1) := (blk_cell BK226.out 1).trans rfl; have hfz11_0 := blk_frozen BK226.out 0; have hfz11_1 := blk_frozen BK226.out 1) | ((with_reducible refine gate_callee (f := 18) rfl ?_); refine goesL_ (some 8) rfl rfl Try.func18 (by kernel_rfl) rfl #[.agg #[.slice A0_0 l0_0.length c0_0, .slice A0_1 l0_1.length c0_1]] rfl (by (try simp only [List.map_toArray, List.map_cons, List.map_nil]); first | done | rfl | (simp only [List.length_drop, List.length_take]; rfl)) ?_; (with_reducible refine (vetchref05_Small.calls k _ _ l0_0 _ _ l0_1 true _ ?side1 ?side2 ?side3 ?side4 A4.out).mono ?_); (case side1 => repeat (first | exact (Kd.C_below HR0_0.out HB.out) | (with_reducible refine Kd.C_alloc ?_ _) | (with_reducible refine Kd.C_drewN ?_ _) | (with_reducible refine Kd.C_drew ?_))); (case side2 => exact HC0_0.out); (case side3 => repeat (first | exact (Kd.C_below HR0_1.out HB.out) | (with_reducible refine Kd.C_alloc ?_ _) | (with_reducible refine Kd.C_drewN ?_ _) | (with_reducible refine Kd.C_drew ?_))); (case side4 => exact HC0_1.out); rintro e w12 ⟨rfl, hb⟩; refine ⟨_, rfl, ?_⟩; have n0_ := Aside0.mk (blk_below (g := gb226) (o := .cells #[.slice A0_0 l0_0.length c0_0, .slice A0_1 l0_1.length c0_1] 25 (0, 0)) (by (with_reducible repeat (first | refine blk_drewN ?_ _ | refine blk_drew ?_ | refine blk_alloc ?_ _)); exact BK226.out) hb); have n1_ := Aside0.mk (below_step (by repeat (first | (with_reducible first | exact HB.out | apply below_alloc | apply pw_below_drewN | apply below_drew1 | refine below_set ?_ GE226.out) | exact HB.out)) hb); clear BK226; clear HB; have BK226 := n0_; have HB := n1_; clear n0_ n1_; (try clear hb); (try clear hb2); (try clear hk); (try clear hi)))
   go_ret
   exact ⟨by first | rfl | (simp [errW_none, errW_some] <;> rfl) | (simp [*, errW_none, errW_some] <;> rfl), by repeat (first | (with_reducible first | exact HB.out | apply below_alloc | apply pw_below_drewN | apply below_drew1 | refine below_set ?_ GE226.out) | exact HB.out)⟩
 ·
  replace c5 := Bool.eq_false_iff.mpr c5
  subst c5
  have H1 : (some false) = some r := by rw [if_neg (show ¬ (false = true) by decide)] at H; exact H
  clear H
  have H := H1
  clear H1
  obtain rfl := Option.some.inj H
  go_enter Try.func10, Try.ntmps10
  go_wp2_with (first | ((with_reducible refine gate_dst (N := 3) rfl ?_); (try (refine gate_guard (by rfl) ?_; dsimp only)); refine box_event ?hg (N := 3) ?hd (cs := #[.slice A0_0 l0_0.length c0_0, .slice A0_1 l0_1.length c0_1]) (t := 25) ?hr ?_; (case hd => rfl); (case hg => rfl); (case hr => first | (go_simp; done) | (go_simp; rfl)); intro gb226 hg w13 hbox hb; have n0_ := Aside0.mk (below_step (by repeat (first | (with_reducible first | exact HB.out | apply below_alloc | apply pw_below_drewN | apply below_drew1) | exact HB.out)) hb); have n1_ := Aside0.mk (hbox); have n2_ := Aside0.mk ((by rw [hg]; exact (below_size (by repeat (first | (with_reducible first | exact HB.out | apply below_alloc | apply pw_below_drewN | apply below_drew1) | exact HB.out))) : w.heap.size ≤ gb226)); have n3_ := Aside0.mk ((by rw [hg]; exact (below_size (by repeat (first | (with_reducible first | exact HB.out | apply below_alloc | apply pw_below_drewN | apply below_drew1) | exact HB.out))) : w.heap.size ≤ gb226)); clear HB; have HB := n0_; have BK226 := n1_; have GW226 := n2_; have GE226 := n3_; clear n0_ n1_ n2_ n3_; clear hb hbox hg; have hcz14_0 : w13.cell? ⟨gb226, 0, none⟩ = some (.slice A0_0 l0_0.length c0_0) := (blk_cell BK226.out 0).trans rfl; have hcz14_1 : w13.cell? ⟨gb226, 1, none⟩ = some (.slice A0_1 l0_1.length c0_1) := (blk_cell BK226.out 1).trans rfl; have hfz14_0 := blk_frozen BK226.out 0; have hfz14_1 := blk_frozen BK226.out 1) | ((with_reducible refine gate_callee (f := 18) rfl ?_); refine goesL_ (some 8) rfl rfl Try.func18 (by kernel_rfl) rfl #[.agg #[.slice A0_0 l0_0.length c0_0, .slice A0_1 l0_1.length c0_1]] rfl (by (try simp only [List.map_toArray, List.map_cons, List.map_nil]); first | done | rfl | (simp only [List.length_drop, List.length_take]; rfl)) ?_; (with_reducible refine (vetchref05_Small.calls k _ _ l0_0 _ _ l0_1 false _ ?side1 ?side2 ?side3 ?side4 A4.out).mono ?_); (case side1 => repeat (first | exact (Kd.C_below HR0_0.out HB.out) | (with_reducible refine Kd.C_alloc ?_ _) | (with_reducible refine Kd.C_drewN ?_ _) | (with_reducible refine Kd.C_drew ?_))); (case side2 => exact HC0_0.out); (case side3 => repeat (first | exact (Kd.C_below HR0_1.out HB.out) | (with_reducible refine Kd.C_alloc ?_ _) | (with_reducible refine Kd.C_drewN ?_ _) | (with_reducible refine Kd.C_drew ?_))); (case side4 => exact HC0_1.out); rintro e w15 ⟨rfl, hb⟩; refine ⟨_, rfl, ?_⟩; have n0_ := Aside0.mk (blk_below (g := gb226) (o := .cells #[.slice A0_0 l0_0.length c0_0, .slice A0_1 l0_1.length c0_1] 25 (0, 0)) (by (with_reducible repeat (first | refine blk_drewN ?_ _ | refine blk_drew ?_ | refine blk_alloc ?_ _)); exact BK226.out) hb); have n1_ := Aside0.mk (below_step (by repeat (first | (with_reducible first | exact HB.out | apply below_alloc | apply pw_below_drewN | apply below_drew1 | refine below_set ?_ GE226.out) | exact HB.out)) hb); clear BK226; clear HB; have BK226 := n0_; have HB := n1_; clear n0_ n1_; (try clear hb); (try clear hb2); (try clear hk); (try clear hi)))
  go_ret
  exact ⟨by first | rfl | (simp [errW_none, errW_some] <;> rfl) | (simp [*, errW_none, errW_some] <;> rfl), by repeat (first | (with_reducible first | exact HB.out | apply below_alloc | apply pw_below_drewN | apply below_drew1 | refine below_set ?_ GE226.out) | exact HB.out)⟩
end Go.Proofs.Ythgedejnpgcacaa.V
namespace Go.Proofs.Ythgedejnpgcacaa.V
open Go.RowKit Go.Proofs.YthgedejnpgcacaaW.PrintWords Go.Proofs.YthgedejnpgcacaaW.PrintLast Go.Proofs.YthgedejnpgcacaaW.PrintMore
set_option linter.unusedVariables false
set_option linter.unusedSimpArgs false
def vetchref18_Node.seqF (F : Int → Int → Int → Option (Bool × Int × Int)) : List Int → Int → Int → Option (Bool × Int × Int)
  | [], a, u => some (true, a, u)
  | c :: cs, a, u => (F c a u).bind fun r => if r.1 = true ∧ 0 ≤ r.2.1 then vetchref18_Node.seqF F cs r.2.1 r.2.2 else some r
def vetchref18_Node.choF (F : Int → Int → Option (Bool × Int × Int)) : List Int → Int → Int → Option (Bool × Int × Int)
  | [], e, u => some (true, e, u)
  | c :: cs, e, u => (F c u).bind fun r => if r.1 = true ∧ r.2.1 < 0 then vetchref18_Node.choF F cs r.2.1 r.2.2 else some r
def vetchref18_Node.repF (F : Int → Int → Option (Bool × Int × Int)) : Nat → Int → Bool × Int × Int → Option (Bool × Int × Int)
  | 0, _, _ => none
  | k + 1, last, r => if r.1 = true ∧ 0 ≤ r.2.1 then (F r.2.1 r.2.2).bind fun q => vetchref18_Node.repF F k r.2.1 q else if r.1 = true then some (true, last, r.2.2) else some r
def vetchref18_Node.f : Nat → List S51 → List S56 → Int → ByteArray → Int → Int → Option (Bool × Int × Int)
  | 0, _, _, _, _, _, _ => none
  | k + 1, R, G, i, x, a, u =>
    if u < 1 then some (false, 0, 0) else if 0 ≤ i ∧ i < (G.length : Int) then
      if (rd_T56 G i).f0 = 0 then some (true, a, wrap64 (u - 1)) else
      if (rd_T56 G i).f0 = 1 then (if a < (x.size : Int) then (if 0 ≤ a then (vetchref01_Has.f k (rd_T56 G i).f3.f0 (rd_T56 G i).f3.f1 (rd_T56 G i).f3.f2 (rd_T56 G i).f3.f3 (bt x a)).bind fun b => if b = true then some (true, wrap64 (a + 1), wrap64 (u - 1)) else some (true, -1, wrap64 (u - 1)) else none) else some (true, -1, wrap64 (u - 1))) else
      if (rd_T56 G i).f0 = 2 then (if 0 ≤ (rd_T56 G i).f2 ∧ (rd_T56 G i).f2 < (R.length : Int) then vetchref18_Node.f k R G (rd_T51 R (rd_T56 G i).f2).f1 x a (wrap64 (u - 1)) else none) else
      if (rd_T56 G i).f0 = 3 then vetchref18_Node.seqF (fun c a u => vetchref18_Node.f k R G c x a u) (rd_T56 G i).f1 a (wrap64 (u - 1)) else
      if (rd_T56 G i).f0 = 4 then vetchref18_Node.choF (fun c u => vetchref18_Node.f k R G c x a u) (rd_T56 G i).f1 (-1) (wrap64 (u - 1)) else
      if (rd_T56 G i).f1 = [] then none else (vetchref18_Node.f k R G (rd (rd_T56 G i).f1 0) x a (wrap64 (u - 1))).bind fun r =>
        if r.1 = false then some r else
        if (rd_T56 G i).f0 = 7 then (if r.2.1 < 0 then some (true, a, r.2.2) else some r) else
        if (rd_T56 G i).f0 = 8 then (if r.2.1 < 0 then some r else some (true, a, r.2.2)) else
        if (rd_T56 G i).f0 = 9 then (if r.2.1 < 0 then some (true, a, r.2.2) else some (true, -1, r.2.2)) else
        if r.2.1 < 0 ∧ (rd_T56 G i).f0 = 6 then some r else vetchref18_Node.repF (fun a u => vetchref18_Node.f k R G (rd (rd_T56 G i).f1 0) x a u) k a r
    else none
theorem vetchref18_Node.seqF_mono {F F' : Int → Int → Int → Option (Bool × Int × Int)} (h : ∀ c a u, LeO (F c a u) (F' c a u)) : ∀ cs a u, LeO (vetchref18_Node.seqF F cs a u) (vetchref18_Node.seqF F' cs a u)
  | [], a, u => LeO.refl _
  | c :: cs, a, u => LeO.bind (h c a u) (fun r => by
      by_cases hr : r.1 = true ∧ 0 ≤ r.2.1
      · rw [if_pos hr, if_pos hr]; exact vetchref18_Node.seqF_mono h cs _ _
      · rw [if_neg hr, if_neg hr]; exact LeO.refl _)
theorem vetchref18_Node.choF_mono {F F' : Int → Int → Option (Bool × Int × Int)} (h : ∀ c u, LeO (F c u) (F' c u)) : ∀ cs e u, LeO (vetchref18_Node.choF F cs e u) (vetchref18_Node.choF F' cs e u)
  | [], e, u => LeO.refl _
  | c :: cs, e, u => LeO.bind (h c u) (fun r => by
      by_cases hr : r.1 = true ∧ r.2.1 < 0
      · rw [if_pos hr, if_pos hr]; exact vetchref18_Node.choF_mono h cs _ _
      · rw [if_neg hr, if_neg hr]; exact LeO.refl _)
theorem vetchref18_Node.repF_mono {F F' : Int → Int → Option (Bool × Int × Int)} (h : ∀ a u, LeO (F a u) (F' a u)) : ∀ k last r, LeO (vetchref18_Node.repF F k last r) (vetchref18_Node.repF F' (k + 1) last r)
  | 0, last, r => fun q hq => by simp [vetchref18_Node.repF] at hq
  | k + 1, last, r => by
    rw [vetchref18_Node.repF, vetchref18_Node.repF]
    by_cases hr : r.1 = true ∧ 0 ≤ r.2.1
    · rw [if_pos hr, if_pos hr]; exact LeO.bind (h _ _) (fun q => vetchref18_Node.repF_mono h k _ q)
    · rw [if_neg hr, if_neg hr]; exact LeO.refl _
theorem vetchref18_Node.mono : ∀ R G i x a u k, LeO (vetchref18_Node.f k R G i x a u) (vetchref18_Node.f (k + 1) R G i x a u) := by
  intro R G i x a u k
  induction k generalizing i a u with
  | zero => intro q hq; simp [vetchref18_Node.f] at hq
  | succ k ih =>
    rw [vetchref18_Node.f, vetchref18_Node.f]
    repeat' first
      | exact LeO.refl _
      | exact LeO.none _
      | exact ih _ _ _
      | exact vetchref01_Has.mono _ _ _ _ _ k
      | exact vetchref18_Node.seqF_mono (fun c a u => ih c a u) _ _ _
      | exact vetchref18_Node.choF_mono (fun c u => ih c a u) _ _ _
      | exact vetchref18_Node.repF_mono (fun a u => ih _ a u) _ _ _
      | refine LeO.ite ?_ ?_
      | refine LeO.bind ?_ (fun _ => ?_)
theorem h18_blk3 {w : World} {g t : Nat} {x y z : Value} (h : w.heap[g]? = some (.cells #[x, y, z] t (0, 0))) (a b c : Value) :
    (((w.setCell ⟨g, 0, none⟩ a).setCell ⟨g, 1, none⟩ b).setCell ⟨g, 2, none⟩ c).heap[g]? = some (.cells #[a, b, c] t (0, 0)) :=
  blk_put (cs := #[a, b, z]) (blk_put (cs := #[a, y, z]) (blk_put (cs := #[x, y, z]) h 0 a rfl) 1 b rfl) 2 c rfl
theorem h18_below3 {w W : World} {n g : Nat} (h : Below n w W) (hg : n ≤ g) (a b c : Value) : Below n w (((W.setCell ⟨g, 0, none⟩ a).setCell ⟨g, 1, none⟩ b).setCell ⟨g, 2, none⟩ c) :=
  ((h.setCell (p := ⟨g, 0, none⟩) hg a).setCell (p := ⟨g, 1, none⟩) hg b).setCell (p := ⟨g, 2, none⟩) hg c
theorem h18_far3 {w : World} {g gv : Nat} {o : Array Value} {t : Nat} (h : w.heap[g]? = some (.cells o t (0, 0))) (hne : g ≠ gv) (a b c : Value) : (((w.setCell ⟨gv, 0, none⟩ a).setCell ⟨gv, 1, none⟩ b).setCell ⟨gv, 2, none⟩ c).heap[g]? = some (.cells o t (0, 0)) :=
  blk_far (blk_far (blk_far h (p := ⟨gv, 0, none⟩) hne a) (p := ⟨gv, 1, none⟩) hne b) (p := ⟨gv, 2, none⟩) hne c
theorem h18_size (w : World) (o : Obj) : (w.alloc o).heap.size = w.heap.size + 1 := by simp
theorem h18_mem (xs : List Int) (h : xs ≠ []) : (0 : Int) < (xs.length : Int) := by have := List.length_pos_iff.2 h; omega
theorem h18_drop (xs : List Int) (j : Int) (h0 : 0 ≤ j) (h1 : j < (xs.length : Int)) : xs.drop j.toNat = rd xs j :: xs.drop (j + 1).toNat := by
  have h : j.toNat < xs.length := by omega
  rw [List.drop_eq_getElem_cons h, show (j + 1).toNat = j.toNat + 1 by omega]
  unfold rd
  rw [List.getD_eq_getElem?_getD, List.getElem?_eq_getElem h]
  rfl
theorem h18_end (xs : List Int) (j : Int) (h : ¬ j < (xs.length : Int)) : xs.drop j.toNat = [] := List.drop_eq_nil_of_le (by omega)
theorem h18_next (j : Int) (n : Nat) (h0 : 0 ≤ j) (h1 : j < (n : Int)) (hn : n ≤ 9223372036854775807) : wrap64 (j + 1) = j + 1 := by unfold wrap64; omega
structure Env18 (W1 : World) (gx : Nat) (ND : Array Value) (W : World) : Prop where
  x : W.heap[gx]? = some (.cells ND 56 (0, 0))
  b : Below W1.heap.size W1 W
theorem Env18.below {W1 W W' : World} {gx : Nat} {ND : Array Value} (h : Env18 W1 gx ND W) (hb : Below W.heap.size W W') : Env18 W1 gx ND W' := ⟨blk_below h.x hb, below_step h.b hb⟩
theorem Env18.drew {W1 W : World} {gx : Nat} {ND : Array Value} (h : Env18 W1 gx ND W) : Env18 W1 gx ND W.drew := ⟨blk_drew h.x, below_drew1 h.b⟩
theorem Env18.drewN {W1 W : World} {gx : Nat} {ND : Array Value} (h : Env18 W1 gx ND W) (n : Nat) : Env18 W1 gx ND (W.drewN n) := ⟨blk_drewN h.x n, pw_below_drewN h.b n⟩
theorem Env18.put3 {W1 W : World} {gx gv : Nat} {ND : Array Value} (h : Env18 W1 gx ND W) (h1 : W1.heap.size ≤ gv) (h2 : gx ≠ gv) (a b c : Value) : Env18 W1 gx ND (((W.setCell ⟨gv, 0, none⟩ a).setCell ⟨gv, 1, none⟩ b).setCell ⟨gv, 2, none⟩ c) :=
  ⟨h18_far3 h.x h2 a b c, h18_below3 h.b h1 a b c⟩
def h18_T32 : Bool × List (List Nat × List Nat) := (true, [([], []), ([], []), ([1], [1]), ([2], [2]), ([3], [3]), ([], []), ([], []), ([], []), ([0, 4, 5, 6, 7], [0, 4, 5, 6, 7]), ([], []), ([9, 8, 8, 0, 1, 2, 3, 4, 5, 6, 7, 8, 9], [8, 9])])
def h18_B32 : List Nat := [0, 0, 2, 6, 14, 0, 0, 0, 255, 0, 1023]
theorem h18_tab32 : rtab .any (opsOf Try.f12 32) = h18_T32 := by kernel_rfl
theorem h18_bits32 : waitsOk h18_T32.2 h18_B32 = true := by kernel_rfl
end Go.Proofs.Ythgedejnpgcacaa.V
