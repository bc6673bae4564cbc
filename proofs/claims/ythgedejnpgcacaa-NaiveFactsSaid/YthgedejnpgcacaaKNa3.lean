/- The law NaiveFacts returns true whatever comes in, and leaves its arguments as they were. No condition. -/
import Derived.Test.YthgedejnpgcacaaKNa2
import Derived.StillTailTactics
namespace Go.Proofs.Ythgedejnpgcacaa.V
open Go.RowKit Go.Proofs.YthgedejnpgcacaaW.PrintWords Go.Proofs.YthgedejnpgcacaaW.PrintLast Go.Proofs.YthgedejnpgcacaaW.PrintMore
attribute [local go_sem] max2_int min2_int max_two min_two max_three min_three max_four min_four tdiv_most
set_option linter.unusedVariables false
set_option linter.unusedSimpArgs false
attribute [local go_sem high] eqA54
mutual
def Qe1.j0 : Nat → Int → Bool → Int → List Int → Int → Int → Int → Int → Int → Option (Bool)
 | 0, _, _, _, _, _, _, _, _, _ => none
 | k + 1, x1, x13, x197000, x197001, x197002, x197003, x197004, x197005, x197006 => if x13 = true then (some false) else (if x197000 ≤ 2 then (if (x197001.length : Int) = 0 then (if x197000 = 3 then (if (x197001.length : Int) < 2 then (Qe1.j1 k x1 true x197000 x197001 x197002 x197003 x197004 x197005 x197006) else (if x197000 ≥ 5 then (Qe1.j1 k x1 ((x197001.length : Int) != 1) x197000 x197001 x197002 x197003 x197004 x197005 x197006) else (Qe1.j1 k x1 false x197000 x197001 x197002 x197003 x197004 x197005 x197006))) else (if x197000 = 4 then (if (x197001.length : Int) < 2 then (Qe1.j1 k x1 true x197000 x197001 x197002 x197003 x197004 x197005 x197006) else (if x197000 ≥ 5 then (Qe1.j1 k x1 ((x197001.length : Int) != 1) x197000 x197001 x197002 x197003 x197004 x197005 x197006) else (Qe1.j1 k x1 false x197000 x197001 x197002 x197003 x197004 x197005 x197006))) else (if x197000 ≥ 5 then (Qe1.j1 k x1 ((x197001.length : Int) != 1) x197000 x197001 x197002 x197003 x197004 x197005 x197006) else (Qe1.j1 k x1 false x197000 x197001 x197002 x197003 x197004 x197005 x197006)))) else (Qe1.j1 k x1 true x197000 x197001 x197002 x197003 x197004 x197005 x197006)) else (if x197000 = 3 then (if (x197001.length : Int) < 2 then (Qe1.j1 k x1 true x197000 x197001 x197002 x197003 x197004 x197005 x197006) else (if x197000 ≥ 5 then (Qe1.j1 k x1 ((x197001.length : Int) != 1) x197000 x197001 x197002 x197003 x197004 x197005 x197006) else (Qe1.j1 k x1 false x197000 x197001 x197002 x197003 x197004 x197005 x197006))) else (if x197000 = 4 then (if (x197001.length : Int) < 2 then (Qe1.j1 k x1 true x197000 x197001 x197002 x197003 x197004 x197005 x197006) else (if x197000 ≥ 5 then (Qe1.j1 k x1 ((x197001.length : Int) != 1) x197000 x197001 x197002 x197003 x197004 x197005 x197006) else (Qe1.j1 k x1 false x197000 x197001 x197002 x197003 x197004 x197005 x197006))) else (if x197000 ≥ 5 then (Qe1.j1 k x1 ((x197001.length : Int) != 1) x197000 x197001 x197002 x197003 x197004 x197005 x197006) else (Qe1.j1 k x1 false x197000 x197001 x197002 x197003 x197004 x197005 x197006)))))
def Qe1.j1 : Nat → Int → Bool → Int → List Int → Int → Int → Int → Int → Int → Option (Bool)
 | 0, _, _, _, _, _, _, _, _, _ => none
 | k + 1, x1, x46, x197000, x197001, x197002, x197003, x197004, x197005, x197006 => if x46 = true then (some false) else (if x197000 = 2 then (if x197002 < 0 then (some false) else (if x197002 ≥ x1 then (some false) else (if x197000 = 1 then (some true) else (some (x197003 == 0 && (x197004 == 0 && (x197005 == 0 && (x197006 == 0)))))))) else (if x197002 = 0 then (if x197000 = 1 then (some true) else (some (x197003 == 0 && (x197004 == 0 && (x197005 == 0 && (x197006 == 0)))))) else (some false)))
end
def Qe1.f (k : Nat) (a0_0 : Int) (l0_1 : List Int) (a0_2 : Int) (a0_3 : Int) (a0_4 : Int) (a0_5 : Int) (a0_6 : Int) (a1 : Int) : Option (Bool) := if a0_0 < 0 then (Qe1.j0 k a1 true a0_0 l0_1 a0_2 a0_3 a0_4 a0_5 a0_6) else (Qe1.j0 k a1 (decide (a0_0 > 9)) a0_0 l0_1 a0_2 a0_3 a0_4 a0_5 a0_6)
theorem Qe1.mono_l : ∀ k, (∀ y0 y1 y2 y3 y4 y5 y6 y7 y8, LeO (Qe1.j0 k y0 y1 y2 y3 y4 y5 y6 y7 y8) (Qe1.j0 (k + 1) y0 y1 y2 y3 y4 y5 y6 y7 y8)) ∧ (∀ y0 y1 y2 y3 y4 y5 y6 y7 y8, LeO (Qe1.j1 k y0 y1 y2 y3 y4 y5 y6 y7 y8) (Qe1.j1 (k + 1) y0 y1 y2 y3 y4 y5 y6 y7 y8))
 | 0 => ⟨fun _ _ _ _ _ _ _ _ _ r h => by simp [Qe1.j0] at h, fun _ _ _ _ _ _ _ _ _ r h => by simp [Qe1.j1] at h⟩
 | k + 1 => by
  obtain ⟨ih0, ih1⟩ := Qe1.mono_l k
  refine ⟨?_, ?_⟩
  ·
   intro y0 y1 y2 y3 y4 y5 y6 y7 y8
   unfold Qe1.j0
   repeat' first
   | (with_reducible exact ih0 _ _ _ _ _ _ _ _ _)
   | (with_reducible exact ih1 _ _ _ _ _ _ _ _ _)
   | (with_reducible exact LeO.refl _)
   | (with_reducible exact LeO.none _)
   | (with_reducible refine LeO.ite ?_ ?_)
   | (with_reducible refine LeO.bind ?_ (fun _ => ?_))
   | exact ih0 _ _ _ _ _ _ _ _ _
   | exact ih1 _ _ _ _ _ _ _ _ _
   | exact LeO.none _
   | refine LeO.ite ?_ ?_
   | refine LeO.bind ?_ (fun _ => ?_)
  ·
   intro y0 y1 y2 y3 y4 y5 y6 y7 y8
   unfold Qe1.j1
   repeat' first
   | (with_reducible exact ih0 _ _ _ _ _ _ _ _ _)
   | (with_reducible exact ih1 _ _ _ _ _ _ _ _ _)
   | (with_reducible exact LeO.refl _)
   | (with_reducible exact LeO.none _)
   | (with_reducible refine LeO.ite ?_ ?_)
   | (with_reducible refine LeO.bind ?_ (fun _ => ?_))
   | exact ih0 _ _ _ _ _ _ _ _ _
   | exact ih1 _ _ _ _ _ _ _ _ _
   | exact LeO.none _
   | refine LeO.ite ?_ ?_
   | refine LeO.bind ?_ (fun _ => ?_)
theorem Qe1.mono : ∀ a0 a1 a2 a3 a4 a5 a6 a7 k, LeO (Qe1.f k a0 a1 a2 a3 a4 a5 a6 a7) (Qe1.f (k + 1) a0 a1 a2 a3 a4 a5 a6 a7) := by
 intro a0 a1 a2 a3 a4 a5 a6 a7 k
 obtain ⟨ih0, ih1⟩ := Qe1.mono_l k
 unfold Qe1.f
 repeat' first
  | (with_reducible exact ih0 _ _ _ _ _ _ _ _ _)
  | (with_reducible exact ih1 _ _ _ _ _ _ _ _ _)
  | (with_reducible exact LeO.refl _)
  | (with_reducible exact LeO.none _)
  | (with_reducible refine LeO.ite ?_ ?_)
  | (with_reducible refine LeO.bind ?_ (fun _ => ?_))
  | exact ih0 _ _ _ _ _ _ _ _ _
  | exact ih1 _ _ _ _ _ _ _ _ _
  | exact LeO.none _
  | refine LeO.ite ?_ ?_
  | refine LeO.bind ?_ (fun _ => ?_)
set_option maxHeartbeats 8000000 in
set_option maxRecDepth 100000 in
theorem Qe1.calls (k : Nat) (a0_0 : Int) (A0_1 : Option Addr) (c0_1 : Nat) (l0_1 : List Int) (a0_2 : Int) (a0_3 : Int) (a0_4 : Int) (a0_5 : Int) (a0_6 : Int) (a1 : Int) (r : Bool) (w : World) (hr0_1 : Kd.C (Kd.int .i64) w A0_1 l0_1.length l0_1) (hc0_1 : l0_1.length ≤ c0_1) (h : Qe1.f k a0_0 l0_1 a0_2 a0_3 a0_4 a0_5 a0_6 a1 = some r) :
 Calls Try.prog 37 #[.agg #[.int .i64 a0_0, .slice A0_1 l0_1.length c0_1, .int .i64 a0_2, .int .u64 a0_3, .int .u64 a0_4, .int .u64 a0_5, .int .u64 a0_6], .int .i64 a1] w fun e w' => e = .returned (.bool r) ∧ Below w.heap.size w w' := by
 have hu56 := Try.underlying56
 have hu54 := Try.underlying54
 have HR0_1 := Qa.mk hr0_1
 have HC0_1 := Qa.mk hc0_1
 clear hr0_1 hc0_1
 have HB := Qa.mk (Below.refl w.heap.size w)
 have H : (if a0_0 < 0 then (Qe1.j0 k a1 true a0_0 l0_1 a0_2 a0_3 a0_4 a0_5 a0_6) else (Qe1.j0 k a1 (decide (a0_0 > 9)) a0_0 l0_1 a0_2 a0_3 a0_4 a0_5 a0_6)) = some r := h
 clear h
 have HC3 := Qa.mk H
 clear H
 go_enter Try.func37, Try.ntmps37
 go_upto_region 1 with (first | ((with_reducible refine Qc1 (N := 2) rfl ?_); refine Ql1 ?hg (N := 2) ?hd (cs := #[.int .i64 a0_0, .slice A0_1 l0_1.length c0_1, .int .i64 a0_2, .int .u64 a0_3, .int .u64 a0_4, .int .u64 a0_5, .int .u64 a0_6]) (t := 56) ?hr ?_; (case hd => rfl); (case hg => rfl); (case hr => first | (go_simp; done) | (go_simp; rfl)); intro gb196 hg w4 hbox hb; have n0_ := Qa.mk (Qm (by repeat (first | (with_reducible first | exact HB.out | apply Qd | apply Qf | apply Qe) | exact HB.out)) hb); have n1_ := Qa.mk (hbox); have n2_ := Qa.mk ((by rw [hg]; exact (Qv (by repeat (first | (with_reducible first | exact HB.out | apply Qd | apply Qf | apply Qe) | exact HB.out))) : w.heap.size ≤ gb196)); have n3_ := Qa.mk ((by rw [hg]; exact (Qv (by repeat (first | (with_reducible first | exact HB.out | apply Qd | apply Qf | apply Qe) | exact HB.out))) : w.heap.size ≤ gb196)); clear HB; have HB := n0_; have BK196 := n1_; have GW196 := n2_; have GE196 := n3_; clear n0_ n1_ n2_ n3_; clear hb hbox hg))
 (try simp only [Act.put, List.setIfInBounds_toArray, List.set_cons_zero, List.set_cons_succ])
 go_cut [13] (fun v13 wc => ∃ (kq : Nat) (x13_2 : Bool), v13 = .bool x13_2 ∧ Qa (Qe1.j0 kq a1 x13_2 a0_0 l0_1 a0_2 a0_3 a0_4 a0_5 a0_6 = some r) ∧ Qa (kq ≤ k) ∧ Qa (wc.heap[gb196]? = some (.cells #[.int .i64 a0_0, (.slice A0_1 l0_1.length c0_1), .int .i64 a0_2, .int .u64 a0_3, .int .u64 a0_4, .int .u64 a0_5, .int .u64 a0_6] 56 (0, 0))) ∧ Qa (Below w.heap.size w wc))
 case first =>
  have H := HC3.out
  clear HC3
  by_cases c5 : a0_0 < 0
  ·
   rw [if_pos c5] at H
   have c5b0 : decide (a0_0 < 0) = true := decide_eq_true c5
   clear c5
   (first | rw [c5b0] | (simp only [i64_w, i32_w]; rw [c5b0]) | skip)
   have H' := Qa.mk H
   clear H
   have hcz6_0 : w4.cell? ⟨gb196, 0, none⟩ = some (.int .i64 a0_0) := (Qb BK196.out 0).trans rfl
   have hcz6_1 : w4.cell? ⟨gb196, 1, none⟩ = some (.slice A0_1 l0_1.length c0_1) := (Qb BK196.out 1).trans rfl
   have hcz6_2 : w4.cell? ⟨gb196, 2, none⟩ = some (.int .i64 a0_2) := (Qb BK196.out 2).trans rfl
   have hcz6_3 : w4.cell? ⟨gb196, 3, none⟩ = some (.int .u64 a0_3) := (Qb BK196.out 3).trans rfl
   have hcz6_4 : w4.cell? ⟨gb196, 4, none⟩ = some (.int .u64 a0_4) := (Qb BK196.out 4).trans rfl
   have hcz6_5 : w4.cell? ⟨gb196, 5, none⟩ = some (.int .u64 a0_5) := (Qb BK196.out 5).trans rfl
   have hcz6_6 : w4.cell? ⟨gb196, 6, none⟩ = some (.int .u64 a0_6) := (Qb BK196.out 6).trans rfl
   have hfz6_0 := Qc BK196.out 0
   have hfz6_1 := Qc BK196.out 1
   have hfz6_2 := Qc BK196.out 2
   have hfz6_3 := Qc BK196.out 3
   have hfz6_4 := Qc BK196.out 4
   have hfz6_5 := Qc BK196.out 5
   have hfz6_6 := Qc BK196.out 6
   go_wp2
   go_meet
   case rel => exact ⟨_, (true), (by first | rfl | (simp; done) | (simp [*]; done)), H', ⟨by first | omega | exact Nat.le_refl _⟩, ⟨by (with_reducible repeat (first | refine Qk ?_ _ | refine Qj ?_ | refine Qi ?_ _)); exact BK196.out⟩, ⟨by repeat (first | (with_reducible first | exact HB.out | apply Qd | apply Qf | apply Qe | refine Qg ?_ GE196.out) | exact HB.out)⟩⟩
  ·
   rw [if_neg c5] at H
   have c5b0 : decide (a0_0 < 0) = false := decide_eq_false c5
   clear c5
   (first | rw [c5b0] | (simp only [i64_w, i32_w]; rw [c5b0]) | skip)
   have H' := Qa.mk H
   clear H
   have hcz7_0 : w4.cell? ⟨gb196, 0, none⟩ = some (.int .i64 a0_0) := (Qb BK196.out 0).trans rfl
   have hcz7_1 : w4.cell? ⟨gb196, 1, none⟩ = some (.slice A0_1 l0_1.length c0_1) := (Qb BK196.out 1).trans rfl
   have hcz7_2 : w4.cell? ⟨gb196, 2, none⟩ = some (.int .i64 a0_2) := (Qb BK196.out 2).trans rfl
   have hcz7_3 : w4.cell? ⟨gb196, 3, none⟩ = some (.int .u64 a0_3) := (Qb BK196.out 3).trans rfl
   have hcz7_4 : w4.cell? ⟨gb196, 4, none⟩ = some (.int .u64 a0_4) := (Qb BK196.out 4).trans rfl
   have hcz7_5 : w4.cell? ⟨gb196, 5, none⟩ = some (.int .u64 a0_5) := (Qb BK196.out 5).trans rfl
   have hcz7_6 : w4.cell? ⟨gb196, 6, none⟩ = some (.int .u64 a0_6) := (Qb BK196.out 6).trans rfl
   have hfz7_0 := Qc BK196.out 0
   have hfz7_1 := Qc BK196.out 1
   have hfz7_2 := Qc BK196.out 2
   have hfz7_3 := Qc BK196.out 3
   have hfz7_4 := Qc BK196.out 4
   have hfz7_5 := Qc BK196.out 5
   have hfz7_6 := Qc BK196.out 6
   go_wp2
   go_meet
   case rel => exact ⟨_, (decide (a0_0 > 9)), (by first | rfl | (simp; done) | (simp [*]; done)), H', ⟨by first | omega | exact Nat.le_refl _⟩, ⟨by (with_reducible repeat (first | refine Qk ?_ _ | refine Qj ?_ | refine Qi ?_ _)); exact BK196.out⟩, ⟨by repeat (first | (with_reducible first | exact HB.out | apply Qd | apply Qf | apply Qe | refine Qg ?_ GE196.out) | exact HB.out)⟩⟩
 case rest =>
  clear HC3
  try clear p2
  try clear c3
  try clear c5
  try clear c5b0
  try clear hcz6_0
  try clear hcz6_1
  try clear hcz6_2
  try clear hcz6_3
  try clear hcz6_4
  try clear hcz6_5
  try clear hcz6_6
  try clear hcz7_0
  try clear hcz7_1
  try clear hcz7_2
  try clear hcz7_3
  try clear hcz7_4
  try clear hcz7_5
  try clear hcz7_6
  try clear hfz6_0
  try clear hfz6_1
  try clear hfz6_2
  try clear hfz6_3
  try clear hfz6_4
  try clear hfz6_5
  try clear hfz6_6
  try clear hfz7_0
  try clear hfz7_1
  try clear hfz7_2
  try clear hfz7_3
  try clear hfz7_4
  try clear hfz7_5
  try clear hfz7_6
  obtain ⟨kq, x13_2, rfl, HA, HJ2, BK196, HB⟩ := hcut
  cases kq with
  | zero => exact absurd HA.out (by simp [Qe1.j0])
  | succ kj2 =>
   have H := HA.out
   clear HA
   simp only [Qe1.j0] at H
   by_cases c8 : x13_2 = true
   ·
    subst c8
    have H1 : (some false) = some r := by rw [if_pos rfl] at H; exact H
    clear H
    have H := H1
    clear H1
    obtain rfl := Option.some.inj H
    go_wp2
    go_ret
    exact ⟨by first | rfl | (simp [Qr, Qq] <;> rfl) | (simp [*, Qr, Qq] <;> rfl), by repeat (first | (with_reducible first | exact HB.out | apply Qd | apply Qf | apply Qe | refine Qg ?_ GE196.out) | exact HB.out)⟩
   ·
    replace c8 := Bool.eq_false_iff.mpr c8
    subst c8
    have H1 : (if a0_0 ≤ 2 then (if (l0_1.length : Int) = 0 then (if a0_0 = 3 then (if (l0_1.length : Int) < 2 then (Qe1.j1 kj2 a1 true a0_0 l0_1 a0_2 a0_3 a0_4 a0_5 a0_6) else (if a0_0 ≥ 5 then (Qe1.j1 kj2 a1 ((l0_1.length : Int) != 1) a0_0 l0_1 a0_2 a0_3 a0_4 a0_5 a0_6) else (Qe1.j1 kj2 a1 false a0_0 l0_1 a0_2 a0_3 a0_4 a0_5 a0_6))) else (if a0_0 = 4 then (if (l0_1.length : Int) < 2 then (Qe1.j1 kj2 a1 true a0_0 l0_1 a0_2 a0_3 a0_4 a0_5 a0_6) else (if a0_0 ≥ 5 then (Qe1.j1 kj2 a1 ((l0_1.length : Int) != 1) a0_0 l0_1 a0_2 a0_3 a0_4 a0_5 a0_6) else (Qe1.j1 kj2 a1 false a0_0 l0_1 a0_2 a0_3 a0_4 a0_5 a0_6))) else (if a0_0 ≥ 5 then (Qe1.j1 kj2 a1 ((l0_1.length : Int) != 1) a0_0 l0_1 a0_2 a0_3 a0_4 a0_5 a0_6) else (Qe1.j1 kj2 a1 false a0_0 l0_1 a0_2 a0_3 a0_4 a0_5 a0_6)))) else (Qe1.j1 kj2 a1 true a0_0 l0_1 a0_2 a0_3 a0_4 a0_5 a0_6)) else (if a0_0 = 3 then (if (l0_1.length : Int) < 2 then (Qe1.j1 kj2 a1 true a0_0 l0_1 a0_2 a0_3 a0_4 a0_5 a0_6) else (if a0_0 ≥ 5 then (Qe1.j1 kj2 a1 ((l0_1.length : Int) != 1) a0_0 l0_1 a0_2 a0_3 a0_4 a0_5 a0_6) else (Qe1.j1 kj2 a1 false a0_0 l0_1 a0_2 a0_3 a0_4 a0_5 a0_6))) else (if a0_0 = 4 then (if (l0_1.length : Int) < 2 then (Qe1.j1 kj2 a1 true a0_0 l0_1 a0_2 a0_3 a0_4 a0_5 a0_6) else (if a0_0 ≥ 5 then (Qe1.j1 kj2 a1 ((l0_1.length : Int) != 1) a0_0 l0_1 a0_2 a0_3 a0_4 a0_5 a0_6) else (Qe1.j1 kj2 a1 false a0_0 l0_1 a0_2 a0_3 a0_4 a0_5 a0_6))) else (if a0_0 ≥ 5 then (Qe1.j1 kj2 a1 ((l0_1.length : Int) != 1) a0_0 l0_1 a0_2 a0_3 a0_4 a0_5 a0_6) else (Qe1.j1 kj2 a1 false a0_0 l0_1 a0_2 a0_3 a0_4 a0_5 a0_6))))) = some r := by rw [if_neg (show ¬ (false = true) by decide)] at H; exact H
    clear H
    have H := H1
    clear H1
    have HC9 := Qa.mk H
    clear H
    have hcz10_0 : wc.cell? ⟨gb196, 0, none⟩ = some (.int .i64 a0_0) := (Qb BK196.out 0).trans rfl
    have hcz10_1 : wc.cell? ⟨gb196, 1, none⟩ = some (.slice A0_1 l0_1.length c0_1) := (Qb BK196.out 1).trans rfl
    have hcz10_2 : wc.cell? ⟨gb196, 2, none⟩ = some (.int .i64 a0_2) := (Qb BK196.out 2).trans rfl
    have hcz10_3 : wc.cell? ⟨gb196, 3, none⟩ = some (.int .u64 a0_3) := (Qb BK196.out 3).trans rfl
    have hcz10_4 : wc.cell? ⟨gb196, 4, none⟩ = some (.int .u64 a0_4) := (Qb BK196.out 4).trans rfl
    have hcz10_5 : wc.cell? ⟨gb196, 5, none⟩ = some (.int .u64 a0_5) := (Qb BK196.out 5).trans rfl
    have hcz10_6 : wc.cell? ⟨gb196, 6, none⟩ = some (.int .u64 a0_6) := (Qb BK196.out 6).trans rfl
    have hfz10_0 := Qc BK196.out 0
    have hfz10_1 := Qc BK196.out 1
    have hfz10_2 := Qc BK196.out 2
    have hfz10_3 := Qc BK196.out 3
    have hfz10_4 := Qc BK196.out 4
    have hfz10_5 := Qc BK196.out 5
    have hfz10_6 := Qc BK196.out 6
    go_upto_region 4 with (fail)
    go_cut [46] (fun v46 wc => ∃ (kq : Nat) (x46_8 : Bool), v46 = .bool x46_8 ∧ Qa (Qe1.j1 kq a1 x46_8 a0_0 l0_1 a0_2 a0_3 a0_4 a0_5 a0_6 = some r) ∧ Qa (kq ≤ kj2) ∧ Qa (wc.heap[gb196]? = some (.cells #[.int .i64 a0_0, (.slice A0_1 l0_1.length c0_1), .int .i64 a0_2, .int .u64 a0_3, .int .u64 a0_4, .int .u64 a0_5, .int .u64 a0_6] 56 (0, 0))) ∧ Qa (Below w.heap.size w wc))
    case first =>
     have H := HC9.out
     clear HC9
     by_cases c11 : a0_0 ≤ 2
     ·
      rw [if_pos c11] at H
      have c11b0 : decide (a0_0 ≤ 2) = true := decide_eq_true c11
      clear c11
      (first | rw [c11b0] | (simp only [i64_w, i32_w]; rw [c11b0]) | skip)
      by_cases c12 : (l0_1.length : Int) = 0
      ·
       rw [if_pos c12] at H
       have c12b0 : ((l0_1.length : Int) == 0) = true := beq_iff_eq.mpr c12
       have c12b1 : ((l0_1.length : Int) != 0) = false := bne_eq_false_iff_eq.mpr c12
       clear c12
       by_cases c13 : a0_0 = 3
       ·
        rw [if_pos c13] at H
        have c13b0 : (a0_0 == 3) = true := beq_iff_eq.mpr c13
        have c13b1 : (a0_0 != 3) = false := bne_eq_false_iff_eq.mpr c13
        clear c13
        by_cases c14 : (l0_1.length : Int) < 2
        ·
         rw [if_pos c14] at H
         have c14b0 : decide ((l0_1.length : Int) < 2) = true := decide_eq_true c14
         have c14b1 : decide (l0_1.length < 2) = true := decide_eq_true (by omega)
         clear c14
         have H' := Qa.mk H
         clear H
         have hcz15_0 : wc.cell? ⟨gb196, 0, none⟩ = some (.int .i64 a0_0) := (Qb BK196.out 0).trans rfl
         have hcz15_1 : wc.cell? ⟨gb196, 1, none⟩ = some (.slice A0_1 l0_1.length c0_1) := (Qb BK196.out 1).trans rfl
         have hcz15_2 : wc.cell? ⟨gb196, 2, none⟩ = some (.int .i64 a0_2) := (Qb BK196.out 2).trans rfl
         have hcz15_3 : wc.cell? ⟨gb196, 3, none⟩ = some (.int .u64 a0_3) := (Qb BK196.out 3).trans rfl
         have hcz15_4 : wc.cell? ⟨gb196, 4, none⟩ = some (.int .u64 a0_4) := (Qb BK196.out 4).trans rfl
         have hcz15_5 : wc.cell? ⟨gb196, 5, none⟩ = some (.int .u64 a0_5) := (Qb BK196.out 5).trans rfl
         have hcz15_6 : wc.cell? ⟨gb196, 6, none⟩ = some (.int .u64 a0_6) := (Qb BK196.out 6).trans rfl
         have hfz15_0 := Qc BK196.out 0
         have hfz15_1 := Qc BK196.out 1
         have hfz15_2 := Qc BK196.out 2
         have hfz15_3 := Qc BK196.out 3
         have hfz15_4 := Qc BK196.out 4
         have hfz15_5 := Qc BK196.out 5
         have hfz15_6 := Qc BK196.out 6
         go_wp2
         go_meet
         case rel => exact ⟨_, (true), (by first | rfl | (simp; done) | (simp [*]; done)), H', ⟨by have := HJ2.out; first | omega | exact Nat.le_refl _⟩, ⟨by (with_reducible repeat (first | refine Qk ?_ _ | refine Qj ?_ | refine Qi ?_ _)); exact BK196.out⟩, ⟨by repeat (first | (with_reducible first | exact HB.out | apply Qd | apply Qf | apply Qe | refine Qg ?_ GE196.out) | exact HB.out)⟩⟩
        ·
         rw [if_neg c14] at H
         have c14b0 : decide ((l0_1.length : Int) < 2) = false := decide_eq_false c14
         have c14b1 : decide (l0_1.length < 2) = false := decide_eq_false (by omega)
         clear c14
         by_cases c16 : a0_0 ≥ 5
         ·
          rw [if_pos c16] at H
          have c16b0 : decide (5 ≤ a0_0) = true := decide_eq_true c16
          clear c16
          have H' := Qa.mk H
          clear H
          have hcz17_0 : wc.cell? ⟨gb196, 0, none⟩ = some (.int .i64 a0_0) := (Qb BK196.out 0).trans rfl
          have hcz17_1 : wc.cell? ⟨gb196, 1, none⟩ = some (.slice A0_1 l0_1.length c0_1) := (Qb BK196.out 1).trans rfl
          have hcz17_2 : wc.cell? ⟨gb196, 2, none⟩ = some (.int .i64 a0_2) := (Qb BK196.out 2).trans rfl
          have hcz17_3 : wc.cell? ⟨gb196, 3, none⟩ = some (.int .u64 a0_3) := (Qb BK196.out 3).trans rfl
          have hcz17_4 : wc.cell? ⟨gb196, 4, none⟩ = some (.int .u64 a0_4) := (Qb BK196.out 4).trans rfl
          have hcz17_5 : wc.cell? ⟨gb196, 5, none⟩ = some (.int .u64 a0_5) := (Qb BK196.out 5).trans rfl
          have hcz17_6 : wc.cell? ⟨gb196, 6, none⟩ = some (.int .u64 a0_6) := (Qb BK196.out 6).trans rfl
          have hfz17_0 := Qc BK196.out 0
          have hfz17_1 := Qc BK196.out 1
          have hfz17_2 := Qc BK196.out 2
          have hfz17_3 := Qc BK196.out 3
          have hfz17_4 := Qc BK196.out 4
          have hfz17_5 := Qc BK196.out 5
          have hfz17_6 := Qc BK196.out 6
          go_wp2
          go_meet
          case rel => exact ⟨_, (((l0_1.length : Int) != 1)), (by first | rfl | (simp; done) | (simp [*]; done)), H', ⟨by have := HJ2.out; first | omega | exact Nat.le_refl _⟩, ⟨by (with_reducible repeat (first | refine Qk ?_ _ | refine Qj ?_ | refine Qi ?_ _)); exact BK196.out⟩, ⟨by repeat (first | (with_reducible first | exact HB.out | apply Qd | apply Qf | apply Qe | refine Qg ?_ GE196.out) | exact HB.out)⟩⟩
         ·
          rw [if_neg c16] at H
          have c16b0 : decide (5 ≤ a0_0) = false := decide_eq_false c16
          clear c16
          have H' := Qa.mk H
          clear H
          have hcz18_0 : wc.cell? ⟨gb196, 0, none⟩ = some (.int .i64 a0_0) := (Qb BK196.out 0).trans rfl
          have hcz18_1 : wc.cell? ⟨gb196, 1, none⟩ = some (.slice A0_1 l0_1.length c0_1) := (Qb BK196.out 1).trans rfl
          have hcz18_2 : wc.cell? ⟨gb196, 2, none⟩ = some (.int .i64 a0_2) := (Qb BK196.out 2).trans rfl
          have hcz18_3 : wc.cell? ⟨gb196, 3, none⟩ = some (.int .u64 a0_3) := (Qb BK196.out 3).trans rfl
          have hcz18_4 : wc.cell? ⟨gb196, 4, none⟩ = some (.int .u64 a0_4) := (Qb BK196.out 4).trans rfl
          have hcz18_5 : wc.cell? ⟨gb196, 5, none⟩ = some (.int .u64 a0_5) := (Qb BK196.out 5).trans rfl
          have hcz18_6 : wc.cell? ⟨gb196, 6, none⟩ = some (.int .u64 a0_6) := (Qb BK196.out 6).trans rfl
          have hfz18_0 := Qc BK196.out 0
          have hfz18_1 := Qc BK196.out 1
          have hfz18_2 := Qc BK196.out 2
          have hfz18_3 := Qc BK196.out 3
          have hfz18_4 := Qc BK196.out 4
          have hfz18_5 := Qc BK196.out 5
          have hfz18_6 := Qc BK196.out 6
          go_wp2
          go_meet
          case rel => exact ⟨_, (false), (by first | rfl | (simp; done) | (simp [*]; done)), H', ⟨by have := HJ2.out; first | omega | exact Nat.le_refl _⟩, ⟨by (with_reducible repeat (first | refine Qk ?_ _ | refine Qj ?_ | refine Qi ?_ _)); exact BK196.out⟩, ⟨by repeat (first | (with_reducible first | exact HB.out | apply Qd | apply Qf | apply Qe | refine Qg ?_ GE196.out) | exact HB.out)⟩⟩
       ·
        rw [if_neg c13] at H
        have c13b0 : (a0_0 == 3) = false := beq_eq_false_iff_ne.mpr c13
        have c13b1 : (a0_0 != 3) = true := bne_iff_ne.mpr c13
        by_cases c19 : a0_0 = 4
        ·
         rw [if_pos c19] at H
         have c19b0 : (a0_0 == 4) = true := beq_iff_eq.mpr c19
         have c19b1 : (a0_0 != 4) = false := bne_eq_false_iff_eq.mpr c19
         clear c19
         by_cases c20 : (l0_1.length : Int) < 2
         ·
          rw [if_pos c20] at H
          have c20b0 : decide ((l0_1.length : Int) < 2) = true := decide_eq_true c20
          have c20b1 : decide (l0_1.length < 2) = true := decide_eq_true (by omega)
          clear c20
          have H' := Qa.mk H
          clear H
          have hcz21_0 : wc.cell? ⟨gb196, 0, none⟩ = some (.int .i64 a0_0) := (Qb BK196.out 0).trans rfl
          have hcz21_1 : wc.cell? ⟨gb196, 1, none⟩ = some (.slice A0_1 l0_1.length c0_1) := (Qb BK196.out 1).trans rfl
          have hcz21_2 : wc.cell? ⟨gb196, 2, none⟩ = some (.int .i64 a0_2) := (Qb BK196.out 2).trans rfl
          have hcz21_3 : wc.cell? ⟨gb196, 3, none⟩ = some (.int .u64 a0_3) := (Qb BK196.out 3).trans rfl
          have hcz21_4 : wc.cell? ⟨gb196, 4, none⟩ = some (.int .u64 a0_4) := (Qb BK196.out 4).trans rfl
          have hcz21_5 : wc.cell? ⟨gb196, 5, none⟩ = some (.int .u64 a0_5) := (Qb BK196.out 5).trans rfl
          have hcz21_6 : wc.cell? ⟨gb196, 6, none⟩ = some (.int .u64 a0_6) := (Qb BK196.out 6).trans rfl
          have hfz21_0 := Qc BK196.out 0
          have hfz21_1 := Qc BK196.out 1
          have hfz21_2 := Qc BK196.out 2
          have hfz21_3 := Qc BK196.out 3
          have hfz21_4 := Qc BK196.out 4
          have hfz21_5 := Qc BK196.out 5
          have hfz21_6 := Qc BK196.out 6
          go_wp2
          go_meet
          case rel => exact ⟨_, (true), (by first | rfl | (simp; done) | (simp [*]; done)), H', ⟨by have := HJ2.out; first | omega | exact Nat.le_refl _⟩, ⟨by (with_reducible repeat (first | refine Qk ?_ _ | refine Qj ?_ | refine Qi ?_ _)); exact BK196.out⟩, ⟨by repeat (first | (with_reducible first | exact HB.out | apply Qd | apply Qf | apply Qe | refine Qg ?_ GE196.out) | exact HB.out)⟩⟩
         ·
          rw [if_neg c20] at H
          have c20b0 : decide ((l0_1.length : Int) < 2) = false := decide_eq_false c20
          have c20b1 : decide (l0_1.length < 2) = false := decide_eq_false (by omega)
          clear c20
          by_cases c22 : a0_0 ≥ 5
          ·
           rw [if_pos c22] at H
           have c22b0 : decide (5 ≤ a0_0) = true := decide_eq_true c22
           clear c22
           have H' := Qa.mk H
           clear H
           have hcz23_0 : wc.cell? ⟨gb196, 0, none⟩ = some (.int .i64 a0_0) := (Qb BK196.out 0).trans rfl
           have hcz23_1 : wc.cell? ⟨gb196, 1, none⟩ = some (.slice A0_1 l0_1.length c0_1) := (Qb BK196.out 1).trans rfl
           have hcz23_2 : wc.cell? ⟨gb196, 2, none⟩ = some (.int .i64 a0_2) := (Qb BK196.out 2).trans rfl
           have hcz23_3 : wc.cell? ⟨gb196, 3, none⟩ = some (.int .u64 a0_3) := (Qb BK196.out 3).trans rfl
           have hcz23_4 : wc.cell? ⟨gb196, 4, none⟩ = some (.int .u64 a0_4) := (Qb BK196.out 4).trans rfl
           have hcz23_5 : wc.cell? ⟨gb196, 5, none⟩ = some (.int .u64 a0_5) := (Qb BK196.out 5).trans rfl
           have hcz23_6 : wc.cell? ⟨gb196, 6, none⟩ = some (.int .u64 a0_6) := (Qb BK196.out 6).trans rfl
           have hfz23_0 := Qc BK196.out 0
           have hfz23_1 := Qc BK196.out 1
           have hfz23_2 := Qc BK196.out 2
           have hfz23_3 := Qc BK196.out 3
           have hfz23_4 := Qc BK196.out 4
           have hfz23_5 := Qc BK196.out 5
           have hfz23_6 := Qc BK196.out 6
           go_wp2
           go_meet
           case rel => exact ⟨_, (((l0_1.length : Int) != 1)), (by first | rfl | (simp; done) | (simp [*]; done)), H', ⟨by have := HJ2.out; first | omega | exact Nat.le_refl _⟩, ⟨by (with_reducible repeat (first | refine Qk ?_ _ | refine Qj ?_ | refine Qi ?_ _)); exact BK196.out⟩, ⟨by repeat (first | (with_reducible first | exact HB.out | apply Qd | apply Qf | apply Qe | refine Qg ?_ GE196.out) | exact HB.out)⟩⟩
          ·
           rw [if_neg c22] at H
           have c22b0 : decide (5 ≤ a0_0) = false := decide_eq_false c22
           clear c22
           have H' := Qa.mk H
           clear H
           have hcz24_0 : wc.cell? ⟨gb196, 0, none⟩ = some (.int .i64 a0_0) := (Qb BK196.out 0).trans rfl
           have hcz24_1 : wc.cell? ⟨gb196, 1, none⟩ = some (.slice A0_1 l0_1.length c0_1) := (Qb BK196.out 1).trans rfl
           have hcz24_2 : wc.cell? ⟨gb196, 2, none⟩ = some (.int .i64 a0_2) := (Qb BK196.out 2).trans rfl
           have hcz24_3 : wc.cell? ⟨gb196, 3, none⟩ = some (.int .u64 a0_3) := (Qb BK196.out 3).trans rfl
           have hcz24_4 : wc.cell? ⟨gb196, 4, none⟩ = some (.int .u64 a0_4) := (Qb BK196.out 4).trans rfl
           have hcz24_5 : wc.cell? ⟨gb196, 5, none⟩ = some (.int .u64 a0_5) := (Qb BK196.out 5).trans rfl
           have hcz24_6 : wc.cell? ⟨gb196, 6, none⟩ = some (.int .u64 a0_6) := (Qb BK196.out 6).trans rfl
           have hfz24_0 := Qc BK196.out 0
           have hfz24_1 := Qc BK196.out 1
           have hfz24_2 := Qc BK196.out 2
           have hfz24_3 := Qc BK196.out 3
           have hfz24_4 := Qc BK196.out 4
           have hfz24_5 := Qc BK196.out 5
           have hfz24_6 := Qc BK196.out 6
           go_wp2
           go_meet
           case rel => exact ⟨_, (false), (by first | rfl | (simp; done) | (simp [*]; done)), H', ⟨by have := HJ2.out; first | omega | exact Nat.le_refl _⟩, ⟨by (with_reducible repeat (first | refine Qk ?_ _ | refine Qj ?_ | refine Qi ?_ _)); exact BK196.out⟩, ⟨by repeat (first | (with_reducible first | exact HB.out | apply Qd | apply Qf | apply Qe | refine Qg ?_ GE196.out) | exact HB.out)⟩⟩
        ·
         rw [if_neg c19] at H
         have c19b0 : (a0_0 == 4) = false := beq_eq_false_iff_ne.mpr c19
         have c19b1 : (a0_0 != 4) = true := bne_iff_ne.mpr c19
         by_cases c25 : a0_0 ≥ 5
         ·
          rw [if_pos c25] at H
          have c25b0 : decide (5 ≤ a0_0) = true := decide_eq_true c25
          clear c25
          have H' := Qa.mk H
          clear H
          have hcz26_0 : wc.cell? ⟨gb196, 0, none⟩ = some (.int .i64 a0_0) := (Qb BK196.out 0).trans rfl
          have hcz26_1 : wc.cell? ⟨gb196, 1, none⟩ = some (.slice A0_1 l0_1.length c0_1) := (Qb BK196.out 1).trans rfl
          have hcz26_2 : wc.cell? ⟨gb196, 2, none⟩ = some (.int .i64 a0_2) := (Qb BK196.out 2).trans rfl
          have hcz26_3 : wc.cell? ⟨gb196, 3, none⟩ = some (.int .u64 a0_3) := (Qb BK196.out 3).trans rfl
          have hcz26_4 : wc.cell? ⟨gb196, 4, none⟩ = some (.int .u64 a0_4) := (Qb BK196.out 4).trans rfl
          have hcz26_5 : wc.cell? ⟨gb196, 5, none⟩ = some (.int .u64 a0_5) := (Qb BK196.out 5).trans rfl
          have hcz26_6 : wc.cell? ⟨gb196, 6, none⟩ = some (.int .u64 a0_6) := (Qb BK196.out 6).trans rfl
          have hfz26_0 := Qc BK196.out 0
          have hfz26_1 := Qc BK196.out 1
          have hfz26_2 := Qc BK196.out 2
          have hfz26_3 := Qc BK196.out 3
          have hfz26_4 := Qc BK196.out 4
          have hfz26_5 := Qc BK196.out 5
          have hfz26_6 := Qc BK196.out 6
          go_wp2
          go_meet
          case rel => exact ⟨_, (((l0_1.length : Int) != 1)), (by first | rfl | (simp; done) | (simp [*]; done)), H', ⟨by have := HJ2.out; first | omega | exact Nat.le_refl _⟩, ⟨by (with_reducible repeat (first | refine Qk ?_ _ | refine Qj ?_ | refine Qi ?_ _)); exact BK196.out⟩, ⟨by repeat (first | (with_reducible first | exact HB.out | apply Qd | apply Qf | apply Qe | refine Qg ?_ GE196.out) | exact HB.out)⟩⟩
         ·
          rw [if_neg c25] at H
          have c25b0 : decide (5 ≤ a0_0) = false := decide_eq_false c25
          clear c25
          have H' := Qa.mk H
          clear H
          have hcz27_0 : wc.cell? ⟨gb196, 0, none⟩ = some (.int .i64 a0_0) := (Qb BK196.out 0).trans rfl
          have hcz27_1 : wc.cell? ⟨gb196, 1, none⟩ = some (.slice A0_1 l0_1.length c0_1) := (Qb BK196.out 1).trans rfl
          have hcz27_2 : wc.cell? ⟨gb196, 2, none⟩ = some (.int .i64 a0_2) := (Qb BK196.out 2).trans rfl
          have hcz27_3 : wc.cell? ⟨gb196, 3, none⟩ = some (.int .u64 a0_3) := (Qb BK196.out 3).trans rfl
          have hcz27_4 : wc.cell? ⟨gb196, 4, none⟩ = some (.int .u64 a0_4) := (Qb BK196.out 4).trans rfl
          have hcz27_5 : wc.cell? ⟨gb196, 5, none⟩ = some (.int .u64 a0_5) := (Qb BK196.out 5).trans rfl
          have hcz27_6 : wc.cell? ⟨gb196, 6, none⟩ = some (.int .u64 a0_6) := (Qb BK196.out 6).trans rfl
          have hfz27_0 := Qc BK196.out 0
          have hfz27_1 := Qc BK196.out 1
          have hfz27_2 := Qc BK196.out 2
          have hfz27_3 := Qc BK196.out 3
          have hfz27_4 := Qc BK196.out 4
          have hfz27_5 := Qc BK196.out 5
          have hfz27_6 := Qc BK196.out 6
          go_wp2
          go_meet
          case rel => exact ⟨_, (false), (by first | rfl | (simp; done) | (simp [*]; done)), H', ⟨by have := HJ2.out; first | omega | exact Nat.le_refl _⟩, ⟨by (with_reducible repeat (first | refine Qk ?_ _ | refine Qj ?_ | refine Qi ?_ _)); exact BK196.out⟩, ⟨by repeat (first | (with_reducible first | exact HB.out | apply Qd | apply Qf | apply Qe | refine Qg ?_ GE196.out) | exact HB.out)⟩⟩
      ·
       rw [if_neg c12] at H
       have c12b0 : ((l0_1.length : Int) == 0) = false := beq_eq_false_iff_ne.mpr c12
       have c12b1 : ((l0_1.length : Int) != 0) = true := bne_iff_ne.mpr c12
       have c12b2 : ¬ (l0_1 = []) := fun h_ => c12 (by rw [h_]; rfl)
       have H' := Qa.mk H
       clear H
       have hcz28_0 : wc.cell? ⟨gb196, 0, none⟩ = some (.int .i64 a0_0) := (Qb BK196.out 0).trans rfl
       have hcz28_1 : wc.cell? ⟨gb196, 1, none⟩ = some (.slice A0_1 l0_1.length c0_1) := (Qb BK196.out 1).trans rfl
       have hcz28_2 : wc.cell? ⟨gb196, 2, none⟩ = some (.int .i64 a0_2) := (Qb BK196.out 2).trans rfl
       have hcz28_3 : wc.cell? ⟨gb196, 3, none⟩ = some (.int .u64 a0_3) := (Qb BK196.out 3).trans rfl
       have hcz28_4 : wc.cell? ⟨gb196, 4, none⟩ = some (.int .u64 a0_4) := (Qb BK196.out 4).trans rfl
       have hcz28_5 : wc.cell? ⟨gb196, 5, none⟩ = some (.int .u64 a0_5) := (Qb BK196.out 5).trans rfl
       have hcz28_6 : wc.cell? ⟨gb196, 6, none⟩ = some (.int .u64 a0_6) := (Qb BK196.out 6).trans rfl
       have hfz28_0 := Qc BK196.out 0
       have hfz28_1 := Qc BK196.out 1
       have hfz28_2 := Qc BK196.out 2
       have hfz28_3 := Qc BK196.out 3
       have hfz28_4 := Qc BK196.out 4
       have hfz28_5 := Qc BK196.out 5
       have hfz28_6 := Qc BK196.out 6
       go_wp2
       go_meet
       case rel => exact ⟨_, (true), (by first | rfl | (simp; done) | (simp [*]; done)), H', ⟨by have := HJ2.out; first | omega | exact Nat.le_refl _⟩, ⟨by (with_reducible repeat (first | refine Qk ?_ _ | refine Qj ?_ | refine Qi ?_ _)); exact BK196.out⟩, ⟨by repeat (first | (with_reducible first | exact HB.out | apply Qd | apply Qf | apply Qe | refine Qg ?_ GE196.out) | exact HB.out)⟩⟩
     ·
      rw [if_neg c11] at H
      have c11b0 : decide (a0_0 ≤ 2) = false := decide_eq_false c11
      clear c11
      (first | rw [c11b0] | (simp only [i64_w, i32_w]; rw [c11b0]) | skip)
      by_cases c29 : a0_0 = 3
      ·
       rw [if_pos c29] at H
       have c29b0 : (a0_0 == 3) = true := beq_iff_eq.mpr c29
       have c29b1 : (a0_0 != 3) = false := bne_eq_false_iff_eq.mpr c29
       clear c29
       by_cases c30 : (l0_1.length : Int) < 2
       ·
        rw [if_pos c30] at H
        have c30b0 : decide ((l0_1.length : Int) < 2) = true := decide_eq_true c30
        have c30b1 : decide (l0_1.length < 2) = true := decide_eq_true (by omega)
        clear c30
        have H' := Qa.mk H
        clear H
        have hcz31_0 : wc.cell? ⟨gb196, 0, none⟩ = some (.int .i64 a0_0) := (Qb BK196.out 0).trans rfl
        have hcz31_1 : wc.cell? ⟨gb196, 1, none⟩ = some (.slice A0_1 l0_1.length c0_1) := (Qb BK196.out 1).trans rfl
        have hcz31_2 : wc.cell? ⟨gb196, 2, none⟩ = some (.int .i64 a0_2) := (Qb BK196.out 2).trans rfl
        have hcz31_3 : wc.cell? ⟨gb196, 3, none⟩ = some (.int .u64 a0_3) := (Qb BK196.out 3).trans rfl
        have hcz31_4 : wc.cell? ⟨gb196, 4, none⟩ = some (.int .u64 a0_4) := (Qb BK196.out 4).trans rfl
        have hcz31_5 : wc.cell? ⟨gb196, 5, none⟩ = some (.int .u64 a0_5) := (Qb BK196.out 5).trans rfl
        have hcz31_6 : wc.cell? ⟨gb196, 6, none⟩ = some (.int .u64 a0_6) := (Qb BK196.out 6).trans rfl
        have hfz31_0 := Qc BK196.out 0
        have hfz31_1 := Qc BK196.out 1
        have hfz31_2 := Qc BK196.out 2
        have hfz31_3 := Qc BK196.out 3
        have hfz31_4 := Qc BK196.out 4
        have hfz31_5 := Qc BK196.out 5
        have hfz31_6 := Qc BK196.out 6
        go_wp2
        go_meet
        case rel => exact ⟨_, (true), (by first | rfl | (simp; done) | (simp [*]; done)), H', ⟨by have := HJ2.out; first | omega | exact Nat.le_refl _⟩, ⟨by (with_reducible repeat (first | refine Qk ?_ _ | refine Qj ?_ | refine Qi ?_ _)); exact BK196.out⟩, ⟨by repeat (first | (with_reducible first | exact HB.out | apply Qd | apply Qf | apply Qe | refine Qg ?_ GE196.out) | exact HB.out)⟩⟩
       ·
        rw [if_neg c30] at H
        have c30b0 : decide ((l0_1.length : Int) < 2) = false := decide_eq_false c30
        have c30b1 : decide (l0_1.length < 2) = false := decide_eq_false (by omega)
        clear c30
        by_cases c32 : a0_0 ≥ 5
        ·
         rw [if_pos c32] at H
         have c32b0 : decide (5 ≤ a0_0) = true := decide_eq_true c32
         clear c32
         have H' := Qa.mk H
         clear H
         have hcz33_0 : wc.cell? ⟨gb196, 0, none⟩ = some (.int .i64 a0_0) := (Qb BK196.out 0).trans rfl
         have hcz33_1 : wc.cell? ⟨gb196, 1, none⟩ = some (.slice A0_1 l0_1.length c0_1) := (Qb BK196.out 1).trans rfl
         have hcz33_2 : wc.cell? ⟨gb196, 2, none⟩ = some (.int .i64 a0_2) := (Qb BK196.out 2).trans rfl
         have hcz33_3 : wc.cell? ⟨gb196, 3, none⟩ = some (.int .u64 a0_3) := (Qb BK196.out 3).trans rfl
         have hcz33_4 : wc.cell? ⟨gb196, 4, none⟩ = some (.int .u64 a0_4) := (Qb BK196.out 4).trans rfl
         have hcz33_5 : wc.cell? ⟨gb196, 5, none⟩ = some (.int .u64 a0_5) := (Qb BK196.out 5).trans rfl
         have hcz33_6 : wc.cell? ⟨gb196, 6, none⟩ = some (.int .u64 a0_6) := (Qb BK196.out 6).trans rfl
         have hfz33_0 := Qc BK196.out 0
         have hfz33_1 := Qc BK196.out 1
         have hfz33_2 := Qc BK196.out 2
         have hfz33_3 := Qc BK196.out 3
         have hfz33_4 := Qc BK196.out 4
         have hfz33_5 := Qc BK196.out 5
         have hfz33_6 := Qc BK196.out 6
         go_wp2
         go_meet
         case rel => exact ⟨_, (((l0_1.length : Int) != 1)), (by first | rfl | (simp; done) | (simp [*]; done)), H', ⟨by have := HJ2.out; first | omega | exact Nat.le_refl _⟩, ⟨by (with_reducible repeat (first | refine Qk ?_ _ | refine Qj ?_ | refine Qi ?_ _)); exact BK196.out⟩, ⟨by repeat (first | (with_reducible first | exact HB.out | apply Qd | apply Qf | apply Qe | refine Qg ?_ GE196.out) | exact HB.out)⟩⟩
        ·
         rw [if_neg c32] at H
         have c32b0 : decide (5 ≤ a0_0) = false := decide_eq_false c32
         clear c32
         have H' := Qa.mk H
         clear H
         have hcz34_0 : wc.cell? ⟨gb196, 0, none⟩ = some (.int .i64 a0_0) := (Qb BK196.out 0).trans rfl
         have hcz34_1 : wc.cell? ⟨gb196, 1, none⟩ = some (.slice A0_1 l0_1.length c0_1) := (Qb BK196.out 1).trans rfl
         have hcz34_2 : wc.cell? ⟨gb196, 2, none⟩ = some (.int .i64 a0_2) := (Qb BK196.out 2).trans rfl
         have hcz34_3 : wc.cell? ⟨gb196, 3, none⟩ = some (.int .u64 a0_3) := (Qb BK196.out 3).trans rfl
         have hcz34_4 : wc.cell? ⟨gb196, 4, none⟩ = some (.int .u64 a0_4) := (Qb BK196.out 4).trans rfl
         have hcz34_5 : wc.cell? ⟨gb196, 5, none⟩ = some (.int .u64 a0_5) := (Qb BK196.out 5).trans rfl
         have hcz34_6 : wc.cell? ⟨gb196, 6, none⟩ = some (.int .u64 a0_6) := (Qb BK196.out 6).trans rfl
         have hfz34_0 := Qc BK196.out 0
         have hfz34_1 := Qc BK196.out 1
         have hfz34_2 := Qc BK196.out 2
         have hfz34_3 := Qc BK196.out 3
         have hfz34_4 := Qc BK196.out 4
         have hfz34_5 := Qc BK196.out 5
         have hfz34_6 := Qc BK196.out 6
         go_wp2
         go_meet
         case rel => exact ⟨_, (false), (by first | rfl | (simp; done) | (simp [*]; done)), H', ⟨by have := HJ2.out; first | omega | exact Nat.le_refl _⟩, ⟨by (with_reducible repeat (first | refine Qk ?_ _ | refine Qj ?_ | refine Qi ?_ _)); exact BK196.out⟩, ⟨by repeat (first | (with_reducible first | exact HB.out | apply Qd | apply Qf | apply Qe | refine Qg ?_ GE196.out) | exact HB.out)⟩⟩
      ·
       rw [if_neg c29] at H
       have c29b0 : (a0_0 == 3) = false := beq_eq_false_iff_ne.mpr c29
       have c29b1 : (a0_0 != 3) = true := bne_iff_ne.mpr c29
       by_cases c35 : a0_0 = 4
       ·
        rw [if_pos c35] at H
        have c35b0 : (a0_0 == 4) = true := beq_iff_eq.mpr c35
        have c35b1 : (a0_0 != 4) = false := bne_eq_false_iff_eq.mpr c35
        clear c35
        by_cases c36 : (l0_1.length : Int) < 2
        ·
         rw [if_pos c36] at H
         have c36b0 : decide ((l0_1.length : Int) < 2) = true := decide_eq_true c36
         have c36b1 : decide (l0_1.length < 2) = true := decide_eq_true (by omega)
         clear c36
         have H' := Qa.mk H
         clear H
         have hcz37_0 : wc.cell? ⟨gb196, 0, none⟩ = some (.int .i64 a0_0) := (Qb BK196.out 0).trans rfl
         have hcz37_1 : wc.cell? ⟨gb196, 1, none⟩ = some (.slice A0_1 l0_1.length c0_1) := (Qb BK196.out 1).trans rfl
         have hcz37_2 : wc.cell? ⟨gb196, 2, none⟩ = some (.int .i64 a0_2) := (Qb BK196.out 2).trans rfl
         have hcz37_3 : wc.cell? ⟨gb196, 3, none⟩ = some (.int .u64 a0_3) := (Qb BK196.out 3).trans rfl
         have hcz37_4 : wc.cell? ⟨gb196, 4, none⟩ = some (.int .u64 a0_4) := (Qb BK196.out 4).trans rfl
         have hcz37_5 : wc.cell? ⟨gb196, 5, none⟩ = some (.int .u64 a0_5) := (Qb BK196.out 5).trans rfl
         have hcz37_6 : wc.cell? ⟨gb196, 6, none⟩ = some (.int .u64 a0_6) := (Qb BK196.out 6).trans rfl
         have hfz37_0 := Qc BK196.out 0
         have hfz37_1 := Qc BK196.out 1
         have hfz37_2 := Qc BK196.out 2
         have hfz37_3 := Qc BK196.out 3
         have hfz37_4 := Qc BK196.out 4
         have hfz37_5 := Qc BK196.out 5
         have hfz37_6 := Qc BK196.out 6
         go_wp2
         go_meet
         case rel => exact ⟨_, (true), (by first | rfl | (simp; done) | (simp [*]; done)), H', ⟨by have := HJ2.out; first | omega | exact Nat.le_refl _⟩, ⟨by (with_reducible repeat (first | refine Qk ?_ _ | refine Qj ?_ | refine Qi ?_ _)); exact BK196.out⟩, ⟨by repeat (first | (with_reducible first | exact HB.out | apply Qd | apply Qf | apply Qe | refine Qg ?_ GE196.out) | exact HB.out)⟩⟩
        ·
         rw [if_neg c36] at H
         have c36b0 : decide ((l0_1.length : Int) < 2) = false := decide_eq_false c36
         have c36b1 : decide (l0_1.length < 2) = false := decide_eq_false (by omega)
         clear c36
         by_cases c38 : a0_0 ≥ 5
         ·
          rw [if_pos c38] at H
          have c38b0 : decide (5 ≤ a0_0) = true := decide_eq_true c38
          clear c38
          have H' := Qa.mk H
          clear H
          have hcz39_0 : wc.cell? ⟨gb196, 0, none⟩ = some (.int .i64 a0_0) := (Qb BK196.out 0).trans rfl
          have hcz39_1 : wc.cell? ⟨gb196, 1, none⟩ = some (.slice A0_1 l0_1.length c0_1) := (Qb BK196.out 1).trans rfl
          have hcz39_2 : wc.cell? ⟨gb196, 2, none⟩ = some (.int .i64 a0_2) := (Qb BK196.out 2).trans rfl
          have hcz39_3 : wc.cell? ⟨gb196, 3, none⟩ = some (.int .u64 a0_3) := (Qb BK196.out 3).trans rfl
          have hcz39_4 : wc.cell? ⟨gb196, 4, none⟩ = some (.int .u64 a0_4) := (Qb BK196.out 4).trans rfl
          have hcz39_5 : wc.cell? ⟨gb196, 5, none⟩ = some (.int .u64 a0_5) := (Qb BK196.out 5).trans rfl
          have hcz39_6 : wc.cell? ⟨gb196, 6, none⟩ = some (.int .u64 a0_6) := (Qb BK196.out 6).trans rfl
          have hfz39_0 := Qc BK196.out 0
          have hfz39_1 := Qc BK196.out 1
          have hfz39_2 := Qc BK196.out 2
          have hfz39_3 := Qc BK196.out 3
          have hfz39_4 := Qc BK196.out 4
          have hfz39_5 := Qc BK196.out 5
          have hfz39_6 := Qc BK196.out 6
          go_wp2
          go_meet
          case rel => exact ⟨_, (((l0_1.length : Int) != 1)), (by first | rfl | (simp; done) | (simp [*]; done)), H', ⟨by have := HJ2.out; first | omega | exact Nat.le_refl _⟩, ⟨by (with_reducible repeat (first | refine Qk ?_ _ | refine Qj ?_ | refine Qi ?_ _)); exact BK196.out⟩, ⟨by repeat (first | (with_reducible first | exact HB.out | apply Qd | apply Qf | apply Qe | refine Qg ?_ GE196.out) | exact HB.out)⟩⟩
         ·
          rw [if_neg c38] at H
          have c38b0 : decide (5 ≤ a0_0) = false := decide_eq_false c38
          clear c38
          have H' := Qa.mk H
          clear H
          have hcz40_0 : wc.cell? ⟨gb196, 0, none⟩ = some (.int .i64 a0_0) := (Qb BK196.out 0).trans rfl
          have hcz40_1 : wc.cell? ⟨gb196, 1, none⟩ = some (.slice A0_1 l0_1.length c0_1) := (Qb BK196.out 1).trans rfl
          have hcz40_2 : wc.cell? ⟨gb196, 2, none⟩ = some (.int .i64 a0_2) := (Qb BK196.out 2).trans rfl
          have hcz40_3 : wc.cell? ⟨gb196, 3, none⟩ = some (.int .u64 a0_3) := (Qb BK196.out 3).trans rfl
          have hcz40_4 : wc.cell? ⟨gb196, 4, none⟩ = some (.int .u64 a0_4) := (Qb BK196.out 4).trans rfl
          have hcz40_5 : wc.cell? ⟨gb196, 5, none⟩ = some (.int .u64 a0_5) := (Qb BK196.out 5).trans rfl
          have hcz40_6 : wc.cell? ⟨gb196, 6, none⟩ = some (.int .u64 a0_6) := (Qb BK196.out 6).trans rfl
          have hfz40_0 := Qc BK196.out 0
          have hfz40_1 := Qc BK196.out 1
          have hfz40_2 := Qc BK196.out 2
          have hfz40_3 := Qc BK196.out 3
          have hfz40_4 := Qc BK196.out 4
          have hfz40_5 := Qc BK196.out 5
          have hfz40_6 := Qc BK196.out 6
          go_wp2
          go_meet
          case rel => exact ⟨_, (false), (by first | rfl | (simp; done) | (simp [*]; done)), H', ⟨by have := HJ2.out; first | omega | exact Nat.le_refl _⟩, ⟨by (with_reducible repeat (first | refine Qk ?_ _ | refine Qj ?_ | refine Qi ?_ _)); exact BK196.out⟩, ⟨by repeat (first | (with_reducible first | exact HB.out | apply Qd | apply Qf | apply Qe | refine Qg ?_ GE196.out) | exact HB.out)⟩⟩
       ·
        rw [if_neg c35] at H
        have c35b0 : (a0_0 == 4) = false := beq_eq_false_iff_ne.mpr c35
        have c35b1 : (a0_0 != 4) = true := bne_iff_ne.mpr c35
        by_cases c41 : a0_0 ≥ 5
        ·
         rw [if_pos c41] at H
         have c41b0 : decide (5 ≤ a0_0) = true := decide_eq_true c41
         clear c41
         have H' := Qa.mk H
         clear H
         have hcz42_0 : wc.cell? ⟨gb196, 0, none⟩ = some (.int .i64 a0_0) := (Qb BK196.out 0).trans rfl
         have hcz42_1 : wc.cell? ⟨gb196, 1, none⟩ = some (.slice A0_1 l0_1.length c0_1) := (Qb BK196.out 1).trans rfl
         have hcz42_2 : wc.cell? ⟨gb196, 2, none⟩ = some (.int .i64 a0_2) := (Qb BK196.out 2).trans rfl
         have hcz42_3 : wc.cell? ⟨gb196, 3, none⟩ = some (.int .u64 a0_3) := (Qb BK196.out 3).trans rfl
         have hcz42_4 : wc.cell? ⟨gb196, 4, none⟩ = some (.int .u64 a0_4) := (Qb BK196.out 4).trans rfl
         have hcz42_5 : wc.cell? ⟨gb196, 5, none⟩ = some (.int .u64 a0_5) := (Qb BK196.out 5).trans rfl
         have hcz42_6 : wc.cell? ⟨gb196, 6, none⟩ = some (.int .u64 a0_6) := (Qb BK196.out 6).trans rfl
         have hfz42_0 := Qc BK196.out 0
         have hfz42_1 := Qc BK196.out 1
         have hfz42_2 := Qc BK196.out 2
         have hfz42_3 := Qc BK196.out 3
         have hfz42_4 := Qc BK196.out 4
         have hfz42_5 := Qc BK196.out 5
         have hfz42_6 := Qc BK196.out 6
         go_wp2
         go_meet
         case rel => exact ⟨_, (((l0_1.length : Int) != 1)), (by first | rfl | (simp; done) | (simp [*]; done)), H', ⟨by have := HJ2.out; first | omega | exact Nat.le_refl _⟩, ⟨by (with_reducible repeat (first | refine Qk ?_ _ | refine Qj ?_ | refine Qi ?_ _)); exact BK196.out⟩, ⟨by repeat (first | (with_reducible first | exact HB.out | apply Qd | apply Qf | apply Qe | refine Qg ?_ GE196.out) | exact HB.out)⟩⟩
        ·
         rw [if_neg c41] at H
         have c41b0 : decide (5 ≤ a0_0) = false := decide_eq_false c41
         clear c41
         have H' := Qa.mk H
         clear H
         have hcz43_0 : wc.cell? ⟨gb196, 0, none⟩ = some (.int .i64 a0_0) := (Qb BK196.out 0).trans rfl
         have hcz43_1 : wc.cell? ⟨gb196, 1, none⟩ = some (.slice A0_1 l0_1.length c0_1) := (Qb BK196.out 1).trans rfl
         have hcz43_2 : wc.cell? ⟨gb196, 2, none⟩ = some (.int .i64 a0_2) := (Qb BK196.out 2).trans rfl
         have hcz43_3 : wc.cell? ⟨gb196, 3, none⟩ = some (.int .u64 a0_3) := (Qb BK196.out 3).trans rfl
         have hcz43_4 : wc.cell? ⟨gb196, 4, none⟩ = some (.int .u64 a0_4) := (Qb BK196.out 4).trans rfl
         have hcz43_5 : wc.cell? ⟨gb196, 5, none⟩ = some (.int .u64 a0_5) := (Qb BK196.out 5).trans rfl
         have hcz43_6 : wc.cell? ⟨gb196, 6, none⟩ = some (.int .u64 a0_6) := (Qb BK196.out 6).trans rfl
         have hfz43_0 := Qc BK196.out 0
         have hfz43_1 := Qc BK196.out 1
         have hfz43_2 := Qc BK196.out 2
         have hfz43_3 := Qc BK196.out 3
         have hfz43_4 := Qc BK196.out 4
         have hfz43_5 := Qc BK196.out 5
         have hfz43_6 := Qc BK196.out 6
         go_wp2
         go_meet
         case rel => exact ⟨_, (false), (by first | rfl | (simp; done) | (simp [*]; done)), H', ⟨by have := HJ2.out; first | omega | exact Nat.le_refl _⟩, ⟨by (with_reducible repeat (first | refine Qk ?_ _ | refine Qj ?_ | refine Qi ?_ _)); exact BK196.out⟩, ⟨by repeat (first | (with_reducible first | exact HB.out | apply Qd | apply Qf | apply Qe | refine Qg ?_ GE196.out) | exact HB.out)⟩⟩
    case rest =>
     clear HC9
     try clear c1
     try clear c2
     try clear p2
     try clear c3
     try clear c4
     try clear c5
     try clear c5b0
     try clear c8
     try clear c11
     try clear c11b0
     try clear c12
     try clear c12b0
     try clear c12b1
     try clear c12b2
     try clear c13
     try clear c13b0
     try clear c13b1
     try clear c14
     try clear c14b0
     try clear c14b1
     try clear c16
     try clear c16b0
     try clear c19
     try clear c19b0
     try clear c19b1
     try clear c20
     try clear c20b0
     try clear c20b1
     try clear c22
     try clear c22b0
     try clear c25
     try clear c25b0
     try clear c29
     try clear c29b0
     try clear c29b1
     try clear c30
     try clear c30b0
     try clear c30b1
     try clear c32
     try clear c32b0
     try clear c35
     try clear c35b0
     try clear c35b1
     try clear c36
     try clear c36b0
     try clear c36b1
     try clear c37
     try clear c38
     try clear c38b0
     try clear c41
     try clear c41b0
     try clear hcz10_0
     try clear hcz10_1
     try clear hcz10_2
     try clear hcz10_3
     try clear hcz10_4
     try clear hcz10_5
     try clear hcz10_6
     try clear hcz15_0
     try clear hcz15_1
     try clear hcz15_2
     try clear hcz15_3
     try clear hcz15_4
     try clear hcz15_5
     try clear hcz15_6
     try clear hcz17_0
     try clear hcz17_1
     try clear hcz17_2
     try clear hcz17_3
     try clear hcz17_4
     try clear hcz17_5
     try clear hcz17_6
     try clear hcz18_0
     try clear hcz18_1
     try clear hcz18_2
     try clear hcz18_3
     try clear hcz18_4
     try clear hcz18_5
     try clear hcz18_6
     try clear hcz21_0
     try clear hcz21_1
     try clear hcz21_2
     try clear hcz21_3
     try clear hcz21_4
     try clear hcz21_5
     try clear hcz21_6
     try clear hcz23_0
     try clear hcz23_1
     try clear hcz23_2
     try clear hcz23_3
     try clear hcz23_4
     try clear hcz23_5
     try clear hcz23_6
     try clear hcz24_0
     try clear hcz24_1
     try clear hcz24_2
     try clear hcz24_3
     try clear hcz24_4
     try clear hcz24_5
     try clear hcz24_6
     try clear hcz26_0
     try clear hcz26_1
     try clear hcz26_2
     try clear hcz26_3
     try clear hcz26_4
     try clear hcz26_5
     try clear hcz26_6
     try clear hcz27_0
     try clear hcz27_1
     try clear hcz27_2
     try clear hcz27_3
     try clear hcz27_4
     try clear hcz27_5
     try clear hcz27_6
     try clear hcz28_0
     try clear hcz28_1
     try clear hcz28_2
     try clear hcz28_3
     try clear hcz28_4
     try clear hcz28_5
     try clear hcz28_6
     try clear hcz31_0
     try clear hcz31_1
     try clear hcz31_2
     try clear hcz31_3
     try clear hcz31_4
     try clear hcz31_5
     try clear hcz31_6
     try clear hcz33_0
     try clear hcz33_1
     try clear hcz33_2
     try clear hcz33_3
     try clear hcz33_4
     try clear hcz33_5
     try clear hcz33_6
     try clear hcz34_0
     try clear hcz34_1
     try clear hcz34_2
     try clear hcz34_3
     try clear hcz34_4
     try clear hcz34_5
     try clear hcz34_6
     try clear hcz37_0
     try clear hcz37_1
     try clear hcz37_2
     try clear hcz37_3
     try clear hcz37_4
     try clear hcz37_5
     try clear hcz37_6
     try clear hcz39_0
     try clear hcz39_1
     try clear hcz39_2
     try clear hcz39_3
     try clear hcz39_4
     try clear hcz39_5
     try clear hcz39_6
     try clear hcz40_0
     try clear hcz40_1
     try clear hcz40_2
     try clear hcz40_3
     try clear hcz40_4
     try clear hcz40_5
     try clear hcz40_6
     try clear hcz42_0
     try clear hcz42_1
     try clear hcz42_2
     try clear hcz42_3
     try clear hcz42_4
     try clear hcz42_5
     try clear hcz42_6
     try clear hcz43_0
     try clear hcz43_1
     try clear hcz43_2
     try clear hcz43_3
     try clear hcz43_4
     try clear hcz43_5
     try clear hcz43_6
     try clear hcz6_0
     try clear hcz6_1
     try clear hcz6_2
     try clear hcz6_3
     try clear hcz6_4
     try clear hcz6_5
     try clear hcz6_6
     try clear hcz7_0
     try clear hcz7_1
     try clear hcz7_2
     try clear hcz7_3
     try clear hcz7_4
     try clear hcz7_5
     try clear hcz7_6
     try clear hfz10_0
     try clear hfz10_1
     try clear hfz10_2
     try clear hfz10_3
     try clear hfz10_4
     try clear hfz10_5
     try clear hfz10_6
     try clear hfz15_0
     try clear hfz15_1
     try clear hfz15_2
     try clear hfz15_3
     try clear hfz15_4
     try clear hfz15_5
     try clear hfz15_6
     try clear hfz17_0
     try clear hfz17_1
     try clear hfz17_2
     try clear hfz17_3
     try clear hfz17_4
     try clear hfz17_5
     try clear hfz17_6
     try clear hfz18_0
     try clear hfz18_1
     try clear hfz18_2
     try clear hfz18_3
     try clear hfz18_4
     try clear hfz18_5
     try clear hfz18_6
     try clear hfz21_0
     try clear hfz21_1
     try clear hfz21_2
     try clear hfz21_3
     try clear hfz21_4
     try clear hfz21_5
     try clear hfz21_6
     try clear hfz23_0
     try clear hfz23_1
     try clear hfz23_2
     try clear hfz23_3
     try clear hfz23_4
     try clear hfz23_5
     try clear hfz23_6
     try clear hfz24_0
     try clear hfz24_1
     try clear hfz24_2
     try clear hfz24_3
     try clear hfz24_4
     try clear hfz24_5
     try clear hfz24_6
     try clear hfz26_0
     try clear hfz26_1
     try clear hfz26_2
     try clear hfz26_3
     try clear hfz26_4
     try clear hfz26_5
     try clear hfz26_6
     try clear hfz27_0
     try clear hfz27_1
     try clear hfz27_2
     try clear hfz27_3
     try clear hfz27_4
     try clear hfz27_5
     try clear hfz27_6
     try clear hfz28_0
     try clear hfz28_1
     try clear hfz28_2
     try clear hfz28_3
     try clear hfz28_4
     try clear hfz28_5
     try clear hfz28_6
     try clear hfz31_0
     try clear hfz31_1
     try clear hfz31_2
     try clear hfz31_3
     try clear hfz31_4
     try clear hfz31_5
     try clear hfz31_6
     try clear hfz33_0
     try clear hfz33_1
     try clear hfz33_2
     try clear hfz33_3
     try clear hfz33_4
     try clear hfz33_5
     try clear hfz33_6
     try clear hfz34_0
     try clear hfz34_1
     try clear hfz34_2
     try clear hfz34_3
     try clear hfz34_4
     try clear hfz34_5
     try clear hfz34_6
     try clear hfz37_0
     try clear hfz37_1
     try clear hfz37_2
     try clear hfz37_3
     try clear hfz37_4
     try clear hfz37_5
     try clear hfz37_6
     try clear hfz39_0
     try clear hfz39_1
     try clear hfz39_2
     try clear hfz39_3
     try clear hfz39_4
     try clear hfz39_5
     try clear hfz39_6
     try clear hfz40_0
     try clear hfz40_1
     try clear hfz40_2
     try clear hfz40_3
     try clear hfz40_4
     try clear hfz40_5
     try clear hfz40_6
     try clear hfz42_0
     try clear hfz42_1
     try clear hfz42_2
     try clear hfz42_3
     try clear hfz42_4
     try clear hfz42_5
     try clear hfz42_6
     try clear hfz43_0
     try clear hfz43_1
     try clear hfz43_2
     try clear hfz43_3
     try clear hfz43_4
     try clear hfz43_5
     try clear hfz43_6
     try clear hfz6_0
     try clear hfz6_1
     try clear hfz6_2
     try clear hfz6_3
     try clear hfz6_4
     try clear hfz6_5
     try clear hfz6_6
     try clear hfz7_0
     try clear hfz7_1
     try clear hfz7_2
     try clear hfz7_3
     try clear hfz7_4
     try clear hfz7_5
     try clear hfz7_6
     try clear p2
     obtain ⟨kq, x46_8, rfl, HA, HJ8, BK196, HB⟩ := hcut
     cases kq with
     | zero => exact absurd HA.out (by simp [Qe1.j1])
     | succ kj8 =>
      have H := HA.out
      clear HA
      simp only [Qe1.j1] at H
      by_cases c44 : x46_8 = true
      ·
       subst c44
       have H1 : (some false) = some r := by rw [if_pos rfl] at H; exact H
       clear H
       have H := H1
       clear H1
       obtain rfl := Option.some.inj H
       go_wp2
       go_ret
       exact ⟨by first | rfl | (simp [Qr, Qq] <;> rfl) | (simp [*, Qr, Qq] <;> rfl), by repeat (first | (with_reducible first | exact HB.out | apply Qd | apply Qf | apply Qe | refine Qg ?_ GE196.out) | exact HB.out)⟩
      ·
       replace c44 := Bool.eq_false_iff.mpr c44
       subst c44
       have H1 : (if a0_0 = 2 then (if a0_2 < 0 then (some false) else (if a0_2 ≥ a1 then (some false) else (if a0_0 = 1 then (some true) else (some (a0_3 == 0 && (a0_4 == 0 && (a0_5 == 0 && (a0_6 == 0)))))))) else (if a0_2 = 0 then (if a0_0 = 1 then (some true) else (some (a0_3 == 0 && (a0_4 == 0 && (a0_5 == 0 && (a0_6 == 0)))))) else (some false))) = some r := by rw [if_neg (show ¬ (false = true) by decide)] at H; exact H
       clear H
       have H := H1
       clear H1
       by_cases c45 : a0_0 = 2
       ·
        rw [if_pos c45] at H
        have c45b0 : (a0_0 == 2) = true := beq_iff_eq.mpr c45
        have c45b1 : (a0_0 != 2) = false := bne_eq_false_iff_eq.mpr c45
        clear c45
        by_cases c46 : a0_2 < 0
        ·
         rw [if_pos c46] at H
         have c46b0 : decide (a0_2 < 0) = true := decide_eq_true c46
         clear c46
         obtain rfl := Option.some.inj H
         have hcz47_0 : wc.cell? ⟨gb196, 0, none⟩ = some (.int .i64 a0_0) := (Qb BK196.out 0).trans rfl
         have hcz47_1 : wc.cell? ⟨gb196, 1, none⟩ = some (.slice A0_1 l0_1.length c0_1) := (Qb BK196.out 1).trans rfl
         have hcz47_2 : wc.cell? ⟨gb196, 2, none⟩ = some (.int .i64 a0_2) := (Qb BK196.out 2).trans rfl
         have hcz47_3 : wc.cell? ⟨gb196, 3, none⟩ = some (.int .u64 a0_3) := (Qb BK196.out 3).trans rfl
         have hcz47_4 : wc.cell? ⟨gb196, 4, none⟩ = some (.int .u64 a0_4) := (Qb BK196.out 4).trans rfl
         have hcz47_5 : wc.cell? ⟨gb196, 5, none⟩ = some (.int .u64 a0_5) := (Qb BK196.out 5).trans rfl
         have hcz47_6 : wc.cell? ⟨gb196, 6, none⟩ = some (.int .u64 a0_6) := (Qb BK196.out 6).trans rfl
         have hfz47_0 := Qc BK196.out 0
         have hfz47_1 := Qc BK196.out 1
         have hfz47_2 := Qc BK196.out 2
         have hfz47_3 := Qc BK196.out 3
         have hfz47_4 := Qc BK196.out 4
         have hfz47_5 := Qc BK196.out 5
         have hfz47_6 := Qc BK196.out 6
         go_wp2
         go_ret
         exact ⟨by first | rfl | (simp [Qr, Qq] <;> rfl) | (simp [*, Qr, Qq] <;> rfl), by repeat (first | (with_reducible first | exact HB.out | apply Qd | apply Qf | apply Qe | refine Qg ?_ GE196.out) | exact HB.out)⟩
        ·
         rw [if_neg c46] at H
         have c46b0 : decide (a0_2 < 0) = false := decide_eq_false c46
         clear c46
         by_cases c48 : a0_2 ≥ a1
         ·
          rw [if_pos c48] at H
          have c48b0 : decide (a1 ≤ a0_2) = true := decide_eq_true c48
          clear c48
          obtain rfl := Option.some.inj H
          have hcz49_0 : wc.cell? ⟨gb196, 0, none⟩ = some (.int .i64 a0_0) := (Qb BK196.out 0).trans rfl
          have hcz49_1 : wc.cell? ⟨gb196, 1, none⟩ = some (.slice A0_1 l0_1.length c0_1) := (Qb BK196.out 1).trans rfl
          have hcz49_2 : wc.cell? ⟨gb196, 2, none⟩ = some (.int .i64 a0_2) := (Qb BK196.out 2).trans rfl
          have hcz49_3 : wc.cell? ⟨gb196, 3, none⟩ = some (.int .u64 a0_3) := (Qb BK196.out 3).trans rfl
          have hcz49_4 : wc.cell? ⟨gb196, 4, none⟩ = some (.int .u64 a0_4) := (Qb BK196.out 4).trans rfl
          have hcz49_5 : wc.cell? ⟨gb196, 5, none⟩ = some (.int .u64 a0_5) := (Qb BK196.out 5).trans rfl
          have hcz49_6 : wc.cell? ⟨gb196, 6, none⟩ = some (.int .u64 a0_6) := (Qb BK196.out 6).trans rfl
          have hfz49_0 := Qc BK196.out 0
          have hfz49_1 := Qc BK196.out 1
          have hfz49_2 := Qc BK196.out 2
          have hfz49_3 := Qc BK196.out 3
          have hfz49_4 := Qc BK196.out 4
          have hfz49_5 := Qc BK196.out 5
          have hfz49_6 := Qc BK196.out 6
          go_wp2
          go_ret
          exact ⟨by first | rfl | (simp [Qr, Qq] <;> rfl) | (simp [*, Qr, Qq] <;> rfl), by repeat (first | (with_reducible first | exact HB.out | apply Qd | apply Qf | apply Qe | refine Qg ?_ GE196.out) | exact HB.out)⟩
         ·
          rw [if_neg c48] at H
          have c48b0 : decide (a1 ≤ a0_2) = false := decide_eq_false c48
          clear c48
          by_cases c50 : a0_0 = 1
          ·
           rw [if_pos c50] at H
           have c50b0 : (a0_0 == 1) = true := beq_iff_eq.mpr c50
           have c50b1 : (a0_0 != 1) = false := bne_eq_false_iff_eq.mpr c50
           clear c50
           obtain rfl := Option.some.inj H
           have hcz51_0 : wc.cell? ⟨gb196, 0, none⟩ = some (.int .i64 a0_0) := (Qb BK196.out 0).trans rfl
           have hcz51_1 : wc.cell? ⟨gb196, 1, none⟩ = some (.slice A0_1 l0_1.length c0_1) := (Qb BK196.out 1).trans rfl
           have hcz51_2 : wc.cell? ⟨gb196, 2, none⟩ = some (.int .i64 a0_2) := (Qb BK196.out 2).trans rfl
           have hcz51_3 : wc.cell? ⟨gb196, 3, none⟩ = some (.int .u64 a0_3) := (Qb BK196.out 3).trans rfl
           have hcz51_4 : wc.cell? ⟨gb196, 4, none⟩ = some (.int .u64 a0_4) := (Qb BK196.out 4).trans rfl
           have hcz51_5 : wc.cell? ⟨gb196, 5, none⟩ = some (.int .u64 a0_5) := (Qb BK196.out 5).trans rfl
           have hcz51_6 : wc.cell? ⟨gb196, 6, none⟩ = some (.int .u64 a0_6) := (Qb BK196.out 6).trans rfl
           have hfz51_0 := Qc BK196.out 0
           have hfz51_1 := Qc BK196.out 1
           have hfz51_2 := Qc BK196.out 2
           have hfz51_3 := Qc BK196.out 3
           have hfz51_4 := Qc BK196.out 4
           have hfz51_5 := Qc BK196.out 5
           have hfz51_6 := Qc BK196.out 6
           go_wp2
           go_ret
           exact ⟨by first | rfl | (simp [Qr, Qq] <;> rfl) | (simp [*, Qr, Qq] <;> rfl), by repeat (first | (with_reducible first | exact HB.out | apply Qd | apply Qf | apply Qe | refine Qg ?_ GE196.out) | exact HB.out)⟩
          ·
           rw [if_neg c50] at H
           have c50b0 : (a0_0 == 1) = false := beq_eq_false_iff_ne.mpr c50
           have c50b1 : (a0_0 != 1) = true := bne_iff_ne.mpr c50
           obtain rfl := Option.some.inj H
           have hcz52_0 : wc.cell? ⟨gb196, 0, none⟩ = some (.int .i64 a0_0) := (Qb BK196.out 0).trans rfl
           have hcz52_1 : wc.cell? ⟨gb196, 1, none⟩ = some (.slice A0_1 l0_1.length c0_1) := (Qb BK196.out 1).trans rfl
           have hcz52_2 : wc.cell? ⟨gb196, 2, none⟩ = some (.int .i64 a0_2) := (Qb BK196.out 2).trans rfl
           have hcz52_3 : wc.cell? ⟨gb196, 3, none⟩ = some (.int .u64 a0_3) := (Qb BK196.out 3).trans rfl
           have hcz52_4 : wc.cell? ⟨gb196, 4, none⟩ = some (.int .u64 a0_4) := (Qb BK196.out 4).trans rfl
           have hcz52_5 : wc.cell? ⟨gb196, 5, none⟩ = some (.int .u64 a0_5) := (Qb BK196.out 5).trans rfl
           have hcz52_6 : wc.cell? ⟨gb196, 6, none⟩ = some (.int .u64 a0_6) := (Qb BK196.out 6).trans rfl
           have hfz52_0 := Qc BK196.out 0
           have hfz52_1 := Qc BK196.out 1
           have hfz52_2 := Qc BK196.out 2
           have hfz52_3 := Qc BK196.out 3
           have hfz52_4 := Qc BK196.out 4
           have hfz52_5 := Qc BK196.out 5
           have hfz52_6 := Qc BK196.out 6
           go_wp2
           go_ret
           exact ⟨by first | rfl | (simp [Qr, Qq] <;> rfl) | (simp [*, Qr, Qq] <;> rfl), by repeat (first | (with_reducible first | exact HB.out | apply Qd | apply Qf | apply Qe | refine Qg ?_ GE196.out) | exact HB.out)⟩
       ·
        rw [if_neg c45] at H
        have c45b0 : (a0_0 == 2) = false := beq_eq_false_iff_ne.mpr c45
        have c45b1 : (a0_0 != 2) = true := bne_iff_ne.mpr c45
        by_cases c53 : a0_2 = 0
        ·
         rw [if_pos c53] at H
         have c53b0 : (a0_2 == 0) = true := beq_iff_eq.mpr c53
         have c53b1 : (a0_2 != 0) = false := bne_eq_false_iff_eq.mpr c53
         clear c53
         by_cases c54 : a0_0 = 1
         ·
          rw [if_pos c54] at H
          have c54b0 : (a0_0 == 1) = true := beq_iff_eq.mpr c54
          have c54b1 : (a0_0 != 1) = false := bne_eq_false_iff_eq.mpr c54
          clear c54
          obtain rfl := Option.some.inj H
          have hcz55_0 : wc.cell? ⟨gb196, 0, none⟩ = some (.int .i64 a0_0) := (Qb BK196.out 0).trans rfl
          have hcz55_1 : wc.cell? ⟨gb196, 1, none⟩ = some (.slice A0_1 l0_1.length c0_1) := (Qb BK196.out 1).trans rfl
          have hcz55_2 : wc.cell? ⟨gb196, 2, none⟩ = some (.int .i64 a0_2) := (Qb BK196.out 2).trans rfl
          have hcz55_3 : wc.cell? ⟨gb196, 3, none⟩ = some (.int .u64 a0_3) := (Qb BK196.out 3).trans rfl
          have hcz55_4 : wc.cell? ⟨gb196, 4, none⟩ = some (.int .u64 a0_4) := (Qb BK196.out 4).trans rfl
          have hcz55_5 : wc.cell? ⟨gb196, 5, none⟩ = some (.int .u64 a0_5) := (Qb BK196.out 5).trans rfl
          have hcz55_6 : wc.cell? ⟨gb196, 6, none⟩ = some (.int .u64 a0_6) := (Qb BK196.out 6).trans rfl
          have hfz55_0 := Qc BK196.out 0
          have hfz55_1 := Qc BK196.out 1
          have hfz55_2 := Qc BK196.out 2
          have hfz55_3 := Qc BK196.out 3
          have hfz55_4 := Qc BK196.out 4
          have hfz55_5 := Qc BK196.out 5
          have hfz55_6 := Qc BK196.out 6
          go_wp2
          go_ret
          exact ⟨by first | rfl | (simp [Qr, Qq] <;> rfl) | (simp [*, Qr, Qq] <;> rfl), by repeat (first | (with_reducible first | exact HB.out | apply Qd | apply Qf | apply Qe | refine Qg ?_ GE196.out) | exact HB.out)⟩
         ·
          rw [if_neg c54] at H
          have c54b0 : (a0_0 == 1) = false := beq_eq_false_iff_ne.mpr c54
          have c54b1 : (a0_0 != 1) = true := bne_iff_ne.mpr c54
          obtain rfl := Option.some.inj H
          have hcz56_0 : wc.cell? ⟨gb196, 0, none⟩ = some (.int .i64 a0_0) := (Qb BK196.out 0).trans rfl
          have hcz56_1 : wc.cell? ⟨gb196, 1, none⟩ = some (.slice A0_1 l0_1.length c0_1) := (Qb BK196.out 1).trans rfl
          have hcz56_2 : wc.cell? ⟨gb196, 2, none⟩ = some (.int .i64 a0_2) := (Qb BK196.out 2).trans rfl
          have hcz56_3 : wc.cell? ⟨gb196, 3, none⟩ = some (.int .u64 a0_3) := (Qb BK196.out 3).trans rfl
          have hcz56_4 : wc.cell? ⟨gb196, 4, none⟩ = some (.int .u64 a0_4) := (Qb BK196.out 4).trans rfl
          have hcz56_5 : wc.cell? ⟨gb196, 5, none⟩ = some (.int .u64 a0_5) := (Qb BK196.out 5).trans rfl
          have hcz56_6 : wc.cell? ⟨gb196, 6, none⟩ = some (.int .u64 a0_6) := (Qb BK196.out 6).trans rfl
          have hfz56_0 := Qc BK196.out 0
          have hfz56_1 := Qc BK196.out 1
          have hfz56_2 := Qc BK196.out 2
          have hfz56_3 := Qc BK196.out 3
          have hfz56_4 := Qc BK196.out 4
          have hfz56_5 := Qc BK196.out 5
          have hfz56_6 := Qc BK196.out 6
          go_wp2
          go_ret
          exact ⟨by first | rfl | (simp [Qr, Qq] <;> rfl) | (simp [*, Qr, Qq] <;> rfl), by repeat (first | (with_reducible first | exact HB.out | apply Qd | apply Qf | apply Qe | refine Qg ?_ GE196.out) | exact HB.out)⟩
        ·
         rw [if_neg c53] at H
         have c53b0 : (a0_2 == 0) = false := beq_eq_false_iff_ne.mpr c53
         have c53b1 : (a0_2 != 0) = true := bne_iff_ne.mpr c53
         obtain rfl := Option.some.inj H
         have hcz57_0 : wc.cell? ⟨gb196, 0, none⟩ = some (.int .i64 a0_0) := (Qb BK196.out 0).trans rfl
         have hcz57_1 : wc.cell? ⟨gb196, 1, none⟩ = some (.slice A0_1 l0_1.length c0_1) := (Qb BK196.out 1).trans rfl
         have hcz57_2 : wc.cell? ⟨gb196, 2, none⟩ = some (.int .i64 a0_2) := (Qb BK196.out 2).trans rfl
         have hcz57_3 : wc.cell? ⟨gb196, 3, none⟩ = some (.int .u64 a0_3) := (Qb BK196.out 3).trans rfl
         have hcz57_4 : wc.cell? ⟨gb196, 4, none⟩ = some (.int .u64 a0_4) := (Qb BK196.out 4).trans rfl
         have hcz57_5 : wc.cell? ⟨gb196, 5, none⟩ = some (.int .u64 a0_5) := (Qb BK196.out 5).trans rfl
         have hcz57_6 : wc.cell? ⟨gb196, 6, none⟩ = some (.int .u64 a0_6) := (Qb BK196.out 6).trans rfl
         have hfz57_0 := Qc BK196.out 0
         have hfz57_1 := Qc BK196.out 1
         have hfz57_2 := Qc BK196.out 2
         have hfz57_3 := Qc BK196.out 3
         have hfz57_4 := Qc BK196.out 4
         have hfz57_5 := Qc BK196.out 5
         have hfz57_6 := Qc BK196.out 6
         go_wp2
         go_ret
         exact ⟨by first | rfl | (simp [Qr, Qq] <;> rfl) | (simp [*, Qr, Qq] <;> rfl), by repeat (first | (with_reducible first | exact HB.out | apply Qd | apply Qf | apply Qe | refine Qg ?_ GE196.out) | exact HB.out)⟩
end Go.Proofs.Ythgedejnpgcacaa.V
namespace Go.Proofs.Ythgedejnpgcacaa.V
open Go.RowKit Go.Proofs.YthgedejnpgcacaaW.PrintWords Go.Proofs.YthgedejnpgcacaaW.PrintLast Go.Proofs.YthgedejnpgcacaaW.PrintMore
attribute [local go_sem] max2_int min2_int max_two min_two max_three min_three max_four min_four tdiv_most
set_option linter.unusedVariables false
set_option linter.unusedSimpArgs false
mutual
def Qp1.l0 : Nat → Int → Int → Int → List (S51) → List (S56) → Option (Int)
 | 0, _, _, _, _, _ => none
 | k + 1, x1, x5, x6, x198000, x198001 => if x6 ≥ 0 then (if 0 ≤ x1 then (if x1 < (x198001.length : Int) then (if 0 ≤ x6 then (if x6 < (((Ql x198001 x1).f1).length : Int) then (if (rd ((Ql x198001 x1).f1) x6) = x5 then ((Qp1.f k x198000 x198001 x5).bind fun t201 => (if t201 = (-2) then (some (-2)) else (Qp1.l0 k x1 t201 (wrap64 (x6 - 1)) x198000 x198001))) else (some (-2))) else (none)) else (none)) else (none)) else (none)) else (some x5)
def Qp1.f : Nat → List (S51) → List (S56) → Int → Option (Int)
 | 0, _, _, _ => none
 | k + 1, l0_0, l0_1, a1 => if a1 < 0 then (some (-2)) else (if 0 ≤ a1 then (if a1 < (l0_1.length : Int) then (Qp1.l0 k a1 (wrap64 (a1 - 1)) (wrap64 ((((Ql l0_1 a1).f1).length : Int) - 1)) l0_0 l0_1) else (none)) else (none))
end
theorem Qp1.mono_l : ∀ k, (∀ y0 y1 y2, LeO (Qp1.f k y0 y1 y2) (Qp1.f (k + 1) y0 y1 y2)) ∧ (∀ y0 y1 y2 y3 y4, LeO (Qp1.l0 k y0 y1 y2 y3 y4) (Qp1.l0 (k + 1) y0 y1 y2 y3 y4))
 | 0 => ⟨fun _ _ _ r h => by simp [Qp1.f] at h, fun _ _ _ _ _ r h => by simp [Qp1.l0] at h⟩
 | k + 1 => by
  obtain ⟨ih0, ih1⟩ := Qp1.mono_l k
  refine ⟨?_, ?_⟩
  ·
   intro y0 y1 y2
   unfold Qp1.f
   repeat' first
   | (with_reducible exact ih0 _ _ _)
   | (with_reducible exact ih1 _ _ _ _ _)
   | (with_reducible exact LeO.refl _)
   | (with_reducible exact LeO.none _)
   | (with_reducible refine LeO.ite ?_ ?_)
   | (with_reducible refine LeO.bind ?_ (fun _ => ?_))
   | exact ih0 _ _ _
   | exact ih1 _ _ _ _ _
   | exact LeO.none _
   | refine LeO.ite ?_ ?_
   | refine LeO.bind ?_ (fun _ => ?_)
  ·
   intro y0 y1 y2 y3 y4
   unfold Qp1.l0
   repeat' first
   | (with_reducible exact ih0 _ _ _)
   | (with_reducible exact ih1 _ _ _ _ _)
   | (with_reducible exact LeO.refl _)
   | (with_reducible exact LeO.none _)
   | (with_reducible refine LeO.ite ?_ ?_)
   | (with_reducible refine LeO.bind ?_ (fun _ => ?_))
   | exact ih0 _ _ _
   | exact ih1 _ _ _ _ _
   | exact LeO.none _
   | refine LeO.ite ?_ ?_
   | refine LeO.bind ?_ (fun _ => ?_)
theorem Qp1.mono : ∀ a0 a1 a2 k, LeO (Qp1.f k a0 a1 a2) (Qp1.f (k + 1) a0 a1 a2) := by
 intro a0 a1 a2 k
 obtain ⟨ih0, ih1⟩ := Qp1.mono_l k
 exact ih0 a0 a1 a2
set_option maxHeartbeats 8000000 in
set_option maxRecDepth 100000 in
theorem Qp1.calls (k : Nat) : ∀ (A0_0 : Option Addr) (c0_0 : Nat) (l0_0 : List (S51)) (A0_1 : Option Addr) (c0_1 : Nat) (l0_1 : List (S56)) (a1 : Int) (r : Int) (w : World) (hr0_0 : Kd.C k51 w A0_0 l0_0.length l0_0) (hc0_0 : l0_0.length ≤ c0_0) (hr0_1 : Kd.C k56 w A0_1 l0_1.length l0_1) (hc0_1 : l0_1.length ≤ c0_1) (h : Qp1.f k l0_0 l0_1 a1 = some r),
 Calls Try.prog 42 #[.agg #[.slice A0_0 l0_0.length c0_0, .slice A0_1 l0_1.length c0_1], .int .i64 a1] w fun e w' => e = .returned (.int .i64 r) ∧ Below w.heap.size w w' := by
 induction k using Nat.strongRecOn with
 | _ k ih =>
 intro A0_0 c0_0 l0_0 A0_1 c0_1 l0_1 a1 r w hr0_0 hc0_0 hr0_1 hc0_1 h
 cases k with
 | zero => exact absurd h (by simp [Qp1.f])
 | succ k =>
 simp only [Qp1.f] at h
 have hu25 := Try.underlying25
 have HR0_0 := Qa.mk hr0_0
 have HC0_0 := Qa.mk hc0_0
 clear hr0_0 hc0_0
 have HR0_1 := Qa.mk hr0_1
 have HC0_1 := Qa.mk hc0_1
 clear hr0_1 hc0_1
 have HB := Qa.mk (Below.refl w.heap.size w)
 have H : (if a1 < 0 then (some (-2)) else (if 0 ≤ a1 then (if a1 < (l0_1.length : Int) then (Qp1.l0 k a1 (wrap64 (a1 - 1)) (wrap64 ((((Ql l0_1 a1).f1).length : Int) - 1)) l0_0 l0_1) else (none)) else (none))) = some r := h
 clear h
 by_cases c3 : a1 < 0
 ·
  rw [if_pos c3] at H
  have c3b0 : decide (a1 < 0) = true := decide_eq_true c3
  clear c3
  obtain rfl := Option.some.inj H
  go_enter Try.func42, Try.ntmps42
  go_wp2_with (first | ((with_reducible refine Qc1 (N := 2) rfl ?_); refine Ql1 ?hg (N := 2) ?hd (cs := #[.slice A0_0 l0_0.length c0_0, .slice A0_1 l0_1.length c0_1]) (t := 25) ?hr ?_; (case hd => rfl); (case hg => rfl); (case hr => first | (go_simp; done) | (go_simp; rfl)); intro gb197 hg w4 hbox hb; have n0_ := Qa.mk (Qm (by repeat (first | (with_reducible first | exact HB.out | apply Qd | apply Qf | apply Qe) | exact HB.out)) hb); have n1_ := Qa.mk (hbox); have n2_ := Qa.mk ((by rw [hg]; exact (Qv (by repeat (first | (with_reducible first | exact HB.out | apply Qd | apply Qf | apply Qe) | exact HB.out))) : w.heap.size ≤ gb197)); have n3_ := Qa.mk ((by rw [hg]; exact (Qv (by repeat (first | (with_reducible first | exact HB.out | apply Qd | apply Qf | apply Qe) | exact HB.out))) : w.heap.size ≤ gb197)); clear HB; have HB := n0_; have BK197 := n1_; have GW197 := n2_; have GE197 := n3_; clear n0_ n1_ n2_ n3_; clear hb hbox hg))
  go_ret
  exact ⟨by first | rfl | (simp [Qr, Qq] <;> rfl) | (simp [*, Qr, Qq] <;> rfl), by repeat (first | (with_reducible first | exact HB.out | apply Qd | apply Qf | apply Qe | refine Qg ?_ GE197.out) | exact HB.out)⟩
 ·
  rw [if_neg c3] at H
  have c3b0 : decide (a1 < 0) = false := decide_eq_false c3
  clear c3
  by_cases c5 : 0 ≤ a1
  ·
   rw [if_pos c5] at H
   have c5b0 : decide (0 ≤ a1) = true := decide_eq_true c5
   clear c5
   by_cases c6 : a1 < (l0_1.length : Int)
   ·
    rw [if_pos c6] at H
    have c6b0 : decide (a1 < (l0_1.length : Int)) = true := decide_eq_true c6
    clear c6
    have H' := Qa.mk H
    clear H
    go_enter Try.func42, Try.ntmps42
    go_wp2_with (first | ((with_reducible refine Qc1 (N := 2) rfl ?_); refine Ql1 ?hg (N := 2) ?hd (cs := #[.slice A0_0 l0_0.length c0_0, .slice A0_1 l0_1.length c0_1]) (t := 25) ?hr ?_; (case hd => rfl); (case hg => rfl); (case hr => first | (go_simp; done) | (go_simp; rfl)); intro gb197 hg w7 hbox hb; have n0_ := Qa.mk (Qm (by repeat (first | (with_reducible first | exact HB.out | apply Qd | apply Qf | apply Qe) | exact HB.out)) hb); have n1_ := Qa.mk (hbox); have n2_ := Qa.mk ((by rw [hg]; exact (Qv (by repeat (first | (with_reducible first | exact HB.out | apply Qd | apply Qf | apply Qe) | exact HB.out))) : w.heap.size ≤ gb197)); have n3_ := Qa.mk ((by rw [hg]; exact (Qv (by repeat (first | (with_reducible first | exact HB.out | apply Qd | apply Qf | apply Qe) | exact HB.out))) : w.heap.size ≤ gb197)); clear HB; have HB := n0_; have BK197 := n1_; have GW197 := n2_; have GE197 := n3_; clear n0_ n1_ n2_ n3_; clear hb hbox hg; have hcz8_0 : w7.cell? ⟨gb197, 0, none⟩ = some (.slice A0_0 l0_0.length c0_0) := (Qb BK197.out 0).trans rfl; have hcz8_1 : w7.cell? ⟨gb197, 1, none⟩ = some (.slice A0_1 l0_1.length c0_1) := (Qb BK197.out 1).trans rfl; have hfz8_0 := Qc BK197.out 0; have hfz8_1 := Qc BK197.out 1; have p198 : 0 ≤ (a1 : Int) := of_decide_eq_true (by first | (with_reducible assumption) | assumption); have q198 : a1 < (l0_1.length : Int) := of_decide_eq_true (by first | (with_reducible assumption) | assumption); obtain ⟨ad198, A198_1, c198_1, e198, hx198_0, hx198_1, hx198_2, hx198_3, hx198_4, hx198_5, hx198_6, hl198_1, hi198_1⟩ := at_T56 HR0_1.out a1 p198 q198; cases e198; replace hx198_0 := (HB.out.cell (World.block_lt_of_cell? w _ hx198_0)).trans hx198_0; replace hx198_1 := (HB.out.cell (World.block_lt_of_cell? w _ hx198_1)).trans hx198_1; replace hx198_2 := (HB.out.cell (World.block_lt_of_cell? w _ hx198_2)).trans hx198_2; replace hx198_3 := (HB.out.cell (World.block_lt_of_cell? w _ hx198_3)).trans hx198_3; replace hx198_4 := (HB.out.cell (World.block_lt_of_cell? w _ hx198_4)).trans hx198_4; replace hx198_5 := (HB.out.cell (World.block_lt_of_cell? w _ hx198_5)).trans hx198_5; replace hx198_6 := (HB.out.cell (World.block_lt_of_cell? w _ hx198_6)).trans hx198_6; have HR198_1 := Qa.mk hi198_1; have HC198_1 := Qa.mk hl198_1; clear hi198_1 hl198_1; replace p198 := eq_true p198; replace q198 := eq_true q198))
    go_loopg [5, 6] k (fun kq v5 v6 w' => ∃ (x5_1 : Int) (x6_1 : Int), v5 = .int .i64 x5_1 ∧ v6 = .int .i64 x6_1 ∧ Qa (Qp1.l0 kq a1 x5_1 x6_1 l0_0 l0_1 = some r) ∧ Qa (kq ≤ k) ∧ Qa (w'.heap[gb197]? = some (.cells #[(.slice A0_0 l0_0.length c0_0), (.slice (some ad198) l0_1.length c0_1)] 25 (0, 0))) ∧ Qa (Below w.heap.size w w'))
    case atStart => exact ⟨(wrap64 (a1 - 1)), (wrap64 ((((Ql l0_1 a1).f1).length : Int) - 1)), (by first | rfl | (simp; done) | (simp [*]; done)), (by first | rfl | (simp; done) | (simp [*]; done)), H', ⟨Nat.le_refl _⟩, ⟨by (with_reducible repeat (first | refine Qk ?_ _ | refine Qj ?_ | refine Qi ?_ _)); exact BK197.out⟩, ⟨by repeat (first | (with_reducible first | exact HB.out | apply Qd | apply Qf | apply Qe | refine Qg ?_ GE197.out) | exact HB.out)⟩⟩
    case round =>
     clear H'
     try clear c1
     try clear p1
     try clear q1
     try clear hx1
     try clear p2
     try clear c3
     try clear c3b0
     try clear c4
     try clear c5
     try clear c5b0
     try clear c6
     try clear c6b0
     try clear p6
     try clear hcz8_0
     try clear hcz8_1
     try clear hfz8_0
     try clear hfz8_1
     try clear hx198_0
     try clear hx198_1
     try clear hx198_2
     try clear hx198_3
     try clear hx198_4
     try clear hx198_5
     try clear hx198_6
     try clear p198
     try clear q198
     obtain ⟨x5_1, x6_1, rfl, rfl, HA, HK1, BK197, HB⟩ := hrel
     cases gk with
     | zero => exact absurd HA.out (by simp [Qp1.l0])
     | succ k1 =>
      have H := HA.out
      clear HA
      simp only [Qp1.l0] at H
      by_cases c9 : x6_1 ≥ 0
      ·
       rw [if_pos c9] at H
       have c9b0 : decide (0 ≤ x6_1) = true := decide_eq_true c9
       clear c9
       by_cases c10 : 0 ≤ a1
       ·
        rw [if_pos c10] at H
        have c10b0 : decide (0 ≤ a1) = true := decide_eq_true c10
        clear c10
        by_cases c11 : a1 < (l0_1.length : Int)
        ·
         rw [if_pos c11] at H
         have c11b0 : decide (a1 < (l0_1.length : Int)) = true := decide_eq_true c11
         clear c11
         by_cases c12 : 0 ≤ x6_1
         ·
          rw [if_pos c12] at H
          have c12b0 : decide (0 ≤ x6_1) = true := decide_eq_true c12
          clear c12
          by_cases c13 : x6_1 < (((Ql l0_1 a1).f1).length : Int)
          ·
           rw [if_pos c13] at H
           have c13b0 : decide (x6_1 < (((Ql l0_1 a1).f1).length : Int)) = true := decide_eq_true c13
           clear c13
           by_cases c14 : (rd ((Ql l0_1 a1).f1) x6_1) = x5_1
           ·
            rw [if_pos c14] at H
            have c14b0 : ((rd ((Ql l0_1 a1).f1) x6_1) == x5_1) = true := beq_iff_eq.mpr c14
            have c14b1 : ((rd ((Ql l0_1 a1).f1) x6_1) != x5_1) = false := bne_eq_false_iff_eq.mpr c14
            clear c14
            replace H := Option.bind_eq_some_iff.mp H
            obtain ⟨t201, A150, H⟩ := H
            replace H : (if t201 = (-2) then (some (-2)) else (Qp1.l0 k1 a1 t201 (wrap64 (x6_1 - 1)) l0_0 l0_1)) = some r := H
            have A15 := Qa.mk A150
            clear A150
            by_cases c16 : t201 = (-2)
            ·
             rw [if_pos c16] at H
             have c16b0 : (t201 == (-2)) = true := beq_iff_eq.mpr c16
             have c16b1 : (t201 != (-2)) = false := bne_eq_false_iff_eq.mpr c16
             clear c16
             obtain rfl := Option.some.inj H
             have hcz17_0 : wr.cell? ⟨gb197, 0, none⟩ = some (.slice A0_0 l0_0.length c0_0) := (Qb BK197.out 0).trans rfl
             have hcz17_1 : wr.cell? ⟨gb197, 1, none⟩ = some (.slice (some ad198) l0_1.length c0_1) := (Qb BK197.out 1).trans rfl
             have hfz17_0 := Qc BK197.out 0
             have hfz17_1 := Qc BK197.out 1
             have p199 : 0 ≤ (a1 : Int) := of_decide_eq_true (by first | (with_reducible assumption) | assumption)
             have q199 : a1 < (l0_1.length : Int) := of_decide_eq_true (by first | (with_reducible assumption) | assumption)
             obtain ⟨ad199, A199_1, c199_1, e199, hx199_0, hx199_1, hx199_2, hx199_3, hx199_4, hx199_5, hx199_6, hl199_1, hi199_1⟩ := at_T56 HR0_1.out a1 p199 q199
             obtain rfl : ad198 = ad199 := (by injection e199)
             replace hx199_0 := (HB.out.cell (World.block_lt_of_cell? w _ hx199_0)).trans hx199_0
             replace hx199_1 := (HB.out.cell (World.block_lt_of_cell? w _ hx199_1)).trans hx199_1
             replace hx199_2 := (HB.out.cell (World.block_lt_of_cell? w _ hx199_2)).trans hx199_2
             replace hx199_3 := (HB.out.cell (World.block_lt_of_cell? w _ hx199_3)).trans hx199_3
             replace hx199_4 := (HB.out.cell (World.block_lt_of_cell? w _ hx199_4)).trans hx199_4
             replace hx199_5 := (HB.out.cell (World.block_lt_of_cell? w _ hx199_5)).trans hx199_5
             replace hx199_6 := (HB.out.cell (World.block_lt_of_cell? w _ hx199_6)).trans hx199_6
             have HR199_1 := Qa.mk hi199_1
             have HC199_1 := Qa.mk hl199_1
             clear hi199_1 hl199_1
             replace p199 := eq_true p199
             replace q199 := eq_true q199
             have p200 : 0 ≤ (x6_1 : Int) := of_decide_eq_true (by first | (with_reducible assumption) | assumption)
             have q200 : x6_1 < (((Ql l0_1 a1).f1).length : Int) := of_decide_eq_true (by first | (with_reducible assumption) | assumption)
             obtain ⟨ad200, e200, hx200_0⟩ := Kd.at_int HR199_1.out x6_1 p200 q200
             cases e200
             replace hx200_0 := (HB.out.cell (World.block_lt_of_cell? w _ hx200_0)).trans hx200_0
             replace p200 := eq_true p200
             replace q200 := eq_true q200
             go_wp2_with (first | ((with_reducible refine Qd1 (f := 42) rfl ?_); refine goesL_ (some 36) rfl rfl Try.func42 (by kernel_rfl) rfl #[.agg #[.slice A0_0 l0_0.length c0_0, .slice (some ad198) l0_1.length c0_1], .int .i64 x5_1] rfl (by (try simp only [List.map_toArray, List.map_cons, List.map_nil]); first | done | rfl | (simp only [List.length_drop, List.length_take]; rfl)) ?_; (with_reducible refine (ih k1 (by have := HK1.out; omega) _ _ l0_0 _ _ l0_1 x5_1 t201 _ ?side1 ?side2 ?side3 ?side4 A15.out).mono ?_); (case side1 => repeat (first | exact (Kd.Qn HR0_0.out HB.out) | (with_reducible refine Kd.Qw ?_ _) | (with_reducible refine Kd.Qy ?_ _) | (with_reducible refine Kd.Qx ?_))); (case side2 => exact HC0_0.out); (case side3 => repeat (first | exact (Kd.Qn HR0_1.out HB.out) | (with_reducible refine Kd.Qw ?_ _) | (with_reducible refine Kd.Qy ?_ _) | (with_reducible refine Kd.Qx ?_))); (case side4 => exact HC0_1.out); rintro e w18 ⟨rfl, hb⟩; refine ⟨_, rfl, ?_⟩; have n0_ := Qa.mk (Qh (g := gb197) (o := .cells #[.slice A0_0 l0_0.length c0_0, .slice (some ad198) l0_1.length c0_1] 25 (0, 0)) (by (with_reducible repeat (first | refine Qk ?_ _ | refine Qj ?_ | refine Qi ?_ _)); exact BK197.out) hb); have n1_ := Qa.mk (Qm (by repeat (first | (with_reducible first | exact HB.out | apply Qd | apply Qf | apply Qe | refine Qg ?_ GE197.out) | exact HB.out)) hb); clear BK197; clear HB; have BK197 := n0_; have HB := n1_; clear n0_ n1_; (try clear hb); (try clear hb2); (try clear hk); (try clear hi)))
             go_ret
             exact ⟨by first | rfl | (simp [Qr, Qq] <;> rfl) | (simp [*, Qr, Qq] <;> rfl), by repeat (first | (with_reducible first | exact HB.out | apply Qd | apply Qf | apply Qe | refine Qg ?_ GE197.out) | exact HB.out)⟩
            ·
             rw [if_neg c16] at H
             have c16b0 : (t201 == (-2)) = false := beq_eq_false_iff_ne.mpr c16
             have c16b1 : (t201 != (-2)) = true := bne_iff_ne.mpr c16
             have H' := Qa.mk H
             clear H
             have hcz19_0 : wr.cell? ⟨gb197, 0, none⟩ = some (.slice A0_0 l0_0.length c0_0) := (Qb BK197.out 0).trans rfl
             have hcz19_1 : wr.cell? ⟨gb197, 1, none⟩ = some (.slice (some ad198) l0_1.length c0_1) := (Qb BK197.out 1).trans rfl
             have hfz19_0 := Qc BK197.out 0
             have hfz19_1 := Qc BK197.out 1
             have p199 : 0 ≤ (a1 : Int) := of_decide_eq_true (by first | (with_reducible assumption) | assumption)
             have q199 : a1 < (l0_1.length : Int) := of_decide_eq_true (by first | (with_reducible assumption) | assumption)
             obtain ⟨ad199, A199_1, c199_1, e199, hx199_0, hx199_1, hx199_2, hx199_3, hx199_4, hx199_5, hx199_6, hl199_1, hi199_1⟩ := at_T56 HR0_1.out a1 p199 q199
             obtain rfl : ad198 = ad199 := (by injection e199)
             replace hx199_0 := (HB.out.cell (World.block_lt_of_cell? w _ hx199_0)).trans hx199_0
             replace hx199_1 := (HB.out.cell (World.block_lt_of_cell? w _ hx199_1)).trans hx199_1
             replace hx199_2 := (HB.out.cell (World.block_lt_of_cell? w _ hx199_2)).trans hx199_2
             replace hx199_3 := (HB.out.cell (World.block_lt_of_cell? w _ hx199_3)).trans hx199_3
             replace hx199_4 := (HB.out.cell (World.block_lt_of_cell? w _ hx199_4)).trans hx199_4
             replace hx199_5 := (HB.out.cell (World.block_lt_of_cell? w _ hx199_5)).trans hx199_5
             replace hx199_6 := (HB.out.cell (World.block_lt_of_cell? w _ hx199_6)).trans hx199_6
             have HR199_1 := Qa.mk hi199_1
             have HC199_1 := Qa.mk hl199_1
             clear hi199_1 hl199_1
             replace p199 := eq_true p199
             replace q199 := eq_true q199
             have p200 : 0 ≤ (x6_1 : Int) := of_decide_eq_true (by first | (with_reducible assumption) | assumption)
             have q200 : x6_1 < (((Ql l0_1 a1).f1).length : Int) := of_decide_eq_true (by first | (with_reducible assumption) | assumption)
             obtain ⟨ad200, e200, hx200_0⟩ := Kd.at_int HR199_1.out x6_1 p200 q200
             cases e200
             replace hx200_0 := (HB.out.cell (World.block_lt_of_cell? w _ hx200_0)).trans hx200_0
             replace p200 := eq_true p200
             replace q200 := eq_true q200
             go_wp2_with (first | ((with_reducible refine Qd1 (f := 42) rfl ?_); refine goesL_ (some 36) rfl rfl Try.func42 (by kernel_rfl) rfl #[.agg #[.slice A0_0 l0_0.length c0_0, .slice (some ad198) l0_1.length c0_1], .int .i64 x5_1] rfl (by (try simp only [List.map_toArray, List.map_cons, List.map_nil]); first | done | rfl | (simp only [List.length_drop, List.length_take]; rfl)) ?_; (with_reducible refine (ih k1 (by have := HK1.out; omega) _ _ l0_0 _ _ l0_1 x5_1 t201 _ ?side1 ?side2 ?side3 ?side4 A15.out).mono ?_); (case side1 => repeat (first | exact (Kd.Qn HR0_0.out HB.out) | (with_reducible refine Kd.Qw ?_ _) | (with_reducible refine Kd.Qy ?_ _) | (with_reducible refine Kd.Qx ?_))); (case side2 => exact HC0_0.out); (case side3 => repeat (first | exact (Kd.Qn HR0_1.out HB.out) | (with_reducible refine Kd.Qw ?_ _) | (with_reducible refine Kd.Qy ?_ _) | (with_reducible refine Kd.Qx ?_))); (case side4 => exact HC0_1.out); rintro e w20 ⟨rfl, hb⟩; refine ⟨_, rfl, ?_⟩; have n0_ := Qa.mk (Qh (g := gb197) (o := .cells #[.slice A0_0 l0_0.length c0_0, .slice (some ad198) l0_1.length c0_1] 25 (0, 0)) (by (with_reducible repeat (first | refine Qk ?_ _ | refine Qj ?_ | refine Qi ?_ _)); exact BK197.out) hb); have n1_ := Qa.mk (Qm (by repeat (first | (with_reducible first | exact HB.out | apply Qd | apply Qf | apply Qe | refine Qg ?_ GE197.out) | exact HB.out)) hb); clear BK197; clear HB; have BK197 := n0_; have HB := n1_; clear n0_ n1_; (try clear hb); (try clear hb2); (try clear hk); (try clear hi)))
             go_roundg k1
             case measure => have := HK1.out; omega
             case rel => exact ⟨(t201), (wrap64 (x6_1 - 1)), (by first | rfl | (simp; done) | (simp [*]; done)), (by first | rfl | (simp; done) | (simp [*]; done)), H', ⟨by have := HK1.out; omega⟩, ⟨by (with_reducible repeat (first | refine Qk ?_ _ | refine Qj ?_ | refine Qi ?_ _)); exact BK197.out⟩, ⟨by repeat (first | (with_reducible first | exact HB.out | apply Qd | apply Qf | apply Qe | refine Qg ?_ GE197.out) | exact HB.out)⟩⟩
           ·
            rw [if_neg c14] at H
            have c14b0 : ((rd ((Ql l0_1 a1).f1) x6_1) == x5_1) = false := beq_eq_false_iff_ne.mpr c14
            have c14b1 : ((rd ((Ql l0_1 a1).f1) x6_1) != x5_1) = true := bne_iff_ne.mpr c14
            obtain rfl := Option.some.inj H
            have hcz21_0 : wr.cell? ⟨gb197, 0, none⟩ = some (.slice A0_0 l0_0.length c0_0) := (Qb BK197.out 0).trans rfl
            have hcz21_1 : wr.cell? ⟨gb197, 1, none⟩ = some (.slice (some ad198) l0_1.length c0_1) := (Qb BK197.out 1).trans rfl
            have hfz21_0 := Qc BK197.out 0
            have hfz21_1 := Qc BK197.out 1
            have p199 : 0 ≤ (a1 : Int) := of_decide_eq_true (by first | (with_reducible assumption) | assumption)
            have q199 : a1 < (l0_1.length : Int) := of_decide_eq_true (by first | (with_reducible assumption) | assumption)
            obtain ⟨ad199, A199_1, c199_1, e199, hx199_0, hx199_1, hx199_2, hx199_3, hx199_4, hx199_5, hx199_6, hl199_1, hi199_1⟩ := at_T56 HR0_1.out a1 p199 q199
            obtain rfl : ad198 = ad199 := (by injection e199)
            replace hx199_0 := (HB.out.cell (World.block_lt_of_cell? w _ hx199_0)).trans hx199_0
            replace hx199_1 := (HB.out.cell (World.block_lt_of_cell? w _ hx199_1)).trans hx199_1
            replace hx199_2 := (HB.out.cell (World.block_lt_of_cell? w _ hx199_2)).trans hx199_2
            replace hx199_3 := (HB.out.cell (World.block_lt_of_cell? w _ hx199_3)).trans hx199_3
            replace hx199_4 := (HB.out.cell (World.block_lt_of_cell? w _ hx199_4)).trans hx199_4
            replace hx199_5 := (HB.out.cell (World.block_lt_of_cell? w _ hx199_5)).trans hx199_5
            replace hx199_6 := (HB.out.cell (World.block_lt_of_cell? w _ hx199_6)).trans hx199_6
            have HR199_1 := Qa.mk hi199_1
            have HC199_1 := Qa.mk hl199_1
            clear hi199_1 hl199_1
            replace p199 := eq_true p199
            replace q199 := eq_true q199
            have p200 : 0 ≤ (x6_1 : Int) := of_decide_eq_true (by first | (with_reducible assumption) | assumption)
            have q200 : x6_1 < (((Ql l0_1 a1).f1).length : Int) := of_decide_eq_true (by first | (with_reducible assumption) | assumption)
            obtain ⟨ad200, e200, hx200_0⟩ := Kd.at_int HR199_1.out x6_1 p200 q200
            cases e200
            replace hx200_0 := (HB.out.cell (World.block_lt_of_cell? w _ hx200_0)).trans hx200_0
            replace p200 := eq_true p200
            replace q200 := eq_true q200
            go_wp2
            go_ret
            exact ⟨by first | rfl | (simp [Qr, Qq] <;> rfl) | (simp [*, Qr, Qq] <;> rfl), by repeat (first | (with_reducible first | exact HB.out | apply Qd | apply Qf | apply Qe | refine Qg ?_ GE197.out) | exact HB.out)⟩
          ·
           rw [if_neg c13] at H
           exact absurd H (by simp)
         ·
          rw [if_neg c12] at H
          exact absurd H (by simp)
        ·
         rw [if_neg c11] at H
         exact absurd H (by simp)
       ·
        rw [if_neg c10] at H
        exact absurd H (by simp)
      ·
       rw [if_neg c9] at H
       have c9b0 : decide (0 ≤ x6_1) = false := decide_eq_false c9
       clear c9
       obtain rfl := Option.some.inj H
       go_wp2
       go_ret
       exact ⟨by first | rfl | (simp [Qr, Qq] <;> rfl) | (simp [*, Qr, Qq] <;> rfl), by repeat (first | (with_reducible first | exact HB.out | apply Qd | apply Qf | apply Qe | refine Qg ?_ GE197.out) | exact HB.out)⟩
   ·
    rw [if_neg c6] at H
    exact absurd H (by simp)
  ·
   rw [if_neg c5] at H
   exact absurd H (by simp)
end Go.Proofs.Ythgedejnpgcacaa.V
namespace Go.Proofs.Ythgedejnpgcacaa.V
open Go.RowKit Go.Proofs.YthgedejnpgcacaaW.PrintWords Go.Proofs.YthgedejnpgcacaaW.PrintLast Go.Proofs.YthgedejnpgcacaaW.PrintMore
attribute [local go_sem] max2_int min2_int max_two min_two max_three min_three max_four min_four tdiv_most
set_option linter.unusedVariables false
set_option linter.unusedSimpArgs false
def Qs1.l0 : Nat → Int → Int → List (S51) → List (S56) → Option (Bool)
 | 0, _, _, _, _ => none
 | k + 1, x3, x4, x203000, x203001 => if x4 < (x203000.length : Int) then (if 0 ≤ x4 then (if ((rd_T51 x203000 x4).f1) ≤ x3 then (some false) else (if ((rd_T51 x203000 x4).f1) ≥ (x203001.length : Int) then (some false) else ((Qp1.f k x203000 x203001 ((rd_T51 x203000 x4).f1)).bind fun t204 => (if t204 = x3 then (Qs1.l0 k ((rd_T51 x203000 x4).f1) (wrap64 (x4 + 1)) x203000 x203001) else (some false))))) else (none)) else (some (x3 == (wrap64 ((x203001.length : Int) - 1))))
def Qs1.f (k : Nat) (l0_0 : List (S51)) (l0_1 : List (S56)) : Option (Bool) := Qs1.l0 k (-1) 0 l0_0 l0_1
theorem Qs1.mono_l : ∀ k, (∀ y0 y1 y2 y3, LeO (Qs1.l0 k y0 y1 y2 y3) (Qs1.l0 (k + 1) y0 y1 y2 y3))
 | 0 => fun _ _ _ _ r h => by simp [Qs1.l0] at h
 | k + 1 => by
  have ih0 := Qs1.mono_l k
  ·
   intro y0 y1 y2 y3
   unfold Qs1.l0
   repeat' first
   | (with_reducible exact ih0 _ _ _ _)
   | (with_reducible exact Qp1.mono _ _ _ _)
   | (with_reducible exact LeO.refl _)
   | (with_reducible exact LeO.none _)
   | (with_reducible refine LeO.ite ?_ ?_)
   | (with_reducible refine LeO.bind ?_ (fun _ => ?_))
   | exact ih0 _ _ _ _
   | exact Qp1.mono _ _ _ _
   | exact LeO.none _
   | refine LeO.ite ?_ ?_
   | refine LeO.bind ?_ (fun _ => ?_)
theorem Qs1.mono : ∀ a0 a1 k, LeO (Qs1.f k a0 a1) (Qs1.f (k + 1) a0 a1) := by
 intro a0 a1 k
 have ih0 := Qs1.mono_l k
 unfold Qs1.f
 repeat' first
  | (with_reducible exact ih0 _ _ _ _)
  | (with_reducible exact Qp1.mono _ _ _ _)
  | (with_reducible exact LeO.refl _)
  | (with_reducible exact LeO.none _)
  | (with_reducible refine LeO.ite ?_ ?_)
  | (with_reducible refine LeO.bind ?_ (fun _ => ?_))
  | exact ih0 _ _ _ _
  | exact Qp1.mono _ _ _ _
  | exact LeO.none _
  | refine LeO.ite ?_ ?_
  | refine LeO.bind ?_ (fun _ => ?_)
set_option maxHeartbeats 8000000 in
set_option maxRecDepth 100000 in
theorem Qs1.calls (k : Nat) (A0_0 : Option Addr) (c0_0 : Nat) (l0_0 : List (S51)) (A0_1 : Option Addr) (c0_1 : Nat) (l0_1 : List (S56)) (r : Bool) (w : World) (hr0_0 : Kd.C k51 w A0_0 l0_0.length l0_0) (hc0_0 : l0_0.length ≤ c0_0) (hr0_1 : Kd.C k56 w A0_1 l0_1.length l0_1) (hc0_1 : l0_1.length ≤ c0_1) (h : Qs1.f k l0_0 l0_1 = some r) :
 Calls Try.prog 38 #[.agg #[.slice A0_0 l0_0.length c0_0, .slice A0_1 l0_1.length c0_1]] w fun e w' => e = .returned (.bool r) ∧ Below w.heap.size w w' := by
 have hu25 := Try.underlying25
 have HR0_0 := Qa.mk hr0_0
 have HC0_0 := Qa.mk hc0_0
 clear hr0_0 hc0_0
 have HR0_1 := Qa.mk hr0_1
 have HC0_1 := Qa.mk hc0_1
 clear hr0_1 hc0_1
 have HB := Qa.mk (Below.refl w.heap.size w)
 have H : (Qs1.l0 k (-1) 0 l0_0 l0_1) = some r := h
 clear h
 have H' := Qa.mk H
 clear H
 go_enter Try.func38, Try.ntmps38
 go_wp2_with (first | ((with_reducible refine Qc1 (N := 1) rfl ?_); (try (refine Qm1 (by rfl) ?_; dsimp only)); refine Ql1 ?hg (N := 1) ?hd (cs := #[.slice A0_0 l0_0.length c0_0, .slice A0_1 l0_1.length c0_1]) (t := 25) ?hr ?_; (case hd => rfl); (case hg => rfl); (case hr => first | (go_simp; done) | (go_simp; rfl)); intro gb202 hg w2 hbox hb; have n0_ := Qa.mk (Qm (by repeat (first | (with_reducible first | exact HB.out | apply Qd | apply Qf | apply Qe) | exact HB.out)) hb); have n1_ := Qa.mk (hbox); have n2_ := Qa.mk ((by rw [hg]; exact (Qv (by repeat (first | (with_reducible first | exact HB.out | apply Qd | apply Qf | apply Qe) | exact HB.out))) : w.heap.size ≤ gb202)); have n3_ := Qa.mk ((by rw [hg]; exact (Qv (by repeat (first | (with_reducible first | exact HB.out | apply Qd | apply Qf | apply Qe) | exact HB.out))) : w.heap.size ≤ gb202)); clear HB; have HB := n0_; have BK202 := n1_; have GW202 := n2_; have GE202 := n3_; clear n0_ n1_ n2_ n3_; clear hb hbox hg))
 go_loopg [3, 4] k (fun kq v3 v4 w' => ∃ (x3_1 : Int) (x4_1 : Int), v3 = .int .i64 x3_1 ∧ v4 = .int .i64 x4_1 ∧ Qa (Qs1.l0 kq x3_1 x4_1 l0_0 l0_1 = some r) ∧ Qa (kq ≤ k) ∧ Qa (w'.heap[gb202]? = some (.cells #[(.slice A0_0 l0_0.length c0_0), (.slice A0_1 l0_1.length c0_1)] 25 (0, 0))) ∧ Qa (Below w.heap.size w w'))
 case atStart => exact ⟨((-1)), (0), (by first | rfl | (simp; done) | (simp [*]; done)), (by first | rfl | (simp; done) | (simp [*]; done)), H', ⟨Nat.le_refl _⟩, ⟨by (with_reducible repeat (first | refine Qk ?_ _ | refine Qj ?_ | refine Qi ?_ _)); exact BK202.out⟩, ⟨by repeat (first | (with_reducible first | exact HB.out | apply Qd | apply Qf | apply Qe | refine Qg ?_ GE202.out) | exact HB.out)⟩⟩
 case round =>
  clear H'
  try clear p2
  obtain ⟨x3_1, x4_1, rfl, rfl, HA, HK1, BK202, HB⟩ := hrel
  cases gk with
  | zero => exact absurd HA.out (by simp [Qs1.l0])
  | succ k1 =>
   have H := HA.out
   clear HA
   simp only [Qs1.l0] at H
   by_cases c3 : x4_1 < (l0_0.length : Int)
   ·
    rw [if_pos c3] at H
    have c3b0 : decide (x4_1 < (l0_0.length : Int)) = true := decide_eq_true c3
    clear c3
    by_cases c4 : 0 ≤ x4_1
    ·
     rw [if_pos c4] at H
     have c4b0 : decide (0 ≤ x4_1) = true := decide_eq_true c4
     clear c4
     by_cases c5 : ((rd_T51 l0_0 x4_1).f1) ≤ x3_1
     ·
      rw [if_pos c5] at H
      have c5b0 : decide (((rd_T51 l0_0 x4_1).f1) ≤ x3_1) = true := decide_eq_true c5
      clear c5
      obtain rfl := Option.some.inj H
      have hcz6_0 : wr.cell? ⟨gb202, 0, none⟩ = some (.slice A0_0 l0_0.length c0_0) := (Qb BK202.out 0).trans rfl
      have hcz6_1 : wr.cell? ⟨gb202, 1, none⟩ = some (.slice A0_1 l0_1.length c0_1) := (Qb BK202.out 1).trans rfl
      have hfz6_0 := Qc BK202.out 0
      have hfz6_1 := Qc BK202.out 1
      have p203 : 0 ≤ (x4_1 : Int) := of_decide_eq_true (by first | (with_reducible assumption) | assumption)
      have q203 : x4_1 < (l0_0.length : Int) := of_decide_eq_true (by first | (with_reducible assumption) | assumption)
      obtain ⟨ad203, e203, hx203_0, hx203_1⟩ := at_T51 HR0_0.out x4_1 p203 q203
      cases e203
      replace hx203_0 := (HB.out.cell (World.block_lt_of_cell? w _ hx203_0)).trans hx203_0
      replace hx203_1 := (HB.out.cell (World.block_lt_of_cell? w _ hx203_1)).trans hx203_1
      replace p203 := eq_true p203
      replace q203 := eq_true q203
      go_wp2
      go_ret
      exact ⟨by first | rfl | (simp [Qr, Qq] <;> rfl) | (simp [*, Qr, Qq] <;> rfl), by repeat (first | (with_reducible first | exact HB.out | apply Qd | apply Qf | apply Qe | refine Qg ?_ GE202.out) | exact HB.out)⟩
     ·
      rw [if_neg c5] at H
      have c5b0 : decide (((rd_T51 l0_0 x4_1).f1) ≤ x3_1) = false := decide_eq_false c5
      clear c5
      by_cases c7 : ((rd_T51 l0_0 x4_1).f1) ≥ (l0_1.length : Int)
      ·
       rw [if_pos c7] at H
       have c7b0 : decide ((l0_1.length : Int) ≤ ((rd_T51 l0_0 x4_1).f1)) = true := decide_eq_true c7
       clear c7
       obtain rfl := Option.some.inj H
       have hcz8_0 : wr.cell? ⟨gb202, 0, none⟩ = some (.slice A0_0 l0_0.length c0_0) := (Qb BK202.out 0).trans rfl
       have hcz8_1 : wr.cell? ⟨gb202, 1, none⟩ = some (.slice A0_1 l0_1.length c0_1) := (Qb BK202.out 1).trans rfl
       have hfz8_0 := Qc BK202.out 0
       have hfz8_1 := Qc BK202.out 1
       have p203 : 0 ≤ (x4_1 : Int) := of_decide_eq_true (by first | (with_reducible assumption) | assumption)
       have q203 : x4_1 < (l0_0.length : Int) := of_decide_eq_true (by first | (with_reducible assumption) | assumption)
       obtain ⟨ad203, e203, hx203_0, hx203_1⟩ := at_T51 HR0_0.out x4_1 p203 q203
       cases e203
       replace hx203_0 := (HB.out.cell (World.block_lt_of_cell? w _ hx203_0)).trans hx203_0
       replace hx203_1 := (HB.out.cell (World.block_lt_of_cell? w _ hx203_1)).trans hx203_1
       replace p203 := eq_true p203
       replace q203 := eq_true q203
       go_wp2
       go_ret
       exact ⟨by first | rfl | (simp [Qr, Qq] <;> rfl) | (simp [*, Qr, Qq] <;> rfl), by repeat (first | (with_reducible first | exact HB.out | apply Qd | apply Qf | apply Qe | refine Qg ?_ GE202.out) | exact HB.out)⟩
      ·
       rw [if_neg c7] at H
       have c7b0 : decide ((l0_1.length : Int) ≤ ((rd_T51 l0_0 x4_1).f1)) = false := decide_eq_false c7
       clear c7
       replace H := Option.bind_eq_some_iff.mp H
       obtain ⟨t204, A90, H⟩ := H
       replace H : (if t204 = x3_1 then (Qs1.l0 k1 ((rd_T51 l0_0 x4_1).f1) (wrap64 (x4_1 + 1)) l0_0 l0_1) else (some false)) = some r := H
       have A9 := Qa.mk A90
       clear A90
       by_cases c10 : t204 = x3_1
       ·
        rw [if_pos c10] at H
        have c10b0 : (t204 == x3_1) = true := beq_iff_eq.mpr c10
        have c10b1 : (t204 != x3_1) = false := bne_eq_false_iff_eq.mpr c10
        clear c10
        have H' := Qa.mk H
        clear H
        have hcz11_0 : wr.cell? ⟨gb202, 0, none⟩ = some (.slice A0_0 l0_0.length c0_0) := (Qb BK202.out 0).trans rfl
        have hcz11_1 : wr.cell? ⟨gb202, 1, none⟩ = some (.slice A0_1 l0_1.length c0_1) := (Qb BK202.out 1).trans rfl
        have hfz11_0 := Qc BK202.out 0
        have hfz11_1 := Qc BK202.out 1
        have p203 : 0 ≤ (x4_1 : Int) := of_decide_eq_true (by first | (with_reducible assumption) | assumption)
        have q203 : x4_1 < (l0_0.length : Int) := of_decide_eq_true (by first | (with_reducible assumption) | assumption)
        obtain ⟨ad203, e203, hx203_0, hx203_1⟩ := at_T51 HR0_0.out x4_1 p203 q203
        cases e203
        replace hx203_0 := (HB.out.cell (World.block_lt_of_cell? w _ hx203_0)).trans hx203_0
        replace hx203_1 := (HB.out.cell (World.block_lt_of_cell? w _ hx203_1)).trans hx203_1
        replace p203 := eq_true p203
        replace q203 := eq_true q203
        go_wp2_with (first | (go_at_call 42; (with_reducible refine (Qp1.calls k1 _ _ l0_0 _ _ l0_1 ((rd_T51 l0_0 x4_1).f1) t204 _ ?side1 ?side2 ?side3 ?side4 A9.out).mono ?_); (case side1 => repeat (first | exact (Kd.Qn HR0_0.out HB.out) | (with_reducible refine Kd.Qw ?_ _) | (with_reducible refine Kd.Qy ?_ _) | (with_reducible refine Kd.Qx ?_))); (case side2 => exact HC0_0.out); (case side3 => repeat (first | exact (Kd.Qn HR0_1.out HB.out) | (with_reducible refine Kd.Qw ?_ _) | (with_reducible refine Kd.Qy ?_ _) | (with_reducible refine Kd.Qx ?_))); (case side4 => exact HC0_1.out); rintro e w12 ⟨rfl, hb⟩; have n0_ := Qa.mk (Qh (g := gb202) (o := .cells #[.slice (some ad203) l0_0.length c0_0, .slice A0_1 l0_1.length c0_1] 25 (0, 0)) (by (with_reducible repeat (first | refine Qk ?_ _ | refine Qj ?_ | refine Qi ?_ _)); exact BK202.out) hb); have n1_ := Qa.mk (Qm (by repeat (first | (with_reducible first | exact HB.out | apply Qd | apply Qf | apply Qe | refine Qg ?_ GE202.out) | exact HB.out)) hb); clear BK202; clear HB; have BK202 := n0_; have HB := n1_; clear n0_ n1_; (try clear hb); (try clear hb2); (try clear hk); (try clear hi)))
        go_roundg k1
        case measure => have := HK1.out; omega
        case rel => exact ⟨((rd_T51 l0_0 x4_1).f1), (wrap64 (x4_1 + 1)), (by first | rfl | (simp; done) | (simp [*]; done)), (by first | rfl | (simp; done) | (simp [*]; done)), H', ⟨by have := HK1.out; omega⟩, ⟨by (with_reducible repeat (first | refine Qk ?_ _ | refine Qj ?_ | refine Qi ?_ _)); exact BK202.out⟩, ⟨by repeat (first | (with_reducible first | exact HB.out | apply Qd | apply Qf | apply Qe | refine Qg ?_ GE202.out) | exact HB.out)⟩⟩
       ·
        rw [if_neg c10] at H
        have c10b0 : (t204 == x3_1) = false := beq_eq_false_iff_ne.mpr c10
        have c10b1 : (t204 != x3_1) = true := bne_iff_ne.mpr c10
        obtain rfl := Option.some.inj H
        have hcz13_0 : wr.cell? ⟨gb202, 0, none⟩ = some (.slice A0_0 l0_0.length c0_0) := (Qb BK202.out 0).trans rfl
        have hcz13_1 : wr.cell? ⟨gb202, 1, none⟩ = some (.slice A0_1 l0_1.length c0_1) := (Qb BK202.out 1).trans rfl
        have hfz13_0 := Qc BK202.out 0
        have hfz13_1 := Qc BK202.out 1
        have p203 : 0 ≤ (x4_1 : Int) := of_decide_eq_true (by first | (with_reducible assumption) | assumption)
        have q203 : x4_1 < (l0_0.length : Int) := of_decide_eq_true (by first | (with_reducible assumption) | assumption)
        obtain ⟨ad203, e203, hx203_0, hx203_1⟩ := at_T51 HR0_0.out x4_1 p203 q203
        cases e203
        replace hx203_0 := (HB.out.cell (World.block_lt_of_cell? w _ hx203_0)).trans hx203_0
        replace hx203_1 := (HB.out.cell (World.block_lt_of_cell? w _ hx203_1)).trans hx203_1
        replace p203 := eq_true p203
        replace q203 := eq_true q203
        go_wp2_with (first | (go_at_call 42; (with_reducible refine (Qp1.calls k1 _ _ l0_0 _ _ l0_1 ((rd_T51 l0_0 x4_1).f1) t204 _ ?side1 ?side2 ?side3 ?side4 A9.out).mono ?_); (case side1 => repeat (first | exact (Kd.Qn HR0_0.out HB.out) | (with_reducible refine Kd.Qw ?_ _) | (with_reducible refine Kd.Qy ?_ _) | (with_reducible refine Kd.Qx ?_))); (case side2 => exact HC0_0.out); (case side3 => repeat (first | exact (Kd.Qn HR0_1.out HB.out) | (with_reducible refine Kd.Qw ?_ _) | (with_reducible refine Kd.Qy ?_ _) | (with_reducible refine Kd.Qx ?_))); (case side4 => exact HC0_1.out); rintro e w14 ⟨rfl, hb⟩; have n0_ := Qa.mk (Qh (g := gb202) (o := .cells #[.slice (some ad203) l0_0.length c0_0, .slice A0_1 l0_1.length c0_1] 25 (0, 0)) (by (with_reducible repeat (first | refine Qk ?_ _ | refine Qj ?_ | refine Qi ?_ _)); exact BK202.out) hb); have n1_ := Qa.mk (Qm (by repeat (first | (with_reducible first | exact HB.out | apply Qd | apply Qf | apply Qe | refine Qg ?_ GE202.out) | exact HB.out)) hb); clear BK202; clear HB; have BK202 := n0_; have HB := n1_; clear n0_ n1_; (try clear hb); (try clear hb2); (try clear hk); (try clear hi)))
        go_ret
        exact ⟨by first | rfl | (simp [Qr, Qq] <;> rfl) | (simp [*, Qr, Qq] <;> rfl), by repeat (first | (with_reducible first | exact HB.out | apply Qd | apply Qf | apply Qe | refine Qg ?_ GE202.out) | exact HB.out)⟩
    ·
     rw [if_neg c4] at H
     exact absurd H (by simp)
   ·
    rw [if_neg c3] at H
    have c3b0 : decide (x4_1 < (l0_0.length : Int)) = false := decide_eq_false c3
    clear c3
    obtain rfl := Option.some.inj H
    have hcz15_0 : wr.cell? ⟨gb202, 0, none⟩ = some (.slice A0_0 l0_0.length c0_0) := (Qb BK202.out 0).trans rfl
    have hcz15_1 : wr.cell? ⟨gb202, 1, none⟩ = some (.slice A0_1 l0_1.length c0_1) := (Qb BK202.out 1).trans rfl
    have hfz15_0 := Qc BK202.out 0
    have hfz15_1 := Qc BK202.out 1
    go_wp2
    go_ret
    exact ⟨by first | rfl | (simp [Qr, Qq] <;> rfl) | (simp [*, Qr, Qq] <;> rfl), by repeat (first | (with_reducible first | exact HB.out | apply Qd | apply Qf | apply Qe | refine Qg ?_ GE202.out) | exact HB.out)⟩
end Go.Proofs.Ythgedejnpgcacaa.V
namespace Go.Proofs.Ythgedejnpgcacaa.V
open Go.RowKit Go.Proofs.YthgedejnpgcacaaW.PrintWords Go.Proofs.YthgedejnpgcacaaW.PrintLast Go.Proofs.YthgedejnpgcacaaW.PrintMore
attribute [local go_sem] max2_int min2_int max_two min_two max_three min_three max_four min_four tdiv_most
set_option linter.unusedVariables false
set_option linter.unusedSimpArgs false
mutual
def Qj1.l0 : Nat → Int → Int → Int → Int → List (S51) → List (S56) → Option (Int)
 | 0, _, _, _, _, _, _ => none
 | k + 1, x1, x2, x7, x8, x206000, x206001 => if 0 ≤ x1 then (if x1 < (x206001.length : Int) then (if x8 < (((Ql x206001 x1).f1).length : Int) then (if x2 > 0 then (if 0 ≤ x8 then ((Qj1.f k x206000 x206001 (rd ((Ql x206001 x1).f1) x8) (wrap64 (x2 - 1))).bind fun t209 => (Qj1.l0 k x1 x2 (mx x7 t209) (wrap64 (x8 + 1)) x206000 x206001)) else (none)) else (some (wrap64 (x7 + 1)))) else (some (wrap64 (x7 + 1)))) else (none)) else (none)
def Qj1.f : Nat → List (S51) → List (S56) → Int → Int → Option (Int)
 | 0, _, _, _, _ => none
 | k + 1, l0_0, l0_1, a1, a2 => Qj1.l0 k a1 a2 0 0 l0_0 l0_1
end
theorem Qj1.mono_l : ∀ k, (∀ y0 y1 y2 y3, LeO (Qj1.f k y0 y1 y2 y3) (Qj1.f (k + 1) y0 y1 y2 y3)) ∧ (∀ y0 y1 y2 y3 y4 y5, LeO (Qj1.l0 k y0 y1 y2 y3 y4 y5) (Qj1.l0 (k + 1) y0 y1 y2 y3 y4 y5))
 | 0 => ⟨fun _ _ _ _ r h => by simp [Qj1.f] at h, fun _ _ _ _ _ _ r h => by simp [Qj1.l0] at h⟩
 | k + 1 => by
  obtain ⟨ih0, ih1⟩ := Qj1.mono_l k
  refine ⟨?_, ?_⟩
  ·
   intro y0 y1 y2 y3
   unfold Qj1.f
   repeat' first
   | (with_reducible exact ih0 _ _ _ _)
   | (with_reducible exact ih1 _ _ _ _ _ _)
   | (with_reducible exact LeO.refl _)
   | (with_reducible exact LeO.none _)
   | (with_reducible refine LeO.ite ?_ ?_)
   | (with_reducible refine LeO.bind ?_ (fun _ => ?_))
   | exact ih0 _ _ _ _
   | exact ih1 _ _ _ _ _ _
   | exact LeO.none _
   | refine LeO.ite ?_ ?_
   | refine LeO.bind ?_ (fun _ => ?_)
  ·
   intro y0 y1 y2 y3 y4 y5
   unfold Qj1.l0
   repeat' first
   | (with_reducible exact ih0 _ _ _ _)
   | (with_reducible exact ih1 _ _ _ _ _ _)
   | (with_reducible exact LeO.refl _)
   | (with_reducible exact LeO.none _)
   | (with_reducible refine LeO.ite ?_ ?_)
   | (with_reducible refine LeO.bind ?_ (fun _ => ?_))
   | exact ih0 _ _ _ _
   | exact ih1 _ _ _ _ _ _
   | exact LeO.none _
   | refine LeO.ite ?_ ?_
   | refine LeO.bind ?_ (fun _ => ?_)
theorem Qj1.mono : ∀ a0 a1 a2 a3 k, LeO (Qj1.f k a0 a1 a2 a3) (Qj1.f (k + 1) a0 a1 a2 a3) := by
 intro a0 a1 a2 a3 k
 obtain ⟨ih0, ih1⟩ := Qj1.mono_l k
 exact ih0 a0 a1 a2 a3
def Qj1.T5 : Bool × List (List Nat × List Nat) := (true, [([], []), ([], []), ([], []), ([2], [2]), ([], []), ([3, 4], [3, 4]), ([5], [5]), ([6], [6]), ([], []), ([7, 8], [7, 8]), ([9], [9]), ([], []), ([11], [11]), ([1, 10, 12], [1, 10, 12]), ([0, 13], [0, 13]), ([14, 13, 0, 1, 2, 3, 4, 5, 6, 7, 8, 9, 10, 11, 12, 13, 14], [0, 14])])
def Qj1.B5 : List Nat := [0, 0, 0, 4, 0, 28, 60, 124, 0, 508, 1020, 0, 2048, 8190, 16383, 32767]
theorem Qj1.tab5 : rtab .any (opsOf Try.f39 5) = Qj1.T5 := by kernel_rfl
theorem Qj1.bits5 : waitsOk Qj1.T5.2 Qj1.B5 = true := by kernel_rfl
set_option maxHeartbeats 8000000 in
set_option maxRecDepth 100000 in
theorem Qj1.calls (k : Nat) : ∀ (A0_0 : Option Addr) (c0_0 : Nat) (l0_0 : List (S51)) (A0_1 : Option Addr) (c0_1 : Nat) (l0_1 : List (S56)) (a1 : Int) (a2 : Int) (r : Int) (w : World) (hr0_0 : Kd.C k51 w A0_0 l0_0.length l0_0) (hc0_0 : l0_0.length ≤ c0_0) (hr0_1 : Kd.C k56 w A0_1 l0_1.length l0_1) (hc0_1 : l0_1.length ≤ c0_1) (h : Qj1.f k l0_0 l0_1 a1 a2 = some r),
 Calls Try.prog 39 #[.agg #[.slice A0_0 l0_0.length c0_0, .slice A0_1 l0_1.length c0_1], .int .i64 a1, .int .i64 a2] w fun e w' => e = .returned (.int .i64 r) ∧ Below w.heap.size w w' := by
 induction k using Nat.strongRecOn with
 | _ k ih =>
 intro A0_0 c0_0 l0_0 A0_1 c0_1 l0_1 a1 a2 r w hr0_0 hc0_0 hr0_1 hc0_1 h
 cases k with
 | zero => exact absurd h (by simp [Qj1.f])
 | succ k =>
 simp only [Qj1.f] at h
 have hu25 := Try.underlying25
 have HR0_0 := Qa.mk hr0_0
 have HC0_0 := Qa.mk hc0_0
 clear hr0_0 hc0_0
 have HR0_1 := Qa.mk hr0_1
 have HC0_1 := Qa.mk hc0_1
 clear hr0_1 hc0_1
 have HB := Qa.mk (Below.refl w.heap.size w)
 have H : (Qj1.l0 k a1 a2 0 0 l0_0 l0_1) = some r := h
 clear h
 have H' := Qa.mk H
 clear H
 go_enter Try.func39, Try.ntmps39
 go_wp2_with (first | ((with_reducible refine Qc1 (N := 3) rfl ?_); refine Ql1 ?hg (N := 3) ?hd (cs := #[.slice A0_0 l0_0.length c0_0, .slice A0_1 l0_1.length c0_1]) (t := 25) ?hr ?_; (case hd => rfl); (case hg => rfl); (case hr => first | (go_simp; done) | (go_simp; rfl)); intro gb205 hg w4 hbox hb; have n0_ := Qa.mk (Qm (by repeat (first | (with_reducible first | exact HB.out | apply Qd | apply Qf | apply Qe) | exact HB.out)) hb); have n1_ := Qa.mk (hbox); have n2_ := Qa.mk ((by rw [hg]; exact (Qv (by repeat (first | (with_reducible first | exact HB.out | apply Qd | apply Qf | apply Qe) | exact HB.out))) : w.heap.size ≤ gb205)); have n3_ := Qa.mk ((by rw [hg]; exact (Qv (by repeat (first | (with_reducible first | exact HB.out | apply Qd | apply Qf | apply Qe) | exact HB.out))) : w.heap.size ≤ gb205)); clear HB; have HB := n0_; have BK205 := n1_; have GW205 := n2_; have GE205 := n3_; clear n0_ n1_ n2_ n3_; clear hb hbox hg))
 go_loopg [7, 8] k (fun kq v7 v8 w' => ∃ (x7_1 : Int) (x8_1 : Int), v7 = .int .i64 x7_1 ∧ v8 = .int .i64 x8_1 ∧ Qa (Qj1.l0 kq a1 a2 x7_1 x8_1 l0_0 l0_1 = some r) ∧ Qa (kq ≤ k) ∧ Qa (w'.heap[gb205]? = some (.cells #[(.slice A0_0 l0_0.length c0_0), (.slice A0_1 l0_1.length c0_1)] 25 (0, 0))) ∧ Qa (Below w.heap.size w w'))
 case atStart => exact ⟨(0), (0), (by first | rfl | (simp; done) | (simp [*]; done)), (by first | rfl | (simp; done) | (simp [*]; done)), H', ⟨Nat.le_refl _⟩, ⟨by (with_reducible repeat (first | refine Qk ?_ _ | refine Qj ?_ | refine Qi ?_ _)); exact BK205.out⟩, ⟨by repeat (first | (with_reducible first | exact HB.out | apply Qd | apply Qf | apply Qe | refine Qg ?_ GE205.out) | exact HB.out)⟩⟩
 case round =>
  clear H'
  try clear p2
  try clear c3
  obtain ⟨x7_1, x8_1, rfl, rfl, HA, HK1, BK205, HB⟩ := hrel
  cases gk with
  | zero => exact absurd HA.out (by simp [Qj1.l0])
  | succ k1 =>
   have H := HA.out
   clear HA
   simp only [Qj1.l0] at H
   by_cases c5 : 0 ≤ a1
   ·
    rw [if_pos c5] at H
    have c5b0 : decide (0 ≤ a1) = true := decide_eq_true c5
    clear c5
    by_cases c6 : a1 < (l0_1.length : Int)
    ·
     rw [if_pos c6] at H
     have c6b0 : decide (a1 < (l0_1.length : Int)) = true := decide_eq_true c6
     clear c6
     by_cases c7 : x8_1 < (((Ql l0_1 a1).f1).length : Int)
     ·
      rw [if_pos c7] at H
      have c7b0 : decide (x8_1 < (((Ql l0_1 a1).f1).length : Int)) = true := decide_eq_true c7
      clear c7
      by_cases c8 : a2 > 0
      ·
       rw [if_pos c8] at H
       have c8b0 : decide (0 < a2) = true := decide_eq_true c8
       clear c8
       by_cases c9 : 0 ≤ x8_1
       ·
        rw [if_pos c9] at H
        have c9b0 : decide (0 ≤ x8_1) = true := decide_eq_true c9
        clear c9
        replace H := Option.bind_eq_some_iff.mp H
        obtain ⟨t209, A100, H⟩ := H
        replace H : (Qj1.l0 k1 a1 a2 (mx x7_1 t209) (wrap64 (x8_1 + 1)) l0_0 l0_1) = some r := H
        have A10 := Qa.mk A100
        clear A100
        obtain ⟨ji11, hji11⟩ : ∃ j_ : Int, (mx x7_1 t209) = j_ := ⟨_, rfl⟩
        replace H : (Qj1.l0 k1 a1 a2 ji11 (wrap64 (x8_1 + 1)) l0_0 l0_1) = some r := by first | (rw [hji11] at H; exact H) | (simp only [hji11] at H ⊢; exact H)
        (try rw [hji11] at A10)
        have hji11_ : (if x7_1 < t209 then t209 else x7_1) = ji11 := hji11
        have H' := Qa.mk H
        clear H
        have hcz12_0 : wr.cell? ⟨gb205, 0, none⟩ = some (.slice A0_0 l0_0.length c0_0) := (Qb BK205.out 0).trans rfl
        have hcz12_1 : wr.cell? ⟨gb205, 1, none⟩ = some (.slice A0_1 l0_1.length c0_1) := (Qb BK205.out 1).trans rfl
        have hfz12_0 := Qc BK205.out 0
        have hfz12_1 := Qc BK205.out 1
        have p206 : 0 ≤ (a1 : Int) := of_decide_eq_true (by first | (with_reducible assumption) | assumption)
        have q206 : a1 < (l0_1.length : Int) := of_decide_eq_true (by first | (with_reducible assumption) | assumption)
        obtain ⟨ad206, A206_1, c206_1, e206, hx206_0, hx206_1, hx206_2, hx206_3, hx206_4, hx206_5, hx206_6, hl206_1, hi206_1⟩ := at_T56 HR0_1.out a1 p206 q206
        cases e206
        replace hx206_0 := (HB.out.cell (World.block_lt_of_cell? w _ hx206_0)).trans hx206_0
        replace hx206_1 := (HB.out.cell (World.block_lt_of_cell? w _ hx206_1)).trans hx206_1
        replace hx206_2 := (HB.out.cell (World.block_lt_of_cell? w _ hx206_2)).trans hx206_2
        replace hx206_3 := (HB.out.cell (World.block_lt_of_cell? w _ hx206_3)).trans hx206_3
        replace hx206_4 := (HB.out.cell (World.block_lt_of_cell? w _ hx206_4)).trans hx206_4
        replace hx206_5 := (HB.out.cell (World.block_lt_of_cell? w _ hx206_5)).trans hx206_5
        replace hx206_6 := (HB.out.cell (World.block_lt_of_cell? w _ hx206_6)).trans hx206_6
        have HR206_1 := Qa.mk hi206_1
        have HC206_1 := Qa.mk hl206_1
        clear hi206_1 hl206_1
        replace p206 := eq_true p206
        replace q206 := eq_true q206
        try go_wp2
        have n0_ := Qa.mk (Qj BK205.out)
        have n1_ := Qa.mk (Qe HB.out)
        clear BK205
        clear HB
        have BK205 := n0_
        have HB := n1_
        clear n0_ n1_
        have p207 : 0 ≤ (a1 : Int) := of_decide_eq_true (by first | (with_reducible assumption) | assumption)
        have q207 : a1 < (l0_1.length : Int) := of_decide_eq_true (by first | (with_reducible assumption) | assumption)
        obtain ⟨ad207, A207_1, c207_1, e207, hx207_0, hx207_1, hx207_2, hx207_3, hx207_4, hx207_5, hx207_6, hl207_1, hi207_1⟩ := at_T56 HR0_1.out a1 p207 q207
        have hw207_6 := hx207_6
        have hw207_5 := hx207_5
        have hw207_4 := hx207_4
        have hw207_3 := hx207_3
        have hw207_2 := hx207_2
        have hw207_1 := hx207_1
        have hw207_0 := hx207_0
        obtain rfl : ad206 = ad207 := (by injection e207)
        replace hx207_0 := (HB.out.cell (World.block_lt_of_cell? w _ hx207_0)).trans hx207_0
        replace hx207_1 := (HB.out.cell (World.block_lt_of_cell? w _ hx207_1)).trans hx207_1
        replace hx207_2 := (HB.out.cell (World.block_lt_of_cell? w _ hx207_2)).trans hx207_2
        replace hx207_3 := (HB.out.cell (World.block_lt_of_cell? w _ hx207_3)).trans hx207_3
        replace hx207_4 := (HB.out.cell (World.block_lt_of_cell? w _ hx207_4)).trans hx207_4
        replace hx207_5 := (HB.out.cell (World.block_lt_of_cell? w _ hx207_5)).trans hx207_5
        replace hx207_6 := (HB.out.cell (World.block_lt_of_cell? w _ hx207_6)).trans hx207_6
        have HR207_1 := Qa.mk hi207_1
        have HC207_1 := Qa.mk hl207_1
        clear hi207_1 hl207_1
        replace p207 := eq_true p207
        replace q207 := eq_true q207
        have p208 : 0 ≤ (x8_1 : Int) := of_decide_eq_true (by first | (with_reducible assumption) | assumption)
        have q208 : x8_1 < (((Ql l0_1 a1).f1).length : Int) := of_decide_eq_true (by first | (with_reducible assumption) | assumption)
        obtain ⟨ad208, e208, hx208_0⟩ := Kd.at_int HR207_1.out x8_1 p208 q208
        have hw208_0 := hx208_0
        cases e208
        replace hx208_0 := (HB.out.cell (World.block_lt_of_cell? w _ hx208_0)).trans hx208_0
        replace p208 := eq_true p208
        replace q208 := eq_true q208
        refine start_ (n := 16) (S := fun w' => w'.cell? ⟨gb205, 0, none⟩ = some (.slice A0_0 l0_0.length c0_0) ∧ w'.cell? ⟨gb205, 1, none⟩ = some (.slice (some ad206) l0_1.length c0_1) ∧ w'.cell? (ad206.add ((a1).toNat * 7)) = some (.int .i64 ((Ql l0_1 a1).f0)) ∧ w'.cell? ⟨(ad206.add ((a1).toNat * 7)).block, (ad206.add ((a1).toNat * 7)).off + 1, none⟩ = some (.slice (some ad208) ((Ql l0_1 a1).f1).length c207_1) ∧ w'.cell? ⟨(ad206.add ((a1).toNat * 7)).block, (ad206.add ((a1).toNat * 7)).off + 2, none⟩ = some (.int .i64 ((Ql l0_1 a1).f2)) ∧ w'.cell? ⟨(ad206.add ((a1).toNat * 7)).block, (ad206.add ((a1).toNat * 7)).off + 3, none⟩ = some (.int .u64 ((Ql l0_1 a1).f3.f0)) ∧ w'.cell? ⟨(ad206.add ((a1).toNat * 7)).block, (ad206.add ((a1).toNat * 7)).off + 4, none⟩ = some (.int .u64 ((Ql l0_1 a1).f3.f1)) ∧ w'.cell? ⟨(ad206.add ((a1).toNat * 7)).block, (ad206.add ((a1).toNat * 7)).off + 5, none⟩ = some (.int .u64 ((Ql l0_1 a1).f3.f2)) ∧ w'.cell? ⟨(ad206.add ((a1).toNat * 7)).block, (ad206.add ((a1).toNat * 7)).off + 6, none⟩ = some (.int .u64 ((Ql l0_1 a1).f3.f3)) ∧ w'.cell? (ad208.add (x8_1).toNat) = some (.int .i64 (rd ((Ql l0_1 a1).f1) x8_1))) (ds := []) #[false, false, false, false, false, false, false, false, false, false, false, false, false, false, false, false] (by kernel_rfl) rfl rfl ⟨(Qb BK205.out 0).trans rfl, (Qb BK205.out 1).trans rfl, ((HB.out.cell (World.block_lt_of_cell? w _ hw207_0)).trans hw207_0), ((HB.out.cell (World.block_lt_of_cell? w _ hw207_1)).trans hw207_1), ((HB.out.cell (World.block_lt_of_cell? w _ hw207_2)).trans hw207_2), ((HB.out.cell (World.block_lt_of_cell? w _ hw207_3)).trans hw207_3), ((HB.out.cell (World.block_lt_of_cell? w _ hw207_4)).trans hw207_4), ((HB.out.cell (World.block_lt_of_cell? w _ hw207_5)).trans hw207_5), ((HB.out.cell (World.block_lt_of_cell? w _ hw207_6)).trans hw207_6), ((HB.out.cell (World.block_lt_of_cell? w _ hw208_0)).trans hw208_0)⟩ (fun hHeld => ?_); refine with_tabW Qj1.tab5 Qj1.bits5 (fun HT_ HW_ => ?_)
        generalize wr.drew = w13 at BK205 HB HR207_1 hx207_0 hx207_1 hx207_2 hx207_3 hx207_4 hx207_5 hx207_6 hx208_0 hHeld ⊢
        refine pure_ (i := 0) (N := some 24) (v := ?_) (a' := ?_) #[true, false, false, false, false, false, false, false, false, false, false, false, false, false, false, false] rfl rfl (any_of HT_.out (by kernel_rfl)) (fun _ _ _ h => h) (Or.inl ⟨by rfl, ?_⟩) ?_ ?_
        rotate_left
        ·
         intro w'
         go_simp
         with_reducible rfl
        rotate_left
        ·
         simp only [Act.put, List.setIfInBounds_toArray, List.set_cons_zero, List.set_cons_succ, i64_w, i32_w]
         rfl
        refine pure_ (i := 2) (N := some 26) (v := ?_) (a' := ?_) #[true, false, true, false, false, false, false, false, false, false, false, false, false, false, false, false] rfl rfl (any_of HT_.out (by kernel_rfl)) (fun _ _ _ h => h) (Or.inl ⟨by rfl, ?_⟩) ?_ ?_
        rotate_left
        ·
         intro w'
         go_simp
         with_reducible rfl
        rotate_left
        ·
         simp only [Act.put, List.setIfInBounds_toArray, List.set_cons_zero, List.set_cons_succ, i64_w, i32_w]
         rfl
        refine pure_ (i := 4) (N := some 28) (v := ?_) (a' := ?_) #[true, false, true, false, true, false, false, false, false, false, false, false, false, false, false, false] rfl rfl (any_of HT_.out (by kernel_rfl)) (fun _ _ _ h => h) (Or.inl ⟨by rfl, ?_⟩) ?_ ?_
        rotate_left
        ·
         intro w'
         go_simp
         with_reducible rfl
        rotate_left
        ·
         simp only [Act.put, List.setIfInBounds_toArray, List.set_cons_zero, List.set_cons_succ, i64_w, i32_w]
         rfl
        refine pure_ (i := 8) (N := some 32) (v := ?_) (a' := ?_) #[true, false, true, false, true, false, false, false, true, false, false, false, false, false, false, false] rfl rfl (any_of HT_.out (by kernel_rfl)) (fun _ _ _ h => h) (Or.inl ⟨by rfl, ?_⟩) ?_ ?_
        rotate_left
        ·
         intro w'
         go_simp
         with_reducible rfl
        rotate_left
        ·
         simp only [Act.put, List.setIfInBounds_toArray, List.set_cons_zero, List.set_cons_succ, i64_w, i32_w]
         rfl
        refine pure_ (i := 11) (N := some 35) (v := ?_) (a' := ?_) #[true, false, true, false, true, false, false, false, true, false, false, true, false, false, false, false] rfl rfl (any_of HT_.out (by kernel_rfl)) (fun _ _ _ h => h) (Or.inl ⟨by rfl, ?_⟩) ?_ ?_
        rotate_left
        ·
         intro w'
         go_simp
         with_reducible rfl
        rotate_left
        ·
         simp only [Act.put, List.setIfInBounds_toArray, List.set_cons_zero, List.set_cons_succ, i64_w, i32_w]
         rfl
        refine pure_ (i := 12) (N := some 36) (v := ?_) (a' := ?_) #[true, false, true, false, true, false, false, false, true, false, false, true, true, false, false, false] rfl rfl (any_of HT_.out (by kernel_rfl)) (fun _ _ _ h => h) (Or.inl ⟨by rfl, ?_⟩) ?_ ?_
        rotate_left
        ·
         intro w'
         go_simp
         with_reducible rfl
        rotate_left
        ·
         simp only [Act.put, List.setIfInBounds_toArray, List.set_cons_zero, List.set_cons_succ, i64_w, i32_w]
         rfl
        refine take_ (i := 1) (N := some 25) (v := ?_) (a' := ?_) #[true, true, true, false, true, false, false, false, true, false, false, true, true, false, false, false] rfl rfl (take_ofW HT_.out HW_.out (by kernel_rfl)) (fun _ _ _ h => h) (Or.inl ⟨by rfl, ?_⟩) hHeld ?_ ?_
        rotate_left
        ·
         rintro w' ⟨s0, s1, s2, s3, s4, s5, s6, s7, s8, s9⟩
         go_simp
         with_reducible rfl
        rotate_left
        ·
         simp only [Act.put, List.setIfInBounds_toArray, List.set_cons_zero, List.set_cons_succ, i64_w, i32_w]
         rfl
        refine take_ (i := 3) (N := some 27) (v := ?_) (a' := ?_) #[true, true, true, true, true, false, false, false, true, false, false, true, true, false, false, false] rfl rfl (take_ofW HT_.out HW_.out (by kernel_rfl)) (fun _ _ _ h => h) (Or.inl ⟨by rfl, ?_⟩) hHeld ?_ ?_
        rotate_left
        ·
         rintro w' ⟨s0, s1, s2, s3, s4, s5, s6, s7, s8, s9⟩
         go_simp
         with_reducible rfl
        rotate_left
        ·
         simp only [Act.put, List.setIfInBounds_toArray, List.set_cons_zero, List.set_cons_succ, i64_w, i32_w]
         rfl
        refine pure_ (i := 5) (N := some 29) (v := ?_) (a' := ?_) #[true, true, true, true, true, true, false, false, true, false, false, true, true, false, false, false] rfl rfl (any_of HT_.out (by kernel_rfl)) (fun _ _ _ h => h) (Or.inl ⟨by rfl, ?_⟩) ?_ ?_
        rotate_left
        ·
         intro w'
         go_simp
         with_reducible rfl
        rotate_left
        ·
         simp only [Act.put, List.setIfInBounds_toArray, List.set_cons_zero, List.set_cons_succ, i64_w, i32_w]
         rfl
        refine pure_ (i := 6) (N := some 30) (v := ?_) (a' := ?_) #[true, true, true, true, true, true, true, false, true, false, false, true, true, false, false, false] rfl rfl (any_of HT_.out (by kernel_rfl)) (fun _ _ _ h => h) (Or.inl ⟨by rfl, ?_⟩) ?_ ?_
        rotate_left
        ·
         intro w'
         go_simp
         with_reducible rfl
        rotate_left
        ·
         simp only [Act.put, List.setIfInBounds_toArray, List.set_cons_zero, List.set_cons_succ, i64_w, i32_w]
         rfl
        refine take_ (i := 7) (N := some 31) (v := ?_) (a' := ?_) #[true, true, true, true, true, true, true, true, true, false, false, true, true, false, false, false] rfl rfl (take_ofW HT_.out HW_.out (by kernel_rfl)) (fun _ _ _ h => h) (Or.inl ⟨by rfl, ?_⟩) hHeld ?_ ?_
        rotate_left
        ·
         rintro w' ⟨s0, s1, s2, s3, s4, s5, s6, s7, s8, s9⟩
         go_simp
         with_reducible rfl
        rotate_left
        ·
         simp only [Act.put, List.setIfInBounds_toArray, List.set_cons_zero, List.set_cons_succ, i64_w, i32_w]
         rfl
        refine pure_ (i := 9) (N := some 33) (v := ?_) (a' := ?_) #[true, true, true, true, true, true, true, true, true, true, false, true, true, false, false, false] rfl rfl (any_of HT_.out (by kernel_rfl)) (fun _ _ _ h => h) (Or.inl ⟨by rfl, ?_⟩) ?_ ?_
        rotate_left
        ·
         intro w'
         go_simp
         with_reducible rfl
        rotate_left
        ·
         simp only [Act.put, List.setIfInBounds_toArray, List.set_cons_zero, List.set_cons_succ, i64_w, i32_w]
         rfl
        refine take_ (i := 10) (N := some 34) (v := ?_) (a' := ?_) #[true, true, true, true, true, true, true, true, true, true, true, true, true, false, false, false] rfl rfl (take_ofW HT_.out HW_.out (by kernel_rfl)) (fun _ _ _ h => h) (Or.inl ⟨by rfl, ?_⟩) hHeld ?_ ?_
        rotate_left
        ·
         rintro w' ⟨s0, s1, s2, s3, s4, s5, s6, s7, s8, s9⟩
         go_simp
         with_reducible rfl
        rotate_left
        ·
         simp only [Act.put, List.setIfInBounds_toArray, List.set_cons_zero, List.set_cons_succ, i64_w, i32_w]
         rfl
        refine one_ (i := 13) (N := some 37) #[true, true, true, true, true, true, true, true, true, true, true, true, true, true, false, false] rfl rfl (one_of HT_.out (by kernel_rfl)) (by decide) (fun K hK => ?_)
        refine goes_ Try.func39 (by kernel_rfl) rfl #[.agg #[.slice A0_0 l0_0.length c0_0, .slice (some ad206) l0_1.length c0_1], .int .i64 (rd ((Ql l0_1 a1).f1) x8_1), .int .i64 (wrap64 (a2 - 1))] (by rfl) rfl rfl (by (try simp only [List.map_toArray, List.map_cons, List.map_nil]); first | done | rfl | (simp only [List.length_drop, List.length_take]; rfl)) ?_
        with_reducible refine (ih k1 (by have := HK1.out; omega) _ _ l0_0 _ _ l0_1 (rd ((Ql l0_1 a1).f1) x8_1) (wrap64 (a2 - 1)) t209 _ ?side1 ?side2 ?side3 ?side4 A10.out).mono ?_
        (case side1 => repeat (first | exact (Kd.Qn HR0_0.out HB.out) | (with_reducible refine Kd.Qw ?_ _) | (with_reducible refine Kd.Qy ?_ _) | (with_reducible refine Kd.Qx ?_)))
        (case side2 => exact HC0_0.out)
        (case side3 => repeat (first | exact (Kd.Qn HR0_1.out HB.out) | (with_reducible refine Kd.Qw ?_ _) | (with_reducible refine Kd.Qy ?_ _) | (with_reducible refine Kd.Qx ?_)))
        (case side4 => exact HC0_1.out)
        rintro e w14 ⟨rfl, hb⟩
        refine ⟨_, rfl, ?_⟩
        have n0_ := Qa.mk (Qh (g := gb205) (o := .cells #[.slice A0_0 l0_0.length c0_0, .slice (some ad206) l0_1.length c0_1] 25 (0, 0)) (by (with_reducible repeat (first | refine Qk ?_ _ | refine Qj ?_ | refine Qi ?_ _)); exact BK205.out) hb)
        have n1_ := Qa.mk (Qm (by repeat (first | (with_reducible first | exact HB.out | apply Qd | apply Qf | apply Qe | refine Qg ?_ GE205.out) | exact HB.out)) hb)
        clear BK205
        clear HB
        have BK205 := n0_
        have HB := n1_
        clear n0_ n1_
        (try clear hb)
        (try clear hb2)
        (try clear hk)
        (try clear hi)
        refine hK.out _ _ ⟨(Qb BK205.out 0).trans rfl, (Qb BK205.out 1).trans rfl, ((HB.out.cell (World.block_lt_of_cell? w _ hw207_0)).trans hw207_0), ((HB.out.cell (World.block_lt_of_cell? w _ hw207_1)).trans hw207_1), ((HB.out.cell (World.block_lt_of_cell? w _ hw207_2)).trans hw207_2), ((HB.out.cell (World.block_lt_of_cell? w _ hw207_3)).trans hw207_3), ((HB.out.cell (World.block_lt_of_cell? w _ hw207_4)).trans hw207_4), ((HB.out.cell (World.block_lt_of_cell? w _ hw207_5)).trans hw207_5), ((HB.out.cell (World.block_lt_of_cell? w _ hw207_6)).trans hw207_6), ((HB.out.cell (World.block_lt_of_cell? w _ hw208_0)).trans hw208_0)⟩ (fun hHeld => ?_)
        clear hK K
        refine norm_ (a' := ?_) ?_ ?_
        rotate_left
        ·
         show Act.put _ (some 37) _ = _
         simp only [Act.put, List.setIfInBounds_toArray, List.set_cons_zero, List.set_cons_succ, i64_w, i32_w]
         rfl
        refine pure_ (i := 14) (N := some 38) (v := ?_) (a' := ?_) #[true, true, true, true, true, true, true, true, true, true, true, true, true, true, true, false] rfl rfl (any_of HT_.out (by kernel_rfl)) (fun _ _ _ h => h) (Or.inl ⟨by rfl, ?_⟩) ?_ ?_
        rotate_left
        ·
         intro w'
         go_simp
         with_reducible rfl
        rotate_left
        ·
         simp only [Act.put, List.setIfInBounds_toArray, List.set_cons_zero, List.set_cons_succ, i64_w, i32_w]
         rfl
        refine pure_ (i := 15) (N := some 7) (v := ?_) (a' := ?_) #[true, true, true, true, true, true, true, true, true, true, true, true, true, true, true, true] rfl rfl (any_of HT_.out (by kernel_rfl)) (fun _ _ _ h => h) (Or.inl ⟨by rfl, ?_⟩) ?_ ?_
        rotate_left
        ·
         intro w'
         go_simp
         with_reducible rfl
        rotate_left
        ·
         simp only [Act.put, List.setIfInBounds_toArray, List.set_cons_zero, List.set_cons_succ, i64_w, i32_w]
         rfl
        refine done_ (done_of HT_.out (by kernel_rfl)) ?_
        try go_wp2
        go_roundg k1
        case measure => have := HK1.out; omega
        case rel => exact ⟨(ji11), (wrap64 (x8_1 + 1)), (by first | rfl | (simp; done) | (simp only [← hji11] <;> (first | rfl | simp)) | (simp [*]; done)), (by first | rfl | (simp; done) | (simp [*]; done)), H', ⟨by have := HK1.out; omega⟩, ⟨by (with_reducible repeat (first | refine Qk ?_ _ | refine Qj ?_ | refine Qi ?_ _)); exact BK205.out⟩, ⟨by repeat (first | (with_reducible first | exact HB.out | apply Qd | apply Qf | apply Qe | refine Qg ?_ GE205.out) | exact HB.out)⟩⟩
       ·
        rw [if_neg c9] at H
        exact absurd H (by simp)
      ·
       rw [if_neg c8] at H
       have c8b0 : decide (0 < a2) = false := decide_eq_false c8
       clear c8
       obtain rfl := Option.some.inj H
       have hcz15_0 : wr.cell? ⟨gb205, 0, none⟩ = some (.slice A0_0 l0_0.length c0_0) := (Qb BK205.out 0).trans rfl
       have hcz15_1 : wr.cell? ⟨gb205, 1, none⟩ = some (.slice A0_1 l0_1.length c0_1) := (Qb BK205.out 1).trans rfl
       have hfz15_0 := Qc BK205.out 0
       have hfz15_1 := Qc BK205.out 1
       have p206 : 0 ≤ (a1 : Int) := of_decide_eq_true (by first | (with_reducible assumption) | assumption)
       have q206 : a1 < (l0_1.length : Int) := of_decide_eq_true (by first | (with_reducible assumption) | assumption)
       obtain ⟨ad206, A206_1, c206_1, e206, hx206_0, hx206_1, hx206_2, hx206_3, hx206_4, hx206_5, hx206_6, hl206_1, hi206_1⟩ := at_T56 HR0_1.out a1 p206 q206
       cases e206
       replace hx206_0 := (HB.out.cell (World.block_lt_of_cell? w _ hx206_0)).trans hx206_0
       replace hx206_1 := (HB.out.cell (World.block_lt_of_cell? w _ hx206_1)).trans hx206_1
       replace hx206_2 := (HB.out.cell (World.block_lt_of_cell? w _ hx206_2)).trans hx206_2
       replace hx206_3 := (HB.out.cell (World.block_lt_of_cell? w _ hx206_3)).trans hx206_3
       replace hx206_4 := (HB.out.cell (World.block_lt_of_cell? w _ hx206_4)).trans hx206_4
       replace hx206_5 := (HB.out.cell (World.block_lt_of_cell? w _ hx206_5)).trans hx206_5
       replace hx206_6 := (HB.out.cell (World.block_lt_of_cell? w _ hx206_6)).trans hx206_6
       have HR206_1 := Qa.mk hi206_1
       have HC206_1 := Qa.mk hl206_1
       clear hi206_1 hl206_1
       replace p206 := eq_true p206
       replace q206 := eq_true q206
       go_wp2
       go_ret
       exact ⟨by first | rfl | (simp [Qr, Qq] <;> rfl) | (simp [*, Qr, Qq] <;> rfl), by repeat (first | (with_reducible first | exact HB.out | apply Qd | apply Qf | apply Qe | refine Qg ?_ GE205.out) | exact HB.out)⟩
     ·
      rw [if_neg c7] at H
      have c7b0 : decide (x8_1 < (((Ql l0_1 a1).f1).length : Int)) = false := decide_eq_false c7
      clear c7
      obtain rfl := Option.some.inj H
      have hcz16_0 : wr.cell? ⟨gb205, 0, none⟩ = some (.slice A0_0 l0_0.length c0_0) := (Qb BK205.out 0).trans rfl
      have hcz16_1 : wr.cell? ⟨gb205, 1, none⟩ = some (.slice A0_1 l0_1.length c0_1) := (Qb BK205.out 1).trans rfl
      have hfz16_0 := Qc BK205.out 0
      have hfz16_1 := Qc BK205.out 1
      have p206 : 0 ≤ (a1 : Int) := of_decide_eq_true (by first | (with_reducible assumption) | assumption)
      have q206 : a1 < (l0_1.length : Int) := of_decide_eq_true (by first | (with_reducible assumption) | assumption)
      obtain ⟨ad206, A206_1, c206_1, e206, hx206_0, hx206_1, hx206_2, hx206_3, hx206_4, hx206_5, hx206_6, hl206_1, hi206_1⟩ := at_T56 HR0_1.out a1 p206 q206
      cases e206
      replace hx206_0 := (HB.out.cell (World.block_lt_of_cell? w _ hx206_0)).trans hx206_0
      replace hx206_1 := (HB.out.cell (World.block_lt_of_cell? w _ hx206_1)).trans hx206_1
      replace hx206_2 := (HB.out.cell (World.block_lt_of_cell? w _ hx206_2)).trans hx206_2
      replace hx206_3 := (HB.out.cell (World.block_lt_of_cell? w _ hx206_3)).trans hx206_3
      replace hx206_4 := (HB.out.cell (World.block_lt_of_cell? w _ hx206_4)).trans hx206_4
      replace hx206_5 := (HB.out.cell (World.block_lt_of_cell? w _ hx206_5)).trans hx206_5
      replace hx206_6 := (HB.out.cell (World.block_lt_of_cell? w _ hx206_6)).trans hx206_6
      have HR206_1 := Qa.mk hi206_1
      have HC206_1 := Qa.mk hl206_1
      clear hi206_1 hl206_1
      replace p206 := eq_true p206
      replace q206 := eq_true q206
      go_wp2
      go_ret
      exact ⟨by first | rfl | (simp [Qr, Qq] <;> rfl) | (simp [*, Qr, Qq] <;> rfl), by repeat (first | (with_reducible first | exact HB.out | apply Qd | apply Qf | apply Qe | refine Qg ?_ GE205.out) | exact HB.out)⟩
    ·
     rw [if_neg c6] at H
     exact absurd H (by simp)
   ·
    rw [if_neg c5] at H
    exact absurd H (by simp)
end Go.Proofs.Ythgedejnpgcacaa.V
namespace Go.Proofs.Ythgedejnpgcacaa.V
open Go.RowKit Go.Proofs.YthgedejnpgcacaaW.PrintWords Go.Proofs.YthgedejnpgcacaaW.PrintLast Go.Proofs.YthgedejnpgcacaaW.PrintMore
attribute [local go_sem] max2_int min2_int max_two min_two max_three min_three max_four min_four tdiv_most
set_option linter.unusedVariables false
set_option linter.unusedSimpArgs false
mutual
def Qz.j0 : Nat → Bool → List (S51) → List (S56) → Option (ByteArray × Int × Int)
 | 0, _, _, _ => none
 | k + 1, x18, x211000, x211001 => if x18 = true then (some ((⟨#[]⟩ : ByteArray), 4, 0)) else (if (x211000.length : Int) = 0 then (some ((⟨#[114, 117, 108, 101, 115]⟩ : ByteArray), 10, 0)) else (Qz.l0 k 0 x211000 x211001))
def Qz.l0 : Nat → Int → List (S51) → List (S56) → Option (ByteArray × Int × Int)
 | 0, _, _, _ => none
 | k + 1, x5, x211000, x211001 => if x5 < (x211000.length : Int) then (if 0 ≤ x5 then ((Qu1.f k ((rd_T51 x211000 x5).f0)).bind fun t212 => (if t212 = true then (Qz.l1 k x5 0 x211000 x211001) else (some ((⟨#[114, 117, 108, 101, 115]⟩ : ByteArray), 10, x5)))) else (none)) else (Qz.l2 k 0 x211000 x211001)
def Qz.l1 : Nat → Int → Int → List (S51) → List (S56) → Option (ByteArray × Int × Int)
 | 0, _, _, _, _ => none
 | k + 1, x5, x6, x211000, x211001 => if x6 < x5 then (if 0 ≤ x6 then (if x6 < (x211000.length : Int) then (if 0 ≤ x5 then (if x5 < (x211000.length : Int) then (if ((rd_T51 x211000 x6).f0).toList = ((rd_T51 x211000 x5).f0).toList then (some ((⟨#[114, 117, 108, 101, 115]⟩ : ByteArray), 10, x5)) else (Qz.l1 k x5 (wrap64 (x6 + 1)) x211000 x211001)) else (none)) else (none)) else (none)) else (none)) else (Qz.l0 k (wrap64 (x5 + 1)) x211000 x211001)
def Qz.l2 : Nat → Int → List (S51) → List (S56) → Option (ByteArray × Int × Int)
 | 0, _, _, _ => none
 | k + 1, x7, x211000, x211001 => if x7 < (x211001.length : Int) then (if 0 ≤ x7 then ((Qe1.f k ((Ql x211001 x7).f0) ((Ql x211001 x7).f1) ((Ql x211001 x7).f2) ((Ql x211001 x7).f3.f0) ((Ql x211001 x7).f3.f1) ((Ql x211001 x7).f3.f2) ((Ql x211001 x7).f3.f3) (x211000.length : Int)).bind fun t216 => (if t216 = true then (Qz.l2 k (wrap64 (x7 + 1)) x211000 x211001) else (some ((⟨#[110, 111, 100, 101, 115]⟩ : ByteArray), 10, x7)))) else (none)) else ((Qs1.f k x211000 x211001).bind fun t217 => (if t217 = true then (Qz.l3 k 0 x211000 x211001) else (some ((⟨#[]⟩ : ByteArray), 10, 0))))
def Qz.l3 : Nat → Int → List (S51) → List (S56) → Option (ByteArray × Int × Int)
 | 0, _, _, _ => none
 | k + 1, x8, x211000, x211001 => if x8 < (x211001.length : Int) then ((Qj1.f k x211000 x211001 x8 205).bind fun t218 => (if t218 > 200 then (some ((⟨#[110, 111, 100, 101, 115]⟩ : ByteArray), 5, x8)) else (Qz.l3 k (wrap64 (x8 + 1)) x211000 x211001))) else (some ((⟨#[]⟩ : ByteArray), 0, 0))
end
def Qz.f (k : Nat) (l0_0 : List (S51)) (l0_1 : List (S56)) : Option (ByteArray × Int × Int) := if (l0_0.length : Int) > 1000 then (Qz.j0 k true l0_0 l0_1) else (Qz.j0 k (decide ((l0_1.length : Int) > 10000)) l0_0 l0_1)
theorem Qz.mono_l : ∀ k, (∀ y0 y1 y2, LeO (Qz.j0 k y0 y1 y2) (Qz.j0 (k + 1) y0 y1 y2)) ∧ (∀ y0 y1 y2, LeO (Qz.l0 k y0 y1 y2) (Qz.l0 (k + 1) y0 y1 y2)) ∧ (∀ y0 y1 y2 y3, LeO (Qz.l1 k y0 y1 y2 y3) (Qz.l1 (k + 1) y0 y1 y2 y3)) ∧ (∀ y0 y1 y2, LeO (Qz.l2 k y0 y1 y2) (Qz.l2 (k + 1) y0 y1 y2)) ∧ (∀ y0 y1 y2, LeO (Qz.l3 k y0 y1 y2) (Qz.l3 (k + 1) y0 y1 y2))
 | 0 => ⟨fun _ _ _ r h => by simp [Qz.j0] at h, fun _ _ _ r h => by simp [Qz.l0] at h, fun _ _ _ _ r h => by simp [Qz.l1] at h, fun _ _ _ r h => by simp [Qz.l2] at h, fun _ _ _ r h => by simp [Qz.l3] at h⟩
 | k + 1 => by
  obtain ⟨ih0, ih1, ih2, ih3, ih4⟩ := Qz.mono_l k
  refine ⟨?_, ?_, ?_, ?_, ?_⟩
  ·
   intro y0 y1 y2
   unfold Qz.j0
   repeat' first
   | (with_reducible exact ih0 _ _ _)
   | (with_reducible exact ih1 _ _ _)
   | (with_reducible exact ih2 _ _ _ _)
   | (with_reducible exact ih3 _ _ _)
   | (with_reducible exact ih4 _ _ _)
   | (with_reducible exact Qu1.mono _ _)
   | (with_reducible exact Qj1.mono _ _ _ _ _)
   | (with_reducible exact Qe1.mono _ _ _ _ _ _ _ _ _)
   | (with_reducible exact Qs1.mono _ _ _)
   | (with_reducible exact LeO.refl _)
   | (with_reducible exact LeO.none _)
   | (with_reducible refine LeO.ite ?_ ?_)
   | (with_reducible refine LeO.bind ?_ (fun _ => ?_))
   | exact ih0 _ _ _
   | exact ih1 _ _ _
   | exact ih2 _ _ _ _
   | exact ih3 _ _ _
   | exact ih4 _ _ _
   | exact Qu1.mono _ _
   | exact Qj1.mono _ _ _ _ _
   | exact Qe1.mono _ _ _ _ _ _ _ _ _
   | exact Qs1.mono _ _ _
   | exact LeO.none _
   | refine LeO.ite ?_ ?_
   | refine LeO.bind ?_ (fun _ => ?_)
  ·
   intro y0 y1 y2
   unfold Qz.l0
   repeat' first
   | (with_reducible exact ih0 _ _ _)
   | (with_reducible exact ih1 _ _ _)
   | (with_reducible exact ih2 _ _ _ _)
   | (with_reducible exact ih3 _ _ _)
   | (with_reducible exact ih4 _ _ _)
   | (with_reducible exact Qu1.mono _ _)
   | (with_reducible exact Qj1.mono _ _ _ _ _)
   | (with_reducible exact Qe1.mono _ _ _ _ _ _ _ _ _)
   | (with_reducible exact Qs1.mono _ _ _)
   | (with_reducible exact LeO.refl _)
   | (with_reducible exact LeO.none _)
   | (with_reducible refine LeO.ite ?_ ?_)
   | (with_reducible refine LeO.bind ?_ (fun _ => ?_))
   | exact ih0 _ _ _
   | exact ih1 _ _ _
   | exact ih2 _ _ _ _
   | exact ih3 _ _ _
   | exact ih4 _ _ _
   | exact Qu1.mono _ _
   | exact Qj1.mono _ _ _ _ _
   | exact Qe1.mono _ _ _ _ _ _ _ _ _
   | exact Qs1.mono _ _ _
   | exact LeO.none _
   | refine LeO.ite ?_ ?_
   | refine LeO.bind ?_ (fun _ => ?_)
  ·
   intro y0 y1 y2 y3
   unfold Qz.l1
   repeat' first
   | (with_reducible exact ih0 _ _ _)
   | (with_reducible exact ih1 _ _ _)
   | (with_reducible exact ih2 _ _ _ _)
   | (with_reducible exact ih3 _ _ _)
   | (with_reducible exact ih4 _ _ _)
   | (with_reducible exact Qu1.mono _ _)
   | (with_reducible exact Qj1.mono _ _ _ _ _)
   | (with_reducible exact Qe1.mono _ _ _ _ _ _ _ _ _)
   | (with_reducible exact Qs1.mono _ _ _)
   | (with_reducible exact LeO.refl _)
   | (with_reducible exact LeO.none _)
   | (with_reducible refine LeO.ite ?_ ?_)
   | (with_reducible refine LeO.bind ?_ (fun _ => ?_))
   | exact ih0 _ _ _
   | exact ih1 _ _ _
   | exact ih2 _ _ _ _
   | exact ih3 _ _ _
   | exact ih4 _ _ _
   | exact Qu1.mono _ _
   | exact Qj1.mono _ _ _ _ _
   | exact Qe1.mono _ _ _ _ _ _ _ _ _
   | exact Qs1.mono _ _ _
   | exact LeO.none _
   | refine LeO.ite ?_ ?_
   | refine LeO.bind ?_ (fun _ => ?_)
  ·
   intro y0 y1 y2
   unfold Qz.l2
   repeat' first
   | (with_reducible exact ih0 _ _ _)
   | (with_reducible exact ih1 _ _ _)
   | (with_reducible exact ih2 _ _ _ _)
   | (with_reducible exact ih3 _ _ _)
   | (with_reducible exact ih4 _ _ _)
   | (with_reducible exact Qu1.mono _ _)
   | (with_reducible exact Qj1.mono _ _ _ _ _)
   | (with_reducible exact Qe1.mono _ _ _ _ _ _ _ _ _)
   | (with_reducible exact Qs1.mono _ _ _)
   | (with_reducible exact LeO.refl _)
   | (with_reducible exact LeO.none _)
   | (with_reducible refine LeO.ite ?_ ?_)
   | (with_reducible refine LeO.bind ?_ (fun _ => ?_))
   | exact ih0 _ _ _
   | exact ih1 _ _ _
   | exact ih2 _ _ _ _
   | exact ih3 _ _ _
   | exact ih4 _ _ _
   | exact Qu1.mono _ _
   | exact Qj1.mono _ _ _ _ _
   | exact Qe1.mono _ _ _ _ _ _ _ _ _
   | exact Qs1.mono _ _ _
   | exact LeO.none _
   | refine LeO.ite ?_ ?_
   | refine LeO.bind ?_ (fun _ => ?_)
  ·
   intro y0 y1 y2
   unfold Qz.l3
   repeat' first
   | (with_reducible exact ih0 _ _ _)
   | (with_reducible exact ih1 _ _ _)
   | (with_reducible exact ih2 _ _ _ _)
   | (with_reducible exact ih3 _ _ _)
   | (with_reducible exact ih4 _ _ _)
   | (with_reducible exact Qu1.mono _ _)
   | (with_reducible exact Qj1.mono _ _ _ _ _)
   | (with_reducible exact Qe1.mono _ _ _ _ _ _ _ _ _)
   | (with_reducible exact Qs1.mono _ _ _)
   | (with_reducible exact LeO.refl _)
   | (with_reducible exact LeO.none _)
   | (with_reducible refine LeO.ite ?_ ?_)
   | (with_reducible refine LeO.bind ?_ (fun _ => ?_))
   | exact ih0 _ _ _
   | exact ih1 _ _ _
   | exact ih2 _ _ _ _
   | exact ih3 _ _ _
   | exact ih4 _ _ _
   | exact Qu1.mono _ _
   | exact Qj1.mono _ _ _ _ _
   | exact Qe1.mono _ _ _ _ _ _ _ _ _
   | exact Qs1.mono _ _ _
   | exact LeO.none _
   | refine LeO.ite ?_ ?_
   | refine LeO.bind ?_ (fun _ => ?_)
theorem Qz.mono : ∀ a0 a1 k, LeO (Qz.f k a0 a1) (Qz.f (k + 1) a0 a1) := by
 intro a0 a1 k
 obtain ⟨ih0, ih1, ih2, ih3, ih4⟩ := Qz.mono_l k
 unfold Qz.f
 repeat' first
  | (with_reducible exact ih0 _ _ _)
  | (with_reducible exact ih1 _ _ _)
  | (with_reducible exact ih2 _ _ _ _)
  | (with_reducible exact ih3 _ _ _)
  | (with_reducible exact ih4 _ _ _)
  | (with_reducible exact Qu1.mono _ _)
  | (with_reducible exact Qj1.mono _ _ _ _ _)
  | (with_reducible exact Qe1.mono _ _ _ _ _ _ _ _ _)
  | (with_reducible exact Qs1.mono _ _ _)
  | (with_reducible exact LeO.refl _)
  | (with_reducible exact LeO.none _)
  | (with_reducible refine LeO.ite ?_ ?_)
  | (with_reducible refine LeO.bind ?_ (fun _ => ?_))
  | exact ih0 _ _ _
  | exact ih1 _ _ _
  | exact ih2 _ _ _ _
  | exact ih3 _ _ _
  | exact ih4 _ _ _
  | exact Qu1.mono _ _
  | exact Qj1.mono _ _ _ _ _
  | exact Qe1.mono _ _ _ _ _ _ _ _ _
  | exact Qs1.mono _ _ _
  | exact LeO.none _
  | refine LeO.ite ?_ ?_
  | refine LeO.bind ?_ (fun _ => ?_)
def Qz.T13 : Bool × List (List Nat × List Nat) := (true, [([], []), ([0], [0]), ([], []), ([1, 2], [1, 2]), ([3], [3]), ([4], [4]), ([], []), ([6], [6]), ([], []), ([7, 8], [7, 8]), ([9], [9]), ([10], [10]), ([5, 11], [5, 11])])
def Qz.B13 : List Nat := [0, 1, 0, 7, 15, 31, 0, 64, 0, 448, 960, 1984, 4095]
theorem Qz.tab13 : rtab .any (opsOf Try.f32 13) = Qz.T13 := by kernel_rfl
theorem Qz.bits13 : waitsOk Qz.T13.2 Qz.B13 = true := by kernel_rfl
def Qz.T18 : Bool × List (List Nat × List Nat) := (true, [([], []), ([0], [0]), ([], []), ([1, 2], [1, 2]), ([3], [3]), ([], []), ([5], [5]), ([6], [6]), ([4, 7], [4, 7]), ([8], [8])])
def Qz.B18 : List Nat := [0, 1, 0, 7, 15, 0, 32, 96, 255, 511]
theorem Qz.tab18 : rtab .any (opsOf Try.f32 18) = Qz.T18 := by kernel_rfl
theorem Qz.bits18 : waitsOk Qz.T18.2 Qz.B18 = true := by kernel_rfl
set_option maxHeartbeats 8000000 in
set_option maxRecDepth 100000 in
theorem Qz.calls (k : Nat) (A0_0 : Option Addr) (c0_0 : Nat) (l0_0 : List (S51)) (A0_1 : Option Addr) (c0_1 : Nat) (l0_1 : List (S56)) (r1 : ByteArray) (r2 : Int) (r3 : Int) (w : World) (hr0_0 : Kd.C k51 w A0_0 l0_0.length l0_0) (hc0_0 : l0_0.length ≤ c0_0) (hr0_1 : Kd.C k56 w A0_1 l0_1.length l0_1) (hc0_1 : l0_1.length ≤ c0_1) (h : Qz.f k l0_0 l0_1 = some (r1, r2, r3)) :
 Calls Try.prog 32 #[.agg #[.slice A0_0 l0_0.length c0_0, .slice A0_1 l0_1.length c0_1]] w fun e w' => e = .returned (.tuple #[.string r1, .int .i64 r2, .int .i64 r3]) ∧ Below w.heap.size w w' := by
 have hu25 := Try.underlying25
 have hu56 := Try.underlying56
 have HR0_0 := Qa.mk hr0_0
 have HC0_0 := Qa.mk hc0_0
 clear hr0_0 hc0_0
 have HR0_1 := Qa.mk hr0_1
 have HC0_1 := Qa.mk hc0_1
 clear hr0_1 hc0_1
 have HB := Qa.mk (Below.refl w.heap.size w)
 have H : (if (l0_0.length : Int) > 1000 then (Qz.j0 k true l0_0 l0_1) else (Qz.j0 k (decide ((l0_1.length : Int) > 10000)) l0_0 l0_1)) = some (r1, r2, r3) := h
 clear h
 have HC2 := Qa.mk H
 clear H
 go_enter Try.func32, Try.ntmps32
 go_upto_region 1 with (first | ((with_reducible refine Qc1 (N := 1) rfl ?_); (try (refine Qm1 (by rfl) ?_; dsimp only)); refine Ql1 ?hg (N := 1) ?hd (cs := #[.slice A0_0 l0_0.length c0_0, .slice A0_1 l0_1.length c0_1]) (t := 25) ?hr ?_; (case hd => rfl); (case hg => rfl); (case hr => first | (go_simp; done) | (go_simp; rfl)); intro gb210 hg w3 hbox hb; have n0_ := Qa.mk (Qm (by repeat (first | (with_reducible first | exact HB.out | apply Qd | apply Qf | apply Qe) | exact HB.out)) hb); have n1_ := Qa.mk (hbox); have n2_ := Qa.mk ((by rw [hg]; exact (Qv (by repeat (first | (with_reducible first | exact HB.out | apply Qd | apply Qf | apply Qe) | exact HB.out))) : w.heap.size ≤ gb210)); have n3_ := Qa.mk ((by rw [hg]; exact (Qv (by repeat (first | (with_reducible first | exact HB.out | apply Qd | apply Qf | apply Qe) | exact HB.out))) : w.heap.size ≤ gb210)); clear HB; have HB := n0_; have BK210 := n1_; have GW210 := n2_; have GE210 := n3_; clear n0_ n1_ n2_ n3_; clear hb hbox hg))
 (try simp only [Act.put, List.setIfInBounds_toArray, List.set_cons_zero, List.set_cons_succ])
 go_cut [18] (fun v18 wc => ∃ (kq : Nat) (x18_1 : Bool), v18 = .bool x18_1 ∧ Qa (Qz.j0 kq x18_1 l0_0 l0_1 = some (r1, r2, r3)) ∧ Qa (kq ≤ k) ∧ Qa (wc.heap[gb210]? = some (.cells #[(.slice A0_0 l0_0.length c0_0), (.slice A0_1 l0_1.length c0_1)] 25 (0, 0))) ∧ Qa (Below w.heap.size w wc))
 case first =>
  have H := HC2.out
  clear HC2
  by_cases c4 : (l0_0.length : Int) > 1000
  ·
   rw [if_pos c4] at H
   have c4b0 : decide (1000 < (l0_0.length : Int)) = true := decide_eq_true c4
   have c4b1 : decide (1000 < l0_0.length) = true := decide_eq_true (by omega)
   clear c4
   (first | rw [c4b0] | (simp only [i64_w, i32_w]; rw [c4b0]) | skip)
   have H' := Qa.mk H
   clear H
   have hcz5_0 : w3.cell? ⟨gb210, 0, none⟩ = some (.slice A0_0 l0_0.length c0_0) := (Qb BK210.out 0).trans rfl
   have hcz5_1 : w3.cell? ⟨gb210, 1, none⟩ = some (.slice A0_1 l0_1.length c0_1) := (Qb BK210.out 1).trans rfl
   have hfz5_0 := Qc BK210.out 0
   have hfz5_1 := Qc BK210.out 1
   go_wp2
   go_meet
   case rel => exact ⟨_, (true), (by first | rfl | (simp; done) | (simp [*]; done)), H', ⟨by first | omega | exact Nat.le_refl _⟩, ⟨by (with_reducible repeat (first | refine Qk ?_ _ | refine Qj ?_ | refine Qi ?_ _)); exact BK210.out⟩, ⟨by repeat (first | (with_reducible first | exact HB.out | apply Qd | apply Qf | apply Qe | refine Qg ?_ GE210.out) | exact HB.out)⟩⟩
  ·
   rw [if_neg c4] at H
   have c4b0 : decide (1000 < (l0_0.length : Int)) = false := decide_eq_false c4
   have c4b1 : decide (1000 < l0_0.length) = false := decide_eq_false (by omega)
   clear c4
   (first | rw [c4b0] | (simp only [i64_w, i32_w]; rw [c4b0]) | skip)
   have H' := Qa.mk H
   clear H
   have hcz6_0 : w3.cell? ⟨gb210, 0, none⟩ = some (.slice A0_0 l0_0.length c0_0) := (Qb BK210.out 0).trans rfl
   have hcz6_1 : w3.cell? ⟨gb210, 1, none⟩ = some (.slice A0_1 l0_1.length c0_1) := (Qb BK210.out 1).trans rfl
   have hfz6_0 := Qc BK210.out 0
   have hfz6_1 := Qc BK210.out 1
   go_wp2
   go_meet
   case rel => exact ⟨_, (decide ((l0_1.length : Int) > 10000)), (by first | rfl | (simp; done) | (simp [*]; done)), H', ⟨by first | omega | exact Nat.le_refl _⟩, ⟨by (with_reducible repeat (first | refine Qk ?_ _ | refine Qj ?_ | refine Qi ?_ _)); exact BK210.out⟩, ⟨by repeat (first | (with_reducible first | exact HB.out | apply Qd | apply Qf | apply Qe | refine Qg ?_ GE210.out) | exact HB.out)⟩⟩
 case rest =>
  clear HC2
  try clear p2
  try clear c3
  try clear c4
  try clear c4b0
  try clear c4b1
  try clear hcz5_0
  try clear hcz5_1
  try clear hcz6_0
  try clear hcz6_1
  try clear hfz5_0
  try clear hfz5_1
  try clear hfz6_0
  try clear hfz6_1
  obtain ⟨kq, x18_1, rfl, HA, HJ1, BK210, HB⟩ := hcut
  cases kq with
  | zero => exact absurd HA.out (by simp [Qz.j0])
  | succ kj1 =>
   have H := HA.out
   clear HA
   simp only [Qz.j0] at H
   by_cases c7 : x18_1 = true
   ·
    subst c7
    have H1 : (some ((⟨#[]⟩ : ByteArray), 4, 0)) = some (r1, r2, r3) := by rw [if_pos rfl] at H; exact H
    clear H
    have H := H1
    clear H1
    simp only [Option.some.injEq, Prod.mk.injEq] at H
    obtain ⟨rfl, rfl, rfl⟩ := H
    go_wp2
    go_ret3
    exact ⟨by first | rfl | (simp [Qr, Qq] <;> rfl) | (simp [*, Qr, Qq] <;> rfl), by repeat (first | (with_reducible first | exact HB.out | apply Qd | apply Qf | apply Qe | refine Qg ?_ GE210.out) | exact HB.out)⟩
   ·
    replace c7 := Bool.eq_false_iff.mpr c7
    subst c7
    have H1 : (if (l0_0.length : Int) = 0 then (some ((⟨#[114, 117, 108, 101, 115]⟩ : ByteArray), 10, 0)) else (Qz.l0 kj1 0 l0_0 l0_1)) = some (r1, r2, r3) := by rw [if_neg (show ¬ (false = true) by decide)] at H; exact H
    clear H
    have H := H1
    clear H1
    by_cases c8 : (l0_0.length : Int) = 0
    ·
     rw [if_pos c8] at H
     have c8b0 : ((l0_0.length : Int) == 0) = true := beq_iff_eq.mpr c8
     have c8b1 : ((l0_0.length : Int) != 0) = false := bne_eq_false_iff_eq.mpr c8
     clear c8
     simp only [Option.some.injEq, Prod.mk.injEq] at H
     obtain ⟨rfl, rfl, rfl⟩ := H
     have hcz9_0 : wc.cell? ⟨gb210, 0, none⟩ = some (.slice A0_0 l0_0.length c0_0) := (Qb BK210.out 0).trans rfl
     have hcz9_1 : wc.cell? ⟨gb210, 1, none⟩ = some (.slice A0_1 l0_1.length c0_1) := (Qb BK210.out 1).trans rfl
     have hfz9_0 := Qc BK210.out 0
     have hfz9_1 := Qc BK210.out 1
     go_wp2
     go_ret3
     exact ⟨by first | rfl | (simp [Qr, Qq] <;> rfl) | (simp [*, Qr, Qq] <;> rfl), by repeat (first | (with_reducible first | exact HB.out | apply Qd | apply Qf | apply Qe | refine Qg ?_ GE210.out) | exact HB.out)⟩
    ·
     rw [if_neg c8] at H
     have c8b0 : ((l0_0.length : Int) == 0) = false := beq_eq_false_iff_ne.mpr c8
     have c8b1 : ((l0_0.length : Int) != 0) = true := bne_iff_ne.mpr c8
     have c8b2 : ¬ (l0_0 = []) := fun h_ => c8 (by rw [h_]; rfl)
     have H' := Qa.mk H
     clear H
     have hcz10_0 : wc.cell? ⟨gb210, 0, none⟩ = some (.slice A0_0 l0_0.length c0_0) := (Qb BK210.out 0).trans rfl
     have hcz10_1 : wc.cell? ⟨gb210, 1, none⟩ = some (.slice A0_1 l0_1.length c0_1) := (Qb BK210.out 1).trans rfl
     have hfz10_0 := Qc BK210.out 0
     have hfz10_1 := Qc BK210.out 1
     go_wp2
     go_loopg [5] kj1 (fun kq v5 w' => ∃ (x5_2 : Int), v5 = .int .i64 x5_2 ∧ Qa (Qz.l0 kq x5_2 l0_0 l0_1 = some (r1, r2, r3)) ∧ Qa (kq ≤ kj1) ∧ Qa (w'.heap[gb210]? = some (.cells #[(.slice A0_0 l0_0.length c0_0), (.slice A0_1 l0_1.length c0_1)] 25 (0, 0))) ∧ Qa (Below w.heap.size w w'))
     case atStart => exact ⟨(0), (by first | rfl | (simp; done) | (simp [*]; done)), H', ⟨Nat.le_refl _⟩, ⟨by (with_reducible repeat (first | refine Qk ?_ _ | refine Qj ?_ | refine Qi ?_ _)); exact BK210.out⟩, ⟨by repeat (first | (with_reducible first | exact HB.out | apply Qd | apply Qf | apply Qe | refine Qg ?_ GE210.out) | exact HB.out)⟩⟩
     case round =>
      clear H'
      try clear p2
      try clear c3
      try clear c4
      try clear c4b0
      try clear c4b1
      try clear c7
      try clear c8
      try clear c8b0
      try clear c8b1
      try clear c8b2
      try clear hcz10_0
      try clear hcz10_1
      try clear hcz5_0
      try clear hcz5_1
      try clear hcz6_0
      try clear hcz6_1
      try clear hcz9_0
      try clear hcz9_1
      try clear hfz10_0
      try clear hfz10_1
      try clear hfz5_0
      try clear hfz5_1
      try clear hfz6_0
      try clear hfz6_1
      try clear hfz9_0
      try clear hfz9_1
      try clear p2
      obtain ⟨x5_2, rfl, HA, HK2, BK210, HB⟩ := hrel
      cases gk with
      | zero => exact absurd HA.out (by simp [Qz.l0])
      | succ k2 =>
       have H := HA.out
       clear HA
       simp only [Qz.l0] at H
       by_cases c11 : x5_2 < (l0_0.length : Int)
       ·
        rw [if_pos c11] at H
        have c11b0 : decide (x5_2 < (l0_0.length : Int)) = true := decide_eq_true c11
        clear c11
        by_cases c12 : 0 ≤ x5_2
        ·
         rw [if_pos c12] at H
         have c12b0 : decide (0 ≤ x5_2) = true := decide_eq_true c12
         clear c12
         replace H := Option.bind_eq_some_iff.mp H
         obtain ⟨t212, A130, H⟩ := H
         replace H : (if t212 = true then (Qz.l1 k2 x5_2 0 l0_0 l0_1) else (some ((⟨#[114, 117, 108, 101, 115]⟩ : ByteArray), 10, x5_2))) = some (r1, r2, r3) := H
         have A13 := Qa.mk A130
         clear A130
         by_cases c14 : t212 = true
         ·
          subst c14
          have H1 : (Qz.l1 k2 x5_2 0 l0_0 l0_1) = some (r1, r2, r3) := by rw [if_pos rfl] at H; exact H
          clear H
          have H := H1
          clear H1
          have H' := Qa.mk H
          clear H
          have hcz15_0 : wr.cell? ⟨gb210, 0, none⟩ = some (.slice A0_0 l0_0.length c0_0) := (Qb BK210.out 0).trans rfl
          have hcz15_1 : wr.cell? ⟨gb210, 1, none⟩ = some (.slice A0_1 l0_1.length c0_1) := (Qb BK210.out 1).trans rfl
          have hfz15_0 := Qc BK210.out 0
          have hfz15_1 := Qc BK210.out 1
          have p211 : 0 ≤ (x5_2 : Int) := of_decide_eq_true (by first | (with_reducible assumption) | assumption)
          have q211 : x5_2 < (l0_0.length : Int) := of_decide_eq_true (by first | (with_reducible assumption) | assumption)
          obtain ⟨ad211, e211, hx211_0, hx211_1⟩ := at_T51 HR0_0.out x5_2 p211 q211
          cases e211
          replace hx211_0 := (HB.out.cell (World.block_lt_of_cell? w _ hx211_0)).trans hx211_0
          replace hx211_1 := (HB.out.cell (World.block_lt_of_cell? w _ hx211_1)).trans hx211_1
          replace p211 := eq_true p211
          replace q211 := eq_true q211
          go_wp2_with (first | ((with_reducible refine Qd1 (f := 36) rfl ?_); refine goesL_ (some 36) rfl rfl Try.func36 (by kernel_rfl) rfl #[.string ((rd_T51 l0_0 x5_2).f0)] rfl (by (try simp only [List.map_toArray, List.map_cons, List.map_nil]); first | done | rfl | (simp only [List.length_drop, List.length_take]; rfl)) ?_; (with_reducible refine (Qu1.calls k2 ((rd_T51 l0_0 x5_2).f0) true _ A13.out).mono ?_); rintro e w' ⟨rfl, ⟨nd, rfl⟩⟩; refine ⟨_, rfl, ?_⟩))
          go_loopg [6] k2 (fun kq v6 w' => ∃ (x6_3 : Int), v6 = .int .i64 x6_3 ∧ Qa (Qz.l1 kq x5_2 x6_3 l0_0 l0_1 = some (r1, r2, r3)) ∧ Qa (kq ≤ k2) ∧ Qa (w'.heap[gb210]? = some (.cells #[(.slice (some ad211) l0_0.length c0_0), (.slice A0_1 l0_1.length c0_1)] 25 (0, 0))) ∧ Qa (Below w.heap.size w w'))
          case atStart => exact ⟨(0), (by first | rfl | (simp; done) | (simp [*]; done)), H', ⟨Nat.le_refl _⟩, ⟨by (with_reducible repeat (first | refine Qk ?_ _ | refine Qj ?_ | refine Qi ?_ _)); exact BK210.out⟩, ⟨by repeat (first | (with_reducible first | exact HB.out | apply Qd | apply Qf | apply Qe | refine Qg ?_ GE210.out) | exact HB.out)⟩⟩
          case round =>
           clear H'
           try clear c1
           try clear p2
           try clear q2
           try clear hx2
           try clear c3
           try clear c4
           try clear c4b0
           try clear c4b1
           try clear c7
           try clear c8
           try clear c8b0
           try clear c8b1
           try clear c8b2
           try clear c11
           try clear c11b0
           try clear c12
           try clear c12b0
           try clear c14
           try clear hcz10_0
           try clear hcz10_1
           try clear hcz15_0
           try clear hcz15_1
           try clear hcz5_0
           try clear hcz5_1
           try clear hcz6_0
           try clear hcz6_1
           try clear hcz9_0
           try clear hcz9_1
           try clear hfz10_0
           try clear hfz10_1
           try clear hfz15_0
           try clear hfz15_1
           try clear hfz5_0
           try clear hfz5_1
           try clear hfz6_0
           try clear hfz6_1
           try clear hfz9_0
           try clear hfz9_1
           try clear hx211_0
           try clear hx211_1
           try clear p2
           try clear p211
           try clear q211
           obtain ⟨x6_3, rfl, HA, HK3, BK210, HB⟩ := hrel
           cases gk with
           | zero => exact absurd HA.out (by simp [Qz.l1])
           | succ k3 =>
            have H := HA.out
            clear HA
            simp only [Qz.l1] at H
            by_cases c16 : x6_3 < x5_2
            ·
             rw [if_pos c16] at H
             have c16b0 : decide (x6_3 < x5_2) = true := decide_eq_true c16
             clear c16
             by_cases c17 : 0 ≤ x6_3
             ·
              rw [if_pos c17] at H
              have c17b0 : decide (0 ≤ x6_3) = true := decide_eq_true c17
              clear c17
              by_cases c18 : x6_3 < (l0_0.length : Int)
              ·
               rw [if_pos c18] at H
               have c18b0 : decide (x6_3 < (l0_0.length : Int)) = true := decide_eq_true c18
               clear c18
               by_cases c19 : 0 ≤ x5_2
               ·
                rw [if_pos c19] at H
                have c19b0 : decide (0 ≤ x5_2) = true := decide_eq_true c19
                clear c19
                by_cases c20 : x5_2 < (l0_0.length : Int)
                ·
                 rw [if_pos c20] at H
                 have c20b0 : decide (x5_2 < (l0_0.length : Int)) = true := decide_eq_true c20
                 clear c20
                 by_cases c21 : ((rd_T51 l0_0 x6_3).f0).toList = ((rd_T51 l0_0 x5_2).f0).toList
                 ·
                  rw [if_pos c21] at H
                  have c21b0 : (((rd_T51 l0_0 x6_3).f0).toList == ((rd_T51 l0_0 x5_2).f0).toList) = true := beq_iff_eq.mpr c21
                  have c21b1 : (((rd_T51 l0_0 x6_3).f0).toList != ((rd_T51 l0_0 x5_2).f0).toList) = false := bne_eq_false_iff_eq.mpr c21
                  clear c21
                  simp only [Option.some.injEq, Prod.mk.injEq] at H
                  obtain ⟨rfl, rfl, rfl⟩ := H
                  try go_wp2
                  have n0_ := Qa.mk (Qj BK210.out)
                  have n1_ := Qa.mk (Qe HB.out)
                  clear BK210
                  clear HB
                  have BK210 := n0_
                  have HB := n1_
                  clear n0_ n1_
                  have p213 : 0 ≤ (x6_3 : Int) := of_decide_eq_true (by first | (with_reducible assumption) | assumption)
                  have q213 : x6_3 < (l0_0.length : Int) := of_decide_eq_true (by first | (with_reducible assumption) | assumption)
                  obtain ⟨ad213, e213, hx213_0, hx213_1⟩ := at_T51 HR0_0.out x6_3 p213 q213
                  have hw213_1 := hx213_1
                  have hw213_0 := hx213_0
                  obtain rfl : ad211 = ad213 := (by injection e213)
                  replace hx213_0 := (HB.out.cell (World.block_lt_of_cell? w _ hx213_0)).trans hx213_0
                  replace hx213_1 := (HB.out.cell (World.block_lt_of_cell? w _ hx213_1)).trans hx213_1
                  replace p213 := eq_true p213
                  replace q213 := eq_true q213
                  have p214 : 0 ≤ (x5_2 : Int) := of_decide_eq_true (by first | (with_reducible assumption) | assumption)
                  have q214 : x5_2 < (l0_0.length : Int) := of_decide_eq_true (by first | (with_reducible assumption) | assumption)
                  obtain ⟨ad214, e214, hx214_0, hx214_1⟩ := at_T51 HR0_0.out x5_2 p214 q214
                  have hw214_1 := hx214_1
                  have hw214_0 := hx214_0
                  obtain rfl : ad211 = ad214 := (by injection e214)
                  replace hx214_0 := (HB.out.cell (World.block_lt_of_cell? w _ hx214_0)).trans hx214_0
                  replace hx214_1 := (HB.out.cell (World.block_lt_of_cell? w _ hx214_1)).trans hx214_1
                  replace p214 := eq_true p214
                  replace q214 := eq_true q214
                  refine start_ (n := 13) (S := fun w' => w'.cell? ⟨gb210, 0, none⟩ = some (.slice (some ad211) l0_0.length c0_0) ∧ w'.cell? ⟨gb210, 1, none⟩ = some (.slice A0_1 l0_1.length c0_1) ∧ w'.cell? (ad211.add ((x6_3).toNat * 2)) = some (.string ((rd_T51 l0_0 x6_3).f0)) ∧ w'.cell? ⟨(ad211.add ((x6_3).toNat * 2)).block, (ad211.add ((x6_3).toNat * 2)).off + 1, none⟩ = some (.int .i64 ((rd_T51 l0_0 x6_3).f1)) ∧ w'.cell? (ad211.add ((x5_2).toNat * 2)) = some (.string ((rd_T51 l0_0 x5_2).f0)) ∧ w'.cell? ⟨(ad211.add ((x5_2).toNat * 2)).block, (ad211.add ((x5_2).toNat * 2)).off + 1, none⟩ = some (.int .i64 ((rd_T51 l0_0 x5_2).f1))) (ds := []) #[false, false, false, false, false, false, false, false, false, false, false, false, false] (by kernel_rfl) rfl rfl ⟨(Qb BK210.out 0).trans rfl, (Qb BK210.out 1).trans rfl, ((HB.out.cell (World.block_lt_of_cell? w _ hw213_0)).trans hw213_0), ((HB.out.cell (World.block_lt_of_cell? w _ hw213_1)).trans hw213_1), ((HB.out.cell (World.block_lt_of_cell? w _ hw214_0)).trans hw214_0), ((HB.out.cell (World.block_lt_of_cell? w _ hw214_1)).trans hw214_1)⟩ (fun hHeld => ?_); refine with_tabW Qz.tab13 Qz.bits13 (fun HT_ HW_ => ?_)
                  generalize wr.drew = w22 at BK210 HB hx213_0 hx213_1 hx214_0 hx214_1 hHeld ⊢
                  refine pure_ (i := 0) (N := some 44) (v := ?_) (a' := ?_) #[true, false, false, false, false, false, false, false, false, false, false, false, false] rfl rfl (any_of HT_.out (by kernel_rfl)) (fun _ _ _ h => h) (Or.inl ⟨by rfl, ?_⟩) ?_ ?_
                  rotate_left
                  ·
                   intro w'
                   go_simp
                   with_reducible rfl
                  rotate_left
                  ·
                   simp only [Act.put, List.setIfInBounds_toArray, List.set_cons_zero, List.set_cons_succ, i64_w, i32_w]
                   rfl
                  refine pure_ (i := 2) (N := some 46) (v := ?_) (a' := ?_) #[true, false, true, false, false, false, false, false, false, false, false, false, false] rfl rfl (any_of HT_.out (by kernel_rfl)) (fun _ _ _ h => h) (Or.inl ⟨by rfl, ?_⟩) ?_ ?_
                  rotate_left
                  ·
                   intro w'
                   go_simp
                   with_reducible rfl
                  rotate_left
                  ·
                   simp only [Act.put, List.setIfInBounds_toArray, List.set_cons_zero, List.set_cons_succ, i64_w, i32_w]
                   rfl
                  refine pure_ (i := 6) (N := some 50) (v := ?_) (a' := ?_) #[true, false, true, false, false, false, true, false, false, false, false, false, false] rfl rfl (any_of HT_.out (by kernel_rfl)) (fun _ _ _ h => h) (Or.inl ⟨by rfl, ?_⟩) ?_ ?_
                  rotate_left
                  ·
                   intro w'
                   go_simp
                   with_reducible rfl
                  rotate_left
                  ·
                   simp only [Act.put, List.setIfInBounds_toArray, List.set_cons_zero, List.set_cons_succ, i64_w, i32_w]
                   rfl
                  refine pure_ (i := 8) (N := some 52) (v := ?_) (a' := ?_) #[true, false, true, false, false, false, true, false, true, false, false, false, false] rfl rfl (any_of HT_.out (by kernel_rfl)) (fun _ _ _ h => h) (Or.inl ⟨by rfl, ?_⟩) ?_ ?_
                  rotate_left
                  ·
                   intro w'
                   go_simp
                   with_reducible rfl
                  rotate_left
                  ·
                   simp only [Act.put, List.setIfInBounds_toArray, List.set_cons_zero, List.set_cons_succ, i64_w, i32_w]
                   rfl
                  refine take_ (i := 1) (N := some 45) (v := ?_) (a' := ?_) #[true, true, true, false, false, false, true, false, true, false, false, false, false] rfl rfl (take_ofW HT_.out HW_.out (by kernel_rfl)) (fun _ _ _ h => h) (Or.inl ⟨by rfl, ?_⟩) hHeld ?_ ?_
                  rotate_left
                  ·
                   rintro w' ⟨s0, s1, s2, s3, s4, s5⟩
                   go_simp
                   with_reducible rfl
                  rotate_left
                  ·
                   simp only [Act.put, List.setIfInBounds_toArray, List.set_cons_zero, List.set_cons_succ, i64_w, i32_w]
                   rfl
                  refine pure_ (i := 3) (N := some 47) (v := ?_) (a' := ?_) #[true, true, true, true, false, false, true, false, true, false, false, false, false] rfl rfl (any_of HT_.out (by kernel_rfl)) (fun _ _ _ h => h) (Or.inl ⟨by rfl, ?_⟩) ?_ ?_
                  rotate_left
                  ·
                   intro w'
                   go_simp
                   with_reducible rfl
                  rotate_left
                  ·
                   simp only [Act.put, List.setIfInBounds_toArray, List.set_cons_zero, List.set_cons_succ, i64_w, i32_w]
                   rfl
                  refine pure_ (i := 4) (N := some 48) (v := ?_) (a' := ?_) #[true, true, true, true, true, false, true, false, true, false, false, false, false] rfl rfl (any_of HT_.out (by kernel_rfl)) (fun _ _ _ h => h) (Or.inl ⟨by rfl, ?_⟩) ?_ ?_
                  rotate_left
                  ·
                   intro w'
                   go_simp
                   with_reducible rfl
                  rotate_left
                  ·
                   simp only [Act.put, List.setIfInBounds_toArray, List.set_cons_zero, List.set_cons_succ, i64_w, i32_w]
                   rfl
                  refine take_ (i := 5) (N := some 49) (v := ?_) (a' := ?_) #[true, true, true, true, true, true, true, false, true, false, false, false, false] rfl rfl (take_ofW HT_.out HW_.out (by kernel_rfl)) (fun _ _ _ h => h) (Or.inl ⟨by rfl, ?_⟩) hHeld ?_ ?_
                  rotate_left
                  ·
                   rintro w' ⟨s0, s1, s2, s3, s4, s5⟩
                   go_simp
                   with_reducible rfl
                  rotate_left
                  ·
                   simp only [Act.put, List.setIfInBounds_toArray, List.set_cons_zero, List.set_cons_succ, i64_w, i32_w]
                   rfl
                  refine take_ (i := 7) (N := some 51) (v := ?_) (a' := ?_) #[true, true, true, true, true, true, true, true, true, false, false, false, false] rfl rfl (take_ofW HT_.out HW_.out (by kernel_rfl)) (fun _ _ _ h => h) (Or.inl ⟨by rfl, ?_⟩) hHeld ?_ ?_
                  rotate_left
                  ·
                   rintro w' ⟨s0, s1, s2, s3, s4, s5⟩
                   go_simp
                   with_reducible rfl
                  rotate_left
                  ·
                   simp only [Act.put, List.setIfInBounds_toArray, List.set_cons_zero, List.set_cons_succ, i64_w, i32_w]
                   rfl
                  refine pure_ (i := 9) (N := some 53) (v := ?_) (a' := ?_) #[true, true, true, true, true, true, true, true, true, true, false, false, false] rfl rfl (any_of HT_.out (by kernel_rfl)) (fun _ _ _ h => h) (Or.inl ⟨by rfl, ?_⟩) ?_ ?_
                  rotate_left
                  ·
                   intro w'
                   go_simp
                   with_reducible rfl
                  rotate_left
                  ·
                   simp only [Act.put, List.setIfInBounds_toArray, List.set_cons_zero, List.set_cons_succ, i64_w, i32_w]
                   rfl
                  refine pure_ (i := 10) (N := some 54) (v := ?_) (a' := ?_) #[true, true, true, true, true, true, true, true, true, true, true, false, false] rfl rfl (any_of HT_.out (by kernel_rfl)) (fun _ _ _ h => h) (Or.inl ⟨by rfl, ?_⟩) ?_ ?_
                  rotate_left
                  ·
                   intro w'
                   go_simp
                   with_reducible rfl
                  rotate_left
                  ·
                   simp only [Act.put, List.setIfInBounds_toArray, List.set_cons_zero, List.set_cons_succ, i64_w, i32_w]
                   rfl
                  refine take_ (i := 11) (N := some 55) (v := ?_) (a' := ?_) #[true, true, true, true, true, true, true, true, true, true, true, true, false] rfl rfl (take_ofW HT_.out HW_.out (by kernel_rfl)) (fun _ _ _ h => h) (Or.inl ⟨by rfl, ?_⟩) hHeld ?_ ?_
                  rotate_left
                  ·
                   rintro w' ⟨s0, s1, s2, s3, s4, s5⟩
                   go_simp
                   with_reducible rfl
                  rotate_left
                  ·
                   simp only [Act.put, List.setIfInBounds_toArray, List.set_cons_zero, List.set_cons_succ, i64_w, i32_w]
                   rfl
                  refine pure_ (i := 12) (N := some 56) (v := ?_) (a' := ?_) #[true, true, true, true, true, true, true, true, true, true, true, true, true] rfl rfl (any_of HT_.out (by kernel_rfl)) (fun _ _ _ h => h) (Or.inl ⟨by rfl, ?_⟩) ?_ ?_
                  rotate_left
                  ·
                   intro w'
                   go_simp
                   with_reducible rfl
                  rotate_left
                  ·
                   simp only [Act.put, List.setIfInBounds_toArray, List.set_cons_zero, List.set_cons_succ, i64_w, i32_w]
                   rfl
                  refine done_ (done_of HT_.out (by kernel_rfl)) ?_
                  try go_wp2
                  go_ret3
                  exact ⟨by first | rfl | (simp [Qr, Qq] <;> rfl) | (simp [*, Qr, Qq] <;> rfl), by repeat (first | (with_reducible first | exact HB.out | apply Qd | apply Qf | apply Qe | refine Qg ?_ GE210.out) | exact HB.out)⟩
                 ·
                  rw [if_neg c21] at H
                  have c21b0 : (((rd_T51 l0_0 x6_3).f0).toList == ((rd_T51 l0_0 x5_2).f0).toList) = false := beq_eq_false_iff_ne.mpr c21
                  have c21b1 : (((rd_T51 l0_0 x6_3).f0).toList != ((rd_T51 l0_0 x5_2).f0).toList) = true := bne_iff_ne.mpr c21
                  have H' := Qa.mk H
                  clear H
                  try go_wp2
                  have n0_ := Qa.mk (Qj BK210.out)
                  have n1_ := Qa.mk (Qe HB.out)
                  clear BK210
                  clear HB
                  have BK210 := n0_
                  have HB := n1_
                  clear n0_ n1_
                  have p213 : 0 ≤ (x6_3 : Int) := of_decide_eq_true (by first | (with_reducible assumption) | assumption)
                  have q213 : x6_3 < (l0_0.length : Int) := of_decide_eq_true (by first | (with_reducible assumption) | assumption)
                  obtain ⟨ad213, e213, hx213_0, hx213_1⟩ := at_T51 HR0_0.out x6_3 p213 q213
                  have hw213_1 := hx213_1
                  have hw213_0 := hx213_0
                  obtain rfl : ad211 = ad213 := (by injection e213)
                  replace hx213_0 := (HB.out.cell (World.block_lt_of_cell? w _ hx213_0)).trans hx213_0
                  replace hx213_1 := (HB.out.cell (World.block_lt_of_cell? w _ hx213_1)).trans hx213_1
                  replace p213 := eq_true p213
                  replace q213 := eq_true q213
                  have p214 : 0 ≤ (x5_2 : Int) := of_decide_eq_true (by first | (with_reducible assumption) | assumption)
                  have q214 : x5_2 < (l0_0.length : Int) := of_decide_eq_true (by first | (with_reducible assumption) | assumption)
                  obtain ⟨ad214, e214, hx214_0, hx214_1⟩ := at_T51 HR0_0.out x5_2 p214 q214
                  have hw214_1 := hx214_1
                  have hw214_0 := hx214_0
                  obtain rfl : ad211 = ad214 := (by injection e214)
                  replace hx214_0 := (HB.out.cell (World.block_lt_of_cell? w _ hx214_0)).trans hx214_0
                  replace hx214_1 := (HB.out.cell (World.block_lt_of_cell? w _ hx214_1)).trans hx214_1
                  replace p214 := eq_true p214
                  replace q214 := eq_true q214
                  refine start_ (n := 13) (S := fun w' => w'.cell? ⟨gb210, 0, none⟩ = some (.slice (some ad211) l0_0.length c0_0) ∧ w'.cell? ⟨gb210, 1, none⟩ = some (.slice A0_1 l0_1.length c0_1) ∧ w'.cell? (ad211.add ((x6_3).toNat * 2)) = some (.string ((rd_T51 l0_0 x6_3).f0)) ∧ w'.cell? ⟨(ad211.add ((x6_3).toNat * 2)).block, (ad211.add ((x6_3).toNat * 2)).off + 1, none⟩ = some (.int .i64 ((rd_T51 l0_0 x6_3).f1)) ∧ w'.cell? (ad211.add ((x5_2).toNat * 2)) = some (.string ((rd_T51 l0_0 x5_2).f0)) ∧ w'.cell? ⟨(ad211.add ((x5_2).toNat * 2)).block, (ad211.add ((x5_2).toNat * 2)).off + 1, none⟩ = some (.int .i64 ((rd_T51 l0_0 x5_2).f1))) (ds := []) #[false, false, false, false, false, false, false, false, false, false, false, false, false] (by kernel_rfl) rfl rfl ⟨(Qb BK210.out 0).trans rfl, (Qb BK210.out 1).trans rfl, ((HB.out.cell (World.block_lt_of_cell? w _ hw213_0)).trans hw213_0), ((HB.out.cell (World.block_lt_of_cell? w _ hw213_1)).trans hw213_1), ((HB.out.cell (World.block_lt_of_cell? w _ hw214_0)).trans hw214_0), ((HB.out.cell (World.block_lt_of_cell? w _ hw214_1)).trans hw214_1)⟩ (fun hHeld => ?_); refine with_tabW Qz.tab13 Qz.bits13 (fun HT_ HW_ => ?_)
                  generalize wr.drew = w23 at BK210 HB hx213_0 hx213_1 hx214_0 hx214_1 hHeld ⊢
                  refine pure_ (i := 0) (N := some 44) (v := ?_) (a' := ?_) #[true, false, false, false, false, false, false, false, false, false, false, false, false] rfl rfl (any_of HT_.out (by kernel_rfl)) (fun _ _ _ h => h) (Or.inl ⟨by rfl, ?_⟩) ?_ ?_
                  rotate_left
                  ·
                   intro w'
                   go_simp
                   with_reducible rfl
                  rotate_left
                  ·
                   simp only [Act.put, List.setIfInBounds_toArray, List.set_cons_zero, List.set_cons_succ, i64_w, i32_w]
                   rfl
                  refine pure_ (i := 2) (N := some 46) (v := ?_) (a' := ?_) #[true, false, true, false, false, false, false, false, false, false, false, false, false] rfl rfl (any_of HT_.out (by kernel_rfl)) (fun _ _ _ h => h) (Or.inl ⟨by rfl, ?_⟩) ?_ ?_
                  rotate_left
                  ·
                   intro w'
                   go_simp
                   with_reducible rfl
                  rotate_left
                  ·
                   simp only [Act.put, List.setIfInBounds_toArray, List.set_cons_zero, List.set_cons_succ, i64_w, i32_w]
                   rfl
                  refine pure_ (i := 6) (N := some 50) (v := ?_) (a' := ?_) #[true, false, true, false, false, false, true, false, false, false, false, false, false] rfl rfl (any_of HT_.out (by kernel_rfl)) (fun _ _ _ h => h) (Or.inl ⟨by rfl, ?_⟩) ?_ ?_
                  rotate_left
                  ·
                   intro w'
                   go_simp
                   with_reducible rfl
                  rotate_left
                  ·
                   simp only [Act.put, List.setIfInBounds_toArray, List.set_cons_zero, List.set_cons_succ, i64_w, i32_w]
                   rfl
                  refine pure_ (i := 8) (N := some 52) (v := ?_) (a' := ?_) #[true, false, true, false, false, false, true, false, true, false, false, false, false] rfl rfl (any_of HT_.out (by kernel_rfl)) (fun _ _ _ h => h) (Or.inl ⟨by rfl, ?_⟩) ?_ ?_
                  rotate_left
                  ·
                   intro w'
                   go_simp
                   with_reducible rfl
                  rotate_left
                  ·
                   simp only [Act.put, List.setIfInBounds_toArray, List.set_cons_zero, List.set_cons_succ, i64_w, i32_w]
                   rfl
                  refine take_ (i := 1) (N := some 45) (v := ?_) (a' := ?_) #[true, true, true, false, false, false, true, false, true, false, false, false, false] rfl rfl (take_ofW HT_.out HW_.out (by kernel_rfl)) (fun _ _ _ h => h) (Or.inl ⟨by rfl, ?_⟩) hHeld ?_ ?_
                  rotate_left
                  ·
                   rintro w' ⟨s0, s1, s2, s3, s4, s5⟩
                   go_simp
                   with_reducible rfl
                  rotate_left
                  ·
                   simp only [Act.put, List.setIfInBounds_toArray, List.set_cons_zero, List.set_cons_succ, i64_w, i32_w]
                   rfl
                  refine pure_ (i := 3) (N := some 47) (v := ?_) (a' := ?_) #[true, true, true, true, false, false, true, false, true, false, false, false, false] rfl rfl (any_of HT_.out (by kernel_rfl)) (fun _ _ _ h => h) (Or.inl ⟨by rfl, ?_⟩) ?_ ?_
                  rotate_left
                  ·
                   intro w'
                   go_simp
                   with_reducible rfl
                  rotate_left
                  ·
                   simp only [Act.put, List.setIfInBounds_toArray, List.set_cons_zero, List.set_cons_succ, i64_w, i32_w]
                   rfl
                  refine pure_ (i := 4) (N := some 48) (v := ?_) (a' := ?_) #[true, true, true, true, true, false, true, false, true, false, false, false, false] rfl rfl (any_of HT_.out (by kernel_rfl)) (fun _ _ _ h => h) (Or.inl ⟨by rfl, ?_⟩) ?_ ?_
                  rotate_left
                  ·
                   intro w'
                   go_simp
                   with_reducible rfl
                  rotate_left
                  ·
                   simp only [Act.put, List.setIfInBounds_toArray, List.set_cons_zero, List.set_cons_succ, i64_w, i32_w]
                   rfl
                  refine take_ (i := 5) (N := some 49) (v := ?_) (a' := ?_) #[true, true, true, true, true, true, true, false, true, false, false, false, false] rfl rfl (take_ofW HT_.out HW_.out (by kernel_rfl)) (fun _ _ _ h => h) (Or.inl ⟨by rfl, ?_⟩) hHeld ?_ ?_
                  rotate_left
                  ·
                   rintro w' ⟨s0, s1, s2, s3, s4, s5⟩
                   go_simp
                   with_reducible rfl
                  rotate_left
                  ·
                   simp only [Act.put, List.setIfInBounds_toArray, List.set_cons_zero, List.set_cons_succ, i64_w, i32_w]
                   rfl
                  refine take_ (i := 7) (N := some 51) (v := ?_) (a' := ?_) #[true, true, true, true, true, true, true, true, true, false, false, false, false] rfl rfl (take_ofW HT_.out HW_.out (by kernel_rfl)) (fun _ _ _ h => h) (Or.inl ⟨by rfl, ?_⟩) hHeld ?_ ?_
                  rotate_left
                  ·
                   rintro w' ⟨s0, s1, s2, s3, s4, s5⟩
                   go_simp
                   with_reducible rfl
                  rotate_left
                  ·
                   simp only [Act.put, List.setIfInBounds_toArray, List.set_cons_zero, List.set_cons_succ, i64_w, i32_w]
                   rfl
                  refine pure_ (i := 9) (N := some 53) (v := ?_) (a' := ?_) #[true, true, true, true, true, true, true, true, true, true, false, false, false] rfl rfl (any_of HT_.out (by kernel_rfl)) (fun _ _ _ h => h) (Or.inl ⟨by rfl, ?_⟩) ?_ ?_
                  rotate_left
                  ·
                   intro w'
                   go_simp
                   with_reducible rfl
                  rotate_left
                  ·
                   simp only [Act.put, List.setIfInBounds_toArray, List.set_cons_zero, List.set_cons_succ, i64_w, i32_w]
                   rfl
                  refine pure_ (i := 10) (N := some 54) (v := ?_) (a' := ?_) #[true, true, true, true, true, true, true, true, true, true, true, false, false] rfl rfl (any_of HT_.out (by kernel_rfl)) (fun _ _ _ h => h) (Or.inl ⟨by rfl, ?_⟩) ?_ ?_
                  rotate_left
                  ·
                   intro w'
                   go_simp
                   with_reducible rfl
                  rotate_left
                  ·
                   simp only [Act.put, List.setIfInBounds_toArray, List.set_cons_zero, List.set_cons_succ, i64_w, i32_w]
                   rfl
                  refine take_ (i := 11) (N := some 55) (v := ?_) (a' := ?_) #[true, true, true, true, true, true, true, true, true, true, true, true, false] rfl rfl (take_ofW HT_.out HW_.out (by kernel_rfl)) (fun _ _ _ h => h) (Or.inl ⟨by rfl, ?_⟩) hHeld ?_ ?_
                  rotate_left
                  ·
                   rintro w' ⟨s0, s1, s2, s3, s4, s5⟩
                   go_simp
                   with_reducible rfl
                  rotate_left
                  ·
                   simp only [Act.put, List.setIfInBounds_toArray, List.set_cons_zero, List.set_cons_succ, i64_w, i32_w]
                   rfl
                  refine pure_ (i := 12) (N := some 56) (v := ?_) (a' := ?_) #[true, true, true, true, true, true, true, true, true, true, true, true, true] rfl rfl (any_of HT_.out (by kernel_rfl)) (fun _ _ _ h => h) (Or.inl ⟨by rfl, ?_⟩) ?_ ?_
                  rotate_left
                  ·
                   intro w'
                   go_simp
                   with_reducible rfl
                  rotate_left
                  ·
                   simp only [Act.put, List.setIfInBounds_toArray, List.set_cons_zero, List.set_cons_succ, i64_w, i32_w]
                   rfl
                  refine done_ (done_of HT_.out (by kernel_rfl)) ?_
                  try go_wp2
                  go_roundg k3
                  case measure => have := HJ1.out; have := HK2.out; have := HK3.out; omega
                  case rel => exact ⟨(wrap64 (x6_3 + 1)), (by first | rfl | (simp; done) | (simp [*]; done)), H', ⟨by have := HJ1.out; have := HK2.out; have := HK3.out; omega⟩, ⟨by (with_reducible repeat (first | refine Qk ?_ _ | refine Qj ?_ | refine Qi ?_ _)); exact BK210.out⟩, ⟨by repeat (first | (with_reducible first | exact HB.out | apply Qd | apply Qf | apply Qe | refine Qg ?_ GE210.out) | exact HB.out)⟩⟩
                ·
                 rw [if_neg c20] at H
                 exact absurd H (by simp)
               ·
                rw [if_neg c19] at H
                exact absurd H (by simp)
              ·
               rw [if_neg c18] at H
               exact absurd H (by simp)
             ·
              rw [if_neg c17] at H
              exact absurd H (by simp)
            ·
             rw [if_neg c16] at H
             have c16b0 : decide (x6_3 < x5_2) = false := decide_eq_false c16
             clear c16
             have H' := Qa.mk H
             clear H
             go_wp2
             go_roundg k3
             case measure => have := HJ1.out; have := HK2.out; have := HK3.out; omega
             case rel => exact ⟨(wrap64 (x5_2 + 1)), (by first | rfl | (simp; done) | (simp [*]; done)), H', ⟨by have := HJ1.out; have := HK2.out; have := HK3.out; omega⟩, ⟨by (with_reducible repeat (first | refine Qk ?_ _ | refine Qj ?_ | refine Qi ?_ _)); exact BK210.out⟩, ⟨by repeat (first | (with_reducible first | exact HB.out | apply Qd | apply Qf | apply Qe | refine Qg ?_ GE210.out) | exact HB.out)⟩⟩
         ·
          replace c14 := Bool.eq_false_iff.mpr c14
          subst c14
          have H1 : (some ((⟨#[114, 117, 108, 101, 115]⟩ : ByteArray), 10, x5_2)) = some (r1, r2, r3) := by rw [if_neg (show ¬ (false = true) by decide)] at H; exact H
          clear H
          have H := H1
          clear H1
          simp only [Option.some.injEq, Prod.mk.injEq] at H
          obtain ⟨rfl, rfl, rfl⟩ := H
          have hcz24_0 : wr.cell? ⟨gb210, 0, none⟩ = some (.slice A0_0 l0_0.length c0_0) := (Qb BK210.out 0).trans rfl
          have hcz24_1 : wr.cell? ⟨gb210, 1, none⟩ = some (.slice A0_1 l0_1.length c0_1) := (Qb BK210.out 1).trans rfl
          have hfz24_0 := Qc BK210.out 0
          have hfz24_1 := Qc BK210.out 1
          have p211 : 0 ≤ (x5_2 : Int) := of_decide_eq_true (by first | (with_reducible assumption) | assumption)
          have q211 : x5_2 < (l0_0.length : Int) := of_decide_eq_true (by first | (with_reducible assumption) | assumption)
          obtain ⟨ad211, e211, hx211_0, hx211_1⟩ := at_T51 HR0_0.out x5_2 p211 q211
          cases e211
          replace hx211_0 := (HB.out.cell (World.block_lt_of_cell? w _ hx211_0)).trans hx211_0
          replace hx211_1 := (HB.out.cell (World.block_lt_of_cell? w _ hx211_1)).trans hx211_1
          replace p211 := eq_true p211
          replace q211 := eq_true q211
          go_wp2_with (first | ((with_reducible refine Qd1 (f := 36) rfl ?_); refine goesL_ (some 36) rfl rfl Try.func36 (by kernel_rfl) rfl #[.string ((rd_T51 l0_0 x5_2).f0)] rfl (by (try simp only [List.map_toArray, List.map_cons, List.map_nil]); first | done | rfl | (simp only [List.length_drop, List.length_take]; rfl)) ?_; (with_reducible refine (Qu1.calls k2 ((rd_T51 l0_0 x5_2).f0) false _ A13.out).mono ?_); rintro e w' ⟨rfl, ⟨nd, rfl⟩⟩; refine ⟨_, rfl, ?_⟩))
          go_ret3
          exact ⟨by first | rfl | (simp [Qr, Qq] <;> rfl) | (simp [*, Qr, Qq] <;> rfl), by repeat (first | (with_reducible first | exact HB.out | apply Qd | apply Qf | apply Qe | refine Qg ?_ GE210.out) | exact HB.out)⟩
        ·
         rw [if_neg c12] at H
         exact absurd H (by simp)
       ·
        rw [if_neg c11] at H
        have c11b0 : decide (x5_2 < (l0_0.length : Int)) = false := decide_eq_false c11
        clear c11
        have H' := Qa.mk H
        clear H
        have hcz25_0 : wr.cell? ⟨gb210, 0, none⟩ = some (.slice A0_0 l0_0.length c0_0) := (Qb BK210.out 0).trans rfl
        have hcz25_1 : wr.cell? ⟨gb210, 1, none⟩ = some (.slice A0_1 l0_1.length c0_1) := (Qb BK210.out 1).trans rfl
        have hfz25_0 := Qc BK210.out 0
        have hfz25_1 := Qc BK210.out 1
        go_wp2
        go_loopg [7] k2 (fun kq v7 w' => ∃ (x7_3 : Int), v7 = .int .i64 x7_3 ∧ Qa (Qz.l2 kq x7_3 l0_0 l0_1 = some (r1, r2, r3)) ∧ Qa (kq ≤ k2) ∧ Qa (w'.heap[gb210]? = some (.cells #[(.slice A0_0 l0_0.length c0_0), (.slice A0_1 l0_1.length c0_1)] 25 (0, 0))) ∧ Qa (Below w.heap.size w w'))
        case atStart => exact ⟨(0), (by first | rfl | (simp; done) | (simp [*]; done)), H', ⟨Nat.le_refl _⟩, ⟨by (with_reducible repeat (first | refine Qk ?_ _ | refine Qj ?_ | refine Qi ?_ _)); exact BK210.out⟩, ⟨by repeat (first | (with_reducible first | exact HB.out | apply Qd | apply Qf | apply Qe | refine Qg ?_ GE210.out) | exact HB.out)⟩⟩
        case round =>
         clear H'
         try clear c1
         try clear c2
         try clear p2
         try clear q2
         try clear hx2
         try clear c3
         try clear c4
         try clear c4b0
         try clear c4b1
         try clear p6
         try clear c7
         try clear c8
         try clear c8b0
         try clear c8b1
         try clear c8b2
         try clear c11
         try clear c11b0
         try clear c12
         try clear c12b0
         try clear c14
         try clear c16
         try clear c16b0
         try clear c17
         try clear c17b0
         try clear c18
         try clear c18b0
         try clear c19
         try clear c19b0
         try clear c20
         try clear c20b0
         try clear c21
         try clear c21b0
         try clear c21b1
         try clear p21
         try clear q21
         try clear hx21
         try clear hcz10_0
         try clear hcz10_1
         try clear hcz15_0
         try clear hcz15_1
         try clear hcz24_0
         try clear hcz24_1
         try clear hcz25_0
         try clear hcz25_1
         try clear hcz5_0
         try clear hcz5_1
         try clear hcz6_0
         try clear hcz6_1
         try clear hcz9_0
         try clear hcz9_1
         try clear hfz10_0
         try clear hfz10_1
         try clear hfz15_0
         try clear hfz15_1
         try clear hfz24_0
         try clear hfz24_1
         try clear hfz25_0
         try clear hfz25_1
         try clear hfz5_0
         try clear hfz5_1
         try clear hfz6_0
         try clear hfz6_1
         try clear hfz9_0
         try clear hfz9_1
         try clear hx211_0
         try clear hx211_1
         try clear hx213_0
         try clear hx213_1
         try clear hx214_0
         try clear hx214_1
         try clear p2
         try clear p211
         try clear p213
         try clear p214
         try clear q2
         try clear q211
         try clear q213
         try clear q214
         obtain ⟨x7_3, rfl, HA, HK3, BK210, HB⟩ := hrel
         cases gk with
         | zero => exact absurd HA.out (by simp [Qz.l2])
         | succ k3 =>
          have H := HA.out
          clear HA
          simp only [Qz.l2] at H
          by_cases c26 : x7_3 < (l0_1.length : Int)
          ·
           rw [if_pos c26] at H
           have c26b0 : decide (x7_3 < (l0_1.length : Int)) = true := decide_eq_true c26
           clear c26
           by_cases c27 : 0 ≤ x7_3
           ·
            rw [if_pos c27] at H
            have c27b0 : decide (0 ≤ x7_3) = true := decide_eq_true c27
            clear c27
            replace H := Option.bind_eq_some_iff.mp H
            obtain ⟨t216, A280, H⟩ := H
            replace H : (if t216 = true then (Qz.l2 k3 (wrap64 (x7_3 + 1)) l0_0 l0_1) else (some ((⟨#[110, 111, 100, 101, 115]⟩ : ByteArray), 10, x7_3))) = some (r1, r2, r3) := H
            have A28 := Qa.mk A280
            clear A280
            by_cases c29 : t216 = true
            ·
             subst c29
             have H1 : (Qz.l2 k3 (wrap64 (x7_3 + 1)) l0_0 l0_1) = some (r1, r2, r3) := by rw [if_pos rfl] at H; exact H
             clear H
             have H := H1
             clear H1
             have H' := Qa.mk H
             clear H
             have hcz30_0 : wr.cell? ⟨gb210, 0, none⟩ = some (.slice A0_0 l0_0.length c0_0) := (Qb BK210.out 0).trans rfl
             have hcz30_1 : wr.cell? ⟨gb210, 1, none⟩ = some (.slice A0_1 l0_1.length c0_1) := (Qb BK210.out 1).trans rfl
             have hfz30_0 := Qc BK210.out 0
             have hfz30_1 := Qc BK210.out 1
             try go_wp2
             have n0_ := Qa.mk (Qj BK210.out)
             have n1_ := Qa.mk (Qe HB.out)
             clear BK210
             clear HB
             have BK210 := n0_
             have HB := n1_
             clear n0_ n1_
             have p215 : 0 ≤ (x7_3 : Int) := of_decide_eq_true (by first | (with_reducible assumption) | assumption)
             have q215 : x7_3 < (l0_1.length : Int) := of_decide_eq_true (by first | (with_reducible assumption) | assumption)
             obtain ⟨ad215, A215_1, c215_1, e215, hx215_0, hx215_1, hx215_2, hx215_3, hx215_4, hx215_5, hx215_6, hl215_1, hi215_1⟩ := at_T56 HR0_1.out x7_3 p215 q215
             have hw215_6 := hx215_6
             have hw215_5 := hx215_5
             have hw215_4 := hx215_4
             have hw215_3 := hx215_3
             have hw215_2 := hx215_2
             have hw215_1 := hx215_1
             have hw215_0 := hx215_0
             cases e215
             replace hx215_0 := (HB.out.cell (World.block_lt_of_cell? w _ hx215_0)).trans hx215_0
             replace hx215_1 := (HB.out.cell (World.block_lt_of_cell? w _ hx215_1)).trans hx215_1
             replace hx215_2 := (HB.out.cell (World.block_lt_of_cell? w _ hx215_2)).trans hx215_2
             replace hx215_3 := (HB.out.cell (World.block_lt_of_cell? w _ hx215_3)).trans hx215_3
             replace hx215_4 := (HB.out.cell (World.block_lt_of_cell? w _ hx215_4)).trans hx215_4
             replace hx215_5 := (HB.out.cell (World.block_lt_of_cell? w _ hx215_5)).trans hx215_5
             replace hx215_6 := (HB.out.cell (World.block_lt_of_cell? w _ hx215_6)).trans hx215_6
             have HR215_1 := Qa.mk hi215_1
             have HC215_1 := Qa.mk hl215_1
             clear hi215_1 hl215_1
             replace p215 := eq_true p215
             replace q215 := eq_true q215
             refine start_ (n := 10) (S := fun w' => w'.cell? ⟨gb210, 0, none⟩ = some (.slice A0_0 l0_0.length c0_0) ∧ w'.cell? ⟨gb210, 1, none⟩ = some (.slice (some ad215) l0_1.length c0_1) ∧ w'.cell? (ad215.add ((x7_3).toNat * 7)) = some (.int .i64 ((Ql l0_1 x7_3).f0)) ∧ w'.cell? ⟨(ad215.add ((x7_3).toNat * 7)).block, (ad215.add ((x7_3).toNat * 7)).off + 1, none⟩ = some (.slice A215_1 ((Ql l0_1 x7_3).f1).length c215_1) ∧ w'.cell? ⟨(ad215.add ((x7_3).toNat * 7)).block, (ad215.add ((x7_3).toNat * 7)).off + 2, none⟩ = some (.int .i64 ((Ql l0_1 x7_3).f2)) ∧ w'.cell? ⟨(ad215.add ((x7_3).toNat * 7)).block, (ad215.add ((x7_3).toNat * 7)).off + 3, none⟩ = some (.int .u64 ((Ql l0_1 x7_3).f3.f0)) ∧ w'.cell? ⟨(ad215.add ((x7_3).toNat * 7)).block, (ad215.add ((x7_3).toNat * 7)).off + 4, none⟩ = some (.int .u64 ((Ql l0_1 x7_3).f3.f1)) ∧ w'.cell? ⟨(ad215.add ((x7_3).toNat * 7)).block, (ad215.add ((x7_3).toNat * 7)).off + 5, none⟩ = some (.int .u64 ((Ql l0_1 x7_3).f3.f2)) ∧ w'.cell? ⟨(ad215.add ((x7_3).toNat * 7)).block, (ad215.add ((x7_3).toNat * 7)).off + 6, none⟩ = some (.int .u64 ((Ql l0_1 x7_3).f3.f3))) (ds := []) #[false, false, false, false, false, false, false, false, false, false] (by kernel_rfl) rfl rfl ⟨(Qb BK210.out 0).trans rfl, (Qb BK210.out 1).trans rfl, ((HB.out.cell (World.block_lt_of_cell? w _ hw215_0)).trans hw215_0), ((HB.out.cell (World.block_lt_of_cell? w _ hw215_1)).trans hw215_1), ((HB.out.cell (World.block_lt_of_cell? w _ hw215_2)).trans hw215_2), ((HB.out.cell (World.block_lt_of_cell? w _ hw215_3)).trans hw215_3), ((HB.out.cell (World.block_lt_of_cell? w _ hw215_4)).trans hw215_4), ((HB.out.cell (World.block_lt_of_cell? w _ hw215_5)).trans hw215_5), ((HB.out.cell (World.block_lt_of_cell? w _ hw215_6)).trans hw215_6)⟩ (fun hHeld => ?_); refine with_tabW Qz.tab18 Qz.bits18 (fun HT_ HW_ => ?_)
             generalize wr.drew = w31 at BK210 HB HR215_1 hx215_0 hx215_1 hx215_2 hx215_3 hx215_4 hx215_5 hx215_6 hHeld ⊢
             refine pure_ (i := 0) (N := some 65) (v := ?_) (a' := ?_) #[true, false, false, false, false, false, false, false, false, false] rfl rfl (any_of HT_.out (by kernel_rfl)) (fun _ _ _ h => h) (Or.inl ⟨by rfl, ?_⟩) ?_ ?_
             rotate_left
             ·
              intro w'
              go_simp
              with_reducible rfl
             rotate_left
             ·
              simp only [Act.put, List.setIfInBounds_toArray, List.set_cons_zero, List.set_cons_succ, i64_w, i32_w]
              rfl
             refine pure_ (i := 2) (N := some 67) (v := ?_) (a' := ?_) #[true, false, true, false, false, false, false, false, false, false] rfl rfl (any_of HT_.out (by kernel_rfl)) (fun _ _ _ h => h) (Or.inl ⟨by rfl, ?_⟩) ?_ ?_
             rotate_left
             ·
              intro w'
              go_simp
              with_reducible rfl
             rotate_left
             ·
              simp only [Act.put, List.setIfInBounds_toArray, List.set_cons_zero, List.set_cons_succ, i64_w, i32_w]
              rfl
             refine pure_ (i := 5) (N := some 70) (v := ?_) (a' := ?_) #[true, false, true, false, false, true, false, false, false, false] rfl rfl (any_of HT_.out (by kernel_rfl)) (fun _ _ _ h => h) (Or.inl ⟨by rfl, ?_⟩) ?_ ?_
             rotate_left
             ·
              intro w'
              go_simp
              with_reducible rfl
             rotate_left
             ·
              simp only [Act.put, List.setIfInBounds_toArray, List.set_cons_zero, List.set_cons_succ, i64_w, i32_w]
              rfl
             refine take_ (i := 1) (N := some 66) (v := ?_) (a' := ?_) #[true, true, true, false, false, true, false, false, false, false] rfl rfl (take_ofW HT_.out HW_.out (by kernel_rfl)) (fun _ _ _ h => h) (Or.inl ⟨by rfl, ?_⟩) hHeld ?_ ?_
             rotate_left
             ·
              rintro w' ⟨s0, s1, s2, s3, s4, s5, s6, s7, s8⟩
              go_simp
              with_reducible rfl
             rotate_left
             ·
              simp only [Act.put, List.setIfInBounds_toArray, List.set_cons_zero, List.set_cons_succ, i64_w, i32_w]
              rfl
             refine pure_ (i := 3) (N := some 68) (v := ?_) (a' := ?_) #[true, true, true, true, false, true, false, false, false, false] rfl rfl (any_of HT_.out (by kernel_rfl)) (fun _ _ _ h => h) (Or.inl ⟨by rfl, ?_⟩) ?_ ?_
             rotate_left
             ·
              intro w'
              go_simp
              with_reducible rfl
             rotate_left
             ·
              simp only [Act.put, List.setIfInBounds_toArray, List.set_cons_zero, List.set_cons_succ, i64_w, i32_w]
              rfl
             refine take_ (i := 4) (N := some 69) (v := ?_) (a' := ?_) #[true, true, true, true, true, true, false, false, false, false] rfl rfl (take_ofW HT_.out HW_.out (by kernel_rfl)) (fun _ _ _ h => h) (Or.inl ⟨by rfl, ?_⟩) hHeld ?_ ?_
             rotate_left
             ·
              rintro w' ⟨s0, s1, s2, s3, s4, s5, s6, s7, s8⟩
              go_simp
              with_reducible rfl
             rotate_left
             ·
              simp only [Act.put, List.setIfInBounds_toArray, List.set_cons_zero, List.set_cons_succ, i64_w, i32_w]
              rfl
             refine take_ (i := 6) (N := some 71) (v := ?_) (a' := ?_) #[true, true, true, true, true, true, true, false, false, false] rfl rfl (take_ofW HT_.out HW_.out (by kernel_rfl)) (fun _ _ _ h => h) (Or.inl ⟨by rfl, ?_⟩) hHeld ?_ ?_
             rotate_left
             ·
              rintro w' ⟨s0, s1, s2, s3, s4, s5, s6, s7, s8⟩
              go_simp
              with_reducible rfl
             rotate_left
             ·
              simp only [Act.put, List.setIfInBounds_toArray, List.set_cons_zero, List.set_cons_succ, i64_w, i32_w]
              rfl
             refine pure_ (i := 7) (N := some 72) (v := ?_) (a' := ?_) #[true, true, true, true, true, true, true, true, false, false] rfl rfl (any_of HT_.out (by kernel_rfl)) (fun _ _ _ h => h) (Or.inl ⟨by rfl, ?_⟩) ?_ ?_
             rotate_left
             ·
              intro w'
              go_simp
              with_reducible rfl
             rotate_left
             ·
              simp only [Act.put, List.setIfInBounds_toArray, List.set_cons_zero, List.set_cons_succ, i64_w, i32_w]
              rfl
             refine one_ (i := 8) (N := some 73) #[true, true, true, true, true, true, true, true, true, false] rfl rfl (one_of HT_.out (by kernel_rfl)) (by decide) (fun K hK => ?_)
             refine goes_ Try.func37 (by kernel_rfl) rfl #[.agg #[.int .i64 ((Ql l0_1 x7_3).f0), .slice A215_1 ((Ql l0_1 x7_3).f1).length c215_1, .int .i64 ((Ql l0_1 x7_3).f2), .int .u64 ((Ql l0_1 x7_3).f3.f0), .int .u64 ((Ql l0_1 x7_3).f3.f1), .int .u64 ((Ql l0_1 x7_3).f3.f2), .int .u64 ((Ql l0_1 x7_3).f3.f3)], .int .i64 (l0_0.length : Int)] (by rfl) rfl rfl (by (try simp only [List.map_toArray, List.map_cons, List.map_nil]); first | done | rfl | (simp only [List.length_drop, List.length_take]; rfl)) ?_
             with_reducible refine (Qe1.calls k3 ((Ql l0_1 x7_3).f0) _ _ ((Ql l0_1 x7_3).f1) ((Ql l0_1 x7_3).f2) ((Ql l0_1 x7_3).f3.f0) ((Ql l0_1 x7_3).f3.f1) ((Ql l0_1 x7_3).f3.f2) ((Ql l0_1 x7_3).f3.f3) (l0_0.length : Int) true _ ?side1 ?side2 A28.out).mono ?_
             (case side1 => repeat (first | exact (Kd.Qn HR215_1.out HB.out) | (with_reducible refine Kd.Qw ?_ _) | (with_reducible refine Kd.Qy ?_ _) | (with_reducible refine Kd.Qx ?_)))
             (case side2 => exact HC215_1.out)
             rintro e w32 ⟨rfl, hb⟩
             refine ⟨_, rfl, ?_⟩
             have n0_ := Qa.mk (Qh (g := gb210) (o := .cells #[.slice A0_0 l0_0.length c0_0, .slice (some ad215) l0_1.length c0_1] 25 (0, 0)) (by (with_reducible repeat (first | refine Qk ?_ _ | refine Qj ?_ | refine Qi ?_ _)); exact BK210.out) hb)
             have n1_ := Qa.mk (Qm (by repeat (first | (with_reducible first | exact HB.out | apply Qd | apply Qf | apply Qe | refine Qg ?_ GE210.out) | exact HB.out)) hb)
             clear BK210
             clear HB
             have BK210 := n0_
             have HB := n1_
             clear n0_ n1_
             (try clear hb)
             (try clear hb2)
             (try clear hk)
             (try clear hi)
             refine hK.out _ _ ⟨(Qb BK210.out 0).trans rfl, (Qb BK210.out 1).trans rfl, ((HB.out.cell (World.block_lt_of_cell? w _ hw215_0)).trans hw215_0), ((HB.out.cell (World.block_lt_of_cell? w _ hw215_1)).trans hw215_1), ((HB.out.cell (World.block_lt_of_cell? w _ hw215_2)).trans hw215_2), ((HB.out.cell (World.block_lt_of_cell? w _ hw215_3)).trans hw215_3), ((HB.out.cell (World.block_lt_of_cell? w _ hw215_4)).trans hw215_4), ((HB.out.cell (World.block_lt_of_cell? w _ hw215_5)).trans hw215_5), ((HB.out.cell (World.block_lt_of_cell? w _ hw215_6)).trans hw215_6)⟩ (fun hHeld => ?_)
             clear hK K
             refine norm_ (a' := ?_) ?_ ?_
             rotate_left
             ·
              show Act.put _ (some 73) _ = _
              simp only [Act.put, List.setIfInBounds_toArray, List.set_cons_zero, List.set_cons_succ, i64_w, i32_w]
              rfl
             refine pure_ (i := 9) (N := some 74) (v := ?_) (a' := ?_) #[true, true, true, true, true, true, true, true, true, true] rfl rfl (any_of HT_.out (by kernel_rfl)) (fun _ _ _ h => h) (Or.inl ⟨by rfl, ?_⟩) ?_ ?_
             rotate_left
             ·
              intro w'
              go_simp
              with_reducible rfl
             rotate_left
             ·
              simp only [Act.put, List.setIfInBounds_toArray, List.set_cons_zero, List.set_cons_succ, i64_w, i32_w]
              rfl
             refine done_ (done_of HT_.out (by kernel_rfl)) ?_
             try go_wp2
             go_roundg k3
             case measure => have := HJ1.out; have := HK2.out; have := HK3.out; omega
             case rel => exact ⟨(wrap64 (x7_3 + 1)), (by first | rfl | (simp; done) | (simp [*]; done)), H', ⟨by have := HJ1.out; have := HK2.out; have := HK3.out; omega⟩, ⟨by (with_reducible repeat (first | refine Qk ?_ _ | refine Qj ?_ | refine Qi ?_ _)); exact BK210.out⟩, ⟨by repeat (first | (with_reducible first | exact HB.out | apply Qd | apply Qf | apply Qe | refine Qg ?_ GE210.out) | exact HB.out)⟩⟩
            ·
             replace c29 := Bool.eq_false_iff.mpr c29
             subst c29
             have H1 : (some ((⟨#[110, 111, 100, 101, 115]⟩ : ByteArray), 10, x7_3)) = some (r1, r2, r3) := by rw [if_neg (show ¬ (false = true) by decide)] at H; exact H
             clear H
             have H := H1
             clear H1
             simp only [Option.some.injEq, Prod.mk.injEq] at H
             obtain ⟨rfl, rfl, rfl⟩ := H
             have hcz33_0 : wr.cell? ⟨gb210, 0, none⟩ = some (.slice A0_0 l0_0.length c0_0) := (Qb BK210.out 0).trans rfl
             have hcz33_1 : wr.cell? ⟨gb210, 1, none⟩ = some (.slice A0_1 l0_1.length c0_1) := (Qb BK210.out 1).trans rfl
             have hfz33_0 := Qc BK210.out 0
             have hfz33_1 := Qc BK210.out 1
             try go_wp2
             have n0_ := Qa.mk (Qj BK210.out)
             have n1_ := Qa.mk (Qe HB.out)
             clear BK210
             clear HB
             have BK210 := n0_
             have HB := n1_
             clear n0_ n1_
             have p215 : 0 ≤ (x7_3 : Int) := of_decide_eq_true (by first | (with_reducible assumption) | assumption)
             have q215 : x7_3 < (l0_1.length : Int) := of_decide_eq_true (by first | (with_reducible assumption) | assumption)
             obtain ⟨ad215, A215_1, c215_1, e215, hx215_0, hx215_1, hx215_2, hx215_3, hx215_4, hx215_5, hx215_6, hl215_1, hi215_1⟩ := at_T56 HR0_1.out x7_3 p215 q215
             have hw215_6 := hx215_6
             have hw215_5 := hx215_5
             have hw215_4 := hx215_4
             have hw215_3 := hx215_3
             have hw215_2 := hx215_2
             have hw215_1 := hx215_1
             have hw215_0 := hx215_0
             cases e215
             replace hx215_0 := (HB.out.cell (World.block_lt_of_cell? w _ hx215_0)).trans hx215_0
             replace hx215_1 := (HB.out.cell (World.block_lt_of_cell? w _ hx215_1)).trans hx215_1
             replace hx215_2 := (HB.out.cell (World.block_lt_of_cell? w _ hx215_2)).trans hx215_2
             replace hx215_3 := (HB.out.cell (World.block_lt_of_cell? w _ hx215_3)).trans hx215_3
             replace hx215_4 := (HB.out.cell (World.block_lt_of_cell? w _ hx215_4)).trans hx215_4
             replace hx215_5 := (HB.out.cell (World.block_lt_of_cell? w _ hx215_5)).trans hx215_5
             replace hx215_6 := (HB.out.cell (World.block_lt_of_cell? w _ hx215_6)).trans hx215_6
             have HR215_1 := Qa.mk hi215_1
             have HC215_1 := Qa.mk hl215_1
             clear hi215_1 hl215_1
             replace p215 := eq_true p215
             replace q215 := eq_true q215
             refine start_ (n := 10) (S := fun w' => w'.cell? ⟨gb210, 0, none⟩ = some (.slice A0_0 l0_0.length c0_0) ∧ w'.cell? ⟨gb210, 1, none⟩ = some (.slice (some ad215) l0_1.length c0_1) ∧ w'.cell? (ad215.add ((x7_3).toNat * 7)) = some (.int .i64 ((Ql l0_1 x7_3).f0)) ∧ w'.cell? ⟨(ad215.add ((x7_3).toNat * 7)).block, (ad215.add ((x7_3).toNat * 7)).off + 1, none⟩ = some (.slice A215_1 ((Ql l0_1 x7_3).f1).length c215_1) ∧ w'.cell? ⟨(ad215.add ((x7_3).toNat * 7)).block, (ad215.add ((x7_3).toNat * 7)).off + 2, none⟩ = some (.int .i64 ((Ql l0_1 x7_3).f2)) ∧ w'.cell? ⟨(ad215.add ((x7_3).toNat * 7)).block, (ad215.add ((x7_3).toNat * 7)).off + 3, none⟩ = some (.int .u64 ((Ql l0_1 x7_3).f3.f0)) ∧ w'.cell? ⟨(ad215.add ((x7_3).toNat * 7)).block, (ad215.add ((x7_3).toNat * 7)).off + 4, none⟩ = some (.int .u64 ((Ql l0_1 x7_3).f3.f1)) ∧ w'.cell? ⟨(ad215.add ((x7_3).toNat * 7)).block, (ad215.add ((x7_3).toNat * 7)).off + 5, none⟩ = some (.int .u64 ((Ql l0_1 x7_3).f3.f2)) ∧ w'.cell? ⟨(ad215.add ((x7_3).toNat * 7)).block, (ad215.add ((x7_3).toNat * 7)).off + 6, none⟩ = some (.int .u64 ((Ql l0_1 x7_3).f3.f3))) (ds := []) #[false, false, false, false, false, false, false, false, false, false] (by kernel_rfl) rfl rfl ⟨(Qb BK210.out 0).trans rfl, (Qb BK210.out 1).trans rfl, ((HB.out.cell (World.block_lt_of_cell? w _ hw215_0)).trans hw215_0), ((HB.out.cell (World.block_lt_of_cell? w _ hw215_1)).trans hw215_1), ((HB.out.cell (World.block_lt_of_cell? w _ hw215_2)).trans hw215_2), ((HB.out.cell (World.block_lt_of_cell? w _ hw215_3)).trans hw215_3), ((HB.out.cell (World.block_lt_of_cell? w _ hw215_4)).trans hw215_4), ((HB.out.cell (World.block_lt_of_cell? w _ hw215_5)).trans hw215_5), ((HB.out.cell (World.block_lt_of_cell? w _ hw215_6)).trans hw215_6)⟩ (fun hHeld => ?_); refine with_tabW Qz.tab18 Qz.bits18 (fun HT_ HW_ => ?_)
             generalize wr.drew = w34 at BK210 HB HR215_1 hx215_0 hx215_1 hx215_2 hx215_3 hx215_4 hx215_5 hx215_6 hHeld ⊢
             refine pure_ (i := 0) (N := some 65) (v := ?_) (a' := ?_) #[true, false, false, false, false, false, false, false, false, false] rfl rfl (any_of HT_.out (by kernel_rfl)) (fun _ _ _ h => h) (Or.inl ⟨by rfl, ?_⟩) ?_ ?_
             rotate_left
             ·
              intro w'
              go_simp
              with_reducible rfl
             rotate_left
             ·
              simp only [Act.put, List.setIfInBounds_toArray, List.set_cons_zero, List.set_cons_succ, i64_w, i32_w]
              rfl
             refine pure_ (i := 2) (N := some 67) (v := ?_) (a' := ?_) #[true, false, true, false, false, false, false, false, false, false] rfl rfl (any_of HT_.out (by kernel_rfl)) (fun _ _ _ h => h) (Or.inl ⟨by rfl, ?_⟩) ?_ ?_
             rotate_left
             ·
              intro w'
              go_simp
              with_reducible rfl
             rotate_left
             ·
              simp only [Act.put, List.setIfInBounds_toArray, List.set_cons_zero, List.set_cons_succ, i64_w, i32_w]
              rfl
             refine pure_ (i := 5) (N := some 70) (v := ?_) (a' := ?_) #[true, false, true, false, false, true, false, false, false, false] rfl rfl (any_of HT_.out (by kernel_rfl)) (fun _ _ _ h => h) (Or.inl ⟨by rfl, ?_⟩) ?_ ?_
             rotate_left
             ·
              intro w'
              go_simp
              with_reducible rfl
             rotate_left
             ·
              simp only [Act.put, List.setIfInBounds_toArray, List.set_cons_zero, List.set_cons_succ, i64_w, i32_w]
              rfl
             refine take_ (i := 1) (N := some 66) (v := ?_) (a' := ?_) #[true, true, true, false, false, true, false, false, false, false] rfl rfl (take_ofW HT_.out HW_.out (by kernel_rfl)) (fun _ _ _ h => h) (Or.inl ⟨by rfl, ?_⟩) hHeld ?_ ?_
             rotate_left
             ·
              rintro w' ⟨s0, s1, s2, s3, s4, s5, s6, s7, s8⟩
              go_simp
              with_reducible rfl
             rotate_left
             ·
              simp only [Act.put, List.setIfInBounds_toArray, List.set_cons_zero, List.set_cons_succ, i64_w, i32_w]
              rfl
             refine pure_ (i := 3) (N := some 68) (v := ?_) (a' := ?_) #[true, true, true, true, false, true, false, false, false, false] rfl rfl (any_of HT_.out (by kernel_rfl)) (fun _ _ _ h => h) (Or.inl ⟨by rfl, ?_⟩) ?_ ?_
             rotate_left
             ·
              intro w'
              go_simp
              with_reducible rfl
             rotate_left
             ·
              simp only [Act.put, List.setIfInBounds_toArray, List.set_cons_zero, List.set_cons_succ, i64_w, i32_w]
              rfl
             refine take_ (i := 4) (N := some 69) (v := ?_) (a' := ?_) #[true, true, true, true, true, true, false, false, false, false] rfl rfl (take_ofW HT_.out HW_.out (by kernel_rfl)) (fun _ _ _ h => h) (Or.inl ⟨by rfl, ?_⟩) hHeld ?_ ?_
             rotate_left
             ·
              rintro w' ⟨s0, s1, s2, s3, s4, s5, s6, s7, s8⟩
              go_simp
              with_reducible rfl
             rotate_left
             ·
              simp only [Act.put, List.setIfInBounds_toArray, List.set_cons_zero, List.set_cons_succ, i64_w, i32_w]
              rfl
             refine take_ (i := 6) (N := some 71) (v := ?_) (a' := ?_) #[true, true, true, true, true, true, true, false, false, false] rfl rfl (take_ofW HT_.out HW_.out (by kernel_rfl)) (fun _ _ _ h => h) (Or.inl ⟨by rfl, ?_⟩) hHeld ?_ ?_
             rotate_left
             ·
              rintro w' ⟨s0, s1, s2, s3, s4, s5, s6, s7, s8⟩
              go_simp
              with_reducible rfl
             rotate_left
             ·
              simp only [Act.put, List.setIfInBounds_toArray, List.set_cons_zero, List.set_cons_succ, i64_w, i32_w]
              rfl
             refine pure_ (i := 7) (N := some 72) (v := ?_) (a' := ?_) #[true, true, true, true, true, true, true, true, false, false] rfl rfl (any_of HT_.out (by kernel_rfl)) (fun _ _ _ h => h) (Or.inl ⟨by rfl, ?_⟩) ?_ ?_
             rotate_left
             ·
              intro w'
              go_simp
              with_reducible rfl
             rotate_left
             ·
              simp only [Act.put, List.setIfInBounds_toArray, List.set_cons_zero, List.set_cons_succ, i64_w, i32_w]
              rfl
             refine one_ (i := 8) (N := some 73) #[true, true, true, true, true, true, true, true, true, false] rfl rfl (one_of HT_.out (by kernel_rfl)) (by decide) (fun K hK => ?_)
             refine goes_ Try.func37 (by kernel_rfl) rfl #[.agg #[.int .i64 ((Ql l0_1 x7_3).f0), .slice A215_1 ((Ql l0_1 x7_3).f1).length c215_1, .int .i64 ((Ql l0_1 x7_3).f2), .int .u64 ((Ql l0_1 x7_3).f3.f0), .int .u64 ((Ql l0_1 x7_3).f3.f1), .int .u64 ((Ql l0_1 x7_3).f3.f2), .int .u64 ((Ql l0_1 x7_3).f3.f3)], .int .i64 (l0_0.length : Int)] (by rfl) rfl rfl (by (try simp only [List.map_toArray, List.map_cons, List.map_nil]); first | done | rfl | (simp only [List.length_drop, List.length_take]; rfl)) ?_
             with_reducible refine (Qe1.calls k3 ((Ql l0_1 x7_3).f0) _ _ ((Ql l0_1 x7_3).f1) ((Ql l0_1 x7_3).f2) ((Ql l0_1 x7_3).f3.f0) ((Ql l0_1 x7_3).f3.f1) ((Ql l0_1 x7_3).f3.f2) ((Ql l0_1 x7_3).f3.f3) (l0_0.length : Int) false _ ?side1 ?side2 A28.out).mono ?_
             (case side1 => repeat (first | exact (Kd.Qn HR215_1.out HB.out) | (with_reducible refine Kd.Qw ?_ _) | (with_reducible refine Kd.Qy ?_ _) | (with_reducible refine Kd.Qx ?_)))
             (case side2 => exact HC215_1.out)
             rintro e w35 ⟨rfl, hb⟩
             refine ⟨_, rfl, ?_⟩
             have n0_ := Qa.mk (Qh (g := gb210) (o := .cells #[.slice A0_0 l0_0.length c0_0, .slice (some ad215) l0_1.length c0_1] 25 (0, 0)) (by (with_reducible repeat (first | refine Qk ?_ _ | refine Qj ?_ | refine Qi ?_ _)); exact BK210.out) hb)
             have n1_ := Qa.mk (Qm (by repeat (first | (with_reducible first | exact HB.out | apply Qd | apply Qf | apply Qe | refine Qg ?_ GE210.out) | exact HB.out)) hb)
             clear BK210
             clear HB
             have BK210 := n0_
             have HB := n1_
             clear n0_ n1_
             (try clear hb)
             (try clear hb2)
             (try clear hk)
             (try clear hi)
             refine hK.out _ _ ⟨(Qb BK210.out 0).trans rfl, (Qb BK210.out 1).trans rfl, ((HB.out.cell (World.block_lt_of_cell? w _ hw215_0)).trans hw215_0), ((HB.out.cell (World.block_lt_of_cell? w _ hw215_1)).trans hw215_1), ((HB.out.cell (World.block_lt_of_cell? w _ hw215_2)).trans hw215_2), ((HB.out.cell (World.block_lt_of_cell? w _ hw215_3)).trans hw215_3), ((HB.out.cell (World.block_lt_of_cell? w _ hw215_4)).trans hw215_4), ((HB.out.cell (World.block_lt_of_cell? w _ hw215_5)).trans hw215_5), ((HB.out.cell (World.block_lt_of_cell? w _ hw215_6)).trans hw215_6)⟩ (fun hHeld => ?_)
             clear hK K
             refine norm_ (a' := ?_) ?_ ?_
             rotate_left
             ·
              show Act.put _ (some 73) _ = _
              simp only [Act.put, List.setIfInBounds_toArray, List.set_cons_zero, List.set_cons_succ, i64_w, i32_w]
              rfl
             refine pure_ (i := 9) (N := some 74) (v := ?_) (a' := ?_) #[true, true, true, true, true, true, true, true, true, true] rfl rfl (any_of HT_.out (by kernel_rfl)) (fun _ _ _ h => h) (Or.inl ⟨by rfl, ?_⟩) ?_ ?_
             rotate_left
             ·
              intro w'
              go_simp
              with_reducible rfl
             rotate_left
             ·
              simp only [Act.put, List.setIfInBounds_toArray, List.set_cons_zero, List.set_cons_succ, i64_w, i32_w]
              rfl
             refine done_ (done_of HT_.out (by kernel_rfl)) ?_
             try go_wp2
             go_ret3
             exact ⟨by first | rfl | (simp [Qr, Qq] <;> rfl) | (simp [*, Qr, Qq] <;> rfl), by repeat (first | (with_reducible first | exact HB.out | apply Qd | apply Qf | apply Qe | refine Qg ?_ GE210.out) | exact HB.out)⟩
           ·
            rw [if_neg c27] at H
            exact absurd H (by simp)
          ·
           rw [if_neg c26] at H
           have c26b0 : decide (x7_3 < (l0_1.length : Int)) = false := decide_eq_false c26
           clear c26
           replace H := Option.bind_eq_some_iff.mp H
           obtain ⟨t217, A360, H⟩ := H
           replace H : (if t217 = true then (Qz.l3 k3 0 l0_0 l0_1) else (some ((⟨#[]⟩ : ByteArray), 10, 0))) = some (r1, r2, r3) := H
           have A36 := Qa.mk A360
           clear A360
           by_cases c37 : t217 = true
           ·
            subst c37
            have H1 : (Qz.l3 k3 0 l0_0 l0_1) = some (r1, r2, r3) := by rw [if_pos rfl] at H; exact H
            clear H
            have H := H1
            clear H1
            have H' := Qa.mk H
            clear H
            have hcz38_0 : wr.cell? ⟨gb210, 0, none⟩ = some (.slice A0_0 l0_0.length c0_0) := (Qb BK210.out 0).trans rfl
            have hcz38_1 : wr.cell? ⟨gb210, 1, none⟩ = some (.slice A0_1 l0_1.length c0_1) := (Qb BK210.out 1).trans rfl
            have hfz38_0 := Qc BK210.out 0
            have hfz38_1 := Qc BK210.out 1
            go_wp2_with (first | ((with_reducible refine Qd1 (f := 38) rfl ?_); refine goesL_ (some 77) rfl rfl Try.func38 (by kernel_rfl) rfl #[.agg #[.slice A0_0 l0_0.length c0_0, .slice A0_1 l0_1.length c0_1]] rfl (by (try simp only [List.map_toArray, List.map_cons, List.map_nil]); first | done | rfl | (simp only [List.length_drop, List.length_take]; rfl)) ?_; (with_reducible refine (Qs1.calls k3 _ _ l0_0 _ _ l0_1 true _ ?side1 ?side2 ?side3 ?side4 A36.out).mono ?_); (case side1 => repeat (first | exact (Kd.Qn HR0_0.out HB.out) | (with_reducible refine Kd.Qw ?_ _) | (with_reducible refine Kd.Qy ?_ _) | (with_reducible refine Kd.Qx ?_))); (case side2 => exact HC0_0.out); (case side3 => repeat (first | exact (Kd.Qn HR0_1.out HB.out) | (with_reducible refine Kd.Qw ?_ _) | (with_reducible refine Kd.Qy ?_ _) | (with_reducible refine Kd.Qx ?_))); (case side4 => exact HC0_1.out); rintro e w39 ⟨rfl, hb⟩; refine ⟨_, rfl, ?_⟩; have n0_ := Qa.mk (Qh (g := gb210) (o := .cells #[.slice A0_0 l0_0.length c0_0, .slice A0_1 l0_1.length c0_1] 25 (0, 0)) (by (with_reducible repeat (first | refine Qk ?_ _ | refine Qj ?_ | refine Qi ?_ _)); exact BK210.out) hb); have n1_ := Qa.mk (Qm (by repeat (first | (with_reducible first | exact HB.out | apply Qd | apply Qf | apply Qe | refine Qg ?_ GE210.out) | exact HB.out)) hb); clear BK210; clear HB; have BK210 := n0_; have HB := n1_; clear n0_ n1_; (try clear hb); (try clear hb2); (try clear hk); (try clear hi)))
            go_loopg [8] k3 (fun kq v8 w' => ∃ (x8_4 : Int), v8 = .int .i64 x8_4 ∧ Qa (Qz.l3 kq x8_4 l0_0 l0_1 = some (r1, r2, r3)) ∧ Qa (kq ≤ k3) ∧ Qa (w'.heap[gb210]? = some (.cells #[(.slice A0_0 l0_0.length c0_0), (.slice A0_1 l0_1.length c0_1)] 25 (0, 0))) ∧ Qa (Below w.heap.size w w'))
            case atStart => exact ⟨(0), (by first | rfl | (simp; done) | (simp [*]; done)), H', ⟨Nat.le_refl _⟩, ⟨by (with_reducible repeat (first | refine Qk ?_ _ | refine Qj ?_ | refine Qi ?_ _)); exact BK210.out⟩, ⟨by repeat (first | (with_reducible first | exact HB.out | apply Qd | apply Qf | apply Qe | refine Qg ?_ GE210.out) | exact HB.out)⟩⟩
            case round =>
             clear H'
             try clear c1
             try clear c2
             try clear p2
             try clear q2
             try clear hx2
             try clear c3
             try clear c4
             try clear c4b0
             try clear c4b1
             try clear p6
             try clear c7
             try clear c8
             try clear c8b0
             try clear c8b1
             try clear c8b2
             try clear c11
             try clear c11b0
             try clear c12
             try clear c12b0
             try clear c14
             try clear c16
             try clear c16b0
             try clear c17
             try clear c17b0
             try clear c18
             try clear c18b0
             try clear c19
             try clear c19b0
             try clear c20
             try clear c20b0
             try clear c21
             try clear c21b0
             try clear c21b1
             try clear p21
             try clear q21
             try clear hx21
             try clear c26
             try clear c26b0
             try clear c27
             try clear c27b0
             try clear c29
             try clear c36
             try clear c37
             try clear c38
             try clear hcz10_0
             try clear hcz10_1
             try clear hcz15_0
             try clear hcz15_1
             try clear hcz24_0
             try clear hcz24_1
             try clear hcz25_0
             try clear hcz25_1
             try clear hcz30_0
             try clear hcz30_1
             try clear hcz33_0
             try clear hcz33_1
             try clear hcz38_0
             try clear hcz38_1
             try clear hcz5_0
             try clear hcz5_1
             try clear hcz6_0
             try clear hcz6_1
             try clear hcz9_0
             try clear hcz9_1
             try clear hfz10_0
             try clear hfz10_1
             try clear hfz15_0
             try clear hfz15_1
             try clear hfz24_0
             try clear hfz24_1
             try clear hfz25_0
             try clear hfz25_1
             try clear hfz30_0
             try clear hfz30_1
             try clear hfz33_0
             try clear hfz33_1
             try clear hfz38_0
             try clear hfz38_1
             try clear hfz5_0
             try clear hfz5_1
             try clear hfz6_0
             try clear hfz6_1
             try clear hfz9_0
             try clear hfz9_1
             try clear hx211_0
             try clear hx211_1
             try clear hx213_0
             try clear hx213_1
             try clear hx214_0
             try clear hx214_1
             try clear hx215_0
             try clear hx215_1
             try clear hx215_2
             try clear hx215_3
             try clear hx215_4
             try clear hx215_5
             try clear hx215_6
             try clear p2
             try clear p21
             try clear p211
             try clear p213
             try clear p214
             try clear p215
             try clear p6
             try clear q2
             try clear q21
             try clear q211
             try clear q213
             try clear q214
             try clear q215
             obtain ⟨x8_4, rfl, HA, HK4, BK210, HB⟩ := hrel
             cases gk with
             | zero => exact absurd HA.out (by simp [Qz.l3])
             | succ k4 =>
              have H := HA.out
              clear HA
              simp only [Qz.l3] at H
              by_cases c40 : x8_4 < (l0_1.length : Int)
              ·
               rw [if_pos c40] at H
               have c40b0 : decide (x8_4 < (l0_1.length : Int)) = true := decide_eq_true c40
               clear c40
               replace H := Option.bind_eq_some_iff.mp H
               obtain ⟨t218, A410, H⟩ := H
               replace H : (if t218 > 200 then (some ((⟨#[110, 111, 100, 101, 115]⟩ : ByteArray), 5, x8_4)) else (Qz.l3 k4 (wrap64 (x8_4 + 1)) l0_0 l0_1)) = some (r1, r2, r3) := H
               have A41 := Qa.mk A410
               clear A410
               by_cases c42 : t218 > 200
               ·
                rw [if_pos c42] at H
                have c42b0 : decide (200 < t218) = true := decide_eq_true c42
                clear c42
                simp only [Option.some.injEq, Prod.mk.injEq] at H
                obtain ⟨rfl, rfl, rfl⟩ := H
                have hcz43_0 : wr.cell? ⟨gb210, 0, none⟩ = some (.slice A0_0 l0_0.length c0_0) := (Qb BK210.out 0).trans rfl
                have hcz43_1 : wr.cell? ⟨gb210, 1, none⟩ = some (.slice A0_1 l0_1.length c0_1) := (Qb BK210.out 1).trans rfl
                have hfz43_0 := Qc BK210.out 0
                have hfz43_1 := Qc BK210.out 1
                go_wp2_with (first | ((with_reducible refine Qd1 (f := 39) rfl ?_); refine goesL_ (some 88) rfl rfl Try.func39 (by kernel_rfl) rfl #[.agg #[.slice A0_0 l0_0.length c0_0, .slice A0_1 l0_1.length c0_1], .int .i64 x8_4, .int .i64 205] rfl (by (try simp only [List.map_toArray, List.map_cons, List.map_nil]); first | done | rfl | (simp only [List.length_drop, List.length_take]; rfl)) ?_; (with_reducible refine (Qj1.calls k4 _ _ l0_0 _ _ l0_1 x8_4 205 t218 _ ?side1 ?side2 ?side3 ?side4 A41.out).mono ?_); (case side1 => repeat (first | exact (Kd.Qn HR0_0.out HB.out) | (with_reducible refine Kd.Qw ?_ _) | (with_reducible refine Kd.Qy ?_ _) | (with_reducible refine Kd.Qx ?_))); (case side2 => exact HC0_0.out); (case side3 => repeat (first | exact (Kd.Qn HR0_1.out HB.out) | (with_reducible refine Kd.Qw ?_ _) | (with_reducible refine Kd.Qy ?_ _) | (with_reducible refine Kd.Qx ?_))); (case side4 => exact HC0_1.out); rintro e w44 ⟨rfl, hb⟩; refine ⟨_, rfl, ?_⟩; have n0_ := Qa.mk (Qh (g := gb210) (o := .cells #[.slice A0_0 l0_0.length c0_0, .slice A0_1 l0_1.length c0_1] 25 (0, 0)) (by (with_reducible repeat (first | refine Qk ?_ _ | refine Qj ?_ | refine Qi ?_ _)); exact BK210.out) hb); have n1_ := Qa.mk (Qm (by repeat (first | (with_reducible first | exact HB.out | apply Qd | apply Qf | apply Qe | refine Qg ?_ GE210.out) | exact HB.out)) hb); clear BK210; clear HB; have BK210 := n0_; have HB := n1_; clear n0_ n1_; (try clear hb); (try clear hb2); (try clear hk); (try clear hi)))
                go_ret3
                exact ⟨by first | rfl | (simp [Qr, Qq] <;> rfl) | (simp [*, Qr, Qq] <;> rfl), by repeat (first | (with_reducible first | exact HB.out | apply Qd | apply Qf | apply Qe | refine Qg ?_ GE210.out) | exact HB.out)⟩
               ·
                rw [if_neg c42] at H
                have c42b0 : decide (200 < t218) = false := decide_eq_false c42
                clear c42
                have H' := Qa.mk H
                clear H
                have hcz45_0 : wr.cell? ⟨gb210, 0, none⟩ = some (.slice A0_0 l0_0.length c0_0) := (Qb BK210.out 0).trans rfl
                have hcz45_1 : wr.cell? ⟨gb210, 1, none⟩ = some (.slice A0_1 l0_1.length c0_1) := (Qb BK210.out 1).trans rfl
                have hfz45_0 := Qc BK210.out 0
                have hfz45_1 := Qc BK210.out 1
                go_wp2_with (first | ((with_reducible refine Qd1 (f := 39) rfl ?_); refine goesL_ (some 88) rfl rfl Try.func39 (by kernel_rfl) rfl #[.agg #[.slice A0_0 l0_0.length c0_0, .slice A0_1 l0_1.length c0_1], .int .i64 x8_4, .int .i64 205] rfl (by (try simp only [List.map_toArray, List.map_cons, List.map_nil]); first | done | rfl | (simp only [List.length_drop, List.length_take]; rfl)) ?_; (with_reducible refine (Qj1.calls k4 _ _ l0_0 _ _ l0_1 x8_4 205 t218 _ ?side1 ?side2 ?side3 ?side4 A41.out).mono ?_); (case side1 => repeat (first | exact (Kd.Qn HR0_0.out HB.out) | (with_reducible refine Kd.Qw ?_ _) | (with_reducible refine Kd.Qy ?_ _) | (with_reducible refine Kd.Qx ?_))); (case side2 => exact HC0_0.out); (case side3 => repeat (first | exact (Kd.Qn HR0_1.out HB.out) | (with_reducible refine Kd.Qw ?_ _) | (with_reducible refine Kd.Qy ?_ _) | (with_reducible refine Kd.Qx ?_))); (case side4 => exact HC0_1.out); rintro e w46 ⟨rfl, hb⟩; refine ⟨_, rfl, ?_⟩; have n0_ := Qa.mk (Qh (g := gb210) (o := .cells #[.slice A0_0 l0_0.length c0_0, .slice A0_1 l0_1.length c0_1] 25 (0, 0)) (by (with_reducible repeat (first | refine Qk ?_ _ | refine Qj ?_ | refine Qi ?_ _)); exact BK210.out) hb); have n1_ := Qa.mk (Qm (by repeat (first | (with_reducible first | exact HB.out | apply Qd | apply Qf | apply Qe | refine Qg ?_ GE210.out) | exact HB.out)) hb); clear BK210; clear HB; have BK210 := n0_; have HB := n1_; clear n0_ n1_; (try clear hb); (try clear hb2); (try clear hk); (try clear hi)))
                go_roundg k4
                case measure => have := HJ1.out; have := HK2.out; have := HK3.out; have := HK4.out; omega
                case rel => exact ⟨(wrap64 (x8_4 + 1)), (by first | rfl | (simp; done) | (simp [*]; done)), H', ⟨by have := HJ1.out; have := HK2.out; have := HK3.out; have := HK4.out; omega⟩, ⟨by (with_reducible repeat (first | refine Qk ?_ _ | refine Qj ?_ | refine Qi ?_ _)); exact BK210.out⟩, ⟨by repeat (first | (with_reducible first | exact HB.out | apply Qd | apply Qf | apply Qe | refine Qg ?_ GE210.out) | exact HB.out)⟩⟩
              ·
               rw [if_neg c40] at H
               have c40b0 : decide (x8_4 < (l0_1.length : Int)) = false := decide_eq_false c40
               clear c40
               simp only [Option.some.injEq, Prod.mk.injEq] at H
               obtain ⟨rfl, rfl, rfl⟩ := H
               have hcz47_0 : wr.cell? ⟨gb210, 0, none⟩ = some (.slice A0_0 l0_0.length c0_0) := (Qb BK210.out 0).trans rfl
               have hcz47_1 : wr.cell? ⟨gb210, 1, none⟩ = some (.slice A0_1 l0_1.length c0_1) := (Qb BK210.out 1).trans rfl
               have hfz47_0 := Qc BK210.out 0
               have hfz47_1 := Qc BK210.out 1
               go_wp2
               go_ret3
               exact ⟨by first | rfl | (simp [Qr, Qq] <;> rfl) | (simp [*, Qr, Qq] <;> rfl), by repeat (first | (with_reducible first | exact HB.out | apply Qd | apply Qf | apply Qe | refine Qg ?_ GE210.out) | exact HB.out)⟩
           ·
            replace c37 := Bool.eq_false_iff.mpr c37
            subst c37
            have H1 : (some ((⟨#[]⟩ : ByteArray), 10, 0)) = some (r1, r2, r3) := by rw [if_neg (show ¬ (false = true) by decide)] at H; exact H
            clear H
            have H := H1
            clear H1
            simp only [Option.some.injEq, Prod.mk.injEq] at H
            obtain ⟨rfl, rfl, rfl⟩ := H
            have hcz48_0 : wr.cell? ⟨gb210, 0, none⟩ = some (.slice A0_0 l0_0.length c0_0) := (Qb BK210.out 0).trans rfl
            have hcz48_1 : wr.cell? ⟨gb210, 1, none⟩ = some (.slice A0_1 l0_1.length c0_1) := (Qb BK210.out 1).trans rfl
            have hfz48_0 := Qc BK210.out 0
            have hfz48_1 := Qc BK210.out 1
            go_wp2_with (first | ((with_reducible refine Qd1 (f := 38) rfl ?_); refine goesL_ (some 77) rfl rfl Try.func38 (by kernel_rfl) rfl #[.agg #[.slice A0_0 l0_0.length c0_0, .slice A0_1 l0_1.length c0_1]] rfl (by (try simp only [List.map_toArray, List.map_cons, List.map_nil]); first | done | rfl | (simp only [List.length_drop, List.length_take]; rfl)) ?_; (with_reducible refine (Qs1.calls k3 _ _ l0_0 _ _ l0_1 false _ ?side1 ?side2 ?side3 ?side4 A36.out).mono ?_); (case side1 => repeat (first | exact (Kd.Qn HR0_0.out HB.out) | (with_reducible refine Kd.Qw ?_ _) | (with_reducible refine Kd.Qy ?_ _) | (with_reducible refine Kd.Qx ?_))); (case side2 => exact HC0_0.out); (case side3 => repeat (first | exact (Kd.Qn HR0_1.out HB.out) | (with_reducible refine Kd.Qw ?_ _) | (with_reducible refine Kd.Qy ?_ _) | (with_reducible refine Kd.Qx ?_))); (case side4 => exact HC0_1.out); rintro e w49 ⟨rfl, hb⟩; refine ⟨_, rfl, ?_⟩; have n0_ := Qa.mk (Qh (g := gb210) (o := .cells #[.slice A0_0 l0_0.length c0_0, .slice A0_1 l0_1.length c0_1] 25 (0, 0)) (by (with_reducible repeat (first | refine Qk ?_ _ | refine Qj ?_ | refine Qi ?_ _)); exact BK210.out) hb); have n1_ := Qa.mk (Qm (by repeat (first | (with_reducible first | exact HB.out | apply Qd | apply Qf | apply Qe | refine Qg ?_ GE210.out) | exact HB.out)) hb); clear BK210; clear HB; have BK210 := n0_; have HB := n1_; clear n0_ n1_; (try clear hb); (try clear hb2); (try clear hk); (try clear hi)))
            go_ret3
            exact ⟨by first | rfl | (simp [Qr, Qq] <;> rfl) | (simp [*, Qr, Qq] <;> rfl), by repeat (first | (with_reducible first | exact HB.out | apply Qd | apply Qf | apply Qe | refine Qg ?_ GE210.out) | exact HB.out)⟩
end Go.Proofs.Ythgedejnpgcacaa.V
namespace Go.Proofs.Ythgedejnpgcacaa.V
open Go.RowKit Go.Proofs.YthgedejnpgcacaaW.PrintWords Go.Proofs.YthgedejnpgcacaaW.PrintLast Go.Proofs.YthgedejnpgcacaaW.PrintMore
attribute [local go_sem] max2_int min2_int max_two min_two max_three min_three max_four min_four tdiv_most
set_option linter.unusedVariables false
set_option linter.unusedSimpArgs false
def vetchref05_Valid.f (k : Nat) (l0_0 : List (S51)) (l0_1 : List (S56)) : Option (Bool) := (Qz.f k l0_0 l0_1).bind fun bt220 => (some (bt220.2.1 == 0))
theorem vetchref05_Valid.mono : ∀ a0 a1 k, LeO (vetchref05_Valid.f k a0 a1) (vetchref05_Valid.f (k + 1) a0 a1) := by
 intro a0 a1 k
 unfold vetchref05_Valid.f
 repeat' first
  | (with_reducible exact Qz.mono _ _ _)
  | (with_reducible exact LeO.refl _)
  | (with_reducible exact LeO.none _)
  | (with_reducible refine LeO.ite ?_ ?_)
  | (with_reducible refine LeO.bind ?_ (fun _ => ?_))
  | exact Qz.mono _ _ _
  | exact LeO.none _
  | refine LeO.ite ?_ ?_
  | refine LeO.bind ?_ (fun _ => ?_)
set_option maxHeartbeats 8000000 in
set_option maxRecDepth 100000 in
theorem vetchref05_Valid.calls (k : Nat) (A0_0 : Option Addr) (c0_0 : Nat) (l0_0 : List (S51)) (A0_1 : Option Addr) (c0_1 : Nat) (l0_1 : List (S56)) (r : Bool) (w : World) (hr0_0 : Kd.C k51 w A0_0 l0_0.length l0_0) (hc0_0 : l0_0.length ≤ c0_0) (hr0_1 : Kd.C k56 w A0_1 l0_1.length l0_1) (hc0_1 : l0_1.length ≤ c0_1) (h : vetchref05_Valid.f k l0_0 l0_1 = some r) :
 Calls Try.prog 25 #[.agg #[.slice A0_0 l0_0.length c0_0, .slice A0_1 l0_1.length c0_1]] w fun e w' => e = .returned (.bool r) ∧ Below w.heap.size w w' := by
 have hu25 := Try.underlying25
 have HR0_0 := Qa.mk hr0_0
 have HC0_0 := Qa.mk hc0_0
 clear hr0_0 hc0_0
 have HR0_1 := Qa.mk hr0_1
 have HC0_1 := Qa.mk hc0_1
 clear hr0_1 hc0_1
 have HB := Qa.mk (Below.refl w.heap.size w)
 have H : ((Qz.f k l0_0 l0_1).bind fun bt220 => (some (bt220.2.1 == 0))) = some r := h
 clear h
 replace H := Option.bind_eq_some_iff.mp H
 obtain ⟨⟨t220, t221, t222⟩, A20, H⟩ := H
 replace H : (some (t221 == 0)) = some r := H
 have A2 := Qa.mk A20
 clear A20
 obtain rfl := Option.some.inj H
 go_enter Try.func25, Try.ntmps25
 go_wp2_with (first | ((with_reducible refine Qc1 (N := 1) rfl ?_); refine Ql1 ?hg (N := 1) ?hd (cs := #[.slice A0_0 l0_0.length c0_0, .slice A0_1 l0_1.length c0_1]) (t := 25) ?hr ?_; (case hd => rfl); (case hg => rfl); (case hr => first | (go_simp; done) | (go_simp; rfl)); intro gb219 hg w3 hbox hb; have n0_ := Qa.mk (Qm (by repeat (first | (with_reducible first | exact HB.out | apply Qd | apply Qf | apply Qe) | exact HB.out)) hb); have n1_ := Qa.mk (hbox); have n2_ := Qa.mk ((by rw [hg]; exact (Qv (by repeat (first | (with_reducible first | exact HB.out | apply Qd | apply Qf | apply Qe) | exact HB.out))) : w.heap.size ≤ gb219)); have n3_ := Qa.mk ((by rw [hg]; exact (Qv (by repeat (first | (with_reducible first | exact HB.out | apply Qd | apply Qf | apply Qe) | exact HB.out))) : w.heap.size ≤ gb219)); clear HB; have HB := n0_; have BK219 := n1_; have GW219 := n2_; have GE219 := n3_; clear n0_ n1_ n2_ n3_; clear hb hbox hg; have hcz4_0 : w3.cell? ⟨gb219, 0, none⟩ = some (.slice A0_0 l0_0.length c0_0) := (Qb BK219.out 0).trans rfl; have hcz4_1 : w3.cell? ⟨gb219, 1, none⟩ = some (.slice A0_1 l0_1.length c0_1) := (Qb BK219.out 1).trans rfl; have hfz4_0 := Qc BK219.out 0; have hfz4_1 := Qc BK219.out 1) | ((with_reducible refine Qd1 (f := 32) rfl ?_); refine goesL_ (some 8) rfl rfl Try.func32 (by kernel_rfl) rfl #[.agg #[.slice A0_0 l0_0.length c0_0, .slice A0_1 l0_1.length c0_1]] rfl (by (try simp only [List.map_toArray, List.map_cons, List.map_nil]); first | done | rfl | (simp only [List.length_drop, List.length_take]; rfl)) ?_; (with_reducible refine (Qz.calls k _ _ l0_0 _ _ l0_1 t220 t221 t222 _ ?side1 ?side2 ?side3 ?side4 A2.out).mono ?_); (case side1 => repeat (first | exact (Kd.Qn HR0_0.out HB.out) | (with_reducible refine Kd.Qw ?_ _) | (with_reducible refine Kd.Qy ?_ _) | (with_reducible refine Kd.Qx ?_))); (case side2 => exact HC0_0.out); (case side3 => repeat (first | exact (Kd.Qn HR0_1.out HB.out) | (with_reducible refine Kd.Qw ?_ _) | (with_reducible refine Kd.Qy ?_ _) | (with_reducible refine Kd.Qx ?_))); (case side4 => exact HC0_1.out); rintro e w5 ⟨rfl, hb⟩; refine ⟨_, rfl, ?_⟩; have n0_ := Qa.mk (Qh (g := gb219) (o := .cells #[.slice A0_0 l0_0.length c0_0, .slice A0_1 l0_1.length c0_1] 25 (0, 0)) (by (with_reducible repeat (first | refine Qk ?_ _ | refine Qj ?_ | refine Qi ?_ _)); exact BK219.out) hb); have n1_ := Qa.mk (Qm (by repeat (first | (with_reducible first | exact HB.out | apply Qd | apply Qf | apply Qe | refine Qg ?_ GE219.out) | exact HB.out)) hb); clear BK219; clear HB; have BK219 := n0_; have HB := n1_; clear n0_ n1_; (try clear hb); (try clear hb2); (try clear hk); (try clear hi)))
 go_ret
 exact ⟨by first | rfl | (simp [Qr, Qq] <;> rfl) | (simp [*, Qr, Qq] <;> rfl), by repeat (first | (with_reducible first | exact HB.out | apply Qd | apply Qf | apply Qe | refine Qg ?_ GE219.out) | exact HB.out)⟩
def vetchref05_Small.f (k : Nat) (l0_0 : List (S51)) (l0_1 : List (S56)) : Option (Bool) := (Qr1.f k l0_0 l0_1).bind fun t224 => (if t224 = true then ((vetchref05_Valid.f k l0_0 l0_1).bind fun t225 => (some t225)) else (some false))
theorem vetchref05_Small.mono : ∀ a0 a1 k, LeO (vetchref05_Small.f k a0 a1) (vetchref05_Small.f (k + 1) a0 a1) := by
 intro a0 a1 k
 unfold vetchref05_Small.f
 repeat' first
  | (with_reducible exact Qr1.mono _ _ _)
  | (with_reducible exact vetchref05_Valid.mono _ _ _)
  | (with_reducible exact LeO.refl _)
  | (with_reducible exact LeO.none _)
  | (with_reducible refine LeO.ite ?_ ?_)
  | (with_reducible refine LeO.bind ?_ (fun _ => ?_))
  | exact Qr1.mono _ _ _
  | exact vetchref05_Valid.mono _ _ _
  | exact LeO.none _
  | refine LeO.ite ?_ ?_
  | refine LeO.bind ?_ (fun _ => ?_)
set_option maxHeartbeats 8000000 in
set_option maxRecDepth 100000 in
theorem vetchref05_Small.calls (k : Nat) (A0_0 : Option Addr) (c0_0 : Nat) (l0_0 : List (S51)) (A0_1 : Option Addr) (c0_1 : Nat) (l0_1 : List (S56)) (r : Bool) (w : World) (hr0_0 : Kd.C k51 w A0_0 l0_0.length l0_0) (hc0_0 : l0_0.length ≤ c0_0) (hr0_1 : Kd.C k56 w A0_1 l0_1.length l0_1) (hc0_1 : l0_1.length ≤ c0_1) (h : vetchref05_Small.f k l0_0 l0_1 = some r) :
 Calls Try.prog 18 #[.agg #[.slice A0_0 l0_0.length c0_0, .slice A0_1 l0_1.length c0_1]] w fun e w' => e = .returned (.bool r) ∧ Below w.heap.size w w' := by
 have hu25 := Try.underlying25
 have HR0_0 := Qa.mk hr0_0
 have HC0_0 := Qa.mk hc0_0
 clear hr0_0 hc0_0
 have HR0_1 := Qa.mk hr0_1
 have HC0_1 := Qa.mk hc0_1
 clear hr0_1 hc0_1
 have HB := Qa.mk (Below.refl w.heap.size w)
 have H : ((Qr1.f k l0_0 l0_1).bind fun t224 => (if t224 = true then ((vetchref05_Valid.f k l0_0 l0_1).bind fun t225 => (some t225)) else (some false))) = some r := h
 clear h
 replace H := Option.bind_eq_some_iff.mp H
 obtain ⟨t224, A20, H⟩ := H
 replace H : (if t224 = true then ((vetchref05_Valid.f k l0_0 l0_1).bind fun t225 => (some t225)) else (some false)) = some r := H
 have A2 := Qa.mk A20
 clear A20
 by_cases c3 : t224 = true
 ·
  subst c3
  have H1 : ((vetchref05_Valid.f k l0_0 l0_1).bind fun t225 => (some t225)) = some r := by rw [if_pos rfl] at H; exact H
  clear H
  have H := H1
  clear H1
  replace H := Option.bind_eq_some_iff.mp H
  obtain ⟨t225, A40, H⟩ := H
  replace H : (some t225) = some r := H
  have A4 := Qa.mk A40
  clear A40
  obtain rfl := Option.some.inj H
  go_enter Try.func18, Try.ntmps18
  go_wp2_with (first | ((with_reducible refine Qc1 (N := 1) rfl ?_); refine Ql1 ?hg (N := 1) ?hd (cs := #[.slice A0_0 l0_0.length c0_0, .slice A0_1 l0_1.length c0_1]) (t := 25) ?hr ?_; (case hd => rfl); (case hg => rfl); (case hr => first | (go_simp; done) | (go_simp; rfl)); intro gb223 hg w5 hbox hb; have n0_ := Qa.mk (Qm (by repeat (first | (with_reducible first | exact HB.out | apply Qd | apply Qf | apply Qe) | exact HB.out)) hb); have n1_ := Qa.mk (hbox); have n2_ := Qa.mk ((by rw [hg]; exact (Qv (by repeat (first | (with_reducible first | exact HB.out | apply Qd | apply Qf | apply Qe) | exact HB.out))) : w.heap.size ≤ gb223)); have n3_ := Qa.mk ((by rw [hg]; exact (Qv (by repeat (first | (with_reducible first | exact HB.out | apply Qd | apply Qf | apply Qe) | exact HB.out))) : w.heap.size ≤ gb223)); clear HB; have HB := n0_; have BK223 := n1_; have GW223 := n2_; have GE223 := n3_; clear n0_ n1_ n2_ n3_; clear hb hbox hg; have hcz6_0 : w5.cell? ⟨gb223, 0, none⟩ = some (.slice A0_0 l0_0.length c0_0) := (Qb BK223.out 0).trans rfl; have hcz6_1 : w5.cell? ⟨gb223, 1, none⟩ = some (.slice A0_1 l0_1.length c0_1) := (Qb BK223.out 1).trans rfl; have hfz6_0 := Qc BK223.out 0; have hfz6_1 := Qc BK223.out 1) | ((with_reducible refine Qd1 (f := 24) rfl ?_); refine goesL_ (some 4) rfl rfl Try.func24 (by kernel_rfl) rfl #[.agg #[.slice A0_0 l0_0.length c0_0, .slice A0_1 l0_1.length c0_1]] rfl (by (try simp only [List.map_toArray, List.map_cons, List.map_nil]); first | done | rfl | (simp only [List.length_drop, List.length_take]; rfl)) ?_; (with_reducible refine (Qr1.calls k _ _ l0_0 _ _ l0_1 true _ ?side1 ?side2 ?side3 ?side4 A2.out).mono ?_); (case side1 => repeat (first | exact (Kd.Qn HR0_0.out HB.out) | (with_reducible refine Kd.Qw ?_ _) | (with_reducible refine Kd.Qy ?_ _) | (with_reducible refine Kd.Qx ?_))); (case side2 => exact HC0_0.out); (case side3 => repeat (first | exact (Kd.Qn HR0_1.out HB.out) | (with_reducible refine Kd.Qw ?_ _) | (with_reducible refine Kd.Qy ?_ _) | (with_reducible refine Kd.Qx ?_))); (case side4 => exact HC0_1.out); rintro e w7 ⟨rfl, hb⟩; refine ⟨_, rfl, ?_⟩; have n0_ := Qa.mk (Qh (g := gb223) (o := .cells #[.slice A0_0 l0_0.length c0_0, .slice A0_1 l0_1.length c0_1] 25 (0, 0)) (by (with_reducible repeat (first | refine Qk ?_ _ | refine Qj ?_ | refine Qi ?_ _)); exact BK223.out) hb); have n1_ := Qa.mk (Qm (by repeat (first | (with_reducible first | exact HB.out | apply Qd | apply Qf | apply Qe | refine Qg ?_ GE223.out) | exact HB.out)) hb); clear BK223; clear HB; have BK223 := n0_; have HB := n1_; clear n0_ n1_; (try clear hb); (try clear hb2); (try clear hk); (try clear hi); have hcz8_0 : w7.cell? ⟨gb223, 0, none⟩ = some (.slice A0_0 l0_0.length c0_0) := (Qb BK223.out 0).trans rfl; have hcz8_1 : w7.cell? ⟨gb223, 1, none⟩ = some (.slice A0_1 l0_1.length c0_1) := (Qb BK223.out 1).trans rfl; have hfz8_0 := Qc BK223.out 0; have hfz8_1 := Qc BK223.out 1) | (go_at_call 25; (with_reducible refine (vetchref05_Valid.calls k _ _ l0_0 _ _ l0_1 t225 _ ?side1 ?side2 ?side3 ?side4 A4.out).mono ?_); (case side1 => repeat (first | exact (Kd.Qn HR0_0.out HB.out) | (with_reducible refine Kd.Qw ?_ _) | (with_reducible refine Kd.Qy ?_ _) | (with_reducible refine Kd.Qx ?_))); (case side2 => exact HC0_0.out); (case side3 => repeat (first | exact (Kd.Qn HR0_1.out HB.out) | (with_reducible refine Kd.Qw ?_ _) | (with_reducible refine Kd.Qy ?_ _) | (with_reducible refine Kd.Qx ?_))); (case side4 => exact HC0_1.out); rintro e w9 ⟨rfl, hb⟩; have n0_ := Qa.mk (Qh (g := gb223) (o := .cells #[.slice A0_0 l0_0.length c0_0, .slice A0_1 l0_1.length c0_1] 25 (0, 0)) (by (with_reducible repeat (first | refine Qk ?_ _ | refine Qj ?_ | refine Qi ?_ _)); exact BK223.out) hb); have n1_ := Qa.mk (Qm (by repeat (first | (with_reducible first | exact HB.out | apply Qd | apply Qf | apply Qe | refine Qg ?_ GE223.out) | exact HB.out)) hb); clear BK223; clear HB; have BK223 := n0_; have HB := n1_; clear n0_ n1_; (try clear hb); (try clear hb2); (try clear hk); (try clear hi)))
  go_ret
  exact ⟨by first | rfl | (simp [Qr, Qq] <;> rfl) | (simp [*, Qr, Qq] <;> rfl), by repeat (first | (with_reducible first | exact HB.out | apply Qd | apply Qf | apply Qe | refine Qg ?_ GE223.out) | exact HB.out)⟩
 ·
  replace c3 := Bool.eq_false_iff.mpr c3
  subst c3
  have H1 : (some false) = some r := by rw [if_neg (show ¬ (false = true) by decide)] at H; exact H
  clear H
  have H := H1
  clear H1
  obtain rfl := Option.some.inj H
  go_enter Try.func18, Try.ntmps18
  go_wp2_with (first | ((with_reducible refine Qc1 (N := 1) rfl ?_); refine Ql1 ?hg (N := 1) ?hd (cs := #[.slice A0_0 l0_0.length c0_0, .slice A0_1 l0_1.length c0_1]) (t := 25) ?hr ?_; (case hd => rfl); (case hg => rfl); (case hr => first | (go_simp; done) | (go_simp; rfl)); intro gb223 hg w10 hbox hb; have n0_ := Qa.mk (Qm (by repeat (first | (with_reducible first | exact HB.out | apply Qd | apply Qf | apply Qe) | exact HB.out)) hb); have n1_ := Qa.mk (hbox); have n2_ := Qa.mk ((by rw [hg]; exact (Qv (by repeat (first | (with_reducible first | exact HB.out | apply Qd | apply Qf | apply Qe) | exact HB.out))) : w.heap.size ≤ gb223)); have n3_ := Qa.mk ((by rw [hg]; exact (Qv (by repeat (first | (with_reducible first | exact HB.out | apply Qd | apply Qf | apply Qe) | exact HB.out))) : w.heap.size ≤ gb223)); clear HB; have HB := n0_; have BK223 := n1_; have GW223 := n2_; have GE223 := n3_; clear n0_ n1_ n2_ n3_; clear hb hbox hg; have hcz11_0 : w10.cell? ⟨gb223, 0, none⟩ = some (.slice A0_0 l0_0.length c0_0) := (Qb BK223.out 0).trans rfl; have hcz11_1 : w10.cell? ⟨gb223, 1, none⟩ = some (.slice A0_1 l0_1.length c0_1) := (Qb BK223.out 1).trans rfl; have hfz11_0 := Qc BK223.out 0; have hfz11_1 := Qc BK223.out 1) | ((with_reducible refine Qd1 (f := 24) rfl ?_); refine goesL_ (some 4) rfl rfl Try.func24 (by kernel_rfl) rfl #[.agg #[.slice A0_0 l0_0.length c0_0, .slice A0_1 l0_1.length c0_1]] rfl (by (try simp only [List.map_toArray, List.map_cons, List.map_nil]); first | done | rfl | (simp only [List.length_drop, List.length_take]; rfl)) ?_; (with_reducible refine (Qr1.calls k _ _ l0_0 _ _ l0_1 false _ ?side1 ?side2 ?side3 ?side4 A2.out).mono ?_); (case side1 => repeat (first | exact (Kd.Qn HR0_0.out HB.out) | (with_reducible refine Kd.Qw ?_ _) | (with_reducible refine Kd.Qy ?_ _) | (with_reducible refine Kd.Qx ?_))); (case side2 => exact HC0_0.out); (case side3 => repeat (first | exact (Kd.Qn HR0_1.out HB.out) | (with_reducible refine Kd.Qw ?_ _) | (with_reducible refine Kd.Qy ?_ _) | (with_reducible refine Kd.Qx ?_))); (case side4 => exact HC0_1.out); rintro e w12 ⟨rfl, hb⟩; refine ⟨_, rfl, ?_⟩; have n0_ := Qa.mk (Qh (g := gb223) (o := .cells #[.slice A0_0 l0_0.length c0_0, .slice A0_1 l0_1.length c0_1] 25 (0, 0)) (by (with_reducible repeat (first | refine Qk ?_ _ | refine Qj ?_ | refine Qi ?_ _)); exact BK223.out) hb); have n1_ := Qa.mk (Qm (by repeat (first | (with_reducible first | exact HB.out | apply Qd | apply Qf | apply Qe | refine Qg ?_ GE223.out) | exact HB.out)) hb); clear BK223; clear HB; have BK223 := n0_; have HB := n1_; clear n0_ n1_; (try clear hb); (try clear hb2); (try clear hk); (try clear hi)))
  go_ret
  exact ⟨by first | rfl | (simp [Qr, Qq] <;> rfl) | (simp [*, Qr, Qq] <;> rfl), by repeat (first | (with_reducible first | exact HB.out | apply Qd | apply Qf | apply Qe | refine Qg ?_ GE223.out) | exact HB.out)⟩
def vetchlaw18_fits.f (k : Nat) (l0_0 : List (S51)) (l0_1 : List (S56)) (a1 : ByteArray) (a2 : Int) : Option (Bool) := (vetchref05_Small.f k l0_0 l0_1).bind fun t227 => (if t227 = true then (if (a1.size : Int) ≤ 60 then (some (decide (a2 ≤ 5000))) else (some false)) else (some false))
theorem vetchlaw18_fits.mono : ∀ a0 a1 a2 a3 k, LeO (vetchlaw18_fits.f k a0 a1 a2 a3) (vetchlaw18_fits.f (k + 1) a0 a1 a2 a3) := by
 intro a0 a1 a2 a3 k
 unfold vetchlaw18_fits.f
 repeat' first
  | (with_reducible exact vetchref05_Small.mono _ _ _)
  | (with_reducible exact LeO.refl _)
  | (with_reducible exact LeO.none _)
  | (with_reducible refine LeO.ite ?_ ?_)
  | (with_reducible refine LeO.bind ?_ (fun _ => ?_))
  | exact vetchref05_Small.mono _ _ _
  | exact LeO.none _
  | refine LeO.ite ?_ ?_
  | refine LeO.bind ?_ (fun _ => ?_)
set_option maxHeartbeats 8000000 in
set_option maxRecDepth 100000 in
theorem vetchlaw18_fits.calls (k : Nat) (A0_0 : Option Addr) (c0_0 : Nat) (l0_0 : List (S51)) (A0_1 : Option Addr) (c0_1 : Nat) (l0_1 : List (S56)) (a1 : ByteArray) (a2 : Int) (r : Bool) (w : World) (hr0_0 : Kd.C k51 w A0_0 l0_0.length l0_0) (hc0_0 : l0_0.length ≤ c0_0) (hr0_1 : Kd.C k56 w A0_1 l0_1.length l0_1) (hc0_1 : l0_1.length ≤ c0_1) (h : vetchlaw18_fits.f k l0_0 l0_1 a1 a2 = some r) :
 Calls Try.prog 10 #[.agg #[.slice A0_0 l0_0.length c0_0, .slice A0_1 l0_1.length c0_1], .string a1, .int .i64 a2] w fun e w' => e = .returned (.bool r) ∧ Below w.heap.size w w' := by
 have hu25 := Try.underlying25
 have HR0_0 := Qa.mk hr0_0
 have HC0_0 := Qa.mk hc0_0
 clear hr0_0 hc0_0
 have HR0_1 := Qa.mk hr0_1
 have HC0_1 := Qa.mk hc0_1
 clear hr0_1 hc0_1
 have HB := Qa.mk (Below.refl w.heap.size w)
 have H : ((vetchref05_Small.f k l0_0 l0_1).bind fun t227 => (if t227 = true then (if (a1.size : Int) ≤ 60 then (some (decide (a2 ≤ 5000))) else (some false)) else (some false))) = some r := h
 clear h
 replace H := Option.bind_eq_some_iff.mp H
 obtain ⟨t227, A40, H⟩ := H
 replace H : (if t227 = true then (if (a1.size : Int) ≤ 60 then (some (decide (a2 ≤ 5000))) else (some false)) else (some false)) = some r := H
 have A4 := Qa.mk A40
 clear A40
 by_cases c5 : t227 = true
 ·
  subst c5
  have H1 : (if (a1.size : Int) ≤ 60 then (some (decide (a2 ≤ 5000))) else (some false)) = some r := by rw [if_pos rfl] at H; exact H
  clear H
  have H := H1
  clear H1
  by_cases c6 : (a1.size : Int) ≤ 60
  ·
   rw [if_pos c6] at H
   have c6b0 : decide ((a1.size : Int) ≤ 60) = true := decide_eq_true c6
   have c6b1 : decide (a1.size ≤ 60) = true := decide_eq_true (by omega)
   clear c6
   obtain rfl := Option.some.inj H
   go_enter Try.func10, Try.ntmps10
   go_wp2_with (first | ((with_reducible refine Qc1 (N := 3) rfl ?_); (try (refine Qm1 (by rfl) ?_; dsimp only)); refine Ql1 ?hg (N := 3) ?hd (cs := #[.slice A0_0 l0_0.length c0_0, .slice A0_1 l0_1.length c0_1]) (t := 25) ?hr ?_; (case hd => rfl); (case hg => rfl); (case hr => first | (go_simp; done) | (go_simp; rfl)); intro gb226 hg w7 hbox hb; have n0_ := Qa.mk (Qm (by repeat (first | (with_reducible first | exact HB.out | apply Qd | apply Qf | apply Qe) | exact HB.out)) hb); have n1_ := Qa.mk (hbox); have n2_ := Qa.mk ((by rw [hg]; exact (Qv (by repeat (first | (with_reducible first | exact HB.out | apply Qd | apply Qf | apply Qe) | exact HB.out))) : w.heap.size ≤ gb226)); have n3_ := Qa.mk ((by rw [hg]; exact (Qv (by repeat (first | (with_reducible first | exact HB.out | apply Qd | apply Qf | apply Qe) | exact HB.out))) : w.heap.size ≤ gb226)); clear HB; have HB := n0_; have BK226 := n1_; have GW226 := n2_; have GE226 := n3_; clear n0_ n1_ n2_ n3_; clear hb hbox hg; have hcz8_0 : w7.cell? ⟨gb226, 0, none⟩ = some (.slice A0_0 l0_0.length c0_0) := (Qb BK226.out 0).trans rfl; have hcz8_1 : w7.cell? ⟨gb226, 1, none⟩ = some (.slice A0_1 l0_1.length c0_1) := (Qb BK226.out 1).trans rfl; have hfz8_0 := Qc BK226.out 0; have hfz8_1 := Qc BK226.out 1) | ((with_reducible refine Qd1 (f := 18) rfl ?_); refine goesL_ (some 8) rfl rfl Try.func18 (by kernel_rfl) rfl #[.agg #[.slice A0_0 l0_0.length c0_0, .slice A0_1 l0_1.length c0_1]] rfl (by (try simp only [List.map_toArray, List.map_cons, List.map_nil]); first | done | rfl | (simp only [List.length_drop, List.length_take]; rfl)) ?_; (with_reducible refine (vetchref05_Small.calls k _ _ l0_0 _ _ l0_1 true _ ?side1 ?side2 ?side3 ?side4 A4.out).mono ?_); (case side1 => repeat (first | exact (Kd.Qn HR0_0.out HB.out) | (with_reducible refine Kd.Qw ?_ _) | (with_reducible refine Kd.Qy ?_ _) | (with_reducible refine Kd.Qx ?_))); (case side2 => exact HC0_0.out); (case side3 => repeat (first | exact (Kd.Qn HR0_1.out HB.out) | (with_reducible refine Kd.Qw ?_ _) | (with_reducible refine Kd.Qy ?_ _) | (with_reducible refine Kd.Qx ?_))); (case side4 => exact HC0_1.out); rintro e w9 ⟨rfl, hb⟩; refine ⟨_, rfl, ?_⟩; have n0_ := Qa.mk (Qh (g := gb226) (o := .cells #[.slice A0_0 l0_0.length c0_0, .slice A0_1 l0_1.length c0_1] 25 (0, 0)) (by (with_reducible repeat (first | refine Qk ?_ _ | refine Qj ?_ | refine Qi ?_ _)); exact BK226.out) hb); have n1_ := Qa.mk (Qm (by repeat (first | (with_reducible first | exact HB.out | apply Qd | apply Qf | apply Qe | refine Qg ?_ GE226.out) | exact HB.out)) hb); clear BK226; clear HB; have BK226 := n0_; have HB := n1_; clear n0_ n1_; (try clear hb); (try clear hb2); (try clear hk); (try clear hi)))
   go_ret
   exact ⟨by first | rfl | (simp [Qr, Qq] <;> rfl) | (simp [*, Qr, Qq] <;> rfl), by repeat (first | (with_reducible first | exact HB.out | apply Qd | apply Qf | apply Qe | refine Qg ?_ GE226.out) | exact HB.out)⟩
  ·
   rw [if_neg c6] at H
   have c6b0 : decide ((a1.size : Int) ≤ 60) = false := decide_eq_false c6
   have c6b1 : decide (a1.size ≤ 60) = false := decide_eq_false (by omega)
   clear c6
   obtain rfl := Option.some.inj H
   go_enter Try.func10, Try.ntmps10
   go_wp2_with (first | ((with_reducible refine Qc1 (N := 3) rfl ?_); (try (refine Qm1 (by rfl) ?_; dsimp only)); refine Ql1 ?hg (N := 3) ?hd (cs := #[.slice A0_0 l0_0.length c0_0, .slice A0_1 l0_1.length c0_1]) (t := 25) ?hr ?_; (case hd => rfl); (case hg => rfl); (case hr => first | (go_simp; done) | (go_simp; rfl)); intro gb226 hg w10 hbox hb; have n0_ := Qa.mk (Qm (by repeat (first | (with_reducible first | exact HB.out | apply Qd | apply Qf | apply Qe) | exact HB.out)) hb); have n1_ := Qa.mk (hbox); have n2_ := Qa.mk ((by rw [hg]; exact (Qv (by repeat (first | (with_reducible first | exact HB.out | apply Qd | apply Qf | apply Qe) | exact HB.out))) : w.heap.size ≤ gb226)); have n3_ := Qa.mk ((by rw [hg]; exact (Qv (by repeat (first | (with_reducible first | exact HB.out | apply Qd | apply Qf | apply Qe) | exact HB.out))) : w.heap.size ≤ gb226)); clear HB; have HB := n0_; have BK226 := n1_; have GW226 := n2_; have GE226 := n3_; clear n0_ n1_ n2_ n3_; clear hb hbox hg; have hcz11_0 : w10.cell? ⟨gb226, 0, none⟩ = some (.slice A0_0 l0_0.length c0_0) := (Qb BK226.out 0).trans rfl; have hcz11_1 : w10.cell? ⟨gb226, 1, none⟩ = some (.slice A0_1 l0_1.length c0_1) := (Qb BK226.out 1).trans rfl; have hfz11_0 := Qc BK226.out 0; have hfz11_1 := Qc BK226.out 1) | ((with_reducible refine Qd1 (f := 18) rfl ?_); refine goesL_ (some 8) rfl rfl Try.func18 (by kernel_rfl) rfl #[.agg #[.slice A0_0 l0_0.length c0_0, .slice A0_1 l0_1.length c0_1]] rfl (by (try simp only [List.map_toArray, List.map_cons, List.map_nil]); first | done | rfl | (simp only [List.length_drop, List.length_take]; rfl)) ?_; (with_reducible refine (vetchref05_Small.calls k _ _ l0_0 _ _ l0_1 true _ ?side1 ?side2 ?side3 ?side4 A4.out).mono ?_); (case side1 => repeat (first | exact (Kd.Qn HR0_0.out HB.out) | (with_reducible refine Kd.Qw ?_ _) | (with_reducible refine Kd.Qy ?_ _) | (with_reducible refine Kd.Qx ?_))); (case side2 => exact HC0_0.out); (case side3 => repeat (first | exact (Kd.Qn HR0_1.out HB.out) | (with_reducible refine Kd.Qw ?_ _) | (with_reducible refine Kd.Qy ?_ _) | (with_reducible refine Kd.Qx ?_))); (case side4 => exact HC0_1.out); rintro e w12 ⟨rfl, hb⟩; refine ⟨_, rfl, ?_⟩; have n0_ := Qa.mk (Qh (g := gb226) (o := .cells #[.slice A0_0 l0_0.length c0_0, .slice A0_1 l0_1.length c0_1] 25 (0, 0)) (by (with_reducible repeat (first | refine Qk ?_ _ | refine Qj ?_ | refine Qi ?_ _)); exact BK226.out) hb); have n1_ := Qa.mk (Qm (by repeat (first | (with_reducible first | exact HB.out | apply Qd | apply Qf | apply Qe | refine Qg ?_ GE226.out) | exact HB.out)) hb); clear BK226; clear HB; have BK226 := n0_; have HB := n1_; clear n0_ n1_; (try clear hb); (try clear hb2); (try clear hk); (try clear hi)))
   go_ret
   exact ⟨by first | rfl | (simp [Qr, Qq] <;> rfl) | (simp [*, Qr, Qq] <;> rfl), by repeat (first | (with_reducible first | exact HB.out | apply Qd | apply Qf | apply Qe | refine Qg ?_ GE226.out) | exact HB.out)⟩
 ·
  replace c5 := Bool.eq_false_iff.mpr c5
  subst c5
  have H1 : (some false) = some r := by rw [if_neg (show ¬ (false = true) by decide)] at H; exact H
  clear H
  have H := H1
  clear H1
  obtain rfl := Option.some.inj H
  go_enter Try.func10, Try.ntmps10
  go_wp2_with (first | ((with_reducible refine Qc1 (N := 3) rfl ?_); (try (refine Qm1 (by rfl) ?_; dsimp only)); refine Ql1 ?hg (N := 3) ?hd (cs := #[.slice A0_0 l0_0.length c0_0, .slice A0_1 l0_1.length c0_1]) (t := 25) ?hr ?_; (case hd => rfl); (case hg => rfl); (case hr => first | (go_simp; done) | (go_simp; rfl)); intro gb226 hg w13 hbox hb; have n0_ := Qa.mk (Qm (by repeat (first | (with_reducible first | exact HB.out | apply Qd | apply Qf | apply Qe) | exact HB.out)) hb); have n1_ := Qa.mk (hbox); have n2_ := Qa.mk ((by rw [hg]; exact (Qv (by repeat (first | (with_reducible first | exact HB.out | apply Qd | apply Qf | apply Qe) | exact HB.out))) : w.heap.size ≤ gb226)); have n3_ := Qa.mk ((by rw [hg]; exact (Qv (by repeat (first | (with_reducible first | exact HB.out | apply Qd | apply Qf | apply Qe) | exact HB.out))) : w.heap.size ≤ gb226)); clear HB; have HB := n0_; have BK226 := n1_; have GW226 := n2_; have GE226 := n3_; clear n0_ n1_ n2_ n3_; clear hb hbox hg; have hcz14_0 : w13.cell? ⟨gb226, 0, none⟩ = some (.slice A0_0 l0_0.length c0_0) := (Qb BK226.out 0).trans rfl; have hcz14_1 : w13.cell? ⟨gb226, 1, none⟩ = some (.slice A0_1 l0_1.length c0_1) := (Qb BK226.out 1).trans rfl; have hfz14_0 := Qc BK226.out 0; have hfz14_1 := Qc BK226.out 1) | ((with_reducible refine Qd1 (f := 18) rfl ?_); refine goesL_ (some 8) rfl rfl Try.func18 (by kernel_rfl) rfl #[.agg #[.slice A0_0 l0_0.length c0_0, .slice A0_1 l0_1.length c0_1]] rfl (by (try simp only [List.map_toArray, List.map_cons, List.map_nil]); first | done | rfl | (simp only [List.length_drop, List.length_take]; rfl)) ?_; (with_reducible refine (vetchref05_Small.calls k _ _ l0_0 _ _ l0_1 false _ ?side1 ?side2 ?side3 ?side4 A4.out).mono ?_); (case side1 => repeat (first | exact (Kd.Qn HR0_0.out HB.out) | (with_reducible refine Kd.Qw ?_ _) | (with_reducible refine Kd.Qy ?_ _) | (with_reducible refine Kd.Qx ?_))); (case side2 => exact HC0_0.out); (case side3 => repeat (first | exact (Kd.Qn HR0_1.out HB.out) | (with_reducible refine Kd.Qw ?_ _) | (with_reducible refine Kd.Qy ?_ _) | (with_reducible refine Kd.Qx ?_))); (case side4 => exact HC0_1.out); rintro e w15 ⟨rfl, hb⟩; refine ⟨_, rfl, ?_⟩; have n0_ := Qa.mk (Qh (g := gb226) (o := .cells #[.slice A0_0 l0_0.length c0_0, .slice A0_1 l0_1.length c0_1] 25 (0, 0)) (by (with_reducible repeat (first | refine Qk ?_ _ | refine Qj ?_ | refine Qi ?_ _)); exact BK226.out) hb); have n1_ := Qa.mk (Qm (by repeat (first | (with_reducible first | exact HB.out | apply Qd | apply Qf | apply Qe | refine Qg ?_ GE226.out) | exact HB.out)) hb); clear BK226; clear HB; have BK226 := n0_; have HB := n1_; clear n0_ n1_; (try clear hb); (try clear hb2); (try clear hk); (try clear hi)))
  go_ret
  exact ⟨by first | rfl | (simp [Qr, Qq] <;> rfl) | (simp [*, Qr, Qq] <;> rfl), by repeat (first | (with_reducible first | exact HB.out | apply Qd | apply Qf | apply Qe | refine Qg ?_ GE226.out) | exact HB.out)⟩
end Go.Proofs.Ythgedejnpgcacaa.V
namespace Go.Proofs.Ythgedejnpgcacaa.V
open Go.RowKit Go.Proofs.YthgedejnpgcacaaW.PrintWords Go.Proofs.YthgedejnpgcacaaW.PrintLast Go.Proofs.YthgedejnpgcacaaW.PrintMore
attribute [local go_sem] max2_int min2_int max_two min_two max_three min_three max_four min_four tdiv_most
set_option linter.unusedVariables false
set_option linter.unusedSimpArgs false
theorem eqA45 (d : Nat) (w : World) (x0 y0 : Bool) (x1 y1 : Bool) (x2 y2 : Bool) :
    (Op.equalIn (d + 2) 45 (.agg #[.bool x0, .bool x1, .bool x2]) (.agg #[.bool y0, .bool y1, .bool y2])).run Try.prog w = .ok (x0 == y0 && (x1 == y1 && (x2 == y2))) w := by
  refine eqA_of Try.underlying45 (by kernel_rfl) ?_
  refine eqf_cons (by rfl) (by go_simp; rfl) (by go_simp; rfl) (by go_simp) ?_
  refine eqf_cons (by rfl) (by go_simp; rfl) (by go_simp; rfl) (by go_simp) ?_
  exact eqf_last (by rfl) (by go_simp; rfl) (by go_simp; rfl) (by go_simp)
end Go.Proofs.Ythgedejnpgcacaa.V
namespace Go.Proofs.Ythgedejnpgcacaa.V
open Go.RowKit Go.Proofs.YthgedejnpgcacaaW.PrintWords Go.Proofs.YthgedejnpgcacaaW.PrintLast Go.Proofs.YthgedejnpgcacaaW.PrintMore
attribute [local go_sem] max2_int min2_int max_two min_two max_three min_three max_four min_four tdiv_most
set_option linter.unusedVariables false
set_option linter.unusedSimpArgs false
def vetchref11_ok.f (a0_0 : Bool) (a0_1 : Bool) (a0_2 : Bool) : Option (Bool) := if a0_0 = true then (some true) else (some a0_1)
set_option maxHeartbeats 8000000 in
set_option maxRecDepth 100000 in
theorem vetchref11_ok.calls (a0_0 : Bool) (a0_1 : Bool) (a0_2 : Bool) (r : Bool) (w : World) (h : vetchref11_ok.f a0_0 a0_1 a0_2 = some r) :
 Calls Try.prog 35 #[.agg #[.bool a0_0, .bool a0_1, .bool a0_2]] w fun e w' => e = .returned (.bool r) ∧ Below w.heap.size w w' := by
 have hu45 := Try.underlying45
 have HB := Qa.mk (Below.refl w.heap.size w)
 have H : (if a0_0 = true then (some true) else (some a0_1)) = some r := h
 clear h
 by_cases c2 : a0_0 = true
 ·
  subst c2
  have H1 : (some true) = some r := by rw [if_pos rfl] at H; exact H
  clear H
  have H := H1
  clear H1
  obtain rfl := Option.some.inj H
  go_enter Try.func35, Try.ntmps35
  go_wp2_with (first | ((with_reducible refine Qc1 (N := 1) rfl ?_); refine Ql1 ?hg (N := 1) ?hd (cs := #[.bool true, .bool a0_1, .bool a0_2]) (t := 45) ?hr ?_; (case hd => rfl); (case hg => rfl); (case hr => first | (go_simp; done) | (go_simp; rfl)); intro gb293 hg w3 hbox hb; have n0_ := Qa.mk (Qm (by repeat (first | (with_reducible first | exact HB.out | apply Qd | apply Qf | apply Qe) | exact HB.out)) hb); have n1_ := Qa.mk (hbox); have n2_ := Qa.mk ((by rw [hg]; exact (Qv (by repeat (first | (with_reducible first | exact HB.out | apply Qd | apply Qf | apply Qe) | exact HB.out))) : w.heap.size ≤ gb293)); have n3_ := Qa.mk ((by rw [hg]; exact (Qv (by repeat (first | (with_reducible first | exact HB.out | apply Qd | apply Qf | apply Qe) | exact HB.out))) : w.heap.size ≤ gb293)); clear HB; have HB := n0_; have BK293 := n1_; have GW293 := n2_; have GE293 := n3_; clear n0_ n1_ n2_ n3_; clear hb hbox hg; have hcz4_0 : w3.cell? ⟨gb293, 0, none⟩ = some (.bool true) := (Qb BK293.out 0).trans rfl; have hcz4_1 : w3.cell? ⟨gb293, 1, none⟩ = some (.bool a0_1) := (Qb BK293.out 1).trans rfl; have hcz4_2 : w3.cell? ⟨gb293, 2, none⟩ = some (.bool a0_2) := (Qb BK293.out 2).trans rfl; have hfz4_0 := Qc BK293.out 0; have hfz4_1 := Qc BK293.out 1; have hfz4_2 := Qc BK293.out 2))
  go_ret
  exact ⟨by first | rfl | (simp [Qr, Qq] <;> rfl) | (simp [*, Qr, Qq] <;> rfl), by repeat (first | (with_reducible first | exact HB.out | apply Qd | apply Qf | apply Qe | refine Qg ?_ GE293.out) | exact HB.out)⟩
 ·
  replace c2 := Bool.eq_false_iff.mpr c2
  subst c2
  have H1 : (some a0_1) = some r := by rw [if_neg (show ¬ (false = true) by decide)] at H; exact H
  clear H
  have H := H1
  clear H1
  obtain rfl := Option.some.inj H
  go_enter Try.func35, Try.ntmps35
  go_wp2_with (first | ((with_reducible refine Qc1 (N := 1) rfl ?_); refine Ql1 ?hg (N := 1) ?hd (cs := #[.bool false, .bool a0_1, .bool a0_2]) (t := 45) ?hr ?_; (case hd => rfl); (case hg => rfl); (case hr => first | (go_simp; done) | (go_simp; rfl)); intro gb293 hg w5 hbox hb; have n0_ := Qa.mk (Qm (by repeat (first | (with_reducible first | exact HB.out | apply Qd | apply Qf | apply Qe) | exact HB.out)) hb); have n1_ := Qa.mk (hbox); have n2_ := Qa.mk ((by rw [hg]; exact (Qv (by repeat (first | (with_reducible first | exact HB.out | apply Qd | apply Qf | apply Qe) | exact HB.out))) : w.heap.size ≤ gb293)); have n3_ := Qa.mk ((by rw [hg]; exact (Qv (by repeat (first | (with_reducible first | exact HB.out | apply Qd | apply Qf | apply Qe) | exact HB.out))) : w.heap.size ≤ gb293)); clear HB; have HB := n0_; have BK293 := n1_; have GW293 := n2_; have GE293 := n3_; clear n0_ n1_ n2_ n3_; clear hb hbox hg; have hcz6_0 : w5.cell? ⟨gb293, 0, none⟩ = some (.bool false) := (Qb BK293.out 0).trans rfl; have hcz6_1 : w5.cell? ⟨gb293, 1, none⟩ = some (.bool a0_1) := (Qb BK293.out 1).trans rfl; have hcz6_2 : w5.cell? ⟨gb293, 2, none⟩ = some (.bool a0_2) := (Qb BK293.out 2).trans rfl; have hfz6_0 := Qc BK293.out 0; have hfz6_1 := Qc BK293.out 1; have hfz6_2 := Qc BK293.out 2))
  go_ret
  exact ⟨by first | rfl | (simp [Qr, Qq] <;> rfl) | (simp [*, Qr, Qq] <;> rfl), by repeat (first | (with_reducible first | exact HB.out | apply Qd | apply Qf | apply Qe | refine Qg ?_ GE293.out) | exact HB.out)⟩
end Go.Proofs.Ythgedejnpgcacaa.V
namespace Go.Proofs.Ythgedejnpgcacaa.V
open Go.RowKit Go.Proofs.YthgedejnpgcacaaW.PrintWords Go.Proofs.YthgedejnpgcacaaW.PrintLast Go.Proofs.YthgedejnpgcacaaW.PrintMore
set_option linter.unusedVariables false
set_option linter.unusedSimpArgs false
theorem eq54h (d : Nat) (w : World) (x0 y0 x1 y1 x2 y2 x3 y3 : Int) :
    (Op.equalIn (d + 2) 54 (.agg #[.int .u64 x0, .int .u64 x1, .int .u64 x2, .int .u64 x3]) (.agg #[.int .u64 y0, .int .u64 y1, .int .u64 y2, .int .u64 y3])).run Try.prog w = .ok (x0 == y0 && (x1 == y1 && (x2 == y2 && (x3 == y3)))) w :=
  eqA_four (k := .u64) Try.underlying54 Try.underlying52 (by kernel_rfl) (by kernel_rfl) d w x0 y0 x1 y1 x2 y2 x3 y3
attribute [local go_sem high] eq54h
def Qa1.seqF (l : List S45) : List Int → Bool → Bool → Bool → Bool → Bool × Bool × Bool
  | [], n, e, f, all => (n, e && all, f)
  | c :: cs, n, e, f, all => Qa1.seqF l cs (n && (rd_T45 l c).f0) (e || (rd_T45 l c).f1) (f || ((rd_T45 l c).f2 && all)) (all && ((rd_T45 l c).f0 || (rd_T45 l c).f1))
def Qa1.choF (l : List S45) : List Int → Bool → Bool → Bool → Bool × Bool × Bool
  | [], n, e, f => (n, e, f)
  | c :: cs, n, e, f => Qa1.choF l cs (n || ((rd_T45 l c).f0 && f)) (e || ((rd_T45 l c).f1 && f)) (f && (rd_T45 l c).f2)
def Qa1.p (R : List S51) (l : List S45) (nd : S56) : Bool × Bool × Bool :=
  if nd.f0 = 0 then (true, false, false) else
  if nd.f0 = 1 then (false, !(nd.f3.f0 == 0) || (!(nd.f3.f1 == 0) || (!(nd.f3.f2 == 0) || !(nd.f3.f3 == 0))), true) else
  if nd.f0 = 2 then ((rd_T45 l (rd_T51 R nd.f2).f1).f0, (rd_T45 l (rd_T51 R nd.f2).f1).f1, (rd_T45 l (rd_T51 R nd.f2).f1).f2) else
  if nd.f0 = 3 then Qa1.seqF l nd.f1 true false false true else
  if nd.f0 = 4 then Qa1.choF l nd.f1 false false true else
  let x := rd_T45 l (rd nd.f1 0)
  if nd.f0 = 5 then (x.f2, x.f1, false) else
  if nd.f0 = 6 then (x.f0 && x.f2, x.f1, x.f2) else
  if nd.f0 = 7 then (x.f0 || x.f2, x.f1, false) else
  if nd.f0 = 8 then (x.f0 || x.f1, false, x.f2) else
  if nd.f0 = 9 then (x.f2, false, x.f0 || x.f1) else (false, false, false)
abbrev Qa1.fit (R : List S51) (l : List S45) (nd : S56) : Prop :=
  (∀ c ∈ nd.f1, 0 ≤ c ∧ c < (l.length : Int)) ∧ (5 ≤ nd.f0 → nd.f0 ≤ 9 → nd.f1 ≠ []) ∧ (nd.f0 = 2 → 0 ≤ nd.f2 ∧ nd.f2 < (R.length : Int) ∧ 0 ≤ (rd_T51 R nd.f2).f1 ∧ (rd_T51 R nd.f2).f1 < (l.length : Int))
def Qa1.f (R : List S51) (G : List S56) (i : Int) (l : List S45) : Option (Bool × Bool × Bool) :=
  if 0 ≤ i ∧ i < (G.length : Int) ∧ Qa1.fit R l (Ql G i) then some (Qa1.p R l (Ql G i)) else none
theorem rd_memh (xs : List Int) (i : Int) (h0 : 0 ≤ i) (h1 : i < (xs.length : Int)) : rd xs i ∈ xs := by
  have h : i.toNat < xs.length := by omega
  unfold rd
  rw [List.getD_eq_getElem?_getD, List.getElem?_eq_getElem h]
  exact List.getElem_mem h
theorem blk3 {w : World} {g t : Nat} {x y z : Value} (h : w.heap[g]? = some (.cells #[x, y, z] t (0, 0))) (a b c : Value) :
    (((w.setCell ⟨g, 0, none⟩ a).setCell ⟨g, 1, none⟩ b).setCell ⟨g, 2, none⟩ c).heap[g]? = some (.cells #[a, b, c] t (0, 0)) :=
  blk_put (cs := #[a, b, z]) (blk_put (cs := #[a, y, z]) (blk_put (cs := #[x, y, z]) h 0 a rfl) 1 b rfl) 2 c rfl
theorem below3 {w W : World} {n g : Nat} (h : Below n w W) (hg : n ≤ g) (a b c : Value) : Below n w (((W.setCell ⟨g, 0, none⟩ a).setCell ⟨g, 1, none⟩ b).setCell ⟨g, 2, none⟩ c) :=
  ((h.setCell (p := ⟨g, 0, none⟩) hg a).setCell (p := ⟨g, 1, none⟩) hg b).setCell (p := ⟨g, 2, none⟩) hg c
structure Env11 (W1 : World) (gx go : Nat) (ND : Array Value) (W : World) (n e f : Bool) : Prop where
  x : W.heap[gx]? = some (.cells ND 56 (0, 0))
  o : W.heap[go]? = some (.cells #[.bool n, .bool e, .bool f] 45 (0, 0))
  b : Below W1.heap.size W1 W
section
variable {W1 W W' : World} {gx go : Nat} {ND : Array Value} {n e f : Bool}
theorem Env11.put0 (h : Env11 W1 gx go ND W n e f) (h1 : W1.heap.size ≤ go) (h2 : gx ≠ go) (v : Bool) : Env11 W1 gx go ND (W.setCell ⟨go, 0, none⟩ (.bool v)) v e f :=
  ⟨blk_far h.x (p := ⟨go, 0, none⟩) h2 _, blk_put h.o 0 _ rfl, h.b.setCell (p := ⟨go, 0, none⟩) h1 _⟩
theorem Env11.put1 (h : Env11 W1 gx go ND W n e f) (h1 : W1.heap.size ≤ go) (h2 : gx ≠ go) (v : Bool) : Env11 W1 gx go ND (W.setCell ⟨go, 1, none⟩ (.bool v)) n v f :=
  ⟨blk_far h.x (p := ⟨go, 1, none⟩) h2 _, blk_put h.o 1 _ rfl, h.b.setCell (p := ⟨go, 1, none⟩) h1 _⟩
theorem Env11.put2 (h : Env11 W1 gx go ND W n e f) (h1 : W1.heap.size ≤ go) (h2 : gx ≠ go) (v : Bool) : Env11 W1 gx go ND (W.setCell ⟨go, 2, none⟩ (.bool v)) n e v :=
  ⟨blk_far h.x (p := ⟨go, 2, none⟩) h2 _, blk_put h.o 2 _ rfl, h.b.setCell (p := ⟨go, 2, none⟩) h1 _⟩
theorem Env11.below (h : Env11 W1 gx go ND W n e f) (hb : Below W.heap.size W W') : Env11 W1 gx go ND W' n e f := ⟨Qh h.x hb, Qh h.o hb, Qm h.b hb⟩
end
def okk (l : List S45) (c : Int) : Bool := (rd_T45 l c).f0 || (rd_T45 l c).f1
theorem drop_rd (xs : List Int) (j : Int) (h0 : 0 ≤ j) (h1 : j < (xs.length : Int)) : xs.drop j.toNat = rd xs j :: xs.drop (j + 1).toNat := by
  have h : j.toNat < xs.length := by omega
  rw [List.drop_eq_getElem_cons h, show (j + 1).toNat = j.toNat + 1 by omega]
  unfold rd
  rw [List.getD_eq_getElem?_getD, List.getElem?_eq_getElem h]
  rfl
theorem take_rd (xs : List Int) (j : Int) (h0 : 0 ≤ j) (h1 : j < (xs.length : Int)) : xs.take (j + 1).toNat = xs.take j.toNat ++ [rd xs j] := by
  have h : j.toNat < xs.length := by omega
  rw [show (j + 1).toNat = j.toNat + 1 by omega, List.take_succ_eq_append_getElem h]
  unfold rd
  rw [List.getD_eq_getElem?_getD, List.getElem?_eq_getElem h]
  rfl
theorem all_rd (p : Int → Bool) (xs : List Int) (j : Int) (h0 : 0 ≤ j) (h1 : j < (xs.length : Int)) : (xs.take (j + 1).toNat).all p = ((xs.take j.toNat).all p && p (rd xs j)) := by
  rw [take_rd xs j h0 h1, List.all_append]
  simp
theorem drop_end (xs : List Int) (j : Int) (h : ¬ j < (xs.length : Int)) : xs.drop j.toNat = [] := List.drop_eq_nil_of_le (by omega)
theorem wrap_next (j : Int) (n : Nat) (h0 : 0 ≤ j) (h1 : j < (n : Int)) (hn : n ≤ 9223372036854775807) : wrap64 (j + 1) = j + 1 := by unfold wrap64; omega
theorem Qt1 (w : World) (o : Obj) : (w.alloc o).heap.size = w.heap.size + 1 := by simp
end Go.Proofs.Ythgedejnpgcacaa.V
namespace Go.Proofs.Ythgedejnpgcacaa.V
open Go.RowKit Go.Proofs.YthgedejnpgcacaaW.PrintWords Go.Proofs.YthgedejnpgcacaaW.PrintLast Go.Proofs.YthgedejnpgcacaaW.PrintMore
set_option linter.unusedVariables false
set_option linter.unusedSimpArgs false
attribute [local go_sem high] eq54h
set_option maxHeartbeats 4000000 in
set_option maxRecDepth 100000 in
theorem Qa1.calls_sx (A0_0 : Option Addr) (c0_0 : Nat) (l0_0 : List S51) (A0_1 : Option Addr) (c0_1 : Nat) (l0_1 : List S56) (a1 : Int) (A2 : Option Addr) (c2 : Nat) (l2 : List S45) (r1 r2 r3 : Bool) (w : World)
    (hr0_0 : Kd.C k51 w A0_0 l0_0.length l0_0) (hc0_0 : l0_0.length ≤ c0_0) (hr0_1 : Kd.C k56 w A0_1 l0_1.length l0_1) (hc0_1 : l0_1.length ≤ c0_1) (hr2 : Kd.C k45 w A2 l2.length l2) (hc2 : l2.length ≤ c2)
    (hs : Qa (¬ (Ql l0_1 a1).f0 = 0 ∧ ¬ (Ql l0_1 a1).f0 = 1 ∧ ¬ (Ql l0_1 a1).f0 = 2 ∧ ¬ (Ql l0_1 a1).f0 = 3 ∧ ¬ (Ql l0_1 a1).f0 = 4 ∧ ¬ (Ql l0_1 a1).f0 = 5 ∧ ¬ (Ql l0_1 a1).f0 = 6 ∧ ¬ (Ql l0_1 a1).f0 = 7 ∧ ¬ (Ql l0_1 a1).f0 = 8 ∧ ¬ (Ql l0_1 a1).f0 = 9)) (h : Qa1.f l0_0 l0_1 a1 l2 = some (r1, r2, r3)) :
    Calls Try.prog 31 #[.agg #[.slice A0_0 l0_0.length c0_0, .slice A0_1 l0_1.length c0_1], .int .i64 a1, .slice A2 l2.length c2] w fun e w' => e = .returned (.agg #[.bool r1, .bool r2, .bool r3]) ∧ Below w.heap.size w w' := by
  unfold Qa1.f at h
  split at h
  case isFalse => exact absurd h (by simp)
  case isTrue hfit =>
  obtain ⟨p2, p3, hfit⟩ := hfit
  have H : Qa (Qa1.p l0_0 l2 (Ql l0_1 a1) = (r1, r2, r3)) := ⟨Option.some.inj h⟩
  have HF := Qa.mk hfit
  clear h hfit
  have hu25 := Try.underlying25
  have hu45 := Try.underlying45
  have hu56 := Try.underlying56
  have hu51 := Try.underlying51
  have hu54 := Try.underlying54
  have HB := Qa.mk (Qd (Qd (Below.refl w.heap.size w) (.cells #[.slice A0_0 l0_0.length c0_0, .slice A0_1 l0_1.length c0_1] 25)) (.cells #[.bool false, .bool false, .bool false] 45))
  have HG := Qa.mk (Qi (Qf1 w (.cells #[.slice A0_0 l0_0.length c0_0, .slice A0_1 l0_1.length c0_1] 25)) (.cells #[.bool false, .bool false, .bool false] 45))
  have HR := Qa.mk (Qf1 (w.alloc (.cells #[.slice A0_0 l0_0.length c0_0, .slice A0_1 l0_1.length c0_1] 25)) (.cells #[.bool false, .bool false, .bool false] 45))
  have hsz : ((w.alloc (.cells #[.slice A0_0 l0_0.length c0_0, .slice A0_1 l0_1.length c0_1] 25)).alloc (.cells #[.bool false, .bool false, .bool false] 45)).heap.size = w.heap.size + 1 + 1 := by rw [Qt1, Qt1]
  rw [Qt1] at HR
  have HC0 := Qa.mk (Kd.Qn hr0_0 HB.out)
  have HC1 := Qa.mk (Kd.Qn hr0_1 HB.out)
  have HC2 := Qa.mk (Kd.Qn hr2 HB.out)
  have HW := Qa.mk hsz
  clear hr0_0 hr0_1 hr2 hsz
  go_enter Try.func31, Try.ntmps31
  go_upto_region 1 with (fail)
  generalize ((w.alloc (.cells #[.slice A0_0 l0_0.length c0_0, .slice A0_1 l0_1.length c0_1] 25)).alloc (.cells #[.bool false, .bool false, .bool false] 45)) = W1 at HB HG HR HC0 HC1 HC2 HW ⊢
  have g0 : W1.cell? ⟨w.heap.size, 0, none⟩ = some (.slice A0_0 l0_0.length c0_0) := (Qb HG.out 0).trans rfl
  have g1 : W1.cell? ⟨w.heap.size, 1, none⟩ = some (.slice A0_1 l0_1.length c0_1) := (Qb HG.out 1).trans rfl
  obtain ⟨ad, Ak, ck, e, k0, k1, k2, k3, k4, k5, k6, hlk, hCk⟩ := at_T56 HC1.out a1 p2 p3
  cases e
  have HCk := Qa.mk hCk
  have HLk := Qa.mk hlk
  clear hCk hlk HC1
  replace p2 := eq_true p2
  replace p3 := eq_true p3
  go_upto_region 3 with (fail)
  generalize Ql l0_1 a1 = nd at *
  obtain ⟨gx, hgx⟩ : ∃ gx, gx = W1.heap.size := ⟨_, rfl⟩
  obtain ⟨go, hgo⟩ : ∃ go, go = gx + 1 := ⟨_, rfl⟩
  obtain ⟨gb, hgb⟩ : ∃ gb, gb = w.heap.size := ⟨_, rfl⟩
  obtain ⟨gr, hgr⟩ : ∃ gr, gr = gb + 1 := ⟨_, rfl⟩
  rw [← hgb] at HW HG HR
  rw [← hgr] at HR
  have E2 : Qa (Env11 W1 gx go #[.int .i64 nd.f0, .slice Ak nd.f1.length ck, .int .i64 nd.f2, .int .u64 nd.f3.f0, .int .u64 nd.f3.f1, .int .u64 nd.f3.f2, .int .u64 nd.f3.f3] ((W1.alloc (.cells #[.int .i64 nd.f0, .slice Ak nd.f1.length ck, .int .i64 nd.f2, .int .u64 nd.f3.f0, .int .u64 nd.f3.f1, .int .u64 nd.f3.f2, .int .u64 nd.f3.f3] 56)).alloc (.cells #[.bool false, .bool false, .bool false] 45)) false false false) := ⟨by rw [hgx]; exact Qi (Qf1 W1 (.cells #[.int .i64 nd.f0, .slice Ak nd.f1.length ck, .int .i64 nd.f2, .int .u64 nd.f3.f0, .int .u64 nd.f3.f1, .int .u64 nd.f3.f2, .int .u64 nd.f3.f3] 56)) (.cells #[.bool false, .bool false, .bool false] 45), by rw [hgo, hgx]; have := Qf1 (W1.alloc (.cells #[.int .i64 nd.f0, .slice Ak nd.f1.length ck, .int .i64 nd.f2, .int .u64 nd.f3.f0, .int .u64 nd.f3.f1, .int .u64 nd.f3.f2, .int .u64 nd.f3.f3] 56)) (.cells #[.bool false, .bool false, .bool false] 45); rw [Qt1] at this; exact this, Qd (Qd (Below.refl _ _) _) _⟩
  have HLT := Qa.mk (show W1.heap.size ≤ go ∧ gx ≠ go ∧ gb < W1.heap.size ∧ gr < W1.heap.size ∧ gr ≠ go by have := HW.out; omega)
  have HGB := Qa.mk hgb
  have HGR := Qa.mk hgr
  rw [← hgx, ← hgb, ← hgr, ← hgo]
  generalize (W1.alloc (.cells #[.int .i64 nd.f0, .slice Ak nd.f1.length ck, .int .i64 nd.f2, .int .u64 nd.f3.f0, .int .u64 nd.f3.f1, .int .u64 nd.f3.f2, .int .u64 nd.f3.f3] 56)).alloc (.cells #[.bool false, .bool false, .bool false] 45) = W2 at E2 ⊢
  clear k0 k1 k2 k3 k4 k5 k6 g0 g1 HW hgx hgo hgb hgr
  have x0 := (Qb E2.out.x 0).trans rfl
  go_upto_block 0 with fail
  go_cut [] (fun wc => ∃ n e f, Qa ((n, e, f) = (r1, r2, r3)) ∧ Qa (Env11 W1 gx go #[.int .i64 nd.f0, .slice Ak nd.f1.length ck, .int .i64 nd.f2, .int .u64 nd.f3.f0, .int .u64 nd.f3.f1, .int .u64 nd.f3.f2, .int .u64 nd.f3.f3] wc n e f))
  case first =>
   clear x0
   have h := H.out
   clear H
   unfold Qa1.p at h
   have c0 : ¬ nd.f0 = 0 := by have := hs.out; omega
   rw [if_neg c0] at h
   have b0 : (nd.f0 == 0) = false := beq_eq_false_iff_ne.2 c0
   go_upto_region 6 with (fail)
   clear b0
   have c1 : ¬ nd.f0 = 1 := by have := hs.out; omega
   rw [if_neg c1] at h
   have b1 : (nd.f0 == 1) = false := beq_eq_false_iff_ne.2 c1
   go_upto_region 9 with (fail)
   clear b1
   have c2 : ¬ nd.f0 = 2 := by have := hs.out; omega
   rw [if_neg c2] at h
   have b2 : (nd.f0 == 2) = false := beq_eq_false_iff_ne.2 c2
   go_upto_region 11 with (fail)
   clear b2
   have c3 : ¬ nd.f0 = 3 := by have := hs.out; omega
   rw [if_neg c3] at h
   have b3 : (nd.f0 == 3) = false := beq_eq_false_iff_ne.2 c3
   go_upto_region 28 with (fail)
   clear b3
   have c4 : ¬ nd.f0 = 4 := by have := hs.out; omega
   rw [if_neg c4] at h
   have b4 : (nd.f0 == 4) = false := beq_eq_false_iff_ne.2 c4
   go_upto_region 42 with (fail)
   clear b4
   have c5 : ¬ nd.f0 = 5 := by have := hs.out; omega
   rw [if_neg c5] at h
   have b5 : (nd.f0 == 5) = false := beq_eq_false_iff_ne.2 c5
   go_upto_region 45 with (fail)
   clear b5
   have c6 : ¬ nd.f0 = 6 := by have := hs.out; omega
   rw [if_neg c6] at h
   have b6 : (nd.f0 == 6) = false := beq_eq_false_iff_ne.2 c6
   go_upto_region 49 with (fail)
   clear b6
   have c7 : ¬ nd.f0 = 7 := by have := hs.out; omega
   rw [if_neg c7] at h
   have b7 : (nd.f0 == 7) = false := beq_eq_false_iff_ne.2 c7
   go_upto_region 52 with (fail)
   clear b7
   have c8 : ¬ nd.f0 = 8 := by have := hs.out; omega
   rw [if_neg c8] at h
   have b8 : (nd.f0 == 8) = false := beq_eq_false_iff_ne.2 c8
   go_upto_region 55 with (fail)
   clear b8
   have c9 : ¬ nd.f0 = 9 := by have := hs.out; omega
   rw [if_neg c9] at h
   have b9 : (nd.f0 == 9) = false := beq_eq_false_iff_ne.2 c9
   clear c0 c1 c2 c3 c4 c5 c6 c7 c8 c9
   have x0 : W2.cell? ⟨gx, 0, none⟩ = some (.int .i64 nd.f0) := (Qb E2.out.x 0).trans rfl
   go_wp2
   go_meet
   exact ⟨_, _, _, ⟨h⟩, ⟨E2.out⟩⟩
  case rest =>
   clear x0
   obtain ⟨n, e, f, HE, E3⟩ := hcut
   obtain ⟨rfl, rfl, rfl⟩ : n = r1 ∧ e = r2 ∧ f = r3 := by simpa using HE.out
   have o0 : wc.cell? ⟨go, 0, none⟩ = some (.bool n) := (Qb E3.out.o 0).trans rfl
   have r0 : wc.cell? ⟨gr, 0, none⟩ = some (.bool false) := (Qb (Qh HR.out E3.out.b) 0).trans rfl
   have z0 : wc.frozen? ⟨gr, 0, none⟩ = false := Qc (Qh HR.out E3.out.b) 0
   have o1 : wc.cell? ⟨go, 1, none⟩ = some (.bool e) := (Qb E3.out.o 1).trans rfl
   have r1 : wc.cell? ⟨gr, 1, none⟩ = some (.bool false) := (Qb (Qh HR.out E3.out.b) 1).trans rfl
   have z1 : wc.frozen? ⟨gr, 1, none⟩ = false := Qc (Qh HR.out E3.out.b) 1
   have o2 : wc.cell? ⟨go, 2, none⟩ = some (.bool f) := (Qb E3.out.o 2).trans rfl
   have r2 : wc.cell? ⟨gr, 2, none⟩ = some (.bool false) := (Qb (Qh HR.out E3.out.b) 2).trans rfl
   have z2 : wc.frozen? ⟨gr, 2, none⟩ = false := Qc (Qh HR.out E3.out.b) 2
   go_wp2
   refine bodyPost_ret (results_cell_row rfl _ _ gr 45 #[.bool n, .bool e, .bool f] (0, 0) _ rfl (blk3 (Qh HR.out E3.out.b) _ _ _) Try.underlying45 rfl (by kernel_rfl)) rfl ⟨rfl, ?_⟩
   exact below3 (Qm HB.out E3.out.b) (by have := HGB.out; have := HGR.out; omega) _ _ _
end Go.Proofs.Ythgedejnpgcacaa.V
