/- The law NaiveFuel returns true whatever comes in, and leaves its arguments as they were. No condition. -/
import Derived.Test.YthgedejnpgcacaaKNf3
import Derived.StillTailTactics
namespace Go.Proofs.Ythgedejnpgcacaa.V
open Go.RowKit Go.Proofs.YthgedejnpgcacaaW.PrintWords Go.Proofs.YthgedejnpgcacaaW.PrintLast Go.Proofs.YthgedejnpgcacaaW.PrintMore
attribute [local go_sem] max2_int min2_int max_two min_two max_three min_three max_four min_four
set_option linter.unusedVariables false
set_option linter.unusedSimpArgs false
attribute [local go_sem high] eqA32
def vetchlaw18_NaiveFuel.j0 : Nat → ByteArray → Int → Int → Bool → List (S51) → List (S56) → Option (Bool)
 | 0, _, _, _, _, _, _ => none
 | k + 1, x1, x2, x3, x19, x252000, x252001 => if x19 = true then ((vetchlaw18_awake.f k).bind fun t254 => (some t254)) else ((naive_Run.f k x252000 x252001 x1 x2).bind fun bt255 => ((naive_Run.f k x252000 x252001 x1 (wrap64 (x2 + (wrap64 (x3))))).bind fun bt259 => (if bt255.1 = true then (if bt259.1 = true then (if bt259.2.1 = bt255.2.1 then (if bt259.2.2 = (wrap64 (bt255.2.2 + (wrap64 (x3)))) then (if bt255.2.2 ≥ 0 then (if bt255.2.2 < x2 then (if bt255.2.1 ≥ (-1) then (some (decide (bt255.2.1 ≤ (x1.size : Int)))) else (some false)) else (some false)) else (some false)) else (some false)) else (some false)) else (some false)) else (some (!bt255.1 && (bt255.2.1 == 0 && (bt255.2.2 == 0)))))))
def vetchlaw18_NaiveFuel.f (k : Nat) (l0_0 : List (S51)) (l0_1 : List (S56)) (a1 : ByteArray) (a2 : Int) (a3 : Int) : Option (Bool) := (vetchlaw18_awake.f k).bind fun t252 => (if t252 = true then ((vetchlaw18_fits.f k l0_0 l0_1 a1 a2).bind fun t253 => (vetchlaw18_NaiveFuel.j0 k a1 a2 a3 (!t253) l0_0 l0_1)) else (vetchlaw18_NaiveFuel.j0 k a1 a2 a3 true l0_0 l0_1))
theorem vetchlaw18_NaiveFuel.mono_l : ∀ k, (∀ y0 y1 y2 y3 y4 y5, LeO (vetchlaw18_NaiveFuel.j0 k y0 y1 y2 y3 y4 y5) (vetchlaw18_NaiveFuel.j0 (k + 1) y0 y1 y2 y3 y4 y5))
 | 0 => fun _ _ _ _ _ _ r h => by simp [vetchlaw18_NaiveFuel.j0] at h
 | k + 1 => by
  have ih0 := vetchlaw18_NaiveFuel.mono_l k
  ·
   intro y0 y1 y2 y3 y4 y5
   unfold vetchlaw18_NaiveFuel.j0
   repeat' first
   | (with_reducible exact ih0 _ _ _ _ _ _)
   | (with_reducible exact naive_Run.mono _ _ _ _ _)
   | (with_reducible exact vetchlaw18_awake.mono _)
   | (with_reducible exact vetchlaw18_fits.mono _ _ _ _ _)
   | (with_reducible exact LeO.refl _)
   | (with_reducible exact LeO.none _)
   | (with_reducible refine LeO.ite ?_ ?_)
   | (with_reducible refine LeO.bind ?_ (fun _ => ?_))
   | exact ih0 _ _ _ _ _ _
   | exact naive_Run.mono _ _ _ _ _
   | exact vetchlaw18_awake.mono _
   | exact vetchlaw18_fits.mono _ _ _ _ _
   | exact LeO.none _
   | refine LeO.ite ?_ ?_
   | refine LeO.bind ?_ (fun _ => ?_)
theorem vetchlaw18_NaiveFuel.mono : ∀ a0 a1 a2 a3 a4 k, LeO (vetchlaw18_NaiveFuel.f k a0 a1 a2 a3 a4) (vetchlaw18_NaiveFuel.f (k + 1) a0 a1 a2 a3 a4) := by
 intro a0 a1 a2 a3 a4 k
 have ih0 := vetchlaw18_NaiveFuel.mono_l k
 unfold vetchlaw18_NaiveFuel.f
 repeat' first
  | (with_reducible exact ih0 _ _ _ _ _ _)
  | (with_reducible exact naive_Run.mono _ _ _ _ _)
  | (with_reducible exact vetchlaw18_awake.mono _)
  | (with_reducible exact vetchlaw18_fits.mono _ _ _ _ _)
  | (with_reducible exact LeO.refl _)
  | (with_reducible exact LeO.none _)
  | (with_reducible refine LeO.ite ?_ ?_)
  | (with_reducible refine LeO.bind ?_ (fun _ => ?_))
  | exact ih0 _ _ _ _ _ _
  | exact naive_Run.mono _ _ _ _ _
  | exact vetchlaw18_awake.mono _
  | exact vetchlaw18_fits.mono _ _ _ _ _
  | exact LeO.none _
  | refine LeO.ite ?_ ?_
  | refine LeO.bind ?_ (fun _ => ?_)
set_option maxHeartbeats 8000000 in
set_option maxRecDepth 100000 in
theorem vetchlaw18_NaiveFuel.calls (k : Nat) (A0_0 : Option Addr) (c0_0 : Nat) (l0_0 : List (S51)) (A0_1 : Option Addr) (c0_1 : Nat) (l0_1 : List (S56)) (a1 : ByteArray) (a2 : Int) (a3 : Int) (r : Bool) (w : World) (hr0_0 : Kd.C k51 w A0_0 l0_0.length l0_0) (hc0_0 : l0_0.length ≤ c0_0) (hr0_1 : Kd.C k56 w A0_1 l0_1.length l0_1) (hc0_1 : l0_1.length ≤ c0_1) (h : vetchlaw18_NaiveFuel.f k l0_0 l0_1 a1 a2 a3 = some r) :
 Calls Try.prog 4 #[.agg #[.slice A0_0 l0_0.length c0_0, .slice A0_1 l0_1.length c0_1], .string a1, .int .i64 a2, .int .u8 a3] w fun e w' => e = .returned (.bool r) ∧ Below w.heap.size w w' := by
 have hu25 := Try.underlying25
 have hu32 := Try.underlying32
 have HR0_0 := Aside0.mk hr0_0
 have HC0_0 := Aside0.mk hc0_0
 clear hr0_0 hc0_0
 have HR0_1 := Aside0.mk hr0_1
 have HC0_1 := Aside0.mk hc0_1
 clear hr0_1 hc0_1
 have HB := Aside0.mk (Below.refl w.heap.size w)
 have H : ((vetchlaw18_awake.f k).bind fun t252 => (if t252 = true then ((vetchlaw18_fits.f k l0_0 l0_1 a1 a2).bind fun t253 => (vetchlaw18_NaiveFuel.j0 k a1 a2 a3 (!t253) l0_0 l0_1)) else (vetchlaw18_NaiveFuel.j0 k a1 a2 a3 true l0_0 l0_1))) = some r := h
 clear h
 have HC5 := Aside0.mk H
 clear H
 go_enter Try.func4, Try.ntmps4
 go_upto_region 1 with (first | ((with_reducible refine gate_dst (N := 4) rfl ?_); (try (refine gate_guard (by rfl) ?_; dsimp only)); refine box_event ?hg (N := 4) ?hd (cs := #[.slice A0_0 l0_0.length c0_0, .slice A0_1 l0_1.length c0_1]) (t := 25) ?hr ?_; (case hd => rfl); (case hg => rfl); (case hr => first | (go_simp; done) | (go_simp; rfl)); intro gb251 hg w6 hbox hb; have n0_ := Aside0.mk (below_step (by repeat (first | (with_reducible first | exact HB.out | apply below_alloc | apply pw_below_drewN | apply below_drew1) | exact HB.out)) hb); have n1_ := Aside0.mk (hbox); have n2_ := Aside0.mk ((by rw [hg]; exact (below_size (by repeat (first | (with_reducible first | exact HB.out | apply below_alloc | apply pw_below_drewN | apply below_drew1) | exact HB.out))) : w.heap.size ≤ gb251)); have n3_ := Aside0.mk ((by rw [hg]; exact (below_size (by repeat (first | (with_reducible first | exact HB.out | apply below_alloc | apply pw_below_drewN | apply below_drew1) | exact HB.out))) : w.heap.size ≤ gb251)); clear HB; have HB := n0_; have BK251 := n1_; have GW251 := n2_; have GE251 := n3_; clear n0_ n1_ n2_ n3_; clear hb hbox hg))
 (try simp only [Act.put, List.setIfInBounds_toArray, List.set_cons_zero, List.set_cons_succ])
 go_cut [19] (fun v19 wc => ∃ (kq : Nat) (x19_4 : Bool), v19 = .bool x19_4 ∧ Aside0 (vetchlaw18_NaiveFuel.j0 kq a1 a2 a3 x19_4 l0_0 l0_1 = some r) ∧ Aside0 (kq ≤ k) ∧ Aside0 (wc.heap[gb251]? = some (.cells #[(.slice A0_0 l0_0.length c0_0), (.slice A0_1 l0_1.length c0_1)] 25 (0, 0))) ∧ Aside0 (Below w.heap.size w wc))
 case first =>
  have H := HC5.out
  clear HC5
  replace H := Option.bind_eq_some_iff.mp H
  obtain ⟨t252, A70, H⟩ := H
  replace H : (if t252 = true then ((vetchlaw18_fits.f k l0_0 l0_1 a1 a2).bind fun t253 => (vetchlaw18_NaiveFuel.j0 k a1 a2 a3 (!t253) l0_0 l0_1)) else (vetchlaw18_NaiveFuel.j0 k a1 a2 a3 true l0_0 l0_1)) = some r := H
  have A7 := Aside0.mk A70
  clear A70
  by_cases c8 : t252 = true
  ·
   subst c8
   have H1 : ((vetchlaw18_fits.f k l0_0 l0_1 a1 a2).bind fun t253 => (vetchlaw18_NaiveFuel.j0 k a1 a2 a3 (!t253) l0_0 l0_1)) = some r := by rw [if_pos rfl] at H; exact H
   clear H
   have H := H1
   clear H1
   replace H := Option.bind_eq_some_iff.mp H
   obtain ⟨t253, A90, H⟩ := H
   replace H : (vetchlaw18_NaiveFuel.j0 k a1 a2 a3 (!t253) l0_0 l0_1) = some r := H
   have A9 := Aside0.mk A90
   clear A90
   have H' := Aside0.mk H
   clear H
   go_wp2_with (first | ((with_reducible refine gate_callee (f := 9) rfl ?_); refine goesL_ (some 11) rfl rfl Try.func9 (by kernel_rfl) rfl #[] rfl (by (try simp only [List.map_toArray, List.map_cons, List.map_nil]); first | done | rfl | (simp only [List.length_drop, List.length_take]; rfl)) ?_; (with_reducible refine (vetchlaw18_awake.calls k  true _ A7.out).mono ?_); rintro e w10 ⟨rfl, hb⟩; refine ⟨_, rfl, ?_⟩; have n0_ := Aside0.mk (blk_below (g := gb251) (o := .cells #[.slice A0_0 l0_0.length c0_0, .slice A0_1 l0_1.length c0_1] 25 (0, 0)) (by (with_reducible repeat (first | refine blk_drewN ?_ _ | refine blk_drew ?_ | refine blk_alloc ?_ _)); exact BK251.out) hb); have n1_ := Aside0.mk (below_step (by repeat (first | (with_reducible first | exact HB.out | apply below_alloc | apply pw_below_drewN | apply below_drew1 | refine below_set ?_ GE251.out) | exact HB.out)) hb); clear BK251; clear HB; have BK251 := n0_; have HB := n1_; clear n0_ n1_; (try clear hb); (try clear hb2); (try clear hk); (try clear hi); have hcz11_0 : w10.cell? ⟨gb251, 0, none⟩ = some (.slice A0_0 l0_0.length c0_0) := (blk_cell BK251.out 0).trans rfl; have hcz11_1 : w10.cell? ⟨gb251, 1, none⟩ = some (.slice A0_1 l0_1.length c0_1) := (blk_cell BK251.out 1).trans rfl; have hfz11_0 := blk_frozen BK251.out 0; have hfz11_1 := blk_frozen BK251.out 1) | (go_at_call 10; (with_reducible refine (vetchlaw18_fits.calls k _ _ l0_0 _ _ l0_1 a1 a2 t253 _ ?side1 ?side2 ?side3 ?side4 A9.out).mono ?_); (case side1 => repeat (first | exact (Kd.C_below HR0_0.out HB.out) | (with_reducible refine Kd.C_alloc ?_ _) | (with_reducible refine Kd.C_drewN ?_ _) | (with_reducible refine Kd.C_drew ?_))); (case side2 => exact HC0_0.out); (case side3 => repeat (first | exact (Kd.C_below HR0_1.out HB.out) | (with_reducible refine Kd.C_alloc ?_ _) | (with_reducible refine Kd.C_drewN ?_ _) | (with_reducible refine Kd.C_drew ?_))); (case side4 => exact HC0_1.out); rintro e w12 ⟨rfl, hb⟩; have n0_ := Aside0.mk (blk_below (g := gb251) (o := .cells #[.slice A0_0 l0_0.length c0_0, .slice A0_1 l0_1.length c0_1] 25 (0, 0)) (by (with_reducible repeat (first | refine blk_drewN ?_ _ | refine blk_drew ?_ | refine blk_alloc ?_ _)); exact BK251.out) hb); have n1_ := Aside0.mk (below_step (by repeat (first | (with_reducible first | exact HB.out | apply below_alloc | apply pw_below_drewN | apply below_drew1 | refine below_set ?_ GE251.out) | exact HB.out)) hb); clear BK251; clear HB; have BK251 := n0_; have HB := n1_; clear n0_ n1_; (try clear hb); (try clear hb2); (try clear hk); (try clear hi)))
   go_meet
   case rel => exact ⟨_, (!t253), (by first | rfl | (simp; done) | (simp [*]; done)), H', ⟨by first | omega | exact Nat.le_refl _⟩, ⟨by (with_reducible repeat (first | refine blk_drewN ?_ _ | refine blk_drew ?_ | refine blk_alloc ?_ _)); exact BK251.out⟩, ⟨by repeat (first | (with_reducible first | exact HB.out | apply below_alloc | apply pw_below_drewN | apply below_drew1 | refine below_set ?_ GE251.out) | exact HB.out)⟩⟩
  ·
   replace c8 := Bool.eq_false_iff.mpr c8
   subst c8
   have H1 : (vetchlaw18_NaiveFuel.j0 k a1 a2 a3 true l0_0 l0_1) = some r := by rw [if_neg (show ¬ (false = true) by decide)] at H; exact H
   clear H
   have H := H1
   clear H1
   have H' := Aside0.mk H
   clear H
   go_wp2_with (first | ((with_reducible refine gate_callee (f := 9) rfl ?_); refine goesL_ (some 11) rfl rfl Try.func9 (by kernel_rfl) rfl #[] rfl (by (try simp only [List.map_toArray, List.map_cons, List.map_nil]); first | done | rfl | (simp only [List.length_drop, List.length_take]; rfl)) ?_; (with_reducible refine (vetchlaw18_awake.calls k  false _ A7.out).mono ?_); rintro e w13 ⟨rfl, hb⟩; refine ⟨_, rfl, ?_⟩; have n0_ := Aside0.mk (blk_below (g := gb251) (o := .cells #[.slice A0_0 l0_0.length c0_0, .slice A0_1 l0_1.length c0_1] 25 (0, 0)) (by (with_reducible repeat (first | refine blk_drewN ?_ _ | refine blk_drew ?_ | refine blk_alloc ?_ _)); exact BK251.out) hb); have n1_ := Aside0.mk (below_step (by repeat (first | (with_reducible first | exact HB.out | apply below_alloc | apply pw_below_drewN | apply below_drew1 | refine below_set ?_ GE251.out) | exact HB.out)) hb); clear BK251; clear HB; have BK251 := n0_; have HB := n1_; clear n0_ n1_; (try clear hb); (try clear hb2); (try clear hk); (try clear hi)))
   go_meet
   case rel => exact ⟨_, (true), (by first | rfl | (simp; done) | (simp [*]; done)), H', ⟨by first | omega | exact Nat.le_refl _⟩, ⟨by (with_reducible repeat (first | refine blk_drewN ?_ _ | refine blk_drew ?_ | refine blk_alloc ?_ _)); exact BK251.out⟩, ⟨by repeat (first | (with_reducible first | exact HB.out | apply below_alloc | apply pw_below_drewN | apply below_drew1 | refine below_set ?_ GE251.out) | exact HB.out)⟩⟩
 case rest =>
  clear HC5
  try clear p2
  try clear c4
  try clear c8
  try clear c9
  try clear hcz11_0
  try clear hcz11_1
  try clear hfz11_0
  try clear hfz11_1
  obtain ⟨kq, x19_4, rfl, HA, HJ4, BK251, HB⟩ := hcut
  cases kq with
  | zero => exact absurd HA.out (by simp [vetchlaw18_NaiveFuel.j0])
  | succ kj4 =>
   have H := HA.out
   clear HA
   simp only [vetchlaw18_NaiveFuel.j0] at H
   by_cases c14 : x19_4 = true
   ·
    subst c14
    have H1 : ((vetchlaw18_awake.f kj4).bind fun t254 => (some t254)) = some r := by rw [if_pos rfl] at H; exact H
    clear H
    have H := H1
    clear H1
    replace H := Option.bind_eq_some_iff.mp H
    obtain ⟨t254, A150, H⟩ := H
    replace H : (some t254) = some r := H
    have A15 := Aside0.mk A150
    clear A150
    obtain rfl := Option.some.inj H
    go_wp2_with (first | ((with_reducible refine gate_callee (f := 9) rfl ?_); refine goesL_ (some 20) rfl rfl Try.func9 (by kernel_rfl) rfl #[] rfl (by (try simp only [List.map_toArray, List.map_cons, List.map_nil]); first | done | rfl | (simp only [List.length_drop, List.length_take]; rfl)) ?_; (with_reducible refine (vetchlaw18_awake.calls kj4  t254 _ A15.out).mono ?_); rintro e w16 ⟨rfl, hb⟩; refine ⟨_, rfl, ?_⟩; have n0_ := Aside0.mk (blk_below (g := gb251) (o := .cells #[.slice A0_0 l0_0.length c0_0, .slice A0_1 l0_1.length c0_1] 25 (0, 0)) (by (with_reducible repeat (first | refine blk_drewN ?_ _ | refine blk_drew ?_ | refine blk_alloc ?_ _)); exact BK251.out) hb); have n1_ := Aside0.mk (below_step (by repeat (first | (with_reducible first | exact HB.out | apply below_alloc | apply pw_below_drewN | apply below_drew1 | refine below_set ?_ GE251.out) | exact HB.out)) hb); clear BK251; clear HB; have BK251 := n0_; have HB := n1_; clear n0_ n1_; (try clear hb); (try clear hb2); (try clear hk); (try clear hi)))
    go_ret
    exact ⟨by first | rfl | (simp [errW_none, errW_some] <;> rfl) | (simp [*, errW_none, errW_some] <;> rfl), by repeat (first | (with_reducible first | exact HB.out | apply below_alloc | apply pw_below_drewN | apply below_drew1 | refine below_set ?_ GE251.out) | exact HB.out)⟩
   ·
    replace c14 := Bool.eq_false_iff.mpr c14
    subst c14
    have H1 : ((naive_Run.f kj4 l0_0 l0_1 a1 a2).bind fun bt255 => ((naive_Run.f kj4 l0_0 l0_1 a1 (wrap64 (a2 + (wrap64 (a3))))).bind fun bt259 => (if bt255.1 = true then (if bt259.1 = true then (if bt259.2.1 = bt255.2.1 then (if bt259.2.2 = (wrap64 (bt255.2.2 + (wrap64 (a3)))) then (if bt255.2.2 ≥ 0 then (if bt255.2.2 < a2 then (if bt255.2.1 ≥ (-1) then (some (decide (bt255.2.1 ≤ (a1.size : Int)))) else (some false)) else (some false)) else (some false)) else (some false)) else (some false)) else (some false)) else (some (!bt255.1 && (bt255.2.1 == 0 && (bt255.2.2 == 0))))))) = some r := by rw [if_neg (show ¬ (false = true) by decide)] at H; exact H
    clear H
    have H := H1
    clear H1
    replace H := Option.bind_eq_some_iff.mp H
    obtain ⟨⟨t255, t256, t257⟩, A170, H⟩ := H
    replace H : ((naive_Run.f kj4 l0_0 l0_1 a1 (wrap64 (a2 + (wrap64 (a3))))).bind fun bt259 => (if t255 = true then (if bt259.1 = true then (if bt259.2.1 = t256 then (if bt259.2.2 = (wrap64 (t257 + (wrap64 (a3)))) then (if t257 ≥ 0 then (if t257 < a2 then (if t256 ≥ (-1) then (some (decide (t256 ≤ (a1.size : Int)))) else (some false)) else (some false)) else (some false)) else (some false)) else (some false)) else (some false)) else (some (!t255 && (t256 == 0 && (t257 == 0)))))) = some r := H
    have A17 := Aside0.mk A170
    clear A170
    replace H := Option.bind_eq_some_iff.mp H
    obtain ⟨⟨t259, t260, t261⟩, A180, H⟩ := H
    replace H : (if t255 = true then (if t259 = true then (if t260 = t256 then (if t261 = (wrap64 (t257 + (wrap64 (a3)))) then (if t257 ≥ 0 then (if t257 < a2 then (if t256 ≥ (-1) then (some (decide (t256 ≤ (a1.size : Int)))) else (some false)) else (some false)) else (some false)) else (some false)) else (some false)) else (some false)) else (some (!t255 && (t256 == 0 && (t257 == 0))))) = some r := H
    have A18 := Aside0.mk A180
    clear A180
    by_cases c19 : t255 = true
    ·
     subst c19
     have H1 : (if t259 = true then (if t260 = t256 then (if t261 = (wrap64 (t257 + (wrap64 (a3)))) then (if t257 ≥ 0 then (if t257 < a2 then (if t256 ≥ (-1) then (some (decide (t256 ≤ (a1.size : Int)))) else (some false)) else (some false)) else (some false)) else (some false)) else (some false)) else (some false)) = some r := by rw [if_pos rfl] at H; exact H
     clear H
     have H := H1
     clear H1
     by_cases c20 : t259 = true
     ·
      subst c20
      have H1 : (if t260 = t256 then (if t261 = (wrap64 (t257 + (wrap64 (a3)))) then (if t257 ≥ 0 then (if t257 < a2 then (if t256 ≥ (-1) then (some (decide (t256 ≤ (a1.size : Int)))) else (some false)) else (some false)) else (some false)) else (some false)) else (some false)) = some r := by rw [if_pos rfl] at H; exact H
      clear H
      have H := H1
      clear H1
      by_cases c21 : t260 = t256
      ·
       rw [if_pos c21] at H
       have c21b0 : (t260 == t256) = true := beq_iff_eq.mpr c21
       have c21b1 : (t260 != t256) = false := bne_eq_false_iff_eq.mpr c21
       clear c21
       by_cases c22 : t261 = (wrap64 (t257 + (wrap64 (a3))))
       ·
        rw [if_pos c22] at H
        have c22b0 : (t261 == (wrap64 (t257 + (wrap64 (a3))))) = true := beq_iff_eq.mpr c22
        have c22b1 : (t261 != (wrap64 (t257 + (wrap64 (a3))))) = false := bne_eq_false_iff_eq.mpr c22
        clear c22
        by_cases c23 : t257 ≥ 0
        ·
         rw [if_pos c23] at H
         have c23b0 : decide (0 ≤ t257) = true := decide_eq_true c23
         clear c23
         by_cases c24 : t257 < a2
         ·
          rw [if_pos c24] at H
          have c24b0 : decide (t257 < a2) = true := decide_eq_true c24
          clear c24
          by_cases c25 : t256 ≥ (-1)
          ·
           rw [if_pos c25] at H
           have c25b0 : decide ((-1) ≤ t256) = true := decide_eq_true c25
           clear c25
           obtain rfl := Option.some.inj H
           have hcz26_0 : wc.cell? ⟨gb251, 0, none⟩ = some (.slice A0_0 l0_0.length c0_0) := (blk_cell BK251.out 0).trans rfl
           have hcz26_1 : wc.cell? ⟨gb251, 1, none⟩ = some (.slice A0_1 l0_1.length c0_1) := (blk_cell BK251.out 1).trans rfl
           have hfz26_0 := blk_frozen BK251.out 0
           have hfz26_1 := blk_frozen BK251.out 1
           go_wp2_with (first | ((with_reducible refine gate_callee (f := 13) rfl ?_); refine goesL_ (some 24) rfl rfl Try.func13 (by kernel_rfl) rfl #[.agg #[.slice A0_0 l0_0.length c0_0, .slice A0_1 l0_1.length c0_1], .string a1, .int .i64 a2] rfl (by (try simp only [List.map_toArray, List.map_cons, List.map_nil]); first | done | rfl | (simp only [List.length_drop, List.length_take]; rfl)) ?_; (with_reducible refine (naive_Run.calls kj4 _ _ l0_0 _ _ l0_1 a1 a2 true t256 t257 _ ?side1 ?side2 ?side3 ?side4 A17.out).mono ?_); (case side1 => repeat (first | exact (Kd.C_below HR0_0.out HB.out) | (with_reducible refine Kd.C_alloc ?_ _) | (with_reducible refine Kd.C_drewN ?_ _) | (with_reducible refine Kd.C_drew ?_))); (case side2 => exact HC0_0.out); (case side3 => repeat (first | exact (Kd.C_below HR0_1.out HB.out) | (with_reducible refine Kd.C_alloc ?_ _) | (with_reducible refine Kd.C_drewN ?_ _) | (with_reducible refine Kd.C_drew ?_))); (case side4 => exact HC0_1.out); rintro e w27 ⟨rfl, hb⟩; refine ⟨_, rfl, ?_⟩; have n0_ := Aside0.mk (blk_below (g := gb251) (o := .cells #[.slice A0_0 l0_0.length c0_0, .slice A0_1 l0_1.length c0_1] 25 (0, 0)) (by (with_reducible repeat (first | refine blk_drewN ?_ _ | refine blk_drew ?_ | refine blk_alloc ?_ _)); exact BK251.out) hb); have n1_ := Aside0.mk (below_step (by repeat (first | (with_reducible first | exact HB.out | apply below_alloc | apply pw_below_drewN | apply below_drew1 | refine below_set ?_ GE251.out) | exact HB.out)) hb); clear BK251; clear HB; have BK251 := n0_; have HB := n1_; clear n0_ n1_; (try clear hb); (try clear hb2); (try clear hk); (try clear hi)) | ((with_reducible refine gate_dst (N := 9) rfl ?_); (try (refine gate_guard (by rfl) ?_; dsimp only)); refine box_event ?hg (N := 9) ?hd (cs := #[.bool false, .int .i64 0, .int .i64 0]) (t := 32) ?hr ?_; (case hd => rfl); (case hg => rfl); (case hr => first | (go_simp; done) | (go_simp; rfl)); intro gb258 hg w28 hbox hb; have n0_ := Aside0.mk (blk_below (g := gb251) (o := .cells #[.slice A0_0 l0_0.length c0_0, .slice A0_1 l0_1.length c0_1] 25 (0, 0)) (by (with_reducible repeat (first | refine blk_drewN ?_ _ | refine blk_drew ?_ | refine blk_alloc ?_ _)); exact BK251.out) hb); have n1_ := Aside0.mk (below_step (by repeat (first | (with_reducible first | exact HB.out | apply below_alloc | apply pw_below_drewN | apply below_drew1 | refine below_set ?_ GE251.out) | exact HB.out)) hb); have n2_ := Aside0.mk (hbox); have n3_ := Aside0.mk ((by rw [hg]; exact (below_size (by repeat (first | (with_reducible first | exact HB.out | apply below_alloc | apply pw_below_drewN | apply below_drew1 | refine below_set ?_ GE251.out) | exact HB.out))) : w.heap.size ≤ gb258)); have n4_ := Aside0.mk ((by rw [hg]; exact (below_size (by repeat (first | (with_reducible first | exact HB.out | apply below_alloc | apply pw_below_drewN | apply below_drew1 | refine below_set ?_ GE251.out) | exact HB.out))) : w.heap.size ≤ gb258)); have n5_ := Aside0.mk ((by rw [hg]; exact Nat.ne_of_lt (blk_lt (g := gb251) (o := .cells #[.slice A0_0 l0_0.length c0_0, .slice A0_1 l0_1.length c0_1] 25 (0, 0)) (by (with_reducible repeat (first | refine blk_drewN ?_ _ | refine blk_drew ?_ | refine blk_alloc ?_ _)); exact BK251.out)) : gb251 ≠ gb258)); have n6_ := Aside0.mk ((by rw [hg]; exact Nat.ne_of_gt (blk_lt (g := gb251) (o := .cells #[.slice A0_0 l0_0.length c0_0, .slice A0_1 l0_1.length c0_1] 25 (0, 0)) (by (with_reducible repeat (first | refine blk_drewN ?_ _ | refine blk_drew ?_ | refine blk_alloc ?_ _)); exact BK251.out)) : gb258 ≠ gb251)); clear BK251; clear HB; have BK251 := n0_; have HB := n1_; have BK258 := n2_; have GW258 := n3_; have GE258 := n4_; have NB251_258 := n5_; have NB258_251 := n6_; clear n0_ n1_ n2_ n3_ n4_ n5_ n6_; clear hb hbox hg; have hnb29 := NB258_251.out; have hnc29 := NB251_258.out; have hcz30_0 : w28.cell? ⟨gb258, 0, none⟩ = some (.bool false) := (blk_cell BK258.out 0).trans rfl; have hcz30_1 : w28.cell? ⟨gb258, 1, none⟩ = some (.int .i64 0) := (blk_cell BK258.out 1).trans rfl; have hcz30_2 : w28.cell? ⟨gb258, 2, none⟩ = some (.int .i64 0) := (blk_cell BK258.out 2).trans rfl; have hfz30_0 := blk_frozen BK258.out 0; have hfz30_1 := blk_frozen BK258.out 1; have hfz30_2 := blk_frozen BK258.out 2; have hcz31_0 : w28.cell? ⟨gb251, 0, none⟩ = some (.slice A0_0 l0_0.length c0_0) := (blk_cell BK251.out 0).trans rfl; have hcz31_1 : w28.cell? ⟨gb251, 1, none⟩ = some (.slice A0_1 l0_1.length c0_1) := (blk_cell BK251.out 1).trans rfl; have hfz31_0 := blk_frozen BK251.out 0; have hfz31_1 := blk_frozen BK251.out 1) | ((with_reducible refine gate_callee (f := 13) rfl ?_); refine goesL_ (some 31) rfl rfl Try.func13 (by kernel_rfl) rfl #[.agg #[.slice A0_0 l0_0.length c0_0, .slice A0_1 l0_1.length c0_1], .string a1, .int .i64 (wrap64 (a2 + (wrap64 (a3))))] rfl (by (try simp only [List.map_toArray, List.map_cons, List.map_nil]); first | done | rfl | (simp only [List.length_drop, List.length_take]; rfl)) ?_; (with_reducible refine (naive_Run.calls kj4 _ _ l0_0 _ _ l0_1 a1 (wrap64 (a2 + (wrap64 (a3)))) true t260 t261 _ ?side1 ?side2 ?side3 ?side4 A18.out).mono ?_); (case side1 => exact Kd.C_below HR0_0.out (by repeat (first | (with_reducible first | exact HB.out | apply below_alloc | apply pw_below_drewN | apply below_drew1 | refine below_set ?_ GE251.out | refine below_set ?_ GE258.out) | exact HB.out))); (case side2 => exact HC0_0.out); (case side3 => exact Kd.C_below HR0_1.out (by repeat (first | (with_reducible first | exact HB.out | apply below_alloc | apply pw_below_drewN | apply below_drew1 | refine below_set ?_ GE251.out | refine below_set ?_ GE258.out) | exact HB.out))); (case side4 => exact HC0_1.out); rintro e w32 ⟨rfl, hb⟩; refine ⟨_, rfl, ?_⟩; have n0_ := Aside0.mk (blk_below (g := gb251) (o := .cells #[.slice A0_0 l0_0.length c0_0, .slice A0_1 l0_1.length c0_1] 25 (0, 0)) (by (with_reducible repeat (first | refine blk_drewN ?_ _ | refine blk_drew ?_ | refine blk_alloc ?_ _)); refine blk_far ?_ NB251_258.out _; (with_reducible repeat (first | refine blk_drewN ?_ _ | refine blk_drew ?_ | refine blk_alloc ?_ _)); refine blk_far ?_ NB251_258.out _; (with_reducible repeat (first | refine blk_drewN ?_ _ | refine blk_drew ?_ | refine blk_alloc ?_ _)); refine blk_far ?_ NB251_258.out _; (with_reducible repeat (first | refine blk_drewN ?_ _ | refine blk_drew ?_ | refine blk_alloc ?_ _)); exact BK251.out) hb); have n1_ := Aside0.mk (blk_below (g := gb258) (o := .cells #[.bool true, .int .i64 t256, .int .i64 t257] 32 (0, 0)) (by (with_reducible repeat (first | refine blk_drewN ?_ _ | refine blk_drew ?_ | refine blk_alloc ?_ _)); refine blk_put (cs := #[.bool true, .int .i64 t256, .int .i64 0]) ?_ 2 _ rfl; (with_reducible repeat (first | refine blk_drewN ?_ _ | refine blk_drew ?_ | refine blk_alloc ?_ _)); refine blk_put (cs := #[.bool true, .int .i64 0, .int .i64 0]) ?_ 1 _ rfl; (with_reducible repeat (first | refine blk_drewN ?_ _ | refine blk_drew ?_ | refine blk_alloc ?_ _)); refine blk_put (cs := #[.bool false, .int .i64 0, .int .i64 0]) ?_ 0 _ rfl; (with_reducible repeat (first | refine blk_drewN ?_ _ | refine blk_drew ?_ | refine blk_alloc ?_ _)); exact BK258.out) hb); have n2_ := Aside0.mk (below_step (by repeat (first | (with_reducible first | exact HB.out | apply below_alloc | apply pw_below_drewN | apply below_drew1 | refine below_set ?_ GE251.out | refine below_set ?_ GE258.out) | exact HB.out)) hb); clear BK251; clear BK258; clear HB; have BK251 := n0_; have BK258 := n1_; have HB := n2_; clear n0_ n1_ n2_; (try clear hb); (try clear hb2); (try clear hk); (try clear hi)) | ((with_reducible refine gate_dst (N := 10) rfl ?_); (try (refine gate_guard (by rfl) ?_; dsimp only)); refine box_event ?hg (N := 10) ?hd (cs := #[.bool false, .int .i64 0, .int .i64 0]) (t := 32) ?hr ?_; (case hd => rfl); (case hg => rfl); (case hr => first | (go_simp; done) | (go_simp; rfl)); intro gb262 hg w33 hbox hb; have n0_ := Aside0.mk (blk_below (g := gb251) (o := .cells #[.slice A0_0 l0_0.length c0_0, .slice A0_1 l0_1.length c0_1] 25 (0, 0)) (by (with_reducible repeat (first | refine blk_drewN ?_ _ | refine blk_drew ?_ | refine blk_alloc ?_ _)); exact BK251.out) hb); have n1_ := Aside0.mk (blk_below (g := gb258) (o := .cells #[.bool true, .int .i64 t256, .int .i64 t257] 32 (0, 0)) (by (with_reducible repeat (first | refine blk_drewN ?_ _ | refine blk_drew ?_ | refine blk_alloc ?_ _)); exact BK258.out) hb); have n2_ := Aside0.mk (below_step (by repeat (first | (with_reducible first | exact HB.out | apply below_alloc | apply pw_below_drewN | apply below_drew1 | refine below_set ?_ GE251.out | refine below_set ?_ GE258.out) | exact HB.out)) hb); have n3_ := Aside0.mk (hbox); have n4_ := Aside0.mk ((by rw [hg]; exact (below_size (by repeat (first | (with_reducible first | exact HB.out | apply below_alloc | apply pw_below_drewN | apply below_drew1 | refine below_set ?_ GE251.out | refine below_set ?_ GE258.out) | exact HB.out))) : w.heap.size ≤ gb262)); have n5_ := Aside0.mk ((by rw [hg]; exact (below_size (by repeat (first | (with_reducible first | exact HB.out | apply below_alloc | apply pw_below_drewN | apply below_drew1 | refine below_set ?_ GE251.out | refine below_set ?_ GE258.out) | exact HB.out))) : w.heap.size ≤ gb262)); have n6_ := Aside0.mk ((by rw [hg]; exact Nat.ne_of_lt (blk_lt (g := gb251) (o := .cells #[.slice A0_0 l0_0.length c0_0, .slice A0_1 l0_1.length c0_1] 25 (0, 0)) (by (with_reducible repeat (first | refine blk_drewN ?_ _ | refine blk_drew ?_ | refine blk_alloc ?_ _)); exact BK251.out)) : gb251 ≠ gb262)); have n7_ := Aside0.mk ((by rw [hg]; exact Nat.ne_of_gt (blk_lt (g := gb251) (o := .cells #[.slice A0_0 l0_0.length c0_0, .slice A0_1 l0_1.length c0_1] 25 (0, 0)) (by (with_reducible repeat (first | refine blk_drewN ?_ _ | refine blk_drew ?_ | refine blk_alloc ?_ _)); exact BK251.out)) : gb262 ≠ gb251)); have n8_ := Aside0.mk ((by rw [hg]; exact Nat.ne_of_lt (blk_lt (g := gb258) (o := .cells #[.bool true, .int .i64 t256, .int .i64 t257] 32 (0, 0)) (by (with_reducible repeat (first | refine blk_drewN ?_ _ | refine blk_drew ?_ | refine blk_alloc ?_ _)); exact BK258.out)) : gb258 ≠ gb262)); have n9_ := Aside0.mk ((by rw [hg]; exact Nat.ne_of_gt (blk_lt (g := gb258) (o := .cells #[.bool true, .int .i64 t256, .int .i64 t257] 32 (0, 0)) (by (with_reducible repeat (first | refine blk_drewN ?_ _ | refine blk_drew ?_ | refine blk_alloc ?_ _)); exact BK258.out)) : gb262 ≠ gb258)); clear BK251; clear BK258; clear HB; have BK251 := n0_; have BK258 := n1_; have HB := n2_; have BK262 := n3_; have GW262 := n4_; have GE262 := n5_; have NB251_262 := n6_; have NB262_251 := n7_; have NB258_262 := n8_; have NB262_258 := n9_; clear n0_ n1_ n2_ n3_ n4_ n5_ n6_ n7_ n8_ n9_; clear hb hbox hg; have hnb34 := NB262_251.out; have hnc34 := NB251_262.out; have hnb35 := NB262_258.out; have hnc35 := NB258_262.out; have hcz36_0 : w33.cell? ⟨gb262, 0, none⟩ = some (.bool false) := (blk_cell BK262.out 0).trans rfl; have hcz36_1 : w33.cell? ⟨gb262, 1, none⟩ = some (.int .i64 0) := (blk_cell BK262.out 1).trans rfl; have hcz36_2 : w33.cell? ⟨gb262, 2, none⟩ = some (.int .i64 0) := (blk_cell BK262.out 2).trans rfl; have hfz36_0 := blk_frozen BK262.out 0; have hfz36_1 := blk_frozen BK262.out 1; have hfz36_2 := blk_frozen BK262.out 2; have hcz37_0 : w33.cell? ⟨gb258, 0, none⟩ = some (.bool true) := (blk_cell BK258.out 0).trans rfl; have hcz37_1 : w33.cell? ⟨gb258, 1, none⟩ = some (.int .i64 t256) := (blk_cell BK258.out 1).trans rfl; have hcz37_2 : w33.cell? ⟨gb258, 2, none⟩ = some (.int .i64 t257) := (blk_cell BK258.out 2).trans rfl; have hfz37_0 := blk_frozen BK258.out 0; have hfz37_1 := blk_frozen BK258.out 1; have hfz37_2 := blk_frozen BK258.out 2))
           go_ret
           exact ⟨by first | rfl | (simp [errW_none, errW_some] <;> rfl) | (simp [*, errW_none, errW_some] <;> rfl), by repeat (first | (with_reducible first | exact HB.out | apply below_alloc | apply pw_below_drewN | apply below_drew1 | refine below_set ?_ GE251.out | refine below_set ?_ GE258.out | refine below_set ?_ GE262.out) | exact HB.out)⟩
          ·
           rw [if_neg c25] at H
           have c25b0 : decide ((-1) ≤ t256) = false := decide_eq_false c25
           clear c25
           obtain rfl := Option.some.inj H
           have hcz38_0 : wc.cell? ⟨gb251, 0, none⟩ = some (.slice A0_0 l0_0.length c0_0) := (blk_cell BK251.out 0).trans rfl
           have hcz38_1 : wc.cell? ⟨gb251, 1, none⟩ = some (.slice A0_1 l0_1.length c0_1) := (blk_cell BK251.out 1).trans rfl
           have hfz38_0 := blk_frozen BK251.out 0
           have hfz38_1 := blk_frozen BK251.out 1
           go_wp2_with (first | ((with_reducible refine gate_callee (f := 13) rfl ?_); refine goesL_ (some 24) rfl rfl Try.func13 (by kernel_rfl) rfl #[.agg #[.slice A0_0 l0_0.length c0_0, .slice A0_1 l0_1.length c0_1], .string a1, .int .i64 a2] rfl (by (try simp only [List.map_toArray, List.map_cons, List.map_nil]); first | done | rfl | (simp only [List.length_drop, List.length_take]; rfl)) ?_; (with_reducible refine (naive_Run.calls kj4 _ _ l0_0 _ _ l0_1 a1 a2 true t256 t257 _ ?side1 ?side2 ?side3 ?side4 A17.out).mono ?_); (case side1 => repeat (first | exact (Kd.C_below HR0_0.out HB.out) | (with_reducible refine Kd.C_alloc ?_ _) | (with_reducible refine Kd.C_drewN ?_ _) | (with_reducible refine Kd.C_drew ?_))); (case side2 => exact HC0_0.out); (case side3 => repeat (first | exact (Kd.C_below HR0_1.out HB.out) | (with_reducible refine Kd.C_alloc ?_ _) | (with_reducible refine Kd.C_drewN ?_ _) | (with_reducible refine Kd.C_drew ?_))); (case side4 => exact HC0_1.out); rintro e w39 ⟨rfl, hb⟩; refine ⟨_, rfl, ?_⟩; have n0_ := Aside0.mk (blk_below (g := gb251) (o := .cells #[.slice A0_0 l0_0.length c0_0, .slice A0_1 l0_1.length c0_1] 25 (0, 0)) (by (with_reducible repeat (first | refine blk_drewN ?_ _ | refine blk_drew ?_ | refine blk_alloc ?_ _)); exact BK251.out) hb); have n1_ := Aside0.mk (below_step (by repeat (first | (with_reducible first | exact HB.out | apply below_alloc | apply pw_below_drewN | apply below_drew1 | refine below_set ?_ GE251.out) | exact HB.out)) hb); clear BK251; clear HB; have BK251 := n0_; have HB := n1_; clear n0_ n1_; (try clear hb); (try clear hb2); (try clear hk); (try clear hi)) | ((with_reducible refine gate_dst (N := 9) rfl ?_); (try (refine gate_guard (by rfl) ?_; dsimp only)); refine box_event ?hg (N := 9) ?hd (cs := #[.bool false, .int .i64 0, .int .i64 0]) (t := 32) ?hr ?_; (case hd => rfl); (case hg => rfl); (case hr => first | (go_simp; done) | (go_simp; rfl)); intro gb258 hg w40 hbox hb; have n0_ := Aside0.mk (blk_below (g := gb251) (o := .cells #[.slice A0_0 l0_0.length c0_0, .slice A0_1 l0_1.length c0_1] 25 (0, 0)) (by (with_reducible repeat (first | refine blk_drewN ?_ _ | refine blk_drew ?_ | refine blk_alloc ?_ _)); exact BK251.out) hb); have n1_ := Aside0.mk (below_step (by repeat (first | (with_reducible first | exact HB.out | apply below_alloc | apply pw_below_drewN | apply below_drew1 | refine below_set ?_ GE251.out) | exact HB.out)) hb); have n2_ := Aside0.mk (hbox); have n3_ := Aside0.mk ((by rw [hg]; exact (below_size (by repeat (first | (with_reducible first | exact HB.out | apply below_alloc | apply pw_below_drewN | apply below_drew1 | refine below_set ?_ GE251.out) | exact HB.out))) : w.heap.size ≤ gb258)); have n4_ := Aside0.mk ((by rw [hg]; exact (below_size (by repeat (first | (with_reducible first | exact HB.out | apply below_alloc | apply pw_below_drewN | apply below_drew1 | refine below_set ?_ GE251.out) | exact HB.out))) : w.heap.size ≤ gb258)); have n5_ := Aside0.mk ((by rw [hg]; exact Nat.ne_of_lt (blk_lt (g := gb251) (o := .cells #[.slice A0_0 l0_0.length c0_0, .slice A0_1 l0_1.length c0_1] 25 (0, 0)) (by (with_reducible repeat (first | refine blk_drewN ?_ _ | refine blk_drew ?_ | refine blk_alloc ?_ _)); exact BK251.out)) : gb251 ≠ gb258)); have n6_ := Aside0.mk ((by rw [hg]; exact Nat.ne_of_gt (blk_lt (g := gb251) (o := .cells #[.slice A0_0 l0_0.length c0_0, .slice A0_1 l0_1.length c0_1] 25 (0, 0)) (by (with_reducible repeat (first | refine blk_drewN ?_ _ | refine blk_drew ?_ | refine blk_alloc ?_ _)); exact BK251.out)) : gb258 ≠ gb251)); clear BK251; clear HB; have BK251 := n0_; have HB := n1_; have BK258 := n2_; have GW258 := n3_; have GE258 := n4_; have NB251_258 := n5_; have NB258_251 := n6_; clear n0_ n1_ n2_ n3_ n4_ n5_ n6_; clear hb hbox hg; have hnb41 := NB258_251.out; have hnc41 := NB251_258.out; have hcz42_0 : w40.cell? ⟨gb258, 0, none⟩ = some (.bool false) := (blk_cell BK258.out 0).trans rfl; have hcz42_1 : w40.cell? ⟨gb258, 1, none⟩ = some (.int .i64 0) := (blk_cell BK258.out 1).trans rfl; have hcz42_2 : w40.cell? ⟨gb258, 2, none⟩ = some (.int .i64 0) := (blk_cell BK258.out 2).trans rfl; have hfz42_0 := blk_frozen BK258.out 0; have hfz42_1 := blk_frozen BK258.out 1; have hfz42_2 := blk_frozen BK258.out 2; have hcz43_0 : w40.cell? ⟨gb251, 0, none⟩ = some (.slice A0_0 l0_0.length c0_0) := (blk_cell BK251.out 0).trans rfl; have hcz43_1 : w40.cell? ⟨gb251, 1, none⟩ = some (.slice A0_1 l0_1.length c0_1) := (blk_cell BK251.out 1).trans rfl; have hfz43_0 := blk_frozen BK251.out 0; have hfz43_1 := blk_frozen BK251.out 1) | ((with_reducible refine gate_callee (f := 13) rfl ?_); refine goesL_ (some 31) rfl rfl Try.func13 (by kernel_rfl) rfl #[.agg #[.slice A0_0 l0_0.length c0_0, .slice A0_1 l0_1.length c0_1], .string a1, .int .i64 (wrap64 (a2 + (wrap64 (a3))))] rfl (by (try simp only [List.map_toArray, List.map_cons, List.map_nil]); first | done | rfl | (simp only [List.length_drop, List.length_take]; rfl)) ?_; (with_reducible refine (naive_Run.calls kj4 _ _ l0_0 _ _ l0_1 a1 (wrap64 (a2 + (wrap64 (a3)))) true t260 t261 _ ?side1 ?side2 ?side3 ?side4 A18.out).mono ?_); (case side1 => exact Kd.C_below HR0_0.out (by repeat (first | (with_reducible first | exact HB.out | apply below_alloc | apply pw_below_drewN | apply below_drew1 | refine below_set ?_ GE251.out | refine below_set ?_ GE258.out) | exact HB.out))); (case side2 => exact HC0_0.out); (case side3 => exact Kd.C_below HR0_1.out (by repeat (first | (with_reducible first | exact HB.out | apply below_alloc | apply pw_below_drewN | apply below_drew1 | refine below_set ?_ GE251.out | refine below_set ?_ GE258.out) | exact HB.out))); (case side4 => exact HC0_1.out); rintro e w44 ⟨rfl, hb⟩; refine ⟨_, rfl, ?_⟩; have n0_ := Aside0.mk (blk_below (g := gb251) (o := .cells #[.slice A0_0 l0_0.length c0_0, .slice A0_1 l0_1.length c0_1] 25 (0, 0)) (by (with_reducible repeat (first | refine blk_drewN ?_ _ | refine blk_drew ?_ | refine blk_alloc ?_ _)); refine blk_far ?_ NB251_258.out _; (with_reducible repeat (first | refine blk_drewN ?_ _ | refine blk_drew ?_ | refine blk_alloc ?_ _)); refine blk_far ?_ NB251_258.out _; (with_reducible repeat (first | refine blk_drewN ?_ _ | refine blk_drew ?_ | refine blk_alloc ?_ _)); refine blk_far ?_ NB251_258.out _; (with_reducible repeat (first | refine blk_drewN ?_ _ | refine blk_drew ?_ | refine blk_alloc ?_ _)); exact BK251.out) hb); have n1_ := Aside0.mk (blk_below (g := gb258) (o := .cells #[.bool true, .int .i64 t256, .int .i64 t257] 32 (0, 0)) (by (with_reducible repeat (first | refine blk_drewN ?_ _ | refine blk_drew ?_ | refine blk_alloc ?_ _)); refine blk_put (cs := #[.bool true, .int .i64 t256, .int .i64 0]) ?_ 2 _ rfl; (with_reducible repeat (first | refine blk_drewN ?_ _ | refine blk_drew ?_ | refine blk_alloc ?_ _)); refine blk_put (cs := #[.bool true, .int .i64 0, .int .i64 0]) ?_ 1 _ rfl; (with_reducible repeat (first | refine blk_drewN ?_ _ | refine blk_drew ?_ | refine blk_alloc ?_ _)); refine blk_put (cs := #[.bool false, .int .i64 0, .int .i64 0]) ?_ 0 _ rfl; (with_reducible repeat (first | refine blk_drewN ?_ _ | refine blk_drew ?_ | refine blk_alloc ?_ _)); exact BK258.out) hb); have n2_ := Aside0.mk (below_step (by repeat (first | (with_reducible first | exact HB.out | apply below_alloc | apply pw_below_drewN | apply below_drew1 | refine below_set ?_ GE251.out | refine below_set ?_ GE258.out) | exact HB.out)) hb); clear BK251; clear BK258; clear HB; have BK251 := n0_; have BK258 := n1_; have HB := n2_; clear n0_ n1_ n2_; (try clear hb); (try clear hb2); (try clear hk); (try clear hi)) | ((with_reducible refine gate_dst (N := 10) rfl ?_); (try (refine gate_guard (by rfl) ?_; dsimp only)); refine box_event ?hg (N := 10) ?hd (cs := #[.bool false, .int .i64 0, .int .i64 0]) (t := 32) ?hr ?_; (case hd => rfl); (case hg => rfl); (case hr => first | (go_simp; done) | (go_simp; rfl)); intro gb262 hg w45 hbox hb; have n0_ := Aside0.mk (blk_below (g := gb251) (o := .cells #[.slice A0_0 l0_0.length c0_0, .slice A0_1 l0_1.length c0_1] 25 (0, 0)) (by (with_reducible repeat (first | refine blk_drewN ?_ _ | refine blk_drew ?_ | refine blk_alloc ?_ _)); exact BK251.out) hb); have n1_ := Aside0.mk (blk_below (g := gb258) (o := .cells #[.bool true, .int .i64 t256, .int .i64 t257] 32 (0, 0)) (by (with_reducible repeat (first | refine blk_drewN ?_ _ | refine blk_drew ?_ | refine blk_alloc ?_ _)); exact BK258.out) hb); have n2_ := Aside0.mk (below_step (by repeat (first | (with_reducible first | exact HB.out | apply below_alloc | apply pw_below_drewN | apply below_drew1 | refine below_set ?_ GE251.out | refine below_set ?_ GE258.out) | exact HB.out)) hb); have n3_ := Aside0.mk (hbox); have n4_ := Aside0.mk ((by rw [hg]; exact (below_size (by repeat (first | (with_reducible first | exact HB.out | apply below_alloc | apply pw_below_drewN | apply below_drew1 | refine below_set ?_ GE251.out | refine below_set ?_ GE258.out) | exact HB.out))) : w.heap.size ≤ gb262)); have n5_ := Aside0.mk ((by rw [hg]; exact (below_size (by repeat (first | (with_reducible first | exact HB.out | apply below_alloc | apply pw_below_drewN | apply below_drew1 | refine below_set ?_ GE251.out | refine below_set ?_ GE258.out) | exact HB.out))) : w.heap.size ≤ gb262)); have n6_ := Aside0.mk ((by rw [hg]; exact Nat.ne_of_lt (blk_lt (g := gb251) (o := .cells #[.slice A0_0 l0_0.length c0_0, .slice A0_1 l0_1.length c0_1] 25 (0, 0)) (by (with_reducible repeat (first | refine blk_drewN ?_ _ | refine blk_drew ?_ | refine blk_alloc ?_ _)); exact BK251.out)) : gb251 ≠ gb262)); have n7_ := Aside0.mk ((by rw [hg]; exact Nat.ne_of_gt (blk_lt (g := gb251) (o := .cells #[.slice A0_0 l0_0.length c0_0, .slice A0_1 l0_1.length c0_1] 25 (0, 0)) (by (with_reducible repeat (first | refine blk_drewN ?_ _ | refine blk_drew ?_ | refine blk_alloc ?_ _)); exact BK251.out)) : gb262 ≠ gb251)); have n8_ := Aside0.mk ((by rw [hg]; exact Nat.ne_of_lt (blk_lt (g := gb258) (o := .cells #[.bool true, .int .i64 t256, .int .i64 t257] 32 (0, 0)) (by (with_reducible repeat (first | refine blk_drewN ?_ _ | refine blk_drew ?_ | refine blk_alloc ?_ _)); exact BK258.out)) : gb258 ≠ gb262)); have n9_ := Aside0.mk ((by rw [hg]; exact Nat.ne_of_gt (blk_lt (g := gb258) (o := .cells #[.bool true, .int .i64 t256, .int .i64 t257] 32 (0, 0)) (by (with_reducible repeat (first | refine blk_drewN ?_ _ | refine blk_drew ?_ | refine blk_alloc ?_ _)); exact BK258.out)) : gb262 ≠ gb258)); clear BK251; clear BK258; clear HB; have BK251 := n0_; have BK258 := n1_; have HB := n2_; have BK262 := n3_; have GW262 := n4_; have GE262 := n5_; have NB251_262 := n6_; have NB262_251 := n7_; have NB258_262 := n8_; have NB262_258 := n9_; clear n0_ n1_ n2_ n3_ n4_ n5_ n6_ n7_ n8_ n9_; clear hb hbox hg; have hnb46 := NB262_251.out; have hnc46 := NB251_262.out; have hnb47 := NB262_258.out; have hnc47 := NB258_262.out; have hcz48_0 : w45.cell? ⟨gb262, 0, none⟩ = some (.bool false) := (blk_cell BK262.out 0).trans rfl; have hcz48_1 : w45.cell? ⟨gb262, 1, none⟩ = some (.int .i64 0) := (blk_cell BK262.out 1).trans rfl; have hcz48_2 : w45.cell? ⟨gb262, 2, none⟩ = some (.int .i64 0) := (blk_cell BK262.out 2).trans rfl; have hfz48_0 := blk_frozen BK262.out 0; have hfz48_1 := blk_frozen BK262.out 1; have hfz48_2 := blk_frozen BK262.out 2; have hcz49_0 : w45.cell? ⟨gb258, 0, none⟩ = some (.bool true) := (blk_cell BK258.out 0).trans rfl; have hcz49_1 : w45.cell? ⟨gb258, 1, none⟩ = some (.int .i64 t256) := (blk_cell BK258.out 1).trans rfl; have hcz49_2 : w45.cell? ⟨gb258, 2, none⟩ = some (.int .i64 t257) := (blk_cell BK258.out 2).trans rfl; have hfz49_0 := blk_frozen BK258.out 0; have hfz49_1 := blk_frozen BK258.out 1; have hfz49_2 := blk_frozen BK258.out 2))
           go_ret
           exact ⟨by first | rfl | (simp [errW_none, errW_some] <;> rfl) | (simp [*, errW_none, errW_some] <;> rfl), by repeat (first | (with_reducible first | exact HB.out | apply below_alloc | apply pw_below_drewN | apply below_drew1 | refine below_set ?_ GE251.out | refine below_set ?_ GE258.out | refine below_set ?_ GE262.out) | exact HB.out)⟩
         ·
          rw [if_neg c24] at H
          have c24b0 : decide (t257 < a2) = false := decide_eq_false c24
          clear c24
          obtain rfl := Option.some.inj H
          have hcz50_0 : wc.cell? ⟨gb251, 0, none⟩ = some (.slice A0_0 l0_0.length c0_0) := (blk_cell BK251.out 0).trans rfl
          have hcz50_1 : wc.cell? ⟨gb251, 1, none⟩ = some (.slice A0_1 l0_1.length c0_1) := (blk_cell BK251.out 1).trans rfl
          have hfz50_0 := blk_frozen BK251.out 0
          have hfz50_1 := blk_frozen BK251.out 1
          go_wp2_with (first | ((with_reducible refine gate_callee (f := 13) rfl ?_); refine goesL_ (some 24) rfl rfl Try.func13 (by kernel_rfl) rfl #[.agg #[.slice A0_0 l0_0.length c0_0, .slice A0_1 l0_1.length c0_1], .string a1, .int .i64 a2] rfl (by (try simp only [List.map_toArray, List.map_cons, List.map_nil]); first | done | rfl | (simp only [List.length_drop, List.length_take]; rfl)) ?_; (with_reducible refine (naive_Run.calls kj4 _ _ l0_0 _ _ l0_1 a1 a2 true t256 t257 _ ?side1 ?side2 ?side3 ?side4 A17.out).mono ?_); (case side1 => repeat (first | exact (Kd.C_below HR0_0.out HB.out) | (with_reducible refine Kd.C_alloc ?_ _) | (with_reducible refine Kd.C_drewN ?_ _) | (with_reducible refine Kd.C_drew ?_))); (case side2 => exact HC0_0.out); (case side3 => repeat (first | exact (Kd.C_below HR0_1.out HB.out) | (with_reducible refine Kd.C_alloc ?_ _) | (with_reducible refine Kd.C_drewN ?_ _) | (with_reducible refine Kd.C_drew ?_))); (case side4 => exact HC0_1.out); rintro e w51 ⟨rfl, hb⟩; refine ⟨_, rfl, ?_⟩; have n0_ := Aside0.mk (blk_below (g := gb251) (o := .cells #[.slice A0_0 l0_0.length c0_0, .slice A0_1 l0_1.length c0_1] 25 (0, 0)) (by (with_reducible repeat (first | refine blk_drewN ?_ _ | refine blk_drew ?_ | refine blk_alloc ?_ _)); exact BK251.out) hb); have n1_ := Aside0.mk (below_step (by repeat (first | (with_reducible first | exact HB.out | apply below_alloc | apply pw_below_drewN | apply below_drew1 | refine below_set ?_ GE251.out) | exact HB.out)) hb); clear BK251; clear HB; have BK251 := n0_; have HB := n1_; clear n0_ n1_; (try clear hb); (try clear hb2); (try clear hk); (try clear hi)) | ((with_reducible refine gate_dst (N := 9) rfl ?_); (try (refine gate_guard (by rfl) ?_; dsimp only)); refine box_event ?hg (N := 9) ?hd (cs := #[.bool false, .int .i64 0, .int .i64 0]) (t := 32) ?hr ?_; (case hd => rfl); (case hg => rfl); (case hr => first | (go_simp; done) | (go_simp; rfl)); intro gb258 hg w52 hbox hb; have n0_ := Aside0.mk (blk_below (g := gb251) (o := .cells #[.slice A0_0 l0_0.length c0_0, .slice A0_1 l0_1.length c0_1] 25 (0, 0)) (by (with_reducible repeat (first | refine blk_drewN ?_ _ | refine blk_drew ?_ | refine blk_alloc ?_ _)); exact BK251.out) hb); have n1_ := Aside0.mk (below_step (by repeat (first | (with_reducible first | exact HB.out | apply below_alloc | apply pw_below_drewN | apply below_drew1 | refine below_set ?_ GE251.out) | exact HB.out)) hb); have n2_ := Aside0.mk (hbox); have n3_ := Aside0.mk ((by rw [hg]; exact (below_size (by repeat (first | (with_reducible first | exact HB.out | apply below_alloc | apply pw_below_drewN | apply below_drew1 | refine below_set ?_ GE251.out) | exact HB.out))) : w.heap.size ≤ gb258)); have n4_ := Aside0.mk ((by rw [hg]; exact (below_size (by repeat (first | (with_reducible first | exact HB.out | apply below_alloc | apply pw_below_drewN | apply below_drew1 | refine below_set ?_ GE251.out) | exact HB.out))) : w.heap.size ≤ gb258)); have n5_ := Aside0.mk ((by rw [hg]; exact Nat.ne_of_lt (blk_lt (g := gb251) (o := .cells #[.slice A0_0 l0_0.length c0_0, .slice A0_1 l0_1.length c0_1] 25 (0, 0)) (by (with_reducible repeat (first | refine blk_drewN ?_ _ | refine blk_drew ?_ | refine blk_alloc ?_ _)); exact BK251.out)) : gb251 ≠ gb258)); have n6_ := Aside0.mk ((by rw [hg]; exact Nat.ne_of_gt (blk_lt (g := gb251) (o := .cells #[.slice A0_0 l0_0.length c0_0, .slice A0_1 l0_1.length c0_1] 25 (0, 0)) (by (with_reducible repeat (first | refine blk_drewN ?_ _ | refine blk_drew ?_ | refine blk_alloc ?_ _)); exact BK251.out)) : gb258 ≠ gb251)); clear BK251; clear HB; have BK251 := n0_; have HB := n1_; have BK258 := n2_; have GW258 := n3_; have GE258 := n4_; have NB251_258 := n5_; have NB258_251 := n6_; clear n0_ n1_ n2_ n3_ n4_ n5_ n6_; clear hb hbox hg; have hnb53 := NB258_251.out; have hnc53 := NB251_258.out; have hcz54_0 : w52.cell? ⟨gb258, 0, none⟩ = some (.bool false) := (blk_cell BK258.out 0).trans rfl; have hcz54_1 : w52.cell? ⟨gb258, 1, none⟩ = some (.int .i64 0) := (blk_cell BK258.out 1).trans rfl; have hcz54_2 : w52.cell? ⟨gb258, 2, none⟩ = some (.int .i64 0) := (blk_cell BK258.out 2).trans rfl; have hfz54_0 := blk_frozen BK258.out 0; have hfz54_1 := blk_frozen BK258.out 1; have hfz54_2 := blk_frozen BK258.out 2; have hcz55_0 : w52.cell? ⟨gb251, 0, none⟩ = some (.slice A0_0 l0_0.length c0_0) := (blk_cell BK251.out 0).trans rfl; have hcz55_1 : w52.cell? ⟨gb251, 1, none⟩ = some (.slice A0_1 l0_1.length c0_1) := (blk_cell BK251.out 1).trans rfl; have hfz55_0 := blk_frozen BK251.out 0; have hfz55_1 := blk_frozen BK251.out 1) | ((with_reducible refine gate_callee (f := 13) rfl ?_); refine goesL_ (some 31) rfl rfl Try.func13 (by kernel_rfl) rfl #[.agg #[.slice A0_0 l0_0.length c0_0, .slice A0_1 l0_1.length c0_1], .string a1, .int .i64 (wrap64 (a2 + (wrap64 (a3))))] rfl (by (try simp only [List.map_toArray, List.map_cons, List.map_nil]); first | done | rfl | (simp only [List.length_drop, List.length_take]; rfl)) ?_; (with_reducible refine (naive_Run.calls kj4 _ _ l0_0 _ _ l0_1 a1 (wrap64 (a2 + (wrap64 (a3)))) true t260 t261 _ ?side1 ?side2 ?side3 ?side4 A18.out).mono ?_); (case side1 => exact Kd.C_below HR0_0.out (by repeat (first | (with_reducible first | exact HB.out | apply below_alloc | apply pw_below_drewN | apply below_drew1 | refine below_set ?_ GE251.out | refine below_set ?_ GE258.out) | exact HB.out))); (case side2 => exact HC0_0.out); (case side3 => exact Kd.C_below HR0_1.out (by repeat (first | (with_reducible first | exact HB.out | apply below_alloc | apply pw_below_drewN | apply below_drew1 | refine below_set ?_ GE251.out | refine below_set ?_ GE258.out) | exact HB.out))); (case side4 => exact HC0_1.out); rintro e w56 ⟨rfl, hb⟩; refine ⟨_, rfl, ?_⟩; have n0_ := Aside0.mk (blk_below (g := gb251) (o := .cells #[.slice A0_0 l0_0.length c0_0, .slice A0_1 l0_1.length c0_1] 25 (0, 0)) (by (with_reducible repeat (first | refine blk_drewN ?_ _ | refine blk_drew ?_ | refine blk_alloc ?_ _)); refine blk_far ?_ NB251_258.out _; (with_reducible repeat (first | refine blk_drewN ?_ _ | refine blk_drew ?_ | refine blk_alloc ?_ _)); refine blk_far ?_ NB251_258.out _; (with_reducible repeat (first | refine blk_drewN ?_ _ | refine blk_drew ?_ | refine blk_alloc ?_ _)); refine blk_far ?_ NB251_258.out _; (with_reducible repeat (first | refine blk_drewN ?_ _ | refine blk_drew ?_ | refine blk_alloc ?_ _)); exact BK251.out) hb); have n1_ := Aside0.mk (blk_below (g := gb258) (o := .cells #[.bool true, .int .i64 t256, .int .i64 t257] 32 (0, 0)) (by (with_reducible repeat (first | refine blk_drewN ?_ _ | refine blk_drew ?_ | refine blk_alloc ?_ _)); refine blk_put (cs := #[.bool true, .int .i64 t256, .int .i64 0]) ?_ 2 _ rfl; (with_reducible repeat (first | refine blk_drewN ?_ _ | refine blk_drew ?_ | refine blk_alloc ?_ _)); refine blk_put (cs := #[.bool true, .int .i64 0, .int .i64 0]) ?_ 1 _ rfl; (with_reducible repeat (first | refine blk_drewN ?_ _ | refine blk_drew ?_ | refine blk_alloc ?_ _)); refine blk_put (cs := #[.bool false, .int .i64 0, .int .i64 0]) ?_ 0 _ rfl; (with_reducible repeat (first | refine blk_drewN ?_ _ | refine blk_drew ?_ | refine blk_alloc ?_ _)); exact BK258.out) hb); have n2_ := Aside0.mk (below_step (by repeat (first | (with_reducible first | exact HB.out | apply below_alloc | apply pw_below_drewN | apply below_drew1 | refine below_set ?_ GE251.out | refine below_set ?_ GE258.out) | exact HB.out)) hb); clear BK251; clear BK258; clear HB; have BK251 := n0_; have BK258 := n1_; have HB := n2_; clear n0_ n1_ n2_; (try clear hb); (try clear hb2); (try clear hk); (try clear hi)) | ((with_reducible refine gate_dst (N := 10) rfl ?_); (try (refine gate_guard (by rfl) ?_; dsimp only)); refine box_event ?hg (N := 10) ?hd (cs := #[.bool false, .int .i64 0, .int .i64 0]) (t := 32) ?hr ?_; (case hd => rfl); (case hg => rfl); (case hr => first | (go_simp; done) | (go_simp; rfl)); intro gb262 hg w57 hbox hb; have n0_ := Aside0.mk (blk_below (g := gb251) (o := .cells #[.slice A0_0 l0_0.length c0_0, .slice A0_1 l0_1.length c0_1] 25 (0, 0)) (by (with_reducible repeat (first | refine blk_drewN ?_ _ | refine blk_drew ?_ | refine blk_alloc ?_ _)); exact BK251.out) hb); have n1_ := Aside0.mk (blk_below (g := gb258) (o := .cells #[.bool true, .int .i64 t256, .int .i64 t257] 32 (0, 0)) (by (with_reducible repeat (first | refine blk_drewN ?_ _ | refine blk_drew ?_ | refine blk_alloc ?_ _)); exact BK258.out) hb); have n2_ := Aside0.mk (below_step (by repeat (first | (with_reducible first | exact HB.out | apply below_alloc | apply pw_below_drewN | apply below_drew1 | refine below_set ?_ GE251.out | refine below_set ?_ GE258.out) | exact HB.out)) hb); have n3_ := Aside0.mk (hbox); have n4_ := Aside0.mk ((by rw [hg]; exact (below_size (by repeat (first | (with_reducible first | exact HB.out | apply below_alloc | apply pw_below_drewN | apply below_drew1 | refine below_set ?_ GE251.out | refine below_set ?_ GE258.out) | exact HB.out))) : w.heap.size ≤ gb262)); have n5_ := Aside0.mk ((by rw [hg]; exact (below_size (by repeat (first | (with_reducible first | exact HB.out | apply below_alloc | apply pw_below_drewN | apply below_drew1 | refine below_set ?_ GE251.out | refine below_set ?_ GE258.out) | exact HB.out))) : w.heap.size ≤ gb262)); have n6_ := Aside0.mk ((by rw [hg]; exact Nat.ne_of_lt (blk_lt (g := gb251) (o := .cells #[.slice A0_0 l0_0.length c0_0, .slice A0_1 l0_1.length c0_1] 25 (0, 0)) (by (with_reducible repeat (first | refine blk_drewN ?_ _ | refine blk_drew ?_ | refine blk_alloc ?_ _)); exact BK251.out)) : gb251 ≠ gb262)); have n7_ := Aside0.mk ((by rw [hg]; exact Nat.ne_of_gt (blk_lt (g := gb251) (o := .cells #[.slice A0_0 l0_0.length c0_0, .slice A0_1 l0_1.length c0_1] 25 (0, 0)) (by (with_reducible repeat (first | refine blk_drewN ?_ _ | refine blk_drew ?_ | refine blk_alloc ?_ _)); exact BK251.out)) : gb262 ≠ gb251)); have n8_ := Aside0.mk ((by rw [hg]; exact Nat.ne_of_lt (blk_lt (g := gb258) (o := .cells #[.bool true, .int .i64 t256, .int .i64 t257] 32 (0, 0)) (by (with_reducible repeat (first | refine blk_drewN ?_ _ | refine blk_drew ?_ | refine blk_alloc ?_ _)); exact BK258.out)) : gb258 ≠ gb262)); have n9_ := Aside0.mk ((by rw [hg]; exact Nat.ne_of_gt (blk_lt (g := gb258) (o := .cells #[.bool true, .int .i64 t256, .int .i64 t257] 32 (0, 0)) (by (with_reducible repeat (first | refine blk_drewN ?_ _ | refine blk_drew ?_ | refine blk_alloc ?_ _)); exact BK258.out)) : gb262 ≠ gb258)); clear BK251; clear BK258; clear HB; have BK251 := n0_; have BK258 := n1_; have HB := n2_; have BK262 := n3_; have GW262 := n4_; have GE262 := n5_; have NB251_262 := n6_; have NB262_251 := n7_; have NB258_262 := n8_; have NB262_258 := n9_; clear n0_ n1_ n2_ n3_ n4_ n5_ n6_ n7_ n8_ n9_; clear hb hbox hg; have hnb58 := NB262_251.out; have hnc58 := NB251_262.out; have hnb59 := NB262_258.out; have hnc59 := NB258_262.out; have hcz60_0 : w57.cell? ⟨gb262, 0, none⟩ = some (.bool false) := (blk_cell BK262.out 0).trans rfl; have hcz60_1 : w57.cell? ⟨gb262, 1, none⟩ = some (.int .i64 0) := (blk_cell BK262.out 1).trans rfl; have hcz60_2 : w57.cell? ⟨gb262, 2, none⟩ = some (.int .i64 0) := (blk_cell BK262.out 2).trans rfl; have hfz60_0 := blk_frozen BK262.out 0; have hfz60_1 := blk_frozen BK262.out 1; have hfz60_2 := blk_frozen BK262.out 2; have hcz61_0 : w57.cell? ⟨gb258, 0, none⟩ = some (.bool true) := (blk_cell BK258.out 0).trans rfl; have hcz61_1 : w57.cell? ⟨gb258, 1, none⟩ = some (.int .i64 t256) := (blk_cell BK258.out 1).trans rfl; have hcz61_2 : w57.cell? ⟨gb258, 2, none⟩ = some (.int .i64 t257) := (blk_cell BK258.out 2).trans rfl; have hfz61_0 := blk_frozen BK258.out 0; have hfz61_1 := blk_frozen BK258.out 1; have hfz61_2 := blk_frozen BK258.out 2))
          go_ret
          exact ⟨by first | rfl | (simp [errW_none, errW_some] <;> rfl) | (simp [*, errW_none, errW_some] <;> rfl), by repeat (first | (with_reducible first | exact HB.out | apply below_alloc | apply pw_below_drewN | apply below_drew1 | refine below_set ?_ GE251.out | refine below_set ?_ GE258.out | refine below_set ?_ GE262.out) | exact HB.out)⟩
        ·
         rw [if_neg c23] at H
         have c23b0 : decide (0 ≤ t257) = false := decide_eq_false c23
         clear c23
         obtain rfl := Option.some.inj H
         have hcz62_0 : wc.cell? ⟨gb251, 0, none⟩ = some (.slice A0_0 l0_0.length c0_0) := (blk_cell BK251.out 0).trans rfl
         have hcz62_1 : wc.cell? ⟨gb251, 1, none⟩ = some (.slice A0_1 l0_1.length c0_1) := (blk_cell BK251.out 1).trans rfl
         have hfz62_0 := blk_frozen BK251.out 0
         have hfz62_1 := blk_frozen BK251.out 1
         go_wp2_with (first | ((with_reducible refine gate_callee (f := 13) rfl ?_); refine goesL_ (some 24) rfl rfl Try.func13 (by kernel_rfl) rfl #[.agg #[.slice A0_0 l0_0.length c0_0, .slice A0_1 l0_1.length c0_1], .string a1, .int .i64 a2] rfl (by (try simp only [List.map_toArray, List.map_cons, List.map_nil]); first | done | rfl | (simp only [List.length_drop, List.length_take]; rfl)) ?_; (with_reducible refine (naive_Run.calls kj4 _ _ l0_0 _ _ l0_1 a1 a2 true t256 t257 _ ?side1 ?side2 ?side3 ?side4 A17.out).mono ?_); (case side1 => repeat (first | exact (Kd.C_below HR0_0.out HB.out) | (with_reducible refine Kd.C_alloc ?_ _) | (with_reducible refine Kd.C_drewN ?_ _) | (with_reducible refine Kd.C_drew ?_))); (case side2 => exact HC0_0.out); (case side3 => repeat (first | exact (Kd.C_below HR0_1.out HB.out) | (with_reducible refine Kd.C_alloc ?_ _) | (with_reducible refine Kd.C_drewN ?_ _) | (with_reducible refine Kd.C_drew ?_))); (case side4 => exact HC0_1.out); rintro e w63 ⟨rfl, hb⟩; refine ⟨_, rfl, ?_⟩; have n0_ := Aside0.mk (blk_below (g := gb251) (o := .cells #[.slice A0_0 l0_0.length c0_0, .slice A0_1 l0_1.length c0_1] 25 (0, 0)) (by (with_reducible repeat (first | refine blk_drewN ?_ _ | refine blk_drew ?_ | refine blk_alloc ?_ _)); exact BK251.out) hb); have n1_ := Aside0.mk (below_step (by repeat (first | (with_reducible first | exact HB.out | apply below_alloc | apply pw_below_drewN | apply below_drew1 | refine below_set ?_ GE251.out) | exact HB.out)) hb); clear BK251; clear HB; have BK251 := n0_; have HB := n1_; clear n0_ n1_; (try clear hb); (try clear hb2); (try clear hk); (try clear hi)) | ((with_reducible refine gate_dst (N := 9) rfl ?_); (try (refine gate_guard (by rfl) ?_; dsimp only)); refine box_event ?hg (N := 9) ?hd (cs := #[.bool false, .int .i64 0, .int .i64 0]) (t := 32) ?hr ?_; (case hd => rfl); (case hg => rfl); (case hr => first | (go_simp; done) | (go_simp; rfl)); intro gb258 hg w64 hbox hb; have n0_ := Aside0.mk (blk_below (g := gb251) (o := .cells #[.slice A0_0 l0_0.length c0_0, .slice A0_1 l0_1.length c0_1] 25 (0, 0)) (by (with_reducible repeat (first | refine blk_drewN ?_ _ | refine blk_drew ?_ | refine blk_alloc ?_ _)); exact BK251.out) hb); have n1_ := Aside0.mk (below_step (by repeat (first | (with_reducible first | exact HB.out | apply below_alloc | apply pw_below_drewN | apply below_drew1 | refine below_set ?_ GE251.out) | exact HB.out)) hb); have n2_ := Aside0.mk (hbox); have n3_ := Aside0.mk ((by rw [hg]; exact (below_size (by repeat (first | (with_reducible first | exact HB.out | apply below_alloc | apply pw_below_drewN | apply below_drew1 | refine below_set ?_ GE251.out) | exact HB.out))) : w.heap.size ≤ gb258)); have n4_ := Aside0.mk ((by rw [hg]; exact (below_size (by repeat (first | (with_reducible first | exact HB.out | apply below_alloc | apply pw_below_drewN | apply below_drew1 | refine below_set ?_ GE251.out) | exact HB.out))) : w.heap.size ≤ gb258)); have n5_ := Aside0.mk ((by rw [hg]; exact Nat.ne_of_lt (blk_lt (g := gb251) (o := .cells #[.slice A0_0 l0_0.length c0_0, .slice A0_1 l0_1.length c0_1] 25 (0, 0)) (by (with_reducible repeat (first | refine blk_drewN ?_ _ | refine blk_drew ?_ | refine blk_alloc ?_ _)); exact BK251.out)) : gb251 ≠ gb258)); have n6_ := Aside0.mk ((by rw [hg]; exact Nat.ne_of_gt (blk_lt (g := gb251) (o := .cells #[.slice A0_0 l0_0.length c0_0, .slice A0_1 l0_1.length c0_1] 25 (0, 0)) (by (with_reducible repeat (first | refine blk_drewN ?_ _ | refine blk_drew ?_ | refine blk_alloc ?_ _)); exact BK251.out)) : gb258 ≠ gb251)); clear BK251; clear HB; have BK251 := n0_; have HB := n1_; have BK258 := n2_; have GW258 := n3_; have GE258 := n4_; have NB251_258 := n5_; have NB258_251 := n6_; clear n0_ n1_ n2_ n3_ n4_ n5_ n6_; clear hb hbox hg; have hnb65 := NB258_251.out; have hnc65 := NB251_258.out; have hcz66_0 : w64.cell? ⟨gb258, 0, none⟩ = some (.bool false) := (blk_cell BK258.out 0).trans rfl; have hcz66_1 : w64.cell? ⟨gb258, 1, none⟩ = some (.int .i64 0) := (blk_cell BK258.out 1).trans rfl; have hcz66_2 : w64.cell? ⟨gb258, 2, none⟩ = some (.int .i64 0) := (blk_cell BK258.out 2).trans rfl; have hfz66_0 := blk_frozen BK258.out 0; have hfz66_1 := blk_frozen BK258.out 1; have hfz66_2 := blk_frozen BK258.out 2; have hcz67_0 : w64.cell? ⟨gb251, 0, none⟩ = some (.slice A0_0 l0_0.length c0_0) := (blk_cell BK251.out 0).trans rfl; have hcz67_1 : w64.cell? ⟨gb251, 1, none⟩ = some (.slice A0_1 l0_1.length c0_1) := (blk_cell BK251.out 1).trans rfl; have hfz67_0 := blk_frozen BK251.out 0; have hfz67_1 := blk_frozen BK251.out 1) | ((with_reducible refine gate_callee (f := 13) rfl ?_); refine goesL_ (some 31) rfl rfl Try.func13 (by kernel_rfl) rfl #[.agg #[.slice A0_0 l0_0.length c0_0, .slice A0_1 l0_1.length c0_1], .string a1, .int .i64 (wrap64 (a2 + (wrap64 (a3))))] rfl (by (try simp only [List.map_toArray, List.map_cons, List.map_nil]); first | done | rfl | (simp only [List.length_drop, List.length_take]; rfl)) ?_; (with_reducible refine (naive_Run.calls kj4 _ _ l0_0 _ _ l0_1 a1 (wrap64 (a2 + (wrap64 (a3)))) true t260 t261 _ ?side1 ?side2 ?side3 ?side4 A18.out).mono ?_); (case side1 => exact Kd.C_below HR0_0.out (by repeat (first | (with_reducible first | exact HB.out | apply below_alloc | apply pw_below_drewN | apply below_drew1 | refine below_set ?_ GE251.out | refine below_set ?_ GE258.out) | exact HB.out))); (case side2 => exact HC0_0.out); (case side3 => exact Kd.C_below HR0_1.out (by repeat (first | (with_reducible first | exact HB.out | apply below_alloc | apply pw_below_drewN | apply below_drew1 | refine below_set ?_ GE251.out | refine below_set ?_ GE258.out) | exact HB.out))); (case side4 => exact HC0_1.out); rintro e w68 ⟨rfl, hb⟩; refine ⟨_, rfl, ?_⟩; have n0_ := Aside0.mk (blk_below (g := gb251) (o := .cells #[.slice A0_0 l0_0.length c0_0, .slice A0_1 l0_1.length c0_1] 25 (0, 0)) (by (with_reducible repeat (first | refine blk_drewN ?_ _ | refine blk_drew ?_ | refine blk_alloc ?_ _)); refine blk_far ?_ NB251_258.out _; (with_reducible repeat (first | refine blk_drewN ?_ _ | refine blk_drew ?_ | refine blk_alloc ?_ _)); refine blk_far ?_ NB251_258.out _; (with_reducible repeat (first | refine blk_drewN ?_ _ | refine blk_drew ?_ | refine blk_alloc ?_ _)); refine blk_far ?_ NB251_258.out _; (with_reducible repeat (first | refine blk_drewN ?_ _ | refine blk_drew ?_ | refine blk_alloc ?_ _)); exact BK251.out) hb); have n1_ := Aside0.mk (blk_below (g := gb258) (o := .cells #[.bool true, .int .i64 t256, .int .i64 t257] 32 (0, 0)) (by (with_reducible repeat (first | refine blk_drewN ?_ _ | refine blk_drew ?_ | refine blk_alloc ?_ _)); refine blk_put (cs := #[.bool true, .int .i64 t256, .int .i64 0]) ?_ 2 _ rfl; (with_reducible repeat (first | refine blk_drewN ?_ _ | refine blk_drew ?_ | refine blk_alloc ?_ _)); refine blk_put (cs := #[.bool true, .int .i64 0, .int .i64 0]) ?_ 1 _ rfl; (with_reducible repeat (first | refine blk_drewN ?_ _ | refine blk_drew ?_ | refine blk_alloc ?_ _)); refine blk_put (cs := #[.bool false, .int .i64 0, .int .i64 0]) ?_ 0 _ rfl; (with_reducible repeat (first | refine blk_drewN ?_ _ | refine blk_drew ?_ | refine blk_alloc ?_ _)); exact BK258.out) hb); have n2_ := Aside0.mk (below_step (by repeat (first | (with_reducible first | exact HB.out | apply below_alloc | apply pw_below_drewN | apply below_drew1 | refine below_set ?_ GE251.out | refine below_set ?_ GE258.out) | exact HB.out)) hb); clear BK251; clear BK258; clear HB; have BK251 := n0_; have BK258 := n1_; have HB := n2_; clear n0_ n1_ n2_; (try clear hb); (try clear hb2); (try clear hk); (try clear hi)) | ((with_reducible refine gate_dst (N := 10) rfl ?_); (try (refine gate_guard (by rfl) ?_; dsimp only)); refine box_event ?hg (N := 10) ?hd (cs := #[.bool false, .int .i64 0, .int .i64 0]) (t := 32) ?hr ?_; (case hd => rfl); (case hg => rfl); (case hr => first | (go_simp; done) | (go_simp; rfl)); intro gb262 hg w69 hbox hb; have n0_ := Aside0.mk (blk_below (g := gb251) (o := .cells #[.slice A0_0 l0_0.length c0_0, .slice A0_1 l0_1.length c0_1] 25 (0, 0)) (by (with_reducible repeat (first | refine blk_drewN ?_ _ | refine blk_drew ?_ | refine blk_alloc ?_ _)); exact BK251.out) hb); have n1_ := Aside0.mk (blk_below (g := gb258) (o := .cells #[.bool true, .int .i64 t256, .int .i64 t257] 32 (0, 0)) (by (with_reducible repeat (first | refine blk_drewN ?_ _ | refine blk_drew ?_ | refine blk_alloc ?_ _)); exact BK258.out) hb); have n2_ := Aside0.mk (below_step (by repeat (first | (with_reducible first | exact HB.out | apply below_alloc | apply pw_below_drewN | apply below_drew1 | refine below_set ?_ GE251.out | refine below_set ?_ GE258.out) | exact HB.out)) hb); have n3_ := Aside0.mk (hbox); have n4_ := Aside0.mk ((by rw [hg]; exact (below_size (by repeat (first | (with_reducible first | exact HB.out | apply below_alloc | apply pw_below_drewN | apply below_drew1 | refine below_set ?_ GE251.out | refine below_set ?_ GE258.out) | exact HB.out))) : w.heap.size ≤ gb262)); have n5_ := Aside0.mk ((by rw [hg]; exact (below_size (by repeat (first | (with_reducible first | exact HB.out | apply below_alloc | apply pw_below_drewN | apply below_drew1 | refine below_set ?_ GE251.out | refine below_set ?_ GE258.out) | exact HB.out))) : w.heap.size ≤ gb262)); have n6_ := Aside0.mk ((by rw [hg]; exact Nat.ne_of_lt (blk_lt (g := gb251) (o := .cells #[.slice A0_0 l0_0.length c0_0, .slice A0_1 l0_1.length c0_1] 25 (0, 0)) (by (with_reducible repeat (first | refine blk_drewN ?_ _ | refine blk_drew ?_ | refine blk_alloc ?_ _)); exact BK251.out)) : gb251 ≠ gb262)); have n7_ := Aside0.mk ((by rw [hg]; exact Nat.ne_of_gt (blk_lt (g := gb251) (o := .cells #[.slice A0_0 l0_0.length c0_0, .slice A0_1 l0_1.length c0_1] 25 (0, 0)) (by (with_reducible repeat (first | refine blk_drewN ?_ _ | refine blk_drew ?_ | refine blk_alloc ?_ _)); exact BK251.out)) : gb262 ≠ gb251)); have n8_ := Aside0.mk ((by rw [hg]; exact Nat.ne_of_lt (blk_lt (g := gb258) (o := .cells #[.bool true, .int .i64 t256, .int .i64 t257] 32 (0, 0)) (by (with_reducible repeat (first | refine blk_drewN ?_ _ | refine blk_drew ?_ | refine blk_alloc ?_ _)); exact BK258.out)) : gb258 ≠ gb262)); have n9_ := Aside0.mk ((by rw [hg]; exact Nat.ne_of_gt (blk_lt (g := gb258) (o := .cells #[.bool true, .int .i64 t256, .int .i64 t257] 32 (0, 0)) (by (with_reducible repeat (first | refine blk_drewN ?_ _ | refine blk_drew ?_ | refine blk_alloc ?_ _)); exact BK258.out)) : gb262 ≠ gb258)); clear BK251; clear BK258; clear HB; have BK251 := n0_; have BK258 := n1_; have HB := n2_; have BK262 := n3_; have GW262 := n4_; have GE262 := n5_; have NB251_262 := n6_; have NB262_251 := n7_; have NB258_262 := n8_; have NB262_258 := n9_; clear n0_ n1_ n2_ n3_ n4_ n5_ n6_ n7_ n8_ n9_; clear hb hbox hg; have hnb70 := NB262_251.out; have hnc70 := NB251_262.out; have hnb71 := NB262_258.out; have hnc71 := NB258_262.out; have hcz72_0 : w69.cell? ⟨gb262, 0, none⟩ = some (.bool false) := (blk_cell BK262.out 0).trans rfl; have hcz72_1 : w69.cell? ⟨gb262, 1, none⟩ = some (.int .i64 0) := (blk_cell BK262.out 1).trans rfl; have hcz72_2 : w69.cell? ⟨gb262, 2, none⟩ = some (.int .i64 0) := (blk_cell BK262.out 2).trans rfl; have hfz72_0 := blk_frozen BK262.out 0; have hfz72_1 := blk_frozen BK262.out 1; have hfz72_2 := blk_frozen BK262.out 2; have hcz73_0 : w69.cell? ⟨gb258, 0, none⟩ = some (.bool true) := (blk_cell BK258.out 0).trans rfl; have hcz73_1 : w69.cell? ⟨gb258, 1, none⟩ = some (.int .i64 t256) := (blk_cell BK258.out 1).trans rfl; have hcz73_2 : w69.cell? ⟨gb258, 2, none⟩ = some (.int .i64 t257) := (blk_cell BK258.out 2).trans rfl; have hfz73_0 := blk_frozen BK258.out 0; have hfz73_1 := blk_frozen BK258.out 1; have hfz73_2 := blk_frozen BK258.out 2))
         go_ret
         exact ⟨by first | rfl | (simp [errW_none, errW_some] <;> rfl) | (simp [*, errW_none, errW_some] <;> rfl), by repeat (first | (with_reducible first | exact HB.out | apply below_alloc | apply pw_below_drewN | apply below_drew1 | refine below_set ?_ GE251.out | refine below_set ?_ GE258.out | refine below_set ?_ GE262.out) | exact HB.out)⟩
       ·
        rw [if_neg c22] at H
        have c22b0 : (t261 == (wrap64 (t257 + (wrap64 (a3))))) = false := beq_eq_false_iff_ne.mpr c22
        have c22b1 : (t261 != (wrap64 (t257 + (wrap64 (a3))))) = true := bne_iff_ne.mpr c22
        obtain rfl := Option.some.inj H
        have hcz74_0 : wc.cell? ⟨gb251, 0, none⟩ = some (.slice A0_0 l0_0.length c0_0) := (blk_cell BK251.out 0).trans rfl
        have hcz74_1 : wc.cell? ⟨gb251, 1, none⟩ = some (.slice A0_1 l0_1.length c0_1) := (blk_cell BK251.out 1).trans rfl
        have hfz74_0 := blk_frozen BK251.out 0
        have hfz74_1 := blk_frozen BK251.out 1
        go_wp2_with (first | ((with_reducible refine gate_callee (f := 13) rfl ?_); refine goesL_ (some 24) rfl rfl Try.func13 (by kernel_rfl) rfl #[.agg #[.slice A0_0 l0_0.length c0_0, .slice A0_1 l0_1.length c0_1], .string a1, .int .i64 a2] rfl (by (try simp only [List.map_toArray, List.map_cons, List.map_nil]); first | done | rfl | (simp only [List.length_drop, List.length_take]; rfl)) ?_; (with_reducible refine (naive_Run.calls kj4 _ _ l0_0 _ _ l0_1 a1 a2 true t256 t257 _ ?side1 ?side2 ?side3 ?side4 A17.out).mono ?_); (case side1 => repeat (first | exact (Kd.C_below HR0_0.out HB.out) | (with_reducible refine Kd.C_alloc ?_ _) | (with_reducible refine Kd.C_drewN ?_ _) | (with_reducible refine Kd.C_drew ?_))); (case side2 => exact HC0_0.out); (case side3 => repeat (first | exact (Kd.C_below HR0_1.out HB.out) | (with_reducible refine Kd.C_alloc ?_ _) | (with_reducible refine Kd.C_drewN ?_ _) | (with_reducible refine Kd.C_drew ?_))); (case side4 => exact HC0_1.out); rintro e w75 ⟨rfl, hb⟩; refine ⟨_, rfl, ?_⟩; have n0_ := Aside0.mk (blk_below (g := gb251) (o := .cells #[.slice A0_0 l0_0.length c0_0, .slice A0_1 l0_1.length c0_1] 25 (0, 0)) (by (with_reducible repeat (first | refine blk_drewN ?_ _ | refine blk_drew ?_ | refine blk_alloc ?_ _)); exact BK251.out) hb); have n1_ := Aside0.mk (below_step (by repeat (first | (with_reducible first | exact HB.out | apply below_alloc | apply pw_below_drewN | apply below_drew1 | refine below_set ?_ GE251.out) | exact HB.out)) hb); clear BK251; clear HB; have BK251 := n0_; have HB := n1_; clear n0_ n1_; (try clear hb); (try clear hb2); (try clear hk); (try clear hi)) | ((with_reducible refine gate_dst (N := 9) rfl ?_); (try (refine gate_guard (by rfl) ?_; dsimp only)); refine box_event ?hg (N := 9) ?hd (cs := #[.bool false, .int .i64 0, .int .i64 0]) (t := 32) ?hr ?_; (case hd => rfl); (case hg => rfl); (case hr => first | (go_simp; done) | (go_simp; rfl)); intro gb258 hg w76 hbox hb; have n0_ := Aside0.mk (blk_below (g := gb251) (o := .cells #[.slice A0_0 l0_0.length c0_0, .slice A0_1 l0_1.length c0_1] 25 (0, 0)) (by (with_reducible repeat (first | refine blk_drewN ?_ _ | refine blk_drew ?_ | refine blk_alloc ?_ _)); exact BK251.out) hb); have n1_ := Aside0.mk (below_step (by repeat (first | (with_reducible first | exact HB.out | apply below_alloc | apply pw_below_drewN | apply below_drew1 | refine below_set ?_ GE251.out) | exact HB.out)) hb); have n2_ := Aside0.mk (hbox); have n3_ := Aside0.mk ((by rw [hg]; exact (below_size (by repeat (first | (with_reducible first | exact HB.out | apply below_alloc | apply pw_below_drewN | apply below_drew1 | refine below_set ?_ GE251.out) | exact HB.out))) : w.heap.size ≤ gb258)); have n4_ := Aside0.mk ((by rw [hg]; exact (below_size (by repeat (first | (with_reducible first | exact HB.out | apply below_alloc | apply pw_below_drewN | apply below_drew1 | refine below_set ?_ GE251.out) | exact HB.out))) : w.heap.size ≤ gb258)); have n5_ := Aside0.mk ((by rw [hg]; exact Nat.ne_of_lt (blk_lt (g := gb251) (o := .cells #[.slice A0_0 l0_0.length c0_0, .slice A0_1 l0_1.length c0_1] 25 (0, 0)) (by (with_reducible repeat (first | refine blk_drewN ?_ _ | refine blk_drew ?_ | refine blk_alloc ?_ _)); exact BK251.out)) : gb251 ≠ gb258)); have n6_ := Aside0.mk ((by rw [hg]; exact Nat.ne_of_gt (blk_lt (g := gb251) (o := .cells #[.slice A0_0 l0_0.length c0_0, .slice A0_1 l0_1.length c0_1] 25 (0, 0)) (by (with_reducible repeat (first | refine blk_drewN ?_ _ | refine blk_drew ?_ | refine blk_alloc ?_ _)); exact BK251.out)) : gb258 ≠ gb251)); clear BK251; clear HB; have BK251 := n0_; have HB := n1_; have BK258 := n2_; have GW258 := n3_; have GE258 := n4_; have NB251_258 := n5_; have NB258_251 := n6_; clear n0_ n1_ n2_ n3_ n4_ n5_ n6_; clear hb hbox hg; have hnb77 := NB258_251.out; have hnc77 := NB251_258.out; have hcz78_0 : w76.cell? ⟨gb258, 0, none⟩ = some (.bool false) := (blk_cell BK258.out 0).trans rfl; have hcz78_1 : w76.cell? ⟨gb258, 1, none⟩ = some (.int .i64 0) := (blk_cell BK258.out 1).trans rfl; have hcz78_2 : w76.cell? ⟨gb258, 2, none⟩ = some (.int .i64 0) := (blk_cell BK258.out 2).trans rfl; have hfz78_0 := blk_frozen BK258.out 0; have hfz78_1 := blk_frozen BK258.out 1; have hfz78_2 := blk_frozen BK258.out 2; have hcz79_0 : w76.cell? ⟨gb251, 0, none⟩ = some (.slice A0_0 l0_0.length c0_0) := (blk_cell BK251.out 0).trans rfl; have hcz79_1 : w76.cell? ⟨gb251, 1, none⟩ = some (.slice A0_1 l0_1.length c0_1) := (blk_cell BK251.out 1).trans rfl; have hfz79_0 := blk_frozen BK251.out 0; have hfz79_1 := blk_frozen BK251.out 1) | ((with_reducible refine gate_callee (f := 13) rfl ?_); refine goesL_ (some 31) rfl rfl Try.func13 (by kernel_rfl) rfl #[.agg #[.slice A0_0 l0_0.length c0_0, .slice A0_1 l0_1.length c0_1], .string a1, .int .i64 (wrap64 (a2 + (wrap64 (a3))))] rfl (by (try simp only [List.map_toArray, List.map_cons, List.map_nil]); first | done | rfl | (simp only [List.length_drop, List.length_take]; rfl)) ?_; (with_reducible refine (naive_Run.calls kj4 _ _ l0_0 _ _ l0_1 a1 (wrap64 (a2 + (wrap64 (a3)))) true t260 t261 _ ?side1 ?side2 ?side3 ?side4 A18.out).mono ?_); (case side1 => exact Kd.C_below HR0_0.out (by repeat (first | (with_reducible first | exact HB.out | apply below_alloc | apply pw_below_drewN | apply below_drew1 | refine below_set ?_ GE251.out | refine below_set ?_ GE258.out) | exact HB.out))); (case side2 => exact HC0_0.out); (case side3 => exact Kd.C_below HR0_1.out (by repeat (first | (with_reducible first | exact HB.out | apply below_alloc | apply pw_below_drewN | apply below_drew1 | refine below_set ?_ GE251.out | refine below_set ?_ GE258.out) | exact HB.out))); (case side4 => exact HC0_1.out); rintro e w80 ⟨rfl, hb⟩; refine ⟨_, rfl, ?_⟩; have n0_ := Aside0.mk (blk_below (g := gb251) (o := .cells #[.slice A0_0 l0_0.length c0_0, .slice A0_1 l0_1.length c0_1] 25 (0, 0)) (by (with_reducible repeat (first | refine blk_drewN ?_ _ | refine blk_drew ?_ | refine blk_alloc ?_ _)); refine blk_far ?_ NB251_258.out _; (with_reducible repeat (first | refine blk_drewN ?_ _ | refine blk_drew ?_ | refine blk_alloc ?_ _)); refine blk_far ?_ NB251_258.out _; (with_reducible repeat (first | refine blk_drewN ?_ _ | refine blk_drew ?_ | refine blk_alloc ?_ _)); refine blk_far ?_ NB251_258.out _; (with_reducible repeat (first | refine blk_drewN ?_ _ | refine blk_drew ?_ | refine blk_alloc ?_ _)); exact BK251.out) hb); have n1_ := Aside0.mk (blk_below (g := gb258) (o := .cells #[.bool true, .int .i64 t256, .int .i64 t257] 32 (0, 0)) (by (with_reducible repeat (first | refine blk_drewN ?_ _ | refine blk_drew ?_ | refine blk_alloc ?_ _)); refine blk_put (cs := #[.bool true, .int .i64 t256, .int .i64 0]) ?_ 2 _ rfl; (with_reducible repeat (first | refine blk_drewN ?_ _ | refine blk_drew ?_ | refine blk_alloc ?_ _)); refine blk_put (cs := #[.bool true, .int .i64 0, .int .i64 0]) ?_ 1 _ rfl; (with_reducible repeat (first | refine blk_drewN ?_ _ | refine blk_drew ?_ | refine blk_alloc ?_ _)); refine blk_put (cs := #[.bool false, .int .i64 0, .int .i64 0]) ?_ 0 _ rfl; (with_reducible repeat (first | refine blk_drewN ?_ _ | refine blk_drew ?_ | refine blk_alloc ?_ _)); exact BK258.out) hb); have n2_ := Aside0.mk (below_step (by repeat (first | (with_reducible first | exact HB.out | apply below_alloc | apply pw_below_drewN | apply below_drew1 | refine below_set ?_ GE251.out | refine below_set ?_ GE258.out) | exact HB.out)) hb); clear BK251; clear BK258; clear HB; have BK251 := n0_; have BK258 := n1_; have HB := n2_; clear n0_ n1_ n2_; (try clear hb); (try clear hb2); (try clear hk); (try clear hi)) | ((with_reducible refine gate_dst (N := 10) rfl ?_); (try (refine gate_guard (by rfl) ?_; dsimp only)); refine box_event ?hg (N := 10) ?hd (cs := #[.bool false, .int .i64 0, .int .i64 0]) (t := 32) ?hr ?_; (case hd => rfl); (case hg => rfl); (case hr => first | (go_simp; done) | (go_simp; rfl)); intro gb262 hg w81 hbox hb; have n0_ := Aside0.mk (blk_below (g := gb251) (o := .cells #[.slice A0_0 l0_0.length c0_0, .slice A0_1 l0_1.length c0_1] 25 (0, 0)) (by (with_reducible repeat (first | refine blk_drewN ?_ _ | refine blk_drew ?_ | refine blk_alloc ?_ _)); exact BK251.out) hb); have n1_ := Aside0.mk (blk_below (g := gb258) (o := .cells #[.bool true, .int .i64 t256, .int .i64 t257] 32 (0, 0)) (by (with_reducible repeat (first | refine blk_drewN ?_ _ | refine blk_drew ?_ | refine blk_alloc ?_ _)); exact BK258.out) hb); have n2_ := Aside0.mk (below_step (by repeat (first | (with_reducible first | exact HB.out | apply below_alloc | apply pw_below_drewN | apply below_drew1 | refine below_set ?_ GE251.out | refine below_set ?_ GE258.out) | exact HB.out)) hb); have n3_ := Aside0.mk (hbox); have n4_ := Aside0.mk ((by rw [hg]; exact (below_size (by repeat (first | (with_reducible first | exact HB.out | apply below_alloc | apply pw_below_drewN | apply below_drew1 | refine below_set ?_ GE251.out | refine below_set ?_ GE258.out) | exact HB.out))) : w.heap.size ≤ gb262)); have n5_ := Aside0.mk ((by rw [hg]; exact (below_size (by repeat (first | (with_reducible first | exact HB.out | apply below_alloc | apply pw_below_drewN | apply below_drew1 | refine below_set ?_ GE251.out | refine below_set ?_ GE258.out) | exact HB.out))) : w.heap.size ≤ gb262)); have n6_ := Aside0.mk ((by rw [hg]; exact Nat.ne_of_lt (blk_lt (g := gb251) (o := .cells #[.slice A0_0 l0_0.length c0_0, .slice A0_1 l0_1.length c0_1] 25 (0, 0)) (by (with_reducible repeat (first | refine blk_drewN ?_ _ | refine blk_drew ?_ | refine blk_alloc ?_ _)); exact BK251.out)) : gb251 ≠ gb262)); have n7_ := Aside0.mk ((by rw [hg]; exact Nat.ne_of_gt (blk_lt (g := gb251) (o := .cells #[.slice A0_0 l0_0.length c0_0, .slice A0_1 l0_1.length c0_1] 25 (0, 0)) (by (with_reducible repeat (first | refine blk_drewN ?_ _ | refine blk_drew ?_ | refine blk_alloc ?_ _)); exact BK251.out)) : gb262 ≠ gb251)); have n8_ := Aside0.mk ((by rw [hg]; exact Nat.ne_of_lt (blk_lt (g := gb258) (o := .cells #[.bool true, .int .i64 t256, .int .i64 t257] 32 (0, 0)) (by (with_reducible repeat (first | refine blk_drewN ?_ _ | refine blk_drew ?_ | refine blk_alloc ?_ _)); exact BK258.out)) : gb258 ≠ gb262)); have n9_ := Aside0.mk ((by rw [hg]; exact Nat.ne_of_gt (blk_lt (g := gb258) (o := .cells #[.bool true, .int .i64 t256, .int .i64 t257] 32 (0, 0)) (by (with_reducible repeat (first | refine blk_drewN ?_ _ | refine blk_drew ?_ | refine blk_alloc ?_ _)); exact BK258.out)) : gb262 ≠ gb258)); clear BK251; clear BK258; clear HB; have BK251 := n0_; have BK258 := n1_; have HB := n2_; have BK262 := n3_; have GW262 := n4_; have GE262 := n5_; have NB251_262 := n6_; have NB262_251 := n7_; have NB258_262 := n8_; have NB262_258 := n9_; clear n0_ n1_ n2_ n3_ n4_ n5_ n6_ n7_ n8_ n9_; clear hb hbox hg; have hnb82 := NB262_251.out; have hnc82 := NB251_262.out; have hnb83 := NB262_258.out; have hnc83 := NB258_262.out; have hcz84_0 : w81.cell? ⟨gb262, 0, none⟩ = some (.bool false) := (blk_cell BK262.out 0).trans rfl; have hcz84_1 : w81.cell? ⟨gb262, 1, none⟩ = some (.int .i64 0) := (blk_cell BK262.out 1).trans rfl; have hcz84_2 : w81.cell? ⟨gb262, 2, none⟩ = some (.int .i64 0) := (blk_cell BK262.out 2).trans rfl; have hfz84_0 := blk_frozen BK262.out 0; have hfz84_1 := blk_frozen BK262.out 1; have hfz84_2 := blk_frozen BK262.out 2; have hcz85_0 : w81.cell? ⟨gb258, 0, none⟩ = some (.bool true) := (blk_cell BK258.out 0).trans rfl; have hcz85_1 : w81.cell? ⟨gb258, 1, none⟩ = some (.int .i64 t256) := (blk_cell BK258.out 1).trans rfl; have hcz85_2 : w81.cell? ⟨gb258, 2, none⟩ = some (.int .i64 t257) := (blk_cell BK258.out 2).trans rfl; have hfz85_0 := blk_frozen BK258.out 0; have hfz85_1 := blk_frozen BK258.out 1; have hfz85_2 := blk_frozen BK258.out 2))
        go_ret
        exact ⟨by first | rfl | (simp [errW_none, errW_some] <;> rfl) | (simp [*, errW_none, errW_some] <;> rfl), by repeat (first | (with_reducible first | exact HB.out | apply below_alloc | apply pw_below_drewN | apply below_drew1 | refine below_set ?_ GE251.out | refine below_set ?_ GE258.out | refine below_set ?_ GE262.out) | exact HB.out)⟩
      ·
       rw [if_neg c21] at H
       have c21b0 : (t260 == t256) = false := beq_eq_false_iff_ne.mpr c21
       have c21b1 : (t260 != t256) = true := bne_iff_ne.mpr c21
       obtain rfl := Option.some.inj H
       have hcz86_0 : wc.cell? ⟨gb251, 0, none⟩ = some (.slice A0_0 l0_0.length c0_0) := (blk_cell BK251.out 0).trans rfl
       have hcz86_1 : wc.cell? ⟨gb251, 1, none⟩ = some (.slice A0_1 l0_1.length c0_1) := (blk_cell BK251.out 1).trans rfl
       have hfz86_0 := blk_frozen BK251.out 0
       have hfz86_1 := blk_frozen BK251.out 1
       go_wp2_with (first | ((with_reducible refine gate_callee (f := 13) rfl ?_); refine goesL_ (some 24) rfl rfl Try.func13 (by kernel_rfl) rfl #[.agg #[.slice A0_0 l0_0.length c0_0, .slice A0_1 l0_1.length c0_1], .string a1, .int .i64 a2] rfl (by (try simp only [List.map_toArray, List.map_cons, List.map_nil]); first | done | rfl | (simp only [List.length_drop, List.length_take]; rfl)) ?_; (with_reducible refine (naive_Run.calls kj4 _ _ l0_0 _ _ l0_1 a1 a2 true t256 t257 _ ?side1 ?side2 ?side3 ?side4 A17.out).mono ?_); (case side1 => repeat (first | exact (Kd.C_below HR0_0.out HB.out) | (with_reducible refine Kd.C_alloc ?_ _) | (with_reducible refine Kd.C_drewN ?_ _) | (with_reducible refine Kd.C_drew ?_))); (case side2 => exact HC0_0.out); (case side3 => repeat (first | exact (Kd.C_below HR0_1.out HB.out) | (with_reducible refine Kd.C_alloc ?_ _) | (with_reducible refine Kd.C_drewN ?_ _) | (with_reducible refine Kd.C_drew ?_))); (case side4 => exact HC0_1.out); rintro e w87 ⟨rfl, hb⟩; refine ⟨_, rfl, ?_⟩; have n0_ := Aside0.mk (blk_below (g := gb251) (o := .cells #[.slice A0_0 l0_0.length c0_0, .slice A0_1 l0_1.length c0_1] 25 (0, 0)) (by (with_reducible repeat (first | refine blk_drewN ?_ _ | refine blk_drew ?_ | refine blk_alloc ?_ _)); exact BK251.out) hb); have n1_ := Aside0.mk (below_step (by repeat (first | (with_reducible first | exact HB.out | apply below_alloc | apply pw_below_drewN | apply below_drew1 | refine below_set ?_ GE251.out) | exact HB.out)) hb); clear BK251; clear HB; have BK251 := n0_; have HB := n1_; clear n0_ n1_; (try clear hb); (try clear hb2); (try clear hk); (try clear hi)) | ((with_reducible refine gate_dst (N := 9) rfl ?_); (try (refine gate_guard (by rfl) ?_; dsimp only)); refine box_event ?hg (N := 9) ?hd (cs := #[.bool false, .int .i64 0, .int .i64 0]) (t := 32) ?hr ?_; (case hd => rfl); (case hg => rfl); (case hr => first | (go_simp; done) | (go_simp; rfl)); intro gb258 hg w88 hbox hb; have n0_ := Aside0.mk (blk_below (g := gb251) (o := .cells #[.slice A0_0 l0_0.length c0_0, .slice A0_1 l0_1.length c0_1] 25 (0, 0)) (by (with_reducible repeat (first | refine blk_drewN ?_ _ | refine blk_drew ?_ | refine blk_alloc ?_ _)); exact BK251.out) hb); have n1_ := Aside0.mk (below_step (by repeat (first | (with_reducible first | exact HB.out | apply below_alloc | apply pw_below_drewN | apply below_drew1 | refine below_set ?_ GE251.out) | exact HB.out)) hb); have n2_ := Aside0.mk (hbox); have n3_ := Aside0.mk ((by rw [hg]; exact (below_size (by repeat (first | (with_reducible first | exact HB.out | apply below_alloc | apply pw_below_drewN | apply below_drew1 | refine below_set ?_ GE251.out) | exact HB.out))) : w.heap.size ≤ gb258)); have n4_ := Aside0.mk ((by rw [hg]; exact (below_size (by repeat (first | (with_reducible first | exact HB.out | apply below_alloc | apply pw_below_drewN | apply below_drew1 | refine below_set ?_ GE251.out) | exact HB.out))) : w.heap.size ≤ gb258)); have n5_ := Aside0.mk ((by rw [hg]; exact Nat.ne_of_lt (blk_lt (g := gb251) (o := .cells #[.slice A0_0 l0_0.length c0_0, .slice A0_1 l0_1.length c0_1] 25 (0, 0)) (by (with_reducible repeat (first | refine blk_drewN ?_ _ | refine blk_drew ?_ | refine blk_alloc ?_ _)); exact BK251.out)) : gb251 ≠ gb258)); have n6_ := Aside0.mk ((by rw [hg]; exact Nat.ne_of_gt (blk_lt (g := gb251) (o := .cells #[.slice A0_0 l0_0.length c0_0, .slice A0_1 l0_1.length c0_1] 25 (0, 0)) (by (with_reducible repeat (first | refine blk_drewN ?_ _ | refine blk_drew ?_ | refine blk_alloc ?_ _)); exact BK251.out)) : gb258 ≠ gb251)); clear BK251; clear HB; have BK251 := n0_; have HB := n1_; have BK258 := n2_; have GW258 := n3_; have GE258 := n4_; have NB251_258 := n5_; have NB258_251 := n6_; clear n0_ n1_ n2_ n3_ n4_ n5_ n6_; clear hb hbox hg; have hnb89 := NB258_251.out; have hnc89 := NB251_258.out; have hcz90_0 : w88.cell? ⟨gb258, 0, none⟩ = some (.bool false) := (blk_cell BK258.out 0).trans rfl; have hcz90_1 : w88.cell? ⟨gb258, 1, none⟩ = some (.int .i64 0) := (blk_cell BK258.out 1).trans rfl; have hcz90_2 : w88.cell? ⟨gb258, 2, none⟩ = some (.int .i64 0) := (blk_cell BK258.out 2).trans rfl; have hfz90_0 := blk_frozen BK258.out 0; have hfz90_1 := blk_frozen BK258.out 1; have hfz90_2 := blk_frozen BK258.out 2; have hcz91_0 : w88.cell? ⟨gb251, 0, none⟩ = some (.slice A0_0 l0_0.length c0_0) := (blk_cell BK251.out 0).trans rfl; have hcz91_1 : w88.cell? ⟨gb251, 1, none⟩ = some (.slice A0_1 l0_1.length c0_1) := (blk_cell BK251.out 1).trans rfl; have hfz91_0 := blk_frozen BK251.out 0; have hfz91_1 := blk_frozen BK251.out 1) | ((with_reducible refine gate_callee (f := 13) rfl ?_); refine goesL_ (some 31) rfl rfl Try.func13 (by kernel_rfl) rfl #[.agg #[.slice A0_0 l0_0.length c0_0, .slice A0_1 l0_1.length c0_1], .string a1, .int .i64 (wrap64 (a2 + (wrap64 (a3))))] rfl (by (try simp only [List.map_toArray, List.map_cons, List.map_nil]); first | done | rfl | (simp only [List.length_drop, List.length_take]; rfl)) ?_; (with_reducible refine (naive_Run.calls kj4 _ _ l0_0 _ _ l0_1 a1 (wrap64 (a2 + (wrap64 (a3)))) true t260 t261 _ ?side1 ?side2 ?side3 ?side4 A18.out).mono ?_); (case side1 => exact Kd.C_below HR0_0.out (by repeat (first | (with_reducible first | exact HB.out | apply below_alloc | apply pw_below_drewN | apply below_drew1 | refine below_set ?_ GE251.out | refine below_set ?_ GE258.out) | exact HB.out))); (case side2 => exact HC0_0.out); (case side3 => exact Kd.C_below HR0_1.out (by repeat (first | (with_reducible first | exact HB.out | apply below_alloc | apply pw_below_drewN | apply below_drew1 | refine below_set ?_ GE251.out | refine below_set ?_ GE258.out) | exact HB.out))); (case side4 => exact HC0_1.out); rintro e w92 ⟨rfl, hb⟩; refine ⟨_, rfl, ?_⟩; have n0_ := Aside0.mk (blk_below (g := gb251) (o := .cells #[.slice A0_0 l0_0.length c0_0, .slice A0_1 l0_1.length c0_1] 25 (0, 0)) (by (with_reducible repeat (first | refine blk_drewN ?_ _ | refine blk_drew ?_ | refine blk_alloc ?_ _)); refine blk_far ?_ NB251_258.out _; (with_reducible repeat (first | refine blk_drewN ?_ _ | refine blk_drew ?_ | refine blk_alloc ?_ _)); refine blk_far ?_ NB251_258.out _; (with_reducible repeat (first | refine blk_drewN ?_ _ | refine blk_drew ?_ | refine blk_alloc ?_ _)); refine blk_far ?_ NB251_258.out _; (with_reducible repeat (first | refine blk_drewN ?_ _ | refine blk_drew ?_ | refine blk_alloc ?_ _)); exact BK251.out) hb); have n1_ := Aside0.mk (blk_below (g := gb258) (o := .cells #[.bool true, .int .i64 t256, .int .i64 t257] 32 (0, 0)) (by (with_reducible repeat (first | refine blk_drewN ?_ _ | refine blk_drew ?_ | refine blk_alloc ?_ _)); refine blk_put (cs := #[.bool true, .int .i64 t256, .int .i64 0]) ?_ 2 _ rfl; (with_reducible repeat (first | refine blk_drewN ?_ _ | refine blk_drew ?_ | refine blk_alloc ?_ _)); refine blk_put (cs := #[.bool true, .int .i64 0, .int .i64 0]) ?_ 1 _ rfl; (with_reducible repeat (first | refine blk_drewN ?_ _ | refine blk_drew ?_ | refine blk_alloc ?_ _)); refine blk_put (cs := #[.bool false, .int .i64 0, .int .i64 0]) ?_ 0 _ rfl; (with_reducible repeat (first | refine blk_drewN ?_ _ | refine blk_drew ?_ | refine blk_alloc ?_ _)); exact BK258.out) hb); have n2_ := Aside0.mk (below_step (by repeat (first | (with_reducible first | exact HB.out | apply below_alloc | apply pw_below_drewN | apply below_drew1 | refine below_set ?_ GE251.out | refine below_set ?_ GE258.out) | exact HB.out)) hb); clear BK251; clear BK258; clear HB; have BK251 := n0_; have BK258 := n1_; have HB := n2_; clear n0_ n1_ n2_; (try clear hb); (try clear hb2); (try clear hk); (try clear hi)) | ((with_reducible refine gate_dst (N := 10) rfl ?_); (try (refine gate_guard (by rfl) ?_; dsimp only)); refine box_event ?hg (N := 10) ?hd (cs := #[.bool false, .int .i64 0, .int .i64 0]) (t := 32) ?hr ?_; (case hd => rfl); (case hg => rfl); (case hr => first | (go_simp; done) | (go_simp; rfl)); intro gb262 hg w93 hbox hb; have n0_ := Aside0.mk (blk_below (g := gb251) (o := .cells #[.slice A0_0 l0_0.length c0_0, .slice A0_1 l0_1.length c0_1] 25 (0, 0)) (by (with_reducible repeat (first | refine blk_drewN ?_ _ | refine blk_drew ?_ | refine blk_alloc ?_ _)); exact BK251.out) hb); have n1_ := Aside0.mk (blk_below (g := gb258) (o := .cells #[.bool true, .int .i64 t256, .int .i64 t257] 32 (0, 0)) (by (with_reducible repeat (first | refine blk_drewN ?_ _ | refine blk_drew ?_ | refine blk_alloc ?_ _)); exact BK258.out) hb); have n2_ := Aside0.mk (below_step (by repeat (first | (with_reducible first | exact HB.out | apply below_alloc | apply pw_below_drewN | apply below_drew1 | refine below_set ?_ GE251.out | refine below_set ?_ GE258.out) | exact HB.out)) hb); have n3_ := Aside0.mk (hbox); have n4_ := Aside0.mk ((by rw [hg]; exact (below_size (by repeat (first | (with_reducible first | exact HB.out | apply below_alloc | apply pw_below_drewN | apply below_drew1 | refine below_set ?_ GE251.out | refine below_set ?_ GE258.out) | exact HB.out))) : w.heap.size ≤ gb262)); have n5_ := Aside0.mk ((by rw [hg]; exact (below_size (by repeat (first | (with_reducible first | exact HB.out | apply below_alloc | apply pw_below_drewN | apply below_drew1 | refine below_set ?_ GE251.out | refine below_set ?_ GE258.out) | exact HB.out))) : w.heap.size ≤ gb262)); have n6_ := Aside0.mk ((by rw [hg]; exact Nat.ne_of_lt (blk_lt (g := gb251) (o := .cells #[.slice A0_0 l0_0.length c0_0, .slice A0_1 l0_1.length c0_1] 25 (0, 0)) (by (with_reducible repeat (first | refine blk_drewN ?_ _ | refine blk_drew ?_ | refine blk_alloc ?_ _)); exact BK251.out)) : gb251 ≠ gb262)); have n7_ := Aside0.mk ((by rw [hg]; exact Nat.ne_of_gt (blk_lt (g := gb251) (o := .cells #[.slice A0_0 l0_0.length c0_0, .slice A0_1 l0_1.length c0_1] 25 (0, 0)) (by (with_reducible repeat (first | refine blk_drewN ?_ _ | refine blk_drew ?_ | refine blk_alloc ?_ _)); exact BK251.out)) : gb262 ≠ gb251)); have n8_ := Aside0.mk ((by rw [hg]; exact Nat.ne_of_lt (blk_lt (g := gb258) (o := .cells #[.bool true, .int .i64 t256, .int .i64 t257] 32 (0, 0)) (by (with_reducible repeat (first | refine blk_drewN ?_ _ | refine blk_drew ?_ | refine blk_alloc ?_ _)); exact BK258.out)) : gb258 ≠ gb262)); have n9_ := Aside0.mk ((by rw [hg]; exact Nat.ne_of_gt (blk_lt (g := gb258) (o := .cells #[.bool true, .int .i64 t256, .int .i64 t257] 32 (0, 0)) (by (with_reducible repeat (first | refine blk_drewN ?_ _ | refine blk_drew ?_ | refine blk_alloc ?_ _)); exact BK258.out)) : gb262 ≠ gb258)); clear BK251; clear BK258; clear HB; have BK251 := n0_; have BK258 := n1_; have HB := n2_; have BK262 := n3_; have GW262 := n4_; have GE262 := n5_; have NB251_262 := n6_; have NB262_251 := n7_; have NB258_262 := n8_; have NB262_258 := n9_; clear n0_ n1_ n2_ n3_ n4_ n5_ n6_ n7_ n8_ n9_; clear hb hbox hg; have hnb94 := NB262_251.out; have hnc94 := NB251_262.out; have hnb95 := NB262_258.out; have hnc95 := NB258_262.out; have hcz96_0 : w93.cell? ⟨gb262, 0, none⟩ = some (.bool false) := (blk_cell BK262.out 0).trans rfl; have hcz96_1 : w93.cell? ⟨gb262, 1, none⟩ = some (.int .i64 0) := (blk_cell BK262.out 1).trans rfl; have hcz96_2 : w93.cell? ⟨gb262, 2, none⟩ = some (.int .i64 0) := (blk_cell BK262.out 2).trans rfl; have hfz96_0 := blk_frozen BK262.out 0; have hfz96_1 := blk_frozen BK262.out 1; have hfz96_2 := blk_frozen BK262.out 2; have hcz97_0 : w93.cell? ⟨gb258, 0, none⟩ = some (.bool true) := (blk_cell BK258.out 0).trans rfl; have hcz97_1 : w93.cell? ⟨gb258, 1, none⟩ = some (.int .i64 t256) := (blk_cell BK258.out 1).trans rfl; have hcz97_2 : w93.cell? ⟨gb258, 2, none⟩ = some (.int .i64 t257) := (blk_cell BK258.out 2).trans rfl; have hfz97_0 := blk_frozen BK258.out 0; have hfz97_1 := blk_frozen BK258.out 1; have hfz97_2 := blk_frozen BK258.out 2))
       go_ret
       exact ⟨by first | rfl | (simp [errW_none, errW_some] <;> rfl) | (simp [*, errW_none, errW_some] <;> rfl), by repeat (first | (with_reducible first | exact HB.out | apply below_alloc | apply pw_below_drewN | apply below_drew1 | refine below_set ?_ GE251.out | refine below_set ?_ GE258.out | refine below_set ?_ GE262.out) | exact HB.out)⟩
     ·
      replace c20 := Bool.eq_false_iff.mpr c20
      subst c20
      have H1 : (some false) = some r := by rw [if_neg (show ¬ (false = true) by decide)] at H; exact H
      clear H
      have H := H1
      clear H1
      obtain rfl := Option.some.inj H
      have hcz98_0 : wc.cell? ⟨gb251, 0, none⟩ = some (.slice A0_0 l0_0.length c0_0) := (blk_cell BK251.out 0).trans rfl
      have hcz98_1 : wc.cell? ⟨gb251, 1, none⟩ = some (.slice A0_1 l0_1.length c0_1) := (blk_cell BK251.out 1).trans rfl
      have hfz98_0 := blk_frozen BK251.out 0
      have hfz98_1 := blk_frozen BK251.out 1
      go_wp2_with (first | ((with_reducible refine gate_callee (f := 13) rfl ?_); refine goesL_ (some 24) rfl rfl Try.func13 (by kernel_rfl) rfl #[.agg #[.slice A0_0 l0_0.length c0_0, .slice A0_1 l0_1.length c0_1], .string a1, .int .i64 a2] rfl (by (try simp only [List.map_toArray, List.map_cons, List.map_nil]); first | done | rfl | (simp only [List.length_drop, List.length_take]; rfl)) ?_; (with_reducible refine (naive_Run.calls kj4 _ _ l0_0 _ _ l0_1 a1 a2 true t256 t257 _ ?side1 ?side2 ?side3 ?side4 A17.out).mono ?_); (case side1 => repeat (first | exact (Kd.C_below HR0_0.out HB.out) | (with_reducible refine Kd.C_alloc ?_ _) | (with_reducible refine Kd.C_drewN ?_ _) | (with_reducible refine Kd.C_drew ?_))); (case side2 => exact HC0_0.out); (case side3 => repeat (first | exact (Kd.C_below HR0_1.out HB.out) | (with_reducible refine Kd.C_alloc ?_ _) | (with_reducible refine Kd.C_drewN ?_ _) | (with_reducible refine Kd.C_drew ?_))); (case side4 => exact HC0_1.out); rintro e w99 ⟨rfl, hb⟩; refine ⟨_, rfl, ?_⟩; have n0_ := Aside0.mk (blk_below (g := gb251) (o := .cells #[.slice A0_0 l0_0.length c0_0, .slice A0_1 l0_1.length c0_1] 25 (0, 0)) (by (with_reducible repeat (first | refine blk_drewN ?_ _ | refine blk_drew ?_ | refine blk_alloc ?_ _)); exact BK251.out) hb); have n1_ := Aside0.mk (below_step (by repeat (first | (with_reducible first | exact HB.out | apply below_alloc | apply pw_below_drewN | apply below_drew1 | refine below_set ?_ GE251.out) | exact HB.out)) hb); clear BK251; clear HB; have BK251 := n0_; have HB := n1_; clear n0_ n1_; (try clear hb); (try clear hb2); (try clear hk); (try clear hi)) | ((with_reducible refine gate_dst (N := 9) rfl ?_); (try (refine gate_guard (by rfl) ?_; dsimp only)); refine box_event ?hg (N := 9) ?hd (cs := #[.bool false, .int .i64 0, .int .i64 0]) (t := 32) ?hr ?_; (case hd => rfl); (case hg => rfl); (case hr => first | (go_simp; done) | (go_simp; rfl)); intro gb258 hg w100 hbox hb; have n0_ := Aside0.mk (blk_below (g := gb251) (o := .cells #[.slice A0_0 l0_0.length c0_0, .slice A0_1 l0_1.length c0_1] 25 (0, 0)) (by (with_reducible repeat (first | refine blk_drewN ?_ _ | refine blk_drew ?_ | refine blk_alloc ?_ _)); exact BK251.out) hb); have n1_ := Aside0.mk (below_step (by repeat (first | (with_reducible first | exact HB.out | apply below_alloc | apply pw_below_drewN | apply below_drew1 | refine below_set ?_ GE251.out) | exact HB.out)) hb); have n2_ := Aside0.mk (hbox); have n3_ := Aside0.mk ((by rw [hg]; exact (below_size (by repeat (first | (with_reducible first | exact HB.out | apply below_alloc | apply pw_below_drewN | apply below_drew1 | refine below_set ?_ GE251.out) | exact HB.out))) : w.heap.size ≤ gb258)); have n4_ := Aside0.mk ((by rw [hg]; exact (below_size (by repeat (first | (with_reducible first | exact HB.out | apply below_alloc | apply pw_below_drewN | apply below_drew1 | refine below_set ?_ GE251.out) | exact HB.out))) : w.heap.size ≤ gb258)); have n5_ := Aside0.mk ((by rw [hg]; exact Nat.ne_of_lt (blk_lt (g := gb251) (o := .cells #[.slice A0_0 l0_0.length c0_0, .slice A0_1 l0_1.length c0_1] 25 (0, 0)) (by (with_reducible repeat (first | refine blk_drewN ?_ _ | refine blk_drew ?_ | refine blk_alloc ?_ _)); exact BK251.out)) : gb251 ≠ gb258)); have n6_ := Aside0.mk ((by rw [hg]; exact Nat.ne_of_gt (blk_lt (g := gb251) (o := .cells #[.slice A0_0 l0_0.length c0_0, .slice A0_1 l0_1.length c0_1] 25 (0, 0)) (by (with_reducible repeat (first | refine blk_drewN ?_ _ | refine blk_drew ?_ | refine blk_alloc ?_ _)); exact BK251.out)) : gb258 ≠ gb251)); clear BK251; clear HB; have BK251 := n0_; have HB := n1_; have BK258 := n2_; have GW258 := n3_; have GE258 := n4_; have NB251_258 := n5_; have NB258_251 := n6_; clear n0_ n1_ n2_ n3_ n4_ n5_ n6_; clear hb hbox hg; have hnb101 := NB258_251.out; have hnc101 := NB251_258.out; have hcz102_0 : w100.cell? ⟨gb258, 0, none⟩ = some (.bool false) := (blk_cell BK258.out 0).trans rfl; have hcz102_1 : w100.cell? ⟨gb258, 1, none⟩ = some (.int .i64 0) := (blk_cell BK258.out 1).trans rfl; have hcz102_2 : w100.cell? ⟨gb258, 2, none⟩ = some (.int .i64 0) := (blk_cell BK258.out 2).trans rfl; have hfz102_0 := blk_frozen BK258.out 0; have hfz102_1 := blk_frozen BK258.out 1; have hfz102_2 := blk_frozen BK258.out 2; have hcz103_0 : w100.cell? ⟨gb251, 0, none⟩ = some (.slice A0_0 l0_0.length c0_0) := (blk_cell BK251.out 0).trans rfl; have hcz103_1 : w100.cell? ⟨gb251, 1, none⟩ = some (.slice A0_1 l0_1.length c0_1) := (blk_cell BK251.out 1).trans rfl; have hfz103_0 := blk_frozen BK251.out 0; have hfz103_1 := blk_frozen BK251.out 1) | ((with_reducible refine gate_callee (f := 13) rfl ?_); refine goesL_ (some 31) rfl rfl Try.func13 (by kernel_rfl) rfl #[.agg #[.slice A0_0 l0_0.length c0_0, .slice A0_1 l0_1.length c0_1], .string a1, .int .i64 (wrap64 (a2 + (wrap64 (a3))))] rfl (by (try simp only [List.map_toArray, List.map_cons, List.map_nil]); first | done | rfl | (simp only [List.length_drop, List.length_take]; rfl)) ?_; (with_reducible refine (naive_Run.calls kj4 _ _ l0_0 _ _ l0_1 a1 (wrap64 (a2 + (wrap64 (a3)))) false t260 t261 _ ?side1 ?side2 ?side3 ?side4 A18.out).mono ?_); (case side1 => exact Kd.C_below HR0_0.out (by repeat (first | (with_reducible first | exact HB.out | apply below_alloc | apply pw_below_drewN | apply below_drew1 | refine below_set ?_ GE251.out | refine below_set ?_ GE258.out) | exact HB.out))); (case side2 => exact HC0_0.out); (case side3 => exact Kd.C_below HR0_1.out (by repeat (first | (with_reducible first | exact HB.out | apply below_alloc | apply pw_below_drewN | apply below_drew1 | refine below_set ?_ GE251.out | refine below_set ?_ GE258.out) | exact HB.out))); (case side4 => exact HC0_1.out); rintro e w104 ⟨rfl, hb⟩; refine ⟨_, rfl, ?_⟩; have n0_ := Aside0.mk (blk_below (g := gb251) (o := .cells #[.slice A0_0 l0_0.length c0_0, .slice A0_1 l0_1.length c0_1] 25 (0, 0)) (by (with_reducible repeat (first | refine blk_drewN ?_ _ | refine blk_drew ?_ | refine blk_alloc ?_ _)); refine blk_far ?_ NB251_258.out _; (with_reducible repeat (first | refine blk_drewN ?_ _ | refine blk_drew ?_ | refine blk_alloc ?_ _)); refine blk_far ?_ NB251_258.out _; (with_reducible repeat (first | refine blk_drewN ?_ _ | refine blk_drew ?_ | refine blk_alloc ?_ _)); refine blk_far ?_ NB251_258.out _; (with_reducible repeat (first | refine blk_drewN ?_ _ | refine blk_drew ?_ | refine blk_alloc ?_ _)); exact BK251.out) hb); have n1_ := Aside0.mk (blk_below (g := gb258) (o := .cells #[.bool true, .int .i64 t256, .int .i64 t257] 32 (0, 0)) (by (with_reducible repeat (first | refine blk_drewN ?_ _ | refine blk_drew ?_ | refine blk_alloc ?_ _)); refine blk_put (cs := #[.bool true, .int .i64 t256, .int .i64 0]) ?_ 2 _ rfl; (with_reducible repeat (first | refine blk_drewN ?_ _ | refine blk_drew ?_ | refine blk_alloc ?_ _)); refine blk_put (cs := #[.bool true, .int .i64 0, .int .i64 0]) ?_ 1 _ rfl; (with_reducible repeat (first | refine blk_drewN ?_ _ | refine blk_drew ?_ | refine blk_alloc ?_ _)); refine blk_put (cs := #[.bool false, .int .i64 0, .int .i64 0]) ?_ 0 _ rfl; (with_reducible repeat (first | refine blk_drewN ?_ _ | refine blk_drew ?_ | refine blk_alloc ?_ _)); exact BK258.out) hb); have n2_ := Aside0.mk (below_step (by repeat (first | (with_reducible first | exact HB.out | apply below_alloc | apply pw_below_drewN | apply below_drew1 | refine below_set ?_ GE251.out | refine below_set ?_ GE258.out) | exact HB.out)) hb); clear BK251; clear BK258; clear HB; have BK251 := n0_; have BK258 := n1_; have HB := n2_; clear n0_ n1_ n2_; (try clear hb); (try clear hb2); (try clear hk); (try clear hi)) | ((with_reducible refine gate_dst (N := 10) rfl ?_); (try (refine gate_guard (by rfl) ?_; dsimp only)); refine box_event ?hg (N := 10) ?hd (cs := #[.bool false, .int .i64 0, .int .i64 0]) (t := 32) ?hr ?_; (case hd => rfl); (case hg => rfl); (case hr => first | (go_simp; done) | (go_simp; rfl)); intro gb262 hg w105 hbox hb; have n0_ := Aside0.mk (blk_below (g := gb251) (o := .cells #[.slice A0_0 l0_0.length c0_0, .slice A0_1 l0_1.length c0_1] 25 (0, 0)) (by (with_reducible repeat (first | refine blk_drewN ?_ _ | refine blk_drew ?_ | refine blk_alloc ?_ _)); exact BK251.out) hb); have n1_ := Aside0.mk (blk_below (g := gb258) (o := .cells #[.bool true, .int .i64 t256, .int .i64 t257] 32 (0, 0)) (by (with_reducible repeat (first | refine blk_drewN ?_ _ | refine blk_drew ?_ | refine blk_alloc ?_ _)); exact BK258.out) hb); have n2_ := Aside0.mk (below_step (by repeat (first | (with_reducible first | exact HB.out | apply below_alloc | apply pw_below_drewN | apply below_drew1 | refine below_set ?_ GE251.out | refine below_set ?_ GE258.out) | exact HB.out)) hb); have n3_ := Aside0.mk (hbox); have n4_ := Aside0.mk ((by rw [hg]; exact (below_size (by repeat (first | (with_reducible first | exact HB.out | apply below_alloc | apply pw_below_drewN | apply below_drew1 | refine below_set ?_ GE251.out | refine below_set ?_ GE258.out) | exact HB.out))) : w.heap.size ≤ gb262)); have n5_ := Aside0.mk ((by rw [hg]; exact (below_size (by repeat (first | (with_reducible first | exact HB.out | apply below_alloc | apply pw_below_drewN | apply below_drew1 | refine below_set ?_ GE251.out | refine below_set ?_ GE258.out) | exact HB.out))) : w.heap.size ≤ gb262)); have n6_ := Aside0.mk ((by rw [hg]; exact Nat.ne_of_lt (blk_lt (g := gb251) (o := .cells #[.slice A0_0 l0_0.length c0_0, .slice A0_1 l0_1.length c0_1] 25 (0, 0)) (by (with_reducible repeat (first | refine blk_drewN ?_ _ | refine blk_drew ?_ | refine blk_alloc ?_ _)); exact BK251.out)) : gb251 ≠ gb262)); have n7_ := Aside0.mk ((by rw [hg]; exact Nat.ne_of_gt (blk_lt (g := gb251) (o := .cells #[.slice A0_0 l0_0.length c0_0, .slice A0_1 l0_1.length c0_1] 25 (0, 0)) (by (with_reducible repeat (first | refine blk_drewN ?_ _ | refine blk_drew ?_ | refine blk_alloc ?_ _)); exact BK251.out)) : gb262 ≠ gb251)); have n8_ := Aside0.mk ((by rw [hg]; exact Nat.ne_of_lt (blk_lt (g := gb258) (o := .cells #[.bool true, .int .i64 t256, .int .i64 t257] 32 (0, 0)) (by (with_reducible repeat (first | refine blk_drewN ?_ _ | refine blk_drew ?_ | refine blk_alloc ?_ _)); exact BK258.out)) : gb258 ≠ gb262)); have n9_ := Aside0.mk ((by rw [hg]; exact Nat.ne_of_gt (blk_lt (g := gb258) (o := .cells #[.bool true, .int .i64 t256, .int .i64 t257] 32 (0, 0)) (by (with_reducible repeat (first | refine blk_drewN ?_ _ | refine blk_drew ?_ | refine blk_alloc ?_ _)); exact BK258.out)) : gb262 ≠ gb258)); clear BK251; clear BK258; clear HB; have BK251 := n0_; have BK258 := n1_; have HB := n2_; have BK262 := n3_; have GW262 := n4_; have GE262 := n5_; have NB251_262 := n6_; have NB262_251 := n7_; have NB258_262 := n8_; have NB262_258 := n9_; clear n0_ n1_ n2_ n3_ n4_ n5_ n6_ n7_ n8_ n9_; clear hb hbox hg; have hnb106 := NB262_251.out; have hnc106 := NB251_262.out; have hnb107 := NB262_258.out; have hnc107 := NB258_262.out; have hcz108_0 : w105.cell? ⟨gb262, 0, none⟩ = some (.bool false) := (blk_cell BK262.out 0).trans rfl; have hcz108_1 : w105.cell? ⟨gb262, 1, none⟩ = some (.int .i64 0) := (blk_cell BK262.out 1).trans rfl; have hcz108_2 : w105.cell? ⟨gb262, 2, none⟩ = some (.int .i64 0) := (blk_cell BK262.out 2).trans rfl; have hfz108_0 := blk_frozen BK262.out 0; have hfz108_1 := blk_frozen BK262.out 1; have hfz108_2 := blk_frozen BK262.out 2; have hcz109_0 : w105.cell? ⟨gb258, 0, none⟩ = some (.bool true) := (blk_cell BK258.out 0).trans rfl; have hcz109_1 : w105.cell? ⟨gb258, 1, none⟩ = some (.int .i64 t256) := (blk_cell BK258.out 1).trans rfl; have hcz109_2 : w105.cell? ⟨gb258, 2, none⟩ = some (.int .i64 t257) := (blk_cell BK258.out 2).trans rfl; have hfz109_0 := blk_frozen BK258.out 0; have hfz109_1 := blk_frozen BK258.out 1; have hfz109_2 := blk_frozen BK258.out 2))
      go_ret
      exact ⟨by first | rfl | (simp [errW_none, errW_some] <;> rfl) | (simp [*, errW_none, errW_some] <;> rfl), by repeat (first | (with_reducible first | exact HB.out | apply below_alloc | apply pw_below_drewN | apply below_drew1 | refine below_set ?_ GE251.out | refine below_set ?_ GE258.out | refine below_set ?_ GE262.out) | exact HB.out)⟩
    ·
     replace c19 := Bool.eq_false_iff.mpr c19
     subst c19
     have H1 : (some (!false && (t256 == 0 && (t257 == 0)))) = some r := by rw [if_neg (show ¬ (false = true) by decide)] at H; exact H
     clear H
     have H := H1
     clear H1
     obtain rfl := Option.some.inj H
     have hcz110_0 : wc.cell? ⟨gb251, 0, none⟩ = some (.slice A0_0 l0_0.length c0_0) := (blk_cell BK251.out 0).trans rfl
     have hcz110_1 : wc.cell? ⟨gb251, 1, none⟩ = some (.slice A0_1 l0_1.length c0_1) := (blk_cell BK251.out 1).trans rfl
     have hfz110_0 := blk_frozen BK251.out 0
     have hfz110_1 := blk_frozen BK251.out 1
     go_wp2_with (first | ((with_reducible refine gate_callee (f := 13) rfl ?_); refine goesL_ (some 24) rfl rfl Try.func13 (by kernel_rfl) rfl #[.agg #[.slice A0_0 l0_0.length c0_0, .slice A0_1 l0_1.length c0_1], .string a1, .int .i64 a2] rfl (by (try simp only [List.map_toArray, List.map_cons, List.map_nil]); first | done | rfl | (simp only [List.length_drop, List.length_take]; rfl)) ?_; (with_reducible refine (naive_Run.calls kj4 _ _ l0_0 _ _ l0_1 a1 a2 false t256 t257 _ ?side1 ?side2 ?side3 ?side4 A17.out).mono ?_); (case side1 => repeat (first | exact (Kd.C_below HR0_0.out HB.out) | (with_reducible refine Kd.C_alloc ?_ _) | (with_reducible refine Kd.C_drewN ?_ _) | (with_reducible refine Kd.C_drew ?_))); (case side2 => exact HC0_0.out); (case side3 => repeat (first | exact (Kd.C_below HR0_1.out HB.out) | (with_reducible refine Kd.C_alloc ?_ _) | (with_reducible refine Kd.C_drewN ?_ _) | (with_reducible refine Kd.C_drew ?_))); (case side4 => exact HC0_1.out); rintro e w111 ⟨rfl, hb⟩; refine ⟨_, rfl, ?_⟩; have n0_ := Aside0.mk (blk_below (g := gb251) (o := .cells #[.slice A0_0 l0_0.length c0_0, .slice A0_1 l0_1.length c0_1] 25 (0, 0)) (by (with_reducible repeat (first | refine blk_drewN ?_ _ | refine blk_drew ?_ | refine blk_alloc ?_ _)); exact BK251.out) hb); have n1_ := Aside0.mk (below_step (by repeat (first | (with_reducible first | exact HB.out | apply below_alloc | apply pw_below_drewN | apply below_drew1 | refine below_set ?_ GE251.out) | exact HB.out)) hb); clear BK251; clear HB; have BK251 := n0_; have HB := n1_; clear n0_ n1_; (try clear hb); (try clear hb2); (try clear hk); (try clear hi)) | ((with_reducible refine gate_dst (N := 9) rfl ?_); (try (refine gate_guard (by rfl) ?_; dsimp only)); refine box_event ?hg (N := 9) ?hd (cs := #[.bool false, .int .i64 0, .int .i64 0]) (t := 32) ?hr ?_; (case hd => rfl); (case hg => rfl); (case hr => first | (go_simp; done) | (go_simp; rfl)); intro gb258 hg w112 hbox hb; have n0_ := Aside0.mk (blk_below (g := gb251) (o := .cells #[.slice A0_0 l0_0.length c0_0, .slice A0_1 l0_1.length c0_1] 25 (0, 0)) (by (with_reducible repeat (first | refine blk_drewN ?_ _ | refine blk_drew ?_ | refine blk_alloc ?_ _)); exact BK251.out) hb); have n1_ := Aside0.mk (below_step (by repeat (first | (with_reducible first | exact HB.out | apply below_alloc | apply pw_below_drewN | apply below_drew1 | refine below_set ?_ GE251.out) | exact HB.out)) hb); have n2_ := Aside0.mk (hbox); have n3_ := Aside0.mk ((by rw [hg]; exact (below_size (by repeat (first | (with_reducible first | exact HB.out | apply below_alloc | apply pw_below_drewN | apply below_drew1 | refine below_set ?_ GE251.out) | exact HB.out))) : w.heap.size ≤ gb258)); have n4_ := Aside0.mk ((by rw [hg]; exact (below_size (by repeat (first | (with_reducible first | exact HB.out | apply below_alloc | apply pw_below_drewN | apply below_drew1 | refine below_set ?_ GE251.out) | exact HB.out))) : w.heap.size ≤ gb258)); have n5_ := Aside0.mk ((by rw [hg]; exact Nat.ne_of_lt (blk_lt (g := gb251) (o := .cells #[.slice A0_0 l0_0.length c0_0, .slice A0_1 l0_1.length c0_1] 25 (0, 0)) (by (with_reducible repeat (first | refine blk_drewN ?_ _ | refine blk_drew ?_ | refine blk_alloc ?_ _)); exact BK251.out)) : gb251 ≠ gb258)); have n6_ := Aside0.mk ((by rw [hg]; exact Nat.ne_of_gt (blk_lt (g := gb251) (o := .cells #[.slice A0_0 l0_0.length c0_0, .slice A0_1 l0_1.length c0_1] 25 (0, 0)) (by (with_reducible repeat (first | refine blk_drewN ?_ _ | refine blk_drew ?_ | refine blk_alloc ?_ _)); exact BK251.out)) : gb258 ≠ gb251)); clear BK251; clear HB; have BK251 := n0_; have HB := n1_; have BK258 := n2_; have GW258 := n3_; have GE258 := n4_; have NB251_258 := n5_; have NB258_251 := n6_; clear n0_ n1_ n2_ n3_ n4_ n5_ n6_; clear hb hbox hg; have hnb113 := NB258_251.out; have hnc113 := NB251_258.out; have hcz114_0 : w112.cell? ⟨gb258, 0, none⟩ = some (.bool false) := (blk_cell BK258.out 0).trans rfl; have hcz114_1 : w112.cell? ⟨gb258, 1, none⟩ = some (.int .i64 0) := (blk_cell BK258.out 1).trans rfl; have hcz114_2 : w112.cell? ⟨gb258, 2, none⟩ = some (.int .i64 0) := (blk_cell BK258.out 2).trans rfl; have hfz114_0 := blk_frozen BK258.out 0; have hfz114_1 := blk_frozen BK258.out 1; have hfz114_2 := blk_frozen BK258.out 2; have hcz115_0 : w112.cell? ⟨gb251, 0, none⟩ = some (.slice A0_0 l0_0.length c0_0) := (blk_cell BK251.out 0).trans rfl; have hcz115_1 : w112.cell? ⟨gb251, 1, none⟩ = some (.slice A0_1 l0_1.length c0_1) := (blk_cell BK251.out 1).trans rfl; have hfz115_0 := blk_frozen BK251.out 0; have hfz115_1 := blk_frozen BK251.out 1) | ((with_reducible refine gate_callee (f := 13) rfl ?_); refine goesL_ (some 31) rfl rfl Try.func13 (by kernel_rfl) rfl #[.agg #[.slice A0_0 l0_0.length c0_0, .slice A0_1 l0_1.length c0_1], .string a1, .int .i64 (wrap64 (a2 + (wrap64 (a3))))] rfl (by (try simp only [List.map_toArray, List.map_cons, List.map_nil]); first | done | rfl | (simp only [List.length_drop, List.length_take]; rfl)) ?_; (with_reducible refine (naive_Run.calls kj4 _ _ l0_0 _ _ l0_1 a1 (wrap64 (a2 + (wrap64 (a3)))) t259 t260 t261 _ ?side1 ?side2 ?side3 ?side4 A18.out).mono ?_); (case side1 => exact Kd.C_below HR0_0.out (by repeat (first | (with_reducible first | exact HB.out | apply below_alloc | apply pw_below_drewN | apply below_drew1 | refine below_set ?_ GE251.out | refine below_set ?_ GE258.out) | exact HB.out))); (case side2 => exact HC0_0.out); (case side3 => exact Kd.C_below HR0_1.out (by repeat (first | (with_reducible first | exact HB.out | apply below_alloc | apply pw_below_drewN | apply below_drew1 | refine below_set ?_ GE251.out | refine below_set ?_ GE258.out) | exact HB.out))); (case side4 => exact HC0_1.out); rintro e w116 ⟨rfl, hb⟩; refine ⟨_, rfl, ?_⟩; have n0_ := Aside0.mk (blk_below (g := gb251) (o := .cells #[.slice A0_0 l0_0.length c0_0, .slice A0_1 l0_1.length c0_1] 25 (0, 0)) (by (with_reducible repeat (first | refine blk_drewN ?_ _ | refine blk_drew ?_ | refine blk_alloc ?_ _)); refine blk_far ?_ NB251_258.out _; (with_reducible repeat (first | refine blk_drewN ?_ _ | refine blk_drew ?_ | refine blk_alloc ?_ _)); refine blk_far ?_ NB251_258.out _; (with_reducible repeat (first | refine blk_drewN ?_ _ | refine blk_drew ?_ | refine blk_alloc ?_ _)); refine blk_far ?_ NB251_258.out _; (with_reducible repeat (first | refine blk_drewN ?_ _ | refine blk_drew ?_ | refine blk_alloc ?_ _)); exact BK251.out) hb); have n1_ := Aside0.mk (blk_below (g := gb258) (o := .cells #[.bool false, .int .i64 t256, .int .i64 t257] 32 (0, 0)) (by (with_reducible repeat (first | refine blk_drewN ?_ _ | refine blk_drew ?_ | refine blk_alloc ?_ _)); refine blk_put (cs := #[.bool false, .int .i64 t256, .int .i64 0]) ?_ 2 _ rfl; (with_reducible repeat (first | refine blk_drewN ?_ _ | refine blk_drew ?_ | refine blk_alloc ?_ _)); refine blk_put (cs := #[.bool false, .int .i64 0, .int .i64 0]) ?_ 1 _ rfl; (with_reducible repeat (first | refine blk_drewN ?_ _ | refine blk_drew ?_ | refine blk_alloc ?_ _)); refine blk_put (cs := #[.bool false, .int .i64 0, .int .i64 0]) ?_ 0 _ rfl; (with_reducible repeat (first | refine blk_drewN ?_ _ | refine blk_drew ?_ | refine blk_alloc ?_ _)); exact BK258.out) hb); have n2_ := Aside0.mk (below_step (by repeat (first | (with_reducible first | exact HB.out | apply below_alloc | apply pw_below_drewN | apply below_drew1 | refine below_set ?_ GE251.out | refine below_set ?_ GE258.out) | exact HB.out)) hb); clear BK251; clear BK258; clear HB; have BK251 := n0_; have BK258 := n1_; have HB := n2_; clear n0_ n1_ n2_; (try clear hb); (try clear hb2); (try clear hk); (try clear hi)) | ((with_reducible refine gate_dst (N := 10) rfl ?_); (try (refine gate_guard (by rfl) ?_; dsimp only)); refine box_event ?hg (N := 10) ?hd (cs := #[.bool false, .int .i64 0, .int .i64 0]) (t := 32) ?hr ?_; (case hd => rfl); (case hg => rfl); (case hr => first | (go_simp; done) | (go_simp; rfl)); intro gb262 hg w117 hbox hb; have n0_ := Aside0.mk (blk_below (g := gb251) (o := .cells #[.slice A0_0 l0_0.length c0_0, .slice A0_1 l0_1.length c0_1] 25 (0, 0)) (by (with_reducible repeat (first | refine blk_drewN ?_ _ | refine blk_drew ?_ | refine blk_alloc ?_ _)); exact BK251.out) hb); have n1_ := Aside0.mk (blk_below (g := gb258) (o := .cells #[.bool false, .int .i64 t256, .int .i64 t257] 32 (0, 0)) (by (with_reducible repeat (first | refine blk_drewN ?_ _ | refine blk_drew ?_ | refine blk_alloc ?_ _)); exact BK258.out) hb); have n2_ := Aside0.mk (below_step (by repeat (first | (with_reducible first | exact HB.out | apply below_alloc | apply pw_below_drewN | apply below_drew1 | refine below_set ?_ GE251.out | refine below_set ?_ GE258.out) | exact HB.out)) hb); have n3_ := Aside0.mk (hbox); have n4_ := Aside0.mk ((by rw [hg]; exact (below_size (by repeat (first | (with_reducible first | exact HB.out | apply below_alloc | apply pw_below_drewN | apply below_drew1 | refine below_set ?_ GE251.out | refine below_set ?_ GE258.out) | exact HB.out))) : w.heap.size ≤ gb262)); have n5_ := Aside0.mk ((by rw [hg]; exact (below_size (by repeat (first | (with_reducible first | exact HB.out | apply below_alloc | apply pw_below_drewN | apply below_drew1 | refine below_set ?_ GE251.out | refine below_set ?_ GE258.out) | exact HB.out))) : w.heap.size ≤ gb262)); have n6_ := Aside0.mk ((by rw [hg]; exact Nat.ne_of_lt (blk_lt (g := gb251) (o := .cells #[.slice A0_0 l0_0.length c0_0, .slice A0_1 l0_1.length c0_1] 25 (0, 0)) (by (with_reducible repeat (first | refine blk_drewN ?_ _ | refine blk_drew ?_ | refine blk_alloc ?_ _)); exact BK251.out)) : gb251 ≠ gb262)); have n7_ := Aside0.mk ((by rw [hg]; exact Nat.ne_of_gt (blk_lt (g := gb251) (o := .cells #[.slice A0_0 l0_0.length c0_0, .slice A0_1 l0_1.length c0_1] 25 (0, 0)) (by (with_reducible repeat (first | refine blk_drewN ?_ _ | refine blk_drew ?_ | refine blk_alloc ?_ _)); exact BK251.out)) : gb262 ≠ gb251)); have n8_ := Aside0.mk ((by rw [hg]; exact Nat.ne_of_lt (blk_lt (g := gb258) (o := .cells #[.bool false, .int .i64 t256, .int .i64 t257] 32 (0, 0)) (by (with_reducible repeat (first | refine blk_drewN ?_ _ | refine blk_drew ?_ | refine blk_alloc ?_ _)); exact BK258.out)) : gb258 ≠ gb262)); have n9_ := Aside0.mk ((by rw [hg]; exact Nat.ne_of_gt (blk_lt (g := gb258) (o := .cells #[.bool false, .int .i64 t256, .int .i64 t257] 32 (0, 0)) (by (with_reducible repeat (first | refine blk_drewN ?_ _ | refine blk_drew ?_ | refine blk_alloc ?_ _)); exact BK258.out)) : gb262 ≠ gb258)); clear BK251; clear BK258; clear HB; have BK251 := n0_; have BK258 := n1_; have HB := n2_; have BK262 := n3_; have GW262 := n4_; have GE262 := n5_; have NB251_262 := n6_; have NB262_251 := n7_; have NB258_262 := n8_; have NB262_258 := n9_; clear n0_ n1_ n2_ n3_ n4_ n5_ n6_ n7_ n8_ n9_; clear hb hbox hg; have hnb118 := NB262_251.out; have hnc118 := NB251_262.out; have hnb119 := NB262_258.out; have hnc119 := NB258_262.out; have hcz120_0 : w117.cell? ⟨gb262, 0, none⟩ = some (.bool false) := (blk_cell BK262.out 0).trans rfl; have hcz120_1 : w117.cell? ⟨gb262, 1, none⟩ = some (.int .i64 0) := (blk_cell BK262.out 1).trans rfl; have hcz120_2 : w117.cell? ⟨gb262, 2, none⟩ = some (.int .i64 0) := (blk_cell BK262.out 2).trans rfl; have hfz120_0 := blk_frozen BK262.out 0; have hfz120_1 := blk_frozen BK262.out 1; have hfz120_2 := blk_frozen BK262.out 2; have hcz121_0 : w117.cell? ⟨gb258, 0, none⟩ = some (.bool false) := (blk_cell BK258.out 0).trans rfl; have hcz121_1 : w117.cell? ⟨gb258, 1, none⟩ = some (.int .i64 t256) := (blk_cell BK258.out 1).trans rfl; have hcz121_2 : w117.cell? ⟨gb258, 2, none⟩ = some (.int .i64 t257) := (blk_cell BK258.out 2).trans rfl; have hfz121_0 := blk_frozen BK258.out 0; have hfz121_1 := blk_frozen BK258.out 1; have hfz121_2 := blk_frozen BK258.out 2))
     go_ret
     exact ⟨by first | rfl | (simp [errW_none, errW_some] <;> rfl) | (simp [*, errW_none, errW_some] <;> rfl), by repeat (first | (with_reducible first | exact HB.out | apply below_alloc | apply pw_below_drewN | apply below_drew1 | refine below_set ?_ GE251.out | refine below_set ?_ GE258.out | refine below_set ?_ GE262.out) | exact HB.out)⟩
end Go.Proofs.Ythgedejnpgcacaa.V
namespace Go.Proofs.Ythgedejnpgcacaa.V
open Go.RowKit Go.Proofs.YthgedejnpgcacaaW.PrintWords Go.Proofs.YthgedejnpgcacaaW.PrintLast Go.Proofs.YthgedejnpgcacaaW.PrintMore
set_option linter.unusedVariables false
set_option linter.unusedSimpArgs false
def vetchref18_Node.seqF (F : Int → Int → Int → Option (Bool × Int × Int)) : List Int → Int → Int → Option (Bool × Int × Int)
  | [], a, u => some (true, a, u)
  | c :: cs, a, u => (F c a u).bind fun r => if r.1 = true ∧ 0 ≤ r.2.1 then vetchref18_Node.seqF F cs r.2.1 r.2.2 else some r
def vetchref18_Node.choF (F : Int → Int → Option (Bool × Int × Int)) : List Int → Int → Int → Option (Bool × Int × Int)
  | [], e, u => some (true, e, u)
  | c :: cs, e, u => (F c u).bind fun r => if r.1 = true ∧ r.2.1 < 0 then vetchref18_Node.choF F cs r.2.1 r.2.2 else some r
def vetchref18_Node.repF (F : Int → Int → Option (Bool × Int × Int)) : Nat → Int → Bool × Int × Int → Option (Bool × Int × Int)
  | 0, _, _ => none
  | k + 1, last, r => if r.1 = true ∧ 0 ≤ r.2.1 then (F r.2.1 r.2.2).bind fun q => vetchref18_Node.repF F k r.2.1 q else if r.1 = true then some (true, last, r.2.2) else some r
def vetchref18_Node.f : Nat → List S51 → List S56 → Int → ByteArray → Int → Int → Option (Bool × Int × Int)
  | 0, _, _, _, _, _, _ => none
  | k + 1, R, G, i, x, a, u =>
    if u < 1 then some (false, 0, 0) else if 0 ≤ i ∧ i < (G.length : Int) then
      if (rd_T56 G i).f0 = 0 then some (true, a, wrap64 (u - 1)) else
      if (rd_T56 G i).f0 = 1 then (if a < (x.size : Int) then (if 0 ≤ a then (vetchref01_Has.f k (rd_T56 G i).f3.f0 (rd_T56 G i).f3.f1 (rd_T56 G i).f3.f2 (rd_T56 G i).f3.f3 (bt x a)).bind fun b => if b = true then some (true, wrap64 (a + 1), wrap64 (u - 1)) else some (true, -1, wrap64 (u - 1)) else none) else some (true, -1, wrap64 (u - 1))) else
      if (rd_T56 G i).f0 = 2 then (if 0 ≤ (rd_T56 G i).f2 ∧ (rd_T56 G i).f2 < (R.length : Int) then vetchref18_Node.f k R G (rd_T51 R (rd_T56 G i).f2).f1 x a (wrap64 (u - 1)) else none) else
      if (rd_T56 G i).f0 = 3 then vetchref18_Node.seqF (fun c a u => vetchref18_Node.f k R G c x a u) (rd_T56 G i).f1 a (wrap64 (u - 1)) else
      if (rd_T56 G i).f0 = 4 then vetchref18_Node.choF (fun c u => vetchref18_Node.f k R G c x a u) (rd_T56 G i).f1 (-1) (wrap64 (u - 1)) else
      if (rd_T56 G i).f1 = [] then none else (vetchref18_Node.f k R G (rd (rd_T56 G i).f1 0) x a (wrap64 (u - 1))).bind fun r =>
        if r.1 = false then some r else
        if (rd_T56 G i).f0 = 7 then (if r.2.1 < 0 then some (true, a, r.2.2) else some r) else
        if (rd_T56 G i).f0 = 8 then (if r.2.1 < 0 then some r else some (true, a, r.2.2)) else
        if (rd_T56 G i).f0 = 9 then (if r.2.1 < 0 then some (true, a, r.2.2) else some (true, -1, r.2.2)) else
        if r.2.1 < 0 ∧ (rd_T56 G i).f0 = 6 then some r else vetchref18_Node.repF (fun a u => vetchref18_Node.f k R G (rd (rd_T56 G i).f1 0) x a u) k a r
    else none
theorem vetchref18_Node.seqF_mono {F F' : Int → Int → Int → Option (Bool × Int × Int)} (h : ∀ c a u, LeO (F c a u) (F' c a u)) : ∀ cs a u, LeO (vetchref18_Node.seqF F cs a u) (vetchref18_Node.seqF F' cs a u)
  | [], a, u => LeO.refl _
  | c :: cs, a, u => LeO.bind (h c a u) (fun r => by
      by_cases hr : r.1 = true ∧ 0 ≤ r.2.1
      · rw [if_pos hr, if_pos hr]; exact vetchref18_Node.seqF_mono h cs _ _
      · rw [if_neg hr, if_neg hr]; exact LeO.refl _)
theorem vetchref18_Node.choF_mono {F F' : Int → Int → Option (Bool × Int × Int)} (h : ∀ c u, LeO (F c u) (F' c u)) : ∀ cs e u, LeO (vetchref18_Node.choF F cs e u) (vetchref18_Node.choF F' cs e u)
  | [], e, u => LeO.refl _
  | c :: cs, e, u => LeO.bind (h c u) (fun r => by
      by_cases hr : r.1 = true ∧ r.2.1 < 0
      · rw [if_pos hr, if_pos hr]; exact vetchref18_Node.choF_mono h cs _ _
      · rw [if_neg hr, if_neg hr]; exact LeO.refl _)
theorem vetchref18_Node.repF_mono {F F' : Int → Int → Option (Bool × Int × Int)} (h : ∀ a u, LeO (F a u) (F' a u)) : ∀ k last r, LeO (vetchref18_Node.repF F k last r) (vetchref18_Node.repF F' (k + 1) last r)
  | 0, last, r => fun q hq => by simp [vetchref18_Node.repF] at hq
  | k + 1, last, r => by
    rw [vetchref18_Node.repF, vetchref18_Node.repF]
    by_cases hr : r.1 = true ∧ 0 ≤ r.2.1
    · rw [if_pos hr, if_pos hr]; exact LeO.bind (h _ _) (fun q => vetchref18_Node.repF_mono h k _ q)
    · rw [if_neg hr, if_neg hr]; exact LeO.refl _
theorem vetchref18_Node.mono : ∀ R G i x a u k, LeO (vetchref18_Node.f k R G i x a u) (vetchref18_Node.f (k + 1) R G i x a u) := by
  intro R G i x a u k
  induction k generalizing i a u with
  | zero => intro q hq; simp [vetchref18_Node.f] at hq
  | succ k ih =>
    rw [vetchref18_Node.f, vetchref18_Node.f]
    repeat' first
      | exact LeO.refl _
      | exact LeO.none _
      | exact ih _ _ _
      | exact vetchref01_Has.mono _ _ _ _ _ k
      | exact vetchref18_Node.seqF_mono (fun c a u => ih c a u) _ _ _
      | exact vetchref18_Node.choF_mono (fun c u => ih c a u) _ _ _
      | exact vetchref18_Node.repF_mono (fun a u => ih _ a u) _ _ _
      | refine LeO.ite ?_ ?_
      | refine LeO.bind ?_ (fun _ => ?_)
theorem h18_blk3 {w : World} {g t : Nat} {x y z : Value} (h : w.heap[g]? = some (.cells #[x, y, z] t (0, 0))) (a b c : Value) :
    (((w.setCell ⟨g, 0, none⟩ a).setCell ⟨g, 1, none⟩ b).setCell ⟨g, 2, none⟩ c).heap[g]? = some (.cells #[a, b, c] t (0, 0)) :=
  blk_put (cs := #[a, b, z]) (blk_put (cs := #[a, y, z]) (blk_put (cs := #[x, y, z]) h 0 a rfl) 1 b rfl) 2 c rfl
theorem h18_below3 {w W : World} {n g : Nat} (h : Below n w W) (hg : n ≤ g) (a b c : Value) : Below n w (((W.setCell ⟨g, 0, none⟩ a).setCell ⟨g, 1, none⟩ b).setCell ⟨g, 2, none⟩ c) :=
  ((h.setCell (p := ⟨g, 0, none⟩) hg a).setCell (p := ⟨g, 1, none⟩) hg b).setCell (p := ⟨g, 2, none⟩) hg c
theorem h18_far3 {w : World} {g gv : Nat} {o : Array Value} {t : Nat} (h : w.heap[g]? = some (.cells o t (0, 0))) (hne : g ≠ gv) (a b c : Value) : (((w.setCell ⟨gv, 0, none⟩ a).setCell ⟨gv, 1, none⟩ b).setCell ⟨gv, 2, none⟩ c).heap[g]? = some (.cells o t (0, 0)) :=
  blk_far (blk_far (blk_far h (p := ⟨gv, 0, none⟩) hne a) (p := ⟨gv, 1, none⟩) hne b) (p := ⟨gv, 2, none⟩) hne c
theorem h18_size (w : World) (o : Obj) : (w.alloc o).heap.size = w.heap.size + 1 := by simp
theorem h18_mem (xs : List Int) (h : xs ≠ []) : (0 : Int) < (xs.length : Int) := by have := List.length_pos_iff.2 h; omega
theorem h18_drop (xs : List Int) (j : Int) (h0 : 0 ≤ j) (h1 : j < (xs.length : Int)) : xs.drop j.toNat = rd xs j :: xs.drop (j + 1).toNat := by
  have h : j.toNat < xs.length := by omega
  rw [List.drop_eq_getElem_cons h, show (j + 1).toNat = j.toNat + 1 by omega]
  unfold rd
  rw [List.getD_eq_getElem?_getD, List.getElem?_eq_getElem h]
  rfl
theorem h18_end (xs : List Int) (j : Int) (h : ¬ j < (xs.length : Int)) : xs.drop j.toNat = [] := List.drop_eq_nil_of_le (by omega)
theorem h18_next (j : Int) (n : Nat) (h0 : 0 ≤ j) (h1 : j < (n : Int)) (hn : n ≤ 9223372036854775807) : wrap64 (j + 1) = j + 1 := by unfold wrap64; omega
structure Env18 (W1 : World) (gx : Nat) (ND : Array Value) (W : World) : Prop where
  x : W.heap[gx]? = some (.cells ND 56 (0, 0))
  b : Below W1.heap.size W1 W
theorem Env18.below {W1 W W' : World} {gx : Nat} {ND : Array Value} (h : Env18 W1 gx ND W) (hb : Below W.heap.size W W') : Env18 W1 gx ND W' := ⟨blk_below h.x hb, below_step h.b hb⟩
theorem Env18.drew {W1 W : World} {gx : Nat} {ND : Array Value} (h : Env18 W1 gx ND W) : Env18 W1 gx ND W.drew := ⟨blk_drew h.x, below_drew1 h.b⟩
theorem Env18.drewN {W1 W : World} {gx : Nat} {ND : Array Value} (h : Env18 W1 gx ND W) (n : Nat) : Env18 W1 gx ND (W.drewN n) := ⟨blk_drewN h.x n, pw_below_drewN h.b n⟩
theorem Env18.put3 {W1 W : World} {gx gv : Nat} {ND : Array Value} (h : Env18 W1 gx ND W) (h1 : W1.heap.size ≤ gv) (h2 : gx ≠ gv) (a b c : Value) : Env18 W1 gx ND (((W.setCell ⟨gv, 0, none⟩ a).setCell ⟨gv, 1, none⟩ b).setCell ⟨gv, 2, none⟩ c) :=
  ⟨h18_far3 h.x h2 a b c, h18_below3 h.b h1 a b c⟩
def h18_T32 : Bool × List (List Nat × List Nat) := (true, [([], []), ([], []), ([1], [1]), ([2], [2]), ([3], [3]), ([], []), ([], []), ([], []), ([0, 4, 5, 6, 7], [0, 4, 5, 6, 7]), ([], []), ([9, 8, 8, 0, 1, 2, 3, 4, 5, 6, 7, 8, 9], [8, 9])])
def h18_B32 : List Nat := [0, 0, 2, 6, 14, 0, 0, 0, 255, 0, 1023]
theorem h18_tab32 : rtab .any (opsOf Try.f12 32) = h18_T32 := by kernel_rfl
theorem h18_bits32 : waitsOk h18_T32.2 h18_B32 = true := by kernel_rfl
end Go.Proofs.Ythgedejnpgcacaa.V
namespace Go.Proofs.Ythgedejnpgcacaa.V
open Go.RowKit Go.Proofs.YthgedejnpgcacaaW.PrintWords Go.Proofs.YthgedejnpgcacaaW.PrintLast Go.Proofs.YthgedejnpgcacaaW.PrintMore
set_option linter.unusedVariables false
set_option linter.unusedSimpArgs false
set_option maxHeartbeats 4000000 in
set_option maxRecDepth 100000 in
theorem vetchref18_Node.calls_sf (k : Nat) (ih : ∀ (A0_0 : Option Addr) (c0_0 : Nat) (l0_0 : List S51) (A0_1 : Option Addr) (c0_1 : Nat) (l0_1 : List S56) (a1 : Int) (a2 : ByteArray) (a3 a4 : Int) (r1 : Bool) (r2 r3 : Int) (w : World)
    (hr0_0 : Kd.C k51 w A0_0 l0_0.length l0_0) (hc0_0 : l0_0.length ≤ c0_0) (hr0_1 : Kd.C k56 w A0_1 l0_1.length l0_1) (hc0_1 : l0_1.length ≤ c0_1) (h : vetchref18_Node.f k l0_0 l0_1 a1 a2 a3 a4 = some (r1, r2, r3)), Calls Try.prog 12 #[.agg #[.slice A0_0 l0_0.length c0_0, .slice A0_1 l0_1.length c0_1], .int .i64 a1, .string a2, .int .i64 a3, .int .i64 a4] w fun e w' => e = .returned (.agg #[.bool r1, .int .i64 r2, .int .i64 r3]) ∧ Below w.heap.size w w')
    (A0_0 : Option Addr) (c0_0 : Nat) (l0_0 : List S51) (A0_1 : Option Addr) (c0_1 : Nat) (l0_1 : List S56) (a1 : Int) (a2 : ByteArray) (a3 a4 : Int) (r1 : Bool) (r2 r3 : Int) (w : World)
    (hr0_0 : Kd.C k51 w A0_0 l0_0.length l0_0) (hc0_0 : l0_0.length ≤ c0_0) (hr0_1 : Kd.C k56 w A0_1 l0_1.length l0_1) (hc0_1 : l0_1.length ≤ c0_1) (hs : Aside0 (a4 < 1)) (h : vetchref18_Node.f (k + 1) l0_0 l0_1 a1 a2 a3 a4 = some (r1, r2, r3)) :
    Calls Try.prog 12 #[.agg #[.slice A0_0 l0_0.length c0_0, .slice A0_1 l0_1.length c0_1], .int .i64 a1, .string a2, .int .i64 a3, .int .i64 a4] w fun e w' => e = .returned (.agg #[.bool r1, .int .i64 r2, .int .i64 r3]) ∧ Below w.heap.size w w' := by
  rw [vetchref18_Node.f] at h
  have IH := Aside0.mk ih
  clear ih
  have hu25 := Try.underlying25
  have hu31 := Try.underlying31
  have hu56 := Try.underlying56
  have hu51 := Try.underlying51
  have hu54 := Try.underlying54
  have HB := Aside0.mk (below_alloc (below_alloc (Below.refl w.heap.size w) (.cells #[.slice A0_0 l0_0.length c0_0, .slice A0_1 l0_1.length c0_1] 25)) (.cells #[.bool false, .int .i64 0, .int .i64 0] 31))
  have HG := Aside0.mk (blk_alloc (blk_new w (.cells #[.slice A0_0 l0_0.length c0_0, .slice A0_1 l0_1.length c0_1] 25)) (.cells #[.bool false, .int .i64 0, .int .i64 0] 31))
  have HR := Aside0.mk (blk_new (w.alloc (.cells #[.slice A0_0 l0_0.length c0_0, .slice A0_1 l0_1.length c0_1] 25)) (.cells #[.bool false, .int .i64 0, .int .i64 0] 31))
  have hsz : ((w.alloc (.cells #[.slice A0_0 l0_0.length c0_0, .slice A0_1 l0_1.length c0_1] 25)).alloc (.cells #[.bool false, .int .i64 0, .int .i64 0] 31)).heap.size = w.heap.size + 1 + 1 := by rw [h18_size, h18_size]
  rw [h18_size] at HR
  have HC0 := Aside0.mk (Kd.C_below hr0_0 HB.out)
  have HC1 := Aside0.mk (Kd.C_below hr0_1 HB.out)
  have HW := Aside0.mk hsz
  clear hr0_0 hr0_1 hsz
  rw [if_pos hs.out] at h
  simp only [Option.some.injEq, Prod.mk.injEq] at h
  obtain ⟨rfl, rfl, rfl⟩ := h
  have c4b : decide (a4 < 1) = true := decide_eq_true hs.out
  go_enter Try.func12, Try.ntmps12
  go_upto_region 1 with (fail)
  generalize ((w.alloc (.cells #[.slice A0_0 l0_0.length c0_0, .slice A0_1 l0_1.length c0_1] 25)).alloc (.cells #[.bool false, .int .i64 0, .int .i64 0] 31)) = W1 at HB HG HR HC0 HC1 HW ⊢
  obtain ⟨gb, hgb⟩ : ∃ gb, gb = w.heap.size := ⟨_, rfl⟩
  obtain ⟨gr, hgr⟩ : ∃ gr, gr = gb + 1 := ⟨_, rfl⟩
  rw [← hgb] at HW HG HR ⊢
  rw [← hgr] at HR ⊢
  have HGB := Aside0.mk hgb
  have HGR := Aside0.mk hgr
  clear hgb hgr
  have rr0 : W1.cell? ⟨gr, 0, none⟩ = some (.bool false) := (blk_cell HR.out 0).trans rfl
  have z0 : W1.frozen? ⟨gr, 0, none⟩ = false := blk_frozen HR.out 0
  have rr1 : W1.cell? ⟨gr, 1, none⟩ = some (.int .i64 0) := (blk_cell HR.out 1).trans rfl
  have z1 : W1.frozen? ⟨gr, 1, none⟩ = false := blk_frozen HR.out 1
  have rr2 : W1.cell? ⟨gr, 2, none⟩ = some (.int .i64 0) := (blk_cell HR.out 2).trans rfl
  have z2 : W1.frozen? ⟨gr, 2, none⟩ = false := blk_frozen HR.out 2
  go_wp2
  refine bodyPost_ret (results_cell_row rfl _ _ gr 31 #[.bool false, .int .i64 0, .int .i64 0] (0, 0) _ rfl (h18_blk3 HR.out _ _ _) Try.underlying31 rfl (by kernel_rfl)) rfl ⟨rfl, h18_below3 HB.out (by have := HGB.out; have := HGR.out; omega) _ _ _⟩
end Go.Proofs.Ythgedejnpgcacaa.V
namespace Go.Proofs.Ythgedejnpgcacaa.V
open Go.RowKit Go.Proofs.YthgedejnpgcacaaW.PrintWords Go.Proofs.YthgedejnpgcacaaW.PrintLast Go.Proofs.YthgedejnpgcacaaW.PrintMore
set_option linter.unusedVariables false
set_option linter.unusedSimpArgs false
set_option maxHeartbeats 4000000 in
set_option maxRecDepth 100000 in
theorem vetchref18_Node.calls_s0 (k : Nat) (ih : ∀ (A0_0 : Option Addr) (c0_0 : Nat) (l0_0 : List S51) (A0_1 : Option Addr) (c0_1 : Nat) (l0_1 : List S56) (a1 : Int) (a2 : ByteArray) (a3 a4 : Int) (r1 : Bool) (r2 r3 : Int) (w : World)
    (hr0_0 : Kd.C k51 w A0_0 l0_0.length l0_0) (hc0_0 : l0_0.length ≤ c0_0) (hr0_1 : Kd.C k56 w A0_1 l0_1.length l0_1) (hc0_1 : l0_1.length ≤ c0_1) (h : vetchref18_Node.f k l0_0 l0_1 a1 a2 a3 a4 = some (r1, r2, r3)), Calls Try.prog 12 #[.agg #[.slice A0_0 l0_0.length c0_0, .slice A0_1 l0_1.length c0_1], .int .i64 a1, .string a2, .int .i64 a3, .int .i64 a4] w fun e w' => e = .returned (.agg #[.bool r1, .int .i64 r2, .int .i64 r3]) ∧ Below w.heap.size w w')
    (A0_0 : Option Addr) (c0_0 : Nat) (l0_0 : List S51) (A0_1 : Option Addr) (c0_1 : Nat) (l0_1 : List S56) (a1 : Int) (a2 : ByteArray) (a3 a4 : Int) (r1 : Bool) (r2 r3 : Int) (w : World)
    (hr0_0 : Kd.C k51 w A0_0 l0_0.length l0_0) (hc0_0 : l0_0.length ≤ c0_0) (hr0_1 : Kd.C k56 w A0_1 l0_1.length l0_1) (hc0_1 : l0_1.length ≤ c0_1) (hs : Aside0 (¬ a4 < 1 ∧ (0 ≤ a1 ∧ a1 < (l0_1.length : Int)) ∧ (rd_T56 l0_1 a1).f0 = 0)) (h : vetchref18_Node.f (k + 1) l0_0 l0_1 a1 a2 a3 a4 = some (r1, r2, r3)) :
    Calls Try.prog 12 #[.agg #[.slice A0_0 l0_0.length c0_0, .slice A0_1 l0_1.length c0_1], .int .i64 a1, .string a2, .int .i64 a3, .int .i64 a4] w fun e w' => e = .returned (.agg #[.bool r1, .int .i64 r2, .int .i64 r3]) ∧ Below w.heap.size w w' := by
  rw [vetchref18_Node.f] at h
  have IH := Aside0.mk ih
  clear ih
  have hu25 := Try.underlying25
  have hu31 := Try.underlying31
  have hu56 := Try.underlying56
  have hu51 := Try.underlying51
  have hu54 := Try.underlying54
  have HB := Aside0.mk (below_alloc (below_alloc (Below.refl w.heap.size w) (.cells #[.slice A0_0 l0_0.length c0_0, .slice A0_1 l0_1.length c0_1] 25)) (.cells #[.bool false, .int .i64 0, .int .i64 0] 31))
  have HG := Aside0.mk (blk_alloc (blk_new w (.cells #[.slice A0_0 l0_0.length c0_0, .slice A0_1 l0_1.length c0_1] 25)) (.cells #[.bool false, .int .i64 0, .int .i64 0] 31))
  have HR := Aside0.mk (blk_new (w.alloc (.cells #[.slice A0_0 l0_0.length c0_0, .slice A0_1 l0_1.length c0_1] 25)) (.cells #[.bool false, .int .i64 0, .int .i64 0] 31))
  have hsz : ((w.alloc (.cells #[.slice A0_0 l0_0.length c0_0, .slice A0_1 l0_1.length c0_1] 25)).alloc (.cells #[.bool false, .int .i64 0, .int .i64 0] 31)).heap.size = w.heap.size + 1 + 1 := by rw [h18_size, h18_size]
  rw [h18_size] at HR
  have HC0 := Aside0.mk (Kd.C_below hr0_0 HB.out)
  have HC1 := Aside0.mk (Kd.C_below hr0_1 HB.out)
  have HW := Aside0.mk hsz
  clear hr0_0 hr0_1 hsz
  rw [if_neg hs.out.1, if_pos hs.out.2.1] at h
  have c4b : decide (a4 < 1) = false := decide_eq_false hs.out.1
  have H := Aside0.mk h
  clear h
  go_enter Try.func12, Try.ntmps12
  go_upto_region 1 with (fail)
  generalize ((w.alloc (.cells #[.slice A0_0 l0_0.length c0_0, .slice A0_1 l0_1.length c0_1] 25)).alloc (.cells #[.bool false, .int .i64 0, .int .i64 0] 31)) = W1 at HB HG HR HC0 HC1 HW ⊢
  obtain ⟨gb, hgb⟩ : ∃ gb, gb = w.heap.size := ⟨_, rfl⟩
  obtain ⟨gr, hgr⟩ : ∃ gr, gr = gb + 1 := ⟨_, rfl⟩
  rw [← hgb] at HW HG HR ⊢
  rw [← hgr] at HR ⊢
  have HGB := Aside0.mk hgb
  have HGR := Aside0.mk hgr
  clear hgb hgr
  go_upto_region 4 with (fail)
  clear c4b
  have g1 : W1.cell? ⟨gb, 1, none⟩ = some (.slice A0_1 l0_1.length c0_1) := (blk_cell HG.out 1).trans rfl
  have p2 := hs.out.2.1.1
  have p3 := hs.out.2.1.2
  obtain ⟨ad, Ak, ck, e, k0, k1, k2, k3, k4, k5, k6, hlk, hCk⟩ := at_T56 HC1.out a1 p2 p3
  cases e
  have HCk := Aside0.mk hCk
  have HLk := Aside0.mk hlk
  clear hCk hlk
  replace p2 := eq_true p2
  replace p3 := eq_true p3
  go_upto_region 5 with (fail)
  have HS := Aside0.mk hs.out.2.2
  clear hs
  generalize rd_T56 l0_1 a1 = nd at *
  obtain ⟨gx, hgx⟩ : ∃ gx, gx = W1.heap.size := ⟨_, rfl⟩
  have E2 : Aside0 (Env18 W1 gx #[.int .i64 nd.f0, .slice Ak nd.f1.length ck, .int .i64 nd.f2, .int .u64 nd.f3.f0, .int .u64 nd.f3.f1, .int .u64 nd.f3.f2, .int .u64 nd.f3.f3] (W1.alloc (.cells #[.int .i64 nd.f0, .slice Ak nd.f1.length ck, .int .i64 nd.f2, .int .u64 nd.f3.f0, .int .u64 nd.f3.f1, .int .u64 nd.f3.f2, .int .u64 nd.f3.f3] 56))) := ⟨by rw [hgx]; exact blk_new W1 (.cells #[.int .i64 nd.f0, .slice Ak nd.f1.length ck, .int .i64 nd.f2, .int .u64 nd.f3.f0, .int .u64 nd.f3.f1, .int .u64 nd.f3.f2, .int .u64 nd.f3.f3] 56), below_alloc (Below.refl _ _) _⟩
  have HGX := Aside0.mk hgx
  rw [← hgx]
  generalize W1.alloc (.cells #[.int .i64 nd.f0, .slice Ak nd.f1.length ck, .int .i64 nd.f2, .int .u64 nd.f3.f0, .int .u64 nd.f3.f1, .int .u64 nd.f3.f2, .int .u64 nd.f3.f3] 56) = W2 at E2 ⊢
  clear k0 k1 k2 k3 k4 k5 k6 g1 hgx p2 p3
  have h := H.out
  clear H
  have hnd : Aside0 (gb < W1.heap.size ∧ gr < W1.heap.size) := ⟨by have := HW.out; have := HGR.out; omega⟩
  generalize wrap64 (a4 - 1) = u at *
  have x0 : W2.cell? ⟨gx, 0, none⟩ = some (.int .i64 nd.f0) := (blk_cell E2.out.x 0).trans rfl
  go_upto_region 6 with (fail)
  clear x0
  have c0 : nd.f0 = 0 := HS.out
  rw [if_pos c0] at h
  have b0 : (nd.f0 == 0) = true := beq_iff_eq.2 c0
  clear c0
  simp only [Option.some.injEq, Prod.mk.injEq] at h
  obtain ⟨rfl, rfl, rfl⟩ := h
  have rr0 : W2.cell? ⟨gr, 0, none⟩ = some (.bool false) := (blk_cell (blk_below HR.out E2.out.b) 0).trans rfl
  have z0 : W2.frozen? ⟨gr, 0, none⟩ = false := blk_frozen (blk_below HR.out E2.out.b) 0
  have rr1 : W2.cell? ⟨gr, 1, none⟩ = some (.int .i64 0) := (blk_cell (blk_below HR.out E2.out.b) 1).trans rfl
  have z1 : W2.frozen? ⟨gr, 1, none⟩ = false := blk_frozen (blk_below HR.out E2.out.b) 1
  have rr2 : W2.cell? ⟨gr, 2, none⟩ = some (.int .i64 0) := (blk_cell (blk_below HR.out E2.out.b) 2).trans rfl
  have z2 : W2.frozen? ⟨gr, 2, none⟩ = false := blk_frozen (blk_below HR.out E2.out.b) 2
  go_wp2
  refine bodyPost_ret (results_cell_row rfl _ _ gr 31 #[.bool true, .int .i64 a3, .int .i64 u] (0, 0) _ rfl (h18_blk3 (blk_below HR.out E2.out.b) _ _ _) Try.underlying31 rfl (by kernel_rfl)) rfl ⟨rfl, h18_below3 (below_step HB.out E2.out.b) (by have := HGB.out; have := HGR.out; omega) _ _ _⟩
end Go.Proofs.Ythgedejnpgcacaa.V
namespace Go.Proofs.Ythgedejnpgcacaa.V
open Go.RowKit Go.Proofs.YthgedejnpgcacaaW.PrintWords Go.Proofs.YthgedejnpgcacaaW.PrintLast Go.Proofs.YthgedejnpgcacaaW.PrintMore
set_option linter.unusedVariables false
set_option linter.unusedSimpArgs false
set_option maxHeartbeats 4000000 in
set_option maxRecDepth 100000 in
theorem vetchref18_Node.calls_s1 (k : Nat) (ih : ∀ (A0_0 : Option Addr) (c0_0 : Nat) (l0_0 : List S51) (A0_1 : Option Addr) (c0_1 : Nat) (l0_1 : List S56) (a1 : Int) (a2 : ByteArray) (a3 a4 : Int) (r1 : Bool) (r2 r3 : Int) (w : World)
    (hr0_0 : Kd.C k51 w A0_0 l0_0.length l0_0) (hc0_0 : l0_0.length ≤ c0_0) (hr0_1 : Kd.C k56 w A0_1 l0_1.length l0_1) (hc0_1 : l0_1.length ≤ c0_1) (h : vetchref18_Node.f k l0_0 l0_1 a1 a2 a3 a4 = some (r1, r2, r3)), Calls Try.prog 12 #[.agg #[.slice A0_0 l0_0.length c0_0, .slice A0_1 l0_1.length c0_1], .int .i64 a1, .string a2, .int .i64 a3, .int .i64 a4] w fun e w' => e = .returned (.agg #[.bool r1, .int .i64 r2, .int .i64 r3]) ∧ Below w.heap.size w w')
    (A0_0 : Option Addr) (c0_0 : Nat) (l0_0 : List S51) (A0_1 : Option Addr) (c0_1 : Nat) (l0_1 : List S56) (a1 : Int) (a2 : ByteArray) (a3 a4 : Int) (r1 : Bool) (r2 r3 : Int) (w : World)
    (hr0_0 : Kd.C k51 w A0_0 l0_0.length l0_0) (hc0_0 : l0_0.length ≤ c0_0) (hr0_1 : Kd.C k56 w A0_1 l0_1.length l0_1) (hc0_1 : l0_1.length ≤ c0_1) (hs : Aside0 (¬ a4 < 1 ∧ (0 ≤ a1 ∧ a1 < (l0_1.length : Int)) ∧ (rd_T56 l0_1 a1).f0 = 1)) (h : vetchref18_Node.f (k + 1) l0_0 l0_1 a1 a2 a3 a4 = some (r1, r2, r3)) :
    Calls Try.prog 12 #[.agg #[.slice A0_0 l0_0.length c0_0, .slice A0_1 l0_1.length c0_1], .int .i64 a1, .string a2, .int .i64 a3, .int .i64 a4] w fun e w' => e = .returned (.agg #[.bool r1, .int .i64 r2, .int .i64 r3]) ∧ Below w.heap.size w w' := by
  rw [vetchref18_Node.f] at h
  have IH := Aside0.mk ih
  clear ih
  have hu25 := Try.underlying25
  have hu31 := Try.underlying31
  have hu56 := Try.underlying56
  have hu51 := Try.underlying51
  have hu54 := Try.underlying54
  have HB := Aside0.mk (below_alloc (below_alloc (Below.refl w.heap.size w) (.cells #[.slice A0_0 l0_0.length c0_0, .slice A0_1 l0_1.length c0_1] 25)) (.cells #[.bool false, .int .i64 0, .int .i64 0] 31))
  have HG := Aside0.mk (blk_alloc (blk_new w (.cells #[.slice A0_0 l0_0.length c0_0, .slice A0_1 l0_1.length c0_1] 25)) (.cells #[.bool false, .int .i64 0, .int .i64 0] 31))
  have HR := Aside0.mk (blk_new (w.alloc (.cells #[.slice A0_0 l0_0.length c0_0, .slice A0_1 l0_1.length c0_1] 25)) (.cells #[.bool false, .int .i64 0, .int .i64 0] 31))
  have hsz : ((w.alloc (.cells #[.slice A0_0 l0_0.length c0_0, .slice A0_1 l0_1.length c0_1] 25)).alloc (.cells #[.bool false, .int .i64 0, .int .i64 0] 31)).heap.size = w.heap.size + 1 + 1 := by rw [h18_size, h18_size]
  rw [h18_size] at HR
  have HC0 := Aside0.mk (Kd.C_below hr0_0 HB.out)
  have HC1 := Aside0.mk (Kd.C_below hr0_1 HB.out)
  have HW := Aside0.mk hsz
  clear hr0_0 hr0_1 hsz
  rw [if_neg hs.out.1, if_pos hs.out.2.1] at h
  have c4b : decide (a4 < 1) = false := decide_eq_false hs.out.1
  have H := Aside0.mk h
  clear h
  go_enter Try.func12, Try.ntmps12
  go_upto_region 1 with (fail)
  generalize ((w.alloc (.cells #[.slice A0_0 l0_0.length c0_0, .slice A0_1 l0_1.length c0_1] 25)).alloc (.cells #[.bool false, .int .i64 0, .int .i64 0] 31)) = W1 at HB HG HR HC0 HC1 HW ⊢
  obtain ⟨gb, hgb⟩ : ∃ gb, gb = w.heap.size := ⟨_, rfl⟩
  obtain ⟨gr, hgr⟩ : ∃ gr, gr = gb + 1 := ⟨_, rfl⟩
  rw [← hgb] at HW HG HR ⊢
  rw [← hgr] at HR ⊢
  have HGB := Aside0.mk hgb
  have HGR := Aside0.mk hgr
  clear hgb hgr
  go_upto_region 4 with (fail)
  clear c4b
  have g1 : W1.cell? ⟨gb, 1, none⟩ = some (.slice A0_1 l0_1.length c0_1) := (blk_cell HG.out 1).trans rfl
  have p2 := hs.out.2.1.1
  have p3 := hs.out.2.1.2
  obtain ⟨ad, Ak, ck, e, k0, k1, k2, k3, k4, k5, k6, hlk, hCk⟩ := at_T56 HC1.out a1 p2 p3
  cases e
  have HCk := Aside0.mk hCk
  have HLk := Aside0.mk hlk
  clear hCk hlk
  replace p2 := eq_true p2
  replace p3 := eq_true p3
  go_upto_region 5 with (fail)
  have HS := Aside0.mk hs.out.2.2
  clear hs
  generalize rd_T56 l0_1 a1 = nd at *
  obtain ⟨gx, hgx⟩ : ∃ gx, gx = W1.heap.size := ⟨_, rfl⟩
  have E2 : Aside0 (Env18 W1 gx #[.int .i64 nd.f0, .slice Ak nd.f1.length ck, .int .i64 nd.f2, .int .u64 nd.f3.f0, .int .u64 nd.f3.f1, .int .u64 nd.f3.f2, .int .u64 nd.f3.f3] (W1.alloc (.cells #[.int .i64 nd.f0, .slice Ak nd.f1.length ck, .int .i64 nd.f2, .int .u64 nd.f3.f0, .int .u64 nd.f3.f1, .int .u64 nd.f3.f2, .int .u64 nd.f3.f3] 56))) := ⟨by rw [hgx]; exact blk_new W1 (.cells #[.int .i64 nd.f0, .slice Ak nd.f1.length ck, .int .i64 nd.f2, .int .u64 nd.f3.f0, .int .u64 nd.f3.f1, .int .u64 nd.f3.f2, .int .u64 nd.f3.f3] 56), below_alloc (Below.refl _ _) _⟩
  have HGX := Aside0.mk hgx
  rw [← hgx]
  generalize W1.alloc (.cells #[.int .i64 nd.f0, .slice Ak nd.f1.length ck, .int .i64 nd.f2, .int .u64 nd.f3.f0, .int .u64 nd.f3.f1, .int .u64 nd.f3.f2, .int .u64 nd.f3.f3] 56) = W2 at E2 ⊢
  clear k0 k1 k2 k3 k4 k5 k6 g1 hgx p2 p3
  have h := H.out
  clear H
  have hnd : Aside0 (gb < W1.heap.size ∧ gr < W1.heap.size) := ⟨by have := HW.out; have := HGR.out; omega⟩
  generalize wrap64 (a4 - 1) = u at *
  have x0 : W2.cell? ⟨gx, 0, none⟩ = some (.int .i64 nd.f0) := (blk_cell E2.out.x 0).trans rfl
  go_upto_region 6 with (fail)
  clear x0
  have c0 : ¬ nd.f0 = 0 := by have := HS.out; omega
  rw [if_neg c0] at h
  have b0 : (nd.f0 == 0) = false := beq_eq_false_iff_ne.2 c0
  clear c0
  go_upto_region 8 with (fail)
  clear b0
  have c1 : nd.f0 = 1 := HS.out
  rw [if_pos c1] at h
  have b1 : (nd.f0 == 1) = true := beq_iff_eq.2 c1
  clear c1
  by_cases c4 : a3 < (a2.size : Int)
  · rw [if_pos c4] at h
    by_cases c5 : 0 ≤ a3
    · rw [if_pos c5] at h
      obtain ⟨t, ht, h⟩ := Option.bind_eq_some_iff.1 h
      have HT := Aside0.mk ht
      clear ht
      have hbt := bt_at a2 a3
      have c4b : decide (a3 < (a2.size : Int)) = true := decide_eq_true c4
      replace c4 := eq_true c4
      replace c5 := eq_true c5
      have x3 : W2.cell? ⟨gx, 3, none⟩ = some (.int .u64 nd.f3.f0) := (blk_cell E2.out.x 3).trans rfl
      have x4 : W2.cell? ⟨gx, 4, none⟩ = some (.int .u64 nd.f3.f1) := (blk_cell E2.out.x 4).trans rfl
      have x5 : W2.cell? ⟨gx, 5, none⟩ = some (.int .u64 nd.f3.f2) := (blk_cell E2.out.x 5).trans rfl
      have x6 : W2.cell? ⟨gx, 6, none⟩ = some (.int .u64 nd.f3.f3) := (blk_cell E2.out.x 6).trans rfl
      go_upto_region 9 with (fail)
      go_still_tail 10, (by kernel_rfl)
      change wpList _ _ _ _ _ W2.drew
      cases t with
      | true =>
        rw [if_pos rfl] at h
        simp only [Option.some.injEq, Prod.mk.injEq] at h
        obtain ⟨rfl, rfl, rfl⟩ := h
        go_wp2_with (
          go_at_call 21
          refine (vetchref01_Has.calls k nd.f3.f0 nd.f3.f1 nd.f3.f2 nd.f3.f3 (bt a2 a3) true _ HT.out).mono ?_
          rintro e_ W3 ⟨rfl, hb_⟩
          have E3 := Aside0.mk (E2.out.drew.below hb_)
          have rr0 : W3.cell? ⟨gr, 0, none⟩ = some (.bool false) := (blk_cell (blk_below HR.out E3.out.b) 0).trans rfl
          have z0 : W3.frozen? ⟨gr, 0, none⟩ = false := blk_frozen (blk_below HR.out E3.out.b) 0
          have rr1 : W3.cell? ⟨gr, 1, none⟩ = some (.int .i64 0) := (blk_cell (blk_below HR.out E3.out.b) 1).trans rfl
          have z1 : W3.frozen? ⟨gr, 1, none⟩ = false := blk_frozen (blk_below HR.out E3.out.b) 1
          have rr2 : W3.cell? ⟨gr, 2, none⟩ = some (.int .i64 0) := (blk_cell (blk_below HR.out E3.out.b) 2).trans rfl
          have z2 : W3.frozen? ⟨gr, 2, none⟩ = false := blk_frozen (blk_below HR.out E3.out.b) 2)
        refine bodyPost_ret (results_cell_row rfl _ _ gr 31 #[.bool true, .int .i64 (wrap64 (a3 + 1)), .int .i64 u] (0, 0) _ rfl (h18_blk3 (blk_below HR.out E3.out.b) _ _ _) Try.underlying31 rfl (by kernel_rfl)) rfl ⟨rfl, h18_below3 (below_step HB.out E3.out.b) (by have := HGB.out; have := HGR.out; omega) _ _ _⟩
      | false =>
        rw [if_neg (by decide)] at h
        simp only [Option.some.injEq, Prod.mk.injEq] at h
        obtain ⟨rfl, rfl, rfl⟩ := h
        go_wp2_with (
          go_at_call 21
          refine (vetchref01_Has.calls k nd.f3.f0 nd.f3.f1 nd.f3.f2 nd.f3.f3 (bt a2 a3) false _ HT.out).mono ?_
          rintro e_ W3 ⟨rfl, hb_⟩
          have E3 := Aside0.mk (E2.out.drew.below hb_)
          have rr0 : W3.cell? ⟨gr, 0, none⟩ = some (.bool false) := (blk_cell (blk_below HR.out E3.out.b) 0).trans rfl
          have z0 : W3.frozen? ⟨gr, 0, none⟩ = false := blk_frozen (blk_below HR.out E3.out.b) 0
          have rr1 : W3.cell? ⟨gr, 1, none⟩ = some (.int .i64 0) := (blk_cell (blk_below HR.out E3.out.b) 1).trans rfl
          have z1 : W3.frozen? ⟨gr, 1, none⟩ = false := blk_frozen (blk_below HR.out E3.out.b) 1
          have rr2 : W3.cell? ⟨gr, 2, none⟩ = some (.int .i64 0) := (blk_cell (blk_below HR.out E3.out.b) 2).trans rfl
          have z2 : W3.frozen? ⟨gr, 2, none⟩ = false := blk_frozen (blk_below HR.out E3.out.b) 2)
        refine bodyPost_ret (results_cell_row rfl _ _ gr 31 #[.bool true, .int .i64 (-1), .int .i64 u] (0, 0) _ rfl (h18_blk3 (blk_below HR.out E3.out.b) _ _ _) Try.underlying31 rfl (by kernel_rfl)) rfl ⟨rfl, h18_below3 (below_step HB.out E3.out.b) (by have := HGB.out; have := HGR.out; omega) _ _ _⟩
    · rw [if_neg c5] at h
      exact absurd h (by simp)
  · rw [if_neg c4] at h
    simp only [Option.some.injEq, Prod.mk.injEq] at h
    obtain ⟨rfl, rfl, rfl⟩ := h
    have c4b : decide (a3 < (a2.size : Int)) = false := decide_eq_false c4
    clear c4
    have x3 : W2.cell? ⟨gx, 3, none⟩ = some (.int .u64 nd.f3.f0) := (blk_cell E2.out.x 3).trans rfl
    have x4 : W2.cell? ⟨gx, 4, none⟩ = some (.int .u64 nd.f3.f1) := (blk_cell E2.out.x 4).trans rfl
    have x5 : W2.cell? ⟨gx, 5, none⟩ = some (.int .u64 nd.f3.f2) := (blk_cell E2.out.x 5).trans rfl
    have x6 : W2.cell? ⟨gx, 6, none⟩ = some (.int .u64 nd.f3.f3) := (blk_cell E2.out.x 6).trans rfl
    go_upto_region 9 with (fail)
    go_quiet (fail)
    have E3 := Aside0.mk (E2.out.drewN nq)
    have rr0 : W2.cell? ⟨gr, 0, none⟩ = some (.bool false) := (blk_cell (blk_below HR.out E2.out.b) 0).trans rfl
    have z0 : W2.frozen? ⟨gr, 0, none⟩ = false := blk_frozen (blk_below HR.out E2.out.b) 0
    have rr1 : W2.cell? ⟨gr, 1, none⟩ = some (.int .i64 0) := (blk_cell (blk_below HR.out E2.out.b) 1).trans rfl
    have z1 : W2.frozen? ⟨gr, 1, none⟩ = false := blk_frozen (blk_below HR.out E2.out.b) 1
    have rr2 : W2.cell? ⟨gr, 2, none⟩ = some (.int .i64 0) := (blk_cell (blk_below HR.out E2.out.b) 2).trans rfl
    have z2 : W2.frozen? ⟨gr, 2, none⟩ = false := blk_frozen (blk_below HR.out E2.out.b) 2
    go_wp2
    refine bodyPost_ret (results_cell_row rfl _ _ gr 31 #[.bool true, .int .i64 (-1), .int .i64 u] (0, 0) _ rfl (h18_blk3 (blk_below HR.out E3.out.b) _ _ _) Try.underlying31 rfl (by kernel_rfl)) rfl ⟨rfl, h18_below3 (below_step HB.out E3.out.b) (by have := HGB.out; have := HGR.out; omega) _ _ _⟩
end Go.Proofs.Ythgedejnpgcacaa.V
namespace Go.Proofs.Ythgedejnpgcacaa.V
open Go.RowKit Go.Proofs.YthgedejnpgcacaaW.PrintWords Go.Proofs.YthgedejnpgcacaaW.PrintLast Go.Proofs.YthgedejnpgcacaaW.PrintMore
set_option linter.unusedVariables false
set_option linter.unusedSimpArgs false
set_option maxHeartbeats 4000000 in
set_option maxRecDepth 100000 in
theorem vetchref18_Node.calls_s2 (k : Nat) (ih : ∀ (A0_0 : Option Addr) (c0_0 : Nat) (l0_0 : List S51) (A0_1 : Option Addr) (c0_1 : Nat) (l0_1 : List S56) (a1 : Int) (a2 : ByteArray) (a3 a4 : Int) (r1 : Bool) (r2 r3 : Int) (w : World)
    (hr0_0 : Kd.C k51 w A0_0 l0_0.length l0_0) (hc0_0 : l0_0.length ≤ c0_0) (hr0_1 : Kd.C k56 w A0_1 l0_1.length l0_1) (hc0_1 : l0_1.length ≤ c0_1) (h : vetchref18_Node.f k l0_0 l0_1 a1 a2 a3 a4 = some (r1, r2, r3)), Calls Try.prog 12 #[.agg #[.slice A0_0 l0_0.length c0_0, .slice A0_1 l0_1.length c0_1], .int .i64 a1, .string a2, .int .i64 a3, .int .i64 a4] w fun e w' => e = .returned (.agg #[.bool r1, .int .i64 r2, .int .i64 r3]) ∧ Below w.heap.size w w')
    (A0_0 : Option Addr) (c0_0 : Nat) (l0_0 : List S51) (A0_1 : Option Addr) (c0_1 : Nat) (l0_1 : List S56) (a1 : Int) (a2 : ByteArray) (a3 a4 : Int) (r1 : Bool) (r2 r3 : Int) (w : World)
    (hr0_0 : Kd.C k51 w A0_0 l0_0.length l0_0) (hc0_0 : l0_0.length ≤ c0_0) (hr0_1 : Kd.C k56 w A0_1 l0_1.length l0_1) (hc0_1 : l0_1.length ≤ c0_1) (hs : Aside0 (¬ a4 < 1 ∧ (0 ≤ a1 ∧ a1 < (l0_1.length : Int)) ∧ (rd_T56 l0_1 a1).f0 = 2)) (h : vetchref18_Node.f (k + 1) l0_0 l0_1 a1 a2 a3 a4 = some (r1, r2, r3)) :
    Calls Try.prog 12 #[.agg #[.slice A0_0 l0_0.length c0_0, .slice A0_1 l0_1.length c0_1], .int .i64 a1, .string a2, .int .i64 a3, .int .i64 a4] w fun e w' => e = .returned (.agg #[.bool r1, .int .i64 r2, .int .i64 r3]) ∧ Below w.heap.size w w' := by
  rw [vetchref18_Node.f] at h
  have IH := Aside0.mk ih
  clear ih
  have hu25 := Try.underlying25
  have hu31 := Try.underlying31
  have hu56 := Try.underlying56
  have hu51 := Try.underlying51
  have hu54 := Try.underlying54
  have HB := Aside0.mk (below_alloc (below_alloc (Below.refl w.heap.size w) (.cells #[.slice A0_0 l0_0.length c0_0, .slice A0_1 l0_1.length c0_1] 25)) (.cells #[.bool false, .int .i64 0, .int .i64 0] 31))
  have HG := Aside0.mk (blk_alloc (blk_new w (.cells #[.slice A0_0 l0_0.length c0_0, .slice A0_1 l0_1.length c0_1] 25)) (.cells #[.bool false, .int .i64 0, .int .i64 0] 31))
  have HR := Aside0.mk (blk_new (w.alloc (.cells #[.slice A0_0 l0_0.length c0_0, .slice A0_1 l0_1.length c0_1] 25)) (.cells #[.bool false, .int .i64 0, .int .i64 0] 31))
  have hsz : ((w.alloc (.cells #[.slice A0_0 l0_0.length c0_0, .slice A0_1 l0_1.length c0_1] 25)).alloc (.cells #[.bool false, .int .i64 0, .int .i64 0] 31)).heap.size = w.heap.size + 1 + 1 := by rw [h18_size, h18_size]
  rw [h18_size] at HR
  have HC0 := Aside0.mk (Kd.C_below hr0_0 HB.out)
  have HC1 := Aside0.mk (Kd.C_below hr0_1 HB.out)
  have HW := Aside0.mk hsz
  clear hr0_0 hr0_1 hsz
  rw [if_neg hs.out.1, if_pos hs.out.2.1] at h
  have c4b : decide (a4 < 1) = false := decide_eq_false hs.out.1
  have H := Aside0.mk h
  clear h
  go_enter Try.func12, Try.ntmps12
  go_upto_region 1 with (fail)
  generalize ((w.alloc (.cells #[.slice A0_0 l0_0.length c0_0, .slice A0_1 l0_1.length c0_1] 25)).alloc (.cells #[.bool false, .int .i64 0, .int .i64 0] 31)) = W1 at HB HG HR HC0 HC1 HW ⊢
  obtain ⟨gb, hgb⟩ : ∃ gb, gb = w.heap.size := ⟨_, rfl⟩
  obtain ⟨gr, hgr⟩ : ∃ gr, gr = gb + 1 := ⟨_, rfl⟩
  rw [← hgb] at HW HG HR ⊢
  rw [← hgr] at HR ⊢
  have HGB := Aside0.mk hgb
  have HGR := Aside0.mk hgr
  clear hgb hgr
  go_upto_region 4 with (fail)
  clear c4b
  have g1 : W1.cell? ⟨gb, 1, none⟩ = some (.slice A0_1 l0_1.length c0_1) := (blk_cell HG.out 1).trans rfl
  have p2 := hs.out.2.1.1
  have p3 := hs.out.2.1.2
  obtain ⟨ad, Ak, ck, e, k0, k1, k2, k3, k4, k5, k6, hlk, hCk⟩ := at_T56 HC1.out a1 p2 p3
  cases e
  have HCk := Aside0.mk hCk
  have HLk := Aside0.mk hlk
  clear hCk hlk
  replace p2 := eq_true p2
  replace p3 := eq_true p3
  go_upto_region 5 with (fail)
  have HS := Aside0.mk hs.out.2.2
  clear hs
  generalize rd_T56 l0_1 a1 = nd at *
  obtain ⟨gx, hgx⟩ : ∃ gx, gx = W1.heap.size := ⟨_, rfl⟩
  have E2 : Aside0 (Env18 W1 gx #[.int .i64 nd.f0, .slice Ak nd.f1.length ck, .int .i64 nd.f2, .int .u64 nd.f3.f0, .int .u64 nd.f3.f1, .int .u64 nd.f3.f2, .int .u64 nd.f3.f3] (W1.alloc (.cells #[.int .i64 nd.f0, .slice Ak nd.f1.length ck, .int .i64 nd.f2, .int .u64 nd.f3.f0, .int .u64 nd.f3.f1, .int .u64 nd.f3.f2, .int .u64 nd.f3.f3] 56))) := ⟨by rw [hgx]; exact blk_new W1 (.cells #[.int .i64 nd.f0, .slice Ak nd.f1.length ck, .int .i64 nd.f2, .int .u64 nd.f3.f0, .int .u64 nd.f3.f1, .int .u64 nd.f3.f2, .int .u64 nd.f3.f3] 56), below_alloc (Below.refl _ _) _⟩
  have HGX := Aside0.mk hgx
  rw [← hgx]
  generalize W1.alloc (.cells #[.int .i64 nd.f0, .slice Ak nd.f1.length ck, .int .i64 nd.f2, .int .u64 nd.f3.f0, .int .u64 nd.f3.f1, .int .u64 nd.f3.f2, .int .u64 nd.f3.f3] 56) = W2 at E2 ⊢
  clear k0 k1 k2 k3 k4 k5 k6 g1 hgx p2 p3
  have h := H.out
  clear H
  have hnd : Aside0 (gb < W1.heap.size ∧ gr < W1.heap.size) := ⟨by have := HW.out; have := HGR.out; omega⟩
  generalize wrap64 (a4 - 1) = u at *
  have x0 : W2.cell? ⟨gx, 0, none⟩ = some (.int .i64 nd.f0) := (blk_cell E2.out.x 0).trans rfl
  go_upto_region 6 with (fail)
  clear x0
  have c0 : ¬ nd.f0 = 0 := by have := HS.out; omega
  rw [if_neg c0] at h
  have b0 : (nd.f0 == 0) = false := beq_eq_false_iff_ne.2 c0
  clear c0
  go_upto_region 8 with (fail)
  clear b0
  have c1 : ¬ nd.f0 = 1 := by have := HS.out; omega
  rw [if_neg c1] at h
  have b1 : (nd.f0 == 1) = false := beq_eq_false_iff_ne.2 c1
  clear c1
  go_upto_region 12 with (fail)
  clear b1
  have c2 : nd.f0 = 2 := HS.out
  rw [if_pos c2] at h
  have b2 : (nd.f0 == 2) = true := beq_iff_eq.2 c2
  clear c2
  by_cases c4 : 0 ≤ nd.f2 ∧ nd.f2 < (l0_0.length : Int)
  · rw [if_pos c4] at h
    have HT := Aside0.mk h
    clear h
    have g0 : W2.cell? ⟨gb, 0, none⟩ = some (.slice A0_0 l0_0.length c0_0) := (blk_cell (blk_below HG.out E2.out.b) 0).trans rfl
    have g1 : W2.cell? ⟨gb, 1, none⟩ = some (.slice (some ad) l0_1.length c0_1) := (blk_cell (blk_below HG.out E2.out.b) 1).trans rfl
    have x2 : W2.cell? ⟨gx, 2, none⟩ = some (.int .i64 nd.f2) := (blk_cell E2.out.x 2).trans rfl
    obtain ⟨ad2, e2, y0, y1⟩ := at_T51 (Kd.C_below HC0.out E2.out.b) nd.f2 c4.1 c4.2
    cases e2
    have q0 := eq_true c4.1
    have q1 := eq_true c4.2
    clear c4
    go_upto_region 13 with (fail)
    go_still_tail 11, (by kernel_rfl)
    change wpList _ _ _ _ _ W2.drew
    go_wp2_with (
      go_at_call 12
      refine (IH.out _ _ l0_0 _ _ l0_1 ((rd_T51 l0_0 nd.f2).f1) a2 (a3) (u) r1 r2 r3 _ (Kd.C_below HC0.out E2.out.drew.b) hc0_0 (Kd.C_below HC1.out E2.out.drew.b) hc0_1 HT.out).mono ?_
      rintro e_ W3 ⟨rfl, hb_⟩
      have E3 := Aside0.mk (E2.out.drew.below hb_)
      have rr0 : W3.cell? ⟨gr, 0, none⟩ = some (.bool false) := (blk_cell (blk_below HR.out E3.out.b) 0).trans rfl
      have z0 : W3.frozen? ⟨gr, 0, none⟩ = false := blk_frozen (blk_below HR.out E3.out.b) 0
      have rr1 : W3.cell? ⟨gr, 1, none⟩ = some (.int .i64 0) := (blk_cell (blk_below HR.out E3.out.b) 1).trans rfl
      have z1 : W3.frozen? ⟨gr, 1, none⟩ = false := blk_frozen (blk_below HR.out E3.out.b) 1
      have rr2 : W3.cell? ⟨gr, 2, none⟩ = some (.int .i64 0) := (blk_cell (blk_below HR.out E3.out.b) 2).trans rfl
      have z2 : W3.frozen? ⟨gr, 2, none⟩ = false := blk_frozen (blk_below HR.out E3.out.b) 2)
    refine bodyPost_ret (results_cell_row rfl _ _ gr 31 #[.bool r1, .int .i64 r2, .int .i64 r3] (0, 0) _ rfl (h18_blk3 (blk_below HR.out E3.out.b) _ _ _) Try.underlying31 rfl (by kernel_rfl)) rfl ⟨rfl, h18_below3 (below_step HB.out E3.out.b) (by have := HGB.out; have := HGR.out; omega) _ _ _⟩
  · rw [if_neg c4] at h
    exact absurd h (by simp)
end Go.Proofs.Ythgedejnpgcacaa.V
namespace Go.Proofs.Ythgedejnpgcacaa.V
open Go.RowKit Go.Proofs.YthgedejnpgcacaaW.PrintWords Go.Proofs.YthgedejnpgcacaaW.PrintLast Go.Proofs.YthgedejnpgcacaaW.PrintMore
set_option linter.unusedVariables false
set_option linter.unusedSimpArgs false
set_option maxHeartbeats 4000000 in
set_option maxRecDepth 100000 in
theorem vetchref18_Node.calls_s3 (k : Nat) (ih : ∀ (A0_0 : Option Addr) (c0_0 : Nat) (l0_0 : List S51) (A0_1 : Option Addr) (c0_1 : Nat) (l0_1 : List S56) (a1 : Int) (a2 : ByteArray) (a3 a4 : Int) (r1 : Bool) (r2 r3 : Int) (w : World)
    (hr0_0 : Kd.C k51 w A0_0 l0_0.length l0_0) (hc0_0 : l0_0.length ≤ c0_0) (hr0_1 : Kd.C k56 w A0_1 l0_1.length l0_1) (hc0_1 : l0_1.length ≤ c0_1) (h : vetchref18_Node.f k l0_0 l0_1 a1 a2 a3 a4 = some (r1, r2, r3)), Calls Try.prog 12 #[.agg #[.slice A0_0 l0_0.length c0_0, .slice A0_1 l0_1.length c0_1], .int .i64 a1, .string a2, .int .i64 a3, .int .i64 a4] w fun e w' => e = .returned (.agg #[.bool r1, .int .i64 r2, .int .i64 r3]) ∧ Below w.heap.size w w')
    (A0_0 : Option Addr) (c0_0 : Nat) (l0_0 : List S51) (A0_1 : Option Addr) (c0_1 : Nat) (l0_1 : List S56) (a1 : Int) (a2 : ByteArray) (a3 a4 : Int) (r1 : Bool) (r2 r3 : Int) (w : World)
    (hr0_0 : Kd.C k51 w A0_0 l0_0.length l0_0) (hc0_0 : l0_0.length ≤ c0_0) (hr0_1 : Kd.C k56 w A0_1 l0_1.length l0_1) (hc0_1 : l0_1.length ≤ c0_1) (hs : Aside0 (¬ a4 < 1 ∧ (0 ≤ a1 ∧ a1 < (l0_1.length : Int)) ∧ (rd_T56 l0_1 a1).f0 = 3)) (h : vetchref18_Node.f (k + 1) l0_0 l0_1 a1 a2 a3 a4 = some (r1, r2, r3)) :
    Calls Try.prog 12 #[.agg #[.slice A0_0 l0_0.length c0_0, .slice A0_1 l0_1.length c0_1], .int .i64 a1, .string a2, .int .i64 a3, .int .i64 a4] w fun e w' => e = .returned (.agg #[.bool r1, .int .i64 r2, .int .i64 r3]) ∧ Below w.heap.size w w' := by
  rw [vetchref18_Node.f] at h
  have IH := Aside0.mk ih
  clear ih
  have hu25 := Try.underlying25
  have hu31 := Try.underlying31
  have hu56 := Try.underlying56
  have hu51 := Try.underlying51
  have hu54 := Try.underlying54
  have HB := Aside0.mk (below_alloc (below_alloc (Below.refl w.heap.size w) (.cells #[.slice A0_0 l0_0.length c0_0, .slice A0_1 l0_1.length c0_1] 25)) (.cells #[.bool false, .int .i64 0, .int .i64 0] 31))
  have HG := Aside0.mk (blk_alloc (blk_new w (.cells #[.slice A0_0 l0_0.length c0_0, .slice A0_1 l0_1.length c0_1] 25)) (.cells #[.bool false, .int .i64 0, .int .i64 0] 31))
  have HR := Aside0.mk (blk_new (w.alloc (.cells #[.slice A0_0 l0_0.length c0_0, .slice A0_1 l0_1.length c0_1] 25)) (.cells #[.bool false, .int .i64 0, .int .i64 0] 31))
  have hsz : ((w.alloc (.cells #[.slice A0_0 l0_0.length c0_0, .slice A0_1 l0_1.length c0_1] 25)).alloc (.cells #[.bool false, .int .i64 0, .int .i64 0] 31)).heap.size = w.heap.size + 1 + 1 := by rw [h18_size, h18_size]
  rw [h18_size] at HR
  have HC0 := Aside0.mk (Kd.C_below hr0_0 HB.out)
  have HC1 := Aside0.mk (Kd.C_below hr0_1 HB.out)
  have HW := Aside0.mk hsz
  clear hr0_0 hr0_1 hsz
  rw [if_neg hs.out.1, if_pos hs.out.2.1] at h
  have c4b : decide (a4 < 1) = false := decide_eq_false hs.out.1
  have H := Aside0.mk h
  clear h
  go_enter Try.func12, Try.ntmps12
  go_upto_region 1 with (fail)
  generalize ((w.alloc (.cells #[.slice A0_0 l0_0.length c0_0, .slice A0_1 l0_1.length c0_1] 25)).alloc (.cells #[.bool false, .int .i64 0, .int .i64 0] 31)) = W1 at HB HG HR HC0 HC1 HW ⊢
  obtain ⟨gb, hgb⟩ : ∃ gb, gb = w.heap.size := ⟨_, rfl⟩
  obtain ⟨gr, hgr⟩ : ∃ gr, gr = gb + 1 := ⟨_, rfl⟩
  rw [← hgb] at HW HG HR ⊢
  rw [← hgr] at HR ⊢
  have HGB := Aside0.mk hgb
  have HGR := Aside0.mk hgr
  clear hgb hgr
  go_upto_region 4 with (fail)
  clear c4b
  have g1 : W1.cell? ⟨gb, 1, none⟩ = some (.slice A0_1 l0_1.length c0_1) := (blk_cell HG.out 1).trans rfl
  have p2 := hs.out.2.1.1
  have p3 := hs.out.2.1.2
  obtain ⟨ad, Ak, ck, e, k0, k1, k2, k3, k4, k5, k6, hlk, hCk⟩ := at_T56 HC1.out a1 p2 p3
  cases e
  have HCk := Aside0.mk hCk
  have HLk := Aside0.mk hlk
  clear hCk hlk
  replace p2 := eq_true p2
  replace p3 := eq_true p3
  go_upto_region 5 with (fail)
  have HS := Aside0.mk hs.out.2.2
  clear hs
  generalize rd_T56 l0_1 a1 = nd at *
  obtain ⟨gx, hgx⟩ : ∃ gx, gx = W1.heap.size := ⟨_, rfl⟩
  have E2 : Aside0 (Env18 W1 gx #[.int .i64 nd.f0, .slice Ak nd.f1.length ck, .int .i64 nd.f2, .int .u64 nd.f3.f0, .int .u64 nd.f3.f1, .int .u64 nd.f3.f2, .int .u64 nd.f3.f3] (W1.alloc (.cells #[.int .i64 nd.f0, .slice Ak nd.f1.length ck, .int .i64 nd.f2, .int .u64 nd.f3.f0, .int .u64 nd.f3.f1, .int .u64 nd.f3.f2, .int .u64 nd.f3.f3] 56))) := ⟨by rw [hgx]; exact blk_new W1 (.cells #[.int .i64 nd.f0, .slice Ak nd.f1.length ck, .int .i64 nd.f2, .int .u64 nd.f3.f0, .int .u64 nd.f3.f1, .int .u64 nd.f3.f2, .int .u64 nd.f3.f3] 56), below_alloc (Below.refl _ _) _⟩
  have HGX := Aside0.mk hgx
  rw [← hgx]
  generalize W1.alloc (.cells #[.int .i64 nd.f0, .slice Ak nd.f1.length ck, .int .i64 nd.f2, .int .u64 nd.f3.f0, .int .u64 nd.f3.f1, .int .u64 nd.f3.f2, .int .u64 nd.f3.f3] 56) = W2 at E2 ⊢
  clear k0 k1 k2 k3 k4 k5 k6 g1 hgx p2 p3
  have h := H.out
  clear H
  have hnd : Aside0 (gb < W1.heap.size ∧ gr < W1.heap.size) := ⟨by have := HW.out; have := HGR.out; omega⟩
  generalize wrap64 (a4 - 1) = u at *
  have x0 : W2.cell? ⟨gx, 0, none⟩ = some (.int .i64 nd.f0) := (blk_cell E2.out.x 0).trans rfl
  go_upto_region 6 with (fail)
  clear x0
  have c0 : ¬ nd.f0 = 0 := by have := HS.out; omega
  rw [if_neg c0] at h
  have b0 : (nd.f0 == 0) = false := beq_eq_false_iff_ne.2 c0
  clear c0
  go_upto_region 8 with (fail)
  clear b0
  have c1 : ¬ nd.f0 = 1 := by have := HS.out; omega
  rw [if_neg c1] at h
  have b1 : (nd.f0 == 1) = false := beq_eq_false_iff_ne.2 c1
  clear c1
  go_upto_region 12 with (fail)
  clear b1
  have c2 : ¬ nd.f0 = 2 := by have := HS.out; omega
  rw [if_neg c2] at h
  have b2 : (nd.f0 == 2) = false := beq_eq_false_iff_ne.2 c2
  clear c2
  go_upto_region 14 with (fail)
  clear b2
  have c3 : nd.f0 = 3 := HS.out
  rw [if_pos c3] at h
  have b3 : (nd.f0 == 3) = true := beq_iff_eq.2 c3
  clear c3
  have HMX := Aside0.mk HCk.out.2.1
  go_upto_block 1 with fail
  obtain ⟨gv, hgv⟩ : ∃ gv, gv = W2.heap.size := ⟨_, rfl⟩
  have EV := Aside0.mk (E2.out.below (below_alloc (Below.refl _ _) (.cells #[.bool true, .int .i64 a3, .int .i64 u] 31)))
  have BV := Aside0.mk (blk_new W2 (.cells #[.bool true, .int .i64 a3, .int .i64 u] 31))
  rw [← hgv] at BV ⊢
  have HV : Aside0 (gx ≠ gv ∧ W1.heap.size ≤ gv ∧ gr ≠ gv) := ⟨by have := blk_lt E2.out.x; have := E2.out.b.size; have := hnd.out; omega⟩
  generalize W2.alloc (.cells #[.bool true, .int .i64 a3, .int .i64 u] 31) = V0 at EV BV ⊢
  clear hgv
  go_wp2
  go_loopg [13] nd.f1.length (fun kq v13 w' => ∃ (e q : Int) (j : Int), v13 = .int .i64 j ∧ Aside0 (0 ≤ j ∧ j ≤ (nd.f1.length : Int) ∧ kq + j.toNat = nd.f1.length) ∧ Aside0 (vetchref18_Node.seqF (fun c a u => vetchref18_Node.f k l0_0 l0_1 c a2 a u) (nd.f1.drop j.toNat) e q = some (r1, r2, r3)) ∧ Aside0 (Env18 W1 gx #[.int .i64 nd.f0, .slice Ak nd.f1.length ck, .int .i64 nd.f2, .int .u64 nd.f3.f0, .int .u64 nd.f3.f1, .int .u64 nd.f3.f2, .int .u64 nd.f3.f3] w') ∧ Aside0 (w'.heap[gv]? = some (.cells #[.bool true, .int .i64 e, .int .i64 q] 31 (0, 0))))
  case atStart => exact ⟨a3, u, 0, rfl, ⟨by omega⟩, ⟨h⟩, EV, BV⟩
  case round =>
   clear h EV BV E2
   obtain ⟨e, q, j, rfl, HJ, HA, E, BV⟩ := hrel
   have h := HA.out
   clear HA
   by_cases cj : j < (nd.f1.length : Int)
   ·
    have jp : 0 ≤ j := by have := HJ.out; omega
    rw [h18_drop nd.f1 j jp cj] at h
    rw [vetchref18_Node.seqF] at h
    obtain ⟨⟨t1, t2, t3⟩, ht, h⟩ := Option.bind_eq_some_iff.1 h
    dsimp only at ht h
    have HT := Aside0.mk ht
    have HA := Aside0.mk h
    have HJP := Aside0.mk jp
    have HCJ := Aside0.mk cj
    clear ht h
    have cjb : decide (j < (nd.f1.length : Int)) = true := decide_eq_true cj
    obtain ⟨ad1, he1, kc⟩ := Kd.at_int (Kd.C_below HCk.out E.out.b) j jp cj
    have x1 : wr.cell? ⟨gx, 1, none⟩ = some (.slice (some ad1) nd.f1.length ck) := by rw [← he1]; exact (blk_cell E.out.x 1).trans rfl
    clear he1
    have v0 : wr.cell? ⟨gv, 0, none⟩ = some (.bool true) := (blk_cell BV.out 0).trans rfl
    have v1 : wr.cell? ⟨gv, 1, none⟩ = some (.int .i64 e) := (blk_cell BV.out 1).trans rfl
    have v2 : wr.cell? ⟨gv, 2, none⟩ = some (.int .i64 q) := (blk_cell BV.out 2).trans rfl
    have g0 : wr.cell? ⟨gb, 0, none⟩ = some (.slice A0_0 l0_0.length c0_0) := (blk_cell (blk_below HG.out E.out.b) 0).trans rfl
    have g1 : wr.cell? ⟨gb, 1, none⟩ = some (.slice (some ad) l0_1.length c0_1) := (blk_cell (blk_below HG.out E.out.b) 1).trans rfl
    replace jp := eq_true jp
    replace cj := eq_true cj
    go_upto_region 19 with (fail)
    go_still_tail 11, (by kernel_rfl)
    change wpList _ _ _ _ _ wr.drew
    go_upto_region 20 with (
      go_at_call 12
      refine (IH.out _ _ l0_0 _ _ l0_1 (rd nd.f1 j) a2 (e) (q) t1 t2 t3 _ (Kd.C_below HC0.out E.out.drew.b) hc0_0 (Kd.C_below HC1.out E.out.drew.b) hc0_1 HT.out).mono ?_
      rintro e_ W3 ⟨rfl, hb_⟩
      have E3 := Aside0.mk (E.out.drew.below hb_)
      have BV3 := Aside0.mk (blk_below (blk_drew BV.out) hb_)
      clear hb_ kc x1 v0 v1 v2 g0 g1 cjb jp cj
      have v0 : W3.cell? ⟨gv, 0, none⟩ = some (.bool true) := (blk_cell BV3.out 0).trans rfl
      have y0 : W3.frozen? ⟨gv, 0, none⟩ = false := blk_frozen BV3.out 0
      have v1 : W3.cell? ⟨gv, 1, none⟩ = some (.int .i64 e) := (blk_cell BV3.out 1).trans rfl
      have y1 : W3.frozen? ⟨gv, 1, none⟩ = false := blk_frozen BV3.out 1
      have v2 : W3.cell? ⟨gv, 2, none⟩ = some (.int .i64 q) := (blk_cell BV3.out 2).trans rfl
      have y2 : W3.frozen? ⟨gv, 2, none⟩ = false := blk_frozen BV3.out 2)
    have E4 := Aside0.mk (E3.out.put3 HV.out.2.1 HV.out.1 (.bool t1) (.int .i64 t2) (.int .i64 t3))
    have BV4 := Aside0.mk (h18_blk3 BV3.out (.bool t1) (.int .i64 t2) (.int .i64 t3))
    generalize (((W3.setCell ⟨gv, 0, none⟩ (.bool t1)).setCell ⟨gv, 1, none⟩ (.int .i64 t2)).setCell ⟨gv, 2, none⟩ (.int .i64 t3)) = V3 at E4 BV4 ⊢
    clear v0 v1 v2 y0 y1 y2 E BV E3 BV3
    have h := HA.out
    clear HA
    cases t1 with
    | false =>
      rw [if_neg (by simp)] at h
      simp only [Option.some.injEq, Prod.mk.injEq] at h
      obtain ⟨rfl, rfl, rfl⟩ := h
      have v0 : V3.cell? ⟨gv, 0, none⟩ = some (.bool false) := (blk_cell BV4.out 0).trans rfl
      have v1 : V3.cell? ⟨gv, 1, none⟩ = some (.int .i64 t2) := (blk_cell BV4.out 1).trans rfl
      have v2 : V3.cell? ⟨gv, 2, none⟩ = some (.int .i64 t3) := (blk_cell BV4.out 2).trans rfl
      have rr0 : V3.cell? ⟨gr, 0, none⟩ = some (.bool false) := (blk_cell (blk_below HR.out E4.out.b) 0).trans rfl
      have z0 : V3.frozen? ⟨gr, 0, none⟩ = false := blk_frozen (blk_below HR.out E4.out.b) 0
      have rr1 : V3.cell? ⟨gr, 1, none⟩ = some (.int .i64 0) := (blk_cell (blk_below HR.out E4.out.b) 1).trans rfl
      have z1 : V3.frozen? ⟨gr, 1, none⟩ = false := blk_frozen (blk_below HR.out E4.out.b) 1
      have rr2 : V3.cell? ⟨gr, 2, none⟩ = some (.int .i64 0) := (blk_cell (blk_below HR.out E4.out.b) 2).trans rfl
      have z2 : V3.frozen? ⟨gr, 2, none⟩ = false := blk_frozen (blk_below HR.out E4.out.b) 2
      go_wp2
      refine bodyPost_ret (results_cell_row rfl _ _ gr 31 #[.bool false, .int .i64 t2, .int .i64 t3] (0, 0) _ rfl (h18_blk3 (blk_below HR.out E4.out.b) _ _ _) Try.underlying31 rfl (by kernel_rfl)) rfl ⟨rfl, h18_below3 (below_step HB.out E4.out.b) (by have := HGB.out; have := HGR.out; omega) _ _ _⟩
    | true =>
      by_cases ct : 0 ≤ t2
      · rw [if_pos ⟨rfl, ct⟩] at h
        have ctb : decide (t2 < 0) = false := decide_eq_false (by omega)
        clear ct
        have v0 : V3.cell? ⟨gv, 0, none⟩ = some (.bool true) := (blk_cell BV4.out 0).trans rfl
        have v1 : V3.cell? ⟨gv, 1, none⟩ = some (.int .i64 t2) := (blk_cell BV4.out 1).trans rfl
        have v2 : V3.cell? ⟨gv, 2, none⟩ = some (.int .i64 t3) := (blk_cell BV4.out 2).trans rfl
        have hw := h18_next j nd.f1.length HJP.out HCJ.out HMX.out
        have HWj := Aside0.mk hw
        clear hw
        go_wp2
        go_roundg (gk - 1)
        case measure => have := HJ.out; have := HCJ.out; omega
        case rel => exact ⟨t2, t3, wrap64 (j + 1), rfl, ⟨by rw [HWj.out]; have := HJ.out; have := HCJ.out; omega⟩, ⟨by rw [HWj.out]; exact h⟩, E4, BV4⟩
      · rw [if_neg (fun x => ct x.2)] at h
        simp only [Option.some.injEq, Prod.mk.injEq] at h
        obtain ⟨rfl, rfl, rfl⟩ := h
        have ctb : decide (t2 < 0) = true := decide_eq_true (by omega)
        clear ct
        have v0 : V3.cell? ⟨gv, 0, none⟩ = some (.bool true) := (blk_cell BV4.out 0).trans rfl
        have v1 : V3.cell? ⟨gv, 1, none⟩ = some (.int .i64 t2) := (blk_cell BV4.out 1).trans rfl
        have v2 : V3.cell? ⟨gv, 2, none⟩ = some (.int .i64 t3) := (blk_cell BV4.out 2).trans rfl
        have rr0 : V3.cell? ⟨gr, 0, none⟩ = some (.bool false) := (blk_cell (blk_below HR.out E4.out.b) 0).trans rfl
        have z0 : V3.frozen? ⟨gr, 0, none⟩ = false := blk_frozen (blk_below HR.out E4.out.b) 0
        have rr1 : V3.cell? ⟨gr, 1, none⟩ = some (.int .i64 0) := (blk_cell (blk_below HR.out E4.out.b) 1).trans rfl
        have z1 : V3.frozen? ⟨gr, 1, none⟩ = false := blk_frozen (blk_below HR.out E4.out.b) 1
        have rr2 : V3.cell? ⟨gr, 2, none⟩ = some (.int .i64 0) := (blk_cell (blk_below HR.out E4.out.b) 2).trans rfl
        have z2 : V3.frozen? ⟨gr, 2, none⟩ = false := blk_frozen (blk_below HR.out E4.out.b) 2
        go_wp2
        refine bodyPost_ret (results_cell_row rfl _ _ gr 31 #[.bool true, .int .i64 t2, .int .i64 t3] (0, 0) _ rfl (h18_blk3 (blk_below HR.out E4.out.b) _ _ _) Try.underlying31 rfl (by kernel_rfl)) rfl ⟨rfl, h18_below3 (below_step HB.out E4.out.b) (by have := HGB.out; have := HGR.out; omega) _ _ _⟩
   ·
    have cjb : decide (j < (nd.f1.length : Int)) = false := decide_eq_false cj
    rw [h18_end nd.f1 j cj] at h
    rw [vetchref18_Node.seqF] at h
    clear cj
    simp only [Option.some.injEq, Prod.mk.injEq] at h
    obtain ⟨rfl, rfl, rfl⟩ := h
    have x1 := (blk_cell E.out.x 1).trans rfl
    have v0 : wr.cell? ⟨gv, 0, none⟩ = some (.bool true) := (blk_cell BV.out 0).trans rfl
    have v1 : wr.cell? ⟨gv, 1, none⟩ = some (.int .i64 e) := (blk_cell BV.out 1).trans rfl
    have v2 : wr.cell? ⟨gv, 2, none⟩ = some (.int .i64 q) := (blk_cell BV.out 2).trans rfl
    have rr0 : wr.cell? ⟨gr, 0, none⟩ = some (.bool false) := (blk_cell (blk_below HR.out E.out.b) 0).trans rfl
    have z0 : wr.frozen? ⟨gr, 0, none⟩ = false := blk_frozen (blk_below HR.out E.out.b) 0
    have rr1 : wr.cell? ⟨gr, 1, none⟩ = some (.int .i64 0) := (blk_cell (blk_below HR.out E.out.b) 1).trans rfl
    have z1 : wr.frozen? ⟨gr, 1, none⟩ = false := blk_frozen (blk_below HR.out E.out.b) 1
    have rr2 : wr.cell? ⟨gr, 2, none⟩ = some (.int .i64 0) := (blk_cell (blk_below HR.out E.out.b) 2).trans rfl
    have z2 : wr.frozen? ⟨gr, 2, none⟩ = false := blk_frozen (blk_below HR.out E.out.b) 2
    go_wp2
    refine bodyPost_ret (results_cell_row rfl _ _ gr 31 #[.bool true, .int .i64 e, .int .i64 q] (0, 0) _ rfl (h18_blk3 (blk_below HR.out E.out.b) _ _ _) Try.underlying31 rfl (by kernel_rfl)) rfl ⟨rfl, h18_below3 (below_step HB.out E.out.b) (by have := HGB.out; have := HGR.out; omega) _ _ _⟩
end Go.Proofs.Ythgedejnpgcacaa.V
namespace Go.Proofs.Ythgedejnpgcacaa.V
open Go.RowKit Go.Proofs.YthgedejnpgcacaaW.PrintWords Go.Proofs.YthgedejnpgcacaaW.PrintLast Go.Proofs.YthgedejnpgcacaaW.PrintMore
set_option linter.unusedVariables false
set_option linter.unusedSimpArgs false
set_option maxHeartbeats 4000000 in
set_option maxRecDepth 100000 in
theorem vetchref18_Node.calls_s4 (k : Nat) (ih : ∀ (A0_0 : Option Addr) (c0_0 : Nat) (l0_0 : List S51) (A0_1 : Option Addr) (c0_1 : Nat) (l0_1 : List S56) (a1 : Int) (a2 : ByteArray) (a3 a4 : Int) (r1 : Bool) (r2 r3 : Int) (w : World)
    (hr0_0 : Kd.C k51 w A0_0 l0_0.length l0_0) (hc0_0 : l0_0.length ≤ c0_0) (hr0_1 : Kd.C k56 w A0_1 l0_1.length l0_1) (hc0_1 : l0_1.length ≤ c0_1) (h : vetchref18_Node.f k l0_0 l0_1 a1 a2 a3 a4 = some (r1, r2, r3)), Calls Try.prog 12 #[.agg #[.slice A0_0 l0_0.length c0_0, .slice A0_1 l0_1.length c0_1], .int .i64 a1, .string a2, .int .i64 a3, .int .i64 a4] w fun e w' => e = .returned (.agg #[.bool r1, .int .i64 r2, .int .i64 r3]) ∧ Below w.heap.size w w')
    (A0_0 : Option Addr) (c0_0 : Nat) (l0_0 : List S51) (A0_1 : Option Addr) (c0_1 : Nat) (l0_1 : List S56) (a1 : Int) (a2 : ByteArray) (a3 a4 : Int) (r1 : Bool) (r2 r3 : Int) (w : World)
    (hr0_0 : Kd.C k51 w A0_0 l0_0.length l0_0) (hc0_0 : l0_0.length ≤ c0_0) (hr0_1 : Kd.C k56 w A0_1 l0_1.length l0_1) (hc0_1 : l0_1.length ≤ c0_1) (hs : Aside0 (¬ a4 < 1 ∧ (0 ≤ a1 ∧ a1 < (l0_1.length : Int)) ∧ (rd_T56 l0_1 a1).f0 = 4)) (h : vetchref18_Node.f (k + 1) l0_0 l0_1 a1 a2 a3 a4 = some (r1, r2, r3)) :
    Calls Try.prog 12 #[.agg #[.slice A0_0 l0_0.length c0_0, .slice A0_1 l0_1.length c0_1], .int .i64 a1, .string a2, .int .i64 a3, .int .i64 a4] w fun e w' => e = .returned (.agg #[.bool r1, .int .i64 r2, .int .i64 r3]) ∧ Below w.heap.size w w' := by
  rw [vetchref18_Node.f] at h
  have IH := Aside0.mk ih
  clear ih
  have hu25 := Try.underlying25
  have hu31 := Try.underlying31
  have hu56 := Try.underlying56
  have hu51 := Try.underlying51
  have hu54 := Try.underlying54
  have HB := Aside0.mk (below_alloc (below_alloc (Below.refl w.heap.size w) (.cells #[.slice A0_0 l0_0.length c0_0, .slice A0_1 l0_1.length c0_1] 25)) (.cells #[.bool false, .int .i64 0, .int .i64 0] 31))
  have HG := Aside0.mk (blk_alloc (blk_new w (.cells #[.slice A0_0 l0_0.length c0_0, .slice A0_1 l0_1.length c0_1] 25)) (.cells #[.bool false, .int .i64 0, .int .i64 0] 31))
  have HR := Aside0.mk (blk_new (w.alloc (.cells #[.slice A0_0 l0_0.length c0_0, .slice A0_1 l0_1.length c0_1] 25)) (.cells #[.bool false, .int .i64 0, .int .i64 0] 31))
  have hsz : ((w.alloc (.cells #[.slice A0_0 l0_0.length c0_0, .slice A0_1 l0_1.length c0_1] 25)).alloc (.cells #[.bool false, .int .i64 0, .int .i64 0] 31)).heap.size = w.heap.size + 1 + 1 := by rw [h18_size, h18_size]
  rw [h18_size] at HR
  have HC0 := Aside0.mk (Kd.C_below hr0_0 HB.out)
  have HC1 := Aside0.mk (Kd.C_below hr0_1 HB.out)
  have HW := Aside0.mk hsz
  clear hr0_0 hr0_1 hsz
  rw [if_neg hs.out.1, if_pos hs.out.2.1] at h
  have c4b : decide (a4 < 1) = false := decide_eq_false hs.out.1
  have H := Aside0.mk h
  clear h
  go_enter Try.func12, Try.ntmps12
  go_upto_region 1 with (fail)
  generalize ((w.alloc (.cells #[.slice A0_0 l0_0.length c0_0, .slice A0_1 l0_1.length c0_1] 25)).alloc (.cells #[.bool false, .int .i64 0, .int .i64 0] 31)) = W1 at HB HG HR HC0 HC1 HW ⊢
  obtain ⟨gb, hgb⟩ : ∃ gb, gb = w.heap.size := ⟨_, rfl⟩
  obtain ⟨gr, hgr⟩ : ∃ gr, gr = gb + 1 := ⟨_, rfl⟩
  rw [← hgb] at HW HG HR ⊢
  rw [← hgr] at HR ⊢
  have HGB := Aside0.mk hgb
  have HGR := Aside0.mk hgr
  clear hgb hgr
  go_upto_region 4 with (fail)
  clear c4b
  have g1 : W1.cell? ⟨gb, 1, none⟩ = some (.slice A0_1 l0_1.length c0_1) := (blk_cell HG.out 1).trans rfl
  have p2 := hs.out.2.1.1
  have p3 := hs.out.2.1.2
  obtain ⟨ad, Ak, ck, e, k0, k1, k2, k3, k4, k5, k6, hlk, hCk⟩ := at_T56 HC1.out a1 p2 p3
  cases e
  have HCk := Aside0.mk hCk
  have HLk := Aside0.mk hlk
  clear hCk hlk
  replace p2 := eq_true p2
  replace p3 := eq_true p3
  go_upto_region 5 with (fail)
  have HS := Aside0.mk hs.out.2.2
  clear hs
  generalize rd_T56 l0_1 a1 = nd at *
  obtain ⟨gx, hgx⟩ : ∃ gx, gx = W1.heap.size := ⟨_, rfl⟩
  have E2 : Aside0 (Env18 W1 gx #[.int .i64 nd.f0, .slice Ak nd.f1.length ck, .int .i64 nd.f2, .int .u64 nd.f3.f0, .int .u64 nd.f3.f1, .int .u64 nd.f3.f2, .int .u64 nd.f3.f3] (W1.alloc (.cells #[.int .i64 nd.f0, .slice Ak nd.f1.length ck, .int .i64 nd.f2, .int .u64 nd.f3.f0, .int .u64 nd.f3.f1, .int .u64 nd.f3.f2, .int .u64 nd.f3.f3] 56))) := ⟨by rw [hgx]; exact blk_new W1 (.cells #[.int .i64 nd.f0, .slice Ak nd.f1.length ck, .int .i64 nd.f2, .int .u64 nd.f3.f0, .int .u64 nd.f3.f1, .int .u64 nd.f3.f2, .int .u64 nd.f3.f3] 56), below_alloc (Below.refl _ _) _⟩
  have HGX := Aside0.mk hgx
  rw [← hgx]
  generalize W1.alloc (.cells #[.int .i64 nd.f0, .slice Ak nd.f1.length ck, .int .i64 nd.f2, .int .u64 nd.f3.f0, .int .u64 nd.f3.f1, .int .u64 nd.f3.f2, .int .u64 nd.f3.f3] 56) = W2 at E2 ⊢
  clear k0 k1 k2 k3 k4 k5 k6 g1 hgx p2 p3
  have h := H.out
  clear H
  have hnd : Aside0 (gb < W1.heap.size ∧ gr < W1.heap.size) := ⟨by have := HW.out; have := HGR.out; omega⟩
  generalize wrap64 (a4 - 1) = u at *
  have x0 : W2.cell? ⟨gx, 0, none⟩ = some (.int .i64 nd.f0) := (blk_cell E2.out.x 0).trans rfl
  go_upto_region 6 with (fail)
  clear x0
  have c0 : ¬ nd.f0 = 0 := by have := HS.out; omega
  rw [if_neg c0] at h
  have b0 : (nd.f0 == 0) = false := beq_eq_false_iff_ne.2 c0
  clear c0
  go_upto_region 8 with (fail)
  clear b0
  have c1 : ¬ nd.f0 = 1 := by have := HS.out; omega
  rw [if_neg c1] at h
  have b1 : (nd.f0 == 1) = false := beq_eq_false_iff_ne.2 c1
  clear c1
  go_upto_region 12 with (fail)
  clear b1
  have c2 : ¬ nd.f0 = 2 := by have := HS.out; omega
  rw [if_neg c2] at h
  have b2 : (nd.f0 == 2) = false := beq_eq_false_iff_ne.2 c2
  clear c2
  go_upto_region 14 with (fail)
  clear b2
  have c3 : ¬ nd.f0 = 3 := by have := HS.out; omega
  rw [if_neg c3] at h
  have b3 : (nd.f0 == 3) = false := beq_eq_false_iff_ne.2 c3
  clear c3
  go_upto_region 23 with (fail)
  clear b3
  have c4 : nd.f0 = 4 := HS.out
  rw [if_pos c4] at h
  have b4 : (nd.f0 == 4) = true := beq_iff_eq.2 c4
  clear c4
  have HMX := Aside0.mk HCk.out.2.1
  go_upto_block 3 with fail
  obtain ⟨gv, hgv⟩ : ∃ gv, gv = W2.heap.size := ⟨_, rfl⟩
  have EV := Aside0.mk (E2.out.below (below_alloc (Below.refl _ _) (.cells #[.bool true, .int .i64 (-1), .int .i64 u] 31)))
  have BV := Aside0.mk (blk_new W2 (.cells #[.bool true, .int .i64 (-1), .int .i64 u] 31))
  rw [← hgv] at BV ⊢
  have HV : Aside0 (gx ≠ gv ∧ W1.heap.size ≤ gv ∧ gr ≠ gv) := ⟨by have := blk_lt E2.out.x; have := E2.out.b.size; have := hnd.out; omega⟩
  generalize W2.alloc (.cells #[.bool true, .int .i64 (-1), .int .i64 u] 31) = V0 at EV BV ⊢
  clear hgv
  go_wp2
  go_loopg [15] nd.f1.length (fun kq v15 w' => ∃ (e q : Int) (j : Int), v15 = .int .i64 j ∧ Aside0 (0 ≤ j ∧ j ≤ (nd.f1.length : Int) ∧ kq + j.toNat = nd.f1.length) ∧ Aside0 (vetchref18_Node.choF (fun c u => vetchref18_Node.f k l0_0 l0_1 c a2 a3 u) (nd.f1.drop j.toNat) e q = some (r1, r2, r3)) ∧ Aside0 (Env18 W1 gx #[.int .i64 nd.f0, .slice Ak nd.f1.length ck, .int .i64 nd.f2, .int .u64 nd.f3.f0, .int .u64 nd.f3.f1, .int .u64 nd.f3.f2, .int .u64 nd.f3.f3] w') ∧ Aside0 (w'.heap[gv]? = some (.cells #[.bool true, .int .i64 e, .int .i64 q] 31 (0, 0))))
  case atStart => exact ⟨(-1), u, 0, rfl, ⟨by omega⟩, ⟨h⟩, EV, BV⟩
  case round =>
   clear h EV BV E2
   obtain ⟨e, q, j, rfl, HJ, HA, E, BV⟩ := hrel
   have h := HA.out
   clear HA
   by_cases cj : j < (nd.f1.length : Int)
   ·
    have jp : 0 ≤ j := by have := HJ.out; omega
    rw [h18_drop nd.f1 j jp cj] at h
    rw [vetchref18_Node.choF] at h
    obtain ⟨⟨t1, t2, t3⟩, ht, h⟩ := Option.bind_eq_some_iff.1 h
    dsimp only at ht h
    have HT := Aside0.mk ht
    have HA := Aside0.mk h
    have HJP := Aside0.mk jp
    have HCJ := Aside0.mk cj
    clear ht h
    have cjb : decide (j < (nd.f1.length : Int)) = true := decide_eq_true cj
    obtain ⟨ad1, he1, kc⟩ := Kd.at_int (Kd.C_below HCk.out E.out.b) j jp cj
    have x1 : wr.cell? ⟨gx, 1, none⟩ = some (.slice (some ad1) nd.f1.length ck) := by rw [← he1]; exact (blk_cell E.out.x 1).trans rfl
    clear he1
    have v0 : wr.cell? ⟨gv, 0, none⟩ = some (.bool true) := (blk_cell BV.out 0).trans rfl
    have v1 : wr.cell? ⟨gv, 1, none⟩ = some (.int .i64 e) := (blk_cell BV.out 1).trans rfl
    have v2 : wr.cell? ⟨gv, 2, none⟩ = some (.int .i64 q) := (blk_cell BV.out 2).trans rfl
    have g0 : wr.cell? ⟨gb, 0, none⟩ = some (.slice A0_0 l0_0.length c0_0) := (blk_cell (blk_below HG.out E.out.b) 0).trans rfl
    have g1 : wr.cell? ⟨gb, 1, none⟩ = some (.slice (some ad) l0_1.length c0_1) := (blk_cell (blk_below HG.out E.out.b) 1).trans rfl
    replace jp := eq_true jp
    replace cj := eq_true cj
    go_upto_region 28 with (fail)
    go_still_tail 10, (by kernel_rfl)
    change wpList _ _ _ _ _ wr.drew
    go_upto_region 29 with (
      go_at_call 12
      refine (IH.out _ _ l0_0 _ _ l0_1 (rd nd.f1 j) a2 (a3) (q) t1 t2 t3 _ (Kd.C_below HC0.out E.out.drew.b) hc0_0 (Kd.C_below HC1.out E.out.drew.b) hc0_1 HT.out).mono ?_
      rintro e_ W3 ⟨rfl, hb_⟩
      have E3 := Aside0.mk (E.out.drew.below hb_)
      have BV3 := Aside0.mk (blk_below (blk_drew BV.out) hb_)
      clear hb_ kc x1 v0 v1 v2 g0 g1 cjb jp cj
      have v0 : W3.cell? ⟨gv, 0, none⟩ = some (.bool true) := (blk_cell BV3.out 0).trans rfl
      have y0 : W3.frozen? ⟨gv, 0, none⟩ = false := blk_frozen BV3.out 0
      have v1 : W3.cell? ⟨gv, 1, none⟩ = some (.int .i64 e) := (blk_cell BV3.out 1).trans rfl
      have y1 : W3.frozen? ⟨gv, 1, none⟩ = false := blk_frozen BV3.out 1
      have v2 : W3.cell? ⟨gv, 2, none⟩ = some (.int .i64 q) := (blk_cell BV3.out 2).trans rfl
      have y2 : W3.frozen? ⟨gv, 2, none⟩ = false := blk_frozen BV3.out 2)
    have E4 := Aside0.mk (E3.out.put3 HV.out.2.1 HV.out.1 (.bool t1) (.int .i64 t2) (.int .i64 t3))
    have BV4 := Aside0.mk (h18_blk3 BV3.out (.bool t1) (.int .i64 t2) (.int .i64 t3))
    generalize (((W3.setCell ⟨gv, 0, none⟩ (.bool t1)).setCell ⟨gv, 1, none⟩ (.int .i64 t2)).setCell ⟨gv, 2, none⟩ (.int .i64 t3)) = V3 at E4 BV4 ⊢
    clear v0 v1 v2 y0 y1 y2 E BV E3 BV3
    have h := HA.out
    clear HA
    cases t1 with
    | false =>
      rw [if_neg (by simp)] at h
      simp only [Option.some.injEq, Prod.mk.injEq] at h
      obtain ⟨rfl, rfl, rfl⟩ := h
      have v0 : V3.cell? ⟨gv, 0, none⟩ = some (.bool false) := (blk_cell BV4.out 0).trans rfl
      have v1 : V3.cell? ⟨gv, 1, none⟩ = some (.int .i64 t2) := (blk_cell BV4.out 1).trans rfl
      have v2 : V3.cell? ⟨gv, 2, none⟩ = some (.int .i64 t3) := (blk_cell BV4.out 2).trans rfl
      have rr0 : V3.cell? ⟨gr, 0, none⟩ = some (.bool false) := (blk_cell (blk_below HR.out E4.out.b) 0).trans rfl
      have z0 : V3.frozen? ⟨gr, 0, none⟩ = false := blk_frozen (blk_below HR.out E4.out.b) 0
      have rr1 : V3.cell? ⟨gr, 1, none⟩ = some (.int .i64 0) := (blk_cell (blk_below HR.out E4.out.b) 1).trans rfl
      have z1 : V3.frozen? ⟨gr, 1, none⟩ = false := blk_frozen (blk_below HR.out E4.out.b) 1
      have rr2 : V3.cell? ⟨gr, 2, none⟩ = some (.int .i64 0) := (blk_cell (blk_below HR.out E4.out.b) 2).trans rfl
      have z2 : V3.frozen? ⟨gr, 2, none⟩ = false := blk_frozen (blk_below HR.out E4.out.b) 2
      go_wp2
      refine bodyPost_ret (results_cell_row rfl _ _ gr 31 #[.bool false, .int .i64 t2, .int .i64 t3] (0, 0) _ rfl (h18_blk3 (blk_below HR.out E4.out.b) _ _ _) Try.underlying31 rfl (by kernel_rfl)) rfl ⟨rfl, h18_below3 (below_step HB.out E4.out.b) (by have := HGB.out; have := HGR.out; omega) _ _ _⟩
    | true =>
      by_cases ct : t2 < 0
      · rw [if_pos ⟨rfl, ct⟩] at h
        have ctb : decide (t2 ≥ 0) = false := decide_eq_false (by omega)
        clear ct
        have v0 : V3.cell? ⟨gv, 0, none⟩ = some (.bool true) := (blk_cell BV4.out 0).trans rfl
        have v1 : V3.cell? ⟨gv, 1, none⟩ = some (.int .i64 t2) := (blk_cell BV4.out 1).trans rfl
        have v2 : V3.cell? ⟨gv, 2, none⟩ = some (.int .i64 t3) := (blk_cell BV4.out 2).trans rfl
        have hw := h18_next j nd.f1.length HJP.out HCJ.out HMX.out
        have HWj := Aside0.mk hw
        clear hw
        go_wp2
        go_roundg (gk - 1)
        case measure => have := HJ.out; have := HCJ.out; omega
        case rel => exact ⟨t2, t3, wrap64 (j + 1), rfl, ⟨by rw [HWj.out]; have := HJ.out; have := HCJ.out; omega⟩, ⟨by rw [HWj.out]; exact h⟩, E4, BV4⟩
      · rw [if_neg (fun x => ct x.2)] at h
        simp only [Option.some.injEq, Prod.mk.injEq] at h
        obtain ⟨rfl, rfl, rfl⟩ := h
        have ctb : decide (t2 ≥ 0) = true := decide_eq_true (by omega)
        clear ct
        have v0 : V3.cell? ⟨gv, 0, none⟩ = some (.bool true) := (blk_cell BV4.out 0).trans rfl
        have v1 : V3.cell? ⟨gv, 1, none⟩ = some (.int .i64 t2) := (blk_cell BV4.out 1).trans rfl
        have v2 : V3.cell? ⟨gv, 2, none⟩ = some (.int .i64 t3) := (blk_cell BV4.out 2).trans rfl
        have rr0 : V3.cell? ⟨gr, 0, none⟩ = some (.bool false) := (blk_cell (blk_below HR.out E4.out.b) 0).trans rfl
        have z0 : V3.frozen? ⟨gr, 0, none⟩ = false := blk_frozen (blk_below HR.out E4.out.b) 0
        have rr1 : V3.cell? ⟨gr, 1, none⟩ = some (.int .i64 0) := (blk_cell (blk_below HR.out E4.out.b) 1).trans rfl
        have z1 : V3.frozen? ⟨gr, 1, none⟩ = false := blk_frozen (blk_below HR.out E4.out.b) 1
        have rr2 : V3.cell? ⟨gr, 2, none⟩ = some (.int .i64 0) := (blk_cell (blk_below HR.out E4.out.b) 2).trans rfl
        have z2 : V3.frozen? ⟨gr, 2, none⟩ = false := blk_frozen (blk_below HR.out E4.out.b) 2
        go_wp2
        refine bodyPost_ret (results_cell_row rfl _ _ gr 31 #[.bool true, .int .i64 t2, .int .i64 t3] (0, 0) _ rfl (h18_blk3 (blk_below HR.out E4.out.b) _ _ _) Try.underlying31 rfl (by kernel_rfl)) rfl ⟨rfl, h18_below3 (below_step HB.out E4.out.b) (by have := HGB.out; have := HGR.out; omega) _ _ _⟩
   ·
    have cjb : decide (j < (nd.f1.length : Int)) = false := decide_eq_false cj
    rw [h18_end nd.f1 j cj] at h
    rw [vetchref18_Node.choF] at h
    clear cj
    simp only [Option.some.injEq, Prod.mk.injEq] at h
    obtain ⟨rfl, rfl, rfl⟩ := h
    have x1 := (blk_cell E.out.x 1).trans rfl
    have v0 : wr.cell? ⟨gv, 0, none⟩ = some (.bool true) := (blk_cell BV.out 0).trans rfl
    have v1 : wr.cell? ⟨gv, 1, none⟩ = some (.int .i64 e) := (blk_cell BV.out 1).trans rfl
    have v2 : wr.cell? ⟨gv, 2, none⟩ = some (.int .i64 q) := (blk_cell BV.out 2).trans rfl
    have rr0 : wr.cell? ⟨gr, 0, none⟩ = some (.bool false) := (blk_cell (blk_below HR.out E.out.b) 0).trans rfl
    have z0 : wr.frozen? ⟨gr, 0, none⟩ = false := blk_frozen (blk_below HR.out E.out.b) 0
    have rr1 : wr.cell? ⟨gr, 1, none⟩ = some (.int .i64 0) := (blk_cell (blk_below HR.out E.out.b) 1).trans rfl
    have z1 : wr.frozen? ⟨gr, 1, none⟩ = false := blk_frozen (blk_below HR.out E.out.b) 1
    have rr2 : wr.cell? ⟨gr, 2, none⟩ = some (.int .i64 0) := (blk_cell (blk_below HR.out E.out.b) 2).trans rfl
    have z2 : wr.frozen? ⟨gr, 2, none⟩ = false := blk_frozen (blk_below HR.out E.out.b) 2
    go_wp2
    refine bodyPost_ret (results_cell_row rfl _ _ gr 31 #[.bool true, .int .i64 e, .int .i64 q] (0, 0) _ rfl (h18_blk3 (blk_below HR.out E.out.b) _ _ _) Try.underlying31 rfl (by kernel_rfl)) rfl ⟨rfl, h18_below3 (below_step HB.out E.out.b) (by have := HGB.out; have := HGR.out; omega) _ _ _⟩
end Go.Proofs.Ythgedejnpgcacaa.V
namespace Go.Proofs.Ythgedejnpgcacaa.V
open Go.RowKit Go.Proofs.YthgedejnpgcacaaW.PrintWords Go.Proofs.YthgedejnpgcacaaW.PrintLast Go.Proofs.YthgedejnpgcacaaW.PrintMore
set_option linter.unusedVariables false
set_option linter.unusedSimpArgs false
set_option maxHeartbeats 4000000 in
set_option maxRecDepth 100000 in
theorem vetchref18_Node.calls_s5 (k : Nat) (ih : ∀ (A0_0 : Option Addr) (c0_0 : Nat) (l0_0 : List S51) (A0_1 : Option Addr) (c0_1 : Nat) (l0_1 : List S56) (a1 : Int) (a2 : ByteArray) (a3 a4 : Int) (r1 : Bool) (r2 r3 : Int) (w : World)
    (hr0_0 : Kd.C k51 w A0_0 l0_0.length l0_0) (hc0_0 : l0_0.length ≤ c0_0) (hr0_1 : Kd.C k56 w A0_1 l0_1.length l0_1) (hc0_1 : l0_1.length ≤ c0_1) (h : vetchref18_Node.f k l0_0 l0_1 a1 a2 a3 a4 = some (r1, r2, r3)), Calls Try.prog 12 #[.agg #[.slice A0_0 l0_0.length c0_0, .slice A0_1 l0_1.length c0_1], .int .i64 a1, .string a2, .int .i64 a3, .int .i64 a4] w fun e w' => e = .returned (.agg #[.bool r1, .int .i64 r2, .int .i64 r3]) ∧ Below w.heap.size w w')
    (A0_0 : Option Addr) (c0_0 : Nat) (l0_0 : List S51) (A0_1 : Option Addr) (c0_1 : Nat) (l0_1 : List S56) (a1 : Int) (a2 : ByteArray) (a3 a4 : Int) (r1 : Bool) (r2 r3 : Int) (w : World)
    (hr0_0 : Kd.C k51 w A0_0 l0_0.length l0_0) (hc0_0 : l0_0.length ≤ c0_0) (hr0_1 : Kd.C k56 w A0_1 l0_1.length l0_1) (hc0_1 : l0_1.length ≤ c0_1) (hs : Aside0 (¬ a4 < 1 ∧ (0 ≤ a1 ∧ a1 < (l0_1.length : Int)) ∧ (rd_T56 l0_1 a1).f0 ≠ 0 ∧ (rd_T56 l0_1 a1).f0 ≠ 1 ∧ (rd_T56 l0_1 a1).f0 ≠ 2 ∧ (rd_T56 l0_1 a1).f0 ≠ 3 ∧ (rd_T56 l0_1 a1).f0 ≠ 4 ∧ (rd_T56 l0_1 a1).f0 ≠ 7 ∧ (rd_T56 l0_1 a1).f0 ≠ 8 ∧ (rd_T56 l0_1 a1).f0 ≠ 9)) (h : vetchref18_Node.f (k + 1) l0_0 l0_1 a1 a2 a3 a4 = some (r1, r2, r3)) :
    Calls Try.prog 12 #[.agg #[.slice A0_0 l0_0.length c0_0, .slice A0_1 l0_1.length c0_1], .int .i64 a1, .string a2, .int .i64 a3, .int .i64 a4] w fun e w' => e = .returned (.agg #[.bool r1, .int .i64 r2, .int .i64 r3]) ∧ Below w.heap.size w w' := by
  rw [vetchref18_Node.f] at h
  have IH := Aside0.mk ih
  clear ih
  have hu25 := Try.underlying25
  have hu31 := Try.underlying31
  have hu56 := Try.underlying56
  have hu51 := Try.underlying51
  have hu54 := Try.underlying54
  have HB := Aside0.mk (below_alloc (below_alloc (Below.refl w.heap.size w) (.cells #[.slice A0_0 l0_0.length c0_0, .slice A0_1 l0_1.length c0_1] 25)) (.cells #[.bool false, .int .i64 0, .int .i64 0] 31))
  have HG := Aside0.mk (blk_alloc (blk_new w (.cells #[.slice A0_0 l0_0.length c0_0, .slice A0_1 l0_1.length c0_1] 25)) (.cells #[.bool false, .int .i64 0, .int .i64 0] 31))
  have HR := Aside0.mk (blk_new (w.alloc (.cells #[.slice A0_0 l0_0.length c0_0, .slice A0_1 l0_1.length c0_1] 25)) (.cells #[.bool false, .int .i64 0, .int .i64 0] 31))
  have hsz : ((w.alloc (.cells #[.slice A0_0 l0_0.length c0_0, .slice A0_1 l0_1.length c0_1] 25)).alloc (.cells #[.bool false, .int .i64 0, .int .i64 0] 31)).heap.size = w.heap.size + 1 + 1 := by rw [h18_size, h18_size]
  rw [h18_size] at HR
  have HC0 := Aside0.mk (Kd.C_below hr0_0 HB.out)
  have HC1 := Aside0.mk (Kd.C_below hr0_1 HB.out)
  have HW := Aside0.mk hsz
  clear hr0_0 hr0_1 hsz
  rw [if_neg hs.out.1, if_pos hs.out.2.1] at h
  have c4b : decide (a4 < 1) = false := decide_eq_false hs.out.1
  have H := Aside0.mk h
  clear h
  go_enter Try.func12, Try.ntmps12
  go_upto_region 1 with (fail)
  generalize ((w.alloc (.cells #[.slice A0_0 l0_0.length c0_0, .slice A0_1 l0_1.length c0_1] 25)).alloc (.cells #[.bool false, .int .i64 0, .int .i64 0] 31)) = W1 at HB HG HR HC0 HC1 HW ⊢
  obtain ⟨gb, hgb⟩ : ∃ gb, gb = w.heap.size := ⟨_, rfl⟩
  obtain ⟨gr, hgr⟩ : ∃ gr, gr = gb + 1 := ⟨_, rfl⟩
  rw [← hgb] at HW HG HR ⊢
  rw [← hgr] at HR ⊢
  have HGB := Aside0.mk hgb
  have HGR := Aside0.mk hgr
  clear hgb hgr
  go_upto_region 4 with (fail)
  clear c4b
  have g1 : W1.cell? ⟨gb, 1, none⟩ = some (.slice A0_1 l0_1.length c0_1) := (blk_cell HG.out 1).trans rfl
  have p2 := hs.out.2.1.1
  have p3 := hs.out.2.1.2
  obtain ⟨ad, Ak, ck, e, k0, k1, k2, k3, k4, k5, k6, hlk, hCk⟩ := at_T56 HC1.out a1 p2 p3
  cases e
  have HCk := Aside0.mk hCk
  have HLk := Aside0.mk hlk
  clear hCk hlk
  replace p2 := eq_true p2
  replace p3 := eq_true p3
  go_upto_region 5 with (fail)
  have HS := Aside0.mk hs.out.2.2
  clear hs
  generalize rd_T56 l0_1 a1 = nd at *
  obtain ⟨gx, hgx⟩ : ∃ gx, gx = W1.heap.size := ⟨_, rfl⟩
  have E2 : Aside0 (Env18 W1 gx #[.int .i64 nd.f0, .slice Ak nd.f1.length ck, .int .i64 nd.f2, .int .u64 nd.f3.f0, .int .u64 nd.f3.f1, .int .u64 nd.f3.f2, .int .u64 nd.f3.f3] (W1.alloc (.cells #[.int .i64 nd.f0, .slice Ak nd.f1.length ck, .int .i64 nd.f2, .int .u64 nd.f3.f0, .int .u64 nd.f3.f1, .int .u64 nd.f3.f2, .int .u64 nd.f3.f3] 56))) := ⟨by rw [hgx]; exact blk_new W1 (.cells #[.int .i64 nd.f0, .slice Ak nd.f1.length ck, .int .i64 nd.f2, .int .u64 nd.f3.f0, .int .u64 nd.f3.f1, .int .u64 nd.f3.f2, .int .u64 nd.f3.f3] 56), below_alloc (Below.refl _ _) _⟩
  have HGX := Aside0.mk hgx
  rw [← hgx]
  generalize W1.alloc (.cells #[.int .i64 nd.f0, .slice Ak nd.f1.length ck, .int .i64 nd.f2, .int .u64 nd.f3.f0, .int .u64 nd.f3.f1, .int .u64 nd.f3.f2, .int .u64 nd.f3.f3] 56) = W2 at E2 ⊢
  clear k0 k1 k2 k3 k4 k5 k6 g1 hgx p2 p3
  have h := H.out
  clear H
  have hnd : Aside0 (gb < W1.heap.size ∧ gr < W1.heap.size) := ⟨by have := HW.out; have := HGR.out; omega⟩
  generalize wrap64 (a4 - 1) = u at *
  have x0 : W2.cell? ⟨gx, 0, none⟩ = some (.int .i64 nd.f0) := (blk_cell E2.out.x 0).trans rfl
  go_upto_region 6 with (fail)
  clear x0
  have c0 : ¬ nd.f0 = 0 := by have := HS.out; omega
  rw [if_neg c0] at h
  have b0 : (nd.f0 == 0) = false := beq_eq_false_iff_ne.2 c0
  clear c0
  go_upto_region 8 with (fail)
  clear b0
  have c1 : ¬ nd.f0 = 1 := by have := HS.out; omega
  rw [if_neg c1] at h
  have b1 : (nd.f0 == 1) = false := beq_eq_false_iff_ne.2 c1
  clear c1
  go_upto_region 12 with (fail)
  clear b1
  have c2 : ¬ nd.f0 = 2 := by have := HS.out; omega
  rw [if_neg c2] at h
  have b2 : (nd.f0 == 2) = false := beq_eq_false_iff_ne.2 c2
  clear c2
  go_upto_region 14 with (fail)
  clear b2
  have c3 : ¬ nd.f0 = 3 := by have := HS.out; omega
  rw [if_neg c3] at h
  have b3 : (nd.f0 == 3) = false := beq_eq_false_iff_ne.2 c3
  clear c3
  go_upto_region 23 with (fail)
  clear b3
  have c4 : ¬ nd.f0 = 4 := by have := HS.out; omega
  rw [if_neg c4] at h
  have b4 : (nd.f0 == 4) = false := beq_eq_false_iff_ne.2 c4
  clear c4
  by_cases ck0 : nd.f1 = []
  · rw [if_pos ck0] at h
    exact absurd h (by simp)
  rw [if_neg ck0] at h
  have q9 := h18_mem nd.f1 ck0
  have HQ9 := Aside0.mk q9
  clear ck0
  obtain ⟨⟨t1, t2, t3⟩, ht, h⟩ := Option.bind_eq_some_iff.1 h
  dsimp only at ht h
  have HT := Aside0.mk ht
  have HA := Aside0.mk h
  clear ht h
  obtain ⟨ad1, he1, kc⟩ := Kd.at_int HCk.out 0 (Int.le_refl 0) HQ9.out
  cases he1
  replace kc : W1.cell? ad1 = some (.int .i64 (rd nd.f1 0)) := by simpa [Addr.add] using kc
  have HKC := Aside0.mk kc
  clear kc q9
  have kc := (E2.out.b.cell (World.block_lt_of_cell? W1 _ HKC.out)).trans HKC.out
  have x1 : W2.cell? ⟨gx, 1, none⟩ = some (.slice (some ad1) nd.f1.length ck) := (blk_cell E2.out.x 1).trans rfl
  have g0 : W2.cell? ⟨gb, 0, none⟩ = some (.slice A0_0 l0_0.length c0_0) := (blk_cell (blk_below HG.out E2.out.b) 0).trans rfl
  have g1 : W2.cell? ⟨gb, 1, none⟩ = some (.slice (some ad) l0_1.length c0_1) := (blk_cell (blk_below HG.out E2.out.b) 1).trans rfl
  have q9i := eq_true HQ9.out
  have q9n : (0 < nd.f1.length) = True := eq_true (by have := HQ9.out; omega)
  go_upto_region 32 with (fail)
  clear b4
  have EW := Aside0.mk E2.out.drew
  clear kc x1 g0 g1
  refine start_ (n := 11) (S := fun w' => w'.cell? ⟨gb, 0, none⟩ = some (.slice A0_0 l0_0.length c0_0) ∧ w'.cell? ⟨gb, 1, none⟩ = some (.slice (some ad) l0_1.length c0_1) ∧ w'.cell? ⟨gx, 1, none⟩ = some (.slice (some ad1) nd.f1.length ck) ∧ w'.cell? ad1 = some (.int .i64 (rd nd.f1 0))) (ds := []) #[false, false, false, false, false, false, false, false, false, false, false] (by kernel_rfl) rfl rfl ⟨(blk_cell (blk_below HG.out EW.out.b) 0).trans rfl, (blk_cell (blk_below HG.out EW.out.b) 1).trans rfl, (blk_cell EW.out.x 1).trans rfl, (EW.out.b.cell (World.block_lt_of_cell? W1 _ HKC.out)).trans HKC.out⟩ (fun hHeld => ?_); refine with_tabW h18_tab32 h18_bits32 (fun HT_ HW_ => ?_)
  generalize W2.drew = W3 at EW hHeld ⊢
  refine pure_ (i := 1) (N := some 136) (v := ?_) (a' := ?_) #[false, true, false, false, false, false, false, false, false, false, false] rfl rfl (any_of HT_.out (by kernel_rfl)) (fun _ _ _ h => h) (Or.inl ⟨by rfl, ?_⟩) ?_ ?_
  rotate_left
  ·
   intro w'
   go_simp
   with_reducible rfl
  rotate_left
  ·
   simp only [Act.put, List.setIfInBounds_toArray, List.set_cons_zero, List.set_cons_succ, i64_w, i32_w]
   rfl
  refine pure_ (i := 5) (N := some 140) (v := ?_) (a' := ?_) #[false, true, false, false, false, true, false, false, false, false, false] rfl rfl (any_of HT_.out (by kernel_rfl)) (fun _ _ _ h => h) (Or.inl ⟨by rfl, ?_⟩) ?_ ?_
  rotate_left
  ·
   intro w'
   go_simp
   with_reducible rfl
  rotate_left
  ·
   simp only [Act.put, List.setIfInBounds_toArray, List.set_cons_zero, List.set_cons_succ, i64_w, i32_w]
   rfl
  refine pure_ (i := 6) (N := some 141) (v := ?_) (a' := ?_) #[false, true, false, false, false, true, true, false, false, false, false] rfl rfl (any_of HT_.out (by kernel_rfl)) (fun _ _ _ h => h) (Or.inl ⟨by rfl, ?_⟩) ?_ ?_
  rotate_left
  ·
   intro w'
   go_simp
   with_reducible rfl
  rotate_left
  ·
   simp only [Act.put, List.setIfInBounds_toArray, List.set_cons_zero, List.set_cons_succ, i64_w, i32_w]
   rfl
  refine pure_ (i := 7) (N := some 142) (v := ?_) (a' := ?_) #[false, true, false, false, false, true, true, true, false, false, false] rfl rfl (any_of HT_.out (by kernel_rfl)) (fun _ _ _ h => h) (Or.inl ⟨by rfl, ?_⟩) ?_ ?_
  rotate_left
  ·
   intro w'
   go_simp
   with_reducible rfl
  rotate_left
  ·
   simp only [Act.put, List.setIfInBounds_toArray, List.set_cons_zero, List.set_cons_succ, i64_w, i32_w]
   rfl
  refine take_ (i := 0) (N := some 135) (v := ?_) (a' := ?_) #[true, true, false, false, false, true, true, true, false, false, false] rfl rfl (take_ofW HT_.out HW_.out (by kernel_rfl)) (fun _ _ _ h => h) (Or.inl ⟨by rfl, ?_⟩) hHeld ?_ ?_
  rotate_left
  ·
   rintro w' ⟨s0, s1, s2, s3⟩
   go_simp
   with_reducible rfl
  rotate_left
  ·
   simp only [Act.put, List.setIfInBounds_toArray, List.set_cons_zero, List.set_cons_succ, i64_w, i32_w]
   rfl
  refine take_ (i := 2) (N := some 137) (v := ?_) (a' := ?_) #[true, true, true, false, false, true, true, true, false, false, false] rfl rfl (take_ofW HT_.out HW_.out (by kernel_rfl)) (fun _ _ _ h => h) (Or.inl ⟨by rfl, ?_⟩) hHeld ?_ ?_
  rotate_left
  ·
   rintro w' ⟨s0, s1, s2, s3⟩
   go_simp
   with_reducible rfl
  rotate_left
  ·
   simp only [Act.put, List.setIfInBounds_toArray, List.set_cons_zero, List.set_cons_succ, i64_w, i32_w]
   rfl
  refine pure_ (i := 3) (N := some 138) (v := ?_) (a' := ?_) #[true, true, true, true, false, true, true, true, false, false, false] rfl rfl (any_of HT_.out (by kernel_rfl)) (fun _ _ _ h => h) (Or.inl ⟨by rfl, ?_⟩) ?_ ?_
  rotate_left
  ·
   intro w'
   go_simp
   with_reducible rfl
  rotate_left
  ·
   simp only [Act.put, List.setIfInBounds_toArray, List.set_cons_zero, List.set_cons_succ, i64_w, i32_w]
   rfl
  refine take_ (i := 4) (N := some 139) (v := ?_) (a' := ?_) #[true, true, true, true, true, true, true, true, false, false, false] rfl rfl (take_ofW HT_.out HW_.out (by kernel_rfl)) (fun _ _ _ h => h) (Or.inl ⟨by rfl, ?_⟩) hHeld ?_ ?_
  rotate_left
  ·
   rintro w' ⟨s0, s1, s2, s3⟩
   go_simp
   with_reducible rfl
  rotate_left
  ·
   simp only [Act.put, List.setIfInBounds_toArray, List.set_cons_zero, List.set_cons_succ, i64_w, i32_w]
   rfl
  refine join_ (σ := Nat) 1 #[true, true, true, true, true, true, true, true, true, true, false] (fun s_ => [(143, .agg #[.bool t1, .int .i64 t2, .int .i64 t3]), (16, .pointer (some ⟨s_, 0, none⟩))]) (fun s_ w' => (w'.cell? ⟨gb, 0, none⟩ = some (.slice A0_0 l0_0.length c0_0) ∧ w'.cell? ⟨gb, 1, none⟩ = some (.slice (some ad) l0_1.length c0_1) ∧ w'.cell? ⟨gx, 1, none⟩ = some (.slice (some ad1) nd.f1.length ck) ∧ w'.cell? ad1 = some (.int .i64 (rd nd.f1 0))) ∧ Env18 W1 gx #[.int .i64 nd.f0, .slice (some ad1) nd.f1.length ck, .int .i64 nd.f2, .int .u64 nd.f3.f0, .int .u64 nd.f3.f1, .int .u64 nd.f3.f2, .int .u64 nd.f3.f3] w' ∧ w'.heap[s_]? = some (.cells #[.bool false, .int .i64 0, .int .i64 0] 31 (0, 0)) ∧ gx ≠ s_ ∧ W1.heap.size ≤ s_) ?_ ?_
  rotate_left
  ·
   intro hCont
   refine two_ (i := 8) (j := 9) (Ni := some 143) (Nj := some 16) #[true, true, true, true, true, true, true, true, true, false, false] #[true, true, true, true, true, true, true, true, false, true, false] rfl rfl rfl rfl (two_of HT_.out (by kernel_rfl)) (by decide) (by decide) (fun K hK => ?_) (fun K hK => ?_)
   ·
    refine goes_ Try.func12 (by kernel_rfl) rfl #[.agg #[.slice A0_0 l0_0.length c0_0, .slice (some ad) l0_1.length c0_1], .int .i64 (rd nd.f1 0), .string a2, .int .i64 a3, .int .i64 u] (by rfl) rfl rfl (by (try simp only [List.map_toArray, List.map_cons, List.map_nil]); first | done | rfl) ?_
    refine (IH.out _ _ l0_0 _ _ l0_1 (rd nd.f1 0) a2 a3 u t1 t2 t3 _ (Kd.C_below HC0.out EW.out.b) hc0_0 (Kd.C_below HC1.out EW.out.b) hc0_1 HT.out).mono ?_
    rintro e_ V1 ⟨rfl, hb⟩
    refine ⟨_, rfl, ?_⟩
    have EV1 := Aside0.mk (EW.out.below hb)
    refine hK.out _ _ ⟨(blk_cell (blk_below HG.out EV1.out.b) 0).trans rfl, (blk_cell (blk_below HG.out EV1.out.b) 1).trans rfl, (blk_cell EV1.out.x 1).trans rfl, (EV1.out.b.cell (World.block_lt_of_cell? W1 _ HKC.out)).trans HKC.out⟩ (fun hHeld => ?_)
    clear hK K
    refine norm_ (a' := ?_) ?_ ?_
    rotate_left
    ·
     show Act.put _ (some 143) _ = _
     simp only [Act.put, List.setIfInBounds_toArray, List.set_cons_zero, List.set_cons_succ, i64_w, i32_w]
     rfl
    refine one_ (i := 9) (N := some 16) #[true, true, true, true, true, true, true, true, true, true, false] rfl rfl (one_of HT_.out (by kernel_rfl)) (by decide) (fun K hK => ?_)
    clear hb
    refine box_step ?hg (N := 16) ?hd (cs := #[.bool false, .int .i64 0, .int .i64 0]) (t := 31) ?hr ?_; (case hd => rfl); (case hg => rfl); (case hr => first | (go_simp; done) | (go_simp; rfl))
    intro gv hg V2 hbox hb
    have HBX : gx ≠ gv ∧ W1.heap.size ≤ gv := by rw [hg]; have := blk_lt EV1.out.x; have := EV1.out.b.size; omega
    have EV2 := Aside0.mk (EV1.out.below hb)
    refine hK.out _ _ ⟨(blk_cell (blk_below HG.out EV2.out.b) 0).trans rfl, (blk_cell (blk_below HG.out EV2.out.b) 1).trans rfl, (blk_cell EV2.out.x 1).trans rfl, (EV2.out.b.cell (World.block_lt_of_cell? W1 _ HKC.out)).trans HKC.out⟩ (fun hHeld => ?_)
    clear hK K
    refine norm_ (a' := ?_) ?_ ?_
    rotate_left
    ·
     show Act.put _ (some 16) _ = _
     simp only [Act.put, List.setIfInBounds_toArray, List.set_cons_zero, List.set_cons_succ, i64_w, i32_w]
     rfl
    exact norm_ (by simp only [putAll, Act.put, List.setIfInBounds_toArray, List.set_cons_zero, List.set_cons_succ]) (hCont gv _ ⟨hHeld, EV2.out, hbox, HBX.1, HBX.2⟩)
   ·
    refine box_step ?hg (N := 16) ?hd (cs := #[.bool false, .int .i64 0, .int .i64 0]) (t := 31) ?hr ?_; (case hd => rfl); (case hg => rfl); (case hr => first | (go_simp; done) | (go_simp; rfl))
    intro gv hg V1 hbox hb
    have HBX : gx ≠ gv ∧ W1.heap.size ≤ gv := by rw [hg]; have := blk_lt EW.out.x; have := EW.out.b.size; omega
    have EV1 := Aside0.mk (EW.out.below hb)
    have BX := Aside0.mk hbox
    have HBX := Aside0.mk HBX
    clear hbox hb hg
    refine hK.out _ _ ⟨(blk_cell (blk_below HG.out EV1.out.b) 0).trans rfl, (blk_cell (blk_below HG.out EV1.out.b) 1).trans rfl, (blk_cell EV1.out.x 1).trans rfl, (EV1.out.b.cell (World.block_lt_of_cell? W1 _ HKC.out)).trans HKC.out⟩ (fun hHeld => ?_)
    clear hK K
    refine norm_ (a' := ?_) ?_ ?_
    rotate_left
    ·
     show Act.put _ (some 16) _ = _
     simp only [Act.put, List.setIfInBounds_toArray, List.set_cons_zero, List.set_cons_succ, i64_w, i32_w]
     rfl
    refine one_ (i := 8) (N := some 143) #[true, true, true, true, true, true, true, true, true, true, false] rfl rfl (one_of HT_.out (by kernel_rfl)) (by decide) (fun K hK => ?_)
    refine goes_ Try.func12 (by kernel_rfl) rfl #[.agg #[.slice A0_0 l0_0.length c0_0, .slice (some ad) l0_1.length c0_1], .int .i64 (rd nd.f1 0), .string a2, .int .i64 a3, .int .i64 u] (by rfl) rfl rfl (by (try simp only [List.map_toArray, List.map_cons, List.map_nil]); first | done | rfl) ?_
    refine (IH.out _ _ l0_0 _ _ l0_1 (rd nd.f1 0) a2 a3 u t1 t2 t3 _ (Kd.C_below HC0.out EV1.out.b) hc0_0 (Kd.C_below HC1.out EV1.out.b) hc0_1 HT.out).mono ?_
    rintro e_ V2 ⟨rfl, hb⟩
    refine ⟨_, rfl, ?_⟩
    have EV2 := Aside0.mk (EV1.out.below hb)
    refine hK.out _ _ ⟨(blk_cell (blk_below HG.out EV2.out.b) 0).trans rfl, (blk_cell (blk_below HG.out EV2.out.b) 1).trans rfl, (blk_cell EV2.out.x 1).trans rfl, (EV2.out.b.cell (World.block_lt_of_cell? W1 _ HKC.out)).trans HKC.out⟩ (fun hHeld => ?_)
    clear hK K
    refine norm_ (a' := ?_) ?_ ?_
    rotate_left
    ·
     show Act.put _ (some 143) _ = _
     simp only [Act.put, List.setIfInBounds_toArray, List.set_cons_zero, List.set_cons_succ, i64_w, i32_w]
     rfl
    exact norm_ (by simp only [putAll, Act.put, List.setIfInBounds_toArray, List.set_cons_zero, List.set_cons_succ]) (hCont gv _ ⟨hHeld, EV2.out, blk_below BX.out hb, HBX.out.1, HBX.out.2⟩)
  rintro gv V3 ⟨hHeld, hE_, hB_, hn_, hg_⟩
  have EV3 := Aside0.mk hE_
  have BV3 := Aside0.mk hB_
  have HV : Aside0 (gx ≠ gv ∧ W1.heap.size ≤ gv ∧ gr ≠ gv) := ⟨hn_, hg_, by have := hnd.out; omega⟩
  clear hE_ hB_ hn_ hg_
  refine norm_ (a' := ?_) ?_ ?_
  rotate_left
  ·
   simp only [putAll, Act.put, List.setIfInBounds_toArray, List.set_cons_zero, List.set_cons_succ]
   rfl
  refine one_ (i := 10) (N := none) #[true, true, true, true, true, true, true, true, true, true, true] rfl rfl (one_of HT_.out (by kernel_rfl)) (by decide) (fun K hK => ?_)
  have v0 : V3.cell? ⟨gv, 0, none⟩ = some (.bool false) := (blk_cell BV3.out 0).trans rfl
  have y0 : V3.frozen? ⟨gv, 0, none⟩ = false := blk_frozen BV3.out 0
  have v1 : V3.cell? ⟨gv, 1, none⟩ = some (.int .i64 0) := (blk_cell BV3.out 1).trans rfl
  have y1 : V3.frozen? ⟨gv, 1, none⟩ = false := blk_frozen BV3.out 1
  have v2 : V3.cell? ⟨gv, 2, none⟩ = some (.int .i64 0) := (blk_cell BV3.out 2).trans rfl
  have y2 : V3.frozen? ⟨gv, 2, none⟩ = false := blk_frozen BV3.out 2
  refine skip_ (w1 := ?_) (by rfl) rfl ?_ ?_
  rotate_left
  ·
   go_simp
   rfl
  have EV := Aside0.mk (EV3.out.put3 HV.out.2.1 HV.out.1 (.bool t1) (.int .i64 t2) (.int .i64 t3))
  have BV := Aside0.mk (h18_blk3 BV3.out (.bool t1) (.int .i64 t2) (.int .i64 t3))
  refine hK.out _ _ ⟨(blk_cell (blk_below HG.out EV.out.b) 0).trans rfl, (blk_cell (blk_below HG.out EV.out.b) 1).trans rfl, (blk_cell EV.out.x 1).trans rfl, (EV.out.b.cell (World.block_lt_of_cell? W1 _ HKC.out)).trans HKC.out⟩ (fun hHeld => ?_)
  clear hK K
  refine done_ (done_of HT_.out (by kernel_rfl)) ?_
  clear hHeld v0 v1 v2 y0 y1 y2
  generalize (((V3.setCell ⟨gv, 0, none⟩ (.bool t1)).setCell ⟨gv, 1, none⟩ (.int .i64 t2)).setCell ⟨gv, 2, none⟩ (.int .i64 t3)) = V0 at EV BV ⊢
  clear EV3 BV3
  have v0 : V0.cell? ⟨gv, 0, none⟩ = some (.bool t1) := (blk_cell BV.out 0).trans rfl
  have v1 : V0.cell? ⟨gv, 1, none⟩ = some (.int .i64 t2) := (blk_cell BV.out 1).trans rfl
  have v2 : V0.cell? ⟨gv, 2, none⟩ = some (.int .i64 t3) := (blk_cell BV.out 2).trans rfl
  go_upto_region 33 with (fail)
  clear v0 v1 v2
  have h := HA.out
  clear HA
  cases t1 with
  | false =>
    rw [if_pos rfl] at h
    simp only [Option.some.injEq, Prod.mk.injEq] at h
    obtain ⟨rfl, rfl, rfl⟩ := h
    have v0 : V0.cell? ⟨gv, 0, none⟩ = some (.bool false) := (blk_cell BV.out 0).trans rfl
    have v1 : V0.cell? ⟨gv, 1, none⟩ = some (.int .i64 t2) := (blk_cell BV.out 1).trans rfl
    have v2 : V0.cell? ⟨gv, 2, none⟩ = some (.int .i64 t3) := (blk_cell BV.out 2).trans rfl
    have rr0 : V0.cell? ⟨gr, 0, none⟩ = some (.bool false) := (blk_cell (blk_below HR.out EV.out.b) 0).trans rfl
    have z0 : V0.frozen? ⟨gr, 0, none⟩ = false := blk_frozen (blk_below HR.out EV.out.b) 0
    have rr1 : V0.cell? ⟨gr, 1, none⟩ = some (.int .i64 0) := (blk_cell (blk_below HR.out EV.out.b) 1).trans rfl
    have z1 : V0.frozen? ⟨gr, 1, none⟩ = false := blk_frozen (blk_below HR.out EV.out.b) 1
    have rr2 : V0.cell? ⟨gr, 2, none⟩ = some (.int .i64 0) := (blk_cell (blk_below HR.out EV.out.b) 2).trans rfl
    have z2 : V0.frozen? ⟨gr, 2, none⟩ = false := blk_frozen (blk_below HR.out EV.out.b) 2
    go_wp2
    refine bodyPost_ret (results_cell_row rfl _ _ gr 31 #[.bool false, .int .i64 t2, .int .i64 t3] (0, 0) _ rfl (h18_blk3 (blk_below HR.out EV.out.b) _ _ _) Try.underlying31 rfl (by kernel_rfl)) rfl ⟨rfl, h18_below3 (below_step HB.out EV.out.b) (by have := HGB.out; have := HGR.out; omega) _ _ _⟩
  | true =>
    rw [if_neg (by decide)] at h
    have v0 : V0.cell? ⟨gv, 0, none⟩ = some (.bool true) := (blk_cell BV.out 0).trans rfl
    have v1 : V0.cell? ⟨gv, 1, none⟩ = some (.int .i64 t2) := (blk_cell BV.out 1).trans rfl
    have v2 : V0.cell? ⟨gv, 2, none⟩ = some (.int .i64 t3) := (blk_cell BV.out 2).trans rfl
    have x0 : V0.cell? ⟨gx, 0, none⟩ = some (.int .i64 nd.f0) := (blk_cell EV.out.x 0).trans rfl
    go_upto_region 36 with (fail)
    have c7 : ¬ nd.f0 = 7 := by have := HS.out; omega
    rw [if_neg c7] at h
    have b7 : (nd.f0 == 7) = false := beq_eq_false_iff_ne.2 c7
    clear c7
    go_upto_region 40 with (fail)
    clear b7
    have c8 : ¬ nd.f0 = 8 := by have := HS.out; omega
    rw [if_neg c8] at h
    have b8 : (nd.f0 == 8) = false := beq_eq_false_iff_ne.2 c8
    clear c8
    go_upto_region 44 with (fail)
    clear b8
    have c9 : ¬ nd.f0 = 9 := by have := HS.out; omega
    rw [if_neg c9] at h
    have b9 : (nd.f0 == 9) = false := beq_eq_false_iff_ne.2 c9
    clear c9
    go_upto_region 48 with (fail)
    clear b9
    by_cases c6 : t2 < 0 ∧ nd.f0 = 6
    · rw [if_pos c6] at h
      simp only [Option.some.injEq, Prod.mk.injEq] at h
      obtain ⟨rfl, rfl, rfl⟩ := h
      have ctb : decide (t2 < 0) = true := decide_eq_true c6.1
      have b6 : (nd.f0 == 6) = true := beq_iff_eq.2 c6.2
      clear c6
      have rr0 : V0.cell? ⟨gr, 0, none⟩ = some (.bool false) := (blk_cell (blk_below HR.out EV.out.b) 0).trans rfl
      have z0 : V0.frozen? ⟨gr, 0, none⟩ = false := blk_frozen (blk_below HR.out EV.out.b) 0
      have rr1 : V0.cell? ⟨gr, 1, none⟩ = some (.int .i64 0) := (blk_cell (blk_below HR.out EV.out.b) 1).trans rfl
      have z1 : V0.frozen? ⟨gr, 1, none⟩ = false := blk_frozen (blk_below HR.out EV.out.b) 1
      have rr2 : V0.cell? ⟨gr, 2, none⟩ = some (.int .i64 0) := (blk_cell (blk_below HR.out EV.out.b) 2).trans rfl
      have z2 : V0.frozen? ⟨gr, 2, none⟩ = false := blk_frozen (blk_below HR.out EV.out.b) 2
      go_wp2
      refine bodyPost_ret (results_cell_row rfl _ _ gr 31 #[.bool true, .int .i64 t2, .int .i64 t3] (0, 0) _ rfl (h18_blk3 (blk_below HR.out EV.out.b) _ _ _) Try.underlying31 rfl (by kernel_rfl)) rfl ⟨rfl, h18_below3 (below_step HB.out EV.out.b) (by have := HGB.out; have := HGR.out; omega) _ _ _⟩
    rw [if_neg c6] at h
    go_cut [189] (fun v189 wc => v189 = .bool false ∧ Aside0 (Env18 W1 gx #[.int .i64 nd.f0, .slice (some ad1) nd.f1.length ck, .int .i64 nd.f2, .int .u64 nd.f3.f0, .int .u64 nd.f3.f1, .int .u64 nd.f3.f2, .int .u64 nd.f3.f3] wc) ∧ Aside0 (wc.heap[gv]? = some (.cells #[.bool true, .int .i64 t2, .int .i64 t3] 31 (0, 0))))
    case first =>
     by_cases ct : t2 < 0
     · have ctb : decide (t2 < 0) = true := decide_eq_true ct
       have b6 : (nd.f0 == 6) = false := beq_eq_false_iff_ne.2 (fun x => c6 ⟨ct, x⟩)
       clear ct c6
       go_wp2
       go_meet
       exact ⟨rfl, EV, BV⟩
     · have ctb : decide (t2 < 0) = false := decide_eq_false ct
       clear ct c6
       go_wp2
       go_meet
       exact ⟨rfl, EV, BV⟩
    case rest =>
     clear EV BV v0 v1 v2 x0 c6
     obtain ⟨rfl, EV, BV⟩ := hcut
     go_upto_block 6 with fail
     go_wp2
     go_loopg [17] k (fun kq v17 w' => ∃ (la : Int) (q1 : Bool) (q2 q3 : Int), v17 = .int .i64 la ∧ Aside0 (vetchref18_Node.repF (fun a u => vetchref18_Node.f k l0_0 l0_1 (rd nd.f1 0) a2 a u) kq la (q1, q2, q3) = some (r1, r2, r3)) ∧ Aside0 (Env18 W1 gx #[.int .i64 nd.f0, .slice (some ad1) nd.f1.length ck, .int .i64 nd.f2, .int .u64 nd.f3.f0, .int .u64 nd.f3.f1, .int .u64 nd.f3.f2, .int .u64 nd.f3.f3] w') ∧ Aside0 (w'.heap[gv]? = some (.cells #[.bool q1, .int .i64 q2, .int .i64 q3] 31 (0, 0))))
     case atStart => exact ⟨a3, true, t2, t3, rfl, ⟨h⟩, EV, BV⟩
     case round =>
      clear h EV BV E2 HT
      obtain ⟨la, q1, q2, q3, rfl, HA, E, BV⟩ := hrel
      have h := HA.out
      clear HA
      cases gk with
      | zero => exact absurd h (by simp [vetchref18_Node.repF])
      | succ k1 =>
       rw [vetchref18_Node.repF] at h
       have v0 : wr.cell? ⟨gv, 0, none⟩ = some (.bool q1) := (blk_cell BV.out 0).trans rfl
       have v1 : wr.cell? ⟨gv, 1, none⟩ = some (.int .i64 q2) := (blk_cell BV.out 1).trans rfl
       have v2 : wr.cell? ⟨gv, 2, none⟩ = some (.int .i64 q3) := (blk_cell BV.out 2).trans rfl
       cases q1 with
       | false =>
         rw [if_neg (by simp), if_neg (by simp)] at h
         simp only [Option.some.injEq, Prod.mk.injEq] at h
         obtain ⟨rfl, rfl, rfl⟩ := h
         have rr0 : wr.cell? ⟨gr, 0, none⟩ = some (.bool false) := (blk_cell (blk_below HR.out E.out.b) 0).trans rfl
         have z0 : wr.frozen? ⟨gr, 0, none⟩ = false := blk_frozen (blk_below HR.out E.out.b) 0
         have rr1 : wr.cell? ⟨gr, 1, none⟩ = some (.int .i64 0) := (blk_cell (blk_below HR.out E.out.b) 1).trans rfl
         have z1 : wr.frozen? ⟨gr, 1, none⟩ = false := blk_frozen (blk_below HR.out E.out.b) 1
         have rr2 : wr.cell? ⟨gr, 2, none⟩ = some (.int .i64 0) := (blk_cell (blk_below HR.out E.out.b) 2).trans rfl
         have z2 : wr.frozen? ⟨gr, 2, none⟩ = false := blk_frozen (blk_below HR.out E.out.b) 2
         go_wp2
         refine bodyPost_ret (results_cell_row rfl _ _ gr 31 #[.bool false, .int .i64 q2, .int .i64 q3] (0, 0) _ rfl (h18_blk3 (blk_below HR.out E.out.b) _ _ _) Try.underlying31 rfl (by kernel_rfl)) rfl ⟨rfl, h18_below3 (below_step HB.out E.out.b) (by have := HGB.out; have := HGR.out; omega) _ _ _⟩
       | true =>
         by_cases cq : 0 ≤ q2
         · rw [if_pos ⟨rfl, cq⟩] at h
           obtain ⟨⟨t1, t2, t3⟩, ht, h⟩ := Option.bind_eq_some_iff.1 h
           dsimp only at ht h
           have HT := Aside0.mk ht
           have HA := Aside0.mk h
           clear ht h
           have cqb : decide (q2 ≥ 0) = true := decide_eq_true cq
           clear cq
           have kc := (E.out.b.cell (World.block_lt_of_cell? W1 _ HKC.out)).trans HKC.out
           have x1 : wr.cell? ⟨gx, 1, none⟩ = some (.slice (some ad1) nd.f1.length ck) := (blk_cell E.out.x 1).trans rfl
           have g0 : wr.cell? ⟨gb, 0, none⟩ = some (.slice A0_0 l0_0.length c0_0) := (blk_cell (blk_below HG.out E.out.b) 0).trans rfl
           have g1 : wr.cell? ⟨gb, 1, none⟩ = some (.slice (some ad) l0_1.length c0_1) := (blk_cell (blk_below HG.out E.out.b) 1).trans rfl
           have q9i := eq_true HQ9.out
           have q9n : (0 < nd.f1.length) = True := eq_true (by have := HQ9.out; omega)
           go_upto_region 53 with (fail)
           go_still_tail 9, (by kernel_rfl)
           change wpList _ _ _ _ _ wr.drew
           go_wp2_with (
             go_at_call 12
             refine (IH.out _ _ l0_0 _ _ l0_1 (rd nd.f1 0) a2 (q2) (q3) t1 t2 t3 _ (Kd.C_below HC0.out E.out.drew.b) hc0_0 (Kd.C_below HC1.out E.out.drew.b) hc0_1 HT.out).mono ?_
             rintro e_ W3 ⟨rfl, hb_⟩
             have E3 := Aside0.mk (E.out.drew.below hb_)
             have BV3 := Aside0.mk (blk_below (blk_drew BV.out) hb_)
             clear hb_ kc x1 v0 v1 v2 g0 g1 cqb q9i q9n
             have v0 : W3.cell? ⟨gv, 0, none⟩ = some (.bool true) := (blk_cell BV3.out 0).trans rfl
             have y0 : W3.frozen? ⟨gv, 0, none⟩ = false := blk_frozen BV3.out 0
             have v1 : W3.cell? ⟨gv, 1, none⟩ = some (.int .i64 q2) := (blk_cell BV3.out 1).trans rfl
             have y1 : W3.frozen? ⟨gv, 1, none⟩ = false := blk_frozen BV3.out 1
             have v2 : W3.cell? ⟨gv, 2, none⟩ = some (.int .i64 q3) := (blk_cell BV3.out 2).trans rfl
             have y2 : W3.frozen? ⟨gv, 2, none⟩ = false := blk_frozen BV3.out 2)
           go_roundg k1
           case measure => omega
           case rel => exact ⟨q2, t1, t2, t3, rfl, HA, ⟨E3.out.put3 HV.out.2.1 HV.out.1 _ _ _⟩, ⟨h18_blk3 BV3.out _ _ _⟩⟩
         · rw [if_neg (fun x => cq x.2), if_pos rfl] at h
           simp only [Option.some.injEq, Prod.mk.injEq] at h
           obtain ⟨rfl, rfl, rfl⟩ := h
           have cqb : decide (q2 ≥ 0) = false := decide_eq_false cq
           clear cq
           have rr0 : wr.cell? ⟨gr, 0, none⟩ = some (.bool false) := (blk_cell (blk_below HR.out E.out.b) 0).trans rfl
           have z0 : wr.frozen? ⟨gr, 0, none⟩ = false := blk_frozen (blk_below HR.out E.out.b) 0
           have rr1 : wr.cell? ⟨gr, 1, none⟩ = some (.int .i64 0) := (blk_cell (blk_below HR.out E.out.b) 1).trans rfl
           have z1 : wr.frozen? ⟨gr, 1, none⟩ = false := blk_frozen (blk_below HR.out E.out.b) 1
           have rr2 : wr.cell? ⟨gr, 2, none⟩ = some (.int .i64 0) := (blk_cell (blk_below HR.out E.out.b) 2).trans rfl
           have z2 : wr.frozen? ⟨gr, 2, none⟩ = false := blk_frozen (blk_below HR.out E.out.b) 2
           go_wp2
           refine bodyPost_ret (results_cell_row rfl _ _ gr 31 #[.bool true, .int .i64 la, .int .i64 q3] (0, 0) _ rfl (h18_blk3 (blk_below HR.out E.out.b) _ _ _) Try.underlying31 rfl (by kernel_rfl)) rfl ⟨rfl, h18_below3 (below_step HB.out E.out.b) (by have := HGB.out; have := HGR.out; omega) _ _ _⟩
end Go.Proofs.Ythgedejnpgcacaa.V
namespace Go.Proofs.Ythgedejnpgcacaa.V
open Go.RowKit Go.Proofs.YthgedejnpgcacaaW.PrintWords Go.Proofs.YthgedejnpgcacaaW.PrintLast Go.Proofs.YthgedejnpgcacaaW.PrintMore
set_option linter.unusedVariables false
set_option linter.unusedSimpArgs false
set_option maxHeartbeats 4000000 in
set_option maxRecDepth 100000 in
theorem vetchref18_Node.calls_s7 (k : Nat) (ih : ∀ (A0_0 : Option Addr) (c0_0 : Nat) (l0_0 : List S51) (A0_1 : Option Addr) (c0_1 : Nat) (l0_1 : List S56) (a1 : Int) (a2 : ByteArray) (a3 a4 : Int) (r1 : Bool) (r2 r3 : Int) (w : World)
    (hr0_0 : Kd.C k51 w A0_0 l0_0.length l0_0) (hc0_0 : l0_0.length ≤ c0_0) (hr0_1 : Kd.C k56 w A0_1 l0_1.length l0_1) (hc0_1 : l0_1.length ≤ c0_1) (h : vetchref18_Node.f k l0_0 l0_1 a1 a2 a3 a4 = some (r1, r2, r3)), Calls Try.prog 12 #[.agg #[.slice A0_0 l0_0.length c0_0, .slice A0_1 l0_1.length c0_1], .int .i64 a1, .string a2, .int .i64 a3, .int .i64 a4] w fun e w' => e = .returned (.agg #[.bool r1, .int .i64 r2, .int .i64 r3]) ∧ Below w.heap.size w w')
    (A0_0 : Option Addr) (c0_0 : Nat) (l0_0 : List S51) (A0_1 : Option Addr) (c0_1 : Nat) (l0_1 : List S56) (a1 : Int) (a2 : ByteArray) (a3 a4 : Int) (r1 : Bool) (r2 r3 : Int) (w : World)
    (hr0_0 : Kd.C k51 w A0_0 l0_0.length l0_0) (hc0_0 : l0_0.length ≤ c0_0) (hr0_1 : Kd.C k56 w A0_1 l0_1.length l0_1) (hc0_1 : l0_1.length ≤ c0_1) (hs : Aside0 (¬ a4 < 1 ∧ (0 ≤ a1 ∧ a1 < (l0_1.length : Int)) ∧ (rd_T56 l0_1 a1).f0 = 7)) (h : vetchref18_Node.f (k + 1) l0_0 l0_1 a1 a2 a3 a4 = some (r1, r2, r3)) :
    Calls Try.prog 12 #[.agg #[.slice A0_0 l0_0.length c0_0, .slice A0_1 l0_1.length c0_1], .int .i64 a1, .string a2, .int .i64 a3, .int .i64 a4] w fun e w' => e = .returned (.agg #[.bool r1, .int .i64 r2, .int .i64 r3]) ∧ Below w.heap.size w w' := by
  rw [vetchref18_Node.f] at h
  have IH := Aside0.mk ih
  clear ih
  have hu25 := Try.underlying25
  have hu31 := Try.underlying31
  have hu56 := Try.underlying56
  have hu51 := Try.underlying51
  have hu54 := Try.underlying54
  have HB := Aside0.mk (below_alloc (below_alloc (Below.refl w.heap.size w) (.cells #[.slice A0_0 l0_0.length c0_0, .slice A0_1 l0_1.length c0_1] 25)) (.cells #[.bool false, .int .i64 0, .int .i64 0] 31))
  have HG := Aside0.mk (blk_alloc (blk_new w (.cells #[.slice A0_0 l0_0.length c0_0, .slice A0_1 l0_1.length c0_1] 25)) (.cells #[.bool false, .int .i64 0, .int .i64 0] 31))
  have HR := Aside0.mk (blk_new (w.alloc (.cells #[.slice A0_0 l0_0.length c0_0, .slice A0_1 l0_1.length c0_1] 25)) (.cells #[.bool false, .int .i64 0, .int .i64 0] 31))
  have hsz : ((w.alloc (.cells #[.slice A0_0 l0_0.length c0_0, .slice A0_1 l0_1.length c0_1] 25)).alloc (.cells #[.bool false, .int .i64 0, .int .i64 0] 31)).heap.size = w.heap.size + 1 + 1 := by rw [h18_size, h18_size]
  rw [h18_size] at HR
  have HC0 := Aside0.mk (Kd.C_below hr0_0 HB.out)
  have HC1 := Aside0.mk (Kd.C_below hr0_1 HB.out)
  have HW := Aside0.mk hsz
  clear hr0_0 hr0_1 hsz
  rw [if_neg hs.out.1, if_pos hs.out.2.1] at h
  have c4b : decide (a4 < 1) = false := decide_eq_false hs.out.1
  have H := Aside0.mk h
  clear h
  go_enter Try.func12, Try.ntmps12
  go_upto_region 1 with (fail)
  generalize ((w.alloc (.cells #[.slice A0_0 l0_0.length c0_0, .slice A0_1 l0_1.length c0_1] 25)).alloc (.cells #[.bool false, .int .i64 0, .int .i64 0] 31)) = W1 at HB HG HR HC0 HC1 HW ⊢
  obtain ⟨gb, hgb⟩ : ∃ gb, gb = w.heap.size := ⟨_, rfl⟩
  obtain ⟨gr, hgr⟩ : ∃ gr, gr = gb + 1 := ⟨_, rfl⟩
  rw [← hgb] at HW HG HR ⊢
  rw [← hgr] at HR ⊢
  have HGB := Aside0.mk hgb
  have HGR := Aside0.mk hgr
  clear hgb hgr
  go_upto_region 4 with (fail)
  clear c4b
  have g1 : W1.cell? ⟨gb, 1, none⟩ = some (.slice A0_1 l0_1.length c0_1) := (blk_cell HG.out 1).trans rfl
  have p2 := hs.out.2.1.1
  have p3 := hs.out.2.1.2
  obtain ⟨ad, Ak, ck, e, k0, k1, k2, k3, k4, k5, k6, hlk, hCk⟩ := at_T56 HC1.out a1 p2 p3
  cases e
  have HCk := Aside0.mk hCk
  have HLk := Aside0.mk hlk
  clear hCk hlk
  replace p2 := eq_true p2
  replace p3 := eq_true p3
  go_upto_region 5 with (fail)
  have HS := Aside0.mk hs.out.2.2
  clear hs
  generalize rd_T56 l0_1 a1 = nd at *
  obtain ⟨gx, hgx⟩ : ∃ gx, gx = W1.heap.size := ⟨_, rfl⟩
  have E2 : Aside0 (Env18 W1 gx #[.int .i64 nd.f0, .slice Ak nd.f1.length ck, .int .i64 nd.f2, .int .u64 nd.f3.f0, .int .u64 nd.f3.f1, .int .u64 nd.f3.f2, .int .u64 nd.f3.f3] (W1.alloc (.cells #[.int .i64 nd.f0, .slice Ak nd.f1.length ck, .int .i64 nd.f2, .int .u64 nd.f3.f0, .int .u64 nd.f3.f1, .int .u64 nd.f3.f2, .int .u64 nd.f3.f3] 56))) := ⟨by rw [hgx]; exact blk_new W1 (.cells #[.int .i64 nd.f0, .slice Ak nd.f1.length ck, .int .i64 nd.f2, .int .u64 nd.f3.f0, .int .u64 nd.f3.f1, .int .u64 nd.f3.f2, .int .u64 nd.f3.f3] 56), below_alloc (Below.refl _ _) _⟩
  have HGX := Aside0.mk hgx
  rw [← hgx]
  generalize W1.alloc (.cells #[.int .i64 nd.f0, .slice Ak nd.f1.length ck, .int .i64 nd.f2, .int .u64 nd.f3.f0, .int .u64 nd.f3.f1, .int .u64 nd.f3.f2, .int .u64 nd.f3.f3] 56) = W2 at E2 ⊢
  clear k0 k1 k2 k3 k4 k5 k6 g1 hgx p2 p3
  have h := H.out
  clear H
  have hnd : Aside0 (gb < W1.heap.size ∧ gr < W1.heap.size) := ⟨by have := HW.out; have := HGR.out; omega⟩
  generalize wrap64 (a4 - 1) = u at *
  have x0 : W2.cell? ⟨gx, 0, none⟩ = some (.int .i64 nd.f0) := (blk_cell E2.out.x 0).trans rfl
  go_upto_region 6 with (fail)
  clear x0
  have c0 : ¬ nd.f0 = 0 := by have := HS.out; omega
  rw [if_neg c0] at h
  have b0 : (nd.f0 == 0) = false := beq_eq_false_iff_ne.2 c0
  clear c0
  go_upto_region 8 with (fail)
  clear b0
  have c1 : ¬ nd.f0 = 1 := by have := HS.out; omega
  rw [if_neg c1] at h
  have b1 : (nd.f0 == 1) = false := beq_eq_false_iff_ne.2 c1
  clear c1
  go_upto_region 12 with (fail)
  clear b1
  have c2 : ¬ nd.f0 = 2 := by have := HS.out; omega
  rw [if_neg c2] at h
  have b2 : (nd.f0 == 2) = false := beq_eq_false_iff_ne.2 c2
  clear c2
  go_upto_region 14 with (fail)
  clear b2
  have c3 : ¬ nd.f0 = 3 := by have := HS.out; omega
  rw [if_neg c3] at h
  have b3 : (nd.f0 == 3) = false := beq_eq_false_iff_ne.2 c3
  clear c3
  go_upto_region 23 with (fail)
  clear b3
  have c4 : ¬ nd.f0 = 4 := by have := HS.out; omega
  rw [if_neg c4] at h
  have b4 : (nd.f0 == 4) = false := beq_eq_false_iff_ne.2 c4
  clear c4
  by_cases ck0 : nd.f1 = []
  · rw [if_pos ck0] at h
    exact absurd h (by simp)
  rw [if_neg ck0] at h
  have q9 := h18_mem nd.f1 ck0
  have HQ9 := Aside0.mk q9
  clear ck0
  obtain ⟨⟨t1, t2, t3⟩, ht, h⟩ := Option.bind_eq_some_iff.1 h
  dsimp only at ht h
  have HT := Aside0.mk ht
  have HA := Aside0.mk h
  clear ht h
  obtain ⟨ad1, he1, kc⟩ := Kd.at_int HCk.out 0 (Int.le_refl 0) HQ9.out
  cases he1
  replace kc : W1.cell? ad1 = some (.int .i64 (rd nd.f1 0)) := by simpa [Addr.add] using kc
  have HKC := Aside0.mk kc
  clear kc q9
  have kc := (E2.out.b.cell (World.block_lt_of_cell? W1 _ HKC.out)).trans HKC.out
  have x1 : W2.cell? ⟨gx, 1, none⟩ = some (.slice (some ad1) nd.f1.length ck) := (blk_cell E2.out.x 1).trans rfl
  have g0 : W2.cell? ⟨gb, 0, none⟩ = some (.slice A0_0 l0_0.length c0_0) := (blk_cell (blk_below HG.out E2.out.b) 0).trans rfl
  have g1 : W2.cell? ⟨gb, 1, none⟩ = some (.slice (some ad) l0_1.length c0_1) := (blk_cell (blk_below HG.out E2.out.b) 1).trans rfl
  have q9i := eq_true HQ9.out
  have q9n : (0 < nd.f1.length) = True := eq_true (by have := HQ9.out; omega)
  go_upto_region 32 with (fail)
  clear b4
  have EW := Aside0.mk E2.out.drew
  clear kc x1 g0 g1
  refine start_ (n := 11) (S := fun w' => w'.cell? ⟨gb, 0, none⟩ = some (.slice A0_0 l0_0.length c0_0) ∧ w'.cell? ⟨gb, 1, none⟩ = some (.slice (some ad) l0_1.length c0_1) ∧ w'.cell? ⟨gx, 1, none⟩ = some (.slice (some ad1) nd.f1.length ck) ∧ w'.cell? ad1 = some (.int .i64 (rd nd.f1 0))) (ds := []) #[false, false, false, false, false, false, false, false, false, false, false] (by kernel_rfl) rfl rfl ⟨(blk_cell (blk_below HG.out EW.out.b) 0).trans rfl, (blk_cell (blk_below HG.out EW.out.b) 1).trans rfl, (blk_cell EW.out.x 1).trans rfl, (EW.out.b.cell (World.block_lt_of_cell? W1 _ HKC.out)).trans HKC.out⟩ (fun hHeld => ?_); refine with_tabW h18_tab32 h18_bits32 (fun HT_ HW_ => ?_)
  generalize W2.drew = W3 at EW hHeld ⊢
  refine pure_ (i := 1) (N := some 136) (v := ?_) (a' := ?_) #[false, true, false, false, false, false, false, false, false, false, false] rfl rfl (any_of HT_.out (by kernel_rfl)) (fun _ _ _ h => h) (Or.inl ⟨by rfl, ?_⟩) ?_ ?_
  rotate_left
  ·
   intro w'
   go_simp
   with_reducible rfl
  rotate_left
  ·
   simp only [Act.put, List.setIfInBounds_toArray, List.set_cons_zero, List.set_cons_succ, i64_w, i32_w]
   rfl
  refine pure_ (i := 5) (N := some 140) (v := ?_) (a' := ?_) #[false, true, false, false, false, true, false, false, false, false, false] rfl rfl (any_of HT_.out (by kernel_rfl)) (fun _ _ _ h => h) (Or.inl ⟨by rfl, ?_⟩) ?_ ?_
  rotate_left
  ·
   intro w'
   go_simp
   with_reducible rfl
  rotate_left
  ·
   simp only [Act.put, List.setIfInBounds_toArray, List.set_cons_zero, List.set_cons_succ, i64_w, i32_w]
   rfl
  refine pure_ (i := 6) (N := some 141) (v := ?_) (a' := ?_) #[false, true, false, false, false, true, true, false, false, false, false] rfl rfl (any_of HT_.out (by kernel_rfl)) (fun _ _ _ h => h) (Or.inl ⟨by rfl, ?_⟩) ?_ ?_
  rotate_left
  ·
   intro w'
   go_simp
   with_reducible rfl
  rotate_left
  ·
   simp only [Act.put, List.setIfInBounds_toArray, List.set_cons_zero, List.set_cons_succ, i64_w, i32_w]
   rfl
  refine pure_ (i := 7) (N := some 142) (v := ?_) (a' := ?_) #[false, true, false, false, false, true, true, true, false, false, false] rfl rfl (any_of HT_.out (by kernel_rfl)) (fun _ _ _ h => h) (Or.inl ⟨by rfl, ?_⟩) ?_ ?_
  rotate_left
  ·
   intro w'
   go_simp
   with_reducible rfl
  rotate_left
  ·
   simp only [Act.put, List.setIfInBounds_toArray, List.set_cons_zero, List.set_cons_succ, i64_w, i32_w]
   rfl
  refine take_ (i := 0) (N := some 135) (v := ?_) (a' := ?_) #[true, true, false, false, false, true, true, true, false, false, false] rfl rfl (take_ofW HT_.out HW_.out (by kernel_rfl)) (fun _ _ _ h => h) (Or.inl ⟨by rfl, ?_⟩) hHeld ?_ ?_
  rotate_left
  ·
   rintro w' ⟨s0, s1, s2, s3⟩
   go_simp
   with_reducible rfl
  rotate_left
  ·
   simp only [Act.put, List.setIfInBounds_toArray, List.set_cons_zero, List.set_cons_succ, i64_w, i32_w]
   rfl
  refine take_ (i := 2) (N := some 137) (v := ?_) (a' := ?_) #[true, true, true, false, false, true, true, true, false, false, false] rfl rfl (take_ofW HT_.out HW_.out (by kernel_rfl)) (fun _ _ _ h => h) (Or.inl ⟨by rfl, ?_⟩) hHeld ?_ ?_
  rotate_left
  ·
   rintro w' ⟨s0, s1, s2, s3⟩
   go_simp
   with_reducible rfl
  rotate_left
  ·
   simp only [Act.put, List.setIfInBounds_toArray, List.set_cons_zero, List.set_cons_succ, i64_w, i32_w]
   rfl
  refine pure_ (i := 3) (N := some 138) (v := ?_) (a' := ?_) #[true, true, true, true, false, true, true, true, false, false, false] rfl rfl (any_of HT_.out (by kernel_rfl)) (fun _ _ _ h => h) (Or.inl ⟨by rfl, ?_⟩) ?_ ?_
  rotate_left
  ·
   intro w'
   go_simp
   with_reducible rfl
  rotate_left
  ·
   simp only [Act.put, List.setIfInBounds_toArray, List.set_cons_zero, List.set_cons_succ, i64_w, i32_w]
   rfl
  refine take_ (i := 4) (N := some 139) (v := ?_) (a' := ?_) #[true, true, true, true, true, true, true, true, false, false, false] rfl rfl (take_ofW HT_.out HW_.out (by kernel_rfl)) (fun _ _ _ h => h) (Or.inl ⟨by rfl, ?_⟩) hHeld ?_ ?_
  rotate_left
  ·
   rintro w' ⟨s0, s1, s2, s3⟩
   go_simp
   with_reducible rfl
  rotate_left
  ·
   simp only [Act.put, List.setIfInBounds_toArray, List.set_cons_zero, List.set_cons_succ, i64_w, i32_w]
   rfl
  refine join_ (σ := Nat) 1 #[true, true, true, true, true, true, true, true, true, true, false] (fun s_ => [(143, .agg #[.bool t1, .int .i64 t2, .int .i64 t3]), (16, .pointer (some ⟨s_, 0, none⟩))]) (fun s_ w' => (w'.cell? ⟨gb, 0, none⟩ = some (.slice A0_0 l0_0.length c0_0) ∧ w'.cell? ⟨gb, 1, none⟩ = some (.slice (some ad) l0_1.length c0_1) ∧ w'.cell? ⟨gx, 1, none⟩ = some (.slice (some ad1) nd.f1.length ck) ∧ w'.cell? ad1 = some (.int .i64 (rd nd.f1 0))) ∧ Env18 W1 gx #[.int .i64 nd.f0, .slice (some ad1) nd.f1.length ck, .int .i64 nd.f2, .int .u64 nd.f3.f0, .int .u64 nd.f3.f1, .int .u64 nd.f3.f2, .int .u64 nd.f3.f3] w' ∧ w'.heap[s_]? = some (.cells #[.bool false, .int .i64 0, .int .i64 0] 31 (0, 0)) ∧ gx ≠ s_ ∧ W1.heap.size ≤ s_) ?_ ?_
  rotate_left
  ·
   intro hCont
   refine two_ (i := 8) (j := 9) (Ni := some 143) (Nj := some 16) #[true, true, true, true, true, true, true, true, true, false, false] #[true, true, true, true, true, true, true, true, false, true, false] rfl rfl rfl rfl (two_of HT_.out (by kernel_rfl)) (by decide) (by decide) (fun K hK => ?_) (fun K hK => ?_)
   ·
    refine goes_ Try.func12 (by kernel_rfl) rfl #[.agg #[.slice A0_0 l0_0.length c0_0, .slice (some ad) l0_1.length c0_1], .int .i64 (rd nd.f1 0), .string a2, .int .i64 a3, .int .i64 u] (by rfl) rfl rfl (by (try simp only [List.map_toArray, List.map_cons, List.map_nil]); first | done | rfl) ?_
    refine (IH.out _ _ l0_0 _ _ l0_1 (rd nd.f1 0) a2 a3 u t1 t2 t3 _ (Kd.C_below HC0.out EW.out.b) hc0_0 (Kd.C_below HC1.out EW.out.b) hc0_1 HT.out).mono ?_
    rintro e_ V1 ⟨rfl, hb⟩
    refine ⟨_, rfl, ?_⟩
    have EV1 := Aside0.mk (EW.out.below hb)
    refine hK.out _ _ ⟨(blk_cell (blk_below HG.out EV1.out.b) 0).trans rfl, (blk_cell (blk_below HG.out EV1.out.b) 1).trans rfl, (blk_cell EV1.out.x 1).trans rfl, (EV1.out.b.cell (World.block_lt_of_cell? W1 _ HKC.out)).trans HKC.out⟩ (fun hHeld => ?_)
    clear hK K
    refine norm_ (a' := ?_) ?_ ?_
    rotate_left
    ·
     show Act.put _ (some 143) _ = _
     simp only [Act.put, List.setIfInBounds_toArray, List.set_cons_zero, List.set_cons_succ, i64_w, i32_w]
     rfl
    refine one_ (i := 9) (N := some 16) #[true, true, true, true, true, true, true, true, true, true, false] rfl rfl (one_of HT_.out (by kernel_rfl)) (by decide) (fun K hK => ?_)
    clear hb
    refine box_step ?hg (N := 16) ?hd (cs := #[.bool false, .int .i64 0, .int .i64 0]) (t := 31) ?hr ?_; (case hd => rfl); (case hg => rfl); (case hr => first | (go_simp; done) | (go_simp; rfl))
    intro gv hg V2 hbox hb
    have HBX : gx ≠ gv ∧ W1.heap.size ≤ gv := by rw [hg]; have := blk_lt EV1.out.x; have := EV1.out.b.size; omega
    have EV2 := Aside0.mk (EV1.out.below hb)
    refine hK.out _ _ ⟨(blk_cell (blk_below HG.out EV2.out.b) 0).trans rfl, (blk_cell (blk_below HG.out EV2.out.b) 1).trans rfl, (blk_cell EV2.out.x 1).trans rfl, (EV2.out.b.cell (World.block_lt_of_cell? W1 _ HKC.out)).trans HKC.out⟩ (fun hHeld => ?_)
    clear hK K
    refine norm_ (a' := ?_) ?_ ?_
    rotate_left
    ·
     show Act.put _ (some 16) _ = _
     simp only [Act.put, List.setIfInBounds_toArray, List.set_cons_zero, List.set_cons_succ, i64_w, i32_w]
     rfl
    exact norm_ (by simp only [putAll, Act.put, List.setIfInBounds_toArray, List.set_cons_zero, List.set_cons_succ]) (hCont gv _ ⟨hHeld, EV2.out, hbox, HBX.1, HBX.2⟩)
   ·
    refine box_step ?hg (N := 16) ?hd (cs := #[.bool false, .int .i64 0, .int .i64 0]) (t := 31) ?hr ?_; (case hd => rfl); (case hg => rfl); (case hr => first | (go_simp; done) | (go_simp; rfl))
    intro gv hg V1 hbox hb
    have HBX : gx ≠ gv ∧ W1.heap.size ≤ gv := by rw [hg]; have := blk_lt EW.out.x; have := EW.out.b.size; omega
    have EV1 := Aside0.mk (EW.out.below hb)
    have BX := Aside0.mk hbox
    have HBX := Aside0.mk HBX
    clear hbox hb hg
    refine hK.out _ _ ⟨(blk_cell (blk_below HG.out EV1.out.b) 0).trans rfl, (blk_cell (blk_below HG.out EV1.out.b) 1).trans rfl, (blk_cell EV1.out.x 1).trans rfl, (EV1.out.b.cell (World.block_lt_of_cell? W1 _ HKC.out)).trans HKC.out⟩ (fun hHeld => ?_)
    clear hK K
    refine norm_ (a' := ?_) ?_ ?_
    rotate_left
    ·
     show Act.put _ (some 16) _ = _
     simp only [Act.put, List.setIfInBounds_toArray, List.set_cons_zero, List.set_cons_succ, i64_w, i32_w]
     rfl
    refine one_ (i := 8) (N := some 143) #[true, true, true, true, true, true, true, true, true, true, false] rfl rfl (one_of HT_.out (by kernel_rfl)) (by decide) (fun K hK => ?_)
    refine goes_ Try.func12 (by kernel_rfl) rfl #[.agg #[.slice A0_0 l0_0.length c0_0, .slice (some ad) l0_1.length c0_1], .int .i64 (rd nd.f1 0), .string a2, .int .i64 a3, .int .i64 u] (by rfl) rfl rfl (by (try simp only [List.map_toArray, List.map_cons, List.map_nil]); first | done | rfl) ?_
    refine (IH.out _ _ l0_0 _ _ l0_1 (rd nd.f1 0) a2 a3 u t1 t2 t3 _ (Kd.C_below HC0.out EV1.out.b) hc0_0 (Kd.C_below HC1.out EV1.out.b) hc0_1 HT.out).mono ?_
    rintro e_ V2 ⟨rfl, hb⟩
    refine ⟨_, rfl, ?_⟩
    have EV2 := Aside0.mk (EV1.out.below hb)
    refine hK.out _ _ ⟨(blk_cell (blk_below HG.out EV2.out.b) 0).trans rfl, (blk_cell (blk_below HG.out EV2.out.b) 1).trans rfl, (blk_cell EV2.out.x 1).trans rfl, (EV2.out.b.cell (World.block_lt_of_cell? W1 _ HKC.out)).trans HKC.out⟩ (fun hHeld => ?_)
    clear hK K
    refine norm_ (a' := ?_) ?_ ?_
    rotate_left
    ·
     show Act.put _ (some 143) _ = _
     simp only [Act.put, List.setIfInBounds_toArray, List.set_cons_zero, List.set_cons_succ, i64_w, i32_w]
     rfl
    exact norm_ (by simp only [putAll, Act.put, List.setIfInBounds_toArray, List.set_cons_zero, List.set_cons_succ]) (hCont gv _ ⟨hHeld, EV2.out, blk_below BX.out hb, HBX.out.1, HBX.out.2⟩)
  rintro gv V3 ⟨hHeld, hE_, hB_, hn_, hg_⟩
  have EV3 := Aside0.mk hE_
  have BV3 := Aside0.mk hB_
  have HV : Aside0 (gx ≠ gv ∧ W1.heap.size ≤ gv ∧ gr ≠ gv) := ⟨hn_, hg_, by have := hnd.out; omega⟩
  clear hE_ hB_ hn_ hg_
  refine norm_ (a' := ?_) ?_ ?_
  rotate_left
  ·
   simp only [putAll, Act.put, List.setIfInBounds_toArray, List.set_cons_zero, List.set_cons_succ]
   rfl
  refine one_ (i := 10) (N := none) #[true, true, true, true, true, true, true, true, true, true, true] rfl rfl (one_of HT_.out (by kernel_rfl)) (by decide) (fun K hK => ?_)
  have v0 : V3.cell? ⟨gv, 0, none⟩ = some (.bool false) := (blk_cell BV3.out 0).trans rfl
  have y0 : V3.frozen? ⟨gv, 0, none⟩ = false := blk_frozen BV3.out 0
  have v1 : V3.cell? ⟨gv, 1, none⟩ = some (.int .i64 0) := (blk_cell BV3.out 1).trans rfl
  have y1 : V3.frozen? ⟨gv, 1, none⟩ = false := blk_frozen BV3.out 1
  have v2 : V3.cell? ⟨gv, 2, none⟩ = some (.int .i64 0) := (blk_cell BV3.out 2).trans rfl
  have y2 : V3.frozen? ⟨gv, 2, none⟩ = false := blk_frozen BV3.out 2
  refine skip_ (w1 := ?_) (by rfl) rfl ?_ ?_
  rotate_left
  ·
   go_simp
   rfl
  have EV := Aside0.mk (EV3.out.put3 HV.out.2.1 HV.out.1 (.bool t1) (.int .i64 t2) (.int .i64 t3))
  have BV := Aside0.mk (h18_blk3 BV3.out (.bool t1) (.int .i64 t2) (.int .i64 t3))
  refine hK.out _ _ ⟨(blk_cell (blk_below HG.out EV.out.b) 0).trans rfl, (blk_cell (blk_below HG.out EV.out.b) 1).trans rfl, (blk_cell EV.out.x 1).trans rfl, (EV.out.b.cell (World.block_lt_of_cell? W1 _ HKC.out)).trans HKC.out⟩ (fun hHeld => ?_)
  clear hK K
  refine done_ (done_of HT_.out (by kernel_rfl)) ?_
  clear hHeld v0 v1 v2 y0 y1 y2
  generalize (((V3.setCell ⟨gv, 0, none⟩ (.bool t1)).setCell ⟨gv, 1, none⟩ (.int .i64 t2)).setCell ⟨gv, 2, none⟩ (.int .i64 t3)) = V0 at EV BV ⊢
  clear EV3 BV3
  have v0 : V0.cell? ⟨gv, 0, none⟩ = some (.bool t1) := (blk_cell BV.out 0).trans rfl
  have v1 : V0.cell? ⟨gv, 1, none⟩ = some (.int .i64 t2) := (blk_cell BV.out 1).trans rfl
  have v2 : V0.cell? ⟨gv, 2, none⟩ = some (.int .i64 t3) := (blk_cell BV.out 2).trans rfl
  go_upto_region 33 with (fail)
  clear v0 v1 v2
  have h := HA.out
  clear HA
  cases t1 with
  | false =>
    rw [if_pos rfl] at h
    simp only [Option.some.injEq, Prod.mk.injEq] at h
    obtain ⟨rfl, rfl, rfl⟩ := h
    have v0 : V0.cell? ⟨gv, 0, none⟩ = some (.bool false) := (blk_cell BV.out 0).trans rfl
    have v1 : V0.cell? ⟨gv, 1, none⟩ = some (.int .i64 t2) := (blk_cell BV.out 1).trans rfl
    have v2 : V0.cell? ⟨gv, 2, none⟩ = some (.int .i64 t3) := (blk_cell BV.out 2).trans rfl
    have rr0 : V0.cell? ⟨gr, 0, none⟩ = some (.bool false) := (blk_cell (blk_below HR.out EV.out.b) 0).trans rfl
    have z0 : V0.frozen? ⟨gr, 0, none⟩ = false := blk_frozen (blk_below HR.out EV.out.b) 0
    have rr1 : V0.cell? ⟨gr, 1, none⟩ = some (.int .i64 0) := (blk_cell (blk_below HR.out EV.out.b) 1).trans rfl
    have z1 : V0.frozen? ⟨gr, 1, none⟩ = false := blk_frozen (blk_below HR.out EV.out.b) 1
    have rr2 : V0.cell? ⟨gr, 2, none⟩ = some (.int .i64 0) := (blk_cell (blk_below HR.out EV.out.b) 2).trans rfl
    have z2 : V0.frozen? ⟨gr, 2, none⟩ = false := blk_frozen (blk_below HR.out EV.out.b) 2
    go_wp2
    refine bodyPost_ret (results_cell_row rfl _ _ gr 31 #[.bool false, .int .i64 t2, .int .i64 t3] (0, 0) _ rfl (h18_blk3 (blk_below HR.out EV.out.b) _ _ _) Try.underlying31 rfl (by kernel_rfl)) rfl ⟨rfl, h18_below3 (below_step HB.out EV.out.b) (by have := HGB.out; have := HGR.out; omega) _ _ _⟩
  | true =>
    rw [if_neg (by decide)] at h
    have v0 : V0.cell? ⟨gv, 0, none⟩ = some (.bool true) := (blk_cell BV.out 0).trans rfl
    have v1 : V0.cell? ⟨gv, 1, none⟩ = some (.int .i64 t2) := (blk_cell BV.out 1).trans rfl
    have v2 : V0.cell? ⟨gv, 2, none⟩ = some (.int .i64 t3) := (blk_cell BV.out 2).trans rfl
    have x0 : V0.cell? ⟨gx, 0, none⟩ = some (.int .i64 nd.f0) := (blk_cell EV.out.x 0).trans rfl
    go_upto_region 36 with (fail)
    have c7 : nd.f0 = 7 := HS.out
    rw [if_pos c7] at h
    have b7 : (nd.f0 == 7) = true := beq_iff_eq.2 c7
    clear c7
    by_cases ct : t2 < 0
    · rw [if_pos ct] at h
      have ctb : decide (t2 < 0) = true := decide_eq_true ct
      clear ct
      simp only [Option.some.injEq, Prod.mk.injEq] at h
      obtain ⟨rfl, rfl, rfl⟩ := h
      have rr0 : V0.cell? ⟨gr, 0, none⟩ = some (.bool false) := (blk_cell (blk_below HR.out EV.out.b) 0).trans rfl
      have z0 : V0.frozen? ⟨gr, 0, none⟩ = false := blk_frozen (blk_below HR.out EV.out.b) 0
      have rr1 : V0.cell? ⟨gr, 1, none⟩ = some (.int .i64 0) := (blk_cell (blk_below HR.out EV.out.b) 1).trans rfl
      have z1 : V0.frozen? ⟨gr, 1, none⟩ = false := blk_frozen (blk_below HR.out EV.out.b) 1
      have rr2 : V0.cell? ⟨gr, 2, none⟩ = some (.int .i64 0) := (blk_cell (blk_below HR.out EV.out.b) 2).trans rfl
      have z2 : V0.frozen? ⟨gr, 2, none⟩ = false := blk_frozen (blk_below HR.out EV.out.b) 2
      go_wp2
      refine bodyPost_ret (results_cell_row rfl _ _ gr 31 #[.bool true, .int .i64 a3, .int .i64 t3] (0, 0) _ rfl (h18_blk3 (blk_below HR.out EV.out.b) _ _ _) Try.underlying31 rfl (by kernel_rfl)) rfl ⟨rfl, h18_below3 (below_step HB.out EV.out.b) (by have := HGB.out; have := HGR.out; omega) _ _ _⟩
    · rw [if_neg ct] at h
      have ctb : decide (t2 < 0) = false := decide_eq_false ct
      clear ct
      simp only [Option.some.injEq, Prod.mk.injEq] at h
      obtain ⟨rfl, rfl, rfl⟩ := h
      have rr0 : V0.cell? ⟨gr, 0, none⟩ = some (.bool false) := (blk_cell (blk_below HR.out EV.out.b) 0).trans rfl
      have z0 : V0.frozen? ⟨gr, 0, none⟩ = false := blk_frozen (blk_below HR.out EV.out.b) 0
      have rr1 : V0.cell? ⟨gr, 1, none⟩ = some (.int .i64 0) := (blk_cell (blk_below HR.out EV.out.b) 1).trans rfl
      have z1 : V0.frozen? ⟨gr, 1, none⟩ = false := blk_frozen (blk_below HR.out EV.out.b) 1
      have rr2 : V0.cell? ⟨gr, 2, none⟩ = some (.int .i64 0) := (blk_cell (blk_below HR.out EV.out.b) 2).trans rfl
      have z2 : V0.frozen? ⟨gr, 2, none⟩ = false := blk_frozen (blk_below HR.out EV.out.b) 2
      go_wp2
      refine bodyPost_ret (results_cell_row rfl _ _ gr 31 #[.bool true, .int .i64 t2, .int .i64 t3] (0, 0) _ rfl (h18_blk3 (blk_below HR.out EV.out.b) _ _ _) Try.underlying31 rfl (by kernel_rfl)) rfl ⟨rfl, h18_below3 (below_step HB.out EV.out.b) (by have := HGB.out; have := HGR.out; omega) _ _ _⟩
end Go.Proofs.Ythgedejnpgcacaa.V
namespace Go.Proofs.Ythgedejnpgcacaa.V
open Go.RowKit Go.Proofs.YthgedejnpgcacaaW.PrintWords Go.Proofs.YthgedejnpgcacaaW.PrintLast Go.Proofs.YthgedejnpgcacaaW.PrintMore
set_option linter.unusedVariables false
set_option linter.unusedSimpArgs false
set_option maxHeartbeats 4000000 in
set_option maxRecDepth 100000 in
theorem vetchref18_Node.calls_s8 (k : Nat) (ih : ∀ (A0_0 : Option Addr) (c0_0 : Nat) (l0_0 : List S51) (A0_1 : Option Addr) (c0_1 : Nat) (l0_1 : List S56) (a1 : Int) (a2 : ByteArray) (a3 a4 : Int) (r1 : Bool) (r2 r3 : Int) (w : World)
    (hr0_0 : Kd.C k51 w A0_0 l0_0.length l0_0) (hc0_0 : l0_0.length ≤ c0_0) (hr0_1 : Kd.C k56 w A0_1 l0_1.length l0_1) (hc0_1 : l0_1.length ≤ c0_1) (h : vetchref18_Node.f k l0_0 l0_1 a1 a2 a3 a4 = some (r1, r2, r3)), Calls Try.prog 12 #[.agg #[.slice A0_0 l0_0.length c0_0, .slice A0_1 l0_1.length c0_1], .int .i64 a1, .string a2, .int .i64 a3, .int .i64 a4] w fun e w' => e = .returned (.agg #[.bool r1, .int .i64 r2, .int .i64 r3]) ∧ Below w.heap.size w w')
    (A0_0 : Option Addr) (c0_0 : Nat) (l0_0 : List S51) (A0_1 : Option Addr) (c0_1 : Nat) (l0_1 : List S56) (a1 : Int) (a2 : ByteArray) (a3 a4 : Int) (r1 : Bool) (r2 r3 : Int) (w : World)
    (hr0_0 : Kd.C k51 w A0_0 l0_0.length l0_0) (hc0_0 : l0_0.length ≤ c0_0) (hr0_1 : Kd.C k56 w A0_1 l0_1.length l0_1) (hc0_1 : l0_1.length ≤ c0_1) (hs : Aside0 (¬ a4 < 1 ∧ (0 ≤ a1 ∧ a1 < (l0_1.length : Int)) ∧ (rd_T56 l0_1 a1).f0 = 8)) (h : vetchref18_Node.f (k + 1) l0_0 l0_1 a1 a2 a3 a4 = some (r1, r2, r3)) :
    Calls Try.prog 12 #[.agg #[.slice A0_0 l0_0.length c0_0, .slice A0_1 l0_1.length c0_1], .int .i64 a1, .string a2, .int .i64 a3, .int .i64 a4] w fun e w' => e = .returned (.agg #[.bool r1, .int .i64 r2, .int .i64 r3]) ∧ Below w.heap.size w w' := by
  rw [vetchref18_Node.f] at h
  have IH := Aside0.mk ih
  clear ih
  have hu25 := Try.underlying25
  have hu31 := Try.underlying31
  have hu56 := Try.underlying56
  have hu51 := Try.underlying51
  have hu54 := Try.underlying54
  have HB := Aside0.mk (below_alloc (below_alloc (Below.refl w.heap.size w) (.cells #[.slice A0_0 l0_0.length c0_0, .slice A0_1 l0_1.length c0_1] 25)) (.cells #[.bool false, .int .i64 0, .int .i64 0] 31))
  have HG := Aside0.mk (blk_alloc (blk_new w (.cells #[.slice A0_0 l0_0.length c0_0, .slice A0_1 l0_1.length c0_1] 25)) (.cells #[.bool false, .int .i64 0, .int .i64 0] 31))
  have HR := Aside0.mk (blk_new (w.alloc (.cells #[.slice A0_0 l0_0.length c0_0, .slice A0_1 l0_1.length c0_1] 25)) (.cells #[.bool false, .int .i64 0, .int .i64 0] 31))
  have hsz : ((w.alloc (.cells #[.slice A0_0 l0_0.length c0_0, .slice A0_1 l0_1.length c0_1] 25)).alloc (.cells #[.bool false, .int .i64 0, .int .i64 0] 31)).heap.size = w.heap.size + 1 + 1 := by rw [h18_size, h18_size]
  rw [h18_size] at HR
  have HC0 := Aside0.mk (Kd.C_below hr0_0 HB.out)
  have HC1 := Aside0.mk (Kd.C_below hr0_1 HB.out)
  have HW := Aside0.mk hsz
  clear hr0_0 hr0_1 hsz
  rw [if_neg hs.out.1, if_pos hs.out.2.1] at h
  have c4b : decide (a4 < 1) = false := decide_eq_false hs.out.1
  have H := Aside0.mk h
  clear h
  go_enter Try.func12, Try.ntmps12
  go_upto_region 1 with (fail)
  generalize ((w.alloc (.cells #[.slice A0_0 l0_0.length c0_0, .slice A0_1 l0_1.length c0_1] 25)).alloc (.cells #[.bool false, .int .i64 0, .int .i64 0] 31)) = W1 at HB HG HR HC0 HC1 HW ⊢
  obtain ⟨gb, hgb⟩ : ∃ gb, gb = w.heap.size := ⟨_, rfl⟩
  obtain ⟨gr, hgr⟩ : ∃ gr, gr = gb + 1 := ⟨_, rfl⟩
  rw [← hgb] at HW HG HR ⊢
  rw [← hgr] at HR ⊢
  have HGB := Aside0.mk hgb
  have HGR := Aside0.mk hgr
  clear hgb hgr
  go_upto_region 4 with (fail)
  clear c4b
  have g1 : W1.cell? ⟨gb, 1, none⟩ = some (.slice A0_1 l0_1.length c0_1) := (blk_cell HG.out 1).trans rfl
  have p2 := hs.out.2.1.1
  have p3 := hs.out.2.1.2
  obtain ⟨ad, Ak, ck, e, k0, k1, k2, k3, k4, k5, k6, hlk, hCk⟩ := at_T56 HC1.out a1 p2 p3
  cases e
  have HCk := Aside0.mk hCk
  have HLk := Aside0.mk hlk
  clear hCk hlk
  replace p2 := eq_true p2
  replace p3 := eq_true p3
  go_upto_region 5 with (fail)
  have HS := Aside0.mk hs.out.2.2
  clear hs
  generalize rd_T56 l0_1 a1 = nd at *
  obtain ⟨gx, hgx⟩ : ∃ gx, gx = W1.heap.size := ⟨_, rfl⟩
  have E2 : Aside0 (Env18 W1 gx #[.int .i64 nd.f0, .slice Ak nd.f1.length ck, .int .i64 nd.f2, .int .u64 nd.f3.f0, .int .u64 nd.f3.f1, .int .u64 nd.f3.f2, .int .u64 nd.f3.f3] (W1.alloc (.cells #[.int .i64 nd.f0, .slice Ak nd.f1.length ck, .int .i64 nd.f2, .int .u64 nd.f3.f0, .int .u64 nd.f3.f1, .int .u64 nd.f3.f2, .int .u64 nd.f3.f3] 56))) := ⟨by rw [hgx]; exact blk_new W1 (.cells #[.int .i64 nd.f0, .slice Ak nd.f1.length ck, .int .i64 nd.f2, .int .u64 nd.f3.f0, .int .u64 nd.f3.f1, .int .u64 nd.f3.f2, .int .u64 nd.f3.f3] 56), below_alloc (Below.refl _ _) _⟩
  have HGX := Aside0.mk hgx
  rw [← hgx]
  generalize W1.alloc (.cells #[.int .i64 nd.f0, .slice Ak nd.f1.length ck, .int .i64 nd.f2, .int .u64 nd.f3.f0, .int .u64 nd.f3.f1, .int .u64 nd.f3.f2, .int .u64 nd.f3.f3] 56) = W2 at E2 ⊢
  clear k0 k1 k2 k3 k4 k5 k6 g1 hgx p2 p3
  have h := H.out
  clear H
  have hnd : Aside0 (gb < W1.heap.size ∧ gr < W1.heap.size) := ⟨by have := HW.out; have := HGR.out; omega⟩
  generalize wrap64 (a4 - 1) = u at *
  have x0 : W2.cell? ⟨gx, 0, none⟩ = some (.int .i64 nd.f0) := (blk_cell E2.out.x 0).trans rfl
  go_upto_region 6 with (fail)
  clear x0
  have c0 : ¬ nd.f0 = 0 := by have := HS.out; omega
  rw [if_neg c0] at h
  have b0 : (nd.f0 == 0) = false := beq_eq_false_iff_ne.2 c0
  clear c0
  go_upto_region 8 with (fail)
  clear b0
  have c1 : ¬ nd.f0 = 1 := by have := HS.out; omega
  rw [if_neg c1] at h
  have b1 : (nd.f0 == 1) = false := beq_eq_false_iff_ne.2 c1
  clear c1
  go_upto_region 12 with (fail)
  clear b1
  have c2 : ¬ nd.f0 = 2 := by have := HS.out; omega
  rw [if_neg c2] at h
  have b2 : (nd.f0 == 2) = false := beq_eq_false_iff_ne.2 c2
  clear c2
  go_upto_region 14 with (fail)
  clear b2
  have c3 : ¬ nd.f0 = 3 := by have := HS.out; omega
  rw [if_neg c3] at h
  have b3 : (nd.f0 == 3) = false := beq_eq_false_iff_ne.2 c3
  clear c3
  go_upto_region 23 with (fail)
  clear b3
  have c4 : ¬ nd.f0 = 4 := by have := HS.out; omega
  rw [if_neg c4] at h
  have b4 : (nd.f0 == 4) = false := beq_eq_false_iff_ne.2 c4
  clear c4
  by_cases ck0 : nd.f1 = []
  · rw [if_pos ck0] at h
    exact absurd h (by simp)
  rw [if_neg ck0] at h
  have q9 := h18_mem nd.f1 ck0
  have HQ9 := Aside0.mk q9
  clear ck0
  obtain ⟨⟨t1, t2, t3⟩, ht, h⟩ := Option.bind_eq_some_iff.1 h
  dsimp only at ht h
  have HT := Aside0.mk ht
  have HA := Aside0.mk h
  clear ht h
  obtain ⟨ad1, he1, kc⟩ := Kd.at_int HCk.out 0 (Int.le_refl 0) HQ9.out
  cases he1
  replace kc : W1.cell? ad1 = some (.int .i64 (rd nd.f1 0)) := by simpa [Addr.add] using kc
  have HKC := Aside0.mk kc
  clear kc q9
  have kc := (E2.out.b.cell (World.block_lt_of_cell? W1 _ HKC.out)).trans HKC.out
  have x1 : W2.cell? ⟨gx, 1, none⟩ = some (.slice (some ad1) nd.f1.length ck) := (blk_cell E2.out.x 1).trans rfl
  have g0 : W2.cell? ⟨gb, 0, none⟩ = some (.slice A0_0 l0_0.length c0_0) := (blk_cell (blk_below HG.out E2.out.b) 0).trans rfl
  have g1 : W2.cell? ⟨gb, 1, none⟩ = some (.slice (some ad) l0_1.length c0_1) := (blk_cell (blk_below HG.out E2.out.b) 1).trans rfl
  have q9i := eq_true HQ9.out
  have q9n : (0 < nd.f1.length) = True := eq_true (by have := HQ9.out; omega)
  go_upto_region 32 with (fail)
  clear b4
  have EW := Aside0.mk E2.out.drew
  clear kc x1 g0 g1
  refine start_ (n := 11) (S := fun w' => w'.cell? ⟨gb, 0, none⟩ = some (.slice A0_0 l0_0.length c0_0) ∧ w'.cell? ⟨gb, 1, none⟩ = some (.slice (some ad) l0_1.length c0_1) ∧ w'.cell? ⟨gx, 1, none⟩ = some (.slice (some ad1) nd.f1.length ck) ∧ w'.cell? ad1 = some (.int .i64 (rd nd.f1 0))) (ds := []) #[false, false, false, false, false, false, false, false, false, false, false] (by kernel_rfl) rfl rfl ⟨(blk_cell (blk_below HG.out EW.out.b) 0).trans rfl, (blk_cell (blk_below HG.out EW.out.b) 1).trans rfl, (blk_cell EW.out.x 1).trans rfl, (EW.out.b.cell (World.block_lt_of_cell? W1 _ HKC.out)).trans HKC.out⟩ (fun hHeld => ?_); refine with_tabW h18_tab32 h18_bits32 (fun HT_ HW_ => ?_)
  generalize W2.drew = W3 at EW hHeld ⊢
  refine pure_ (i := 1) (N := some 136) (v := ?_) (a' := ?_) #[false, true, false, false, false, false, false, false, false, false, false] rfl rfl (any_of HT_.out (by kernel_rfl)) (fun _ _ _ h => h) (Or.inl ⟨by rfl, ?_⟩) ?_ ?_
  rotate_left
  ·
   intro w'
   go_simp
   with_reducible rfl
  rotate_left
  ·
   simp only [Act.put, List.setIfInBounds_toArray, List.set_cons_zero, List.set_cons_succ, i64_w, i32_w]
   rfl
  refine pure_ (i := 5) (N := some 140) (v := ?_) (a' := ?_) #[false, true, false, false, false, true, false, false, false, false, false] rfl rfl (any_of HT_.out (by kernel_rfl)) (fun _ _ _ h => h) (Or.inl ⟨by rfl, ?_⟩) ?_ ?_
  rotate_left
  ·
   intro w'
   go_simp
   with_reducible rfl
  rotate_left
  ·
   simp only [Act.put, List.setIfInBounds_toArray, List.set_cons_zero, List.set_cons_succ, i64_w, i32_w]
   rfl
  refine pure_ (i := 6) (N := some 141) (v := ?_) (a' := ?_) #[false, true, false, false, false, true, true, false, false, false, false] rfl rfl (any_of HT_.out (by kernel_rfl)) (fun _ _ _ h => h) (Or.inl ⟨by rfl, ?_⟩) ?_ ?_
  rotate_left
  ·
   intro w'
   go_simp
   with_reducible rfl
  rotate_left
  ·
   simp only [Act.put, List.setIfInBounds_toArray, List.set_cons_zero, List.set_cons_succ, i64_w, i32_w]
   rfl
  refine pure_ (i := 7) (N := some 142) (v := ?_) (a' := ?_) #[false, true, false, false, false, true, true, true, false, false, false] rfl rfl (any_of HT_.out (by kernel_rfl)) (fun _ _ _ h => h) (Or.inl ⟨by rfl, ?_⟩) ?_ ?_
  rotate_left
  ·
   intro w'
   go_simp
   with_reducible rfl
  rotate_left
  ·
   simp only [Act.put, List.setIfInBounds_toArray, List.set_cons_zero, List.set_cons_succ, i64_w, i32_w]
   rfl
  refine take_ (i := 0) (N := some 135) (v := ?_) (a' := ?_) #[true, true, false, false, false, true, true, true, false, false, false] rfl rfl (take_ofW HT_.out HW_.out (by kernel_rfl)) (fun _ _ _ h => h) (Or.inl ⟨by rfl, ?_⟩) hHeld ?_ ?_
  rotate_left
  ·
   rintro w' ⟨s0, s1, s2, s3⟩
   go_simp
   with_reducible rfl
  rotate_left
  ·
   simp only [Act.put, List.setIfInBounds_toArray, List.set_cons_zero, List.set_cons_succ, i64_w, i32_w]
   rfl
  refine take_ (i := 2) (N := some 137) (v := ?_) (a' := ?_) #[true, true, true, false, false, true, true, true, false, false, false] rfl rfl (take_ofW HT_.out HW_.out (by kernel_rfl)) (fun _ _ _ h => h) (Or.inl ⟨by rfl, ?_⟩) hHeld ?_ ?_
  rotate_left
  ·
   rintro w' ⟨s0, s1, s2, s3⟩
   go_simp
   with_reducible rfl
  rotate_left
  ·
   simp only [Act.put, List.setIfInBounds_toArray, List.set_cons_zero, List.set_cons_succ, i64_w, i32_w]
   rfl
  refine pure_ (i := 3) (N := some 138) (v := ?_) (a' := ?_) #[true, true, true, true, false, true, true, true, false, false, false] rfl rfl (any_of HT_.out (by kernel_rfl)) (fun _ _ _ h => h) (Or.inl ⟨by rfl, ?_⟩) ?_ ?_
  rotate_left
  ·
   intro w'
   go_simp
   with_reducible rfl
  rotate_left
  ·
   simp only [Act.put, List.setIfInBounds_toArray, List.set_cons_zero, List.set_cons_succ, i64_w, i32_w]
   rfl
  refine take_ (i := 4) (N := some 139) (v := ?_) (a' := ?_) #[true, true, true, true, true, true, true, true, false, false, false] rfl rfl (take_ofW HT_.out HW_.out (by kernel_rfl)) (fun _ _ _ h => h) (Or.inl ⟨by rfl, ?_⟩) hHeld ?_ ?_
  rotate_left
  ·
   rintro w' ⟨s0, s1, s2, s3⟩
   go_simp
   with_reducible rfl
  rotate_left
  ·
   simp only [Act.put, List.setIfInBounds_toArray, List.set_cons_zero, List.set_cons_succ, i64_w, i32_w]
   rfl
  refine join_ (σ := Nat) 1 #[true, true, true, true, true, true, true, true, true, true, false] (fun s_ => [(143, .agg #[.bool t1, .int .i64 t2, .int .i64 t3]), (16, .pointer (some ⟨s_, 0, none⟩))]) (fun s_ w' => (w'.cell? ⟨gb, 0, none⟩ = some (.slice A0_0 l0_0.length c0_0) ∧ w'.cell? ⟨gb, 1, none⟩ = some (.slice (some ad) l0_1.length c0_1) ∧ w'.cell? ⟨gx, 1, none⟩ = some (.slice (some ad1) nd.f1.length ck) ∧ w'.cell? ad1 = some (.int .i64 (rd nd.f1 0))) ∧ Env18 W1 gx #[.int .i64 nd.f0, .slice (some ad1) nd.f1.length ck, .int .i64 nd.f2, .int .u64 nd.f3.f0, .int .u64 nd.f3.f1, .int .u64 nd.f3.f2, .int .u64 nd.f3.f3] w' ∧ w'.heap[s_]? = some (.cells #[.bool false, .int .i64 0, .int .i64 0] 31 (0, 0)) ∧ gx ≠ s_ ∧ W1.heap.size ≤ s_) ?_ ?_
  rotate_left
  ·
   intro hCont
   refine two_ (i := 8) (j := 9) (Ni := some 143) (Nj := some 16) #[true, true, true, true, true, true, true, true, true, false, false] #[true, true, true, true, true, true, true, true, false, true, false] rfl rfl rfl rfl (two_of HT_.out (by kernel_rfl)) (by decide) (by decide) (fun K hK => ?_) (fun K hK => ?_)
   ·
    refine goes_ Try.func12 (by kernel_rfl) rfl #[.agg #[.slice A0_0 l0_0.length c0_0, .slice (some ad) l0_1.length c0_1], .int .i64 (rd nd.f1 0), .string a2, .int .i64 a3, .int .i64 u] (by rfl) rfl rfl (by (try simp only [List.map_toArray, List.map_cons, List.map_nil]); first | done | rfl) ?_
    refine (IH.out _ _ l0_0 _ _ l0_1 (rd nd.f1 0) a2 a3 u t1 t2 t3 _ (Kd.C_below HC0.out EW.out.b) hc0_0 (Kd.C_below HC1.out EW.out.b) hc0_1 HT.out).mono ?_
    rintro e_ V1 ⟨rfl, hb⟩
    refine ⟨_, rfl, ?_⟩
    have EV1 := Aside0.mk (EW.out.below hb)
    refine hK.out _ _ ⟨(blk_cell (blk_below HG.out EV1.out.b) 0).trans rfl, (blk_cell (blk_below HG.out EV1.out.b) 1).trans rfl, (blk_cell EV1.out.x 1).trans rfl, (EV1.out.b.cell (World.block_lt_of_cell? W1 _ HKC.out)).trans HKC.out⟩ (fun hHeld => ?_)
    clear hK K
    refine norm_ (a' := ?_) ?_ ?_
    rotate_left
    ·
     show Act.put _ (some 143) _ = _
     simp only [Act.put, List.setIfInBounds_toArray, List.set_cons_zero, List.set_cons_succ, i64_w, i32_w]
     rfl
    refine one_ (i := 9) (N := some 16) #[true, true, true, true, true, true, true, true, true, true, false] rfl rfl (one_of HT_.out (by kernel_rfl)) (by decide) (fun K hK => ?_)
    clear hb
    refine box_step ?hg (N := 16) ?hd (cs := #[.bool false, .int .i64 0, .int .i64 0]) (t := 31) ?hr ?_; (case hd => rfl); (case hg => rfl); (case hr => first | (go_simp; done) | (go_simp; rfl))
    intro gv hg V2 hbox hb
    have HBX : gx ≠ gv ∧ W1.heap.size ≤ gv := by rw [hg]; have := blk_lt EV1.out.x; have := EV1.out.b.size; omega
    have EV2 := Aside0.mk (EV1.out.below hb)
    refine hK.out _ _ ⟨(blk_cell (blk_below HG.out EV2.out.b) 0).trans rfl, (blk_cell (blk_below HG.out EV2.out.b) 1).trans rfl, (blk_cell EV2.out.x 1).trans rfl, (EV2.out.b.cell (World.block_lt_of_cell? W1 _ HKC.out)).trans HKC.out⟩ (fun hHeld => ?_)
    clear hK K
    refine norm_ (a' := ?_) ?_ ?_
    rotate_left
    ·
     show Act.put _ (some 16) _ = _
     simp only [Act.put, List.setIfInBounds_toArray, List.set_cons_zero, List.set_cons_succ, i64_w, i32_w]
     rfl
    exact norm_ (by simp only [putAll, Act.put, List.setIfInBounds_toArray, List.set_cons_zero, List.set_cons_succ]) (hCont gv _ ⟨hHeld, EV2.out, hbox, HBX.1, HBX.2⟩)
   ·
    refine box_step ?hg (N := 16) ?hd (cs := #[.bool false, .int .i64 0, .int .i64 0]) (t := 31) ?hr ?_; (case hd => rfl); (case hg => rfl); (case hr => first | (go_simp; done) | (go_simp; rfl))
    intro gv hg V1 hbox hb
    have HBX : gx ≠ gv ∧ W1.heap.size ≤ gv := by rw [hg]; have := blk_lt EW.out.x; have := EW.out.b.size; omega
    have EV1 := Aside0.mk (EW.out.below hb)
    have BX := Aside0.mk hbox
    have HBX := Aside0.mk HBX
    clear hbox hb hg
    refine hK.out _ _ ⟨(blk_cell (blk_below HG.out EV1.out.b) 0).trans rfl, (blk_cell (blk_below HG.out EV1.out.b) 1).trans rfl, (blk_cell EV1.out.x 1).trans rfl, (EV1.out.b.cell (World.block_lt_of_cell? W1 _ HKC.out)).trans HKC.out⟩ (fun hHeld => ?_)
    clear hK K
    refine norm_ (a' := ?_) ?_ ?_
    rotate_left
    ·
     show Act.put _ (some 16) _ = _
     simp only [Act.put, List.setIfInBounds_toArray, List.set_cons_zero, List.set_cons_succ, i64_w, i32_w]
     rfl
    refine one_ (i := 8) (N := some 143) #[true, true, true, true, true, true, true, true, true, true, false] rfl rfl (one_of HT_.out (by kernel_rfl)) (by decide) (fun K hK => ?_)
    refine goes_ Try.func12 (by kernel_rfl) rfl #[.agg #[.slice A0_0 l0_0.length c0_0, .slice (some ad) l0_1.length c0_1], .int .i64 (rd nd.f1 0), .string a2, .int .i64 a3, .int .i64 u] (by rfl) rfl rfl (by (try simp only [List.map_toArray, List.map_cons, List.map_nil]); first | done | rfl) ?_
    refine (IH.out _ _ l0_0 _ _ l0_1 (rd nd.f1 0) a2 a3 u t1 t2 t3 _ (Kd.C_below HC0.out EV1.out.b) hc0_0 (Kd.C_below HC1.out EV1.out.b) hc0_1 HT.out).mono ?_
    rintro e_ V2 ⟨rfl, hb⟩
    refine ⟨_, rfl, ?_⟩
    have EV2 := Aside0.mk (EV1.out.below hb)
    refine hK.out _ _ ⟨(blk_cell (blk_below HG.out EV2.out.b) 0).trans rfl, (blk_cell (blk_below HG.out EV2.out.b) 1).trans rfl, (blk_cell EV2.out.x 1).trans rfl, (EV2.out.b.cell (World.block_lt_of_cell? W1 _ HKC.out)).trans HKC.out⟩ (fun hHeld => ?_)
    clear hK K
    refine norm_ (a' := ?_) ?_ ?_
    rotate_left
    ·
     show Act.put _ (some 143) _ = _
     simp only [Act.put, List.setIfInBounds_toArray, List.set_cons_zero, List.set_cons_succ, i64_w, i32_w]
     rfl
    exact norm_ (by simp only [putAll, Act.put, List.setIfInBounds_toArray, List.set_cons_zero, List.set_cons_succ]) (hCont gv _ ⟨hHeld, EV2.out, blk_below BX.out hb, HBX.out.1, HBX.out.2⟩)
  rintro gv V3 ⟨hHeld, hE_, hB_, hn_, hg_⟩
  have EV3 := Aside0.mk hE_
  have BV3 := Aside0.mk hB_
  have HV : Aside0 (gx ≠ gv ∧ W1.heap.size ≤ gv ∧ gr ≠ gv) := ⟨hn_, hg_, by have := hnd.out; omega⟩
  clear hE_ hB_ hn_ hg_
  refine norm_ (a' := ?_) ?_ ?_
  rotate_left
  ·
   simp only [putAll, Act.put, List.setIfInBounds_toArray, List.set_cons_zero, List.set_cons_succ]
   rfl
  refine one_ (i := 10) (N := none) #[true, true, true, true, true, true, true, true, true, true, true] rfl rfl (one_of HT_.out (by kernel_rfl)) (by decide) (fun K hK => ?_)
  have v0 : V3.cell? ⟨gv, 0, none⟩ = some (.bool false) := (blk_cell BV3.out 0).trans rfl
  have y0 : V3.frozen? ⟨gv, 0, none⟩ = false := blk_frozen BV3.out 0
  have v1 : V3.cell? ⟨gv, 1, none⟩ = some (.int .i64 0) := (blk_cell BV3.out 1).trans rfl
  have y1 : V3.frozen? ⟨gv, 1, none⟩ = false := blk_frozen BV3.out 1
  have v2 : V3.cell? ⟨gv, 2, none⟩ = some (.int .i64 0) := (blk_cell BV3.out 2).trans rfl
  have y2 : V3.frozen? ⟨gv, 2, none⟩ = false := blk_frozen BV3.out 2
  refine skip_ (w1 := ?_) (by rfl) rfl ?_ ?_
  rotate_left
  ·
   go_simp
   rfl
  have EV := Aside0.mk (EV3.out.put3 HV.out.2.1 HV.out.1 (.bool t1) (.int .i64 t2) (.int .i64 t3))
  have BV := Aside0.mk (h18_blk3 BV3.out (.bool t1) (.int .i64 t2) (.int .i64 t3))
  refine hK.out _ _ ⟨(blk_cell (blk_below HG.out EV.out.b) 0).trans rfl, (blk_cell (blk_below HG.out EV.out.b) 1).trans rfl, (blk_cell EV.out.x 1).trans rfl, (EV.out.b.cell (World.block_lt_of_cell? W1 _ HKC.out)).trans HKC.out⟩ (fun hHeld => ?_)
  clear hK K
  refine done_ (done_of HT_.out (by kernel_rfl)) ?_
  clear hHeld v0 v1 v2 y0 y1 y2
  generalize (((V3.setCell ⟨gv, 0, none⟩ (.bool t1)).setCell ⟨gv, 1, none⟩ (.int .i64 t2)).setCell ⟨gv, 2, none⟩ (.int .i64 t3)) = V0 at EV BV ⊢
  clear EV3 BV3
  have v0 : V0.cell? ⟨gv, 0, none⟩ = some (.bool t1) := (blk_cell BV.out 0).trans rfl
  have v1 : V0.cell? ⟨gv, 1, none⟩ = some (.int .i64 t2) := (blk_cell BV.out 1).trans rfl
  have v2 : V0.cell? ⟨gv, 2, none⟩ = some (.int .i64 t3) := (blk_cell BV.out 2).trans rfl
  go_upto_region 33 with (fail)
  clear v0 v1 v2
  have h := HA.out
  clear HA
  cases t1 with
  | false =>
    rw [if_pos rfl] at h
    simp only [Option.some.injEq, Prod.mk.injEq] at h
    obtain ⟨rfl, rfl, rfl⟩ := h
    have v0 : V0.cell? ⟨gv, 0, none⟩ = some (.bool false) := (blk_cell BV.out 0).trans rfl
    have v1 : V0.cell? ⟨gv, 1, none⟩ = some (.int .i64 t2) := (blk_cell BV.out 1).trans rfl
    have v2 : V0.cell? ⟨gv, 2, none⟩ = some (.int .i64 t3) := (blk_cell BV.out 2).trans rfl
    have rr0 : V0.cell? ⟨gr, 0, none⟩ = some (.bool false) := (blk_cell (blk_below HR.out EV.out.b) 0).trans rfl
    have z0 : V0.frozen? ⟨gr, 0, none⟩ = false := blk_frozen (blk_below HR.out EV.out.b) 0
    have rr1 : V0.cell? ⟨gr, 1, none⟩ = some (.int .i64 0) := (blk_cell (blk_below HR.out EV.out.b) 1).trans rfl
    have z1 : V0.frozen? ⟨gr, 1, none⟩ = false := blk_frozen (blk_below HR.out EV.out.b) 1
    have rr2 : V0.cell? ⟨gr, 2, none⟩ = some (.int .i64 0) := (blk_cell (blk_below HR.out EV.out.b) 2).trans rfl
    have z2 : V0.frozen? ⟨gr, 2, none⟩ = false := blk_frozen (blk_below HR.out EV.out.b) 2
    go_wp2
    refine bodyPost_ret (results_cell_row rfl _ _ gr 31 #[.bool false, .int .i64 t2, .int .i64 t3] (0, 0) _ rfl (h18_blk3 (blk_below HR.out EV.out.b) _ _ _) Try.underlying31 rfl (by kernel_rfl)) rfl ⟨rfl, h18_below3 (below_step HB.out EV.out.b) (by have := HGB.out; have := HGR.out; omega) _ _ _⟩
  | true =>
    rw [if_neg (by decide)] at h
    have v0 : V0.cell? ⟨gv, 0, none⟩ = some (.bool true) := (blk_cell BV.out 0).trans rfl
    have v1 : V0.cell? ⟨gv, 1, none⟩ = some (.int .i64 t2) := (blk_cell BV.out 1).trans rfl
    have v2 : V0.cell? ⟨gv, 2, none⟩ = some (.int .i64 t3) := (blk_cell BV.out 2).trans rfl
    have x0 : V0.cell? ⟨gx, 0, none⟩ = some (.int .i64 nd.f0) := (blk_cell EV.out.x 0).trans rfl
    go_upto_region 36 with (fail)
    have c7 : ¬ nd.f0 = 7 := by have := HS.out; omega
    rw [if_neg c7] at h
    have b7 : (nd.f0 == 7) = false := beq_eq_false_iff_ne.2 c7
    clear c7
    go_upto_region 40 with (fail)
    clear b7
    have c8 : nd.f0 = 8 := HS.out
    rw [if_pos c8] at h
    have b8 : (nd.f0 == 8) = true := beq_iff_eq.2 c8
    clear c8
    by_cases ct : t2 < 0
    · rw [if_pos ct] at h
      have ctb : decide (t2 < 0) = true := decide_eq_true ct
      clear ct
      simp only [Option.some.injEq, Prod.mk.injEq] at h
      obtain ⟨rfl, rfl, rfl⟩ := h
      have rr0 : V0.cell? ⟨gr, 0, none⟩ = some (.bool false) := (blk_cell (blk_below HR.out EV.out.b) 0).trans rfl
      have z0 : V0.frozen? ⟨gr, 0, none⟩ = false := blk_frozen (blk_below HR.out EV.out.b) 0
      have rr1 : V0.cell? ⟨gr, 1, none⟩ = some (.int .i64 0) := (blk_cell (blk_below HR.out EV.out.b) 1).trans rfl
      have z1 : V0.frozen? ⟨gr, 1, none⟩ = false := blk_frozen (blk_below HR.out EV.out.b) 1
      have rr2 : V0.cell? ⟨gr, 2, none⟩ = some (.int .i64 0) := (blk_cell (blk_below HR.out EV.out.b) 2).trans rfl
      have z2 : V0.frozen? ⟨gr, 2, none⟩ = false := blk_frozen (blk_below HR.out EV.out.b) 2
      go_wp2
      refine bodyPost_ret (results_cell_row rfl _ _ gr 31 #[.bool true, .int .i64 t2, .int .i64 t3] (0, 0) _ rfl (h18_blk3 (blk_below HR.out EV.out.b) _ _ _) Try.underlying31 rfl (by kernel_rfl)) rfl ⟨rfl, h18_below3 (below_step HB.out EV.out.b) (by have := HGB.out; have := HGR.out; omega) _ _ _⟩
    · rw [if_neg ct] at h
      have ctb : decide (t2 < 0) = false := decide_eq_false ct
      clear ct
      simp only [Option.some.injEq, Prod.mk.injEq] at h
      obtain ⟨rfl, rfl, rfl⟩ := h
      have rr0 : V0.cell? ⟨gr, 0, none⟩ = some (.bool false) := (blk_cell (blk_below HR.out EV.out.b) 0).trans rfl
      have z0 : V0.frozen? ⟨gr, 0, none⟩ = false := blk_frozen (blk_below HR.out EV.out.b) 0
      have rr1 : V0.cell? ⟨gr, 1, none⟩ = some (.int .i64 0) := (blk_cell (blk_below HR.out EV.out.b) 1).trans rfl
      have z1 : V0.frozen? ⟨gr, 1, none⟩ = false := blk_frozen (blk_below HR.out EV.out.b) 1
      have rr2 : V0.cell? ⟨gr, 2, none⟩ = some (.int .i64 0) := (blk_cell (blk_below HR.out EV.out.b) 2).trans rfl
      have z2 : V0.frozen? ⟨gr, 2, none⟩ = false := blk_frozen (blk_below HR.out EV.out.b) 2
      go_wp2
      refine bodyPost_ret (results_cell_row rfl _ _ gr 31 #[.bool true, .int .i64 a3, .int .i64 t3] (0, 0) _ rfl (h18_blk3 (blk_below HR.out EV.out.b) _ _ _) Try.underlying31 rfl (by kernel_rfl)) rfl ⟨rfl, h18_below3 (below_step HB.out EV.out.b) (by have := HGB.out; have := HGR.out; omega) _ _ _⟩
end Go.Proofs.Ythgedejnpgcacaa.V
