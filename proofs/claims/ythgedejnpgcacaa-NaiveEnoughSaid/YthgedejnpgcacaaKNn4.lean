/- The law NaiveEnough returns true whatever comes in, and leaves its arguments as they were. No condition. -/
import Derived.Test.YthgedejnpgcacaaKNn3
import Derived.StillTailTactics
import Derived.OpenShut
import Derived.Carry
import Derived.Deep.Slices
import Derived.DataElems
import Derived.Laws.Bits64b
namespace Go.Proofs.Ythgedejnpgcacaa.V
open Go.RowKit Go.Proofs.YthgedejnpgcacaaW.PrintWords Go.Proofs.YthgedejnpgcacaaW.PrintLast Go.Proofs.YthgedejnpgcacaaW.PrintMore
attribute [local go_sem] max2_int min2_int max_two min_two max_three min_three max_four min_four tdiv_most
set_option linter.unusedVariables false
set_option linter.unusedSimpArgs false
def vetchref11_Of.l0 : Nat → List (S45) → List (S51) → List (S56) → Option ((List (S45)))
 | 0, _, _, _ => none
 | k + 1, x3, x304000, x304001 => (vetchref11_Step.f k x304000 x304001 x3).bind fun t307 => ((vetchref11_Same.f k x3 t307).bind fun t310 => (if t310 = true then (some x3) else (vetchref11_Of.l0 k t307 x304000 x304001)))
def vetchref11_Of.f (k : Nat) (l0_0 : List (S51)) (l0_1 : List (S56)) : Option ((List (S45))) := if 0 ≤ (l0_1.length : Int) then (if ((l0_1.length : Int) : Int).toNat ≤ 93824992236885 then (vetchref11_Of.l0 k (List.replicate ((l0_1.length : Int) : Int).toNat z45) l0_0 l0_1) else (none)) else (none)
set_option maxHeartbeats 8000000 in
set_option maxRecDepth 100000 in
theorem vetchref11_Of.calls (k : Nat) (A0_0 : Option Addr) (c0_0 : Nat) (l0_0 : List (S51)) (A0_1 : Option Addr) (c0_1 : Nat) (l0_1 : List (S56)) (r : List (S45)) (w : World) (hr0_0 : Kd.C k51 w A0_0 l0_0.length l0_0) (hc0_0 : l0_0.length ≤ c0_0) (hr0_1 : Kd.C k56 w A0_1 l0_1.length l0_1) (hc0_1 : l0_1.length ≤ c0_1) (h : vetchref11_Of.f k l0_0 l0_1 = some r) :
 Calls Try.prog 17 #[.agg #[.slice A0_0 l0_0.length c0_0, .slice A0_1 l0_1.length c0_1]] w fun e w' => ∃ v0_ : Value, e = .returned (v0_) ∧ Kd.R k45 45 w' w.heap.size (fun _ => True) v0_ r ∧ Below w.heap.size w w' := by
 have hu25 := Try.underlying25
 have HR0_0 := Aside0.mk hr0_0
 have HC0_0 := Aside0.mk hc0_0
 clear hr0_0 hc0_0
 have HR0_1 := Aside0.mk hr0_1
 have HC0_1 := Aside0.mk hc0_1
 clear hr0_1 hc0_1
 have HB := Aside0.mk (Below.refl w.heap.size w)
 have H : (if 0 ≤ (l0_1.length : Int) then (if ((l0_1.length : Int) : Int).toNat ≤ 93824992236885 then (vetchref11_Of.l0 k (List.replicate ((l0_1.length : Int) : Int).toNat z45) l0_0 l0_1) else (none)) else (none)) = some r := h
 clear h
 by_cases c2 : 0 ≤ (l0_1.length : Int)
 ·
  rw [if_pos c2] at H
  have c2b0 := eq_true c2
  have c2b1 : decide (0 ≤ (l0_1.length : Int)) = true := decide_eq_true c2
  clear c2
  by_cases c3 : ((l0_1.length : Int) : Int).toNat ≤ 93824992236885
  ·
   rw [if_pos c3] at H
   have c3b0 := eq_true c3
   have c3b1 : decide (((l0_1.length : Int) : Int).toNat ≤ 93824992236885) = true := decide_eq_true c3
   clear c3
   obtain ⟨y304, hy304⟩ : ∃ y_ : List (S45), y_ = (List.replicate ((l0_1.length : Int) : Int).toNat z45) := ⟨_, rfl⟩
   replace H : (vetchref11_Of.l0 k y304 l0_0 l0_1) = some r := by first | (rw [hy304]; with_reducible exact H) | (have H2_ := (Option.bind_some _ _).symm.trans H; rw [hy304]; with_reducible exact H2_) | (have H2_ := (Option.bind_some _ _).symm.trans H; with_reducible exact H2_) | with_reducible exact H | (rw [hy304]; exact H) | exact H
   have Ny304 := Aside0.mk hy304
   clear hy304
   have H' := Aside0.mk H
   clear H
   go_enter Try.func17, Try.ntmps17
   go_wp2_with (first | ((with_reducible refine gate_dst (N := 1) rfl ?_); refine box_event ?hg (N := 1) ?hd (cs := #[.slice A0_0 l0_0.length c0_0, .slice A0_1 l0_1.length c0_1]) (t := 25) ?hr ?_; (case hd => rfl); (case hg => rfl); (case hr => first | (go_simp; done) | (go_simp; rfl)); intro gb303 hg w4 hbox hb; have n0_ := Aside0.mk (below_step (by repeat (first | (with_reducible first | exact HB.out | apply below_alloc | apply pw_below_drewN | apply below_drew1) | exact HB.out)) hb); have n1_ := Aside0.mk (hbox); have n2_ := Aside0.mk ((by rw [hg]; exact (below_size (by repeat (first | (with_reducible first | exact HB.out | apply below_alloc | apply pw_below_drewN | apply below_drew1) | exact HB.out))) : w.heap.size ≤ gb303)); have n3_ := Aside0.mk ((by rw [hg]; exact (below_size (by repeat (first | (with_reducible first | exact HB.out | apply below_alloc | apply pw_below_drewN | apply below_drew1) | exact HB.out))) : w.heap.size ≤ gb303)); clear HB; have HB := n0_; have BK303 := n1_; have GW303 := n2_; have GE303 := n3_; clear n0_ n1_ n2_ n3_; clear hb hbox hg; have hcz5_0 : w4.cell? ⟨gb303, 0, none⟩ = some (.slice A0_0 l0_0.length c0_0) := (blk_cell BK303.out 0).trans rfl; have hcz5_1 : w4.cell? ⟨gb303, 1, none⟩ = some (.slice A0_1 l0_1.length c0_1) := (blk_cell BK303.out 1).trans rfl; have hfz5_0 := blk_frozen BK303.out 0; have hfz5_1 := blk_frozen BK303.out 1) | ((with_reducible refine gate_dst (N := 8) rfl ?_); refine Kd.R_make k45 _ 45 rfl (N := 8) rfl 46 _ _ rfl (l0_1.length : Int) rfl rfl Try.underlying46 (.agg #[(.bool false), (.bool false), (.bool false)]) 3 info45 rfl (by decide) (by omega) z45 (ok := fun _ => True) (okp := fun _ => True) (k45_mkM _ _ _ z45 ) (fun _ hk => hk) trivial (of_decide_eq_true (by first | (with_reducible assumption) | assumption)) (Nat.le_trans (Nat.mul_le_mul_right _ (of_decide_eq_true (by first | (with_reducible assumption) | assumption) : (l0_1.length : Int).toNat ≤ 93824992236885)) (by omega)) (Below.refl _ _) (Nat.le_refl _) ?_; intro v305 w6 ho7 hb hg_ hnew_; clear hg_ hnew_; (first | rw [← Ny304.out] at ho7 | (simp only [Int.reduceToNat] at ho7; rw [← Ny304.out] at ho7)); have n0_ := Aside0.mk (Kd.R_lower ho7 (below_size (by repeat (first | (with_reducible first | exact HB.out | apply below_alloc | apply pw_below_drewN | apply below_drew1 | refine below_set ?_ GE303.out) | exact HB.out)))); have n1_ := Aside0.mk (blk_below (g := gb303) (o := .cells #[.slice A0_0 l0_0.length c0_0, .slice A0_1 l0_1.length c0_1] 25 (0, 0)) (by (with_reducible repeat (first | refine blk_drewN ?_ _ | refine blk_drew ?_ | refine blk_alloc ?_ _)); exact BK303.out) hb); have n2_ := Aside0.mk (below_step (by repeat (first | (with_reducible first | exact HB.out | apply below_alloc | apply pw_below_drewN | apply below_drew1 | refine below_set ?_ GE303.out) | exact HB.out)) hb); clear BK303; clear HB; have HO306 := n0_; have BK303 := n1_; have HB := n2_; clear n0_ n1_ n2_; clear hb ho7))
   go_loopg [3] k (fun kq v3 w' => ∃ (x3_1 : List (S45)), Aside0 (vetchref11_Of.l0 kq x3_1 l0_0 l0_1 = some r) ∧ Aside0 (kq ≤ k) ∧ Aside0 (Kd.R k45 45 w' w.heap.size (fun _ => True) v3 x3_1) ∧ Aside0 (w'.heap[gb303]? = some (.cells #[(.slice A0_0 l0_0.length c0_0), (.slice A0_1 l0_1.length c0_1)] 25 (0, 0))) ∧ Aside0 (Below w.heap.size w w'))
   case atStart => exact ⟨(y304), H', ⟨Nat.le_refl _⟩, ⟨by (with_reducible repeat (first | apply Kd.R_alloc | apply Kd.R_drewN | apply Kd.R_drew)); exact HO306.out⟩, ⟨by (with_reducible repeat (first | refine blk_drewN ?_ _ | refine blk_drew ?_ | refine blk_alloc ?_ _)); exact BK303.out⟩, ⟨by repeat (first | (with_reducible first | exact HB.out | apply below_alloc | apply pw_below_drewN | apply below_drew1 | refine below_set ?_ GE303.out) | exact HB.out)⟩⟩
   case round =>
    clear H'
    try clear c1
    try clear c2
    try clear c2b0
    try clear c2b1
    try clear p2
    try clear c3
    try clear c3b0
    try clear c3b1
    try clear hcz5_0
    try clear hcz5_1
    try clear hfz5_0
    try clear hfz5_1
    obtain ⟨x3_1, HA, HK1, HO_3, BK303, HB⟩ := hrel
    cases gk with
    | zero => exact absurd HA.out (by simp [vetchref11_Of.l0])
    | succ k1 =>
     have H := HA.out
     clear HA
     simp only [vetchref11_Of.l0] at H
     replace H := Option.bind_eq_some_iff.mp H
     obtain ⟨t307, A80, H⟩ := H
     replace H : ((vetchref11_Same.f k1 x3_1 t307).bind fun t310 => (if t310 = true then (some x3_1) else (vetchref11_Of.l0 k1 t307 l0_0 l0_1))) = some r := H
     have A8 := Aside0.mk A80
     clear A80
     replace H := Option.bind_eq_some_iff.mp H
     obtain ⟨t310, A90, H⟩ := H
     replace H : (if t310 = true then (some x3_1) else (vetchref11_Of.l0 k1 t307 l0_0 l0_1)) = some r := H
     have A9 := Aside0.mk A90
     clear A90
     by_cases c10 : t310 = true
     ·
      subst c10
      have H1 : (some x3_1) = some r := by rw [if_pos rfl] at H; exact H
      clear H
      have H := H1
      clear H1
      obtain rfl := Option.some.inj H
      have hcz11_0 : wr.cell? ⟨gb303, 0, none⟩ = some (.slice A0_0 l0_0.length c0_0) := (blk_cell BK303.out 0).trans rfl
      have hcz11_1 : wr.cell? ⟨gb303, 1, none⟩ = some (.slice A0_1 l0_1.length c0_1) := (blk_cell BK303.out 1).trans rfl
      have hfz11_0 := blk_frozen BK303.out 0
      have hfz11_1 := blk_frozen BK303.out 1
      obtain ⟨Ao12, co12, eo12⟩ := Kd.R_slice HO_3.out
      subst eo12
      go_wp2_with (first | ((with_reducible refine gate_callee (f := 22) rfl ?_); refine goesL_ (some 11) rfl rfl Try.func22 (by kernel_rfl) rfl #[.agg #[.slice A0_0 l0_0.length c0_0, .slice A0_1 l0_1.length c0_1], .slice Ao12 x3_1.length co12] rfl (by (try simp only [List.map_toArray, List.map_cons, List.map_nil]); first | done | rfl | (simp only [List.length_drop, List.length_take]; rfl)) ?_; (with_reducible refine (vetchref11_Step.calls k1 _ _ l0_0 _ _ l0_1 _ _ x3_1 t307 _ ?side1 ?side2 ?side3 ?side4 ?side5 ?side6 A8.out).mono ?_); (case side1 => repeat (first | exact (Kd.C_below HR0_0.out HB.out) | (with_reducible refine Kd.C_alloc ?_ _) | (with_reducible refine Kd.C_drewN ?_ _) | (with_reducible refine Kd.C_drew ?_))); (case side2 => exact HC0_0.out); (case side3 => repeat (first | exact (Kd.C_below HR0_1.out HB.out) | (with_reducible refine Kd.C_alloc ?_ _) | (with_reducible refine Kd.C_drewN ?_ _) | (with_reducible refine Kd.C_drew ?_))); (case side4 => exact HC0_1.out); (case side5 => repeat (first | exact (Kd.R_reads' HO_3.out).2.2 | (with_reducible refine Kd.C_alloc ?_ _) | (with_reducible refine Kd.C_drewN ?_ _) | (with_reducible refine Kd.C_drew ?_))); (case side6 => exact (Kd.R_reads' HO_3.out).2.1); rintro e w13 ⟨v308, rfl, ho0, hb⟩; refine ⟨_, rfl, ?_⟩; have n0_ := Aside0.mk (Kd.R_elder' (by (with_reducible repeat (first | apply Kd.R_alloc | apply Kd.R_drewN | apply Kd.R_drew)); exact HO_3.out) (Kd.R_base ho0) hb); have n1_ := Aside0.mk (Kd.R_lower (Kd.R_new' ho0 (Kd.R_lt (by (with_reducible repeat (first | apply Kd.R_alloc | apply Kd.R_drewN | apply Kd.R_drew)); exact HO_3.out))) (below_size (by repeat (first | (with_reducible first | exact HB.out | apply below_alloc | apply pw_below_drewN | apply below_drew1 | refine below_set ?_ GE303.out) | exact HB.out)))); have n2_ := Aside0.mk (blk_below (g := gb303) (o := .cells #[.slice A0_0 l0_0.length c0_0, .slice A0_1 l0_1.length c0_1] 25 (0, 0)) (by (with_reducible repeat (first | refine blk_drewN ?_ _ | refine blk_drew ?_ | refine blk_alloc ?_ _)); exact BK303.out) hb); have n3_ := Aside0.mk (below_step (by repeat (first | (with_reducible first | exact HB.out | apply below_alloc | apply pw_below_drewN | apply below_drew1 | refine below_set ?_ GE303.out) | exact HB.out)) hb); clear HO_3; clear BK303; clear HB; have HO_3 := n0_; have HO309 := n1_; have BK303 := n2_; have HB := n3_; clear n0_ n1_ n2_ n3_; (try clear hb); (try clear hb2); (try clear hk); (try clear hi); (try clear ho0); obtain ⟨Ao14, co14, eo14⟩ := Kd.R_slice HO309.out; subst eo14) | ((with_reducible refine gate_callee (f := 23) rfl ?_); refine goesL_ (some 14) rfl rfl Try.func23 (by kernel_rfl) rfl #[.slice Ao12 x3_1.length co12, .slice Ao14 t307.length co14] rfl (by (try simp only [List.map_toArray, List.map_cons, List.map_nil]); first | done | rfl | (simp only [List.length_drop, List.length_take]; rfl)) ?_; (with_reducible refine (vetchref11_Same.calls k1 _ _ x3_1 _ _ t307 true _ ?side1 ?side2 ?side3 ?side4 A9.out).mono ?_); (case side1 => repeat (first | exact (Kd.R_reads' HO_3.out).2.2 | (with_reducible refine Kd.C_alloc ?_ _) | (with_reducible refine Kd.C_drewN ?_ _) | (with_reducible refine Kd.C_drew ?_))); (case side2 => exact (Kd.R_reads' HO_3.out).2.1); (case side3 => repeat (first | exact (Kd.R_reads' HO309.out).2.2 | (with_reducible refine Kd.C_alloc ?_ _) | (with_reducible refine Kd.C_drewN ?_ _) | (with_reducible refine Kd.C_drew ?_))); (case side4 => exact (Kd.R_reads' HO309.out).2.1); rintro e w' ⟨rfl, ⟨nd, rfl⟩⟩; refine ⟨_, rfl, ?_⟩))
      go_ret
      exact ⟨_, by first | rfl | (simp [errW_none, errW_some] <;> rfl) | (simp [*, errW_none, errW_some] <;> rfl), by (with_reducible repeat (first | apply Kd.R_alloc | apply Kd.R_drewN | apply Kd.R_drew)); exact Kd.R_mono HO_3.out (fun _ hk => trivial), by repeat (first | (with_reducible first | exact HB.out | apply below_alloc | apply pw_below_drewN | apply below_drew1 | refine below_set ?_ GE303.out) | exact HB.out)⟩
     ·
      replace c10 := Bool.eq_false_iff.mpr c10
      subst c10
      have H1 : (vetchref11_Of.l0 k1 t307 l0_0 l0_1) = some r := by rw [if_neg (show ¬ (false = true) by decide)] at H; exact H
      clear H
      have H := H1
      clear H1
      have H' := Aside0.mk H
      clear H
      have hcz15_0 : wr.cell? ⟨gb303, 0, none⟩ = some (.slice A0_0 l0_0.length c0_0) := (blk_cell BK303.out 0).trans rfl
      have hcz15_1 : wr.cell? ⟨gb303, 1, none⟩ = some (.slice A0_1 l0_1.length c0_1) := (blk_cell BK303.out 1).trans rfl
      have hfz15_0 := blk_frozen BK303.out 0
      have hfz15_1 := blk_frozen BK303.out 1
      obtain ⟨Ao16, co16, eo16⟩ := Kd.R_slice HO_3.out
      subst eo16
      go_wp2_with (first | ((with_reducible refine gate_callee (f := 22) rfl ?_); refine goesL_ (some 11) rfl rfl Try.func22 (by kernel_rfl) rfl #[.agg #[.slice A0_0 l0_0.length c0_0, .slice A0_1 l0_1.length c0_1], .slice Ao16 x3_1.length co16] rfl (by (try simp only [List.map_toArray, List.map_cons, List.map_nil]); first | done | rfl | (simp only [List.length_drop, List.length_take]; rfl)) ?_; (with_reducible refine (vetchref11_Step.calls k1 _ _ l0_0 _ _ l0_1 _ _ x3_1 t307 _ ?side1 ?side2 ?side3 ?side4 ?side5 ?side6 A8.out).mono ?_); (case side1 => repeat (first | exact (Kd.C_below HR0_0.out HB.out) | (with_reducible refine Kd.C_alloc ?_ _) | (with_reducible refine Kd.C_drewN ?_ _) | (with_reducible refine Kd.C_drew ?_))); (case side2 => exact HC0_0.out); (case side3 => repeat (first | exact (Kd.C_below HR0_1.out HB.out) | (with_reducible refine Kd.C_alloc ?_ _) | (with_reducible refine Kd.C_drewN ?_ _) | (with_reducible refine Kd.C_drew ?_))); (case side4 => exact HC0_1.out); (case side5 => repeat (first | exact (Kd.R_reads' HO_3.out).2.2 | (with_reducible refine Kd.C_alloc ?_ _) | (with_reducible refine Kd.C_drewN ?_ _) | (with_reducible refine Kd.C_drew ?_))); (case side6 => exact (Kd.R_reads' HO_3.out).2.1); rintro e w17 ⟨v308, rfl, ho0, hb⟩; refine ⟨_, rfl, ?_⟩; have n0_ := Aside0.mk (Kd.R_elder' (by (with_reducible repeat (first | apply Kd.R_alloc | apply Kd.R_drewN | apply Kd.R_drew)); exact HO_3.out) (Kd.R_base ho0) hb); have n1_ := Aside0.mk (Kd.R_lower (Kd.R_new' ho0 (Kd.R_lt (by (with_reducible repeat (first | apply Kd.R_alloc | apply Kd.R_drewN | apply Kd.R_drew)); exact HO_3.out))) (below_size (by repeat (first | (with_reducible first | exact HB.out | apply below_alloc | apply pw_below_drewN | apply below_drew1 | refine below_set ?_ GE303.out) | exact HB.out)))); have n2_ := Aside0.mk (blk_below (g := gb303) (o := .cells #[.slice A0_0 l0_0.length c0_0, .slice A0_1 l0_1.length c0_1] 25 (0, 0)) (by (with_reducible repeat (first | refine blk_drewN ?_ _ | refine blk_drew ?_ | refine blk_alloc ?_ _)); exact BK303.out) hb); have n3_ := Aside0.mk (below_step (by repeat (first | (with_reducible first | exact HB.out | apply below_alloc | apply pw_below_drewN | apply below_drew1 | refine below_set ?_ GE303.out) | exact HB.out)) hb); clear HO_3; clear BK303; clear HB; have HO_3 := n0_; have HO309 := n1_; have BK303 := n2_; have HB := n3_; clear n0_ n1_ n2_ n3_; (try clear hb); (try clear hb2); (try clear hk); (try clear hi); (try clear ho0); obtain ⟨Ao18, co18, eo18⟩ := Kd.R_slice HO309.out; subst eo18) | ((with_reducible refine gate_callee (f := 23) rfl ?_); refine goesL_ (some 14) rfl rfl Try.func23 (by kernel_rfl) rfl #[.slice Ao16 x3_1.length co16, .slice Ao18 t307.length co18] rfl (by (try simp only [List.map_toArray, List.map_cons, List.map_nil]); first | done | rfl | (simp only [List.length_drop, List.length_take]; rfl)) ?_; (with_reducible refine (vetchref11_Same.calls k1 _ _ x3_1 _ _ t307 false _ ?side1 ?side2 ?side3 ?side4 A9.out).mono ?_); (case side1 => repeat (first | exact (Kd.R_reads' HO_3.out).2.2 | (with_reducible refine Kd.C_alloc ?_ _) | (with_reducible refine Kd.C_drewN ?_ _) | (with_reducible refine Kd.C_drew ?_))); (case side2 => exact (Kd.R_reads' HO_3.out).2.1); (case side3 => repeat (first | exact (Kd.R_reads' HO309.out).2.2 | (with_reducible refine Kd.C_alloc ?_ _) | (with_reducible refine Kd.C_drewN ?_ _) | (with_reducible refine Kd.C_drew ?_))); (case side4 => exact (Kd.R_reads' HO309.out).2.1); rintro e w' ⟨rfl, ⟨nd, rfl⟩⟩; refine ⟨_, rfl, ?_⟩))
      go_roundg k1
      case measure => have := HK1.out; omega
      case rel => exact ⟨(t307), H', ⟨by have := HK1.out; omega⟩, ⟨by (with_reducible repeat (first | apply Kd.R_alloc | apply Kd.R_drewN | apply Kd.R_drew)); exact Kd.R_mono HO309.out (fun _ hk => trivial)⟩, ⟨by (with_reducible repeat (first | refine blk_drewN ?_ _ | refine blk_drew ?_ | refine blk_alloc ?_ _)); exact BK303.out⟩, ⟨by repeat (first | (with_reducible first | exact HB.out | apply below_alloc | apply pw_below_drewN | apply below_drew1 | refine below_set ?_ GE303.out) | exact HB.out)⟩⟩
  ·
   rw [if_neg c3] at H
   exact absurd H (by simp)
 ·
  rw [if_neg c2] at H
  exact absurd H (by simp)
end Go.Proofs.Ythgedejnpgcacaa.V
namespace Go.Proofs.Ythgedejnpgcacaa.V
open Go.RowKit Go.Proofs.YthgedejnpgcacaaW.PrintWords Go.Proofs.YthgedejnpgcacaaW.PrintLast Go.Proofs.YthgedejnpgcacaaW.PrintMore
attribute [local go_sem] max2_int min2_int max_two min_two max_three min_three max_four min_four tdiv_most
set_option linter.unusedVariables false
set_option linter.unusedSimpArgs false
mutual
def vetchref12_holds.l0 : Nat → List (S45) → List Bool → Int → Int → List Int → Int → Int → Int → Int → Int → Option (Bool)
 | 0, _, _, _, _, _, _, _, _, _, _ => none
 | k + 1, x1, x2, x10, x328000, x328001, x328002, x328003, x328004, x328005, x328006 => if x10 < (x328001.length : Int) then (vetchref12_holds.l1 k x1 x2 x10 true 0 x328000 x328001 x328002 x328003 x328004 x328005 x328006) else (some true)
def vetchref12_holds.l1 : Nat → List (S45) → List Bool → Int → Bool → Int → Int → List Int → Int → Int → Int → Int → Int → Option (Bool)
 | 0, _, _, _, _, _, _, _, _, _, _, _, _ => none
 | k + 1, x1, x2, x10, x11, x12, x328000, x328001, x328002, x328003, x328004, x328005, x328006 => if x12 < x10 then (if x11 = true then (if 0 ≤ x12 then (if x12 < (x328001.length : Int) then (if 0 ≤ (rd x328001 x12) then (if (rd x328001 x12) < (x1.length : Int) then (vetchref12_holds.l1 k x1 x2 x10 ((rd_T45 x1 (rd x328001 x12)).f0) (wrap64 (x12 + 1)) x328000 x328001 x328002 x328003 x328004 x328005 x328006) else (none)) else (none)) else (none)) else (none)) else (vetchref12_holds.l1 k x1 x2 x10 false (wrap64 (x12 + 1)) x328000 x328001 x328002 x328003 x328004 x328005 x328006)) else (if x11 = true then (if 0 ≤ x10 then (if x10 < (x328001.length : Int) then (if 0 ≤ (rd x328001 x10) then (if (rd x328001 x10) < (x2.length : Int) then (if rdOf false x2 (rd x328001 x10) = true then (vetchref12_holds.l0 k x1 x2 (wrap64 (x10 + 1)) x328000 x328001 x328002 x328003 x328004 x328005 x328006) else (some false)) else (none)) else (none)) else (none)) else (none)) else (vetchref12_holds.l0 k x1 x2 (wrap64 (x10 + 1)) x328000 x328001 x328002 x328003 x328004 x328005 x328006))
def vetchref12_holds.l2 : Nat → List (S45) → List Bool → Int → Int → List Int → Int → Int → Int → Int → Int → Option (Bool)
 | 0, _, _, _, _, _, _, _, _, _, _ => none
 | k + 1, x1, x2, x13, x328000, x328001, x328002, x328003, x328004, x328005, x328006 => if x13 < (x328001.length : Int) then (if 0 ≤ x13 then (if 0 ≤ (rd x328001 x13) then (if (rd x328001 x13) < (x2.length : Int) then (if rdOf false x2 (rd x328001 x13) = true then (vetchref12_holds.l2 k x1 x2 (wrap64 (x13 + 1)) x328000 x328001 x328002 x328003 x328004 x328005 x328006) else (some false)) else (none)) else (none)) else (none)) else (if x328000 = 5 then (if 0 < (x328001.length : Int) then (if 0 ≤ (rd x328001 0) then (if (rd x328001 0) < (x1.length : Int) then (some (!((rd_T45 x1 (rd x328001 0)).f0))) else (none)) else (none)) else (none)) else (if x328000 = 6 then (if 0 < (x328001.length : Int) then (if 0 ≤ (rd x328001 0) then (if (rd x328001 0) < (x1.length : Int) then (some (!((rd_T45 x1 (rd x328001 0)).f0))) else (none)) else (none)) else (none)) else (some true)))
end
def vetchref12_holds.f (k : Nat) (l0_0 : List (S51)) (l0_1 : List (S56)) (l1 : List (S45)) (l2 : List Bool) (a3 : Int) : Option (Bool) := if 0 ≤ a3 then (if a3 < (l0_1.length : Int) then (if ((rd_T56 l0_1 a3).f0) = 2 then (if 0 ≤ ((rd_T56 l0_1 a3).f2) then (if ((rd_T56 l0_1 a3).f2) < (l0_0.length : Int) then (if 0 ≤ ((rd_T51 l0_0 ((rd_T56 l0_1 a3).f2)).f1) then (if ((rd_T51 l0_0 ((rd_T56 l0_1 a3).f2)).f1) < (l2.length : Int) then (some (rdOf false l2 ((rd_T51 l0_0 ((rd_T56 l0_1 a3).f2)).f1))) else (none)) else (none)) else (none)) else (none)) else (if ((rd_T56 l0_1 a3).f0) = 3 then (vetchref12_holds.l0 k l1 l2 0 ((rd_T56 l0_1 a3).f0) ((rd_T56 l0_1 a3).f1) ((rd_T56 l0_1 a3).f2) ((rd_T56 l0_1 a3).f3.f0) ((rd_T56 l0_1 a3).f3.f1) ((rd_T56 l0_1 a3).f3.f2) ((rd_T56 l0_1 a3).f3.f3)) else (vetchref12_holds.l2 k l1 l2 0 ((rd_T56 l0_1 a3).f0) ((rd_T56 l0_1 a3).f1) ((rd_T56 l0_1 a3).f2) ((rd_T56 l0_1 a3).f3.f0) ((rd_T56 l0_1 a3).f3.f1) ((rd_T56 l0_1 a3).f3.f2) ((rd_T56 l0_1 a3).f3.f3)))) else (none)) else (none)
set_option maxHeartbeats 8000000 in
set_option maxRecDepth 100000 in
theorem vetchref12_holds.calls (k : Nat) (A0_0 : Option Addr) (c0_0 : Nat) (l0_0 : List (S51)) (A0_1 : Option Addr) (c0_1 : Nat) (l0_1 : List (S56)) (A1 : Option Addr) (c1 : Nat) (l1 : List (S45)) (A2 : Option Addr) (c2 : Nat) (l2 : List Bool) (a3 : Int) (r : Bool) (w : World) (hr0_0 : Kd.C k51 w A0_0 l0_0.length l0_0) (hc0_0 : l0_0.length ≤ c0_0) (hr0_1 : Kd.C k56 w A0_1 l0_1.length l0_1) (hc0_1 : l0_1.length ≤ c0_1) (hr1 : Kd.C k45 w A1 l1.length l1) (hc1 : l1.length ≤ c1) (hr2 : Kd.C Kd.bool w A2 l2.length l2) (hc2 : l2.length ≤ c2) (h : vetchref12_holds.f k l0_0 l0_1 l1 l2 a3 = some r) :
 Calls Try.prog 40 #[.agg #[.slice A0_0 l0_0.length c0_0, .slice A0_1 l0_1.length c0_1], .slice A1 l1.length c1, .slice A2 l2.length c2, .int .i64 a3] w fun e w' => e = .returned (.bool r) ∧ Below w.heap.size w w' := by
 have hu25 := Try.underlying25
 have hu56 := Try.underlying56
 have HR0_0 := Aside0.mk hr0_0
 have HC0_0 := Aside0.mk hc0_0
 clear hr0_0 hc0_0
 have HR0_1 := Aside0.mk hr0_1
 have HC0_1 := Aside0.mk hc0_1
 clear hr0_1 hc0_1
 have HR1 := Aside0.mk hr1
 have HC1 := Aside0.mk hc1
 clear hr1 hc1
 have HR2 := Aside0.mk hr2
 have HC2 := Aside0.mk hc2
 clear hr2 hc2
 have HB := Aside0.mk (Below.refl w.heap.size w)
 have H : (if 0 ≤ a3 then (if a3 < (l0_1.length : Int) then (if ((rd_T56 l0_1 a3).f0) = 2 then (if 0 ≤ ((rd_T56 l0_1 a3).f2) then (if ((rd_T56 l0_1 a3).f2) < (l0_0.length : Int) then (if 0 ≤ ((rd_T51 l0_0 ((rd_T56 l0_1 a3).f2)).f1) then (if ((rd_T51 l0_0 ((rd_T56 l0_1 a3).f2)).f1) < (l2.length : Int) then (some (rdOf false l2 ((rd_T51 l0_0 ((rd_T56 l0_1 a3).f2)).f1))) else (none)) else (none)) else (none)) else (none)) else (if ((rd_T56 l0_1 a3).f0) = 3 then (vetchref12_holds.l0 k l1 l2 0 ((rd_T56 l0_1 a3).f0) ((rd_T56 l0_1 a3).f1) ((rd_T56 l0_1 a3).f2) ((rd_T56 l0_1 a3).f3.f0) ((rd_T56 l0_1 a3).f3.f1) ((rd_T56 l0_1 a3).f3.f2) ((rd_T56 l0_1 a3).f3.f3)) else (vetchref12_holds.l2 k l1 l2 0 ((rd_T56 l0_1 a3).f0) ((rd_T56 l0_1 a3).f1) ((rd_T56 l0_1 a3).f2) ((rd_T56 l0_1 a3).f3.f0) ((rd_T56 l0_1 a3).f3.f1) ((rd_T56 l0_1 a3).f3.f2) ((rd_T56 l0_1 a3).f3.f3)))) else (none)) else (none)) = some r := h
 clear h
 by_cases c5 : 0 ≤ a3
 ·
  rw [if_pos c5] at H
  have c5b0 : decide (0 ≤ a3) = true := decide_eq_true c5
  clear c5
  by_cases c6 : a3 < (l0_1.length : Int)
  ·
   rw [if_pos c6] at H
   have c6b0 : decide (a3 < (l0_1.length : Int)) = true := decide_eq_true c6
   clear c6
   by_cases c7 : ((rd_T56 l0_1 a3).f0) = 2
   ·
    rw [if_pos c7] at H
    have c7b0 : (((rd_T56 l0_1 a3).f0) == 2) = true := beq_iff_eq.mpr c7
    have c7b1 : (((rd_T56 l0_1 a3).f0) != 2) = false := bne_eq_false_iff_eq.mpr c7
    clear c7
    by_cases c8 : 0 ≤ ((rd_T56 l0_1 a3).f2)
    ·
     rw [if_pos c8] at H
     have c8b0 : decide (0 ≤ ((rd_T56 l0_1 a3).f2)) = true := decide_eq_true c8
     clear c8
     by_cases c9 : ((rd_T56 l0_1 a3).f2) < (l0_0.length : Int)
     ·
      rw [if_pos c9] at H
      have c9b0 : decide (((rd_T56 l0_1 a3).f2) < (l0_0.length : Int)) = true := decide_eq_true c9
      clear c9
      by_cases c10 : 0 ≤ ((rd_T51 l0_0 ((rd_T56 l0_1 a3).f2)).f1)
      ·
       rw [if_pos c10] at H
       have c10b0 : decide (0 ≤ ((rd_T51 l0_0 ((rd_T56 l0_1 a3).f2)).f1)) = true := decide_eq_true c10
       clear c10
       by_cases c11 : ((rd_T51 l0_0 ((rd_T56 l0_1 a3).f2)).f1) < (l2.length : Int)
       ·
        rw [if_pos c11] at H
        have c11b0 : decide (((rd_T51 l0_0 ((rd_T56 l0_1 a3).f2)).f1) < (l2.length : Int)) = true := decide_eq_true c11
        clear c11
        obtain rfl := Option.some.inj H
        go_enter Try.func40, Try.ntmps40
        go_wp2_with (first | ((with_reducible refine gate_dst (N := 4) rfl ?_); refine box_event ?hg (N := 4) ?hd (cs := #[.slice A0_0 l0_0.length c0_0, .slice A0_1 l0_1.length c0_1]) (t := 25) ?hr ?_; (case hd => rfl); (case hg => rfl); (case hr => first | (go_simp; done) | (go_simp; rfl)); intro gb325 hg w12 hbox hb; have n0_ := Aside0.mk (below_step (by repeat (first | (with_reducible first | exact HB.out | apply below_alloc | apply pw_below_drewN | apply below_drew1) | exact HB.out)) hb); have n1_ := Aside0.mk (hbox); have n2_ := Aside0.mk ((by rw [hg]; exact (below_size (by repeat (first | (with_reducible first | exact HB.out | apply below_alloc | apply pw_below_drewN | apply below_drew1) | exact HB.out))) : w.heap.size ≤ gb325)); have n3_ := Aside0.mk ((by rw [hg]; exact (below_size (by repeat (first | (with_reducible first | exact HB.out | apply below_alloc | apply pw_below_drewN | apply below_drew1) | exact HB.out))) : w.heap.size ≤ gb325)); clear HB; have HB := n0_; have BK325 := n1_; have GW325 := n2_; have GE325 := n3_; clear n0_ n1_ n2_ n3_; clear hb hbox hg; have hcz13_0 : w12.cell? ⟨gb325, 0, none⟩ = some (.slice A0_0 l0_0.length c0_0) := (blk_cell BK325.out 0).trans rfl; have hcz13_1 : w12.cell? ⟨gb325, 1, none⟩ = some (.slice A0_1 l0_1.length c0_1) := (blk_cell BK325.out 1).trans rfl; have hfz13_0 := blk_frozen BK325.out 0; have hfz13_1 := blk_frozen BK325.out 1; have p326 : 0 ≤ (a3 : Int) := of_decide_eq_true (by first | (with_reducible assumption) | assumption); have q326 : a3 < (l0_1.length : Int) := of_decide_eq_true (by first | (with_reducible assumption) | assumption); obtain ⟨ad326, A326_1, c326_1, e326, hx326_0, hx326_1, hx326_2, hx326_3, hx326_4, hx326_5, hx326_6, hl326_1, hi326_1⟩ := at_T56 HR0_1.out a3 p326 q326; cases e326; replace hx326_0 := (HB.out.cell (World.block_lt_of_cell? w _ hx326_0)).trans hx326_0; replace hx326_1 := (HB.out.cell (World.block_lt_of_cell? w _ hx326_1)).trans hx326_1; replace hx326_2 := (HB.out.cell (World.block_lt_of_cell? w _ hx326_2)).trans hx326_2; replace hx326_3 := (HB.out.cell (World.block_lt_of_cell? w _ hx326_3)).trans hx326_3; replace hx326_4 := (HB.out.cell (World.block_lt_of_cell? w _ hx326_4)).trans hx326_4; replace hx326_5 := (HB.out.cell (World.block_lt_of_cell? w _ hx326_5)).trans hx326_5; replace hx326_6 := (HB.out.cell (World.block_lt_of_cell? w _ hx326_6)).trans hx326_6; have HR326_1 := Aside0.mk hi326_1; have HC326_1 := Aside0.mk hl326_1; clear hi326_1 hl326_1; replace p326 := eq_true p326; replace q326 := eq_true q326) | ((with_reducible refine gate_dst (N := 9) rfl ?_); refine box_event ?hg (N := 9) ?hd (cs := #[.int .i64 0, .slice none 0 0, .int .i64 0, .int .u64 0, .int .u64 0, .int .u64 0, .int .u64 0]) (t := 56) ?hr ?_; (case hd => rfl); (case hg => rfl); (case hr => first | (go_simp; done) | (go_simp; rfl)); intro gb327 hg w14 hbox hb; have n0_ := Aside0.mk (blk_below (g := gb325) (o := .cells #[.slice A0_0 l0_0.length c0_0, .slice (some ad326) l0_1.length c0_1] 25 (0, 0)) (by (with_reducible repeat (first | refine blk_drewN ?_ _ | refine blk_drew ?_ | refine blk_alloc ?_ _)); exact BK325.out) hb); have n1_ := Aside0.mk (below_step (by repeat (first | (with_reducible first | exact HB.out | apply below_alloc | apply pw_below_drewN | apply below_drew1 | refine below_set ?_ GE325.out) | exact HB.out)) hb); have n2_ := Aside0.mk (hbox); have n3_ := Aside0.mk ((by rw [hg]; exact (below_size (by repeat (first | (with_reducible first | exact HB.out | apply below_alloc | apply pw_below_drewN | apply below_drew1 | refine below_set ?_ GE325.out) | exact HB.out))) : w.heap.size ≤ gb327)); have n4_ := Aside0.mk ((by rw [hg]; exact (below_size (by repeat (first | (with_reducible first | exact HB.out | apply below_alloc | apply pw_below_drewN | apply below_drew1 | refine below_set ?_ GE325.out) | exact HB.out))) : w.heap.size ≤ gb327)); have n5_ := Aside0.mk ((by rw [hg]; exact Nat.ne_of_lt (blk_lt (g := gb325) (o := .cells #[.slice A0_0 l0_0.length c0_0, .slice (some ad326) l0_1.length c0_1] 25 (0, 0)) (by (with_reducible repeat (first | refine blk_drewN ?_ _ | refine blk_drew ?_ | refine blk_alloc ?_ _)); exact BK325.out)) : gb325 ≠ gb327)); have n6_ := Aside0.mk ((by rw [hg]; exact Nat.ne_of_gt (blk_lt (g := gb325) (o := .cells #[.slice A0_0 l0_0.length c0_0, .slice (some ad326) l0_1.length c0_1] 25 (0, 0)) (by (with_reducible repeat (first | refine blk_drewN ?_ _ | refine blk_drew ?_ | refine blk_alloc ?_ _)); exact BK325.out)) : gb327 ≠ gb325)); clear BK325; clear HB; have BK325 := n0_; have HB := n1_; have BK327 := n2_; have GW327 := n3_; have GE327 := n4_; have NB325_327 := n5_; have NB327_325 := n6_; clear n0_ n1_ n2_ n3_ n4_ n5_ n6_; clear hb hbox hg; have hnb15 := NB327_325.out; have hnc15 := NB325_327.out; have hcz16_0 : w14.cell? ⟨gb327, 0, none⟩ = some (.int .i64 0) := (blk_cell BK327.out 0).trans rfl; have hcz16_1 : w14.cell? ⟨gb327, 1, none⟩ = some (.slice none 0 0) := (blk_cell BK327.out 1).trans rfl; have hcz16_2 : w14.cell? ⟨gb327, 2, none⟩ = some (.int .i64 0) := (blk_cell BK327.out 2).trans rfl; have hcz16_3 : w14.cell? ⟨gb327, 3, none⟩ = some (.int .u64 0) := (blk_cell BK327.out 3).trans rfl; have hcz16_4 : w14.cell? ⟨gb327, 4, none⟩ = some (.int .u64 0) := (blk_cell BK327.out 4).trans rfl; have hcz16_5 : w14.cell? ⟨gb327, 5, none⟩ = some (.int .u64 0) := (blk_cell BK327.out 5).trans rfl; have hcz16_6 : w14.cell? ⟨gb327, 6, none⟩ = some (.int .u64 0) := (blk_cell BK327.out 6).trans rfl; have hfz16_0 := blk_frozen BK327.out 0; have hfz16_1 := blk_frozen BK327.out 1; have hfz16_2 := blk_frozen BK327.out 2; have hfz16_3 := blk_frozen BK327.out 3; have hfz16_4 := blk_frozen BK327.out 4; have hfz16_5 := blk_frozen BK327.out 5; have hfz16_6 := blk_frozen BK327.out 6; have hcz17_0 : w14.cell? ⟨gb325, 0, none⟩ = some (.slice A0_0 l0_0.length c0_0) := (blk_cell BK325.out 0).trans rfl; have hcz17_1 : w14.cell? ⟨gb325, 1, none⟩ = some (.slice (some ad326) l0_1.length c0_1) := (blk_cell BK325.out 1).trans rfl; have hfz17_0 := blk_frozen BK325.out 0; have hfz17_1 := blk_frozen BK325.out 1; have p328 : 0 ≤ (((rd_T56 l0_1 a3).f2) : Int) := of_decide_eq_true (by first | (with_reducible assumption) | assumption); have q328 : ((rd_T56 l0_1 a3).f2) < (l0_0.length : Int) := of_decide_eq_true (by first | (with_reducible assumption) | assumption); obtain ⟨ad328, e328, hx328_0, hx328_1⟩ := at_T51 HR0_0.out ((rd_T56 l0_1 a3).f2) p328 q328; cases e328; have hn328_0 : ad328.block ≠ gb327 := Nat.ne_of_lt (Nat.lt_of_lt_of_le (by have := World.block_lt_of_cell? _ _ hx328_0; first | rwa [add_block] at this | exact this) GW327.out); have hn328_1 : ad328.block ≠ gb327 := Nat.ne_of_lt (Nat.lt_of_lt_of_le (by have := World.block_lt_of_cell? _ _ hx328_0; first | rwa [add_block] at this | exact this) GW327.out); have hn328_2 : ad328.block ≠ gb327 := Nat.ne_of_lt (Nat.lt_of_lt_of_le (by have := World.block_lt_of_cell? _ _ hx328_0; first | rwa [add_block] at this | exact this) GW327.out); have hn328_3 : ad328.block ≠ gb327 := Nat.ne_of_lt (Nat.lt_of_lt_of_le (by have := World.block_lt_of_cell? _ _ hx328_0; first | rwa [add_block] at this | exact this) GW327.out); have hn328_4 : ad328.block ≠ gb327 := Nat.ne_of_lt (Nat.lt_of_lt_of_le (by have := World.block_lt_of_cell? _ _ hx328_0; first | rwa [add_block] at this | exact this) GW327.out); have hn328_5 : ad328.block ≠ gb327 := Nat.ne_of_lt (Nat.lt_of_lt_of_le (by have := World.block_lt_of_cell? _ _ hx328_0; first | rwa [add_block] at this | exact this) GW327.out); have hn328_6 : ad328.block ≠ gb327 := Nat.ne_of_lt (Nat.lt_of_lt_of_le (by have := World.block_lt_of_cell? _ _ hx328_0; first | rwa [add_block] at this | exact this) GW327.out); replace hx328_0 := (HB.out.cell (World.block_lt_of_cell? w _ hx328_0)).trans hx328_0; replace hx328_1 := (HB.out.cell (World.block_lt_of_cell? w _ hx328_1)).trans hx328_1; replace hx328_0 := (cell_far (p := ⟨gb327, 0, none⟩) (by first | (rw [add_block]; exact hn328_0) | (show (Addr.add _ _).block ≠ _; rw [add_block]; exact hn328_0) | exact hn328_0) (.int .i64 ((rd_T56 l0_1 a3).f0))).trans hx328_0; replace hx328_1 := (cell_far (p := ⟨gb327, 0, none⟩) (by first | (rw [add_block]; exact hn328_0) | (show (Addr.add _ _).block ≠ _; rw [add_block]; exact hn328_0) | exact hn328_0) (.int .i64 ((rd_T56 l0_1 a3).f0))).trans hx328_1; replace hx328_0 := (cell_far (p := ⟨gb327, 1, none⟩) (by first | (rw [add_block]; exact hn328_1) | (show (Addr.add _ _).block ≠ _; rw [add_block]; exact hn328_1) | exact hn328_1) (.slice A326_1 ((rd_T56 l0_1 a3).f1).length c326_1)).trans hx328_0; replace hx328_1 := (cell_far (p := ⟨gb327, 1, none⟩) (by first | (rw [add_block]; exact hn328_1) | (show (Addr.add _ _).block ≠ _; rw [add_block]; exact hn328_1) | exact hn328_1) (.slice A326_1 ((rd_T56 l0_1 a3).f1).length c326_1)).trans hx328_1; replace hx328_0 := (cell_far (p := ⟨gb327, 2, none⟩) (by first | (rw [add_block]; exact hn328_2) | (show (Addr.add _ _).block ≠ _; rw [add_block]; exact hn328_2) | exact hn328_2) (.int .i64 ((rd_T56 l0_1 a3).f2))).trans hx328_0; replace hx328_1 := (cell_far (p := ⟨gb327, 2, none⟩) (by first | (rw [add_block]; exact hn328_2) | (show (Addr.add _ _).block ≠ _; rw [add_block]; exact hn328_2) | exact hn328_2) (.int .i64 ((rd_T56 l0_1 a3).f2))).trans hx328_1; replace hx328_0 := (cell_far (p := ⟨gb327, 3, none⟩) (by first | (rw [add_block]; exact hn328_3) | (show (Addr.add _ _).block ≠ _; rw [add_block]; exact hn328_3) | exact hn328_3) (.int .u64 ((rd_T56 l0_1 a3).f3.f0))).trans hx328_0; replace hx328_1 := (cell_far (p := ⟨gb327, 3, none⟩) (by first | (rw [add_block]; exact hn328_3) | (show (Addr.add _ _).block ≠ _; rw [add_block]; exact hn328_3) | exact hn328_3) (.int .u64 ((rd_T56 l0_1 a3).f3.f0))).trans hx328_1; replace hx328_0 := (cell_far (p := ⟨gb327, 4, none⟩) (by first | (rw [add_block]; exact hn328_4) | (show (Addr.add _ _).block ≠ _; rw [add_block]; exact hn328_4) | exact hn328_4) (.int .u64 ((rd_T56 l0_1 a3).f3.f1))).trans hx328_0; replace hx328_1 := (cell_far (p := ⟨gb327, 4, none⟩) (by first | (rw [add_block]; exact hn328_4) | (show (Addr.add _ _).block ≠ _; rw [add_block]; exact hn328_4) | exact hn328_4) (.int .u64 ((rd_T56 l0_1 a3).f3.f1))).trans hx328_1; replace hx328_0 := (cell_far (p := ⟨gb327, 5, none⟩) (by first | (rw [add_block]; exact hn328_5) | (show (Addr.add _ _).block ≠ _; rw [add_block]; exact hn328_5) | exact hn328_5) (.int .u64 ((rd_T56 l0_1 a3).f3.f2))).trans hx328_0; replace hx328_1 := (cell_far (p := ⟨gb327, 5, none⟩) (by first | (rw [add_block]; exact hn328_5) | (show (Addr.add _ _).block ≠ _; rw [add_block]; exact hn328_5) | exact hn328_5) (.int .u64 ((rd_T56 l0_1 a3).f3.f2))).trans hx328_1; replace hx328_0 := (cell_far (p := ⟨gb327, 6, none⟩) (by first | (rw [add_block]; exact hn328_6) | (show (Addr.add _ _).block ≠ _; rw [add_block]; exact hn328_6) | exact hn328_6) (.int .u64 ((rd_T56 l0_1 a3).f3.f3))).trans hx328_0; replace hx328_1 := (cell_far (p := ⟨gb327, 6, none⟩) (by first | (rw [add_block]; exact hn328_6) | (show (Addr.add _ _).block ≠ _; rw [add_block]; exact hn328_6) | exact hn328_6) (.int .u64 ((rd_T56 l0_1 a3).f3.f3))).trans hx328_1; clear hn328_0; clear hn328_1; clear hn328_2; clear hn328_3; clear hn328_4; clear hn328_5; clear hn328_6; replace p328 := eq_true p328; replace q328 := eq_true q328; have p329 : 0 ≤ (((rd_T51 l0_0 ((rd_T56 l0_1 a3).f2)).f1) : Int) := of_decide_eq_true (by first | (with_reducible assumption) | assumption); have q329 : ((rd_T51 l0_0 ((rd_T56 l0_1 a3).f2)).f1) < (l2.length : Int) := of_decide_eq_true (by first | (with_reducible assumption) | assumption); obtain ⟨ad329, e329, hx329_0⟩ := Kd.at_bool HR2.out ((rd_T51 l0_0 ((rd_T56 l0_1 a3).f2)).f1) p329 q329; cases e329; have hn329_0 : ad329.block ≠ gb327 := Nat.ne_of_lt (Nat.lt_of_lt_of_le (by have := World.block_lt_of_cell? _ _ hx329_0; first | rwa [add_block] at this | exact this) GW327.out); have hn329_1 : ad329.block ≠ gb327 := Nat.ne_of_lt (Nat.lt_of_lt_of_le (by have := World.block_lt_of_cell? _ _ hx329_0; first | rwa [add_block] at this | exact this) GW327.out); have hn329_2 : ad329.block ≠ gb327 := Nat.ne_of_lt (Nat.lt_of_lt_of_le (by have := World.block_lt_of_cell? _ _ hx329_0; first | rwa [add_block] at this | exact this) GW327.out); have hn329_3 : ad329.block ≠ gb327 := Nat.ne_of_lt (Nat.lt_of_lt_of_le (by have := World.block_lt_of_cell? _ _ hx329_0; first | rwa [add_block] at this | exact this) GW327.out); have hn329_4 : ad329.block ≠ gb327 := Nat.ne_of_lt (Nat.lt_of_lt_of_le (by have := World.block_lt_of_cell? _ _ hx329_0; first | rwa [add_block] at this | exact this) GW327.out); have hn329_5 : ad329.block ≠ gb327 := Nat.ne_of_lt (Nat.lt_of_lt_of_le (by have := World.block_lt_of_cell? _ _ hx329_0; first | rwa [add_block] at this | exact this) GW327.out); have hn329_6 : ad329.block ≠ gb327 := Nat.ne_of_lt (Nat.lt_of_lt_of_le (by have := World.block_lt_of_cell? _ _ hx329_0; first | rwa [add_block] at this | exact this) GW327.out); replace hx329_0 := (HB.out.cell (World.block_lt_of_cell? w _ hx329_0)).trans hx329_0; replace hx329_0 := (cell_far (p := ⟨gb327, 0, none⟩) (by first | (rw [add_block]; exact hn329_0) | (show (Addr.add _ _).block ≠ _; rw [add_block]; exact hn329_0) | exact hn329_0) (.int .i64 ((rd_T56 l0_1 a3).f0))).trans hx329_0; replace hx329_0 := (cell_far (p := ⟨gb327, 1, none⟩) (by first | (rw [add_block]; exact hn329_1) | (show (Addr.add _ _).block ≠ _; rw [add_block]; exact hn329_1) | exact hn329_1) (.slice A326_1 ((rd_T56 l0_1 a3).f1).length c326_1)).trans hx329_0; replace hx329_0 := (cell_far (p := ⟨gb327, 2, none⟩) (by first | (rw [add_block]; exact hn329_2) | (show (Addr.add _ _).block ≠ _; rw [add_block]; exact hn329_2) | exact hn329_2) (.int .i64 ((rd_T56 l0_1 a3).f2))).trans hx329_0; replace hx329_0 := (cell_far (p := ⟨gb327, 3, none⟩) (by first | (rw [add_block]; exact hn329_3) | (show (Addr.add _ _).block ≠ _; rw [add_block]; exact hn329_3) | exact hn329_3) (.int .u64 ((rd_T56 l0_1 a3).f3.f0))).trans hx329_0; replace hx329_0 := (cell_far (p := ⟨gb327, 4, none⟩) (by first | (rw [add_block]; exact hn329_4) | (show (Addr.add _ _).block ≠ _; rw [add_block]; exact hn329_4) | exact hn329_4) (.int .u64 ((rd_T56 l0_1 a3).f3.f1))).trans hx329_0; replace hx329_0 := (cell_far (p := ⟨gb327, 5, none⟩) (by first | (rw [add_block]; exact hn329_5) | (show (Addr.add _ _).block ≠ _; rw [add_block]; exact hn329_5) | exact hn329_5) (.int .u64 ((rd_T56 l0_1 a3).f3.f2))).trans hx329_0; replace hx329_0 := (cell_far (p := ⟨gb327, 6, none⟩) (by first | (rw [add_block]; exact hn329_6) | (show (Addr.add _ _).block ≠ _; rw [add_block]; exact hn329_6) | exact hn329_6) (.int .u64 ((rd_T56 l0_1 a3).f3.f3))).trans hx329_0; clear hn329_0; clear hn329_1; clear hn329_2; clear hn329_3; clear hn329_4; clear hn329_5; clear hn329_6; replace p329 := eq_true p329; replace q329 := eq_true q329))
        go_ret
        exact ⟨by first | rfl | (simp [errW_none, errW_some] <;> rfl) | (simp [*, errW_none, errW_some] <;> rfl), by repeat (first | (with_reducible first | exact HB.out | apply below_alloc | apply pw_below_drewN | apply below_drew1 | refine below_set ?_ GE325.out | refine below_set ?_ GE327.out) | exact HB.out)⟩
       ·
        rw [if_neg c11] at H
        exact absurd H (by simp)
      ·
       rw [if_neg c10] at H
       exact absurd H (by simp)
     ·
      rw [if_neg c9] at H
      exact absurd H (by simp)
    ·
     rw [if_neg c8] at H
     exact absurd H (by simp)
   ·
    rw [if_neg c7] at H
    have c7b0 : (((rd_T56 l0_1 a3).f0) == 2) = false := beq_eq_false_iff_ne.mpr c7
    have c7b1 : (((rd_T56 l0_1 a3).f0) != 2) = true := bne_iff_ne.mpr c7
    by_cases c18 : ((rd_T56 l0_1 a3).f0) = 3
    ·
     rw [if_pos c18] at H
     have c18b0 : (((rd_T56 l0_1 a3).f0) == 3) = true := beq_iff_eq.mpr c18
     have c18b1 : (((rd_T56 l0_1 a3).f0) != 3) = false := bne_eq_false_iff_eq.mpr c18
     clear c18
     have H' := Aside0.mk H
     clear H
     go_enter Try.func40, Try.ntmps40
     go_wp2_with (first | ((with_reducible refine gate_dst (N := 4) rfl ?_); refine box_event ?hg (N := 4) ?hd (cs := #[.slice A0_0 l0_0.length c0_0, .slice A0_1 l0_1.length c0_1]) (t := 25) ?hr ?_; (case hd => rfl); (case hg => rfl); (case hr => first | (go_simp; done) | (go_simp; rfl)); intro gb325 hg w19 hbox hb; have n0_ := Aside0.mk (below_step (by repeat (first | (with_reducible first | exact HB.out | apply below_alloc | apply pw_below_drewN | apply below_drew1) | exact HB.out)) hb); have n1_ := Aside0.mk (hbox); have n2_ := Aside0.mk ((by rw [hg]; exact (below_size (by repeat (first | (with_reducible first | exact HB.out | apply below_alloc | apply pw_below_drewN | apply below_drew1) | exact HB.out))) : w.heap.size ≤ gb325)); have n3_ := Aside0.mk ((by rw [hg]; exact (below_size (by repeat (first | (with_reducible first | exact HB.out | apply below_alloc | apply pw_below_drewN | apply below_drew1) | exact HB.out))) : w.heap.size ≤ gb325)); clear HB; have HB := n0_; have BK325 := n1_; have GW325 := n2_; have GE325 := n3_; clear n0_ n1_ n2_ n3_; clear hb hbox hg; have hcz20_0 : w19.cell? ⟨gb325, 0, none⟩ = some (.slice A0_0 l0_0.length c0_0) := (blk_cell BK325.out 0).trans rfl; have hcz20_1 : w19.cell? ⟨gb325, 1, none⟩ = some (.slice A0_1 l0_1.length c0_1) := (blk_cell BK325.out 1).trans rfl; have hfz20_0 := blk_frozen BK325.out 0; have hfz20_1 := blk_frozen BK325.out 1; have p326 : 0 ≤ (a3 : Int) := of_decide_eq_true (by first | (with_reducible assumption) | assumption); have q326 : a3 < (l0_1.length : Int) := of_decide_eq_true (by first | (with_reducible assumption) | assumption); obtain ⟨ad326, A326_1, c326_1, e326, hx326_0, hx326_1, hx326_2, hx326_3, hx326_4, hx326_5, hx326_6, hl326_1, hi326_1⟩ := at_T56 HR0_1.out a3 p326 q326; cases e326; replace hx326_0 := (HB.out.cell (World.block_lt_of_cell? w _ hx326_0)).trans hx326_0; replace hx326_1 := (HB.out.cell (World.block_lt_of_cell? w _ hx326_1)).trans hx326_1; replace hx326_2 := (HB.out.cell (World.block_lt_of_cell? w _ hx326_2)).trans hx326_2; replace hx326_3 := (HB.out.cell (World.block_lt_of_cell? w _ hx326_3)).trans hx326_3; replace hx326_4 := (HB.out.cell (World.block_lt_of_cell? w _ hx326_4)).trans hx326_4; replace hx326_5 := (HB.out.cell (World.block_lt_of_cell? w _ hx326_5)).trans hx326_5; replace hx326_6 := (HB.out.cell (World.block_lt_of_cell? w _ hx326_6)).trans hx326_6; have HR326_1 := Aside0.mk hi326_1; have HC326_1 := Aside0.mk hl326_1; clear hi326_1 hl326_1; replace p326 := eq_true p326; replace q326 := eq_true q326) | ((with_reducible refine gate_dst (N := 9) rfl ?_); refine box_event ?hg (N := 9) ?hd (cs := #[.int .i64 0, .slice none 0 0, .int .i64 0, .int .u64 0, .int .u64 0, .int .u64 0, .int .u64 0]) (t := 56) ?hr ?_; (case hd => rfl); (case hg => rfl); (case hr => first | (go_simp; done) | (go_simp; rfl)); intro gb327 hg w21 hbox hb; have n0_ := Aside0.mk (blk_below (g := gb325) (o := .cells #[.slice A0_0 l0_0.length c0_0, .slice (some ad326) l0_1.length c0_1] 25 (0, 0)) (by (with_reducible repeat (first | refine blk_drewN ?_ _ | refine blk_drew ?_ | refine blk_alloc ?_ _)); exact BK325.out) hb); have n1_ := Aside0.mk (below_step (by repeat (first | (with_reducible first | exact HB.out | apply below_alloc | apply pw_below_drewN | apply below_drew1 | refine below_set ?_ GE325.out) | exact HB.out)) hb); have n2_ := Aside0.mk (hbox); have n3_ := Aside0.mk ((by rw [hg]; exact (below_size (by repeat (first | (with_reducible first | exact HB.out | apply below_alloc | apply pw_below_drewN | apply below_drew1 | refine below_set ?_ GE325.out) | exact HB.out))) : w.heap.size ≤ gb327)); have n4_ := Aside0.mk ((by rw [hg]; exact (below_size (by repeat (first | (with_reducible first | exact HB.out | apply below_alloc | apply pw_below_drewN | apply below_drew1 | refine below_set ?_ GE325.out) | exact HB.out))) : w.heap.size ≤ gb327)); have n5_ := Aside0.mk ((by rw [hg]; exact Nat.ne_of_lt (blk_lt (g := gb325) (o := .cells #[.slice A0_0 l0_0.length c0_0, .slice (some ad326) l0_1.length c0_1] 25 (0, 0)) (by (with_reducible repeat (first | refine blk_drewN ?_ _ | refine blk_drew ?_ | refine blk_alloc ?_ _)); exact BK325.out)) : gb325 ≠ gb327)); have n6_ := Aside0.mk ((by rw [hg]; exact Nat.ne_of_gt (blk_lt (g := gb325) (o := .cells #[.slice A0_0 l0_0.length c0_0, .slice (some ad326) l0_1.length c0_1] 25 (0, 0)) (by (with_reducible repeat (first | refine blk_drewN ?_ _ | refine blk_drew ?_ | refine blk_alloc ?_ _)); exact BK325.out)) : gb327 ≠ gb325)); clear BK325; clear HB; have BK325 := n0_; have HB := n1_; have BK327 := n2_; have GW327 := n3_; have GE327 := n4_; have NB325_327 := n5_; have NB327_325 := n6_; clear n0_ n1_ n2_ n3_ n4_ n5_ n6_; clear hb hbox hg; have hnb22 := NB327_325.out; have hnc22 := NB325_327.out; have hcz23_0 : w21.cell? ⟨gb327, 0, none⟩ = some (.int .i64 0) := (blk_cell BK327.out 0).trans rfl; have hcz23_1 : w21.cell? ⟨gb327, 1, none⟩ = some (.slice none 0 0) := (blk_cell BK327.out 1).trans rfl; have hcz23_2 : w21.cell? ⟨gb327, 2, none⟩ = some (.int .i64 0) := (blk_cell BK327.out 2).trans rfl; have hcz23_3 : w21.cell? ⟨gb327, 3, none⟩ = some (.int .u64 0) := (blk_cell BK327.out 3).trans rfl; have hcz23_4 : w21.cell? ⟨gb327, 4, none⟩ = some (.int .u64 0) := (blk_cell BK327.out 4).trans rfl; have hcz23_5 : w21.cell? ⟨gb327, 5, none⟩ = some (.int .u64 0) := (blk_cell BK327.out 5).trans rfl; have hcz23_6 : w21.cell? ⟨gb327, 6, none⟩ = some (.int .u64 0) := (blk_cell BK327.out 6).trans rfl; have hfz23_0 := blk_frozen BK327.out 0; have hfz23_1 := blk_frozen BK327.out 1; have hfz23_2 := blk_frozen BK327.out 2; have hfz23_3 := blk_frozen BK327.out 3; have hfz23_4 := blk_frozen BK327.out 4; have hfz23_5 := blk_frozen BK327.out 5; have hfz23_6 := blk_frozen BK327.out 6))
     go_loopg [10] k (fun kq v10 w' => ∃ (x10_1 : Int), v10 = .int .i64 x10_1 ∧ Aside0 (vetchref12_holds.l0 kq l1 l2 x10_1 ((rd_T56 l0_1 a3).f0) ((rd_T56 l0_1 a3).f1) ((rd_T56 l0_1 a3).f2) ((rd_T56 l0_1 a3).f3.f0) ((rd_T56 l0_1 a3).f3.f1) ((rd_T56 l0_1 a3).f3.f2) ((rd_T56 l0_1 a3).f3.f3) = some r) ∧ Aside0 (kq ≤ k) ∧ Aside0 (w'.heap[gb325]? = some (.cells #[(.slice A0_0 l0_0.length c0_0), (.slice (some ad326) l0_1.length c0_1)] 25 (0, 0))) ∧ Aside0 (w'.heap[gb327]? = some (.cells #[.int .i64 ((rd_T56 l0_1 a3).f0), (.slice A326_1 ((rd_T56 l0_1 a3).f1).length c326_1), .int .i64 ((rd_T56 l0_1 a3).f2), .int .u64 ((rd_T56 l0_1 a3).f3.f0), .int .u64 ((rd_T56 l0_1 a3).f3.f1), .int .u64 ((rd_T56 l0_1 a3).f3.f2), .int .u64 ((rd_T56 l0_1 a3).f3.f3)] 56 (0, 0))) ∧ Aside0 (Below w.heap.size w w'))
     case atStart => exact ⟨(0), (by first | rfl | (simp; done) | (simp [*]; done)), H', ⟨Nat.le_refl _⟩, ⟨by (with_reducible repeat (first | refine blk_drewN ?_ _ | refine blk_drew ?_ | refine blk_alloc ?_ _)); refine blk_far ?_ NB325_327.out _; (with_reducible repeat (first | refine blk_drewN ?_ _ | refine blk_drew ?_ | refine blk_alloc ?_ _)); refine blk_far ?_ NB325_327.out _; (with_reducible repeat (first | refine blk_drewN ?_ _ | refine blk_drew ?_ | refine blk_alloc ?_ _)); refine blk_far ?_ NB325_327.out _; (with_reducible repeat (first | refine blk_drewN ?_ _ | refine blk_drew ?_ | refine blk_alloc ?_ _)); refine blk_far ?_ NB325_327.out _; (with_reducible repeat (first | refine blk_drewN ?_ _ | refine blk_drew ?_ | refine blk_alloc ?_ _)); refine blk_far ?_ NB325_327.out _; (with_reducible repeat (first | refine blk_drewN ?_ _ | refine blk_drew ?_ | refine blk_alloc ?_ _)); refine blk_far ?_ NB325_327.out _; (with_reducible repeat (first | refine blk_drewN ?_ _ | refine blk_drew ?_ | refine blk_alloc ?_ _)); refine blk_far ?_ NB325_327.out _; (with_reducible repeat (first | refine blk_drewN ?_ _ | refine blk_drew ?_ | refine blk_alloc ?_ _)); exact BK325.out⟩, ⟨by (with_reducible repeat (first | refine blk_drewN ?_ _ | refine blk_drew ?_ | refine blk_alloc ?_ _)); refine blk_put (cs := #[.int .i64 ((rd_T56 l0_1 a3).f0), .slice A326_1 ((rd_T56 l0_1 a3).f1).length c326_1, .int .i64 ((rd_T56 l0_1 a3).f2), .int .u64 ((rd_T56 l0_1 a3).f3.f0), .int .u64 ((rd_T56 l0_1 a3).f3.f1), .int .u64 ((rd_T56 l0_1 a3).f3.f2), .int .u64 0]) ?_ 6 _ rfl; (with_reducible repeat (first | refine blk_drewN ?_ _ | refine blk_drew ?_ | refine blk_alloc ?_ _)); refine blk_put (cs := #[.int .i64 ((rd_T56 l0_1 a3).f0), .slice A326_1 ((rd_T56 l0_1 a3).f1).length c326_1, .int .i64 ((rd_T56 l0_1 a3).f2), .int .u64 ((rd_T56 l0_1 a3).f3.f0), .int .u64 ((rd_T56 l0_1 a3).f3.f1), .int .u64 0, .int .u64 0]) ?_ 5 _ rfl; (with_reducible repeat (first | refine blk_drewN ?_ _ | refine blk_drew ?_ | refine blk_alloc ?_ _)); refine blk_put (cs := #[.int .i64 ((rd_T56 l0_1 a3).f0), .slice A326_1 ((rd_T56 l0_1 a3).f1).length c326_1, .int .i64 ((rd_T56 l0_1 a3).f2), .int .u64 ((rd_T56 l0_1 a3).f3.f0), .int .u64 0, .int .u64 0, .int .u64 0]) ?_ 4 _ rfl; (with_reducible repeat (first | refine blk_drewN ?_ _ | refine blk_drew ?_ | refine blk_alloc ?_ _)); refine blk_put (cs := #[.int .i64 ((rd_T56 l0_1 a3).f0), .slice A326_1 ((rd_T56 l0_1 a3).f1).length c326_1, .int .i64 ((rd_T56 l0_1 a3).f2), .int .u64 0, .int .u64 0, .int .u64 0, .int .u64 0]) ?_ 3 _ rfl; (with_reducible repeat (first | refine blk_drewN ?_ _ | refine blk_drew ?_ | refine blk_alloc ?_ _)); refine blk_put (cs := #[.int .i64 ((rd_T56 l0_1 a3).f0), .slice A326_1 ((rd_T56 l0_1 a3).f1).length c326_1, .int .i64 0, .int .u64 0, .int .u64 0, .int .u64 0, .int .u64 0]) ?_ 2 _ rfl; (with_reducible repeat (first | refine blk_drewN ?_ _ | refine blk_drew ?_ | refine blk_alloc ?_ _)); refine blk_put (cs := #[.int .i64 ((rd_T56 l0_1 a3).f0), .slice none 0 0, .int .i64 0, .int .u64 0, .int .u64 0, .int .u64 0, .int .u64 0]) ?_ 1 _ rfl; (with_reducible repeat (first | refine blk_drewN ?_ _ | refine blk_drew ?_ | refine blk_alloc ?_ _)); refine blk_put (cs := #[.int .i64 0, .slice none 0 0, .int .i64 0, .int .u64 0, .int .u64 0, .int .u64 0, .int .u64 0]) ?_ 0 _ rfl; (with_reducible repeat (first | refine blk_drewN ?_ _ | refine blk_drew ?_ | refine blk_alloc ?_ _)); exact BK327.out⟩, ⟨by repeat (first | (with_reducible first | exact HB.out | apply below_alloc | apply pw_below_drewN | apply below_drew1 | refine below_set ?_ GE325.out | refine below_set ?_ GE327.out) | exact HB.out)⟩⟩
     case round =>
      clear H'
      try clear c1
      try clear c2
      try clear p2
      try clear c3
      try clear p3
      try clear q3
      try clear hx3
      try clear c4
      try clear c5
      try clear c5b0
      try clear c6
      try clear c6b0
      try clear c7
      try clear c7b0
      try clear c7b1
      try clear c8
      try clear c8b0
      try clear c9
      try clear c9b0
      try clear c10
      try clear c10b0
      try clear c11
      try clear c11b0
      try clear c15
      try clear c18
      try clear c18b0
      try clear c18b1
      try clear c22
      try clear hcz13_0
      try clear hcz13_1
      try clear hcz16_0
      try clear hcz16_1
      try clear hcz16_2
      try clear hcz16_3
      try clear hcz16_4
      try clear hcz16_5
      try clear hcz16_6
      try clear hcz17_0
      try clear hcz17_1
      try clear hcz20_0
      try clear hcz20_1
      try clear hcz23_0
      try clear hcz23_1
      try clear hcz23_2
      try clear hcz23_3
      try clear hcz23_4
      try clear hcz23_5
      try clear hcz23_6
      try clear hfz13_0
      try clear hfz13_1
      try clear hfz16_0
      try clear hfz16_1
      try clear hfz16_2
      try clear hfz16_3
      try clear hfz16_4
      try clear hfz16_5
      try clear hfz16_6
      try clear hfz17_0
      try clear hfz17_1
      try clear hfz20_0
      try clear hfz20_1
      try clear hfz23_0
      try clear hfz23_1
      try clear hfz23_2
      try clear hfz23_3
      try clear hfz23_4
      try clear hfz23_5
      try clear hfz23_6
      try clear hx326_0
      try clear hx326_1
      try clear hx326_2
      try clear hx326_3
      try clear hx326_4
      try clear hx326_5
      try clear hx326_6
      try clear hx328_0
      try clear hx328_1
      try clear hx329_0
      try clear p326
      try clear p328
      try clear p329
      try clear q326
      try clear q328
      try clear q329
      obtain ⟨x10_1, rfl, HA, HK1, BK325, BK327, HB⟩ := hrel
      cases gk with
      | zero => exact absurd HA.out (by simp [vetchref12_holds.l0])
      | succ k1 =>
       have H := HA.out
       clear HA
       simp only [vetchref12_holds.l0] at H
       by_cases c24 : x10_1 < (((rd_T56 l0_1 a3).f1).length : Int)
       ·
        rw [if_pos c24] at H
        have c24b0 : decide (x10_1 < (((rd_T56 l0_1 a3).f1).length : Int)) = true := decide_eq_true c24
        clear c24
        have H' := Aside0.mk H
        clear H
        have hnb25 := NB327_325.out
        have hnc25 := NB325_327.out
        have hcz26_0 : wr.cell? ⟨gb327, 0, none⟩ = some (.int .i64 ((rd_T56 l0_1 a3).f0)) := (blk_cell BK327.out 0).trans rfl
        have hcz26_1 : wr.cell? ⟨gb327, 1, none⟩ = some (.slice A326_1 ((rd_T56 l0_1 a3).f1).length c326_1) := (blk_cell BK327.out 1).trans rfl
        have hcz26_2 : wr.cell? ⟨gb327, 2, none⟩ = some (.int .i64 ((rd_T56 l0_1 a3).f2)) := (blk_cell BK327.out 2).trans rfl
        have hcz26_3 : wr.cell? ⟨gb327, 3, none⟩ = some (.int .u64 ((rd_T56 l0_1 a3).f3.f0)) := (blk_cell BK327.out 3).trans rfl
        have hcz26_4 : wr.cell? ⟨gb327, 4, none⟩ = some (.int .u64 ((rd_T56 l0_1 a3).f3.f1)) := (blk_cell BK327.out 4).trans rfl
        have hcz26_5 : wr.cell? ⟨gb327, 5, none⟩ = some (.int .u64 ((rd_T56 l0_1 a3).f3.f2)) := (blk_cell BK327.out 5).trans rfl
        have hcz26_6 : wr.cell? ⟨gb327, 6, none⟩ = some (.int .u64 ((rd_T56 l0_1 a3).f3.f3)) := (blk_cell BK327.out 6).trans rfl
        have hfz26_0 := blk_frozen BK327.out 0
        have hfz26_1 := blk_frozen BK327.out 1
        have hfz26_2 := blk_frozen BK327.out 2
        have hfz26_3 := blk_frozen BK327.out 3
        have hfz26_4 := blk_frozen BK327.out 4
        have hfz26_5 := blk_frozen BK327.out 5
        have hfz26_6 := blk_frozen BK327.out 6
        go_wp2
        go_loopg [11, 12] k1 (fun kq v11 v12 w' => ∃ (x11_2 : Bool) (x12_2 : Int), v11 = .bool x11_2 ∧ v12 = .int .i64 x12_2 ∧ Aside0 (vetchref12_holds.l1 kq l1 l2 x10_1 x11_2 x12_2 ((rd_T56 l0_1 a3).f0) ((rd_T56 l0_1 a3).f1) ((rd_T56 l0_1 a3).f2) ((rd_T56 l0_1 a3).f3.f0) ((rd_T56 l0_1 a3).f3.f1) ((rd_T56 l0_1 a3).f3.f2) ((rd_T56 l0_1 a3).f3.f3) = some r) ∧ Aside0 (kq ≤ k1) ∧ Aside0 (w'.heap[gb325]? = some (.cells #[(.slice A0_0 l0_0.length c0_0), (.slice (some ad326) l0_1.length c0_1)] 25 (0, 0))) ∧ Aside0 (w'.heap[gb327]? = some (.cells #[.int .i64 ((rd_T56 l0_1 a3).f0), (.slice A326_1 ((rd_T56 l0_1 a3).f1).length c326_1), .int .i64 ((rd_T56 l0_1 a3).f2), .int .u64 ((rd_T56 l0_1 a3).f3.f0), .int .u64 ((rd_T56 l0_1 a3).f3.f1), .int .u64 ((rd_T56 l0_1 a3).f3.f2), .int .u64 ((rd_T56 l0_1 a3).f3.f3)] 56 (0, 0))) ∧ Aside0 (Below w.heap.size w w'))
        case atStart => exact ⟨(true), (0), (by first | rfl | (simp; done) | (simp [*]; done)), (by first | rfl | (simp; done) | (simp [*]; done)), H', ⟨Nat.le_refl _⟩, ⟨by (with_reducible repeat (first | refine blk_drewN ?_ _ | refine blk_drew ?_ | refine blk_alloc ?_ _)); exact BK325.out⟩, ⟨by (with_reducible repeat (first | refine blk_drewN ?_ _ | refine blk_drew ?_ | refine blk_alloc ?_ _)); exact BK327.out⟩, ⟨by repeat (first | (with_reducible first | exact HB.out | apply below_alloc | apply pw_below_drewN | apply below_drew1 | refine below_set ?_ GE325.out | refine below_set ?_ GE327.out) | exact HB.out)⟩⟩
        case round =>
         clear H'
         try clear c1
         try clear c2
         try clear p2
         try clear c3
         try clear p3
         try clear q3
         try clear hx3
         try clear c4
         try clear c5
         try clear c5b0
         try clear c6
         try clear c6b0
         try clear c7
         try clear c7b0
         try clear c7b1
         try clear c8
         try clear c8b0
         try clear c9
         try clear c9b0
         try clear c10
         try clear c10b0
         try clear c11
         try clear c11b0
         try clear c15
         try clear c18
         try clear c18b0
         try clear c18b1
         try clear c22
         try clear c24
         try clear c24b0
         try clear c25
         try clear hcz13_0
         try clear hcz13_1
         try clear hcz16_0
         try clear hcz16_1
         try clear hcz16_2
         try clear hcz16_3
         try clear hcz16_4
         try clear hcz16_5
         try clear hcz16_6
         try clear hcz17_0
         try clear hcz17_1
         try clear hcz20_0
         try clear hcz20_1
         try clear hcz23_0
         try clear hcz23_1
         try clear hcz23_2
         try clear hcz23_3
         try clear hcz23_4
         try clear hcz23_5
         try clear hcz23_6
         try clear hcz26_0
         try clear hcz26_1
         try clear hcz26_2
         try clear hcz26_3
         try clear hcz26_4
         try clear hcz26_5
         try clear hcz26_6
         try clear hfz13_0
         try clear hfz13_1
         try clear hfz16_0
         try clear hfz16_1
         try clear hfz16_2
         try clear hfz16_3
         try clear hfz16_4
         try clear hfz16_5
         try clear hfz16_6
         try clear hfz17_0
         try clear hfz17_1
         try clear hfz20_0
         try clear hfz20_1
         try clear hfz23_0
         try clear hfz23_1
         try clear hfz23_2
         try clear hfz23_3
         try clear hfz23_4
         try clear hfz23_5
         try clear hfz23_6
         try clear hfz26_0
         try clear hfz26_1
         try clear hfz26_2
         try clear hfz26_3
         try clear hfz26_4
         try clear hfz26_5
         try clear hfz26_6
         try clear hx326_0
         try clear hx326_1
         try clear hx326_2
         try clear hx326_3
         try clear hx326_4
         try clear hx326_5
         try clear hx326_6
         try clear hx328_0
         try clear hx328_1
         try clear hx329_0
         try clear p2
         try clear p3
         try clear p326
         try clear p328
         try clear p329
         try clear q3
         try clear q326
         try clear q328
         try clear q329
         obtain ⟨x11_2, x12_2, rfl, rfl, HA, HK2, BK325, BK327, HB⟩ := hrel
         cases gk with
         | zero => exact absurd HA.out (by simp [vetchref12_holds.l1])
         | succ k2 =>
          have H := HA.out
          clear HA
          simp only [vetchref12_holds.l1] at H
          by_cases c27 : x12_2 < x10_1
          ·
           rw [if_pos c27] at H
           have c27b0 : decide (x12_2 < x10_1) = true := decide_eq_true c27
           clear c27
           by_cases c28 : x11_2 = true
           ·
            subst c28
            have H1 : (if 0 ≤ x12_2 then (if x12_2 < (((rd_T56 l0_1 a3).f1).length : Int) then (if 0 ≤ (rd ((rd_T56 l0_1 a3).f1) x12_2) then (if (rd ((rd_T56 l0_1 a3).f1) x12_2) < (l1.length : Int) then (vetchref12_holds.l1 k2 l1 l2 x10_1 ((rd_T45 l1 (rd ((rd_T56 l0_1 a3).f1) x12_2)).f0) (wrap64 (x12_2 + 1)) ((rd_T56 l0_1 a3).f0) ((rd_T56 l0_1 a3).f1) ((rd_T56 l0_1 a3).f2) ((rd_T56 l0_1 a3).f3.f0) ((rd_T56 l0_1 a3).f3.f1) ((rd_T56 l0_1 a3).f3.f2) ((rd_T56 l0_1 a3).f3.f3)) else (none)) else (none)) else (none)) else (none)) = some r := by rw [if_pos rfl] at H; exact H
            clear H
            have H := H1
            clear H1
            by_cases c29 : 0 ≤ x12_2
            ·
             rw [if_pos c29] at H
             have c29b0 : decide (0 ≤ x12_2) = true := decide_eq_true c29
             clear c29
             by_cases c30 : x12_2 < (((rd_T56 l0_1 a3).f1).length : Int)
             ·
              rw [if_pos c30] at H
              have c30b0 : decide (x12_2 < (((rd_T56 l0_1 a3).f1).length : Int)) = true := decide_eq_true c30
              clear c30
              by_cases c31 : 0 ≤ (rd ((rd_T56 l0_1 a3).f1) x12_2)
              ·
               rw [if_pos c31] at H
               have c31b0 : decide (0 ≤ (rd ((rd_T56 l0_1 a3).f1) x12_2)) = true := decide_eq_true c31
               clear c31
               by_cases c32 : (rd ((rd_T56 l0_1 a3).f1) x12_2) < (l1.length : Int)
               ·
                rw [if_pos c32] at H
                have c32b0 : decide ((rd ((rd_T56 l0_1 a3).f1) x12_2) < (l1.length : Int)) = true := decide_eq_true c32
                clear c32
                have H' := Aside0.mk H
                clear H
                have hnb33 := NB327_325.out
                have hnc33 := NB325_327.out
                have hcz34_0 : wr.cell? ⟨gb327, 0, none⟩ = some (.int .i64 ((rd_T56 l0_1 a3).f0)) := (blk_cell BK327.out 0).trans rfl
                have hcz34_1 : wr.cell? ⟨gb327, 1, none⟩ = some (.slice A326_1 ((rd_T56 l0_1 a3).f1).length c326_1) := (blk_cell BK327.out 1).trans rfl
                have hcz34_2 : wr.cell? ⟨gb327, 2, none⟩ = some (.int .i64 ((rd_T56 l0_1 a3).f2)) := (blk_cell BK327.out 2).trans rfl
                have hcz34_3 : wr.cell? ⟨gb327, 3, none⟩ = some (.int .u64 ((rd_T56 l0_1 a3).f3.f0)) := (blk_cell BK327.out 3).trans rfl
                have hcz34_4 : wr.cell? ⟨gb327, 4, none⟩ = some (.int .u64 ((rd_T56 l0_1 a3).f3.f1)) := (blk_cell BK327.out 4).trans rfl
                have hcz34_5 : wr.cell? ⟨gb327, 5, none⟩ = some (.int .u64 ((rd_T56 l0_1 a3).f3.f2)) := (blk_cell BK327.out 5).trans rfl
                have hcz34_6 : wr.cell? ⟨gb327, 6, none⟩ = some (.int .u64 ((rd_T56 l0_1 a3).f3.f3)) := (blk_cell BK327.out 6).trans rfl
                have hfz34_0 := blk_frozen BK327.out 0
                have hfz34_1 := blk_frozen BK327.out 1
                have hfz34_2 := blk_frozen BK327.out 2
                have hfz34_3 := blk_frozen BK327.out 3
                have hfz34_4 := blk_frozen BK327.out 4
                have hfz34_5 := blk_frozen BK327.out 5
                have hfz34_6 := blk_frozen BK327.out 6
                have p330 : 0 ≤ (x12_2 : Int) := of_decide_eq_true (by first | (with_reducible assumption) | assumption)
                have q330 : x12_2 < (((rd_T56 l0_1 a3).f1).length : Int) := of_decide_eq_true (by first | (with_reducible assumption) | assumption)
                obtain ⟨ad330, e330, hx330_0⟩ := Kd.at_int HR326_1.out x12_2 p330 q330
                cases e330
                replace hx330_0 := (HB.out.cell (World.block_lt_of_cell? w _ hx330_0)).trans hx330_0
                replace p330 := eq_true p330
                replace q330 := eq_true q330
                have p331 : 0 ≤ ((rd ((rd_T56 l0_1 a3).f1) x12_2) : Int) := of_decide_eq_true (by first | (with_reducible assumption) | assumption)
                have q331 : (rd ((rd_T56 l0_1 a3).f1) x12_2) < (l1.length : Int) := of_decide_eq_true (by first | (with_reducible assumption) | assumption)
                obtain ⟨ad331, e331, hx331_0, hx331_1, hx331_2⟩ := at_T45 HR1.out (rd ((rd_T56 l0_1 a3).f1) x12_2) p331 q331
                cases e331
                replace hx331_0 := (HB.out.cell (World.block_lt_of_cell? w _ hx331_0)).trans hx331_0
                replace hx331_1 := (HB.out.cell (World.block_lt_of_cell? w _ hx331_1)).trans hx331_1
                replace hx331_2 := (HB.out.cell (World.block_lt_of_cell? w _ hx331_2)).trans hx331_2
                replace p331 := eq_true p331
                replace q331 := eq_true q331
                go_wp2
                go_roundg k2
                case measure => have := HK1.out; have := HK2.out; omega
                case rel => exact ⟨((rd_T45 l1 (rd ((rd_T56 l0_1 a3).f1) x12_2)).f0), (wrap64 (x12_2 + 1)), (by first | rfl | (simp; done) | (simp [*]; done)), (by first | rfl | (simp; done) | (simp [*]; done)), H', ⟨by have := HK1.out; have := HK2.out; omega⟩, ⟨by (with_reducible repeat (first | refine blk_drewN ?_ _ | refine blk_drew ?_ | refine blk_alloc ?_ _)); exact BK325.out⟩, ⟨by (with_reducible repeat (first | refine blk_drewN ?_ _ | refine blk_drew ?_ | refine blk_alloc ?_ _)); exact BK327.out⟩, ⟨by repeat (first | (with_reducible first | exact HB.out | apply below_alloc | apply pw_below_drewN | apply below_drew1 | refine below_set ?_ GE325.out | refine below_set ?_ GE327.out) | exact HB.out)⟩⟩
               ·
                rw [if_neg c32] at H
                exact absurd H (by simp)
              ·
               rw [if_neg c31] at H
               exact absurd H (by simp)
             ·
              rw [if_neg c30] at H
              exact absurd H (by simp)
            ·
             rw [if_neg c29] at H
             exact absurd H (by simp)
           ·
            replace c28 := Bool.eq_false_iff.mpr c28
            subst c28
            have H1 : (vetchref12_holds.l1 k2 l1 l2 x10_1 false (wrap64 (x12_2 + 1)) ((rd_T56 l0_1 a3).f0) ((rd_T56 l0_1 a3).f1) ((rd_T56 l0_1 a3).f2) ((rd_T56 l0_1 a3).f3.f0) ((rd_T56 l0_1 a3).f3.f1) ((rd_T56 l0_1 a3).f3.f2) ((rd_T56 l0_1 a3).f3.f3)) = some r := by rw [if_neg (show ¬ (false = true) by decide)] at H; exact H
            clear H
            have H := H1
            clear H1
            have H' := Aside0.mk H
            clear H
            go_wp2
            go_roundg k2
            case measure => have := HK1.out; have := HK2.out; omega
            case rel => exact ⟨(false), (wrap64 (x12_2 + 1)), (by first | rfl | (simp; done) | (simp [*]; done)), (by first | rfl | (simp; done) | (simp [*]; done)), H', ⟨by have := HK1.out; have := HK2.out; omega⟩, ⟨by (with_reducible repeat (first | refine blk_drewN ?_ _ | refine blk_drew ?_ | refine blk_alloc ?_ _)); exact BK325.out⟩, ⟨by (with_reducible repeat (first | refine blk_drewN ?_ _ | refine blk_drew ?_ | refine blk_alloc ?_ _)); exact BK327.out⟩, ⟨by repeat (first | (with_reducible first | exact HB.out | apply below_alloc | apply pw_below_drewN | apply below_drew1 | refine below_set ?_ GE325.out | refine below_set ?_ GE327.out) | exact HB.out)⟩⟩
          ·
           rw [if_neg c27] at H
           have c27b0 : decide (x12_2 < x10_1) = false := decide_eq_false c27
           clear c27
           by_cases c35 : x11_2 = true
           ·
            subst c35
            have H1 : (if 0 ≤ x10_1 then (if x10_1 < (((rd_T56 l0_1 a3).f1).length : Int) then (if 0 ≤ (rd ((rd_T56 l0_1 a3).f1) x10_1) then (if (rd ((rd_T56 l0_1 a3).f1) x10_1) < (l2.length : Int) then (if rdOf false l2 (rd ((rd_T56 l0_1 a3).f1) x10_1) = true then (vetchref12_holds.l0 k2 l1 l2 (wrap64 (x10_1 + 1)) ((rd_T56 l0_1 a3).f0) ((rd_T56 l0_1 a3).f1) ((rd_T56 l0_1 a3).f2) ((rd_T56 l0_1 a3).f3.f0) ((rd_T56 l0_1 a3).f3.f1) ((rd_T56 l0_1 a3).f3.f2) ((rd_T56 l0_1 a3).f3.f3)) else (some false)) else (none)) else (none)) else (none)) else (none)) = some r := by rw [if_pos rfl] at H; exact H
            clear H
            have H := H1
            clear H1
            by_cases c36 : 0 ≤ x10_1
            ·
             rw [if_pos c36] at H
             have c36b0 : decide (0 ≤ x10_1) = true := decide_eq_true c36
             clear c36
             by_cases c37 : x10_1 < (((rd_T56 l0_1 a3).f1).length : Int)
             ·
              rw [if_pos c37] at H
              have c37b0 : decide (x10_1 < (((rd_T56 l0_1 a3).f1).length : Int)) = true := decide_eq_true c37
              clear c37
              by_cases c38 : 0 ≤ (rd ((rd_T56 l0_1 a3).f1) x10_1)
              ·
               rw [if_pos c38] at H
               have c38b0 : decide (0 ≤ (rd ((rd_T56 l0_1 a3).f1) x10_1)) = true := decide_eq_true c38
               clear c38
               by_cases c39 : (rd ((rd_T56 l0_1 a3).f1) x10_1) < (l2.length : Int)
               ·
                rw [if_pos c39] at H
                have c39b0 : decide ((rd ((rd_T56 l0_1 a3).f1) x10_1) < (l2.length : Int)) = true := decide_eq_true c39
                clear c39
                obtain ⟨bq40, hbq40⟩ : ∃ b_ : Bool, b_ = (rdOf false l2 (rd ((rd_T56 l0_1 a3).f1) x10_1)) := ⟨_, rfl⟩
                replace H : (if bq40 = true then (vetchref12_holds.l0 k2 l1 l2 (wrap64 (x10_1 + 1)) ((rd_T56 l0_1 a3).f0) ((rd_T56 l0_1 a3).f1) ((rd_T56 l0_1 a3).f2) ((rd_T56 l0_1 a3).f3.f0) ((rd_T56 l0_1 a3).f3.f1) ((rd_T56 l0_1 a3).f3.f2) ((rd_T56 l0_1 a3).f3.f3)) else (some false)) = some r := by rw [← hbq40] at H; exact H
                have Nbq40 := Aside0.mk hbq40
                clear hbq40
                by_cases c41 : bq40 = true
                ·
                 subst c41
                 have H1 : (vetchref12_holds.l0 k2 l1 l2 (wrap64 (x10_1 + 1)) ((rd_T56 l0_1 a3).f0) ((rd_T56 l0_1 a3).f1) ((rd_T56 l0_1 a3).f2) ((rd_T56 l0_1 a3).f3.f0) ((rd_T56 l0_1 a3).f3.f1) ((rd_T56 l0_1 a3).f3.f2) ((rd_T56 l0_1 a3).f3.f3)) = some r := by rw [if_pos rfl] at H; exact H
                 clear H
                 have H := H1
                 clear H1
                 have H' := Aside0.mk H
                 clear H
                 have hnb42 := NB327_325.out
                 have hnc42 := NB325_327.out
                 have hcz43_0 : wr.cell? ⟨gb327, 0, none⟩ = some (.int .i64 ((rd_T56 l0_1 a3).f0)) := (blk_cell BK327.out 0).trans rfl
                 have hcz43_1 : wr.cell? ⟨gb327, 1, none⟩ = some (.slice A326_1 ((rd_T56 l0_1 a3).f1).length c326_1) := (blk_cell BK327.out 1).trans rfl
                 have hcz43_2 : wr.cell? ⟨gb327, 2, none⟩ = some (.int .i64 ((rd_T56 l0_1 a3).f2)) := (blk_cell BK327.out 2).trans rfl
                 have hcz43_3 : wr.cell? ⟨gb327, 3, none⟩ = some (.int .u64 ((rd_T56 l0_1 a3).f3.f0)) := (blk_cell BK327.out 3).trans rfl
                 have hcz43_4 : wr.cell? ⟨gb327, 4, none⟩ = some (.int .u64 ((rd_T56 l0_1 a3).f3.f1)) := (blk_cell BK327.out 4).trans rfl
                 have hcz43_5 : wr.cell? ⟨gb327, 5, none⟩ = some (.int .u64 ((rd_T56 l0_1 a3).f3.f2)) := (blk_cell BK327.out 5).trans rfl
                 have hcz43_6 : wr.cell? ⟨gb327, 6, none⟩ = some (.int .u64 ((rd_T56 l0_1 a3).f3.f3)) := (blk_cell BK327.out 6).trans rfl
                 have hfz43_0 := blk_frozen BK327.out 0
                 have hfz43_1 := blk_frozen BK327.out 1
                 have hfz43_2 := blk_frozen BK327.out 2
                 have hfz43_3 := blk_frozen BK327.out 3
                 have hfz43_4 := blk_frozen BK327.out 4
                 have hfz43_5 := blk_frozen BK327.out 5
                 have hfz43_6 := blk_frozen BK327.out 6
                 have p332 : 0 ≤ (x10_1 : Int) := of_decide_eq_true (by first | (with_reducible assumption) | assumption)
                 have q332 : x10_1 < (((rd_T56 l0_1 a3).f1).length : Int) := of_decide_eq_true (by first | (with_reducible assumption) | assumption)
                 obtain ⟨ad332, e332, hx332_0⟩ := Kd.at_int HR326_1.out x10_1 p332 q332
                 cases e332
                 replace hx332_0 := (HB.out.cell (World.block_lt_of_cell? w _ hx332_0)).trans hx332_0
                 replace p332 := eq_true p332
                 replace q332 := eq_true q332
                 have p333 : 0 ≤ ((rd ((rd_T56 l0_1 a3).f1) x10_1) : Int) := of_decide_eq_true (by first | (with_reducible assumption) | assumption)
                 have q333 : (rd ((rd_T56 l0_1 a3).f1) x10_1) < (l2.length : Int) := of_decide_eq_true (by first | (with_reducible assumption) | assumption)
                 obtain ⟨ad333, e333, hx333_0⟩ := Kd.at_bool HR2.out (rd ((rd_T56 l0_1 a3).f1) x10_1) p333 q333
                 (try rw [← Nbq40.out] at hx333_0)
                 cases e333
                 replace hx333_0 := (HB.out.cell (World.block_lt_of_cell? w _ hx333_0)).trans hx333_0
                 replace p333 := eq_true p333
                 replace q333 := eq_true q333
                 go_wp2
                 go_roundg k2
                 case measure => have := HK1.out; have := HK2.out; omega
                 case rel => exact ⟨(wrap64 (x10_1 + 1)), (by first | rfl | (simp; done) | (simp [*]; done)), H', ⟨by have := HK1.out; have := HK2.out; omega⟩, ⟨by (with_reducible repeat (first | refine blk_drewN ?_ _ | refine blk_drew ?_ | refine blk_alloc ?_ _)); exact BK325.out⟩, ⟨by (with_reducible repeat (first | refine blk_drewN ?_ _ | refine blk_drew ?_ | refine blk_alloc ?_ _)); exact BK327.out⟩, ⟨by repeat (first | (with_reducible first | exact HB.out | apply below_alloc | apply pw_below_drewN | apply below_drew1 | refine below_set ?_ GE325.out | refine below_set ?_ GE327.out) | exact HB.out)⟩⟩
                ·
                 replace c41 := Bool.eq_false_iff.mpr c41
                 subst c41
                 have H1 : (some false) = some r := by rw [if_neg (show ¬ (false = true) by decide)] at H; exact H
                 clear H
                 have H := H1
                 clear H1
                 obtain rfl := Option.some.inj H
                 have hnb44 := NB327_325.out
                 have hnc44 := NB325_327.out
                 have hcz45_0 : wr.cell? ⟨gb327, 0, none⟩ = some (.int .i64 ((rd_T56 l0_1 a3).f0)) := (blk_cell BK327.out 0).trans rfl
                 have hcz45_1 : wr.cell? ⟨gb327, 1, none⟩ = some (.slice A326_1 ((rd_T56 l0_1 a3).f1).length c326_1) := (blk_cell BK327.out 1).trans rfl
                 have hcz45_2 : wr.cell? ⟨gb327, 2, none⟩ = some (.int .i64 ((rd_T56 l0_1 a3).f2)) := (blk_cell BK327.out 2).trans rfl
                 have hcz45_3 : wr.cell? ⟨gb327, 3, none⟩ = some (.int .u64 ((rd_T56 l0_1 a3).f3.f0)) := (blk_cell BK327.out 3).trans rfl
                 have hcz45_4 : wr.cell? ⟨gb327, 4, none⟩ = some (.int .u64 ((rd_T56 l0_1 a3).f3.f1)) := (blk_cell BK327.out 4).trans rfl
                 have hcz45_5 : wr.cell? ⟨gb327, 5, none⟩ = some (.int .u64 ((rd_T56 l0_1 a3).f3.f2)) := (blk_cell BK327.out 5).trans rfl
                 have hcz45_6 : wr.cell? ⟨gb327, 6, none⟩ = some (.int .u64 ((rd_T56 l0_1 a3).f3.f3)) := (blk_cell BK327.out 6).trans rfl
                 have hfz45_0 := blk_frozen BK327.out 0
                 have hfz45_1 := blk_frozen BK327.out 1
                 have hfz45_2 := blk_frozen BK327.out 2
                 have hfz45_3 := blk_frozen BK327.out 3
                 have hfz45_4 := blk_frozen BK327.out 4
                 have hfz45_5 := blk_frozen BK327.out 5
                 have hfz45_6 := blk_frozen BK327.out 6
                 have p332 : 0 ≤ (x10_1 : Int) := of_decide_eq_true (by first | (with_reducible assumption) | assumption)
                 have q332 : x10_1 < (((rd_T56 l0_1 a3).f1).length : Int) := of_decide_eq_true (by first | (with_reducible assumption) | assumption)
                 obtain ⟨ad332, e332, hx332_0⟩ := Kd.at_int HR326_1.out x10_1 p332 q332
                 cases e332
                 replace hx332_0 := (HB.out.cell (World.block_lt_of_cell? w _ hx332_0)).trans hx332_0
                 replace p332 := eq_true p332
                 replace q332 := eq_true q332
                 have p333 : 0 ≤ ((rd ((rd_T56 l0_1 a3).f1) x10_1) : Int) := of_decide_eq_true (by first | (with_reducible assumption) | assumption)
                 have q333 : (rd ((rd_T56 l0_1 a3).f1) x10_1) < (l2.length : Int) := of_decide_eq_true (by first | (with_reducible assumption) | assumption)
                 obtain ⟨ad333, e333, hx333_0⟩ := Kd.at_bool HR2.out (rd ((rd_T56 l0_1 a3).f1) x10_1) p333 q333
                 (try rw [← Nbq40.out] at hx333_0)
                 cases e333
                 replace hx333_0 := (HB.out.cell (World.block_lt_of_cell? w _ hx333_0)).trans hx333_0
                 replace p333 := eq_true p333
                 replace q333 := eq_true q333
                 go_wp2
                 go_ret
                 exact ⟨by first | rfl | (simp [errW_none, errW_some] <;> rfl) | (simp [*, errW_none, errW_some] <;> rfl), by repeat (first | (with_reducible first | exact HB.out | apply below_alloc | apply pw_below_drewN | apply below_drew1 | refine below_set ?_ GE325.out | refine below_set ?_ GE327.out) | exact HB.out)⟩
               ·
                rw [if_neg c39] at H
                exact absurd H (by simp)
              ·
               rw [if_neg c38] at H
               exact absurd H (by simp)
             ·
              rw [if_neg c37] at H
              exact absurd H (by simp)
            ·
             rw [if_neg c36] at H
             exact absurd H (by simp)
           ·
            replace c35 := Bool.eq_false_iff.mpr c35
            subst c35
            have H1 : (vetchref12_holds.l0 k2 l1 l2 (wrap64 (x10_1 + 1)) ((rd_T56 l0_1 a3).f0) ((rd_T56 l0_1 a3).f1) ((rd_T56 l0_1 a3).f2) ((rd_T56 l0_1 a3).f3.f0) ((rd_T56 l0_1 a3).f3.f1) ((rd_T56 l0_1 a3).f3.f2) ((rd_T56 l0_1 a3).f3.f3)) = some r := by rw [if_neg (show ¬ (false = true) by decide)] at H; exact H
            clear H
            have H := H1
            clear H1
            have H' := Aside0.mk H
            clear H
            go_wp2
            go_roundg k2
            case measure => have := HK1.out; have := HK2.out; omega
            case rel => exact ⟨(wrap64 (x10_1 + 1)), (by first | rfl | (simp; done) | (simp [*]; done)), H', ⟨by have := HK1.out; have := HK2.out; omega⟩, ⟨by (with_reducible repeat (first | refine blk_drewN ?_ _ | refine blk_drew ?_ | refine blk_alloc ?_ _)); exact BK325.out⟩, ⟨by (with_reducible repeat (first | refine blk_drewN ?_ _ | refine blk_drew ?_ | refine blk_alloc ?_ _)); exact BK327.out⟩, ⟨by repeat (first | (with_reducible first | exact HB.out | apply below_alloc | apply pw_below_drewN | apply below_drew1 | refine below_set ?_ GE325.out | refine below_set ?_ GE327.out) | exact HB.out)⟩⟩
       ·
        rw [if_neg c24] at H
        have c24b0 : decide (x10_1 < (((rd_T56 l0_1 a3).f1).length : Int)) = false := decide_eq_false c24
        clear c24
        obtain rfl := Option.some.inj H
        have hnb46 := NB327_325.out
        have hnc46 := NB325_327.out
        have hcz47_0 : wr.cell? ⟨gb327, 0, none⟩ = some (.int .i64 ((rd_T56 l0_1 a3).f0)) := (blk_cell BK327.out 0).trans rfl
        have hcz47_1 : wr.cell? ⟨gb327, 1, none⟩ = some (.slice A326_1 ((rd_T56 l0_1 a3).f1).length c326_1) := (blk_cell BK327.out 1).trans rfl
        have hcz47_2 : wr.cell? ⟨gb327, 2, none⟩ = some (.int .i64 ((rd_T56 l0_1 a3).f2)) := (blk_cell BK327.out 2).trans rfl
        have hcz47_3 : wr.cell? ⟨gb327, 3, none⟩ = some (.int .u64 ((rd_T56 l0_1 a3).f3.f0)) := (blk_cell BK327.out 3).trans rfl
        have hcz47_4 : wr.cell? ⟨gb327, 4, none⟩ = some (.int .u64 ((rd_T56 l0_1 a3).f3.f1)) := (blk_cell BK327.out 4).trans rfl
        have hcz47_5 : wr.cell? ⟨gb327, 5, none⟩ = some (.int .u64 ((rd_T56 l0_1 a3).f3.f2)) := (blk_cell BK327.out 5).trans rfl
        have hcz47_6 : wr.cell? ⟨gb327, 6, none⟩ = some (.int .u64 ((rd_T56 l0_1 a3).f3.f3)) := (blk_cell BK327.out 6).trans rfl
        have hfz47_0 := blk_frozen BK327.out 0
        have hfz47_1 := blk_frozen BK327.out 1
        have hfz47_2 := blk_frozen BK327.out 2
        have hfz47_3 := blk_frozen BK327.out 3
        have hfz47_4 := blk_frozen BK327.out 4
        have hfz47_5 := blk_frozen BK327.out 5
        have hfz47_6 := blk_frozen BK327.out 6
        go_wp2
        go_ret
        exact ⟨by first | rfl | (simp [errW_none, errW_some] <;> rfl) | (simp [*, errW_none, errW_some] <;> rfl), by repeat (first | (with_reducible first | exact HB.out | apply below_alloc | apply pw_below_drewN | apply below_drew1 | refine below_set ?_ GE325.out | refine below_set ?_ GE327.out) | exact HB.out)⟩
    ·
     rw [if_neg c18] at H
     have c18b0 : (((rd_T56 l0_1 a3).f0) == 3) = false := beq_eq_false_iff_ne.mpr c18
     have c18b1 : (((rd_T56 l0_1 a3).f0) != 3) = true := bne_iff_ne.mpr c18
     have H' := Aside0.mk H
     clear H
     go_enter Try.func40, Try.ntmps40
     go_wp2_with (first | ((with_reducible refine gate_dst (N := 4) rfl ?_); refine box_event ?hg (N := 4) ?hd (cs := #[.slice A0_0 l0_0.length c0_0, .slice A0_1 l0_1.length c0_1]) (t := 25) ?hr ?_; (case hd => rfl); (case hg => rfl); (case hr => first | (go_simp; done) | (go_simp; rfl)); intro gb325 hg w48 hbox hb; have n0_ := Aside0.mk (below_step (by repeat (first | (with_reducible first | exact HB.out | apply below_alloc | apply pw_below_drewN | apply below_drew1) | exact HB.out)) hb); have n1_ := Aside0.mk (hbox); have n2_ := Aside0.mk ((by rw [hg]; exact (below_size (by repeat (first | (with_reducible first | exact HB.out | apply below_alloc | apply pw_below_drewN | apply below_drew1) | exact HB.out))) : w.heap.size ≤ gb325)); have n3_ := Aside0.mk ((by rw [hg]; exact (below_size (by repeat (first | (with_reducible first | exact HB.out | apply below_alloc | apply pw_below_drewN | apply below_drew1) | exact HB.out))) : w.heap.size ≤ gb325)); clear HB; have HB := n0_; have BK325 := n1_; have GW325 := n2_; have GE325 := n3_; clear n0_ n1_ n2_ n3_; clear hb hbox hg; have hcz49_0 : w48.cell? ⟨gb325, 0, none⟩ = some (.slice A0_0 l0_0.length c0_0) := (blk_cell BK325.out 0).trans rfl; have hcz49_1 : w48.cell? ⟨gb325, 1, none⟩ = some (.slice A0_1 l0_1.length c0_1) := (blk_cell BK325.out 1).trans rfl; have hfz49_0 := blk_frozen BK325.out 0; have hfz49_1 := blk_frozen BK325.out 1; have p326 : 0 ≤ (a3 : Int) := of_decide_eq_true (by first | (with_reducible assumption) | assumption); have q326 : a3 < (l0_1.length : Int) := of_decide_eq_true (by first | (with_reducible assumption) | assumption); obtain ⟨ad326, A326_1, c326_1, e326, hx326_0, hx326_1, hx326_2, hx326_3, hx326_4, hx326_5, hx326_6, hl326_1, hi326_1⟩ := at_T56 HR0_1.out a3 p326 q326; cases e326; replace hx326_0 := (HB.out.cell (World.block_lt_of_cell? w _ hx326_0)).trans hx326_0; replace hx326_1 := (HB.out.cell (World.block_lt_of_cell? w _ hx326_1)).trans hx326_1; replace hx326_2 := (HB.out.cell (World.block_lt_of_cell? w _ hx326_2)).trans hx326_2; replace hx326_3 := (HB.out.cell (World.block_lt_of_cell? w _ hx326_3)).trans hx326_3; replace hx326_4 := (HB.out.cell (World.block_lt_of_cell? w _ hx326_4)).trans hx326_4; replace hx326_5 := (HB.out.cell (World.block_lt_of_cell? w _ hx326_5)).trans hx326_5; replace hx326_6 := (HB.out.cell (World.block_lt_of_cell? w _ hx326_6)).trans hx326_6; have HR326_1 := Aside0.mk hi326_1; have HC326_1 := Aside0.mk hl326_1; clear hi326_1 hl326_1; replace p326 := eq_true p326; replace q326 := eq_true q326) | ((with_reducible refine gate_dst (N := 9) rfl ?_); refine box_event ?hg (N := 9) ?hd (cs := #[.int .i64 0, .slice none 0 0, .int .i64 0, .int .u64 0, .int .u64 0, .int .u64 0, .int .u64 0]) (t := 56) ?hr ?_; (case hd => rfl); (case hg => rfl); (case hr => first | (go_simp; done) | (go_simp; rfl)); intro gb327 hg w50 hbox hb; have n0_ := Aside0.mk (blk_below (g := gb325) (o := .cells #[.slice A0_0 l0_0.length c0_0, .slice (some ad326) l0_1.length c0_1] 25 (0, 0)) (by (with_reducible repeat (first | refine blk_drewN ?_ _ | refine blk_drew ?_ | refine blk_alloc ?_ _)); exact BK325.out) hb); have n1_ := Aside0.mk (below_step (by repeat (first | (with_reducible first | exact HB.out | apply below_alloc | apply pw_below_drewN | apply below_drew1 | refine below_set ?_ GE325.out) | exact HB.out)) hb); have n2_ := Aside0.mk (hbox); have n3_ := Aside0.mk ((by rw [hg]; exact (below_size (by repeat (first | (with_reducible first | exact HB.out | apply below_alloc | apply pw_below_drewN | apply below_drew1 | refine below_set ?_ GE325.out) | exact HB.out))) : w.heap.size ≤ gb327)); have n4_ := Aside0.mk ((by rw [hg]; exact (below_size (by repeat (first | (with_reducible first | exact HB.out | apply below_alloc | apply pw_below_drewN | apply below_drew1 | refine below_set ?_ GE325.out) | exact HB.out))) : w.heap.size ≤ gb327)); have n5_ := Aside0.mk ((by rw [hg]; exact Nat.ne_of_lt (blk_lt (g := gb325) (o := .cells #[.slice A0_0 l0_0.length c0_0, .slice (some ad326) l0_1.length c0_1] 25 (0, 0)) (by (with_reducible repeat (first | refine blk_drewN ?_ _ | refine blk_drew ?_ | refine blk_alloc ?_ _)); exact BK325.out)) : gb325 ≠ gb327)); have n6_ := Aside0.mk ((by rw [hg]; exact Nat.ne_of_gt (blk_lt (g := gb325) (o := .cells #[.slice A0_0 l0_0.length c0_0, .slice (some ad326) l0_1.length c0_1] 25 (0, 0)) (by (with_reducible repeat (first | refine blk_drewN ?_ _ | refine blk_drew ?_ | refine blk_alloc ?_ _)); exact BK325.out)) : gb327 ≠ gb325)); clear BK325; clear HB; have BK325 := n0_; have HB := n1_; have BK327 := n2_; have GW327 := n3_; have GE327 := n4_; have NB325_327 := n5_; have NB327_325 := n6_; clear n0_ n1_ n2_ n3_ n4_ n5_ n6_; clear hb hbox hg; have hnb51 := NB327_325.out; have hnc51 := NB325_327.out; have hcz52_0 : w50.cell? ⟨gb327, 0, none⟩ = some (.int .i64 0) := (blk_cell BK327.out 0).trans rfl; have hcz52_1 : w50.cell? ⟨gb327, 1, none⟩ = some (.slice none 0 0) := (blk_cell BK327.out 1).trans rfl; have hcz52_2 : w50.cell? ⟨gb327, 2, none⟩ = some (.int .i64 0) := (blk_cell BK327.out 2).trans rfl; have hcz52_3 : w50.cell? ⟨gb327, 3, none⟩ = some (.int .u64 0) := (blk_cell BK327.out 3).trans rfl; have hcz52_4 : w50.cell? ⟨gb327, 4, none⟩ = some (.int .u64 0) := (blk_cell BK327.out 4).trans rfl; have hcz52_5 : w50.cell? ⟨gb327, 5, none⟩ = some (.int .u64 0) := (blk_cell BK327.out 5).trans rfl; have hcz52_6 : w50.cell? ⟨gb327, 6, none⟩ = some (.int .u64 0) := (blk_cell BK327.out 6).trans rfl; have hfz52_0 := blk_frozen BK327.out 0; have hfz52_1 := blk_frozen BK327.out 1; have hfz52_2 := blk_frozen BK327.out 2; have hfz52_3 := blk_frozen BK327.out 3; have hfz52_4 := blk_frozen BK327.out 4; have hfz52_5 := blk_frozen BK327.out 5; have hfz52_6 := blk_frozen BK327.out 6))
     go_loopg [13] k (fun kq v13 w' => ∃ (x13_1 : Int), v13 = .int .i64 x13_1 ∧ Aside0 (vetchref12_holds.l2 kq l1 l2 x13_1 ((rd_T56 l0_1 a3).f0) ((rd_T56 l0_1 a3).f1) ((rd_T56 l0_1 a3).f2) ((rd_T56 l0_1 a3).f3.f0) ((rd_T56 l0_1 a3).f3.f1) ((rd_T56 l0_1 a3).f3.f2) ((rd_T56 l0_1 a3).f3.f3) = some r) ∧ Aside0 (kq ≤ k) ∧ Aside0 (w'.heap[gb325]? = some (.cells #[(.slice A0_0 l0_0.length c0_0), (.slice (some ad326) l0_1.length c0_1)] 25 (0, 0))) ∧ Aside0 (w'.heap[gb327]? = some (.cells #[.int .i64 ((rd_T56 l0_1 a3).f0), (.slice A326_1 ((rd_T56 l0_1 a3).f1).length c326_1), .int .i64 ((rd_T56 l0_1 a3).f2), .int .u64 ((rd_T56 l0_1 a3).f3.f0), .int .u64 ((rd_T56 l0_1 a3).f3.f1), .int .u64 ((rd_T56 l0_1 a3).f3.f2), .int .u64 ((rd_T56 l0_1 a3).f3.f3)] 56 (0, 0))) ∧ Aside0 (Below w.heap.size w w'))
     case atStart => exact ⟨(0), (by first | rfl | (simp; done) | (simp [*]; done)), H', ⟨Nat.le_refl _⟩, ⟨by (with_reducible repeat (first | refine blk_drewN ?_ _ | refine blk_drew ?_ | refine blk_alloc ?_ _)); refine blk_far ?_ NB325_327.out _; (with_reducible repeat (first | refine blk_drewN ?_ _ | refine blk_drew ?_ | refine blk_alloc ?_ _)); refine blk_far ?_ NB325_327.out _; (with_reducible repeat (first | refine blk_drewN ?_ _ | refine blk_drew ?_ | refine blk_alloc ?_ _)); refine blk_far ?_ NB325_327.out _; (with_reducible repeat (first | refine blk_drewN ?_ _ | refine blk_drew ?_ | refine blk_alloc ?_ _)); refine blk_far ?_ NB325_327.out _; (with_reducible repeat (first | refine blk_drewN ?_ _ | refine blk_drew ?_ | refine blk_alloc ?_ _)); refine blk_far ?_ NB325_327.out _; (with_reducible repeat (first | refine blk_drewN ?_ _ | refine blk_drew ?_ | refine blk_alloc ?_ _)); refine blk_far ?_ NB325_327.out _; (with_reducible repeat (first | refine blk_drewN ?_ _ | refine blk_drew ?_ | refine blk_alloc ?_ _)); refine blk_far ?_ NB325_327.out _; (with_reducible repeat (first | refine blk_drewN ?_ _ | refine blk_drew ?_ | refine blk_alloc ?_ _)); exact BK325.out⟩, ⟨by (with_reducible repeat (first | refine blk_drewN ?_ _ | refine blk_drew ?_ | refine blk_alloc ?_ _)); refine blk_put (cs := #[.int .i64 ((rd_T56 l0_1 a3).f0), .slice A326_1 ((rd_T56 l0_1 a3).f1).length c326_1, .int .i64 ((rd_T56 l0_1 a3).f2), .int .u64 ((rd_T56 l0_1 a3).f3.f0), .int .u64 ((rd_T56 l0_1 a3).f3.f1), .int .u64 ((rd_T56 l0_1 a3).f3.f2), .int .u64 0]) ?_ 6 _ rfl; (with_reducible repeat (first | refine blk_drewN ?_ _ | refine blk_drew ?_ | refine blk_alloc ?_ _)); refine blk_put (cs := #[.int .i64 ((rd_T56 l0_1 a3).f0), .slice A326_1 ((rd_T56 l0_1 a3).f1).length c326_1, .int .i64 ((rd_T56 l0_1 a3).f2), .int .u64 ((rd_T56 l0_1 a3).f3.f0), .int .u64 ((rd_T56 l0_1 a3).f3.f1), .int .u64 0, .int .u64 0]) ?_ 5 _ rfl; (with_reducible repeat (first | refine blk_drewN ?_ _ | refine blk_drew ?_ | refine blk_alloc ?_ _)); refine blk_put (cs := #[.int .i64 ((rd_T56 l0_1 a3).f0), .slice A326_1 ((rd_T56 l0_1 a3).f1).length c326_1, .int .i64 ((rd_T56 l0_1 a3).f2), .int .u64 ((rd_T56 l0_1 a3).f3.f0), .int .u64 0, .int .u64 0, .int .u64 0]) ?_ 4 _ rfl; (with_reducible repeat (first | refine blk_drewN ?_ _ | refine blk_drew ?_ | refine blk_alloc ?_ _)); refine blk_put (cs := #[.int .i64 ((rd_T56 l0_1 a3).f0), .slice A326_1 ((rd_T56 l0_1 a3).f1).length c326_1, .int .i64 ((rd_T56 l0_1 a3).f2), .int .u64 0, .int .u64 0, .int .u64 0, .int .u64 0]) ?_ 3 _ rfl; (with_reducible repeat (first | refine blk_drewN ?_ _ | refine blk_drew ?_ | refine blk_alloc ?_ _)); refine blk_put (cs := #[.int .i64 ((rd_T56 l0_1 a3).f0), .slice A326_1 ((rd_T56 l0_1 a3).f1).length c326_1, .int .i64 0, .int .u64 0, .int .u64 0, .int .u64 0, .int .u64 0]) ?_ 2 _ rfl; (with_reducible repeat (first | refine blk_drewN ?_ _ | refine blk_drew ?_ | refine blk_alloc ?_ _)); refine blk_put (cs := #[.int .i64 ((rd_T56 l0_1 a3).f0), .slice none 0 0, .int .i64 0, .int .u64 0, .int .u64 0, .int .u64 0, .int .u64 0]) ?_ 1 _ rfl; (with_reducible repeat (first | refine blk_drewN ?_ _ | refine blk_drew ?_ | refine blk_alloc ?_ _)); refine blk_put (cs := #[.int .i64 0, .slice none 0 0, .int .i64 0, .int .u64 0, .int .u64 0, .int .u64 0, .int .u64 0]) ?_ 0 _ rfl; (with_reducible repeat (first | refine blk_drewN ?_ _ | refine blk_drew ?_ | refine blk_alloc ?_ _)); exact BK327.out⟩, ⟨by repeat (first | (with_reducible first | exact HB.out | apply below_alloc | apply pw_below_drewN | apply below_drew1 | refine below_set ?_ GE325.out | refine below_set ?_ GE327.out) | exact HB.out)⟩⟩
     case round =>
      clear H'
      try clear c1
      try clear c2
      try clear p2
      try clear c3
      try clear p3
      try clear q3
      try clear hx3
      try clear c4
      try clear q4
      try clear c5
      try clear c5b0
      try clear c6
      try clear c6b0
      try clear p6
      try clear c7
      try clear c7b0
      try clear c7b1
      try clear c8
      try clear c8b0
      try clear c9
      try clear c9b0
      try clear c10
      try clear c10b0
      try clear c11
      try clear c11b0
      try clear c15
      try clear c18
      try clear c18b0
      try clear c18b1
      try clear c22
      try clear c24
      try clear c24b0
      try clear c25
      try clear c27
      try clear c27b0
      try clear c28
      try clear c29
      try clear c29b0
      try clear c30
      try clear c30b0
      try clear c31
      try clear c31b0
      try clear c32
      try clear c32b0
      try clear p32
      try clear q32
      try clear hx32
      try clear c33
      try clear p33
      try clear q33
      try clear hx33
      try clear c35
      try clear c36
      try clear c36b0
      try clear c37
      try clear c37b0
      try clear c38
      try clear c38b0
      try clear c39
      try clear c39b0
      try clear c40
      try clear q40
      try clear c41
      try clear c42
      try clear c44
      try clear c46
      try clear c51
      try clear hcz13_0
      try clear hcz13_1
      try clear hcz16_0
      try clear hcz16_1
      try clear hcz16_2
      try clear hcz16_3
      try clear hcz16_4
      try clear hcz16_5
      try clear hcz16_6
      try clear hcz17_0
      try clear hcz17_1
      try clear hcz20_0
      try clear hcz20_1
      try clear hcz23_0
      try clear hcz23_1
      try clear hcz23_2
      try clear hcz23_3
      try clear hcz23_4
      try clear hcz23_5
      try clear hcz23_6
      try clear hcz26_0
      try clear hcz26_1
      try clear hcz26_2
      try clear hcz26_3
      try clear hcz26_4
      try clear hcz26_5
      try clear hcz26_6
      try clear hcz34_0
      try clear hcz34_1
      try clear hcz34_2
      try clear hcz34_3
      try clear hcz34_4
      try clear hcz34_5
      try clear hcz34_6
      try clear hcz43_0
      try clear hcz43_1
      try clear hcz43_2
      try clear hcz43_3
      try clear hcz43_4
      try clear hcz43_5
      try clear hcz43_6
      try clear hcz45_0
      try clear hcz45_1
      try clear hcz45_2
      try clear hcz45_3
      try clear hcz45_4
      try clear hcz45_5
      try clear hcz45_6
      try clear hcz47_0
      try clear hcz47_1
      try clear hcz47_2
      try clear hcz47_3
      try clear hcz47_4
      try clear hcz47_5
      try clear hcz47_6
      try clear hcz49_0
      try clear hcz49_1
      try clear hcz52_0
      try clear hcz52_1
      try clear hcz52_2
      try clear hcz52_3
      try clear hcz52_4
      try clear hcz52_5
      try clear hcz52_6
      try clear hfz13_0
      try clear hfz13_1
      try clear hfz16_0
      try clear hfz16_1
      try clear hfz16_2
      try clear hfz16_3
      try clear hfz16_4
      try clear hfz16_5
      try clear hfz16_6
      try clear hfz17_0
      try clear hfz17_1
      try clear hfz20_0
      try clear hfz20_1
      try clear hfz23_0
      try clear hfz23_1
      try clear hfz23_2
      try clear hfz23_3
      try clear hfz23_4
      try clear hfz23_5
      try clear hfz23_6
      try clear hfz26_0
      try clear hfz26_1
      try clear hfz26_2
      try clear hfz26_3
      try clear hfz26_4
      try clear hfz26_5
      try clear hfz26_6
      try clear hfz34_0
      try clear hfz34_1
      try clear hfz34_2
      try clear hfz34_3
      try clear hfz34_4
      try clear hfz34_5
      try clear hfz34_6
      try clear hfz43_0
      try clear hfz43_1
      try clear hfz43_2
      try clear hfz43_3
      try clear hfz43_4
      try clear hfz43_5
      try clear hfz43_6
      try clear hfz45_0
      try clear hfz45_1
      try clear hfz45_2
      try clear hfz45_3
      try clear hfz45_4
      try clear hfz45_5
      try clear hfz45_6
      try clear hfz47_0
      try clear hfz47_1
      try clear hfz47_2
      try clear hfz47_3
      try clear hfz47_4
      try clear hfz47_5
      try clear hfz47_6
      try clear hfz49_0
      try clear hfz49_1
      try clear hfz52_0
      try clear hfz52_1
      try clear hfz52_2
      try clear hfz52_3
      try clear hfz52_4
      try clear hfz52_5
      try clear hfz52_6
      try clear hx326_0
      try clear hx326_1
      try clear hx326_2
      try clear hx326_3
      try clear hx326_4
      try clear hx326_5
      try clear hx326_6
      try clear hx328_0
      try clear hx328_1
      try clear hx329_0
      try clear hx330_0
      try clear hx331_0
      try clear hx331_1
      try clear hx331_2
      try clear hx332_0
      try clear hx333_0
      try clear p2
      try clear p3
      try clear p326
      try clear p328
      try clear p329
      try clear p330
      try clear p331
      try clear p332
      try clear p333
      try clear q3
      try clear q326
      try clear q328
      try clear q329
      try clear q330
      try clear q331
      try clear q332
      try clear q333
      obtain ⟨x13_1, rfl, HA, HK1, BK325, BK327, HB⟩ := hrel
      cases gk with
      | zero => exact absurd HA.out (by simp [vetchref12_holds.l2])
      | succ k1 =>
       have H := HA.out
       clear HA
       simp only [vetchref12_holds.l2] at H
       by_cases c53 : x13_1 < (((rd_T56 l0_1 a3).f1).length : Int)
       ·
        rw [if_pos c53] at H
        have c53b0 : decide (x13_1 < (((rd_T56 l0_1 a3).f1).length : Int)) = true := decide_eq_true c53
        clear c53
        by_cases c54 : 0 ≤ x13_1
        ·
         rw [if_pos c54] at H
         have c54b0 : decide (0 ≤ x13_1) = true := decide_eq_true c54
         clear c54
         by_cases c55 : 0 ≤ (rd ((rd_T56 l0_1 a3).f1) x13_1)
         ·
          rw [if_pos c55] at H
          have c55b0 : decide (0 ≤ (rd ((rd_T56 l0_1 a3).f1) x13_1)) = true := decide_eq_true c55
          clear c55
          by_cases c56 : (rd ((rd_T56 l0_1 a3).f1) x13_1) < (l2.length : Int)
          ·
           rw [if_pos c56] at H
           have c56b0 : decide ((rd ((rd_T56 l0_1 a3).f1) x13_1) < (l2.length : Int)) = true := decide_eq_true c56
           clear c56
           obtain ⟨bq57, hbq57⟩ : ∃ b_ : Bool, b_ = (rdOf false l2 (rd ((rd_T56 l0_1 a3).f1) x13_1)) := ⟨_, rfl⟩
           replace H : (if bq57 = true then (vetchref12_holds.l2 k1 l1 l2 (wrap64 (x13_1 + 1)) ((rd_T56 l0_1 a3).f0) ((rd_T56 l0_1 a3).f1) ((rd_T56 l0_1 a3).f2) ((rd_T56 l0_1 a3).f3.f0) ((rd_T56 l0_1 a3).f3.f1) ((rd_T56 l0_1 a3).f3.f2) ((rd_T56 l0_1 a3).f3.f3)) else (some false)) = some r := by rw [← hbq57] at H; exact H
           have Nbq57 := Aside0.mk hbq57
           clear hbq57
           by_cases c58 : bq57 = true
           ·
            subst c58
            have H1 : (vetchref12_holds.l2 k1 l1 l2 (wrap64 (x13_1 + 1)) ((rd_T56 l0_1 a3).f0) ((rd_T56 l0_1 a3).f1) ((rd_T56 l0_1 a3).f2) ((rd_T56 l0_1 a3).f3.f0) ((rd_T56 l0_1 a3).f3.f1) ((rd_T56 l0_1 a3).f3.f2) ((rd_T56 l0_1 a3).f3.f3)) = some r := by rw [if_pos rfl] at H; exact H
            clear H
            have H := H1
            clear H1
            have H' := Aside0.mk H
            clear H
            have hnb59 := NB327_325.out
            have hnc59 := NB325_327.out
            have hcz60_0 : wr.cell? ⟨gb327, 0, none⟩ = some (.int .i64 ((rd_T56 l0_1 a3).f0)) := (blk_cell BK327.out 0).trans rfl
            have hcz60_1 : wr.cell? ⟨gb327, 1, none⟩ = some (.slice A326_1 ((rd_T56 l0_1 a3).f1).length c326_1) := (blk_cell BK327.out 1).trans rfl
            have hcz60_2 : wr.cell? ⟨gb327, 2, none⟩ = some (.int .i64 ((rd_T56 l0_1 a3).f2)) := (blk_cell BK327.out 2).trans rfl
            have hcz60_3 : wr.cell? ⟨gb327, 3, none⟩ = some (.int .u64 ((rd_T56 l0_1 a3).f3.f0)) := (blk_cell BK327.out 3).trans rfl
            have hcz60_4 : wr.cell? ⟨gb327, 4, none⟩ = some (.int .u64 ((rd_T56 l0_1 a3).f3.f1)) := (blk_cell BK327.out 4).trans rfl
            have hcz60_5 : wr.cell? ⟨gb327, 5, none⟩ = some (.int .u64 ((rd_T56 l0_1 a3).f3.f2)) := (blk_cell BK327.out 5).trans rfl
            have hcz60_6 : wr.cell? ⟨gb327, 6, none⟩ = some (.int .u64 ((rd_T56 l0_1 a3).f3.f3)) := (blk_cell BK327.out 6).trans rfl
            have hfz60_0 := blk_frozen BK327.out 0
            have hfz60_1 := blk_frozen BK327.out 1
            have hfz60_2 := blk_frozen BK327.out 2
            have hfz60_3 := blk_frozen BK327.out 3
            have hfz60_4 := blk_frozen BK327.out 4
            have hfz60_5 := blk_frozen BK327.out 5
            have hfz60_6 := blk_frozen BK327.out 6
            have p334 : 0 ≤ (x13_1 : Int) := of_decide_eq_true (by first | (with_reducible assumption) | assumption)
            have q334 : x13_1 < (((rd_T56 l0_1 a3).f1).length : Int) := of_decide_eq_true (by first | (with_reducible assumption) | assumption)
            obtain ⟨ad334, e334, hx334_0⟩ := Kd.at_int HR326_1.out x13_1 p334 q334
            cases e334
            replace hx334_0 := (HB.out.cell (World.block_lt_of_cell? w _ hx334_0)).trans hx334_0
            replace p334 := eq_true p334
            replace q334 := eq_true q334
            have p335 : 0 ≤ ((rd ((rd_T56 l0_1 a3).f1) x13_1) : Int) := of_decide_eq_true (by first | (with_reducible assumption) | assumption)
            have q335 : (rd ((rd_T56 l0_1 a3).f1) x13_1) < (l2.length : Int) := of_decide_eq_true (by first | (with_reducible assumption) | assumption)
            obtain ⟨ad335, e335, hx335_0⟩ := Kd.at_bool HR2.out (rd ((rd_T56 l0_1 a3).f1) x13_1) p335 q335
            (try rw [← Nbq57.out] at hx335_0)
            cases e335
            replace hx335_0 := (HB.out.cell (World.block_lt_of_cell? w _ hx335_0)).trans hx335_0
            replace p335 := eq_true p335
            replace q335 := eq_true q335
            go_wp2
            go_roundg k1
            case measure => have := HK1.out; omega
            case rel => exact ⟨(wrap64 (x13_1 + 1)), (by first | rfl | (simp; done) | (simp [*]; done)), H', ⟨by have := HK1.out; omega⟩, ⟨by (with_reducible repeat (first | refine blk_drewN ?_ _ | refine blk_drew ?_ | refine blk_alloc ?_ _)); exact BK325.out⟩, ⟨by (with_reducible repeat (first | refine blk_drewN ?_ _ | refine blk_drew ?_ | refine blk_alloc ?_ _)); exact BK327.out⟩, ⟨by repeat (first | (with_reducible first | exact HB.out | apply below_alloc | apply pw_below_drewN | apply below_drew1 | refine below_set ?_ GE325.out | refine below_set ?_ GE327.out) | exact HB.out)⟩⟩
           ·
            replace c58 := Bool.eq_false_iff.mpr c58
            subst c58
            have H1 : (some false) = some r := by rw [if_neg (show ¬ (false = true) by decide)] at H; exact H
            clear H
            have H := H1
            clear H1
            obtain rfl := Option.some.inj H
            have hnb61 := NB327_325.out
            have hnc61 := NB325_327.out
            have hcz62_0 : wr.cell? ⟨gb327, 0, none⟩ = some (.int .i64 ((rd_T56 l0_1 a3).f0)) := (blk_cell BK327.out 0).trans rfl
            have hcz62_1 : wr.cell? ⟨gb327, 1, none⟩ = some (.slice A326_1 ((rd_T56 l0_1 a3).f1).length c326_1) := (blk_cell BK327.out 1).trans rfl
            have hcz62_2 : wr.cell? ⟨gb327, 2, none⟩ = some (.int .i64 ((rd_T56 l0_1 a3).f2)) := (blk_cell BK327.out 2).trans rfl
            have hcz62_3 : wr.cell? ⟨gb327, 3, none⟩ = some (.int .u64 ((rd_T56 l0_1 a3).f3.f0)) := (blk_cell BK327.out 3).trans rfl
            have hcz62_4 : wr.cell? ⟨gb327, 4, none⟩ = some (.int .u64 ((rd_T56 l0_1 a3).f3.f1)) := (blk_cell BK327.out 4).trans rfl
            have hcz62_5 : wr.cell? ⟨gb327, 5, none⟩ = some (.int .u64 ((rd_T56 l0_1 a3).f3.f2)) := (blk_cell BK327.out 5).trans rfl
            have hcz62_6 : wr.cell? ⟨gb327, 6, none⟩ = some (.int .u64 ((rd_T56 l0_1 a3).f3.f3)) := (blk_cell BK327.out 6).trans rfl
            have hfz62_0 := blk_frozen BK327.out 0
            have hfz62_1 := blk_frozen BK327.out 1
            have hfz62_2 := blk_frozen BK327.out 2
            have hfz62_3 := blk_frozen BK327.out 3
            have hfz62_4 := blk_frozen BK327.out 4
            have hfz62_5 := blk_frozen BK327.out 5
            have hfz62_6 := blk_frozen BK327.out 6
            have p334 : 0 ≤ (x13_1 : Int) := of_decide_eq_true (by first | (with_reducible assumption) | assumption)
            have q334 : x13_1 < (((rd_T56 l0_1 a3).f1).length : Int) := of_decide_eq_true (by first | (with_reducible assumption) | assumption)
            obtain ⟨ad334, e334, hx334_0⟩ := Kd.at_int HR326_1.out x13_1 p334 q334
            cases e334
            replace hx334_0 := (HB.out.cell (World.block_lt_of_cell? w _ hx334_0)).trans hx334_0
            replace p334 := eq_true p334
            replace q334 := eq_true q334
            have p335 : 0 ≤ ((rd ((rd_T56 l0_1 a3).f1) x13_1) : Int) := of_decide_eq_true (by first | (with_reducible assumption) | assumption)
            have q335 : (rd ((rd_T56 l0_1 a3).f1) x13_1) < (l2.length : Int) := of_decide_eq_true (by first | (with_reducible assumption) | assumption)
            obtain ⟨ad335, e335, hx335_0⟩ := Kd.at_bool HR2.out (rd ((rd_T56 l0_1 a3).f1) x13_1) p335 q335
            (try rw [← Nbq57.out] at hx335_0)
            cases e335
            replace hx335_0 := (HB.out.cell (World.block_lt_of_cell? w _ hx335_0)).trans hx335_0
            replace p335 := eq_true p335
            replace q335 := eq_true q335
            go_wp2
            go_ret
            exact ⟨by first | rfl | (simp [errW_none, errW_some] <;> rfl) | (simp [*, errW_none, errW_some] <;> rfl), by repeat (first | (with_reducible first | exact HB.out | apply below_alloc | apply pw_below_drewN | apply below_drew1 | refine below_set ?_ GE325.out | refine below_set ?_ GE327.out) | exact HB.out)⟩
          ·
           rw [if_neg c56] at H
           exact absurd H (by simp)
         ·
          rw [if_neg c55] at H
          exact absurd H (by simp)
        ·
         rw [if_neg c54] at H
         exact absurd H (by simp)
       ·
        rw [if_neg c53] at H
        have c53b0 : decide (x13_1 < (((rd_T56 l0_1 a3).f1).length : Int)) = false := decide_eq_false c53
        clear c53
        by_cases c63 : ((rd_T56 l0_1 a3).f0) = 5
        ·
         rw [if_pos c63] at H
         have c63b0 : (((rd_T56 l0_1 a3).f0) == 5) = true := beq_iff_eq.mpr c63
         have c63b1 : (((rd_T56 l0_1 a3).f0) != 5) = false := bne_eq_false_iff_eq.mpr c63
         clear c63
         by_cases c64 : 0 < (((rd_T56 l0_1 a3).f1).length : Int)
         ·
          rw [if_pos c64] at H
          have c64b0 : decide (0 < (((rd_T56 l0_1 a3).f1).length : Int)) = true := decide_eq_true c64
          have c64b1 : decide (0 < ((rd_T56 l0_1 a3).f1).length) = true := decide_eq_true (by omega)
          clear c64
          by_cases c65 : 0 ≤ (rd ((rd_T56 l0_1 a3).f1) 0)
          ·
           rw [if_pos c65] at H
           have c65b0 : decide (0 ≤ (rd ((rd_T56 l0_1 a3).f1) 0)) = true := decide_eq_true c65
           clear c65
           by_cases c66 : (rd ((rd_T56 l0_1 a3).f1) 0) < (l1.length : Int)
           ·
            rw [if_pos c66] at H
            have c66b0 : decide ((rd ((rd_T56 l0_1 a3).f1) 0) < (l1.length : Int)) = true := decide_eq_true c66
            clear c66
            obtain rfl := Option.some.inj H
            have hnb67 := NB327_325.out
            have hnc67 := NB325_327.out
            have hcz68_0 : wr.cell? ⟨gb327, 0, none⟩ = some (.int .i64 ((rd_T56 l0_1 a3).f0)) := (blk_cell BK327.out 0).trans rfl
            have hcz68_1 : wr.cell? ⟨gb327, 1, none⟩ = some (.slice A326_1 ((rd_T56 l0_1 a3).f1).length c326_1) := (blk_cell BK327.out 1).trans rfl
            have hcz68_2 : wr.cell? ⟨gb327, 2, none⟩ = some (.int .i64 ((rd_T56 l0_1 a3).f2)) := (blk_cell BK327.out 2).trans rfl
            have hcz68_3 : wr.cell? ⟨gb327, 3, none⟩ = some (.int .u64 ((rd_T56 l0_1 a3).f3.f0)) := (blk_cell BK327.out 3).trans rfl
            have hcz68_4 : wr.cell? ⟨gb327, 4, none⟩ = some (.int .u64 ((rd_T56 l0_1 a3).f3.f1)) := (blk_cell BK327.out 4).trans rfl
            have hcz68_5 : wr.cell? ⟨gb327, 5, none⟩ = some (.int .u64 ((rd_T56 l0_1 a3).f3.f2)) := (blk_cell BK327.out 5).trans rfl
            have hcz68_6 : wr.cell? ⟨gb327, 6, none⟩ = some (.int .u64 ((rd_T56 l0_1 a3).f3.f3)) := (blk_cell BK327.out 6).trans rfl
            have hfz68_0 := blk_frozen BK327.out 0
            have hfz68_1 := blk_frozen BK327.out 1
            have hfz68_2 := blk_frozen BK327.out 2
            have hfz68_3 := blk_frozen BK327.out 3
            have hfz68_4 := blk_frozen BK327.out 4
            have hfz68_5 := blk_frozen BK327.out 5
            have hfz68_6 := blk_frozen BK327.out 6
            have p336 : 0 ≤ (0 : Int) := (by omega)
            have q336 : 0 < (((rd_T56 l0_1 a3).f1).length : Int) := of_decide_eq_true (by first | (with_reducible assumption) | assumption)
            obtain ⟨ad336, e336, hx336_0⟩ := Kd.at_int HR326_1.out 0 p336 q336
            cases e336
            have qi336 : (0 < ((rd_T56 l0_1 a3).f1).length) = True := eq_true (by omega)
            (try rw [show ((0 : Int)).toNat = 0 from rfl] at hx336_0)
            (try rw [Addr.add_zero'] at hx336_0)
            replace hx336_0 := (HB.out.cell (World.block_lt_of_cell? w _ hx336_0)).trans hx336_0
            replace p336 := eq_true p336
            replace q336 := eq_true q336
            have p337 : 0 ≤ ((rd ((rd_T56 l0_1 a3).f1) 0) : Int) := of_decide_eq_true (by first | (with_reducible assumption) | assumption)
            have q337 : (rd ((rd_T56 l0_1 a3).f1) 0) < (l1.length : Int) := of_decide_eq_true (by first | (with_reducible assumption) | assumption)
            obtain ⟨ad337, e337, hx337_0, hx337_1, hx337_2⟩ := at_T45 HR1.out (rd ((rd_T56 l0_1 a3).f1) 0) p337 q337
            cases e337
            replace hx337_0 := (HB.out.cell (World.block_lt_of_cell? w _ hx337_0)).trans hx337_0
            replace hx337_1 := (HB.out.cell (World.block_lt_of_cell? w _ hx337_1)).trans hx337_1
            replace hx337_2 := (HB.out.cell (World.block_lt_of_cell? w _ hx337_2)).trans hx337_2
            replace p337 := eq_true p337
            replace q337 := eq_true q337
            go_wp2
            go_ret
            exact ⟨by first | rfl | (simp [errW_none, errW_some] <;> rfl) | (simp [*, errW_none, errW_some] <;> rfl), by repeat (first | (with_reducible first | exact HB.out | apply below_alloc | apply pw_below_drewN | apply below_drew1 | refine below_set ?_ GE325.out | refine below_set ?_ GE327.out) | exact HB.out)⟩
           ·
            rw [if_neg c66] at H
            exact absurd H (by simp)
          ·
           rw [if_neg c65] at H
           exact absurd H (by simp)
         ·
          rw [if_neg c64] at H
          exact absurd H (by simp)
        ·
         rw [if_neg c63] at H
         have c63b0 : (((rd_T56 l0_1 a3).f0) == 5) = false := beq_eq_false_iff_ne.mpr c63
         have c63b1 : (((rd_T56 l0_1 a3).f0) != 5) = true := bne_iff_ne.mpr c63
         by_cases c69 : ((rd_T56 l0_1 a3).f0) = 6
         ·
          rw [if_pos c69] at H
          have c69b0 : (((rd_T56 l0_1 a3).f0) == 6) = true := beq_iff_eq.mpr c69
          have c69b1 : (((rd_T56 l0_1 a3).f0) != 6) = false := bne_eq_false_iff_eq.mpr c69
          clear c69
          by_cases c70 : 0 < (((rd_T56 l0_1 a3).f1).length : Int)
          ·
           rw [if_pos c70] at H
           have c70b0 : decide (0 < (((rd_T56 l0_1 a3).f1).length : Int)) = true := decide_eq_true c70
           have c70b1 : decide (0 < ((rd_T56 l0_1 a3).f1).length) = true := decide_eq_true (by omega)
           clear c70
           by_cases c71 : 0 ≤ (rd ((rd_T56 l0_1 a3).f1) 0)
           ·
            rw [if_pos c71] at H
            have c71b0 : decide (0 ≤ (rd ((rd_T56 l0_1 a3).f1) 0)) = true := decide_eq_true c71
            clear c71
            by_cases c72 : (rd ((rd_T56 l0_1 a3).f1) 0) < (l1.length : Int)
            ·
             rw [if_pos c72] at H
             have c72b0 : decide ((rd ((rd_T56 l0_1 a3).f1) 0) < (l1.length : Int)) = true := decide_eq_true c72
             clear c72
             obtain rfl := Option.some.inj H
             have hnb73 := NB327_325.out
             have hnc73 := NB325_327.out
             have hcz74_0 : wr.cell? ⟨gb327, 0, none⟩ = some (.int .i64 ((rd_T56 l0_1 a3).f0)) := (blk_cell BK327.out 0).trans rfl
             have hcz74_1 : wr.cell? ⟨gb327, 1, none⟩ = some (.slice A326_1 ((rd_T56 l0_1 a3).f1).length c326_1) := (blk_cell BK327.out 1).trans rfl
             have hcz74_2 : wr.cell? ⟨gb327, 2, none⟩ = some (.int .i64 ((rd_T56 l0_1 a3).f2)) := (blk_cell BK327.out 2).trans rfl
             have hcz74_3 : wr.cell? ⟨gb327, 3, none⟩ = some (.int .u64 ((rd_T56 l0_1 a3).f3.f0)) := (blk_cell BK327.out 3).trans rfl
             have hcz74_4 : wr.cell? ⟨gb327, 4, none⟩ = some (.int .u64 ((rd_T56 l0_1 a3).f3.f1)) := (blk_cell BK327.out 4).trans rfl
             have hcz74_5 : wr.cell? ⟨gb327, 5, none⟩ = some (.int .u64 ((rd_T56 l0_1 a3).f3.f2)) := (blk_cell BK327.out 5).trans rfl
             have hcz74_6 : wr.cell? ⟨gb327, 6, none⟩ = some (.int .u64 ((rd_T56 l0_1 a3).f3.f3)) := (blk_cell BK327.out 6).trans rfl
             have hfz74_0 := blk_frozen BK327.out 0
             have hfz74_1 := blk_frozen BK327.out 1
             have hfz74_2 := blk_frozen BK327.out 2
             have hfz74_3 := blk_frozen BK327.out 3
             have hfz74_4 := blk_frozen BK327.out 4
             have hfz74_5 := blk_frozen BK327.out 5
             have hfz74_6 := blk_frozen BK327.out 6
             have p338 : 0 ≤ (0 : Int) := (by omega)
             have q338 : 0 < (((rd_T56 l0_1 a3).f1).length : Int) := of_decide_eq_true (by first | (with_reducible assumption) | assumption)
             obtain ⟨ad338, e338, hx338_0⟩ := Kd.at_int HR326_1.out 0 p338 q338
             cases e338
             have qi338 : (0 < ((rd_T56 l0_1 a3).f1).length) = True := eq_true (by omega)
             (try rw [show ((0 : Int)).toNat = 0 from rfl] at hx338_0)
             (try rw [Addr.add_zero'] at hx338_0)
             replace hx338_0 := (HB.out.cell (World.block_lt_of_cell? w _ hx338_0)).trans hx338_0
             replace p338 := eq_true p338
             replace q338 := eq_true q338
             have p339 : 0 ≤ ((rd ((rd_T56 l0_1 a3).f1) 0) : Int) := of_decide_eq_true (by first | (with_reducible assumption) | assumption)
             have q339 : (rd ((rd_T56 l0_1 a3).f1) 0) < (l1.length : Int) := of_decide_eq_true (by first | (with_reducible assumption) | assumption)
             obtain ⟨ad339, e339, hx339_0, hx339_1, hx339_2⟩ := at_T45 HR1.out (rd ((rd_T56 l0_1 a3).f1) 0) p339 q339
             cases e339
             replace hx339_0 := (HB.out.cell (World.block_lt_of_cell? w _ hx339_0)).trans hx339_0
             replace hx339_1 := (HB.out.cell (World.block_lt_of_cell? w _ hx339_1)).trans hx339_1
             replace hx339_2 := (HB.out.cell (World.block_lt_of_cell? w _ hx339_2)).trans hx339_2
             replace p339 := eq_true p339
             replace q339 := eq_true q339
             go_wp2
             go_ret
             exact ⟨by first | rfl | (simp [errW_none, errW_some] <;> rfl) | (simp [*, errW_none, errW_some] <;> rfl), by repeat (first | (with_reducible first | exact HB.out | apply below_alloc | apply pw_below_drewN | apply below_drew1 | refine below_set ?_ GE325.out | refine below_set ?_ GE327.out) | exact HB.out)⟩
            ·
             rw [if_neg c72] at H
             exact absurd H (by simp)
           ·
            rw [if_neg c71] at H
            exact absurd H (by simp)
          ·
           rw [if_neg c70] at H
           exact absurd H (by simp)
         ·
          rw [if_neg c69] at H
          have c69b0 : (((rd_T56 l0_1 a3).f0) == 6) = false := beq_eq_false_iff_ne.mpr c69
          have c69b1 : (((rd_T56 l0_1 a3).f0) != 6) = true := bne_iff_ne.mpr c69
          obtain rfl := Option.some.inj H
          have hnb75 := NB327_325.out
          have hnc75 := NB325_327.out
          have hcz76_0 : wr.cell? ⟨gb327, 0, none⟩ = some (.int .i64 ((rd_T56 l0_1 a3).f0)) := (blk_cell BK327.out 0).trans rfl
          have hcz76_1 : wr.cell? ⟨gb327, 1, none⟩ = some (.slice A326_1 ((rd_T56 l0_1 a3).f1).length c326_1) := (blk_cell BK327.out 1).trans rfl
          have hcz76_2 : wr.cell? ⟨gb327, 2, none⟩ = some (.int .i64 ((rd_T56 l0_1 a3).f2)) := (blk_cell BK327.out 2).trans rfl
          have hcz76_3 : wr.cell? ⟨gb327, 3, none⟩ = some (.int .u64 ((rd_T56 l0_1 a3).f3.f0)) := (blk_cell BK327.out 3).trans rfl
          have hcz76_4 : wr.cell? ⟨gb327, 4, none⟩ = some (.int .u64 ((rd_T56 l0_1 a3).f3.f1)) := (blk_cell BK327.out 4).trans rfl
          have hcz76_5 : wr.cell? ⟨gb327, 5, none⟩ = some (.int .u64 ((rd_T56 l0_1 a3).f3.f2)) := (blk_cell BK327.out 5).trans rfl
          have hcz76_6 : wr.cell? ⟨gb327, 6, none⟩ = some (.int .u64 ((rd_T56 l0_1 a3).f3.f3)) := (blk_cell BK327.out 6).trans rfl
          have hfz76_0 := blk_frozen BK327.out 0
          have hfz76_1 := blk_frozen BK327.out 1
          have hfz76_2 := blk_frozen BK327.out 2
          have hfz76_3 := blk_frozen BK327.out 3
          have hfz76_4 := blk_frozen BK327.out 4
          have hfz76_5 := blk_frozen BK327.out 5
          have hfz76_6 := blk_frozen BK327.out 6
          go_wp2
          go_ret
          exact ⟨by first | rfl | (simp [errW_none, errW_some] <;> rfl) | (simp [*, errW_none, errW_some] <;> rfl), by repeat (first | (with_reducible first | exact HB.out | apply below_alloc | apply pw_below_drewN | apply below_drew1 | refine below_set ?_ GE325.out | refine below_set ?_ GE327.out) | exact HB.out)⟩
  ·
   rw [if_neg c6] at H
   exact absurd H (by simp)
 ·
  rw [if_neg c5] at H
  exact absurd H (by simp)
end Go.Proofs.Ythgedejnpgcacaa.V
namespace Go.Proofs.Ythgedejnpgcacaa.V
open Go.RowKit Go.Proofs.YthgedejnpgcacaaW.PrintWords Go.Proofs.YthgedejnpgcacaaW.PrintLast Go.Proofs.YthgedejnpgcacaaW.PrintMore
attribute [local go_sem] max2_int min2_int max_two min_two max_three min_three max_four min_four tdiv_most
set_option linter.unusedVariables false
set_option linter.unusedSimpArgs false
mutual
def vetchref12_Of.l0 : Nat → List (S45) → List Bool → Int → List (S51) → List (S56) → Option (List Bool)
 | 0, _, _, _, _, _ => none
 | k + 1, x3, x4, x5, x341000, x341001 => if x5 ≤ (x341001.length : Int) then (vetchref12_Of.l1 k x3 x4 x5 ([] : List Bool) 0 x341000 x341001) else (some x4)
def vetchref12_Of.l1 : Nat → List (S45) → List Bool → Int → List Bool → Int → List (S51) → List (S56) → Option (List Bool)
 | 0, _, _, _, _, _, _, _ => none
 | k + 1, x3, x4, x5, x6, x7, x341000, x341001 => if x7 < (x341001.length : Int) then ((vetchref12_holds.f k x341000 x341001 x3 x4 x7).bind fun t347 => (if x6.length < 140737488355328 then (vetchref12_Of.l1 k x3 x4 x5 (x6 ++ [t347]) (wrap64 (x7 + 1)) x341000 x341001) else (none))) else (vetchref12_Of.l0 k x3 x6 (wrap64 (x5 + 1)) x341000 x341001)
end
def vetchref12_Of.f (k : Nat) (l0_0 : List (S51)) (l0_1 : List (S56)) : Option (List Bool) := (vetchref11_Of.f k l0_0 l0_1).bind fun t341 => (if 0 ≤ (l0_1.length : Int) then (if ((l0_1.length : Int) : Int).toNat ≤ 281474976710656 then (vetchref12_Of.l0 k t341 (List.replicate ((l0_1.length : Int) : Int).toNat false) 0 l0_0 l0_1) else (none)) else (none))
set_option maxHeartbeats 8000000 in
set_option maxRecDepth 100000 in
theorem vetchref12_Of.calls (k : Nat) (A0_0 : Option Addr) (c0_0 : Nat) (l0_0 : List (S51)) (A0_1 : Option Addr) (c0_1 : Nat) (l0_1 : List (S56)) (r : List Bool) (w : World) (hr0_0 : Kd.C k51 w A0_0 l0_0.length l0_0) (hc0_0 : l0_0.length ≤ c0_0) (hr0_1 : Kd.C k56 w A0_1 l0_1.length l0_1) (hc0_1 : l0_1.length ≤ c0_1) (h : vetchref12_Of.f k l0_0 l0_1 = some r) :
 Calls Try.prog 33 #[.agg #[.slice A0_0 l0_0.length c0_0, .slice A0_1 l0_1.length c0_1]] w fun e w' => ∃ v0_ : Value, e = .returned (v0_) ∧ Kd.R Kd.bool 4 w' w.heap.size (fun _ => True) v0_ r ∧ Below w.heap.size w w' := by
 have hu25 := Try.underlying25
 have HR0_0 := Aside0.mk hr0_0
 have HC0_0 := Aside0.mk hc0_0
 clear hr0_0 hc0_0
 have HR0_1 := Aside0.mk hr0_1
 have HC0_1 := Aside0.mk hc0_1
 clear hr0_1 hc0_1
 have HB := Aside0.mk (Below.refl w.heap.size w)
 have H : ((vetchref11_Of.f k l0_0 l0_1).bind fun t341 => (if 0 ≤ (l0_1.length : Int) then (if ((l0_1.length : Int) : Int).toNat ≤ 281474976710656 then (vetchref12_Of.l0 k t341 (List.replicate ((l0_1.length : Int) : Int).toNat false) 0 l0_0 l0_1) else (none)) else (none))) = some r := h
 clear h
 replace H := Option.bind_eq_some_iff.mp H
 obtain ⟨t341, A20, H⟩ := H
 replace H : (if 0 ≤ (l0_1.length : Int) then (if ((l0_1.length : Int) : Int).toNat ≤ 281474976710656 then (vetchref12_Of.l0 k t341 (List.replicate ((l0_1.length : Int) : Int).toNat false) 0 l0_0 l0_1) else (none)) else (none)) = some r := H
 have A2 := Aside0.mk A20
 clear A20
 by_cases c3 : 0 ≤ (l0_1.length : Int)
 ·
  rw [if_pos c3] at H
  have c3b0 := eq_true c3
  have c3b1 : decide (0 ≤ (l0_1.length : Int)) = true := decide_eq_true c3
  clear c3
  by_cases c4 : ((l0_1.length : Int) : Int).toNat ≤ 281474976710656
  ·
   rw [if_pos c4] at H
   have c4b0 := eq_true c4
   have c4b1 : decide (((l0_1.length : Int) : Int).toNat ≤ 281474976710656) = true := decide_eq_true c4
   clear c4
   obtain ⟨y344, hy344⟩ : ∃ y_ : List Bool, y_ = (List.replicate ((l0_1.length : Int) : Int).toNat false) := ⟨_, rfl⟩
   replace H : (vetchref12_Of.l0 k t341 y344 0 l0_0 l0_1) = some r := by first | (rw [hy344]; with_reducible exact H) | (have H2_ := (Option.bind_some _ _).symm.trans H; rw [hy344]; with_reducible exact H2_) | (have H2_ := (Option.bind_some _ _).symm.trans H; with_reducible exact H2_) | with_reducible exact H | (rw [hy344]; exact H) | exact H
   have Ny344 := Aside0.mk hy344
   clear hy344
   have H' := Aside0.mk H
   clear H
   go_enter Try.func33, Try.ntmps33
   go_wp2_with (first | ((with_reducible refine gate_dst (N := 1) rfl ?_); refine box_event ?hg (N := 1) ?hd (cs := #[.slice A0_0 l0_0.length c0_0, .slice A0_1 l0_1.length c0_1]) (t := 25) ?hr ?_; (case hd => rfl); (case hg => rfl); (case hr => first | (go_simp; done) | (go_simp; rfl)); intro gb340 hg w5 hbox hb; have n0_ := Aside0.mk (below_step (by repeat (first | (with_reducible first | exact HB.out | apply below_alloc | apply pw_below_drewN | apply below_drew1) | exact HB.out)) hb); have n1_ := Aside0.mk (hbox); have n2_ := Aside0.mk ((by rw [hg]; exact (below_size (by repeat (first | (with_reducible first | exact HB.out | apply below_alloc | apply pw_below_drewN | apply below_drew1) | exact HB.out))) : w.heap.size ≤ gb340)); have n3_ := Aside0.mk ((by rw [hg]; exact (below_size (by repeat (first | (with_reducible first | exact HB.out | apply below_alloc | apply pw_below_drewN | apply below_drew1) | exact HB.out))) : w.heap.size ≤ gb340)); clear HB; have HB := n0_; have BK340 := n1_; have GW340 := n2_; have GE340 := n3_; clear n0_ n1_ n2_ n3_; clear hb hbox hg; have hcz6_0 : w5.cell? ⟨gb340, 0, none⟩ = some (.slice A0_0 l0_0.length c0_0) := (blk_cell BK340.out 0).trans rfl; have hcz6_1 : w5.cell? ⟨gb340, 1, none⟩ = some (.slice A0_1 l0_1.length c0_1) := (blk_cell BK340.out 1).trans rfl; have hfz6_0 := blk_frozen BK340.out 0; have hfz6_1 := blk_frozen BK340.out 1) | ((with_reducible refine gate_callee (f := 17) rfl ?_); refine goesL_ (some 9) rfl rfl Try.func17 (by kernel_rfl) rfl #[.agg #[.slice A0_0 l0_0.length c0_0, .slice A0_1 l0_1.length c0_1]] rfl (by (try simp only [List.map_toArray, List.map_cons, List.map_nil]); first | done | rfl | (simp only [List.length_drop, List.length_take]; rfl)) ?_; (with_reducible refine (vetchref11_Of.calls k _ _ l0_0 _ _ l0_1 t341 _ ?side1 ?side2 ?side3 ?side4 A2.out).mono ?_); (case side1 => repeat (first | exact (Kd.C_below HR0_0.out HB.out) | (with_reducible refine Kd.C_alloc ?_ _) | (with_reducible refine Kd.C_drewN ?_ _) | (with_reducible refine Kd.C_drew ?_))); (case side2 => exact HC0_0.out); (case side3 => repeat (first | exact (Kd.C_below HR0_1.out HB.out) | (with_reducible refine Kd.C_alloc ?_ _) | (with_reducible refine Kd.C_drewN ?_ _) | (with_reducible refine Kd.C_drew ?_))); (case side4 => exact HC0_1.out); rintro e w7 ⟨v342, rfl, ho0, hb⟩; refine ⟨_, rfl, ?_⟩; have n0_ := Aside0.mk (Kd.R_lower ho0 (below_size (by repeat (first | (with_reducible first | exact HB.out | apply below_alloc | apply pw_below_drewN | apply below_drew1 | refine below_set ?_ GE340.out) | exact HB.out)))); have n1_ := Aside0.mk (blk_below (g := gb340) (o := .cells #[.slice A0_0 l0_0.length c0_0, .slice A0_1 l0_1.length c0_1] 25 (0, 0)) (by (with_reducible repeat (first | refine blk_drewN ?_ _ | refine blk_drew ?_ | refine blk_alloc ?_ _)); exact BK340.out) hb); have n2_ := Aside0.mk (below_step (by repeat (first | (with_reducible first | exact HB.out | apply below_alloc | apply pw_below_drewN | apply below_drew1 | refine below_set ?_ GE340.out) | exact HB.out)) hb); clear BK340; clear HB; have HO343 := n0_; have BK340 := n1_; have HB := n2_; clear n0_ n1_ n2_; (try clear hb); (try clear hb2); (try clear hk); (try clear hi); (try clear ho0); have hcz8_0 : w7.cell? ⟨gb340, 0, none⟩ = some (.slice A0_0 l0_0.length c0_0) := (blk_cell BK340.out 0).trans rfl; have hcz8_1 : w7.cell? ⟨gb340, 1, none⟩ = some (.slice A0_1 l0_1.length c0_1) := (blk_cell BK340.out 1).trans rfl; have hfz8_0 := blk_frozen BK340.out 0; have hfz8_1 := blk_frozen BK340.out 1) | ((with_reducible refine gate_dst (N := 13) rfl ?_); refine Kd.R_make Kd.bool _ 4 rfl (N := 13) rfl 70 _ _ rfl (l0_1.length : Int) rfl rfl Try.underlying70 (.bool false) 1 info4 rfl (by decide) (by omega) false (ok := fun _ => True) (okp := fun _ => True) rfl (fun _ hk => hk) trivial (of_decide_eq_true (by first | (with_reducible assumption) | assumption)) (Nat.le_trans (Nat.mul_le_mul_right _ (of_decide_eq_true (by first | (with_reducible assumption) | assumption) : (l0_1.length : Int).toNat ≤ 281474976710656)) (by omega)) (Below.refl _ _) (Nat.le_refl _) ?_; intro v345 w9 ho10 hb hg_ hnew_; clear hg_ hnew_; (first | rw [← Ny344.out] at ho10 | (simp only [Int.reduceToNat] at ho10; rw [← Ny344.out] at ho10)); have n0_ := Aside0.mk (Kd.R_below (by (with_reducible repeat (first | apply Kd.R_alloc | apply Kd.R_drewN | apply Kd.R_drew)); exact HO343.out) hb); have n1_ := Aside0.mk (Kd.R_lower ho10 (below_size (by repeat (first | (with_reducible first | exact HB.out | apply below_alloc | apply pw_below_drewN | apply below_drew1 | refine below_set ?_ GE340.out) | exact HB.out)))); have n2_ := Aside0.mk (blk_below (g := gb340) (o := .cells #[.slice A0_0 l0_0.length c0_0, .slice A0_1 l0_1.length c0_1] 25 (0, 0)) (by (with_reducible repeat (first | refine blk_drewN ?_ _ | refine blk_drew ?_ | refine blk_alloc ?_ _)); exact BK340.out) hb); have n3_ := Aside0.mk (below_step (by repeat (first | (with_reducible first | exact HB.out | apply below_alloc | apply pw_below_drewN | apply below_drew1 | refine below_set ?_ GE340.out) | exact HB.out)) hb); clear HO343; clear BK340; clear HB; have HO343 := n0_; have HO346 := n1_; have BK340 := n2_; have HB := n3_; clear n0_ n1_ n2_ n3_; clear hb ho10))
   go_loopg [4, 5] k (fun kq v4 v5 w' => ∃ (x4_1 : List Bool) (x5_1 : Int), v5 = .int .i64 x5_1 ∧ Aside0 (vetchref12_Of.l0 kq t341 x4_1 x5_1 l0_0 l0_1 = some r) ∧ Aside0 (kq ≤ k) ∧ Aside0 (Kd.R k45 45 w' w.heap.size (fun _ => True) v342 t341) ∧ Aside0 (Kd.R Kd.bool 4 w' w.heap.size (fun _ => True) v4 x4_1) ∧ Aside0 (w'.heap[gb340]? = some (.cells #[(.slice A0_0 l0_0.length c0_0), (.slice A0_1 l0_1.length c0_1)] 25 (0, 0))) ∧ Aside0 (Below w.heap.size w w'))
   case atStart => exact ⟨(y344), (0), (by first | rfl | (simp; done) | (simp [*]; done)), H', ⟨Nat.le_refl _⟩, ⟨by (with_reducible repeat (first | apply Kd.R_alloc | apply Kd.R_drewN | apply Kd.R_drew)); exact HO343.out⟩, ⟨by (with_reducible repeat (first | apply Kd.R_alloc | apply Kd.R_drewN | apply Kd.R_drew)); exact HO346.out⟩, ⟨by (with_reducible repeat (first | refine blk_drewN ?_ _ | refine blk_drew ?_ | refine blk_alloc ?_ _)); exact BK340.out⟩, ⟨by repeat (first | (with_reducible first | exact HB.out | apply below_alloc | apply pw_below_drewN | apply below_drew1 | refine below_set ?_ GE340.out) | exact HB.out)⟩⟩
   case round =>
    clear H'
    try clear c1
    try clear p2
    try clear c3
    try clear c3b0
    try clear c3b1
    try clear c4
    try clear c4b0
    try clear c4b1
    try clear hcz6_0
    try clear hcz6_1
    try clear hcz8_0
    try clear hcz8_1
    try clear hfz6_0
    try clear hfz6_1
    try clear hfz8_0
    try clear hfz8_1
    obtain ⟨x4_1, x5_1, rfl, HA, HK1, HO_3, HO_4, BK340, HB⟩ := hrel
    cases gk with
    | zero => exact absurd HA.out (by simp [vetchref12_Of.l0])
    | succ k1 =>
     have H := HA.out
     clear HA
     simp only [vetchref12_Of.l0] at H
     by_cases c11 : x5_1 ≤ (l0_1.length : Int)
     ·
      rw [if_pos c11] at H
      have c11b0 : decide (x5_1 ≤ (l0_1.length : Int)) = true := decide_eq_true c11
      clear c11
      have H' := Aside0.mk H
      clear H
      have hcz12_0 : wr.cell? ⟨gb340, 0, none⟩ = some (.slice A0_0 l0_0.length c0_0) := (blk_cell BK340.out 0).trans rfl
      have hcz12_1 : wr.cell? ⟨gb340, 1, none⟩ = some (.slice A0_1 l0_1.length c0_1) := (blk_cell BK340.out 1).trans rfl
      have hfz12_0 := blk_frozen BK340.out 0
      have hfz12_1 := blk_frozen BK340.out 1
      go_wp2
      go_loopg [6, 7] k1 (fun kq v6 v7 w' => ∃ (x6_2 : List Bool) (x7_2 : Int), v7 = .int .i64 x7_2 ∧ Aside0 (vetchref12_Of.l1 kq t341 x4_1 x5_1 x6_2 x7_2 l0_0 l0_1 = some r) ∧ Aside0 (kq ≤ k1) ∧ Aside0 (Kd.R k45 45 w' w.heap.size (fun _ => True) v342 t341) ∧ Aside0 (Kd.R Kd.bool 4 w' w.heap.size (fun k_ => some k_ ≠ (v6 : Value).ownBlock) u4 x4_1) ∧ Aside0 (Kd.R Kd.bool 4 w' w.heap.size (fun k_ => some k_ ≠ (u4 : Value).ownBlock) v6 x6_2) ∧ Aside0 (w'.heap[gb340]? = some (.cells #[(.slice A0_0 l0_0.length c0_0), (.slice A0_1 l0_1.length c0_1)] 25 (0, 0))) ∧ Aside0 (Below w.heap.size w w'))
      case atStart => exact ⟨(([] : List Bool)), (0), (by first | rfl | (simp; done) | (simp [*]; done)), H', ⟨Nat.le_refl _⟩, ⟨by (with_reducible repeat (first | apply Kd.R_alloc | apply Kd.R_drewN | apply Kd.R_drew)); exact HO_3.out⟩, ⟨by (with_reducible repeat (first | apply Kd.R_alloc | apply Kd.R_drewN | apply Kd.R_drew)); exact Kd.R_mono HO_4.out (fun _ hk => (by simp [Value.ownBlock]))⟩, ⟨by first | exact Kd.R_nil _ _ _ _ _ | exact Kd.N_nil _ _ _ _ _ | exact Kd.V_nil _ _ _ _ _ | exact Kd.Q_nil _ _ _ _ _ | exact Kd.S_nil _ _ _ _ _⟩, ⟨by (with_reducible repeat (first | refine blk_drewN ?_ _ | refine blk_drew ?_ | refine blk_alloc ?_ _)); exact BK340.out⟩, ⟨by repeat (first | (with_reducible first | exact HB.out | apply below_alloc | apply pw_below_drewN | apply below_drew1 | refine below_set ?_ GE340.out) | exact HB.out)⟩⟩
      case round =>
       clear H'
       try clear c1
       try clear p2
       try clear c3
       try clear c3b0
       try clear c3b1
       try clear c4
       try clear c4b0
       try clear c4b1
       try clear c11
       try clear c11b0
       try clear hcz12_0
       try clear hcz12_1
       try clear hcz6_0
       try clear hcz6_1
       try clear hcz8_0
       try clear hcz8_1
       try clear hfz12_0
       try clear hfz12_1
       try clear hfz6_0
       try clear hfz6_1
       try clear hfz8_0
       try clear hfz8_1
       try clear p2
       obtain ⟨x6_2, x7_2, rfl, HA, HK2, HO_3, HO_4, HO_6, BK340, HB⟩ := hrel
       cases gk with
       | zero => exact absurd HA.out (by simp [vetchref12_Of.l1])
       | succ k2 =>
        have H := HA.out
        clear HA
        simp only [vetchref12_Of.l1] at H
        by_cases c13 : x7_2 < (l0_1.length : Int)
        ·
         rw [if_pos c13] at H
         have c13b0 : decide (x7_2 < (l0_1.length : Int)) = true := decide_eq_true c13
         clear c13
         replace H := Option.bind_eq_some_iff.mp H
         obtain ⟨t347, A140, H⟩ := H
         replace H : (if x6_2.length < 140737488355328 then (vetchref12_Of.l1 k2 t341 x4_1 x5_1 (x6_2 ++ [t347]) (wrap64 (x7_2 + 1)) l0_0 l0_1) else (none)) = some r := H
         have A14 := Aside0.mk A140
         clear A140
         by_cases c15 : x6_2.length < 140737488355328
         ·
          rw [if_pos c15] at H
          have LMc15 := Aside0.mk c15
          clear c15
          obtain ⟨y348, hy348⟩ : ∃ y_ : List Bool, y_ = (x6_2 ++ [t347]) := ⟨_, rfl⟩
          replace H : (vetchref12_Of.l1 k2 t341 x4_1 x5_1 y348 (wrap64 (x7_2 + 1)) l0_0 l0_1) = some r := by first | (rw [hy348]; with_reducible exact H) | (have H2_ := (Option.bind_some _ _).symm.trans H; rw [hy348]; with_reducible exact H2_) | (have H2_ := (Option.bind_some _ _).symm.trans H; with_reducible exact H2_) | with_reducible exact H | (rw [hy348]; exact H) | exact H
          have Ny348 := Aside0.mk hy348
          clear hy348
          have H' := Aside0.mk H
          clear H
          have hcz16_0 : wr.cell? ⟨gb340, 0, none⟩ = some (.slice A0_0 l0_0.length c0_0) := (blk_cell BK340.out 0).trans rfl
          have hcz16_1 : wr.cell? ⟨gb340, 1, none⟩ = some (.slice A0_1 l0_1.length c0_1) := (blk_cell BK340.out 1).trans rfl
          have hfz16_0 := blk_frozen BK340.out 0
          have hfz16_1 := blk_frozen BK340.out 1
          obtain ⟨Ao17, co17, eo17⟩ := Kd.R_slice HO_3.out
          subst eo17
          obtain ⟨Ao18, co18, eo18⟩ := Kd.R_slice HO_4.out
          subst eo18
          go_wp2_with (first | ((with_reducible refine gate_callee (f := 40) rfl ?_); refine goesL_ (some 33) rfl rfl Try.func40 (by kernel_rfl) rfl #[.agg #[.slice A0_0 l0_0.length c0_0, .slice A0_1 l0_1.length c0_1], .slice Ao17 t341.length co17, .slice Ao18 x4_1.length co18, .int .i64 x7_2] rfl (by (try simp only [List.map_toArray, List.map_cons, List.map_nil]); first | done | rfl | (simp only [List.length_drop, List.length_take]; rfl)) ?_; (with_reducible refine (vetchref12_holds.calls k2 _ _ l0_0 _ _ l0_1 _ _ t341 _ _ x4_1 x7_2 t347 _ ?side1 ?side2 ?side3 ?side4 ?side5 ?side6 ?side7 ?side8 A14.out).mono ?_); (case side1 => repeat (first | exact (Kd.C_below HR0_0.out HB.out) | (with_reducible refine Kd.C_alloc ?_ _) | (with_reducible refine Kd.C_drewN ?_ _) | (with_reducible refine Kd.C_drew ?_))); (case side2 => exact HC0_0.out); (case side3 => repeat (first | exact (Kd.C_below HR0_1.out HB.out) | (with_reducible refine Kd.C_alloc ?_ _) | (with_reducible refine Kd.C_drewN ?_ _) | (with_reducible refine Kd.C_drew ?_))); (case side4 => exact HC0_1.out); (case side5 => repeat (first | exact (Kd.R_reads' HO_3.out).2.2 | (with_reducible refine Kd.C_alloc ?_ _) | (with_reducible refine Kd.C_drewN ?_ _) | (with_reducible refine Kd.C_drew ?_))); (case side6 => exact (Kd.R_reads' HO_3.out).2.1); (case side7 => repeat (first | exact (Kd.R_reads' HO_4.out).2.2 | (with_reducible refine Kd.C_alloc ?_ _) | (with_reducible refine Kd.C_drewN ?_ _) | (with_reducible refine Kd.C_drew ?_))); (case side8 => exact (Kd.R_reads' HO_4.out).2.1); rintro e w19 ⟨rfl, hb⟩; refine ⟨_, rfl, ?_⟩; have n0_ := Aside0.mk (Kd.R_below (by (with_reducible repeat (first | apply Kd.R_alloc | apply Kd.R_drewN | apply Kd.R_drew)); exact HO_3.out) hb); have n1_ := Aside0.mk (Kd.R_below (by (with_reducible repeat (first | apply Kd.R_alloc | apply Kd.R_drewN | apply Kd.R_drew)); exact HO_4.out) hb); have n2_ := Aside0.mk (Kd.R_below (by (with_reducible repeat (first | apply Kd.R_alloc | apply Kd.R_drewN | apply Kd.R_drew)); exact HO_6.out) hb); have n3_ := Aside0.mk (blk_below (g := gb340) (o := .cells #[.slice A0_0 l0_0.length c0_0, .slice A0_1 l0_1.length c0_1] 25 (0, 0)) (by (with_reducible repeat (first | refine blk_drewN ?_ _ | refine blk_drew ?_ | refine blk_alloc ?_ _)); exact BK340.out) hb); have n4_ := Aside0.mk (below_step (by repeat (first | (with_reducible first | exact HB.out | apply below_alloc | apply pw_below_drewN | apply below_drew1 | refine below_set ?_ GE340.out) | exact HB.out)) hb); clear HO_3; clear HO_4; clear HO_6; clear BK340; clear HB; have HO_3 := n0_; have HO_4 := n1_; have HO_6 := n2_; have BK340 := n3_; have HB := n4_; clear n0_ n1_ n2_ n3_ n4_; (try clear hb); (try clear hb2); (try clear hk); (try clear hi)) | ((with_reducible refine gate_builtin (b := .append) (xs := #[.tmp 28, .tmp 34]) rfl ?_); at_builtin; refine Kd.R_append Kd.bool (w0 := w) w.heap.size rfl (.tmp 28) (.tmp 34) 70 4 (.bool false) 1 rfl Try.underlying70 info4 rfl (by decide) (by omega) u6 x6_2 t347 [.bool t347] (fun k_ => some k_ ≠ (.slice Ao18 x4_1.length co18 : Value).ownBlock) (fun _ => False) rfl rfl ?aP (fun _ hk => hk.elim) ?aF ?aO ?aB ?aS ?aL ?_; (case aP => exact rfl); (case aB => exact (by repeat (first | (with_reducible first | exact HB.out | apply below_alloc | apply pw_below_drewN | apply below_drew1 | refine below_set ?_ GE340.out) | exact HB.out))); (case aF => exact (fun k_ hk => Kd.fresh' (Kd.R_lt (by (with_reducible repeat (first | apply Kd.R_alloc | apply Kd.R_drewN | apply Kd.R_drew)); exact HO_4.out)) k_ hk)); (case aO => exact (by (with_reducible repeat (first | apply Kd.R_alloc | apply Kd.R_drewN | apply Kd.R_drew)); exact HO_6.out)); (case aS => exact (below_size (by repeat (first | (with_reducible first | exact HB.out | apply below_alloc | apply pw_below_drewN | apply below_drew1 | refine below_set ?_ GE340.out) | exact HB.out)))); (case aL => have := LMc15.out; omega); intro v349 w20 ho hb hg hat; rw [← Ny348.out] at ho; have n0_ := Aside0.mk (Kd.R_over' (by (with_reducible repeat (first | apply Kd.R_alloc | apply Kd.R_drewN | apply Kd.R_drew)); exact HO_3.out) (Kd.R_typed (by (with_reducible repeat (first | apply Kd.R_alloc | apply Kd.R_drewN | apply Kd.R_drew)); exact HO_6.out)) (by decide) hg); have n1_ := Aside0.mk (Kd.R_after (ok := (fun _ => True)) (by (with_reducible repeat (first | apply Kd.R_alloc | apply Kd.R_drewN | apply Kd.R_drew)); exact Kd.R_mono HO_4.out (fun _ hk => ⟨trivial, hk⟩)) hg hat); have n2_ := Aside0.mk (blk_grown (g := gb340) (o := .cells #[.slice A0_0 l0_0.length c0_0, .slice A0_1 l0_1.length c0_1] 25 (0, 0)) (by (with_reducible repeat (first | refine blk_drewN ?_ _ | refine blk_drew ?_ | refine blk_alloc ?_ _)); exact BK340.out) hg (Kd.R_ne HO_6.out BK340.out (by decide))); have n3_ := Aside0.mk (hb); have n4_ := Aside0.mk (ho); clear HO_3; clear HO_4; clear BK340; clear HB; clear HO_6; have HO_3 := n0_; have HO_4 := n1_; have BK340 := n2_; have HB := n3_; have HO350 := n4_; clear n0_ n1_ n2_ n3_ n4_; clear ho hb hg hat))
          go_roundg k2
          case measure => have := HK1.out; have := HK2.out; omega
          case rel => exact ⟨(y348), (wrap64 (x7_2 + 1)), (by first | rfl | (simp; done) | (simp [*]; done)), H', ⟨by have := HK1.out; have := HK2.out; omega⟩, ⟨by (with_reducible repeat (first | apply Kd.R_alloc | apply Kd.R_drewN | apply Kd.R_drew)); exact HO_3.out⟩, ⟨by (with_reducible repeat (first | apply Kd.R_alloc | apply Kd.R_drewN | apply Kd.R_drew)); exact Kd.R_mono HO_4.out (fun _ hk => hk.2)⟩, ⟨by (with_reducible repeat (first | apply Kd.R_alloc | apply Kd.R_drewN | apply Kd.R_drew)); exact HO350.out⟩, ⟨by (with_reducible repeat (first | refine blk_drewN ?_ _ | refine blk_drew ?_ | refine blk_alloc ?_ _)); exact BK340.out⟩, ⟨by repeat (first | (with_reducible first | exact HB.out | apply below_alloc | apply pw_below_drewN | apply below_drew1 | refine below_set ?_ GE340.out) | exact HB.out)⟩⟩
         ·
          rw [if_neg c15] at H
          exact absurd H (by simp)
        ·
         rw [if_neg c13] at H
         have c13b0 : decide (x7_2 < (l0_1.length : Int)) = false := decide_eq_false c13
         clear c13
         have H' := Aside0.mk H
         clear H
         have hcz21_0 : wr.cell? ⟨gb340, 0, none⟩ = some (.slice A0_0 l0_0.length c0_0) := (blk_cell BK340.out 0).trans rfl
         have hcz21_1 : wr.cell? ⟨gb340, 1, none⟩ = some (.slice A0_1 l0_1.length c0_1) := (blk_cell BK340.out 1).trans rfl
         have hfz21_0 := blk_frozen BK340.out 0
         have hfz21_1 := blk_frozen BK340.out 1
         go_wp2
         go_roundg k2
         case measure => have := HK1.out; have := HK2.out; omega
         case rel => exact ⟨(x6_2), (wrap64 (x5_1 + 1)), (by first | rfl | (simp; done) | (simp [*]; done)), H', ⟨by have := HK1.out; have := HK2.out; omega⟩, ⟨by (with_reducible repeat (first | apply Kd.R_alloc | apply Kd.R_drewN | apply Kd.R_drew)); exact HO_3.out⟩, ⟨by (with_reducible repeat (first | apply Kd.R_alloc | apply Kd.R_drewN | apply Kd.R_drew)); exact Kd.R_mono HO_6.out (fun _ hk => trivial)⟩, ⟨by (with_reducible repeat (first | refine blk_drewN ?_ _ | refine blk_drew ?_ | refine blk_alloc ?_ _)); exact BK340.out⟩, ⟨by repeat (first | (with_reducible first | exact HB.out | apply below_alloc | apply pw_below_drewN | apply below_drew1 | refine below_set ?_ GE340.out) | exact HB.out)⟩⟩
     ·
      rw [if_neg c11] at H
      have c11b0 : decide (x5_1 ≤ (l0_1.length : Int)) = false := decide_eq_false c11
      clear c11
      obtain rfl := Option.some.inj H
      have hcz22_0 : wr.cell? ⟨gb340, 0, none⟩ = some (.slice A0_0 l0_0.length c0_0) := (blk_cell BK340.out 0).trans rfl
      have hcz22_1 : wr.cell? ⟨gb340, 1, none⟩ = some (.slice A0_1 l0_1.length c0_1) := (blk_cell BK340.out 1).trans rfl
      have hfz22_0 := blk_frozen BK340.out 0
      have hfz22_1 := blk_frozen BK340.out 1
      go_wp2
      go_ret
      exact ⟨_, by first | rfl | (simp [errW_none, errW_some] <;> rfl) | (simp [*, errW_none, errW_some] <;> rfl), by (with_reducible repeat (first | apply Kd.R_alloc | apply Kd.R_drewN | apply Kd.R_drew)); exact HO_4.out, by repeat (first | (with_reducible first | exact HB.out | apply below_alloc | apply pw_below_drewN | apply below_drew1 | refine below_set ?_ GE340.out) | exact HB.out)⟩
  ·
   rw [if_neg c4] at H
   exact absurd H (by simp)
 ·
  rw [if_neg c3] at H
  exact absurd H (by simp)
end Go.Proofs.Ythgedejnpgcacaa.V
namespace Go.Proofs.Ythgedejnpgcacaa.V
open Go.RowKit Go.Proofs.YthgedejnpgcacaaW.PrintWords Go.Proofs.YthgedejnpgcacaaW.PrintLast Go.Proofs.YthgedejnpgcacaaW.PrintMore
attribute [local go_sem] max2_int min2_int max_two min_two max_three min_three max_four min_four tdiv_most
set_option linter.unusedVariables false
set_option linter.unusedSimpArgs false
def vetchref12_First.l0 : Nat → List Bool → Int → Option (Int)
 | 0, _, _ => none
 | k + 1, x3, x4 => if x4 < (x3.length : Int) then (if 0 ≤ x4 then (if rdOf false x3 x4 = true then (vetchref12_First.l0 k x3 (wrap64 (x4 + 1))) else (some x4)) else (none)) else (some (-1))
def vetchref12_First.f (k : Nat) (l0_0 : List (S51)) (l0_1 : List (S56)) : Option (Int) := (vetchref12_Of.f k l0_0 l0_1).bind fun t352 => (vetchref12_First.l0 k t352 0)
set_option maxHeartbeats 8000000 in
set_option maxRecDepth 100000 in
theorem vetchref12_First.calls (k : Nat) (A0_0 : Option Addr) (c0_0 : Nat) (l0_0 : List (S51)) (A0_1 : Option Addr) (c0_1 : Nat) (l0_1 : List (S56)) (r : Int) (w : World) (hr0_0 : Kd.C k51 w A0_0 l0_0.length l0_0) (hc0_0 : l0_0.length ≤ c0_0) (hr0_1 : Kd.C k56 w A0_1 l0_1.length l0_1) (hc0_1 : l0_1.length ≤ c0_1) (h : vetchref12_First.f k l0_0 l0_1 = some r) :
 Calls Try.prog 26 #[.agg #[.slice A0_0 l0_0.length c0_0, .slice A0_1 l0_1.length c0_1]] w fun e w' => e = .returned (.int .i64 r) ∧ Below w.heap.size w w' := by
 have hu25 := Try.underlying25
 have HR0_0 := Aside0.mk hr0_0
 have HC0_0 := Aside0.mk hc0_0
 clear hr0_0 hc0_0
 have HR0_1 := Aside0.mk hr0_1
 have HC0_1 := Aside0.mk hc0_1
 clear hr0_1 hc0_1
 have HB := Aside0.mk (Below.refl w.heap.size w)
 have H : ((vetchref12_Of.f k l0_0 l0_1).bind fun t352 => (vetchref12_First.l0 k t352 0)) = some r := h
 clear h
 replace H := Option.bind_eq_some_iff.mp H
 obtain ⟨t352, A20, H⟩ := H
 replace H : (vetchref12_First.l0 k t352 0) = some r := H
 have A2 := Aside0.mk A20
 clear A20
 have H' := Aside0.mk H
 clear H
 go_enter Try.func26, Try.ntmps26
 go_wp2_with (first | ((with_reducible refine gate_dst (N := 1) rfl ?_); refine box_event ?hg (N := 1) ?hd (cs := #[.slice A0_0 l0_0.length c0_0, .slice A0_1 l0_1.length c0_1]) (t := 25) ?hr ?_; (case hd => rfl); (case hg => rfl); (case hr => first | (go_simp; done) | (go_simp; rfl)); intro gb351 hg w3 hbox hb; have n0_ := Aside0.mk (below_step (by repeat (first | (with_reducible first | exact HB.out | apply below_alloc | apply pw_below_drewN | apply below_drew1) | exact HB.out)) hb); have n1_ := Aside0.mk (hbox); have n2_ := Aside0.mk ((by rw [hg]; exact (below_size (by repeat (first | (with_reducible first | exact HB.out | apply below_alloc | apply pw_below_drewN | apply below_drew1) | exact HB.out))) : w.heap.size ≤ gb351)); have n3_ := Aside0.mk ((by rw [hg]; exact (below_size (by repeat (first | (with_reducible first | exact HB.out | apply below_alloc | apply pw_below_drewN | apply below_drew1) | exact HB.out))) : w.heap.size ≤ gb351)); clear HB; have HB := n0_; have BK351 := n1_; have GW351 := n2_; have GE351 := n3_; clear n0_ n1_ n2_ n3_; clear hb hbox hg; have hcz4_0 : w3.cell? ⟨gb351, 0, none⟩ = some (.slice A0_0 l0_0.length c0_0) := (blk_cell BK351.out 0).trans rfl; have hcz4_1 : w3.cell? ⟨gb351, 1, none⟩ = some (.slice A0_1 l0_1.length c0_1) := (blk_cell BK351.out 1).trans rfl; have hfz4_0 := blk_frozen BK351.out 0; have hfz4_1 := blk_frozen BK351.out 1) | ((with_reducible refine gate_callee (f := 33) rfl ?_); refine goesL_ (some 6) rfl rfl Try.func33 (by kernel_rfl) rfl #[.agg #[.slice A0_0 l0_0.length c0_0, .slice A0_1 l0_1.length c0_1]] rfl (by (try simp only [List.map_toArray, List.map_cons, List.map_nil]); first | done | rfl | (simp only [List.length_drop, List.length_take]; rfl)) ?_; (with_reducible refine (vetchref12_Of.calls k _ _ l0_0 _ _ l0_1 t352 _ ?side1 ?side2 ?side3 ?side4 A2.out).mono ?_); (case side1 => repeat (first | exact (Kd.C_below HR0_0.out HB.out) | (with_reducible refine Kd.C_alloc ?_ _) | (with_reducible refine Kd.C_drewN ?_ _) | (with_reducible refine Kd.C_drew ?_))); (case side2 => exact HC0_0.out); (case side3 => repeat (first | exact (Kd.C_below HR0_1.out HB.out) | (with_reducible refine Kd.C_alloc ?_ _) | (with_reducible refine Kd.C_drewN ?_ _) | (with_reducible refine Kd.C_drew ?_))); (case side4 => exact HC0_1.out); rintro e w5 ⟨v353, rfl, ho0, hb⟩; refine ⟨_, rfl, ?_⟩; have n0_ := Aside0.mk (Kd.R_lower ho0 (below_size (by repeat (first | (with_reducible first | exact HB.out | apply below_alloc | apply pw_below_drewN | apply below_drew1 | refine below_set ?_ GE351.out) | exact HB.out)))); have n1_ := Aside0.mk (blk_below (g := gb351) (o := .cells #[.slice A0_0 l0_0.length c0_0, .slice A0_1 l0_1.length c0_1] 25 (0, 0)) (by (with_reducible repeat (first | refine blk_drewN ?_ _ | refine blk_drew ?_ | refine blk_alloc ?_ _)); exact BK351.out) hb); have n2_ := Aside0.mk (below_step (by repeat (first | (with_reducible first | exact HB.out | apply below_alloc | apply pw_below_drewN | apply below_drew1 | refine below_set ?_ GE351.out) | exact HB.out)) hb); clear BK351; clear HB; have HO354 := n0_; have BK351 := n1_; have HB := n2_; clear n0_ n1_ n2_; (try clear hb); (try clear hb2); (try clear hk); (try clear hi); (try clear ho0)))
 go_loopg [4] k (fun kq v4 w' => ∃ (x4_1 : Int), v4 = .int .i64 x4_1 ∧ Aside0 (vetchref12_First.l0 kq t352 x4_1 = some r) ∧ Aside0 (kq ≤ k) ∧ Aside0 (Kd.R Kd.bool 4 w' w.heap.size (fun _ => True) v353 t352) ∧ Aside0 (w'.heap[gb351]? = some (.cells #[(.slice A0_0 l0_0.length c0_0), (.slice A0_1 l0_1.length c0_1)] 25 (0, 0))) ∧ Aside0 (Below w.heap.size w w'))
 case atStart => exact ⟨(0), (by first | rfl | (simp; done) | (simp [*]; done)), H', ⟨Nat.le_refl _⟩, ⟨by (with_reducible repeat (first | apply Kd.R_alloc | apply Kd.R_drewN | apply Kd.R_drew)); exact HO354.out⟩, ⟨by (with_reducible repeat (first | refine blk_drewN ?_ _ | refine blk_drew ?_ | refine blk_alloc ?_ _)); exact BK351.out⟩, ⟨by repeat (first | (with_reducible first | exact HB.out | apply below_alloc | apply pw_below_drewN | apply below_drew1 | refine below_set ?_ GE351.out) | exact HB.out)⟩⟩
 case round =>
  clear H'
  try clear c2
  try clear p2
  try clear c3
  try clear hcz4_0
  try clear hcz4_1
  try clear hfz4_0
  try clear hfz4_1
  obtain ⟨x4_1, rfl, HA, HK1, HO_3, BK351, HB⟩ := hrel
  cases gk with
  | zero => exact absurd HA.out (by simp [vetchref12_First.l0])
  | succ k1 =>
   have H := HA.out
   clear HA
   simp only [vetchref12_First.l0] at H
   by_cases c6 : x4_1 < (t352.length : Int)
   ·
    rw [if_pos c6] at H
    have c6b0 : decide (x4_1 < (t352.length : Int)) = true := decide_eq_true c6
    clear c6
    by_cases c7 : 0 ≤ x4_1
    ·
     rw [if_pos c7] at H
     have c7b0 : decide (0 ≤ x4_1) = true := decide_eq_true c7
     clear c7
     obtain ⟨bq8, hbq8⟩ : ∃ b_ : Bool, b_ = (rdOf false t352 x4_1) := ⟨_, rfl⟩
     replace H : (if bq8 = true then (vetchref12_First.l0 k1 t352 (wrap64 (x4_1 + 1))) else (some x4_1)) = some r := by rw [← hbq8] at H; exact H
     have Nbq8 := Aside0.mk hbq8
     clear hbq8
     by_cases c9 : bq8 = true
     ·
      subst c9
      have H1 : (vetchref12_First.l0 k1 t352 (wrap64 (x4_1 + 1))) = some r := by rw [if_pos rfl] at H; exact H
      clear H
      have H := H1
      clear H1
      have H' := Aside0.mk H
      clear H
      obtain ⟨Ao10, co10, eo10⟩ := Kd.R_slice HO_3.out
      subst eo10
      have p355 : 0 ≤ (x4_1 : Int) := of_decide_eq_true (by first | (with_reducible assumption) | assumption)
      have q355 : x4_1 < (t352.length : Int) := of_decide_eq_true (by first | (with_reducible assumption) | assumption)
      obtain ⟨ad355, e355, hx355_0⟩ := Kd.at_bool (Kd.R_reads' HO_3.out).2.2 x4_1 p355 q355
      (try rw [← Nbq8.out] at hx355_0)
      cases e355
      replace p355 := eq_true p355
      replace q355 := eq_true q355
      go_wp2
      go_roundg k1
      case measure => have := HK1.out; omega
      case rel => exact ⟨(wrap64 (x4_1 + 1)), (by first | rfl | (simp; done) | (simp [*]; done)), H', ⟨by have := HK1.out; omega⟩, ⟨by (with_reducible repeat (first | apply Kd.R_alloc | apply Kd.R_drewN | apply Kd.R_drew)); exact HO_3.out⟩, ⟨by (with_reducible repeat (first | refine blk_drewN ?_ _ | refine blk_drew ?_ | refine blk_alloc ?_ _)); exact BK351.out⟩, ⟨by repeat (first | (with_reducible first | exact HB.out | apply below_alloc | apply pw_below_drewN | apply below_drew1 | refine below_set ?_ GE351.out) | exact HB.out)⟩⟩
     ·
      replace c9 := Bool.eq_false_iff.mpr c9
      subst c9
      have H1 : (some x4_1) = some r := by rw [if_neg (show ¬ (false = true) by decide)] at H; exact H
      clear H
      have H := H1
      clear H1
      obtain rfl := Option.some.inj H
      obtain ⟨Ao11, co11, eo11⟩ := Kd.R_slice HO_3.out
      subst eo11
      have p355 : 0 ≤ (x4_1 : Int) := of_decide_eq_true (by first | (with_reducible assumption) | assumption)
      have q355 : x4_1 < (t352.length : Int) := of_decide_eq_true (by first | (with_reducible assumption) | assumption)
      obtain ⟨ad355, e355, hx355_0⟩ := Kd.at_bool (Kd.R_reads' HO_3.out).2.2 x4_1 p355 q355
      (try rw [← Nbq8.out] at hx355_0)
      cases e355
      replace p355 := eq_true p355
      replace q355 := eq_true q355
      go_wp2
      go_ret
      exact ⟨by first | rfl | (simp [errW_none, errW_some] <;> rfl) | (simp [*, errW_none, errW_some] <;> rfl), by repeat (first | (with_reducible first | exact HB.out | apply below_alloc | apply pw_below_drewN | apply below_drew1 | refine below_set ?_ GE351.out) | exact HB.out)⟩
    ·
     rw [if_neg c7] at H
     exact absurd H (by simp)
   ·
    rw [if_neg c6] at H
    have c6b0 : decide (x4_1 < (t352.length : Int)) = false := decide_eq_false c6
    clear c6
    obtain rfl := Option.some.inj H
    obtain ⟨Ao12, co12, eo12⟩ := Kd.R_slice HO_3.out
    subst eo12
    go_wp2
    go_ret
    exact ⟨by first | rfl | (simp [errW_none, errW_some] <;> rfl) | (simp [*, errW_none, errW_some] <;> rfl), by repeat (first | (with_reducible first | exact HB.out | apply below_alloc | apply pw_below_drewN | apply below_drew1 | refine below_set ?_ GE351.out) | exact HB.out)⟩
def vetchref12_Right.f (k : Nat) (l0_0 : List (S51)) (l0_1 : List (S56)) : Option (Bool) := (vetchref12_First.f k l0_0 l0_1).bind fun t357 => (some (decide (t357 < 0)))
set_option maxHeartbeats 8000000 in
set_option maxRecDepth 100000 in
theorem vetchref12_Right.calls (k : Nat) (A0_0 : Option Addr) (c0_0 : Nat) (l0_0 : List (S51)) (A0_1 : Option Addr) (c0_1 : Nat) (l0_1 : List (S56)) (r : Bool) (w : World) (hr0_0 : Kd.C k51 w A0_0 l0_0.length l0_0) (hc0_0 : l0_0.length ≤ c0_0) (hr0_1 : Kd.C k56 w A0_1 l0_1.length l0_1) (hc0_1 : l0_1.length ≤ c0_1) (h : vetchref12_Right.f k l0_0 l0_1 = some r) :
 Calls Try.prog 19 #[.agg #[.slice A0_0 l0_0.length c0_0, .slice A0_1 l0_1.length c0_1]] w fun e w' => e = .returned (.bool r) ∧ Below w.heap.size w w' := by
 have hu25 := Try.underlying25
 have HR0_0 := Aside0.mk hr0_0
 have HC0_0 := Aside0.mk hc0_0
 clear hr0_0 hc0_0
 have HR0_1 := Aside0.mk hr0_1
 have HC0_1 := Aside0.mk hc0_1
 clear hr0_1 hc0_1
 have HB := Aside0.mk (Below.refl w.heap.size w)
 have H : ((vetchref12_First.f k l0_0 l0_1).bind fun t357 => (some (decide (t357 < 0)))) = some r := h
 clear h
 replace H := Option.bind_eq_some_iff.mp H
 obtain ⟨t357, A20, H⟩ := H
 replace H : (some (decide (t357 < 0))) = some r := H
 have A2 := Aside0.mk A20
 clear A20
 obtain rfl := Option.some.inj H
 go_enter Try.func19, Try.ntmps19
 go_wp2_with (first | ((with_reducible refine gate_dst (N := 1) rfl ?_); refine box_event ?hg (N := 1) ?hd (cs := #[.slice A0_0 l0_0.length c0_0, .slice A0_1 l0_1.length c0_1]) (t := 25) ?hr ?_; (case hd => rfl); (case hg => rfl); (case hr => first | (go_simp; done) | (go_simp; rfl)); intro gb356 hg w3 hbox hb; have n0_ := Aside0.mk (below_step (by repeat (first | (with_reducible first | exact HB.out | apply below_alloc | apply pw_below_drewN | apply below_drew1) | exact HB.out)) hb); have n1_ := Aside0.mk (hbox); have n2_ := Aside0.mk ((by rw [hg]; exact (below_size (by repeat (first | (with_reducible first | exact HB.out | apply below_alloc | apply pw_below_drewN | apply below_drew1) | exact HB.out))) : w.heap.size ≤ gb356)); have n3_ := Aside0.mk ((by rw [hg]; exact (below_size (by repeat (first | (with_reducible first | exact HB.out | apply below_alloc | apply pw_below_drewN | apply below_drew1) | exact HB.out))) : w.heap.size ≤ gb356)); clear HB; have HB := n0_; have BK356 := n1_; have GW356 := n2_; have GE356 := n3_; clear n0_ n1_ n2_ n3_; clear hb hbox hg; have hcz4_0 : w3.cell? ⟨gb356, 0, none⟩ = some (.slice A0_0 l0_0.length c0_0) := (blk_cell BK356.out 0).trans rfl; have hcz4_1 : w3.cell? ⟨gb356, 1, none⟩ = some (.slice A0_1 l0_1.length c0_1) := (blk_cell BK356.out 1).trans rfl; have hfz4_0 := blk_frozen BK356.out 0; have hfz4_1 := blk_frozen BK356.out 1) | ((with_reducible refine gate_callee (f := 26) rfl ?_); refine goesL_ (some 4) rfl rfl Try.func26 (by kernel_rfl) rfl #[.agg #[.slice A0_0 l0_0.length c0_0, .slice A0_1 l0_1.length c0_1]] rfl (by (try simp only [List.map_toArray, List.map_cons, List.map_nil]); first | done | rfl | (simp only [List.length_drop, List.length_take]; rfl)) ?_; (with_reducible refine (vetchref12_First.calls k _ _ l0_0 _ _ l0_1 t357 _ ?side1 ?side2 ?side3 ?side4 A2.out).mono ?_); (case side1 => repeat (first | exact (Kd.C_below HR0_0.out HB.out) | (with_reducible refine Kd.C_alloc ?_ _) | (with_reducible refine Kd.C_drewN ?_ _) | (with_reducible refine Kd.C_drew ?_))); (case side2 => exact HC0_0.out); (case side3 => repeat (first | exact (Kd.C_below HR0_1.out HB.out) | (with_reducible refine Kd.C_alloc ?_ _) | (with_reducible refine Kd.C_drewN ?_ _) | (with_reducible refine Kd.C_drew ?_))); (case side4 => exact HC0_1.out); rintro e w5 ⟨rfl, hb⟩; refine ⟨_, rfl, ?_⟩; have n0_ := Aside0.mk (blk_below (g := gb356) (o := .cells #[.slice A0_0 l0_0.length c0_0, .slice A0_1 l0_1.length c0_1] 25 (0, 0)) (by (with_reducible repeat (first | refine blk_drewN ?_ _ | refine blk_drew ?_ | refine blk_alloc ?_ _)); exact BK356.out) hb); have n1_ := Aside0.mk (below_step (by repeat (first | (with_reducible first | exact HB.out | apply below_alloc | apply pw_below_drewN | apply below_drew1 | refine below_set ?_ GE356.out) | exact HB.out)) hb); clear BK356; clear HB; have BK356 := n0_; have HB := n1_; clear n0_ n1_; (try clear hb); (try clear hb2); (try clear hk); (try clear hi)))
 go_ret
 exact ⟨by first | rfl | (simp [errW_none, errW_some] <;> rfl) | (simp [*, errW_none, errW_some] <;> rfl), by repeat (first | (with_reducible first | exact HB.out | apply below_alloc | apply pw_below_drewN | apply below_drew1 | refine below_set ?_ GE356.out) | exact HB.out)⟩
end Go.Proofs.Ythgedejnpgcacaa.V
namespace Go.Proofs.Ythgedejnpgcacaa.V
open Go.RowKit Go.Proofs.YthgedejnpgcacaaW.PrintWords Go.Proofs.YthgedejnpgcacaaW.PrintLast Go.Proofs.YthgedejnpgcacaaW.PrintMore
attribute [local go_sem] max2_int min2_int max_two min_two max_three min_three max_four min_four tdiv_most
set_option linter.unusedVariables false
set_option linter.unusedSimpArgs false
def vetchlaw18_NaiveEnough.j0 : Nat → ByteArray → Bool → List (S51) → List (S56) → Option (Bool)
 | 0, _, _, _, _ => none
 | k + 1, x1, x29, x359000, x359001 => if x29 = true then ((vetchlaw18_awake.f k).bind fun t362 => (some t362)) else ((naive_Cost.f k x359000 x359001 x1 1048576).bind fun bt363 => (if bt363.2 = true then (some (decide (bt363.1 ≥ 1))) else (some false)))
def vetchlaw18_NaiveEnough.f (k : Nat) (l0_0 : List (S51)) (l0_1 : List (S56)) (a1 : ByteArray) : Option (Bool) := (vetchlaw18_awake.f k).bind fun t359 => (if t359 = true then ((vetchref05_Small.f k l0_0 l0_1).bind fun t360 => (if t360 = true then ((vetchref12_Right.f k l0_0 l0_1).bind fun t361 => (if t361 = true then (if (l0_1.length : Int) > 6 then (vetchlaw18_NaiveEnough.j0 k a1 true l0_0 l0_1) else (vetchlaw18_NaiveEnough.j0 k a1 (decide ((a1.size : Int) > 3)) l0_0 l0_1)) else (vetchlaw18_NaiveEnough.j0 k a1 true l0_0 l0_1))) else (vetchlaw18_NaiveEnough.j0 k a1 true l0_0 l0_1))) else (vetchlaw18_NaiveEnough.j0 k a1 true l0_0 l0_1))
set_option maxHeartbeats 8000000 in
set_option maxRecDepth 100000 in
theorem vetchlaw18_NaiveEnough.calls (k : Nat) (A0_0 : Option Addr) (c0_0 : Nat) (l0_0 : List (S51)) (A0_1 : Option Addr) (c0_1 : Nat) (l0_1 : List (S56)) (a1 : ByteArray) (r : Bool) (w : World) (hr0_0 : Kd.C k51 w A0_0 l0_0.length l0_0) (hc0_0 : l0_0.length ≤ c0_0) (hr0_1 : Kd.C k56 w A0_1 l0_1.length l0_1) (hc0_1 : l0_1.length ≤ c0_1) (h : vetchlaw18_NaiveEnough.f k l0_0 l0_1 a1 = some r) :
 Calls Try.prog 8 #[.agg #[.slice A0_0 l0_0.length c0_0, .slice A0_1 l0_1.length c0_1], .string a1] w fun e w' => e = .returned (.bool r) ∧ Below w.heap.size w w' := by
 have hu25 := Try.underlying25
 have HR0_0 := Aside0.mk hr0_0
 have HC0_0 := Aside0.mk hc0_0
 clear hr0_0 hc0_0
 have HR0_1 := Aside0.mk hr0_1
 have HC0_1 := Aside0.mk hc0_1
 clear hr0_1 hc0_1
 have HB := Aside0.mk (Below.refl w.heap.size w)
 have H : ((vetchlaw18_awake.f k).bind fun t359 => (if t359 = true then ((vetchref05_Small.f k l0_0 l0_1).bind fun t360 => (if t360 = true then ((vetchref12_Right.f k l0_0 l0_1).bind fun t361 => (if t361 = true then (if (l0_1.length : Int) > 6 then (vetchlaw18_NaiveEnough.j0 k a1 true l0_0 l0_1) else (vetchlaw18_NaiveEnough.j0 k a1 (decide ((a1.size : Int) > 3)) l0_0 l0_1)) else (vetchlaw18_NaiveEnough.j0 k a1 true l0_0 l0_1))) else (vetchlaw18_NaiveEnough.j0 k a1 true l0_0 l0_1))) else (vetchlaw18_NaiveEnough.j0 k a1 true l0_0 l0_1))) = some r := h
 clear h
 have HC3 := Aside0.mk H
 clear H
 go_enter Try.func8, Try.ntmps8
 go_upto_region 1 with (first | ((with_reducible refine gate_dst (N := 2) rfl ?_); (try (refine gate_guard (by rfl) ?_; dsimp only)); refine box_event ?hg (N := 2) ?hd (cs := #[.slice A0_0 l0_0.length c0_0, .slice A0_1 l0_1.length c0_1]) (t := 25) ?hr ?_; (case hd => rfl); (case hg => rfl); (case hr => first | (go_simp; done) | (go_simp; rfl)); intro gb358 hg w4 hbox hb; have n0_ := Aside0.mk (below_step (by repeat (first | (with_reducible first | exact HB.out | apply below_alloc | apply pw_below_drewN | apply below_drew1) | exact HB.out)) hb); have n1_ := Aside0.mk (hbox); have n2_ := Aside0.mk ((by rw [hg]; exact (below_size (by repeat (first | (with_reducible first | exact HB.out | apply below_alloc | apply pw_below_drewN | apply below_drew1) | exact HB.out))) : w.heap.size ≤ gb358)); have n3_ := Aside0.mk ((by rw [hg]; exact (below_size (by repeat (first | (with_reducible first | exact HB.out | apply below_alloc | apply pw_below_drewN | apply below_drew1) | exact HB.out))) : w.heap.size ≤ gb358)); clear HB; have HB := n0_; have BK358 := n1_; have GW358 := n2_; have GE358 := n3_; clear n0_ n1_ n2_ n3_; clear hb hbox hg))
 (try simp only [Act.put, List.setIfInBounds_toArray, List.set_cons_zero, List.set_cons_succ])
 go_cut [29] (fun v29 wc => ∃ (kq : Nat) (x29_2 : Bool), v29 = .bool x29_2 ∧ Aside0 (vetchlaw18_NaiveEnough.j0 kq a1 x29_2 l0_0 l0_1 = some r) ∧ Aside0 (kq ≤ k) ∧ Aside0 (wc.heap[gb358]? = some (.cells #[(.slice A0_0 l0_0.length c0_0), (.slice A0_1 l0_1.length c0_1)] 25 (0, 0))) ∧ Aside0 (Below w.heap.size w wc))
 case first =>
  have H := HC3.out
  clear HC3
  replace H := Option.bind_eq_some_iff.mp H
  obtain ⟨t359, A50, H⟩ := H
  replace H : (if t359 = true then ((vetchref05_Small.f k l0_0 l0_1).bind fun t360 => (if t360 = true then ((vetchref12_Right.f k l0_0 l0_1).bind fun t361 => (if t361 = true then (if (l0_1.length : Int) > 6 then (vetchlaw18_NaiveEnough.j0 k a1 true l0_0 l0_1) else (vetchlaw18_NaiveEnough.j0 k a1 (decide ((a1.size : Int) > 3)) l0_0 l0_1)) else (vetchlaw18_NaiveEnough.j0 k a1 true l0_0 l0_1))) else (vetchlaw18_NaiveEnough.j0 k a1 true l0_0 l0_1))) else (vetchlaw18_NaiveEnough.j0 k a1 true l0_0 l0_1)) = some r := H
  have A5 := Aside0.mk A50
  clear A50
  by_cases c6 : t359 = true
  ·
   subst c6
   have H1 : ((vetchref05_Small.f k l0_0 l0_1).bind fun t360 => (if t360 = true then ((vetchref12_Right.f k l0_0 l0_1).bind fun t361 => (if t361 = true then (if (l0_1.length : Int) > 6 then (vetchlaw18_NaiveEnough.j0 k a1 true l0_0 l0_1) else (vetchlaw18_NaiveEnough.j0 k a1 (decide ((a1.size : Int) > 3)) l0_0 l0_1)) else (vetchlaw18_NaiveEnough.j0 k a1 true l0_0 l0_1))) else (vetchlaw18_NaiveEnough.j0 k a1 true l0_0 l0_1))) = some r := by rw [if_pos rfl] at H; exact H
   clear H
   have H := H1
   clear H1
   replace H := Option.bind_eq_some_iff.mp H
   obtain ⟨t360, A70, H⟩ := H
   replace H : (if t360 = true then ((vetchref12_Right.f k l0_0 l0_1).bind fun t361 => (if t361 = true then (if (l0_1.length : Int) > 6 then (vetchlaw18_NaiveEnough.j0 k a1 true l0_0 l0_1) else (vetchlaw18_NaiveEnough.j0 k a1 (decide ((a1.size : Int) > 3)) l0_0 l0_1)) else (vetchlaw18_NaiveEnough.j0 k a1 true l0_0 l0_1))) else (vetchlaw18_NaiveEnough.j0 k a1 true l0_0 l0_1)) = some r := H
   have A7 := Aside0.mk A70
   clear A70
   by_cases c8 : t360 = true
   ·
    subst c8
    have H1 : ((vetchref12_Right.f k l0_0 l0_1).bind fun t361 => (if t361 = true then (if (l0_1.length : Int) > 6 then (vetchlaw18_NaiveEnough.j0 k a1 true l0_0 l0_1) else (vetchlaw18_NaiveEnough.j0 k a1 (decide ((a1.size : Int) > 3)) l0_0 l0_1)) else (vetchlaw18_NaiveEnough.j0 k a1 true l0_0 l0_1))) = some r := by rw [if_pos rfl] at H; exact H
    clear H
    have H := H1
    clear H1
    replace H := Option.bind_eq_some_iff.mp H
    obtain ⟨t361, A90, H⟩ := H
    replace H : (if t361 = true then (if (l0_1.length : Int) > 6 then (vetchlaw18_NaiveEnough.j0 k a1 true l0_0 l0_1) else (vetchlaw18_NaiveEnough.j0 k a1 (decide ((a1.size : Int) > 3)) l0_0 l0_1)) else (vetchlaw18_NaiveEnough.j0 k a1 true l0_0 l0_1)) = some r := H
    have A9 := Aside0.mk A90
    clear A90
    by_cases c10 : t361 = true
    ·
     subst c10
     have H1 : (if (l0_1.length : Int) > 6 then (vetchlaw18_NaiveEnough.j0 k a1 true l0_0 l0_1) else (vetchlaw18_NaiveEnough.j0 k a1 (decide ((a1.size : Int) > 3)) l0_0 l0_1)) = some r := by rw [if_pos rfl] at H; exact H
     clear H
     have H := H1
     clear H1
     by_cases c11 : (l0_1.length : Int) > 6
     ·
      rw [if_pos c11] at H
      have c11b0 : decide (6 < (l0_1.length : Int)) = true := decide_eq_true c11
      have c11b1 : decide (6 < l0_1.length) = true := decide_eq_true (by omega)
      clear c11
      (first | rw [c11b0] | (simp only [i64_w, i32_w]; rw [c11b0]) | skip)
      have H' := Aside0.mk H
      clear H
      go_wp2_with (first | ((with_reducible refine gate_callee (f := 9) rfl ?_); refine goesL_ (some 7) rfl rfl Try.func9 (by kernel_rfl) rfl #[] rfl (by (try simp only [List.map_toArray, List.map_cons, List.map_nil]); first | done | rfl | (simp only [List.length_drop, List.length_take]; rfl)) ?_; (with_reducible refine (vetchlaw18_awake.calls k  true _ A5.out).mono ?_); rintro e w12 ⟨rfl, hb⟩; refine ⟨_, rfl, ?_⟩; have n0_ := Aside0.mk (blk_below (g := gb358) (o := .cells #[.slice A0_0 l0_0.length c0_0, .slice A0_1 l0_1.length c0_1] 25 (0, 0)) (by (with_reducible repeat (first | refine blk_drewN ?_ _ | refine blk_drew ?_ | refine blk_alloc ?_ _)); exact BK358.out) hb); have n1_ := Aside0.mk (below_step (by repeat (first | (with_reducible first | exact HB.out | apply below_alloc | apply pw_below_drewN | apply below_drew1 | refine below_set ?_ GE358.out) | exact HB.out)) hb); clear BK358; clear HB; have BK358 := n0_; have HB := n1_; clear n0_ n1_; (try clear hb); (try clear hb2); (try clear hk); (try clear hi); have hcz13_0 : w12.cell? ⟨gb358, 0, none⟩ = some (.slice A0_0 l0_0.length c0_0) := (blk_cell BK358.out 0).trans rfl; have hcz13_1 : w12.cell? ⟨gb358, 1, none⟩ = some (.slice A0_1 l0_1.length c0_1) := (blk_cell BK358.out 1).trans rfl; have hfz13_0 := blk_frozen BK358.out 0; have hfz13_1 := blk_frozen BK358.out 1) | (go_at_call 18; (with_reducible refine (vetchref05_Small.calls k _ _ l0_0 _ _ l0_1 true _ ?side1 ?side2 ?side3 ?side4 A7.out).mono ?_); (case side1 => repeat (first | exact (Kd.C_below HR0_0.out HB.out) | (with_reducible refine Kd.C_alloc ?_ _) | (with_reducible refine Kd.C_drewN ?_ _) | (with_reducible refine Kd.C_drew ?_))); (case side2 => exact HC0_0.out); (case side3 => repeat (first | exact (Kd.C_below HR0_1.out HB.out) | (with_reducible refine Kd.C_alloc ?_ _) | (with_reducible refine Kd.C_drewN ?_ _) | (with_reducible refine Kd.C_drew ?_))); (case side4 => exact HC0_1.out); rintro e w14 ⟨rfl, hb⟩; have n0_ := Aside0.mk (blk_below (g := gb358) (o := .cells #[.slice A0_0 l0_0.length c0_0, .slice A0_1 l0_1.length c0_1] 25 (0, 0)) (by (with_reducible repeat (first | refine blk_drewN ?_ _ | refine blk_drew ?_ | refine blk_alloc ?_ _)); exact BK358.out) hb); have n1_ := Aside0.mk (below_step (by repeat (first | (with_reducible first | exact HB.out | apply below_alloc | apply pw_below_drewN | apply below_drew1 | refine below_set ?_ GE358.out) | exact HB.out)) hb); clear BK358; clear HB; have BK358 := n0_; have HB := n1_; clear n0_ n1_; (try clear hb); (try clear hb2); (try clear hk); (try clear hi); have hcz15_0 : w14.cell? ⟨gb358, 0, none⟩ = some (.slice A0_0 l0_0.length c0_0) := (blk_cell BK358.out 0).trans rfl; have hcz15_1 : w14.cell? ⟨gb358, 1, none⟩ = some (.slice A0_1 l0_1.length c0_1) := (blk_cell BK358.out 1).trans rfl; have hfz15_0 := blk_frozen BK358.out 0; have hfz15_1 := blk_frozen BK358.out 1) | (go_at_call 19; (with_reducible refine (vetchref12_Right.calls k _ _ l0_0 _ _ l0_1 true _ ?side1 ?side2 ?side3 ?side4 A9.out).mono ?_); (case side1 => repeat (first | exact (Kd.C_below HR0_0.out HB.out) | (with_reducible refine Kd.C_alloc ?_ _) | (with_reducible refine Kd.C_drewN ?_ _) | (with_reducible refine Kd.C_drew ?_))); (case side2 => exact HC0_0.out); (case side3 => repeat (first | exact (Kd.C_below HR0_1.out HB.out) | (with_reducible refine Kd.C_alloc ?_ _) | (with_reducible refine Kd.C_drewN ?_ _) | (with_reducible refine Kd.C_drew ?_))); (case side4 => exact HC0_1.out); rintro e w16 ⟨rfl, hb⟩; have n0_ := Aside0.mk (blk_below (g := gb358) (o := .cells #[.slice A0_0 l0_0.length c0_0, .slice A0_1 l0_1.length c0_1] 25 (0, 0)) (by (with_reducible repeat (first | refine blk_drewN ?_ _ | refine blk_drew ?_ | refine blk_alloc ?_ _)); exact BK358.out) hb); have n1_ := Aside0.mk (below_step (by repeat (first | (with_reducible first | exact HB.out | apply below_alloc | apply pw_below_drewN | apply below_drew1 | refine below_set ?_ GE358.out) | exact HB.out)) hb); clear BK358; clear HB; have BK358 := n0_; have HB := n1_; clear n0_ n1_; (try clear hb); (try clear hb2); (try clear hk); (try clear hi); have hcz17_0 : w16.cell? ⟨gb358, 0, none⟩ = some (.slice A0_0 l0_0.length c0_0) := (blk_cell BK358.out 0).trans rfl; have hcz17_1 : w16.cell? ⟨gb358, 1, none⟩ = some (.slice A0_1 l0_1.length c0_1) := (blk_cell BK358.out 1).trans rfl; have hfz17_0 := blk_frozen BK358.out 0; have hfz17_1 := blk_frozen BK358.out 1))
      go_meet
      case rel => exact ⟨_, (true), (by first | rfl | (simp; done) | (simp [*]; done)), H', ⟨by first | omega | exact Nat.le_refl _⟩, ⟨by (with_reducible repeat (first | refine blk_drewN ?_ _ | refine blk_drew ?_ | refine blk_alloc ?_ _)); exact BK358.out⟩, ⟨by repeat (first | (with_reducible first | exact HB.out | apply below_alloc | apply pw_below_drewN | apply below_drew1 | refine below_set ?_ GE358.out) | exact HB.out)⟩⟩
     ·
      rw [if_neg c11] at H
      have c11b0 : decide (6 < (l0_1.length : Int)) = false := decide_eq_false c11
      have c11b1 : decide (6 < l0_1.length) = false := decide_eq_false (by omega)
      clear c11
      (first | rw [c11b0] | (simp only [i64_w, i32_w]; rw [c11b0]) | skip)
      have H' := Aside0.mk H
      clear H
      go_wp2_with (first | ((with_reducible refine gate_callee (f := 9) rfl ?_); refine goesL_ (some 7) rfl rfl Try.func9 (by kernel_rfl) rfl #[] rfl (by (try simp only [List.map_toArray, List.map_cons, List.map_nil]); first | done | rfl | (simp only [List.length_drop, List.length_take]; rfl)) ?_; (with_reducible refine (vetchlaw18_awake.calls k  true _ A5.out).mono ?_); rintro e w18 ⟨rfl, hb⟩; refine ⟨_, rfl, ?_⟩; have n0_ := Aside0.mk (blk_below (g := gb358) (o := .cells #[.slice A0_0 l0_0.length c0_0, .slice A0_1 l0_1.length c0_1] 25 (0, 0)) (by (with_reducible repeat (first | refine blk_drewN ?_ _ | refine blk_drew ?_ | refine blk_alloc ?_ _)); exact BK358.out) hb); have n1_ := Aside0.mk (below_step (by repeat (first | (with_reducible first | exact HB.out | apply below_alloc | apply pw_below_drewN | apply below_drew1 | refine below_set ?_ GE358.out) | exact HB.out)) hb); clear BK358; clear HB; have BK358 := n0_; have HB := n1_; clear n0_ n1_; (try clear hb); (try clear hb2); (try clear hk); (try clear hi); have hcz19_0 : w18.cell? ⟨gb358, 0, none⟩ = some (.slice A0_0 l0_0.length c0_0) := (blk_cell BK358.out 0).trans rfl; have hcz19_1 : w18.cell? ⟨gb358, 1, none⟩ = some (.slice A0_1 l0_1.length c0_1) := (blk_cell BK358.out 1).trans rfl; have hfz19_0 := blk_frozen BK358.out 0; have hfz19_1 := blk_frozen BK358.out 1) | (go_at_call 18; (with_reducible refine (vetchref05_Small.calls k _ _ l0_0 _ _ l0_1 true _ ?side1 ?side2 ?side3 ?side4 A7.out).mono ?_); (case side1 => repeat (first | exact (Kd.C_below HR0_0.out HB.out) | (with_reducible refine Kd.C_alloc ?_ _) | (with_reducible refine Kd.C_drewN ?_ _) | (with_reducible refine Kd.C_drew ?_))); (case side2 => exact HC0_0.out); (case side3 => repeat (first | exact (Kd.C_below HR0_1.out HB.out) | (with_reducible refine Kd.C_alloc ?_ _) | (with_reducible refine Kd.C_drewN ?_ _) | (with_reducible refine Kd.C_drew ?_))); (case side4 => exact HC0_1.out); rintro e w20 ⟨rfl, hb⟩; have n0_ := Aside0.mk (blk_below (g := gb358) (o := .cells #[.slice A0_0 l0_0.length c0_0, .slice A0_1 l0_1.length c0_1] 25 (0, 0)) (by (with_reducible repeat (first | refine blk_drewN ?_ _ | refine blk_drew ?_ | refine blk_alloc ?_ _)); exact BK358.out) hb); have n1_ := Aside0.mk (below_step (by repeat (first | (with_reducible first | exact HB.out | apply below_alloc | apply pw_below_drewN | apply below_drew1 | refine below_set ?_ GE358.out) | exact HB.out)) hb); clear BK358; clear HB; have BK358 := n0_; have HB := n1_; clear n0_ n1_; (try clear hb); (try clear hb2); (try clear hk); (try clear hi); have hcz21_0 : w20.cell? ⟨gb358, 0, none⟩ = some (.slice A0_0 l0_0.length c0_0) := (blk_cell BK358.out 0).trans rfl; have hcz21_1 : w20.cell? ⟨gb358, 1, none⟩ = some (.slice A0_1 l0_1.length c0_1) := (blk_cell BK358.out 1).trans rfl; have hfz21_0 := blk_frozen BK358.out 0; have hfz21_1 := blk_frozen BK358.out 1) | (go_at_call 19; (with_reducible refine (vetchref12_Right.calls k _ _ l0_0 _ _ l0_1 true _ ?side1 ?side2 ?side3 ?side4 A9.out).mono ?_); (case side1 => repeat (first | exact (Kd.C_below HR0_0.out HB.out) | (with_reducible refine Kd.C_alloc ?_ _) | (with_reducible refine Kd.C_drewN ?_ _) | (with_reducible refine Kd.C_drew ?_))); (case side2 => exact HC0_0.out); (case side3 => repeat (first | exact (Kd.C_below HR0_1.out HB.out) | (with_reducible refine Kd.C_alloc ?_ _) | (with_reducible refine Kd.C_drewN ?_ _) | (with_reducible refine Kd.C_drew ?_))); (case side4 => exact HC0_1.out); rintro e w22 ⟨rfl, hb⟩; have n0_ := Aside0.mk (blk_below (g := gb358) (o := .cells #[.slice A0_0 l0_0.length c0_0, .slice A0_1 l0_1.length c0_1] 25 (0, 0)) (by (with_reducible repeat (first | refine blk_drewN ?_ _ | refine blk_drew ?_ | refine blk_alloc ?_ _)); exact BK358.out) hb); have n1_ := Aside0.mk (below_step (by repeat (first | (with_reducible first | exact HB.out | apply below_alloc | apply pw_below_drewN | apply below_drew1 | refine below_set ?_ GE358.out) | exact HB.out)) hb); clear BK358; clear HB; have BK358 := n0_; have HB := n1_; clear n0_ n1_; (try clear hb); (try clear hb2); (try clear hk); (try clear hi); have hcz23_0 : w22.cell? ⟨gb358, 0, none⟩ = some (.slice A0_0 l0_0.length c0_0) := (blk_cell BK358.out 0).trans rfl; have hcz23_1 : w22.cell? ⟨gb358, 1, none⟩ = some (.slice A0_1 l0_1.length c0_1) := (blk_cell BK358.out 1).trans rfl; have hfz23_0 := blk_frozen BK358.out 0; have hfz23_1 := blk_frozen BK358.out 1))
      go_meet
      case rel => exact ⟨_, (decide ((a1.size : Int) > 3)), (by first | rfl | (simp; done) | (simp [*]; done)), H', ⟨by first | omega | exact Nat.le_refl _⟩, ⟨by (with_reducible repeat (first | refine blk_drewN ?_ _ | refine blk_drew ?_ | refine blk_alloc ?_ _)); exact BK358.out⟩, ⟨by repeat (first | (with_reducible first | exact HB.out | apply below_alloc | apply pw_below_drewN | apply below_drew1 | refine below_set ?_ GE358.out) | exact HB.out)⟩⟩
    ·
     replace c10 := Bool.eq_false_iff.mpr c10
     subst c10
     have H1 : (vetchlaw18_NaiveEnough.j0 k a1 true l0_0 l0_1) = some r := by rw [if_neg (show ¬ (false = true) by decide)] at H; exact H
     clear H
     have H := H1
     clear H1
     have H' := Aside0.mk H
     clear H
     go_wp2_with (first | ((with_reducible refine gate_callee (f := 9) rfl ?_); refine goesL_ (some 7) rfl rfl Try.func9 (by kernel_rfl) rfl #[] rfl (by (try simp only [List.map_toArray, List.map_cons, List.map_nil]); first | done | rfl | (simp only [List.length_drop, List.length_take]; rfl)) ?_; (with_reducible refine (vetchlaw18_awake.calls k  true _ A5.out).mono ?_); rintro e w24 ⟨rfl, hb⟩; refine ⟨_, rfl, ?_⟩; have n0_ := Aside0.mk (blk_below (g := gb358) (o := .cells #[.slice A0_0 l0_0.length c0_0, .slice A0_1 l0_1.length c0_1] 25 (0, 0)) (by (with_reducible repeat (first | refine blk_drewN ?_ _ | refine blk_drew ?_ | refine blk_alloc ?_ _)); exact BK358.out) hb); have n1_ := Aside0.mk (below_step (by repeat (first | (with_reducible first | exact HB.out | apply below_alloc | apply pw_below_drewN | apply below_drew1 | refine below_set ?_ GE358.out) | exact HB.out)) hb); clear BK358; clear HB; have BK358 := n0_; have HB := n1_; clear n0_ n1_; (try clear hb); (try clear hb2); (try clear hk); (try clear hi); have hcz25_0 : w24.cell? ⟨gb358, 0, none⟩ = some (.slice A0_0 l0_0.length c0_0) := (blk_cell BK358.out 0).trans rfl; have hcz25_1 : w24.cell? ⟨gb358, 1, none⟩ = some (.slice A0_1 l0_1.length c0_1) := (blk_cell BK358.out 1).trans rfl; have hfz25_0 := blk_frozen BK358.out 0; have hfz25_1 := blk_frozen BK358.out 1) | (go_at_call 18; (with_reducible refine (vetchref05_Small.calls k _ _ l0_0 _ _ l0_1 true _ ?side1 ?side2 ?side3 ?side4 A7.out).mono ?_); (case side1 => repeat (first | exact (Kd.C_below HR0_0.out HB.out) | (with_reducible refine Kd.C_alloc ?_ _) | (with_reducible refine Kd.C_drewN ?_ _) | (with_reducible refine Kd.C_drew ?_))); (case side2 => exact HC0_0.out); (case side3 => repeat (first | exact (Kd.C_below HR0_1.out HB.out) | (with_reducible refine Kd.C_alloc ?_ _) | (with_reducible refine Kd.C_drewN ?_ _) | (with_reducible refine Kd.C_drew ?_))); (case side4 => exact HC0_1.out); rintro e w26 ⟨rfl, hb⟩; have n0_ := Aside0.mk (blk_below (g := gb358) (o := .cells #[.slice A0_0 l0_0.length c0_0, .slice A0_1 l0_1.length c0_1] 25 (0, 0)) (by (with_reducible repeat (first | refine blk_drewN ?_ _ | refine blk_drew ?_ | refine blk_alloc ?_ _)); exact BK358.out) hb); have n1_ := Aside0.mk (below_step (by repeat (first | (with_reducible first | exact HB.out | apply below_alloc | apply pw_below_drewN | apply below_drew1 | refine below_set ?_ GE358.out) | exact HB.out)) hb); clear BK358; clear HB; have BK358 := n0_; have HB := n1_; clear n0_ n1_; (try clear hb); (try clear hb2); (try clear hk); (try clear hi); have hcz27_0 : w26.cell? ⟨gb358, 0, none⟩ = some (.slice A0_0 l0_0.length c0_0) := (blk_cell BK358.out 0).trans rfl; have hcz27_1 : w26.cell? ⟨gb358, 1, none⟩ = some (.slice A0_1 l0_1.length c0_1) := (blk_cell BK358.out 1).trans rfl; have hfz27_0 := blk_frozen BK358.out 0; have hfz27_1 := blk_frozen BK358.out 1) | (go_at_call 19; (with_reducible refine (vetchref12_Right.calls k _ _ l0_0 _ _ l0_1 false _ ?side1 ?side2 ?side3 ?side4 A9.out).mono ?_); (case side1 => repeat (first | exact (Kd.C_below HR0_0.out HB.out) | (with_reducible refine Kd.C_alloc ?_ _) | (with_reducible refine Kd.C_drewN ?_ _) | (with_reducible refine Kd.C_drew ?_))); (case side2 => exact HC0_0.out); (case side3 => repeat (first | exact (Kd.C_below HR0_1.out HB.out) | (with_reducible refine Kd.C_alloc ?_ _) | (with_reducible refine Kd.C_drewN ?_ _) | (with_reducible refine Kd.C_drew ?_))); (case side4 => exact HC0_1.out); rintro e w28 ⟨rfl, hb⟩; have n0_ := Aside0.mk (blk_below (g := gb358) (o := .cells #[.slice A0_0 l0_0.length c0_0, .slice A0_1 l0_1.length c0_1] 25 (0, 0)) (by (with_reducible repeat (first | refine blk_drewN ?_ _ | refine blk_drew ?_ | refine blk_alloc ?_ _)); exact BK358.out) hb); have n1_ := Aside0.mk (below_step (by repeat (first | (with_reducible first | exact HB.out | apply below_alloc | apply pw_below_drewN | apply below_drew1 | refine below_set ?_ GE358.out) | exact HB.out)) hb); clear BK358; clear HB; have BK358 := n0_; have HB := n1_; clear n0_ n1_; (try clear hb); (try clear hb2); (try clear hk); (try clear hi)))
     go_meet
     case rel => exact ⟨_, (true), (by first | rfl | (simp; done) | (simp [*]; done)), H', ⟨by first | omega | exact Nat.le_refl _⟩, ⟨by (with_reducible repeat (first | refine blk_drewN ?_ _ | refine blk_drew ?_ | refine blk_alloc ?_ _)); exact BK358.out⟩, ⟨by repeat (first | (with_reducible first | exact HB.out | apply below_alloc | apply pw_below_drewN | apply below_drew1 | refine below_set ?_ GE358.out) | exact HB.out)⟩⟩
   ·
    replace c8 := Bool.eq_false_iff.mpr c8
    subst c8
    have H1 : (vetchlaw18_NaiveEnough.j0 k a1 true l0_0 l0_1) = some r := by rw [if_neg (show ¬ (false = true) by decide)] at H; exact H
    clear H
    have H := H1
    clear H1
    have H' := Aside0.mk H
    clear H
    go_wp2_with (first | ((with_reducible refine gate_callee (f := 9) rfl ?_); refine goesL_ (some 7) rfl rfl Try.func9 (by kernel_rfl) rfl #[] rfl (by (try simp only [List.map_toArray, List.map_cons, List.map_nil]); first | done | rfl | (simp only [List.length_drop, List.length_take]; rfl)) ?_; (with_reducible refine (vetchlaw18_awake.calls k  true _ A5.out).mono ?_); rintro e w29 ⟨rfl, hb⟩; refine ⟨_, rfl, ?_⟩; have n0_ := Aside0.mk (blk_below (g := gb358) (o := .cells #[.slice A0_0 l0_0.length c0_0, .slice A0_1 l0_1.length c0_1] 25 (0, 0)) (by (with_reducible repeat (first | refine blk_drewN ?_ _ | refine blk_drew ?_ | refine blk_alloc ?_ _)); exact BK358.out) hb); have n1_ := Aside0.mk (below_step (by repeat (first | (with_reducible first | exact HB.out | apply below_alloc | apply pw_below_drewN | apply below_drew1 | refine below_set ?_ GE358.out) | exact HB.out)) hb); clear BK358; clear HB; have BK358 := n0_; have HB := n1_; clear n0_ n1_; (try clear hb); (try clear hb2); (try clear hk); (try clear hi); have hcz30_0 : w29.cell? ⟨gb358, 0, none⟩ = some (.slice A0_0 l0_0.length c0_0) := (blk_cell BK358.out 0).trans rfl; have hcz30_1 : w29.cell? ⟨gb358, 1, none⟩ = some (.slice A0_1 l0_1.length c0_1) := (blk_cell BK358.out 1).trans rfl; have hfz30_0 := blk_frozen BK358.out 0; have hfz30_1 := blk_frozen BK358.out 1) | (go_at_call 18; (with_reducible refine (vetchref05_Small.calls k _ _ l0_0 _ _ l0_1 false _ ?side1 ?side2 ?side3 ?side4 A7.out).mono ?_); (case side1 => repeat (first | exact (Kd.C_below HR0_0.out HB.out) | (with_reducible refine Kd.C_alloc ?_ _) | (with_reducible refine Kd.C_drewN ?_ _) | (with_reducible refine Kd.C_drew ?_))); (case side2 => exact HC0_0.out); (case side3 => repeat (first | exact (Kd.C_below HR0_1.out HB.out) | (with_reducible refine Kd.C_alloc ?_ _) | (with_reducible refine Kd.C_drewN ?_ _) | (with_reducible refine Kd.C_drew ?_))); (case side4 => exact HC0_1.out); rintro e w31 ⟨rfl, hb⟩; have n0_ := Aside0.mk (blk_below (g := gb358) (o := .cells #[.slice A0_0 l0_0.length c0_0, .slice A0_1 l0_1.length c0_1] 25 (0, 0)) (by (with_reducible repeat (first | refine blk_drewN ?_ _ | refine blk_drew ?_ | refine blk_alloc ?_ _)); exact BK358.out) hb); have n1_ := Aside0.mk (below_step (by repeat (first | (with_reducible first | exact HB.out | apply below_alloc | apply pw_below_drewN | apply below_drew1 | refine below_set ?_ GE358.out) | exact HB.out)) hb); clear BK358; clear HB; have BK358 := n0_; have HB := n1_; clear n0_ n1_; (try clear hb); (try clear hb2); (try clear hk); (try clear hi)))
    go_meet
    case rel => exact ⟨_, (true), (by first | rfl | (simp; done) | (simp [*]; done)), H', ⟨by first | omega | exact Nat.le_refl _⟩, ⟨by (with_reducible repeat (first | refine blk_drewN ?_ _ | refine blk_drew ?_ | refine blk_alloc ?_ _)); exact BK358.out⟩, ⟨by repeat (first | (with_reducible first | exact HB.out | apply below_alloc | apply pw_below_drewN | apply below_drew1 | refine below_set ?_ GE358.out) | exact HB.out)⟩⟩
  ·
   replace c6 := Bool.eq_false_iff.mpr c6
   subst c6
   have H1 : (vetchlaw18_NaiveEnough.j0 k a1 true l0_0 l0_1) = some r := by rw [if_neg (show ¬ (false = true) by decide)] at H; exact H
   clear H
   have H := H1
   clear H1
   have H' := Aside0.mk H
   clear H
   go_wp2_with (first | ((with_reducible refine gate_callee (f := 9) rfl ?_); refine goesL_ (some 7) rfl rfl Try.func9 (by kernel_rfl) rfl #[] rfl (by (try simp only [List.map_toArray, List.map_cons, List.map_nil]); first | done | rfl | (simp only [List.length_drop, List.length_take]; rfl)) ?_; (with_reducible refine (vetchlaw18_awake.calls k  false _ A5.out).mono ?_); rintro e w32 ⟨rfl, hb⟩; refine ⟨_, rfl, ?_⟩; have n0_ := Aside0.mk (blk_below (g := gb358) (o := .cells #[.slice A0_0 l0_0.length c0_0, .slice A0_1 l0_1.length c0_1] 25 (0, 0)) (by (with_reducible repeat (first | refine blk_drewN ?_ _ | refine blk_drew ?_ | refine blk_alloc ?_ _)); exact BK358.out) hb); have n1_ := Aside0.mk (below_step (by repeat (first | (with_reducible first | exact HB.out | apply below_alloc | apply pw_below_drewN | apply below_drew1 | refine below_set ?_ GE358.out) | exact HB.out)) hb); clear BK358; clear HB; have BK358 := n0_; have HB := n1_; clear n0_ n1_; (try clear hb); (try clear hb2); (try clear hk); (try clear hi)))
   go_meet
   case rel => exact ⟨_, (true), (by first | rfl | (simp; done) | (simp [*]; done)), H', ⟨by first | omega | exact Nat.le_refl _⟩, ⟨by (with_reducible repeat (first | refine blk_drewN ?_ _ | refine blk_drew ?_ | refine blk_alloc ?_ _)); exact BK358.out⟩, ⟨by repeat (first | (with_reducible first | exact HB.out | apply below_alloc | apply pw_below_drewN | apply below_drew1 | refine below_set ?_ GE358.out) | exact HB.out)⟩⟩
 case rest =>
  clear HC3
  try clear c1
  try clear p2
  try clear c6
  try clear c8
  try clear c9
  try clear c10
  try clear c11
  try clear c11b0
  try clear c11b1
  try clear hcz13_0
  try clear hcz13_1
  try clear hcz15_0
  try clear hcz15_1
  try clear hcz17_0
  try clear hcz17_1
  try clear hcz19_0
  try clear hcz19_1
  try clear hcz21_0
  try clear hcz21_1
  try clear hcz23_0
  try clear hcz23_1
  try clear hcz25_0
  try clear hcz25_1
  try clear hcz27_0
  try clear hcz27_1
  try clear hcz30_0
  try clear hcz30_1
  try clear hfz13_0
  try clear hfz13_1
  try clear hfz15_0
  try clear hfz15_1
  try clear hfz17_0
  try clear hfz17_1
  try clear hfz19_0
  try clear hfz19_1
  try clear hfz21_0
  try clear hfz21_1
  try clear hfz23_0
  try clear hfz23_1
  try clear hfz25_0
  try clear hfz25_1
  try clear hfz27_0
  try clear hfz27_1
  try clear hfz30_0
  try clear hfz30_1
  obtain ⟨kq, x29_2, rfl, HA, HJ2, BK358, HB⟩ := hcut
  cases kq with
  | zero => exact absurd HA.out (by simp [vetchlaw18_NaiveEnough.j0])
  | succ kj2 =>
   have H := HA.out
   clear HA
   simp only [vetchlaw18_NaiveEnough.j0] at H
   by_cases c33 : x29_2 = true
   ·
    subst c33
    have H1 : ((vetchlaw18_awake.f kj2).bind fun t362 => (some t362)) = some r := by rw [if_pos rfl] at H; exact H
    clear H
    have H := H1
    clear H1
    replace H := Option.bind_eq_some_iff.mp H
    obtain ⟨t362, A340, H⟩ := H
    replace H : (some t362) = some r := H
    have A34 := Aside0.mk A340
    clear A340
    obtain rfl := Option.some.inj H
    go_wp2_with (first | ((with_reducible refine gate_callee (f := 9) rfl ?_); refine goesL_ (some 30) rfl rfl Try.func9 (by kernel_rfl) rfl #[] rfl (by (try simp only [List.map_toArray, List.map_cons, List.map_nil]); first | done | rfl | (simp only [List.length_drop, List.length_take]; rfl)) ?_; (with_reducible refine (vetchlaw18_awake.calls kj2  t362 _ A34.out).mono ?_); rintro e w35 ⟨rfl, hb⟩; refine ⟨_, rfl, ?_⟩; have n0_ := Aside0.mk (blk_below (g := gb358) (o := .cells #[.slice A0_0 l0_0.length c0_0, .slice A0_1 l0_1.length c0_1] 25 (0, 0)) (by (with_reducible repeat (first | refine blk_drewN ?_ _ | refine blk_drew ?_ | refine blk_alloc ?_ _)); exact BK358.out) hb); have n1_ := Aside0.mk (below_step (by repeat (first | (with_reducible first | exact HB.out | apply below_alloc | apply pw_below_drewN | apply below_drew1 | refine below_set ?_ GE358.out) | exact HB.out)) hb); clear BK358; clear HB; have BK358 := n0_; have HB := n1_; clear n0_ n1_; (try clear hb); (try clear hb2); (try clear hk); (try clear hi)))
    go_ret
    exact ⟨by first | rfl | (simp [errW_none, errW_some] <;> rfl) | (simp [*, errW_none, errW_some] <;> rfl), by repeat (first | (with_reducible first | exact HB.out | apply below_alloc | apply pw_below_drewN | apply below_drew1 | refine below_set ?_ GE358.out) | exact HB.out)⟩
   ·
    replace c33 := Bool.eq_false_iff.mpr c33
    subst c33
    have H1 : ((naive_Cost.f kj2 l0_0 l0_1 a1 1048576).bind fun bt363 => (if bt363.2 = true then (some (decide (bt363.1 ≥ 1))) else (some false))) = some r := by rw [if_neg (show ¬ (false = true) by decide)] at H; exact H
    clear H
    have H := H1
    clear H1
    replace H := Option.bind_eq_some_iff.mp H
    obtain ⟨⟨t363, t364⟩, A360, H⟩ := H
    replace H : (if t364 = true then (some (decide (t363 ≥ 1))) else (some false)) = some r := H
    have A36 := Aside0.mk A360
    clear A360
    by_cases c37 : t364 = true
    ·
     subst c37
     have H1 : (some (decide (t363 ≥ 1))) = some r := by rw [if_pos rfl] at H; exact H
     clear H
     have H := H1
     clear H1
     obtain rfl := Option.some.inj H
     have hcz38_0 : wc.cell? ⟨gb358, 0, none⟩ = some (.slice A0_0 l0_0.length c0_0) := (blk_cell BK358.out 0).trans rfl
     have hcz38_1 : wc.cell? ⟨gb358, 1, none⟩ = some (.slice A0_1 l0_1.length c0_1) := (blk_cell BK358.out 1).trans rfl
     have hfz38_0 := blk_frozen BK358.out 0
     have hfz38_1 := blk_frozen BK358.out 1
     go_wp2_with (first | ((with_reducible refine gate_callee (f := 15) rfl ?_); refine goesL_ (some 34) rfl rfl Try.func15 (by kernel_rfl) rfl #[.agg #[.slice A0_0 l0_0.length c0_0, .slice A0_1 l0_1.length c0_1], .string a1, .int .i64 1048576] rfl (by (try simp only [List.map_toArray, List.map_cons, List.map_nil]); first | done | rfl | (simp only [List.length_drop, List.length_take]; rfl)) ?_; (with_reducible refine (naive_Cost.calls kj2 _ _ l0_0 _ _ l0_1 a1 1048576 t363 true _ ?side1 ?side2 ?side3 ?side4 A36.out).mono ?_); (case side1 => repeat (first | exact (Kd.C_below HR0_0.out HB.out) | (with_reducible refine Kd.C_alloc ?_ _) | (with_reducible refine Kd.C_drewN ?_ _) | (with_reducible refine Kd.C_drew ?_))); (case side2 => exact HC0_0.out); (case side3 => repeat (first | exact (Kd.C_below HR0_1.out HB.out) | (with_reducible refine Kd.C_alloc ?_ _) | (with_reducible refine Kd.C_drewN ?_ _) | (with_reducible refine Kd.C_drew ?_))); (case side4 => exact HC0_1.out); rintro e w39 ⟨rfl, hb⟩; refine ⟨_, rfl, ?_⟩; have n0_ := Aside0.mk (blk_below (g := gb358) (o := .cells #[.slice A0_0 l0_0.length c0_0, .slice A0_1 l0_1.length c0_1] 25 (0, 0)) (by (with_reducible repeat (first | refine blk_drewN ?_ _ | refine blk_drew ?_ | refine blk_alloc ?_ _)); exact BK358.out) hb); have n1_ := Aside0.mk (below_step (by repeat (first | (with_reducible first | exact HB.out | apply below_alloc | apply pw_below_drewN | apply below_drew1 | refine below_set ?_ GE358.out) | exact HB.out)) hb); clear BK358; clear HB; have BK358 := n0_; have HB := n1_; clear n0_ n1_; (try clear hb); (try clear hb2); (try clear hk); (try clear hi)))
     go_ret
     exact ⟨by first | rfl | (simp [errW_none, errW_some] <;> rfl) | (simp [*, errW_none, errW_some] <;> rfl), by repeat (first | (with_reducible first | exact HB.out | apply below_alloc | apply pw_below_drewN | apply below_drew1 | refine below_set ?_ GE358.out) | exact HB.out)⟩
    ·
     replace c37 := Bool.eq_false_iff.mpr c37
     subst c37
     have H1 : (some false) = some r := by rw [if_neg (show ¬ (false = true) by decide)] at H; exact H
     clear H
     have H := H1
     clear H1
     obtain rfl := Option.some.inj H
     have hcz40_0 : wc.cell? ⟨gb358, 0, none⟩ = some (.slice A0_0 l0_0.length c0_0) := (blk_cell BK358.out 0).trans rfl
     have hcz40_1 : wc.cell? ⟨gb358, 1, none⟩ = some (.slice A0_1 l0_1.length c0_1) := (blk_cell BK358.out 1).trans rfl
     have hfz40_0 := blk_frozen BK358.out 0
     have hfz40_1 := blk_frozen BK358.out 1
     go_wp2_with (first | ((with_reducible refine gate_callee (f := 15) rfl ?_); refine goesL_ (some 34) rfl rfl Try.func15 (by kernel_rfl) rfl #[.agg #[.slice A0_0 l0_0.length c0_0, .slice A0_1 l0_1.length c0_1], .string a1, .int .i64 1048576] rfl (by (try simp only [List.map_toArray, List.map_cons, List.map_nil]); first | done | rfl | (simp only [List.length_drop, List.length_take]; rfl)) ?_; (with_reducible refine (naive_Cost.calls kj2 _ _ l0_0 _ _ l0_1 a1 1048576 t363 false _ ?side1 ?side2 ?side3 ?side4 A36.out).mono ?_); (case side1 => repeat (first | exact (Kd.C_below HR0_0.out HB.out) | (with_reducible refine Kd.C_alloc ?_ _) | (with_reducible refine Kd.C_drewN ?_ _) | (with_reducible refine Kd.C_drew ?_))); (case side2 => exact HC0_0.out); (case side3 => repeat (first | exact (Kd.C_below HR0_1.out HB.out) | (with_reducible refine Kd.C_alloc ?_ _) | (with_reducible refine Kd.C_drewN ?_ _) | (with_reducible refine Kd.C_drew ?_))); (case side4 => exact HC0_1.out); rintro e w41 ⟨rfl, hb⟩; refine ⟨_, rfl, ?_⟩; have n0_ := Aside0.mk (blk_below (g := gb358) (o := .cells #[.slice A0_0 l0_0.length c0_0, .slice A0_1 l0_1.length c0_1] 25 (0, 0)) (by (with_reducible repeat (first | refine blk_drewN ?_ _ | refine blk_drew ?_ | refine blk_alloc ?_ _)); exact BK358.out) hb); have n1_ := Aside0.mk (below_step (by repeat (first | (with_reducible first | exact HB.out | apply below_alloc | apply pw_below_drewN | apply below_drew1 | refine below_set ?_ GE358.out) | exact HB.out)) hb); clear BK358; clear HB; have BK358 := n0_; have HB := n1_; clear n0_ n1_; (try clear hb); (try clear hb2); (try clear hk); (try clear hi)))
     go_ret
     exact ⟨by first | rfl | (simp [errW_none, errW_some] <;> rfl) | (simp [*, errW_none, errW_some] <;> rfl), by repeat (first | (with_reducible first | exact HB.out | apply below_alloc | apply pw_below_drewN | apply below_drew1 | refine below_set ?_ GE358.out) | exact HB.out)⟩
end Go.Proofs.Ythgedejnpgcacaa.V
namespace Go.Proofs.Ythgedejnpgcacaa.V
open Go.RowKit Go.Proofs.YthgedejnpgcacaaW.PrintWords Go.Proofs.YthgedejnpgcacaaW.PrintLast Go.Proofs.YthgedejnpgcacaaW.PrintMore
set_option linter.unusedVariables false
set_option linter.unusedSimpArgs false
def vetchref18_Node.seqF (F : Int → Int → Int → Option (Bool × Int × Int)) : List Int → Int → Int → Option (Bool × Int × Int)
  | [], a, u => some (true, a, u)
  | c :: cs, a, u => (F c a u).bind fun r => if r.1 = true ∧ 0 ≤ r.2.1 then vetchref18_Node.seqF F cs r.2.1 r.2.2 else some r
def vetchref18_Node.choF (F : Int → Int → Option (Bool × Int × Int)) : List Int → Int → Int → Option (Bool × Int × Int)
  | [], e, u => some (true, e, u)
  | c :: cs, e, u => (F c u).bind fun r => if r.1 = true ∧ r.2.1 < 0 then vetchref18_Node.choF F cs r.2.1 r.2.2 else some r
def vetchref18_Node.repF (F : Int → Int → Option (Bool × Int × Int)) : Nat → Int → Bool × Int × Int → Option (Bool × Int × Int)
  | 0, _, _ => none
  | k + 1, last, r => if r.1 = true ∧ 0 ≤ r.2.1 then (F r.2.1 r.2.2).bind fun q => vetchref18_Node.repF F k r.2.1 q else if r.1 = true then some (true, last, r.2.2) else some r
def vetchref18_Node.f : Nat → List S51 → List S56 → Int → ByteArray → Int → Int → Option (Bool × Int × Int)
  | 0, _, _, _, _, _, _ => none
  | k + 1, R, G, i, x, a, u =>
    if u < 1 then some (false, 0, 0) else if 0 ≤ i ∧ i < (G.length : Int) then
      if (rd_T56 G i).f0 = 0 then some (true, a, wrap64 (u - 1)) else
      if (rd_T56 G i).f0 = 1 then (if a < (x.size : Int) then (if 0 ≤ a then (vetchref01_Has.f k (rd_T56 G i).f3.f0 (rd_T56 G i).f3.f1 (rd_T56 G i).f3.f2 (rd_T56 G i).f3.f3 (bt x a)).bind fun b => if b = true then some (true, wrap64 (a + 1), wrap64 (u - 1)) else some (true, -1, wrap64 (u - 1)) else none) else some (true, -1, wrap64 (u - 1))) else
      if (rd_T56 G i).f0 = 2 then (if 0 ≤ (rd_T56 G i).f2 ∧ (rd_T56 G i).f2 < (R.length : Int) then vetchref18_Node.f k R G (rd_T51 R (rd_T56 G i).f2).f1 x a (wrap64 (u - 1)) else none) else
      if (rd_T56 G i).f0 = 3 then vetchref18_Node.seqF (fun c a u => vetchref18_Node.f k R G c x a u) (rd_T56 G i).f1 a (wrap64 (u - 1)) else
      if (rd_T56 G i).f0 = 4 then vetchref18_Node.choF (fun c u => vetchref18_Node.f k R G c x a u) (rd_T56 G i).f1 (-1) (wrap64 (u - 1)) else
      if (rd_T56 G i).f1 = [] then none else (vetchref18_Node.f k R G (rd (rd_T56 G i).f1 0) x a (wrap64 (u - 1))).bind fun r =>
        if r.1 = false then some r else
        if (rd_T56 G i).f0 = 7 then (if r.2.1 < 0 then some (true, a, r.2.2) else some r) else
        if (rd_T56 G i).f0 = 8 then (if r.2.1 < 0 then some r else some (true, a, r.2.2)) else
        if (rd_T56 G i).f0 = 9 then (if r.2.1 < 0 then some (true, a, r.2.2) else some (true, -1, r.2.2)) else
        if r.2.1 < 0 ∧ (rd_T56 G i).f0 = 6 then some r else vetchref18_Node.repF (fun a u => vetchref18_Node.f k R G (rd (rd_T56 G i).f1 0) x a u) k a r
    else none
theorem h18_drop (xs : List Int) (j : Int) (h0 : 0 ≤ j) (h1 : j < (xs.length : Int)) : xs.drop j.toNat = rd xs j :: xs.drop (j + 1).toNat := by
  have h : j.toNat < xs.length := by omega
  rw [List.drop_eq_getElem_cons h, show (j + 1).toNat = j.toNat + 1 by omega]
  unfold rd
  rw [List.getD_eq_getElem?_getD, List.getElem?_eq_getElem h]
  rfl
structure Env18 (W1 : World) (gx : Nat) (ND : Array Value) (W : World) : Prop where
  x : W.heap[gx]? = some (.cells ND 56 (0, 0))
  b : Below W1.heap.size W1 W
theorem Env18.below {W1 W W' : World} {gx : Nat} {ND : Array Value} (h : Env18 W1 gx ND W) (hb : Below W.heap.size W W') : Env18 W1 gx ND W' := ⟨blk_below h.x hb, below_step h.b hb⟩
theorem Env18.drew {W1 W : World} {gx : Nat} {ND : Array Value} (h : Env18 W1 gx ND W) : Env18 W1 gx ND W.drew := ⟨blk_drew h.x, below_drew1 h.b⟩
theorem Env18.drewN {W1 W : World} {gx : Nat} {ND : Array Value} (h : Env18 W1 gx ND W) (n : Nat) : Env18 W1 gx ND (W.drewN n) := ⟨blk_drewN h.x n, pw_below_drewN h.b n⟩
end Go.Proofs.Ythgedejnpgcacaa.V
namespace Go.Proofs.Ythgedejnpgcacaa.V
open Go.RowKit Go.Proofs.YthgedejnpgcacaaW.PrintWords
set_option linter.unusedVariables false
def Ev {α : Type} (f : Nat → Option α) (v : α) : Prop := ∃ k, ∀ j, k ≤ j → f j = some v
section
variable {α β : Type}
theorem Ev.const (v : α) : Ev (fun _ => some v) v := ⟨0, fun _ _ => rfl⟩
theorem Ev.congr {f g : Nat → Option α} {v : α} (h : ∀ k, f k = g k) (hg : Ev g v) : Ev f v := by
  obtain ⟨k, hk⟩ := hg
  exact ⟨k, fun j hj => (h j).trans (hk j hj)⟩
theorem Ev.of_eq {f : Nat → Option α} {v : α} (h : ∀ k, f k = some v) : Ev f v := ⟨0, fun j _ => h j⟩
theorem Ev.succ {f g : Nat → Option α} {v : α} (h : ∀ k, f (k + 1) = g k) (hg : Ev g v) : Ev f v := by
  obtain ⟨k, hk⟩ := hg
  refine ⟨k + 1, fun j hj => ?_⟩
  cases j with
  | zero => omega
  | succ j => exact (h j).trans (hk j (by omega))
theorem Ev.bind {f : Nat → Option α} {g : Nat → α → Option β} {v : α} {u : β} (hf : Ev f v) (hg : Ev (fun k => g k v) u) : Ev (fun k => (f k).bind (g k)) u := by
  obtain ⟨k, hk⟩ := hf
  obtain ⟨m, hm⟩ := hg
  refine ⟨k + m, fun j hj => ?_⟩
  simp only [hk j (by omega), Option.bind_some]
  exact hm j (by omega)
theorem Ev.map {f : Nat → Option α} {g : α → Option β} {v : α} {u : β} (hf : Ev f v) (hg : g v = some u) : Ev (fun k => (f k).bind g) u := Ev.bind (g := fun _ => g) hf (Ev.of_eq fun _ => hg)
theorem Ev.shift {f : Nat → Option α} {v : α} (b : Nat) (h : Ev f v) : Ev (fun k => f (k + b)) v := by
  obtain ⟨k, hk⟩ := h
  exact ⟨k, fun j hj => hk (j + b) (by omega)⟩
theorem Ev.uniq {f : Nat → Option α} {v u : α} (h : Ev f v) (h' : Ev f u) : v = u := by
  obtain ⟨k, hk⟩ := h
  obtain ⟨m, hm⟩ := h'
  exact Option.some.inj ((hk (k + m) (by omega)).symm.trans (hm (k + m) (by omega)))
theorem Ev.out {f : Nat → Option α} {v : α} (h : Ev f v) : ∃ k, f k = some v := ⟨h.choose, h.choose_spec _ (Nat.le_refl _)⟩
theorem Ev.of_mono {f : Nat → Option α} {v : α} {k : Nat} (hm : ∀ k, LeO (f k) (f (k + 1))) (h : f k = some v) : Ev f v := by
  refine ⟨k, fun j hj => ?_⟩
  induction j with
  | zero => obtain rfl : k = 0 := by omega
            exact h
  | succ j ih =>
    rcases Nat.lt_or_ge j k with hlt | hge
    · obtain rfl : k = j + 1 := by omega
      exact h
    · exact hm j v (ih hge)
end
theorem w64p (n : Int) (h : -9223372036854775808 ≤ n ∧ n ≤ 9223372036854775807) : wrap64 n = n := by unfold wrap64; omega
end Go.Proofs.Ythgedejnpgcacaa.V
namespace Go.Proofs.Ythgedejnpgcacaa.Opens
open Go.RowKit Go.Proofs.YthgedejnpgcacaaW.PrintWords
set_option linter.unusedVariables false
def Opn {α : Type} (P : Program) (W : World) (d : Kd α) (t : TypeId) (ok : α → Prop) : Prop :=
  ∀ (H : Type) (enc : TypeId × Value → H) (fuel : Nat) (cs : List Value) (x : DataW H × List MemPlace), DataW.trod enc P W 0 (fun _ => true) true fuel t cs = some x → ∃ a, d.K W a cs ∧ ok a
section
variable {P : Program} {W : World} {t : TypeId}
theorem Opn.int {k : IntKind} (ht : P.underlying t = some (.int k)) : Opn P W (Kd.int k) t (fun n => (Lit.int k n).wf = true) := fun H enc fuel cs x h => by
  obtain ⟨n, rfl, _, hw⟩ := DataW.trod_int ht h
  exact ⟨n, rfl, hw⟩
theorem Opn.bool (ht : P.underlying t = some .bool) : Opn P W Kd.bool t (fun _ => True) := fun H enc fuel cs x h => by
  obtain ⟨n, rfl, _⟩ := DataW.trod_bool ht h
  exact ⟨n, rfl, trivial⟩
theorem Opn.string (ht : P.underlying t = some .string) : Opn P W Kd.string t (fun s => s.size ≤ maxLen) := fun H enc fuel cs x h => by
  obtain ⟨n, rfl, _, hw⟩ := DataW.trod_string ht h
  exact ⟨n, rfl, hw⟩
theorem Opn.iso {α β : Type} {d : Kd α} {ok : α → Prop} (f : β → α) (g : α → β) (hfg : ∀ a, f (g a) = a) (h : Opn P W d t ok) : Opn P W (Kd.iso d f) t (fun b => ok (f b)) := fun H enc fuel cs x hx => by
  obtain ⟨a, hk, ho⟩ := h H enc fuel cs x hx
  exact ⟨g a, show d.K W (f (g a)) cs by rw [hfg]; exact hk, show ok (f (g a)) by rw [hfg]; exact ho⟩
theorem Opn.imp {α : Type} {d : Kd α} {ok ok' : α → Prop} (h : Opn P W d t ok) (hi : ∀ a, ok a → ok' a) : Opn P W d t ok' := fun H enc fuel cs x hx => by
  obtain ⟨a, hk, ho⟩ := h H enc fuel cs x hx
  exact ⟨a, hk, hi a ho⟩
theorem lists_of {α : Type} (n : Nat) (R : Nat → α → Prop) (h : ∀ i, i < n → ∃ a, R i a) : ∃ l : List α, l.length = n ∧ ∀ i a, l[i]? = some a → R i a := by
  induction n with
  | zero => exact ⟨[], rfl, fun i a h => by simp at h⟩
  | succ n ih =>
    obtain ⟨l, hl, hr⟩ := ih (fun i hi => h i (by omega))
    obtain ⟨a, ha⟩ := h n (by omega)
    refine ⟨l ++ [a], by simp [hl], fun i b hb => ?_⟩
    by_cases hi : i < n
    · exact hr i b (by rwa [List.getElem?_append_left (by omega)] at hb)
    · have : i = n := by
        have := (List.getElem?_eq_some_iff.1 hb).1
        simp at this
        omega
      subst this
      rw [List.getElem?_append_right (by omega)] at hb
      simp [hl] at hb
      exact hb ▸ ha
theorem Opn.slice {α : Type} {e : TypeId} {d : Kd α} {ok : α → Prop} (e' : Nat) (ht : P.underlying t = some (.slice e)) (hc : P.cellsOf e = d.sz) (h : Opn P W d e ok) :
    Opn P W (Kd.slice e' d) t (fun l => l.length ≤ maxLen ∧ ∀ x ∈ l, ok x) := fun H enc fuel cs x hx => by
  rcases DataW.trod_slice ht hx with ⟨rfl, _⟩ | ⟨a, len, cap, elems, rest, n, _, rfl, _, _, hl, hm, hlen, hel, _, _⟩
  · exact ⟨[], ⟨none, 0, rfl, Nat.le_refl _, rfl, Nat.zero_le _, fun h => absurd h (by simp)⟩, Nat.zero_le _, fun x h => by simp at h⟩
  · have hm' : len ≤ maxLen := Nat.le_trans hl hm
    obtain ⟨l, hll, hlr⟩ := lists_of len (fun i b => ∃ cs', W.cells? 0 (a.add (i * P.cellsOf e)) (P.cellsOf e) = some cs' ∧ d.K W b cs' ∧ ok b) (fun i hi => by
      have h1 := hel i hi
      have h2 : i < elems.length := by omega
      rw [List.getElem?_eq_getElem h2, Option.bind_eq_some_iff] at h1
      obtain ⟨cs', h3, h4⟩ := h1
      obtain ⟨b, h5, h6⟩ := h H enc n cs' _ h4
      exact ⟨b, cs', h3, h5, h6⟩)
    subst hll
    refine ⟨l, ⟨some a, cap, rfl, hl, rfl, hm', fun _ => ⟨a, rfl, fun j p hp => ?_⟩⟩, hm', fun y hy => ?_⟩
    · obtain ⟨cs', h1, h2, _⟩ := hlr j p hp
      obtain ⟨_, hlen', hget⟩ := World.cells?_some h1
      rw [hc] at hlen' hget
      exact ⟨cs', hlen', h2, fun i u hu => by
        have := hget i (by have := (List.getElem?_eq_some_iff.1 hu).1; omega)
        rw [← hu, ← this]
        congr 1
        exact (Addr.add_add _ _ _).symm⟩
    · obtain ⟨i, hi⟩ := List.getElem?_of_mem hy
      exact (hlr i y hi).choose_spec.2.2
def Pieces {H : Type} (enc : TypeId × Value → H) (P : Program) (W : World) (n : Nat) : List TypeId → List Value → Prop
  | [], cs => cs = []
  | t :: ts, cs => ∃ c1 c2 x, cs = c1 ++ c2 ∧ DataW.trod enc P W 0 (fun _ => true) true n t c1 = some x ∧ Pieces enc P W n ts c2
def OpnS {α : Type} (P : Program) (W : World) (d : Kd α) (ts : List TypeId) (ok : α → Prop) : Prop :=
  ∀ (H : Type) (enc : TypeId × Value → H) (n : Nat) (cs : List Value), Pieces enc P W n ts cs → ∃ a, d.K W a cs ∧ ok a
theorem OpnS.one {α : Type} {d : Kd α} {ok : α → Prop} (h : Opn P W d t ok) : OpnS P W d [t] ok := fun H enc n cs hp => by
  obtain ⟨c1, c2, x, rfl, hx, rfl⟩ := hp
  rw [List.append_nil]
  exact h H enc n c1 x hx
theorem OpnS.cons {α β : Type} {d : Kd α} {e : Kd β} {ok : α → Prop} {ok' : β → Prop} {ts : List TypeId} (h : Opn P W d t ok) (hs : OpnS P W e ts ok') : OpnS P W (Kd.pair d e) (t :: ts) (fun x => ok x.1 ∧ ok' x.2) := fun H enc n cs hp => by
  obtain ⟨c1, c2, x, rfl, hx, hp⟩ := hp
  obtain ⟨a, ha, hoa⟩ := h H enc n c1 x hx
  obtain ⟨b, hb, hob⟩ := hs H enc n c2 hp
  exact ⟨(a, b), ⟨c1, c2, rfl, ha, hb⟩, hoa, hob⟩
def offsB (P : Program) (total : Nat) : Nat → List Field → Bool
  | o, [] => o == total
  | o, f :: r => f.offset == o && offsB P total (o + P.cellsOf f.type) r
theorem pieces_of {H : Type} {enc : TypeId × Value → H} {n total : Nat} {cs : List Value} (hl : cs.length = total) :
    ∀ (fs : List Field) (o : Nat), offsB P total o fs = true → (∀ f ∈ fs, ∃ x, DataW.trod enc P W 0 (fun _ => true) true n f.type ((cs.drop f.offset).take (P.cellsOf f.type)) = some x) → Pieces enc P W n (fs.map (·.type)) (cs.drop o)
  | [], o, ho, _ => by
    simp [offsB] at ho
    simp [Pieces, ho, hl]
  | f :: r, o, ho, hf => by
    simp [offsB] at ho
    obtain ⟨x, hx⟩ := hf f (by simp)
    refine ⟨(cs.drop o).take (P.cellsOf f.type), cs.drop (o + P.cellsOf f.type), x, ?_, by rw [← ho.1]; exact hx, pieces_of hl r _ ho.2 (fun g hg => hf g (List.mem_cons_of_mem _ hg))⟩
    rw [← List.drop_drop, List.take_append_drop]
theorem Opn.struct {α : Type} {d : Kd α} {ok : α → Prop} {fs : Array Field} {ts : List TypeId} (ht : P.underlying t = some (.struct fs)) (hts : fs.toList.map (·.type) = ts) (ho : offsB P (P.cellsOf t) 0 fs.toList = true) (h : OpnS P W d ts ok) : Opn P W d t ok := fun H enc fuel cs x hx => by
  obtain ⟨xs, n, _, _, hl, hxs, hf⟩ := DataW.trod_struct ht hx
  refine h H enc n cs (hts ▸ ?_)
  have := pieces_of (enc := enc) (W := W) (n := n) hl fs.toList 0 ho (fun f hm => by
    obtain ⟨i, hi⟩ := List.getElem?_of_mem hm
    have hi' : fs[i]? = some f := by simpa using hi
    have h1 := hf i f hi'
    have h2 : i < xs.length := by rw [hxs]; exact (Array.getElem?_eq_some_iff.1 hi').1
    exact ⟨xs[i], by rw [h1]; simp⟩)
  simpa using this
theorem pieces_same {H : Type} {enc : TypeId × Value → H} {n k s : Nat} {e : TypeId} {cs : List Value} (hs : P.cellsOf e = s) (hl : cs.length = k * s) :
    ∀ (m i : Nat), i + m = k → (∀ j, j < k → ∃ x, DataW.trod enc P W 0 (fun _ => true) true n e ((cs.drop (j * s)).take s) = some x) → Pieces enc P W n (List.replicate m e) (cs.drop (i * s))
  | 0, i, hi, _ => by
    have : i = k := by omega
    subst this
    simp [Pieces, hl]
  | m + 1, i, hi, hf => by
    obtain ⟨x, hx⟩ := hf i (by omega)
    refine ⟨(cs.drop (i * s)).take s, cs.drop ((i + 1) * s), x, ?_, hx, pieces_same hs hl m (i + 1) (by omega) hf⟩
    rw [Nat.succ_mul, ← List.drop_drop, List.take_append_drop]
theorem Opn.array {α : Type} {d : Kd α} {ok : α → Prop} {n : Nat} {e : TypeId} (ht : P.underlying t = some (.array n e)) (hc : P.cellsOf t = n * P.cellsOf e) (h : OpnS P W d (List.replicate n e) ok) : Opn P W d t ok := fun H enc fuel cs x hx => by
  obtain ⟨xs, m, _, _, hl, hxs, hf⟩ := DataW.trod_array ht hx
  refine h H enc m cs ?_
  have := pieces_same (enc := enc) (W := W) (n := m) (k := n) (e := e) rfl (hl.trans hc) n 0 (by omega) (fun j hj => by
    have h2 : j < xs.length := by omega
    exact ⟨xs[j], by rw [hf j hj]; simp⟩)
  simpa using this
theorem Opn.arg {α : Type} {d : Kd α} {ok : α → Prop} {H : Type} {enc : TypeId × Value → H} {v : Value} {x : DataW H} {ps : List MemPlace} (h : Opn P W d t ok) (hd : DataW.Trod enc P W 0 (fun _ => true) true t v x ps) : ∃ a, d.K W a v.cells.toList ∧ ok a := by
  obtain ⟨fuel, hf⟩ := hd
  exact h H enc fuel _ _ hf
theorem trod_lts {H : Type} {enc : TypeId × Value → H} {v : Value} {x : DataW H} {ps : List MemPlace} (hd : DataW.Trod enc P W 0 (fun _ => true) true t v x ps) : ∀ q ∈ ps, q.block < W.heap.size := by
  obtain ⟨m, hm⟩ := hd
  exact DataW.trod_lt m _ _ _ hm
end
end Go.Proofs.Ythgedejnpgcacaa.Opens
namespace Go.Proofs.Ythgedejnpgcacaa.V
open Go.RowKit Go.Proofs.Ythgedejnpgcacaa.Opens Go.Proofs.YthgedejnpgcacaaW.PrintWords
set_option linter.unusedVariables false
def Ok54 (x : S54) : Prop := (Lit.int .u64 x.f0).wf = true ∧ (Lit.int .u64 x.f1).wf = true ∧ (Lit.int .u64 x.f2).wf = true ∧ (Lit.int .u64 x.f3).wf = true
theorem opn54 (W : World) : Opn Try.prog W k54 54 Ok54 := (Opn.iso (fun x : S54 => (x.f0, x.f1, x.f2, x.f3)) (fun a => ⟨a.1, a.2.1, a.2.2.1, a.2.2.2⟩) (fun _ => rfl) (Opn.array Try.underlying54 (by kernel_rfl) (OpnS.cons (Opn.int Try.underlying52) (OpnS.cons (Opn.int Try.underlying52) (OpnS.cons (Opn.int Try.underlying52) (OpnS.one (Opn.int Try.underlying52))))))).imp (fun _ h => h)
def Ok56 (x : S56) : Prop := (Lit.int .i64 x.f0).wf = true ∧ (x.f1.length ≤ maxLen ∧ ∀ y ∈ x.f1, (Lit.int .i64 y).wf = true) ∧ (Lit.int .i64 x.f2).wf = true ∧ Ok54 x.f3
theorem opn56 (W : World) : Opn Try.prog W k56 56 Ok56 := (Opn.iso (fun x : S56 => (x.f0, x.f1, x.f2, x.f3)) (fun a => ⟨a.1, a.2.1, a.2.2.1, a.2.2.2⟩) (fun _ => rfl) (Opn.struct Try.underlying56 rfl (by kernel_rfl) (OpnS.cons (Opn.int Try.underlying3) (OpnS.cons (Opn.slice 3 Try.underlying41 (by kernel_rfl) (Opn.int Try.underlying3)) (OpnS.cons (Opn.int Try.underlying3) (OpnS.one (opn54 W))))))).imp (fun _ h => h)
def Ok51 (x : S51) : Prop := x.f0.size ≤ maxLen ∧ (Lit.int .i64 x.f1).wf = true
theorem opn51 (W : World) : Opn Try.prog W k51 51 Ok51 := (Opn.iso (fun x : S51 => (x.f0, x.f1)) (fun a => ⟨a.1, a.2⟩) (fun _ => rfl) (Opn.struct Try.underlying51 rfl (by kernel_rfl) (OpnS.cons (Opn.string Try.underlying9) (OpnS.one (Opn.int Try.underlying3))))).imp (fun _ h => h)
theorem opn25 (W : World) : Opn Try.prog W (Kd.pair (Kd.slice 51 k51) (Kd.slice 56 k56)) 25 (fun x => ((x.1.length ≤ maxLen ∧ ∀ y ∈ x.1, Ok51 y) ∧ (x.2.length ≤ maxLen ∧ ∀ y ∈ x.2, Ok56 y))) := (Opn.struct Try.underlying25 rfl (by kernel_rfl) (OpnS.cons (Opn.slice 51 Try.underlying22 (by kernel_rfl) (opn51 W)) (OpnS.one (Opn.slice 56 Try.underlying23 (by kernel_rfl) (opn56 W))))).imp (fun _ h => h)
end Go.Proofs.Ythgedejnpgcacaa.V
namespace Go.Proofs.Ythgedejnpgcacaa.V
open Go.RowKit Go.Proofs.YthgedejnpgcacaaW.PrintWords
set_option linter.unusedVariables false
set_option linter.unusedSimpArgs false
abbrev RuleT := S51
abbrev NodeT := S56
abbrev nodeAt (G : List NodeT) (i : Int) : NodeT := rd_T56 G i
abbrev ruleAt (R : List RuleT) (i : Int) : RuleT := rd_T51 R i
def Made (n : Int) (x : NodeT) : Prop :=
  0 ≤ x.f0 ∧ x.f0 ≤ 9 ∧ (x.f0 ≤ 2 → x.f1 = []) ∧ (x.f0 = 3 → 2 ≤ x.f1.length) ∧ (x.f0 = 4 → 2 ≤ x.f1.length) ∧ (5 ≤ x.f0 → x.f1.length = 1) ∧ (x.f0 = 2 → 0 ≤ x.f2 ∧ x.f2 < n) ∧ (x.f0 ≠ 2 → x.f2 = 0) ∧ (x.f0 ≠ 1 → x.f3.f0 = 0 ∧ x.f3.f1 = 0 ∧ x.f3.f2 = 0 ∧ x.f3.f3 = 0)
def KidsOk (G : List NodeT) (i : Int) : Prop := ∀ c ∈ (nodeAt G i).f1, 0 ≤ c ∧ c < i
structure WF (R : List RuleT) (G : List NodeT) : Prop where
  rules : 0 < R.length ∧ R.length ≤ 1000
  nodes : 0 < G.length ∧ G.length ≤ 10000
  made : ∀ i : Int, 0 ≤ i → i < (G.length : Int) → Made R.length (nodeAt G i)
  kids : ∀ i : Int, 0 ≤ i → i < (G.length : Int) → KidsOk G i
  roots : ∀ r : Int, 0 ≤ r → r < (R.length : Int) → 0 ≤ (ruleAt R r).f1 ∧ (ruleAt R r).f1 < (G.length : Int)
theorem letter_ev (c : Int) (b : Bool) : ∃ v, ∀ k : Nat, vetchref04_Letter.f c b = some v := by
  unfold vetchref04_Letter.f
  repeat' split
  all_goals exact ⟨_, fun _ => rfl⟩
theorem name_l0 (x : ByteArray) (hx : x.size ≤ maxLen) : ∀ (n : Nat) (i : Int), 0 ≤ i → i.toNat + n = x.size → ∃ v, Ev (fun k => vetchref04_Name.l0 k x i) v := by
  intro n
  induction n with
  | zero =>
    intro i h0 hn
    exact ⟨_, Ev.succ (g := fun _ => some _) (fun k => by rw [vetchref04_Name.l0, if_neg (by omega)]) (Ev.const _)⟩
  | succ n ih =>
    intro i h0 hn
    have hm : x.size ≤ 9223372036854775807 := hx
    obtain ⟨b, hb⟩ := letter_ev (bt x i) (i == 0)
    cases b with
    | true =>
      obtain ⟨v, hv⟩ := ih (wrap64 (i + 1)) (by rw [w64p _ (by omega)]; omega) (by rw [w64p _ (by omega)]; omega)
      exact ⟨v, Ev.succ (fun k => by rw [vetchref04_Name.l0, if_pos (by omega), if_pos h0, hb k, Option.bind_some, if_pos rfl]) hv⟩
    | false => exact ⟨false, Ev.succ (g := fun _ => some false) (fun k => by rw [vetchref04_Name.l0, if_pos (by omega), if_pos h0, hb k, Option.bind_some, if_neg (by decide)]) (Ev.const _)⟩
theorem name_ev (x : ByteArray) (hx : x.size ≤ maxLen) : ∃ v, Ev (fun k => vetchref04_Name.f k x) v := by
  obtain ⟨v, hv⟩ := name_l0 x hx x.size 0 (by omega) (by simp)
  exact ⟨v, hv⟩
theorem made_ev (n : Int) (x : NodeT) : ∃ v, Ev (fun k => vetchref05_Made.f k x.f0 x.f1 x.f2 x.f3.f0 x.f3.f1 x.f3.f2 x.f3.f3 n) v ∧ (v = true → Made n x) := by
  obtain ⟨op, kids, rule, s0, s1, s2, s3⟩ := x
  have hj1 : ∀ b : Bool, ∃ v, (∀ k, vetchref05_Made.j1 (k + 1) n b op kids rule s0 s1 s2 s3 = some v) ∧ (v = true → b = false ∧ (op = 2 → 0 ≤ rule ∧ rule < n) ∧ (op ≠ 2 → rule = 0) ∧ (op ≠ 1 → s0 = 0 ∧ s1 = 0 ∧ s2 = 0 ∧ s3 = 0)) := by
    intro b
    simp only [vetchref05_Made.j1]
    repeat' split
    all_goals refine ⟨_, fun _ => rfl, ?_⟩
    all_goals simp_all
    all_goals omega
  have hj0 : ∀ b : Bool, ∃ v, (∀ k, vetchref05_Made.j0 (k + 2) n b op kids rule s0 s1 s2 s3 = some v) ∧ (v = true → b = false ∧ (op ≤ 2 → kids.length = 0) ∧ (op = 3 → 2 ≤ kids.length) ∧ (op = 4 → 2 ≤ kids.length) ∧ (5 ≤ op → kids.length = 1) ∧ (op = 2 → 0 ≤ rule ∧ rule < n) ∧ (op ≠ 2 → rule = 0) ∧ (op ≠ 1 → s0 = 0 ∧ s1 = 0 ∧ s2 = 0 ∧ s3 = 0)) := by
    intro b
    simp only [vetchref05_Made.j0]
    repeat' split
    all_goals first
      | exact ⟨_, fun _ => rfl, fun h => absurd h (by decide)⟩
      | (obtain ⟨v, h1, h2⟩ := hj1 true; exact ⟨v, h1, fun h => absurd (h2 h).1 (by decide)⟩)
      | (obtain ⟨v, h1, h2⟩ := hj1 false; refine ⟨v, h1, fun h => ?_⟩; obtain ⟨_, h3, h4, h5⟩ := h2 h; refine ⟨by simp_all, by omega, by omega, by omega, by omega, h3, h4, h5⟩)
      | (obtain ⟨v, h1, h2⟩ := hj1 ((kids.length : Int) != 1); refine ⟨v, h1, fun h => ?_⟩; obtain ⟨h6, h3, h4, h5⟩ := h2 h; have h7 : (kids.length : Int) = 1 := by simpa using h6
         refine ⟨by simp_all, by omega, by omega, by omega, by omega, h3, h4, h5⟩)
  have hf : ∃ v, (∀ k, vetchref05_Made.f (k + 2) op kids rule s0 s1 s2 s3 n = some v) ∧ (v = true → 0 ≤ op ∧ op ≤ 9 ∧ (op ≤ 2 → kids.length = 0) ∧ (op = 3 → 2 ≤ kids.length) ∧ (op = 4 → 2 ≤ kids.length) ∧ (5 ≤ op → kids.length = 1) ∧ (op = 2 → 0 ≤ rule ∧ rule < n) ∧ (op ≠ 2 → rule = 0) ∧ (op ≠ 1 → s0 = 0 ∧ s1 = 0 ∧ s2 = 0 ∧ s3 = 0)) := by
    unfold vetchref05_Made.f
    split
    · obtain ⟨v, h1, h2⟩ := hj0 true
      exact ⟨v, h1, fun h => absurd (h2 h).1 (by decide)⟩
    · rename_i h0
      obtain ⟨v, h1, h2⟩ := hj0 (decide (op > 9))
      refine ⟨v, h1, fun h => ?_⟩
      obtain ⟨h3, h4⟩ := h2 h
      have h5 : ¬ op > 9 := by simpa using h3
      exact ⟨by omega, by omega, h4⟩
  obtain ⟨v, h1, h2⟩ := hf
  refine ⟨v, ⟨2, fun j hj => ?_⟩, fun h => ?_⟩
  · obtain ⟨k, rfl⟩ : ∃ k, j = k + 2 := ⟨j - 2, by omega⟩
    exact h1 k
  · obtain ⟨a, b, c, d⟩ := h2 h
    exact ⟨a, b, fun h => List.length_eq_zero_iff.1 (c h), d⟩
theorem expr_ev (R : List RuleT) (G : List NodeT) (hG : G.length ≤ maxLen) (hk : ∀ i : Int, 0 ≤ i → i < (G.length : Int) → (nodeAt G i).f1.length ≤ maxLen) :
    ∀ (n : Nat) (i : Int), i < (G.length : Int) → i < (n : Int) → ∃ v, Ev (fun k => vetchref05_Expression.f k R G i) v ∧ (v = -2 ∨ (-1 ≤ v ∧ v < i ∧ ∀ j, v < j → j ≤ i → KidsOk G j)) := by
  have hG' : G.length ≤ 9223372036854775807 := hG
  have neg : ∀ i : Int, i < 0 → ∃ v, Ev (fun k => vetchref05_Expression.f k R G i) v ∧ (v = -2 ∨ (-1 ≤ v ∧ v < i ∧ ∀ j, v < j → j ≤ i → KidsOk G j)) := fun i hi =>
    ⟨-2, Ev.succ (g := fun _ => some (-2)) (fun k => by rw [vetchref05_Expression.f, if_pos hi]) (Ev.const _), .inl rfl⟩
  intro n
  induction n with
  | zero => exact fun i _ hi => neg i (by omega)
  | succ n ih =>
    intro i hl hi
    by_cases h0 : i < 0
    · exact neg i h0
    have hkl : (nodeAt G i).f1.length ≤ 9223372036854775807 := hk i (by omega) hl
    have loop : ∀ (m : Nat) (a : Int), m ≤ (nodeAt G i).f1.length → -1 ≤ a → a < i → (∀ j, a < j → j < i → KidsOk G j) → (∀ p : Nat, m ≤ p → p < (nodeAt G i).f1.length → a < rd (nodeAt G i).f1 p ∧ rd (nodeAt G i).f1 p < i) →
        ∃ v, Ev (fun k => vetchref05_Expression.l0 k i a ((m : Int) - 1) R G) v ∧ (v = -2 ∨ (-1 ≤ v ∧ v < i ∧ (∀ j, v < j → j < i → KidsOk G j) ∧ ∀ p : Nat, p < (nodeAt G i).f1.length → v < rd (nodeAt G i).f1 p ∧ rd (nodeAt G i).f1 p < i)) := by
      intro m
      induction m with
      | zero =>
        intro a hm ha1 ha2 hn hp
        exact ⟨a, Ev.succ (g := fun _ => some a) (fun k => by rw [vetchref05_Expression.l0, if_neg (by omega)]) (Ev.const _), .inr ⟨ha1, ha2, hn, fun p hp' => hp p (by omega) hp'⟩⟩
      | succ m ihm =>
        intro a hm ha1 ha2 hn hp
        by_cases hkid : rd (nodeAt G i).f1 ((m : Int) + 1 - 1) = a
        · obtain ⟨v, hv, hs⟩ := ih a (by omega) (by omega)
          have step : ∀ k, vetchref05_Expression.l0 (k + 1) i a (((m + 1 : Nat) : Int) - 1) R G = (vetchref05_Expression.f k R G a).bind fun t => if t = (-2) then some (-2) else vetchref05_Expression.l0 k i t (wrap64 (((m + 1 : Nat) : Int) - 1 - 1)) R G := fun k => by
            rw [vetchref05_Expression.l0, if_pos (by omega), if_pos (by omega), if_pos hl, if_pos (by omega), if_pos (by show _ < ((nodeAt G i).f1.length : Int); omega), if_pos (by push_cast; exact hkid)]
          rcases hs with rfl | ⟨h1, h2, h3⟩
          · exact ⟨-2, Ev.succ step (Ev.bind hv (Ev.of_eq fun _ => if_pos rfl)), .inl rfl⟩
          · obtain ⟨u, hu, hus⟩ := ihm v (by omega) h1 (by omega) (fun j hj1 hj2 => by
                by_cases hja : j ≤ a
                · exact h3 j hj1 hja
                · exact hn j (by omega) hj2) (fun p hp1 hp2 => by
                by_cases hpm : p = m
                · subst hpm
                  rw [show ((p : Nat) : Int) = (p : Int) + 1 - 1 by omega, hkid]
                  omega
                · have := hp p (by omega) hp2
                  omega)
            refine ⟨u, Ev.succ step (Ev.bind hv (Ev.congr (fun k => if_neg (by omega)) ?_)), hus⟩
            rw [w64p _ (by omega), show ((m + 1 : Nat) : Int) - 1 - 1 = (m : Int) - 1 by omega]
            exact hu
        · refine ⟨-2, Ev.succ (g := fun _ => some (-2)) (fun k => by
            rw [vetchref05_Expression.l0, if_pos (by omega), if_pos (by omega), if_pos hl, if_pos (by omega), if_pos (by show _ < ((nodeAt G i).f1.length : Int); omega), if_neg (by push_cast; exact hkid)]) (Ev.const _), .inl rfl⟩
    obtain ⟨v, hv, hs⟩ := loop (nodeAt G i).f1.length (i - 1) (Nat.le_refl _) (by omega) (by omega) (fun j h1 h2 => absurd h2 (by omega)) (fun p h1 h2 => absurd h2 (by omega))
    refine ⟨v, Ev.succ (fun k => by rw [vetchref05_Expression.f, if_neg h0, if_pos (by omega), if_pos hl, w64p _ (by omega), w64p _ (by show _ ≤ ((nodeAt G i).f1.length : Int) - 1 ∧ ((nodeAt G i).f1.length : Int) - 1 ≤ _; omega)]) hv, ?_⟩
    rcases hs with rfl | ⟨h1, h2, h3, h4⟩
    · exact .inl rfl
    · refine .inr ⟨h1, h2, fun j hj1 hj2 => ?_⟩
      by_cases hji : j = i
      · subst hji
        intro c hc
        obtain ⟨p, hp, rfl⟩ := List.getElem_of_mem hc
        have := h4 p hp
        have e : rd (nodeAt G j).f1 p = (nodeAt G j).f1[p] := by
          unfold rd
          rw [List.getD_eq_getElem?_getD, show (p : Int).toNat = p by omega, List.getElem?_eq_getElem hp]
          rfl
        rw [e] at this
        omega
      · exact h3 j hj1 (by omega)
theorem ordered_ev (R : List RuleT) (G : List NodeT) (hR : R.length ≤ maxLen) (hG : G.length ≤ maxLen) (hk : ∀ i : Int, 0 ≤ i → i < (G.length : Int) → (nodeAt G i).f1.length ≤ maxLen) :
    ∃ v, Ev (fun k => vetchref05_Ordered.f k R G) v ∧ (v = true → (∀ i : Int, 0 ≤ i → i < (G.length : Int) → KidsOk G i) ∧ ∀ r : Int, 0 ≤ r → r < (R.length : Int) → 0 ≤ (ruleAt R r).f1 ∧ (ruleAt R r).f1 < (G.length : Int)) := by
  have hG' : G.length ≤ 9223372036854775807 := hG
  have hR' : R.length ≤ 9223372036854775807 := hR
  have loop : ∀ (n : Nat) (i b : Int), 0 ≤ i → i.toNat + n = R.length → -1 ≤ b → b < (G.length : Int) → (∀ j, 0 ≤ j → j ≤ b → KidsOk G j) → (∀ r, 0 ≤ r → r < i → 0 ≤ (ruleAt R r).f1 ∧ (ruleAt R r).f1 < (G.length : Int)) →
      ∃ v, Ev (fun k => vetchref05_Ordered.l0 k b i R G) v ∧ (v = true → (∀ i : Int, 0 ≤ i → i < (G.length : Int) → KidsOk G i) ∧ ∀ r : Int, 0 ≤ r → r < (R.length : Int) → 0 ≤ (ruleAt R r).f1 ∧ (ruleAt R r).f1 < (G.length : Int)) := by
    intro n
    induction n with
    | zero =>
      intro i b h0 hn hb1 hb2 hj hr
      refine ⟨b == wrap64 ((G.length : Int) - 1), Ev.succ (g := fun _ => some _) (fun k => by rw [vetchref05_Ordered.l0, if_neg (by omega)]) (Ev.const _), fun hv => ?_⟩
      have hb : b = (G.length : Int) - 1 := by
        have := beq_iff_eq.1 hv
        rwa [w64p _ (by omega)] at this
      exact ⟨fun j h1 h2 => hj j h1 (by omega), fun r h1 h2 => hr r h1 (by omega)⟩
    | succ n ih =>
      intro i b h0 hn hb1 hb2 hj hr
      by_cases c1 : (ruleAt R i).f1 ≤ b
      · exact ⟨false, Ev.succ (g := fun _ => some false) (fun k => by rw [vetchref05_Ordered.l0, if_pos (by omega), if_pos h0, if_pos c1]) (Ev.const _), fun h => absurd h (by decide)⟩
      by_cases c2 : (ruleAt R i).f1 ≥ (G.length : Int)
      · exact ⟨false, Ev.succ (g := fun _ => some false) (fun k => by rw [vetchref05_Ordered.l0, if_pos (by omega), if_pos h0, if_neg c1, if_pos c2]) (Ev.const _), fun h => absurd h (by decide)⟩
      obtain ⟨v, hv, hs⟩ := expr_ev R G hG hk G.length (ruleAt R i).f1 (by omega) (by omega)
      have step : ∀ k, vetchref05_Ordered.l0 (k + 1) b i R G = (vetchref05_Expression.f k R G (ruleAt R i).f1).bind fun t => if t = b then vetchref05_Ordered.l0 k (ruleAt R i).f1 (wrap64 (i + 1)) R G else some false := fun k => by
        rw [vetchref05_Ordered.l0, if_pos (by omega), if_pos h0, if_neg c1, if_neg c2]
      by_cases c3 : v = b
      · obtain ⟨u, hu, hus⟩ := ih (i + 1) (ruleAt R i).f1 (by omega) (by omega) (by omega) (by omega) (fun j h1 h2 => by
            by_cases hjb : j ≤ b
            · exact hj j h1 hjb
            · rcases hs with rfl | ⟨_, _, h5⟩
              · omega
              · exact h5 j (by omega) h2) (fun r h1 h2 => by
            by_cases hri : r = i
            · subst hri; omega
            · exact hr r h1 (by omega))
        refine ⟨u, Ev.succ step (Ev.bind hv (Ev.congr (fun k => if_pos c3) ?_)), hus⟩
        rw [w64p _ (by omega)]
        exact hu
      · exact ⟨false, Ev.succ step (Ev.bind hv (Ev.of_eq fun _ => if_neg c3)), fun h => absurd h (by decide)⟩
  obtain ⟨v, hv, hs⟩ := loop R.length 0 (-1) (by omega) (by simp) (by omega) (by omega) (fun j h1 h2 => absurd h2 (by omega)) (fun r h1 h2 => absurd h2 (by omega))
  exact ⟨v, hv, hs⟩
theorem depth_ev (R : List RuleT) (G : List NodeT) (hG : G.length ≤ maxLen) (hk : ∀ i : Int, 0 ≤ i → i < (G.length : Int) → (nodeAt G i).f1.length ≤ maxLen) (ho : ∀ i : Int, 0 ≤ i → i < (G.length : Int) → KidsOk G i) :
    ∀ (n : Nat) (i : Int), 0 ≤ i → i < (G.length : Int) → n ≤ 1000 → ∃ v, Ev (fun k => vetchref05_Depth.f k R G i (n : Int)) v := by
  intro n
  induction n with
  | zero =>
    intro i h0 h1 _
    refine ⟨wrap64 (0 + 1), Ev.succ (fun k => by rw [vetchref05_Depth.f]) (Ev.succ (g := fun _ => some _) (fun k => ?_) (Ev.const _))⟩
    rw [vetchref05_Depth.l0, if_pos h0, if_pos h1]
    split
    · rfl
    · rfl
  | succ n ih =>
    intro i h0 h1 hn
    have hkl : (nodeAt G i).f1.length ≤ 9223372036854775807 := hk i h0 h1
    have loop : ∀ (m : Nat) (j d : Int), 0 ≤ j → j.toNat + m = (nodeAt G i).f1.length → ∃ v, Ev (fun k => vetchref05_Depth.l0 k i ((n + 1 : Nat) : Int) d j R G) v := by
      intro m
      induction m with
      | zero =>
        intro j d hj hm
        exact ⟨wrap64 (d + 1), Ev.succ (g := fun _ => some _) (fun k => by rw [vetchref05_Depth.l0, if_pos h0, if_pos h1, if_neg (by show ¬ _ < ((nodeAt G i).f1.length : Int); omega)]) (Ev.const _)⟩
      | succ m ihm =>
        intro j d hj hm
        have hjl : j < ((nodeAt G i).f1.length : Int) := by omega
        have hmem : rd (nodeAt G i).f1 j ∈ (nodeAt G i).f1 := by
          have h : j.toNat < (nodeAt G i).f1.length := by omega
          unfold rd
          rw [List.getD_eq_getElem?_getD, List.getElem?_eq_getElem h]
          exact List.getElem_mem h
        have hc := ho i h0 h1 _ hmem
        obtain ⟨v, hv⟩ := ih (rd (nodeAt G i).f1 j) hc.1 (by omega) (by omega)
        obtain ⟨u, hu⟩ := ihm (j + 1) (mx d v) (by omega) (by omega)
        refine ⟨u, Ev.succ (g := fun k => (vetchref05_Depth.f k R G (rd (nodeAt G i).f1 j) (n : Int)).bind fun t => vetchref05_Depth.l0 k i ((n + 1 : Nat) : Int) (mx d t) (j + 1) R G) (fun k => ?_) (Ev.bind hv hu)⟩
        rw [vetchref05_Depth.l0, if_pos h0, if_pos h1, if_pos hjl, if_pos (by omega), if_pos hj, w64p (((n + 1 : Nat) : Int) - 1) (by omega), w64p (j + 1) (by omega), show ((n + 1 : Nat) : Int) - 1 = (n : Int) by omega]
    obtain ⟨v, hv⟩ := loop (nodeAt G i).f1.length 0 0 (by omega) (by simp)
    exact ⟨v, Ev.succ (fun k => by rw [vetchref05_Depth.f]) hv⟩
theorem check_ev (R : List RuleT) (G : List NodeT) (hR : R.length ≤ maxLen ∧ ∀ y ∈ R, Ok51 y) (hG : G.length ≤ maxLen ∧ ∀ y ∈ G, Ok56 y) :
    ∃ v, Ev (fun k => vetchref05_Check.f k R G) v ∧ (v.2.1 = 0 → WF R G) := by
  have hG' : G.length ≤ 9223372036854775807 := hG.1
  have hR' : R.length ≤ 9223372036854775807 := hR.1
  have memR : ∀ r : Int, 0 ≤ r → r < (R.length : Int) → ruleAt R r ∈ R := fun r h0 h1 => by
    have h : r.toNat < R.length := by omega
    show R.getD r.toNat _ ∈ R
    rw [List.getD_eq_getElem?_getD, List.getElem?_eq_getElem h]
    exact List.getElem_mem h
  have memG : ∀ r : Int, 0 ≤ r → r < (G.length : Int) → nodeAt G r ∈ G := fun r h0 h1 => by
    have h : r.toNat < G.length := by omega
    show G.getD r.toNat _ ∈ G
    rw [List.getD_eq_getElem?_getD, List.getElem?_eq_getElem h]
    exact List.getElem_mem h
  have hk : ∀ i : Int, 0 ≤ i → i < (G.length : Int) → (nodeAt G i).f1.length ≤ maxLen := fun i h0 h1 => (hG.2 _ (memG i h0 h1)).2.1.1
  have no : ∀ {f : Nat → Option (ByteArray × Int × Int)} {a : ByteArray} {c o : Int} {p : Prop}, c ≠ 0 → Ev f (a, c, o) → ∃ v, Ev f v ∧ (v.2.1 = 0 → p) := fun hc h => ⟨_, h, fun h' => absurd h' hc⟩
  have l3 : (∀ i : Int, 0 ≤ i → i < (G.length : Int) → KidsOk G i) → ∀ (n : Nat) (i : Int), 0 ≤ i → i.toNat + n = G.length → ∃ v, Ev (fun k => vetchref05_Check.l3 k i R G) v ∧ (v.2.1 = 0 → True) := by
    intro ho n
    induction n with
    | zero => exact fun i h0 hn => ⟨_, Ev.succ (g := fun _ => some _) (fun k => by rw [vetchref05_Check.l3, if_neg (by omega)]) (Ev.const _), fun _ => trivial⟩
    | succ n ih =>
      intro i h0 hn
      obtain ⟨d, hd⟩ := depth_ev R G hG.1 hk ho 205 i h0 (by omega) (by omega)
      have step : ∀ k, vetchref05_Check.l3 (k + 1) i R G = (vetchref05_Depth.f k R G i 205).bind fun t => if t > 200 then some ((⟨#[110, 111, 100, 101, 115]⟩ : ByteArray), 5, i) else vetchref05_Check.l3 k (wrap64 (i + 1)) R G := fun k => by rw [vetchref05_Check.l3, if_pos (by omega)]
      by_cases c : d > 200
      · exact ⟨_, Ev.succ step (Ev.bind hd (Ev.of_eq fun _ => if_pos c)), fun _ => trivial⟩
      · obtain ⟨v, hv, hs⟩ := ih (i + 1) (by omega) (by omega)
        refine ⟨v, Ev.succ step (Ev.bind hd (Ev.congr (fun k => if_neg c) ?_)), hs⟩
        rw [w64p _ (by omega)]
        exact hv
  have l2 : 0 < R.length → R.length ≤ 1000 → G.length ≤ 10000 → ∀ (n : Nat) (i : Int), 0 ≤ i → i.toNat + n = G.length → (∀ j : Int, 0 ≤ j → j < i → Made R.length (nodeAt G j)) → ∃ v, Ev (fun k => vetchref05_Check.l2 k i R G) v ∧ (v.2.1 = 0 → WF R G) := by
    intro hr1 hr2 hg n
    induction n with
    | zero =>
      intro i h0 hn hm
      obtain ⟨b, hb, hbs⟩ := ordered_ev R G hR.1 hG.1 hk
      have step : ∀ k, vetchref05_Check.l2 (k + 1) i R G = (vetchref05_Ordered.f k R G).bind fun t => if t = true then vetchref05_Check.l3 k 0 R G else some ((⟨#[]⟩ : ByteArray), 10, 0) := fun k => by rw [vetchref05_Check.l2, if_neg (by omega)]
      cases b with
      | false => exact no (by decide) (Ev.succ step (Ev.bind hb (Ev.of_eq fun _ => if_neg (by decide))))
      | true =>
        obtain ⟨hkids, hroots⟩ := hbs rfl
        obtain ⟨v, hv, _⟩ := l3 hkids G.length 0 (by omega) (by simp)
        refine ⟨v, Ev.succ step (Ev.bind hb (Ev.congr (fun k => if_pos rfl) hv)), fun _ => ⟨⟨hr1, hr2⟩, ⟨?_, hg⟩, fun j h1 h2 => hm j h1 (by omega), hkids, hroots⟩⟩
        have := hroots 0 (by omega) (by omega)
        omega
    | succ n ih =>
      intro i h0 hn hm
      obtain ⟨b, hb, hbs⟩ := made_ev R.length (nodeAt G i)
      have step : ∀ k, vetchref05_Check.l2 (k + 1) i R G = (vetchref05_Made.f k (nodeAt G i).f0 (nodeAt G i).f1 (nodeAt G i).f2 (nodeAt G i).f3.f0 (nodeAt G i).f3.f1 (nodeAt G i).f3.f2 (nodeAt G i).f3.f3 (R.length : Int)).bind fun t => if t = true then vetchref05_Check.l2 k (wrap64 (i + 1)) R G else some ((⟨#[110, 111, 100, 101, 115]⟩ : ByteArray), 10, i) := fun k => by rw [vetchref05_Check.l2, if_pos (by omega), if_pos h0]
      cases b with
      | false => exact no (by decide) (Ev.succ step (Ev.bind hb (Ev.of_eq fun _ => if_neg (by decide))))
      | true =>
        obtain ⟨v, hv, hs⟩ := ih (i + 1) (by omega) (by omega) (fun j h1 h2 => by
          by_cases hji : j = i
          · subst hji; exact hbs rfl
          · exact hm j h1 (by omega))
        refine ⟨v, Ev.succ step (Ev.bind hb (Ev.congr (fun k => if_pos rfl) ?_)), hs⟩
        rw [w64p _ (by omega)]
        exact hv
  have l0 : 0 < R.length → R.length ≤ 1000 → G.length ≤ 10000 → ∀ (n : Nat) (i : Int), 0 ≤ i → i.toNat + n = R.length → ∃ v, Ev (fun k => vetchref05_Check.l0 k i R G) v ∧ (v.2.1 = 0 → WF R G) := by
    intro hr1 hr2 hg n
    induction n with
    | zero =>
      intro i h0 hn
      obtain ⟨v, hv, hs⟩ := l2 hr1 hr2 hg G.length 0 (by omega) (by simp) (fun j h1 h2 => absurd h2 (by omega))
      exact ⟨v, Ev.succ (fun k => by rw [vetchref05_Check.l0, if_neg (by omega)]) hv, hs⟩
    | succ n ih =>
      intro i h0 hn
      have l1 : ∀ (m : Nat) (j : Int), 0 ≤ j → j ≤ i → j.toNat + m = i.toNat → ∃ v, Ev (fun k => vetchref05_Check.l1 k i j R G) v ∧ (v.2.1 = 0 → WF R G) := by
        intro m
        induction m with
        | zero =>
          intro j hj0 hj hm
          obtain ⟨v, hv, hs⟩ := ih (i + 1) (by omega) (by omega)
          refine ⟨v, Ev.succ (fun k => by rw [vetchref05_Check.l1, if_neg (by omega)]) ?_, hs⟩
          rw [w64p _ (by omega)]
          exact hv
        | succ m ihm =>
          intro j hj0 hj hm
          by_cases c : ((ruleAt R j).f0).toList = ((ruleAt R i).f0).toList
          · exact no (c := 10) (by decide) (Ev.succ (g := fun _ => some ((⟨#[114, 117, 108, 101, 115]⟩ : ByteArray), 10, i)) (fun k => by rw [vetchref05_Check.l1, if_pos (by omega), if_pos hj0, if_pos (by omega), if_pos h0, if_pos (by omega), if_pos c]) (Ev.const _))
          · obtain ⟨v, hv, hs⟩ := ihm (j + 1) (by omega) (by omega) (by omega)
            refine ⟨v, Ev.succ (fun k => by rw [vetchref05_Check.l1, if_pos (by omega), if_pos hj0, if_pos (by omega), if_pos h0, if_pos (by omega), if_neg c]) ?_, hs⟩
            rw [w64p _ (by omega)]
            exact hv
      obtain ⟨b, hb⟩ := name_ev (ruleAt R i).f0 (hR.2 _ (memR i h0 (by omega))).1
      have step : ∀ k, vetchref05_Check.l0 (k + 1) i R G = (vetchref04_Name.f k (ruleAt R i).f0).bind fun t => if t = true then vetchref05_Check.l1 k i 0 R G else some ((⟨#[114, 117, 108, 101, 115]⟩ : ByteArray), 10, i) := fun k => by rw [vetchref05_Check.l0, if_pos (by omega), if_pos h0]
      cases b with
      | false => exact no (by decide) (Ev.succ step (Ev.bind hb (Ev.of_eq fun _ => if_neg (by decide))))
      | true =>
        obtain ⟨v, hv, hs⟩ := l1 i.toNat 0 (by omega) h0 (by simp)
        exact ⟨v, Ev.succ step (Ev.bind hb (Ev.congr (fun k => if_pos rfl) hv)), hs⟩
  unfold vetchref05_Check.f
  by_cases c1 : (R.length : Int) > 1000
  · exact no (c := 4) (by decide) (Ev.congr (fun k => if_pos c1) (Ev.succ (g := fun _ => some ((⟨#[]⟩ : ByteArray), 4, 0)) (fun k => by rw [vetchref05_Check.j0, if_pos rfl]) (Ev.const _)))
  by_cases c2 : (G.length : Int) > 10000
  · exact no (c := 4) (by decide) (Ev.congr (fun k => if_neg c1) (Ev.succ (g := fun _ => some ((⟨#[]⟩ : ByteArray), 4, 0)) (fun k => by rw [vetchref05_Check.j0, if_pos (by simpa using c2)]) (Ev.const _)))
  by_cases c3 : (R.length : Int) = 0
  · exact no (c := 10) (by decide) (Ev.congr (fun k => if_neg c1) (Ev.succ (g := fun _ => some ((⟨#[114, 117, 108, 101, 115]⟩ : ByteArray), 10, 0)) (fun k => by rw [vetchref05_Check.j0, if_neg (by simpa using c2), if_pos c3]) (Ev.const _)))
  obtain ⟨v, hv, hs⟩ := l0 (by omega) (by omega) (by omega) R.length 0 (by omega) (by simp)
  exact ⟨v, Ev.congr (fun k => if_neg c1) (Ev.succ (fun k => by rw [vetchref05_Check.j0, if_neg (by simpa using c2), if_neg c3]) hv), hs⟩
theorem valid_ev (R : List RuleT) (G : List NodeT) (hR : R.length ≤ maxLen ∧ ∀ y ∈ R, Ok51 y) (hG : G.length ≤ maxLen ∧ ∀ y ∈ G, Ok56 y) :
    ∃ v, Ev (fun k => vetchref05_Valid.f k R G) v ∧ (v = true → WF R G) := by
  obtain ⟨v, hv, hs⟩ := check_ev R G hR hG
  exact ⟨v.2.1 == 0, Ev.bind hv (Ev.const _), fun h => hs (beq_iff_eq.1 h)⟩
end Go.Proofs.Ythgedejnpgcacaa.V
namespace Go.Proofs.Ythgedejnpgcacaa.V
open Go.RowKit Go.Proofs.YthgedejnpgcacaaW.PrintWords
set_option linter.unusedVariables false
theorem has_l0 : ∀ (n : Nat) (c v i : Int), 0 ≤ i → i.toNat + n = (c % 64).toNat → Ev (fun k => vetchref01_Has.l0 k c v i) (v / 2 ^ n % 2 == 1) := by
  intro n
  induction n with
  | zero =>
    intro c v i h0 hn
    exact Ev.succ (g := fun _ => some _) (fun k => by rw [vetchref01_Has.l0, if_neg (by omega), Int.pow_zero, Int.ediv_one]) (Ev.const _)
  | succ n ih =>
    intro c v i h0 hn
    have := ih c (v / 2) (i + 1) (by omega) (by omega)
    rw [Int.ediv_ediv_of_nonneg (by decide), show (2 : Int) * 2 ^ n = 2 ^ (n + 1) by rw [Int.pow_succ, Int.mul_comm]] at this
    exact Ev.succ (fun k => by rw [vetchref01_Has.l0, if_pos (by omega)]) this
theorem has_ev (s : S54) (hs : Ok54 s) (c : Int) (h0 : 0 ≤ c) (h1 : c ≤ 255) :
    ∃ b, byteset_Has.f s.f0 s.f1 s.f2 s.f3 c = some b ∧ Ev (fun k => vetchref01_Has.f k s.f0 s.f1 s.f2 s.f3 c) b := by
  obtain ⟨w0, w1, w2, w3⟩ := hs
  simp [Lit.wf, IntKind.min, IntKind.max, IntKind.signed, IntKind.bits] at w0 w1 w2 w3
  have hv : 0 ≤ arr4 s.f0 s.f1 s.f2 s.f3 (c / 64) ∧ arr4 s.f0 s.f1 s.f2 s.f3 (c / 64) ≤ 18446744073709551615 := by unfold arr4; repeat' split <;> omega
  generalize hvv : arr4 s.f0 s.f1 s.f2 s.f3 (c / 64) = v at hv
  have hl := has_l0 (c % 64).toNat c v 0 (by omega) (by omega)
  refine ⟨_, by unfold byteset_Has.f; rw [if_pos h0, if_pos h1, hvv], ?_⟩
  have e : (bits .and .u64 (v / 2 ^ (c % 64).toNat) 1 == 1) = (v / 2 ^ (c % 64).toNat % 2 == 1) := by
    have hp : (0 : Int) < 2 ^ (c % 64).toNat := Int.pow_pos (by decide)
    have h2 : 0 ≤ v / 2 ^ (c % 64).toNat := Int.ediv_nonneg hv.1 (by omega)
    have h3 : v / 2 ^ (c % 64).toNat ≤ v := Int.ediv_le_self _ hv.1
    generalize v / 2 ^ (c % 64).toNat = y at h2 h3
    obtain ⟨m, rfl⟩ := Int.eq_ofNat_of_zero_le h2
    have := bits_and_u64_nat m 1 (by omega) (by decide)
    rw [show ((1 : Nat) : Int) = 1 from rfl] at this
    rw [this, Nat.and_one_is_mod, Int.natCast_emod]
    rfl
  rw [e]
  exact Ev.congr (fun k => by unfold vetchref01_Has.f; rw [if_pos h0, if_pos h1, if_pos ⟨⟨w0.1, w0.2⟩, ⟨w1.1, w1.2⟩, ⟨w2.1, w2.2⟩, ⟨w3.1, w3.2⟩⟩, hvv]) hl
end Go.Proofs.Ythgedejnpgcacaa.V
namespace Go.Proofs.Ythgedejnpgcacaa.V
open Go.RowKit Go.Proofs.YthgedejnpgcacaaW.PrintWords
set_option linter.unusedVariables false
set_option linter.unusedSimpArgs false
set_option linter.unusedSectionVars false
structure Good (x : ByteArray) (a u : Int) (r : Bool × Int × Int) : Prop where
  known : r.1 = true → 0 ≤ r.2.2 ∧ r.2.2 ≤ u ∧ -1 ≤ r.2.1 ∧ r.2.1 ≤ (x.size : Int) ∧ (0 ≤ r.2.1 → a ≤ r.2.1)
  unk : r.1 = false → r.2.1 = 0 ∧ r.2.2 = 0
def Sim (x : ByteArray) (r : Bool × Int × Int) (q : Int × ByteArray × Int) : Prop := q.1 = (if r.1 = true then r.2.1 else -2) ∧ q.2.1 = x ∧ (r.1 = true → q.2.2 = r.2.2)
def NodeRel (R : List RuleT) (G : List NodeT) (x : ByteArray) (i a u : Int) : Prop :=
  ∃ r q, Ev (fun k => vetchref18_Node.f k R G i x a u) r ∧ Ev (fun k => naive_evaluator_node.f k R G x u i a) q ∧ Sim x r q ∧ Good x a (u - 1) r
section
variable {R : List RuleT} {G : List NodeT} {x : ByteArray} (hx : x.size ≤ 1000000) (hR : R.length ≤ 1000000) (hG : G.length ≤ 1000000) (hw : WF R G) (hok : ∀ y ∈ G, Ok56 y) (hkl : ∀ i : Int, 0 ≤ i → i < (G.length : Int) → (nodeAt G i).f1.length ≤ 9223372036854775807)
include hx hG hw hok hkl
theorem rd_in (xs : List Int) (j : Int) (h0 : 0 ≤ j) (h1 : j < (xs.length : Int)) : rd xs j ∈ xs := by
  have h : j.toNat < xs.length := by omega
  unfold rd
  rw [List.getD_eq_getElem?_getD, List.getElem?_eq_getElem h]
  exact List.getElem_mem h
omit hx hG hw hok hkl in
theorem rd_mem56 (G : List NodeT) (i : Int) (h0 : 0 ≤ i) (h1 : i < (G.length : Int)) : nodeAt G i ∈ G := by
  have h : i.toNat < G.length := by omega
  show G.getD i.toNat _ ∈ G
  rw [List.getD_eq_getElem?_getD, List.getElem?_eq_getElem h]
  exact List.getElem_mem h
omit hx hG hw hok hkl in
theorem good_weaken {a a' u u' : Int} {r : Bool × Int × Int} (h : Good x a u r) (ha : a' ≤ a) (hu : u ≤ u') : Good x a' u' r :=
  ⟨fun hk => by have := h.known hk; omega, h.unk⟩
theorem seq_rel (n : Int) (hn : n ≤ 1000000000) (ih : ∀ u, u ≤ n → ∀ i a, 0 ≤ i → i < (G.length : Int) → 0 ≤ a → a ≤ (x.size : Int) → NodeRel R G x i a u) (kids : List Int) (hk : ∀ c ∈ kids, 0 ≤ c ∧ c < (G.length : Int)) (hl : kids.length ≤ 9223372036854775807) :
    ∀ (m : Nat) (j : Int), 0 ≤ j → j.toNat + m = kids.length → ∀ a u, 0 ≤ u → u ≤ n → 0 ≤ a → a ≤ (x.size : Int) →
      ∃ r q, Ev (fun k => vetchref18_Node.seqF (fun c a u => vetchref18_Node.f k R G c x a u) (kids.drop j.toNat) a u) r ∧ Ev (fun k => naive_evaluator_seq.l0 k a kids (kids.length : Int) j R G x u) q ∧ Sim x r q ∧ Good x a u r := by
  intro m
  induction m with
  | zero =>
    intro j h0 hm a u hu0 hu ha0 ha
    refine ⟨(true, a, u), (a, x, u), Ev.of_eq fun k => by rw [List.drop_eq_nil_of_le (by omega), vetchref18_Node.seqF], Ev.succ (g := fun _ => some _) (fun k => by rw [naive_evaluator_seq.l0, if_neg (by omega)]) (Ev.const _), ⟨by simp, rfl, fun _ => rfl⟩, ⟨fun _ => ?_, fun h => absurd h (by simp)⟩⟩
    exact ⟨hu0, Int.le_refl _, by show -1 ≤ a; omega, ha, fun _ => Int.le_refl _⟩
  | succ m ihm =>
    intro j h0 hm a u hu0 hu ha0 ha
    have hj : j < (kids.length : Int) := by omega
    have hc := hk _ (rd_in hx hG hw hok hkl kids j h0 hj)
    obtain ⟨r, q, hr, hq, hs, hg⟩ := ih u hu (rd kids j) a hc.1 hc.2 ha0 ha
    obtain ⟨r1, r2, r3⟩ := r
    obtain ⟨q1, q2, q3⟩ := q
    obtain ⟨s1, s2, s3⟩ := hs
    dsimp only at s1 s2 s3
    subst s2
    have stepR : ∀ k, vetchref18_Node.seqF (fun c a u => vetchref18_Node.f k R G c q2 a u) (kids.drop j.toNat) a u = (vetchref18_Node.f k R G (rd kids j) q2 a u).bind fun r => if r.1 = true ∧ 0 ≤ r.2.1 then vetchref18_Node.seqF (fun c a u => vetchref18_Node.f k R G c q2 a u) (kids.drop (j + 1).toNat) r.2.1 r.2.2 else some r := fun k => by
      rw [h18_drop kids j h0 hj, vetchref18_Node.seqF]
    have stepQ : ∀ k, naive_evaluator_seq.l0 (k + 1) a kids (kids.length : Int) j R G q2 u = (naive_evaluator_node.f k R G q2 u (rd kids j) a).bind fun t => if t.1 < 0 then some (t.1, t.2.1, t.2.2) else naive_evaluator_seq.l0 k t.1 kids (kids.length : Int) (j + 1) R G t.2.1 t.2.2 := fun k => by
      rw [naive_evaluator_seq.l0, if_pos hj, if_pos h0, if_pos hj, w64p (j + 1) (by omega)]
    by_cases hc2 : r1 = true ∧ 0 ≤ r2
    · obtain ⟨rfl, hr2⟩ := hc2
      obtain ⟨g1, g2, g3, g4, g5⟩ := hg.known rfl
      dsimp only at g1 g2 g3 g4 g5
      obtain ⟨r', q', hr', hq', hs', hg'⟩ := ihm (j + 1) (by omega) (by omega) r2 r3 g1 (by omega) hr2 g4
      have e1 : q1 = r2 := by simpa using s1
      have e3 := s3 rfl
      subst e1 e3
      exact ⟨r', q', Ev.congr stepR (Ev.bind hr (Ev.congr (fun k => if_pos ⟨rfl, hr2⟩) hr')), Ev.succ stepQ (Ev.bind hq (Ev.congr (fun k => if_neg (by show ¬ q1 < 0; omega)) hq')), hs', good_weaken hg' (g5 hr2) (by omega)⟩
    · have hq0 : q1 < 0 := by
        rw [s1]
        split
        · rename_i h; have : ¬ 0 ≤ r2 := fun h2 => hc2 ⟨h, h2⟩; omega
        · omega
      exact ⟨(r1, r2, r3), (q1, q2, q3), Ev.congr stepR (Ev.bind hr (Ev.of_eq fun _ => if_neg hc2)), Ev.succ stepQ (Ev.bind hq (Ev.of_eq fun _ => if_pos hq0)), ⟨s1, rfl, s3⟩, good_weaken hg (Int.le_refl _) (by omega)⟩
theorem cho_rel (n : Int) (hn : n ≤ 1000000000) (ih : ∀ u, u ≤ n → ∀ i a, 0 ≤ i → i < (G.length : Int) → 0 ≤ a → a ≤ (x.size : Int) → NodeRel R G x i a u) (kids : List Int) (hk : ∀ c ∈ kids, 0 ≤ c ∧ c < (G.length : Int)) (hl : kids.length ≤ 9223372036854775807) (a : Int) (ha0 : 0 ≤ a) (ha : a ≤ (x.size : Int)) :
    ∀ (m : Nat) (j : Int), 0 ≤ j → j.toNat + m = kids.length → ∀ e u, 0 ≤ u → u ≤ n → e = -1 →
      ∃ r q, Ev (fun k => vetchref18_Node.choF (fun c u => vetchref18_Node.f k R G c x a u) (kids.drop j.toNat) e u) r ∧ Ev (fun k => naive_evaluator_choice.l0 k a kids (kids.length : Int) j R G x u) q ∧ Sim x r q ∧ Good x a u r := by
  intro m
  induction m with
  | zero =>
    intro j h0 hm e u hu0 hu he
    subst he
    refine ⟨(true, -1, u), (-1, x, u), Ev.of_eq fun k => by rw [List.drop_eq_nil_of_le (by omega), vetchref18_Node.choF], Ev.succ (g := fun _ => some _) (fun k => by rw [naive_evaluator_choice.l0, if_neg (by omega)]) (Ev.const _), ⟨by simp, rfl, fun _ => rfl⟩, ⟨fun _ => ?_, fun h => absurd h (by simp)⟩⟩
    exact ⟨hu0, Int.le_refl _, Int.le_refl _, by show (-1 : Int) ≤ _; omega, fun h => absurd h (by simp)⟩
  | succ m ihm =>
    intro j h0 hm e u hu0 hu he
    have hj : j < (kids.length : Int) := by omega
    have hc := hk _ (rd_in hx hG hw hok hkl kids j h0 hj)
    obtain ⟨r, q, hr, hq, hs, hg⟩ := ih u hu (rd kids j) a hc.1 hc.2 ha0 ha
    obtain ⟨r1, r2, r3⟩ := r
    obtain ⟨q1, q2, q3⟩ := q
    obtain ⟨s1, s2, s3⟩ := hs
    dsimp only at s1 s2 s3
    subst s2
    have stepR : ∀ k, vetchref18_Node.choF (fun c u => vetchref18_Node.f k R G c q2 a u) (kids.drop j.toNat) e u = (vetchref18_Node.f k R G (rd kids j) q2 a u).bind fun r => if r.1 = true ∧ r.2.1 < 0 then vetchref18_Node.choF (fun c u => vetchref18_Node.f k R G c q2 a u) (kids.drop (j + 1).toNat) r.2.1 r.2.2 else some r := fun k => by
      rw [h18_drop kids j h0 hj, vetchref18_Node.choF]
    have stepQ : ∀ k, naive_evaluator_choice.l0 (k + 1) a kids (kids.length : Int) j R G q2 u = (naive_evaluator_node.f k R G q2 u (rd kids j) a).bind fun t => if t.1 = (-1) then naive_evaluator_choice.l0 k a kids (kids.length : Int) (j + 1) R G t.2.1 t.2.2 else some (t.1, t.2.1, t.2.2) := fun k => by
      rw [naive_evaluator_choice.l0, if_pos hj, if_pos h0, if_pos hj, w64p (j + 1) (by omega)]
    by_cases hc2 : r1 = true ∧ r2 < 0
    · obtain ⟨rfl, hr2⟩ := hc2
      obtain ⟨g1, g2, g3, g4, g5⟩ := hg.known rfl
      dsimp only at g1 g2 g3 g4 g5
      have er : r2 = -1 := by omega
      subst er
      obtain ⟨r', q', hr', hq', hs', hg'⟩ := ihm (j + 1) (by omega) (by omega) (-1) r3 g1 (by omega) rfl
      have e1 : q1 = -1 := by simpa using s1
      have e3 := s3 rfl
      subst e1 e3
      exact ⟨r', q', Ev.congr stepR (Ev.bind hr (Ev.congr (fun k => if_pos ⟨rfl, hr2⟩) hr')), Ev.succ stepQ (Ev.bind hq (Ev.congr (fun k => if_pos rfl) hq')), hs', good_weaken hg' (Int.le_refl _) (by omega)⟩
    · have hq0 : q1 ≠ -1 := by
        rw [s1]
        split
        · rename_i h; have : ¬ r2 < 0 := fun h2 => hc2 ⟨h, h2⟩; omega
        · omega
      exact ⟨(r1, r2, r3), (q1, q2, q3), Ev.congr stepR (Ev.bind hr (Ev.of_eq fun _ => if_neg hc2)), Ev.succ stepQ (Ev.bind hq (Ev.of_eq fun _ => if_neg hq0)), ⟨s1, rfl, s3⟩, good_weaken hg (Int.le_refl _) (by omega)⟩
theorem rep_rel (n : Int) (hn : n ≤ 1000000000) (ih : ∀ u, u ≤ n → ∀ i a, 0 ≤ i → i < (G.length : Int) → 0 ≤ a → a ≤ (x.size : Int) → NodeRel R G x i a u) (c : Int) (hc0 : 0 ≤ c) (hc : c < (G.length : Int)) :
    ∀ (m : Nat) (u : Int), u.toNat = m → 0 ≤ u → u ≤ n → ∀ a, 0 ≤ a → a ≤ (x.size : Int) →
      ∃ r q, (∀ b last, Ev (fun k => vetchref18_Node.repF (fun a u => vetchref18_Node.f (k + b) R G c x a u) k last (true, a, u)) r) ∧ Ev (fun k => naive_evaluator_repeat.l0 k c a R G x u) q ∧ Sim x r q ∧ Good x a u r ∧ (r.1 = true → 0 ≤ r.2.1) := by
  intro m
  induction m using Nat.strongRecOn with
  | _ m ihm =>
  intro u hm hu0 hu a ha0 ha
  obtain ⟨r, q, hr, hq, hs, hg⟩ := ih u hu c a hc0 hc ha0 ha
  obtain ⟨r1, r2, r3⟩ := r
  obtain ⟨q1, q2, q3⟩ := q
  obtain ⟨s1, s2, s3⟩ := hs
  dsimp only at s1 s2 s3
  subst s2
  have stepR : ∀ b last k, vetchref18_Node.repF (fun a u => vetchref18_Node.f (k + 1 + b) R G c q2 a u) (k + 1) last (true, a, u) = (vetchref18_Node.f (k + (b + 1)) R G c q2 a u).bind fun t => vetchref18_Node.repF (fun a u => vetchref18_Node.f (k + (b + 1)) R G c q2 a u) k a t := fun b last k => by
    rw [vetchref18_Node.repF, if_pos ⟨rfl, ha0⟩, show k + 1 + b = k + (b + 1) by omega]
  have stepQ : ∀ k, naive_evaluator_repeat.l0 (k + 1) c a R G q2 u = (naive_evaluator_node.f k R G q2 u c a).bind fun t => if t.1 = (-1) then some (a, t.2.1, t.2.2) else if t.1 = (-2) then some ((-2), t.2.1, t.2.2) else naive_evaluator_repeat.l0 k c t.1 R G t.2.1 t.2.2 := fun k => by
    rw [naive_evaluator_repeat.l0]
  cases r1 with
  | false =>
    obtain ⟨u1, u2⟩ := hg.unk rfl
    dsimp only at u1 u2
    subst u1 u2
    have e1 : q1 = -2 := by simpa using s1
    subst e1
    refine ⟨(false, 0, 0), (-2, q2, q3), fun b last => Ev.succ (stepR b last) (Ev.bind (Ev.shift (b + 1) hr) ?_), Ev.succ stepQ (Ev.bind hq (Ev.of_eq fun _ => by rw [if_neg (by show ¬ (-2 : Int) = -1; decide), if_pos rfl])), ⟨by simp, rfl, fun h => absurd h (by simp)⟩, ⟨fun h => absurd h (by simp), fun _ => ⟨rfl, rfl⟩⟩, fun h => absurd h (by simp)⟩
    exact Ev.succ (g := fun _ => some (false, 0, 0)) (fun k => by rw [vetchref18_Node.repF, if_neg (by simp), if_neg (by simp)]) (Ev.const _)
  | true =>
    obtain ⟨g1, g2, g3, g4, g5⟩ := hg.known rfl
    dsimp only at g1 g2 g3 g4 g5
    have e1 : q1 = r2 := by simpa using s1
    have e3 := s3 rfl
    subst e1 e3
    by_cases hr2 : 0 ≤ q1
    · obtain ⟨r', q', hr', hq', hs', hg', hp'⟩ := ihm q3.toNat (by omega) q3 rfl g1 (by omega) q1 hr2 g4
      exact ⟨r', q', fun b last => Ev.succ (stepR b last) (Ev.bind (Ev.shift (b + 1) hr) (hr' (b + 1) a)), Ev.succ stepQ (Ev.bind hq (Ev.congr (fun k => by rw [if_neg (by show ¬ q1 = -1; omega), if_neg (by show ¬ q1 = -2; omega)]) hq')), hs', good_weaken hg' (g5 hr2) (by omega), hp'⟩
    · have e : q1 = -1 := by omega
      subst e
      refine ⟨(true, a, q3), (a, q2, q3), fun b last => Ev.succ (stepR b last) (Ev.bind (Ev.shift (b + 1) hr) ?_), Ev.succ stepQ (Ev.bind hq (Ev.of_eq fun _ => if_pos rfl)), ⟨by simp, rfl, fun _ => rfl⟩, ⟨fun _ => ⟨g1, by show q3 ≤ u; omega, by show -1 ≤ a; omega, ha, fun _ => Int.le_refl _⟩, fun h => absurd h (by simp)⟩, fun _ => ha0⟩
      exact Ev.succ (g := fun _ => some (true, a, q3)) (fun k => by rw [vetchref18_Node.repF, if_neg (by simp), if_pos rfl]) (Ev.const _)
theorem node_rel : ∀ (n : Nat) (u : Int), u ≤ n → u ≤ 100000000 → ∀ i a, 0 ≤ i → i < (G.length : Int) → 0 ≤ a → a ≤ (x.size : Int) → NodeRel R G x i a u := by
  intro n
  induction n with
  | zero =>
    intro u hu _ i a hi0 hi ha0 ha
    refine ⟨(false, 0, 0), (-2, x, u), Ev.succ (g := fun _ => some (false, 0, 0)) (fun k => by rw [vetchref18_Node.f, if_pos (by omega)]) (Ev.const _), Ev.succ (g := fun _ => some (-2, x, u)) (fun k => by rw [naive_evaluator_node.f, if_pos (by omega)]) (Ev.const _), ⟨by simp, rfl, fun h => absurd h (by simp)⟩, ⟨fun h => absurd h (by simp), fun _ => ⟨rfl, rfl⟩⟩⟩
  | succ n ih0 =>
    intro u hu hub i a hi0 hi ha0 ha
    by_cases hu1 : u < 1
    · exact ih0 u (by omega) hub i a hi0 hi ha0 ha
    have ih : ∀ u', u' ≤ u - 1 → ∀ i a, 0 ≤ i → i < (G.length : Int) → 0 ≤ a → a ≤ (x.size : Int) → NodeRel R G x i a u' := fun u' hu' => ih0 u' (by omega) (by omega)
    have hwr : wrap64 (u - 1) = u - 1 := w64p _ (by omega)
    obtain ⟨m0, m1, m2, m3, m4, m5, m6, m7, m8⟩ := hw.made i hi0 hi
    have hkids := hw.kids i hi0 hi
    have hkids' : ∀ c ∈ (nodeAt G i).f1, 0 ≤ c ∧ c < (G.length : Int) := fun c hc => by have := hkids c hc; omega
    have hl := hkl i hi0 hi
    have hn9 : u - 1 ≤ 1000000000 := by omega
    have unit : ∀ (e : Int), -1 ≤ e → e ≤ (x.size : Int) → (0 ≤ e → a ≤ e) → Sim x (true, e, u - 1) (e, x, u - 1) ∧ Good x a (u - 1) (true, e, u - 1) := fun e h1 h2 h3 =>
      ⟨⟨by simp, rfl, fun _ => rfl⟩, ⟨fun _ => ⟨by show 0 ≤ u - 1; omega, Int.le_refl _, h1, h2, h3⟩, fun h => absurd h (by simp)⟩⟩
    by_cases o0 : (nodeAt G i).f0 = 0
    · obtain ⟨h1, h2⟩ := unit a (by omega) ha (fun _ => Int.le_refl _)
      exact ⟨_, _, Ev.succ (g := fun _ => some (true, a, u - 1)) (fun k => by rw [vetchref18_Node.f, if_neg hu1, if_pos ⟨hi0, hi⟩, if_pos o0, hwr]) (Ev.const _), Ev.succ (g := fun _ => some (a, x, u - 1)) (fun k => by rw [naive_evaluator_node.f, if_neg hu1, if_pos hi0, if_pos hi, if_pos o0, hwr]) (Ev.const _), h1, h2⟩
    by_cases o1 : (nodeAt G i).f0 = 1
    · by_cases hlt : a < (x.size : Int)
      · have hset := (hok _ (rd_mem56 G i hi0 hi)).2.2.2
        obtain ⟨b, hb1, hb2⟩ := has_ev (nodeAt G i).f3 hset (bt x a) (bt_range x a).1 (bt_range x a).2
        have stepR : ∀ k, vetchref18_Node.f (k + 1) R G i x a u = (vetchref01_Has.f k (nodeAt G i).f3.f0 (nodeAt G i).f3.f1 (nodeAt G i).f3.f2 (nodeAt G i).f3.f3 (bt x a)).bind fun b => if b = true then some (true, a + 1, u - 1) else some (true, -1, u - 1) := fun k => by
          rw [vetchref18_Node.f, if_neg hu1, if_pos ⟨hi0, hi⟩, if_neg o0, if_pos o1, if_pos hlt, if_pos ha0, hwr, w64p (a + 1) (by omega)]
        have stepQ : ∀ k, naive_evaluator_node.f (k + 1) R G x u i a = if b = true then some (a + 1, x, u - 1) else some (-1, x, u - 1) := fun k => by
          rw [naive_evaluator_node.f, if_neg hu1, if_pos hi0, if_pos hi, if_neg o0, if_pos o1, if_pos hlt, if_pos ha0, hwr, w64p (a + 1) (by omega), hb1, Option.bind_some]
        cases b with
        | true =>
          obtain ⟨h1, h2⟩ := unit (a + 1) (by omega) (by omega) (fun _ => by omega)
          exact ⟨_, _, Ev.succ stepR (Ev.bind hb2 (Ev.of_eq fun _ => if_pos rfl)), Ev.succ stepQ (Ev.of_eq fun _ => if_pos rfl), h1, h2⟩
        | false =>
          obtain ⟨h1, h2⟩ := unit (-1) (by omega) (by omega) (fun h => absurd h (by decide))
          exact ⟨_, _, Ev.succ stepR (Ev.bind hb2 (Ev.of_eq fun _ => if_neg (by decide))), Ev.succ stepQ (Ev.of_eq fun _ => if_neg (by decide)), h1, h2⟩
      · obtain ⟨h1, h2⟩ := unit (-1) (by omega) (by omega) (fun h => absurd h (by decide))
        exact ⟨_, _, Ev.succ (g := fun _ => some (true, -1, u - 1)) (fun k => by rw [vetchref18_Node.f, if_neg hu1, if_pos ⟨hi0, hi⟩, if_neg o0, if_pos o1, if_neg hlt, hwr]) (Ev.const _), Ev.succ (g := fun _ => some (-1, x, u - 1)) (fun k => by rw [naive_evaluator_node.f, if_neg hu1, if_pos hi0, if_pos hi, if_neg o0, if_pos o1, if_neg hlt, hwr]) (Ev.const _), h1, h2⟩
    by_cases o2 : (nodeAt G i).f0 = 2
    · obtain ⟨p0, p1⟩ := m6 o2
      have hroot := hw.roots _ p0 p1
      obtain ⟨r, q, hr, hq, hs, hg⟩ := ih (u - 1) (Int.le_refl _) (ruleAt R (nodeAt G i).f2).f1 a hroot.1 hroot.2 ha0 ha
      exact ⟨r, q, Ev.succ (fun k => by rw [vetchref18_Node.f, if_neg hu1, if_pos ⟨hi0, hi⟩, if_neg o0, if_neg o1, if_pos o2, if_pos ⟨p0, p1⟩, hwr]) hr, Ev.succ (g := fun k => (naive_evaluator_node.f k R G x (u - 1) (ruleAt R (nodeAt G i).f2).f1 a).bind fun t => some (t.1, t.2.1, t.2.2)) (fun k => by rw [naive_evaluator_node.f, if_neg hu1, if_pos hi0, if_pos hi, if_neg o0, if_neg o1, if_pos o2, if_pos p0, if_pos p1, hwr]) (Ev.bind hq (Ev.const _)), hs, good_weaken hg (Int.le_refl _) (by omega)⟩
    by_cases o3 : (nodeAt G i).f0 = 3
    · obtain ⟨r, q, hr, hq, hs, hg⟩ := seq_rel hx hG hw hok hkl (u - 1) hn9 ih (nodeAt G i).f1 hkids' hl (nodeAt G i).f1.length 0 (Int.le_refl _) (by simp) a (u - 1) (by omega) (Int.le_refl _) ha0 ha
      refine ⟨r, q, Ev.succ (fun k => by rw [vetchref18_Node.f, if_neg hu1, if_pos ⟨hi0, hi⟩, if_neg o0, if_neg o1, if_neg o2, if_pos o3, hwr]; rfl) hr, Ev.succ (g := fun k => (naive_evaluator_seq.f k R G x (u - 1) (nodeAt G i).f1 a).bind fun t => some (t.1, t.2.1, t.2.2)) (fun k => by rw [naive_evaluator_node.f, if_neg hu1, if_pos hi0, if_pos hi, if_neg o0, if_neg o1, if_neg o2, if_pos o3, hwr]) (Ev.bind (Ev.succ (fun k => by rw [naive_evaluator_seq.f]) hq) (Ev.const _)), hs, hg⟩
    by_cases o4 : (nodeAt G i).f0 = 4
    · obtain ⟨r, q, hr, hq, hs, hg⟩ := cho_rel hx hG hw hok hkl (u - 1) hn9 ih (nodeAt G i).f1 hkids' hl a ha0 ha (nodeAt G i).f1.length 0 (Int.le_refl _) (by simp) (-1) (u - 1) (by omega) (Int.le_refl _) rfl
      refine ⟨r, q, Ev.succ (fun k => by rw [vetchref18_Node.f, if_neg hu1, if_pos ⟨hi0, hi⟩, if_neg o0, if_neg o1, if_neg o2, if_neg o3, if_pos o4, hwr]; rfl) hr, Ev.succ (g := fun k => (naive_evaluator_choice.f k R G x (u - 1) (nodeAt G i).f1 a).bind fun t => some (t.1, t.2.1, t.2.2)) (fun k => by rw [naive_evaluator_node.f, if_neg hu1, if_pos hi0, if_pos hi, if_neg o0, if_neg o1, if_neg o2, if_neg o3, if_pos o4, hwr]) (Ev.bind (Ev.succ (fun k => by rw [naive_evaluator_choice.f]) hq) (Ev.const _)), hs, hg⟩
    have hop5 : 5 ≤ (nodeAt G i).f0 := by omega
    have hlen := m5 hop5
    have hne : (nodeAt G i).f1 ≠ [] := fun h => by rw [h] at hlen; simp at hlen
    have hl0 : (0 : Int) < ((nodeAt G i).f1.length : Int) := by omega
    have hkid := hkids' _ (rd_in hx hG hw hok hkl (nodeAt G i).f1 0 (Int.le_refl _) hl0)
    obtain ⟨r, q, hr, hq, hs, hg⟩ := ih (u - 1) (Int.le_refl _) (rd (nodeAt G i).f1 0) a hkid.1 hkid.2 ha0 ha
    obtain ⟨r1, r2, r3⟩ := r
    obtain ⟨q1, q2, q3⟩ := q
    have hsim := hs
    obtain ⟨s1, s2, s3⟩ := hs
    dsimp only at s1 s2 s3
    subst s2
    have stepR : ∀ k, vetchref18_Node.f (k + 1) R G i q2 a u = (vetchref18_Node.f k R G (rd (nodeAt G i).f1 0) q2 a (u - 1)).bind fun r =>
        if r.1 = false then some r else
        if (nodeAt G i).f0 = 7 then (if r.2.1 < 0 then some (true, a, r.2.2) else some r) else
        if (nodeAt G i).f0 = 8 then (if r.2.1 < 0 then some r else some (true, a, r.2.2)) else
        if (nodeAt G i).f0 = 9 then (if r.2.1 < 0 then some (true, a, r.2.2) else some (true, -1, r.2.2)) else
        if r.2.1 < 0 ∧ (nodeAt G i).f0 = 6 then some r else vetchref18_Node.repF (fun a u => vetchref18_Node.f k R G (rd (nodeAt G i).f1 0) q2 a u) k a r := fun k => by
      rw [vetchref18_Node.f, if_neg hu1, if_pos ⟨hi0, hi⟩, if_neg o0, if_neg o1, if_neg o2, if_neg o3, if_neg o4, if_neg hne, hwr]
    have stepN : ∀ {v}, Ev (fun k => naive_evaluator_unary.f k R G q2 (u - 1) (nodeAt G i).f0 (nodeAt G i).f1 (nodeAt G i).f2 (nodeAt G i).f3.f0 (nodeAt G i).f3.f1 (nodeAt G i).f3.f2 (nodeAt G i).f3.f3 a) v → Ev (fun k => naive_evaluator_node.f k R G q2 u i a) v := fun hv =>
      Ev.succ (g := fun k => (naive_evaluator_unary.f k R G q2 (u - 1) (nodeAt G i).f0 (nodeAt G i).f1 (nodeAt G i).f2 (nodeAt G i).f3.f0 (nodeAt G i).f3.f1 (nodeAt G i).f3.f2 (nodeAt G i).f3.f3 a).bind fun t => some (t.1, t.2.1, t.2.2)) (fun k => by rw [naive_evaluator_node.f, if_neg hu1, if_pos hi0, if_pos hi, if_neg o0, if_neg o1, if_neg o2, if_neg o3, if_neg o4, hwr]) (Ev.bind hv (Ev.const _))
    have stepRep : ∀ k, naive_evaluator_repeat.l0 (k + 1) (rd (nodeAt G i).f1 0) a R G q2 (u - 1) = (naive_evaluator_node.f k R G q2 (u - 1) (rd (nodeAt G i).f1 0) a).bind fun t => if t.1 = (-1) then some (a, t.2.1, t.2.2) else if t.1 = (-2) then some ((-2), t.2.1, t.2.2) else naive_evaluator_repeat.l0 k (rd (nodeAt G i).f1 0) t.1 R G t.2.1 t.2.2 := fun k => by
      rw [naive_evaluator_repeat.l0]
    have un5 : ∀ {v}, (nodeAt G i).f0 = 5 → Ev (fun k => naive_evaluator_repeat.l0 k (rd (nodeAt G i).f1 0) a R G q2 (u - 1)) v → Ev (fun k => naive_evaluator_unary.f k R G q2 (u - 1) (nodeAt G i).f0 (nodeAt G i).f1 (nodeAt G i).f2 (nodeAt G i).f3.f0 (nodeAt G i).f3.f1 (nodeAt G i).f3.f2 (nodeAt G i).f3.f3 a) v := fun o5 hv =>
      Ev.succ (g := fun k => (naive_evaluator_repeat.f k R G q2 (u - 1) (rd (nodeAt G i).f1 0) a).bind fun t => some (t.1, t.2.1, t.2.2)) (fun k => by rw [naive_evaluator_unary.f, if_pos o5, if_pos hl0]) (Ev.bind (Ev.succ (fun k => by rw [naive_evaluator_repeat.f]) hv) (Ev.const _))
    have un : (nodeAt G i).f0 ≠ 5 → ∀ k, naive_evaluator_unary.f (k + 1) R G q2 (u - 1) (nodeAt G i).f0 (nodeAt G i).f1 (nodeAt G i).f2 (nodeAt G i).f3.f0 (nodeAt G i).f3.f1 (nodeAt G i).f3.f2 (nodeAt G i).f3.f3 a = (naive_evaluator_node.f k R G q2 (u - 1) (rd (nodeAt G i).f1 0) a).bind fun t =>
        if t.1 = (-2) then some ((-2), t.2.1, t.2.2) else if (nodeAt G i).f0 = 6 then (if t.1 = (-1) then some ((-1), t.2.1, t.2.2) else ((naive_evaluator_repeat.f k R G t.2.1 t.2.2 (rd (nodeAt G i).f1 0) t.1).bind fun t => some (t.1, t.2.1, t.2.2))) else
        if (nodeAt G i).f0 = 7 then some (mx t.1 a, t.2.1, t.2.2) else if (nodeAt G i).f0 = 8 then (if t.1 = (-1) then some ((-1), t.2.1, t.2.2) else some (a, t.2.1, t.2.2)) else (if t.1 = (-1) then some (a, t.2.1, t.2.2) else some ((-1), t.2.1, t.2.2)) := fun h5 k => by
      rw [naive_evaluator_unary.f, if_neg h5, if_pos hl0]
    cases r1 with
    | false =>
      obtain ⟨u1, u2⟩ := hg.unk rfl
      dsimp only at u1 u2
      subst u1 u2
      have e1 : q1 = -2 := by simpa using s1
      subst e1
      refine ⟨(false, 0, 0), (-2, q2, q3), Ev.succ stepR (Ev.bind hr (Ev.of_eq fun _ => if_pos rfl)), stepN ?_, hsim, ⟨fun h => absurd h (by simp), fun _ => ⟨rfl, rfl⟩⟩⟩
      by_cases o5 : (nodeAt G i).f0 = 5
      · exact un5 o5 (Ev.succ stepRep (Ev.bind hq (Ev.of_eq fun _ => by rw [if_neg (by show ¬ (-2 : Int) = -1; decide), if_pos rfl])))
      · exact Ev.succ (un o5) (Ev.bind hq (Ev.of_eq fun _ => if_pos rfl))
    | true =>
      obtain ⟨g1, g2, g3, g4, g5⟩ := hg.known rfl
      dsimp only at g1 g2 g3 g4 g5
      have e1 : q1 = r2 := by simpa using s1
      have e3 := s3 rfl
      subst e1 e3
      have fin : ∀ (e : Int), -1 ≤ e → e ≤ (q2.size : Int) → (0 ≤ e → a ≤ e) → Sim q2 (true, e, q3) (e, q2, q3) ∧ Good q2 a (u - 1) (true, e, q3) := fun e h1 h2 h3 =>
        ⟨⟨by simp, rfl, fun _ => rfl⟩, ⟨fun _ => ⟨g1, by show q3 ≤ u - 1; omega, h1, h2, h3⟩, fun h => absurd h (by simp)⟩⟩
      by_cases o7 : (nodeAt G i).f0 = 7
      · have n5 : (nodeAt G i).f0 ≠ 5 := by omega
        by_cases he : q1 < 0
        · have e : q1 = -1 := by omega
          subst e
          obtain ⟨h1, h2⟩ := fin a (by omega) ha (fun _ => Int.le_refl _)
          exact ⟨_, _, Ev.succ stepR (Ev.bind hr (Ev.of_eq fun _ => by rw [if_neg (by simp), if_pos o7, if_pos he])), stepN (Ev.succ (un n5) (Ev.bind hq (Ev.of_eq fun _ => by rw [if_neg (by show ¬ (-1 : Int) = -2; decide), if_neg (by omega), if_pos o7, show mx (-1) a = a by unfold mx; split <;> omega]))), h1, h2⟩
        · obtain ⟨h1, h2⟩ := fin q1 g3 g4 g5
          exact ⟨_, _, Ev.succ stepR (Ev.bind hr (Ev.of_eq fun _ => by rw [if_neg (by simp), if_pos o7, if_neg he])), stepN (Ev.succ (un n5) (Ev.bind hq (Ev.of_eq fun _ => by rw [if_neg (by show ¬ q1 = -2; omega), if_neg (by omega), if_pos o7, show mx q1 a = q1 by have := g5 (by omega); unfold mx; split <;> omega]))), h1, h2⟩
      by_cases o8 : (nodeAt G i).f0 = 8
      · have n5 : (nodeAt G i).f0 ≠ 5 := by omega
        by_cases he : q1 < 0
        · have e : q1 = -1 := by omega
          subst e
          obtain ⟨h1, h2⟩ := fin (-1) (by omega) (by omega) (fun h => absurd h (by decide))
          exact ⟨_, _, Ev.succ stepR (Ev.bind hr (Ev.of_eq fun _ => by rw [if_neg (by simp), if_neg o7, if_pos o8, if_pos he])), stepN (Ev.succ (un n5) (Ev.bind hq (Ev.of_eq fun _ => by rw [if_neg (by show ¬ (-1 : Int) = -2; decide), if_neg (by omega), if_neg o7, if_pos o8, if_pos rfl]))), h1, h2⟩
        · obtain ⟨h1, h2⟩ := fin a (by omega) ha (fun _ => Int.le_refl _)
          exact ⟨_, _, Ev.succ stepR (Ev.bind hr (Ev.of_eq fun _ => by rw [if_neg (by simp), if_neg o7, if_pos o8, if_neg he])), stepN (Ev.succ (un n5) (Ev.bind hq (Ev.of_eq fun _ => by rw [if_neg (by show ¬ q1 = -2; omega), if_neg (by omega), if_neg o7, if_pos o8, if_neg (by show ¬ q1 = -1; omega)]))), h1, h2⟩
      by_cases o9 : (nodeAt G i).f0 = 9
      · have n5 : (nodeAt G i).f0 ≠ 5 := by omega
        by_cases he : q1 < 0
        · have e : q1 = -1 := by omega
          subst e
          obtain ⟨h1, h2⟩ := fin a (by omega) ha (fun _ => Int.le_refl _)
          exact ⟨_, _, Ev.succ stepR (Ev.bind hr (Ev.of_eq fun _ => by rw [if_neg (by simp), if_neg o7, if_neg o8, if_pos o9, if_pos he])), stepN (Ev.succ (un n5) (Ev.bind hq (Ev.of_eq fun _ => by rw [if_neg (by show ¬ (-1 : Int) = -2; decide), if_neg (by omega), if_neg o7, if_neg o8, if_pos rfl]))), h1, h2⟩
        · obtain ⟨h1, h2⟩ := fin (-1) (by omega) (by omega) (fun h => absurd h (by decide))
          exact ⟨_, _, Ev.succ stepR (Ev.bind hr (Ev.of_eq fun _ => by rw [if_neg (by simp), if_neg o7, if_neg o8, if_pos o9, if_neg he])), stepN (Ev.succ (un n5) (Ev.bind hq (Ev.of_eq fun _ => by rw [if_neg (by show ¬ q1 = -2; omega), if_neg (by omega), if_neg o7, if_neg o8, if_neg (by show ¬ q1 = -1; omega)]))), h1, h2⟩
      by_cases he : q1 < 0
      · have e : q1 = -1 := by omega
        subst e
        by_cases o5 : (nodeAt G i).f0 = 5
        · obtain ⟨h1, h2⟩ := fin a (by omega) ha (fun _ => Int.le_refl _)
          exact ⟨_, _, Ev.succ stepR (Ev.bind hr (Ev.succ (g := fun _ => some (true, a, q3)) (fun k => by rw [if_neg (by simp), if_neg o7, if_neg o8, if_neg o9, if_neg (by omega), vetchref18_Node.repF, if_neg (by simp), if_pos rfl]) (Ev.const _))), stepN (un5 o5 (Ev.succ stepRep (Ev.bind hq (Ev.of_eq fun _ => if_pos rfl)))), h1, h2⟩
        · obtain ⟨h1, h2⟩ := fin (-1) (by omega) (by omega) (fun h => absurd h (by decide))
          have o6 : (nodeAt G i).f0 = 6 := by omega
          exact ⟨_, _, Ev.succ stepR (Ev.bind hr (Ev.of_eq fun _ => by rw [if_neg (by simp), if_neg o7, if_neg o8, if_neg o9, if_pos ⟨he, o6⟩])), stepN (Ev.succ (un o5) (Ev.bind hq (Ev.of_eq fun _ => by rw [if_neg (by show ¬ (-1 : Int) = -2; decide), if_pos o6, if_pos rfl]))), h1, h2⟩
      · obtain ⟨r', q', hr', hq', hs', hg', hp'⟩ := rep_rel hx hG hw hok hkl (u - 1) hn9 ih (rd (nodeAt G i).f1 0) hkid.1 hkid.2 q3.toNat q3 rfl g1 (by omega) q1 (by omega) g4
        have hgood := good_weaken hg' (g5 (by omega)) (show q3 ≤ u - 1 by omega)
        have hrr := hr' 0 a
        refine ⟨r', q', Ev.succ stepR (Ev.bind hr (Ev.congr (fun k => by rw [if_neg (by simp), if_neg o7, if_neg o8, if_neg o9, if_neg (fun h_ => he h_.1)]; rfl) hrr)), stepN ?_, hs', hgood⟩
        by_cases o5 : (nodeAt G i).f0 = 5
        · exact un5 o5 (Ev.succ stepRep (Ev.bind hq (Ev.congr (fun k => by rw [if_neg (by show ¬ q1 = -1; omega), if_neg (by show ¬ q1 = -2; omega)]) hq')))
        · have o6 : (nodeAt G i).f0 = 6 := by omega
          exact Ev.succ (un o5) (Ev.bind hq (Ev.congr (fun k => by rw [if_neg (by show ¬ q1 = -2; omega), if_pos o6, if_neg (by show ¬ q1 = -1; omega)]) (Ev.bind (Ev.succ (fun k => by rw [naive_evaluator_repeat.f]) hq') (Ev.const _))))
end
end Go.Proofs.Ythgedejnpgcacaa.V
namespace Go.Proofs.Ythgedejnpgcacaa.V
open Go.RowKit Go.Proofs.YthgedejnpgcacaaW.PrintWords
set_option linter.unusedVariables false
set_option linter.unusedSimpArgs false
set_option linter.unusedSectionVars false
set_option maxRecDepth 100000 in
theorem awake_ev : Ev (fun k => vetchlaw18_awake.f k) true := Ev.of_mono (k := 40) (fun k => vetchlaw18_awake.mono k) (by kernel_rfl)
theorem few_ev (R : List RuleT) (G : List NodeT) (hR : R.length ≤ maxLen) (hG : G.length ≤ maxLen) : ∃ v, Ev (fun k => vetchref05_Few.f k R G) v ∧ (v = true → R.length ≤ 30 ∧ G.length ≤ 300) := by
  have hG' : G.length ≤ 9223372036854775807 := hG
  have hR' : R.length ≤ 9223372036854775807 := hR
  have l1 : ∀ (n : Nat) (i : Int), 0 ≤ i → i.toNat + n = G.length → ∃ v, Ev (fun k => vetchref05_Few.l1 k i R G) v ∧ (v = true → R.length ≤ 30 ∧ G.length ≤ 300) := by
    intro n
    induction n with
    | zero =>
      intro i h0 hn
      by_cases c : (R.length : Int) ≤ 30
      · exact ⟨_, Ev.succ (g := fun _ => some (decide ((G.length : Int) ≤ 300))) (fun k => by rw [vetchref05_Few.l1, if_neg (by omega), if_pos c]) (Ev.const _), fun h => ⟨by omega, by have := of_decide_eq_true h; omega⟩⟩
      · exact ⟨false, Ev.succ (g := fun _ => some false) (fun k => by rw [vetchref05_Few.l1, if_neg (by omega), if_neg c]) (Ev.const _), fun h => absurd h (by decide)⟩
    | succ n ih =>
      intro i h0 hn
      by_cases c : (((nodeAt G i).f1).length : Int) > 60
      · exact ⟨false, Ev.succ (g := fun _ => some false) (fun k => by rw [vetchref05_Few.l1, if_pos (by omega), if_pos h0, if_pos c]) (Ev.const _), fun h => absurd h (by decide)⟩
      · obtain ⟨v, hv, hs⟩ := ih (i + 1) (by omega) (by omega)
        refine ⟨v, Ev.succ (fun k => by rw [vetchref05_Few.l1, if_pos (by omega), if_pos h0, if_neg c]) ?_, hs⟩
        rw [w64p _ (by omega)]
        exact hv
  have l0 : ∀ (n : Nat) (i : Int), 0 ≤ i → i.toNat + n = R.length → ∃ v, Ev (fun k => vetchref05_Few.l0 k i R G) v ∧ (v = true → R.length ≤ 30 ∧ G.length ≤ 300) := by
    intro n
    induction n with
    | zero =>
      intro i h0 hn
      obtain ⟨v, hv, hs⟩ := l1 G.length 0 (Int.le_refl _) (by simp)
      exact ⟨v, Ev.succ (fun k => by rw [vetchref05_Few.l0, if_neg (by omega)]) hv, hs⟩
    | succ n ih =>
      intro i h0 hn
      by_cases c : (((ruleAt R i).f0).size : Int) > 100
      · exact ⟨false, Ev.succ (g := fun _ => some false) (fun k => by rw [vetchref05_Few.l0, if_pos (by omega), if_pos h0, if_pos c]) (Ev.const _), fun h => absurd h (by decide)⟩
      · obtain ⟨v, hv, hs⟩ := ih (i + 1) (by omega) (by omega)
        refine ⟨v, Ev.succ (fun k => by rw [vetchref05_Few.l0, if_pos (by omega), if_pos h0, if_neg c]) ?_, hs⟩
        rw [w64p _ (by omega)]
        exact hv
  obtain ⟨v, hv, hs⟩ := l0 R.length 0 (Int.le_refl _) (by simp)
  exact ⟨v, hv, hs⟩
section
variable {R : List RuleT} {G : List NodeT} (hR : R.length ≤ maxLen ∧ ∀ y ∈ R, Ok51 y) (hG : G.length ≤ maxLen ∧ ∀ y ∈ G, Ok56 y)
include hR hG
theorem small_ev : ∃ v, Ev (fun k => vetchref05_Small.f k R G) v ∧ (v = true → WF R G ∧ R.length ≤ 30 ∧ G.length ≤ 300) := by
  obtain ⟨b, hb, hbs⟩ := few_ev R G hR.1 hG.1
  cases b with
  | false => exact ⟨false, Ev.bind hb (Ev.of_eq fun _ => if_neg (by decide)), fun h => absurd h (by decide)⟩
  | true =>
    obtain ⟨v, hv, hs⟩ := valid_ev R G hR hG
    exact ⟨v, Ev.bind hb (Ev.congr (fun k => if_pos rfl) (Ev.bind hv (Ev.const _))), fun h => ⟨hs h, hbs rfl⟩⟩
theorem kids_le (hw : WF R G) : ∀ i : Int, 0 ≤ i → i < (G.length : Int) → (nodeAt G i).f1.length ≤ 9223372036854775807 := fun i h0 h1 => (hG.2 _ (rd_mem56 G i h0 h1)).2.1.1
theorem node_ev {x : ByteArray} (hx : x.size ≤ 1000000) (hw : WF R G) (u : Int) (hu : u ≤ 100000000) (i a : Int) (hi0 : 0 ≤ i) (hi : i < (G.length : Int)) (ha0 : 0 ≤ a) (ha : a ≤ (x.size : Int)) :
    ∃ r, Ev (fun k => vetchref18_Node.f k R G i x a u) r ∧ Ev (fun k => naive_Node.f k R G i x a u) r ∧ Good x a (u - 1) r := by
  obtain ⟨r, q, hr, hq, hs, hg⟩ := node_rel hx (by have := hw.nodes; omega) hw hG.2 (kids_le hR hG hw) u.toNat u (by omega) hu i a hi0 hi ha0 ha
  refine ⟨r, hr, Ev.bind hq (Ev.of_eq fun _ => ?_), hg⟩
  obtain ⟨r1, r2, r3⟩ := r
  obtain ⟨q1, q2, q3⟩ := q
  obtain ⟨s1, s2, s3⟩ := hs
  dsimp only at s1 s2 s3 ⊢
  cases r1 with
  | false =>
    obtain ⟨u1, u2⟩ := hg.unk rfl
    dsimp only at u1 u2
    have s1' : q1 = -2 := by simpa using s1
    rw [u1, u2, s1', if_pos rfl]
  | true =>
    obtain ⟨g1, g2, g3, g4, g5⟩ := hg.known rfl
    dsimp only at g1 g2 g3 g4 g5
    have s1' : q1 = r2 := by simpa using s1
    rw [s1', if_neg (by omega), s3 rfl]
theorem run_ev {x : ByteArray} (hx : x.size ≤ 1000000) (hw : WF R G) (u : Int) (hu : u ≤ 100000000) :
    ∃ r, Ev (fun k => vetchref18_Node.f k R G (ruleAt R 0).f1 x 0 u) r ∧ Ev (fun k => naive_Run.f k R G x u) r ∧ Good x 0 (u - 1) r := by
  have h0 : (0 : Int) < (R.length : Int) := by have := hw.rules; omega
  have hr := hw.roots 0 (Int.le_refl _) h0
  obtain ⟨r, h1, h2, h3⟩ := node_ev hR hG hx hw u hu (ruleAt R 0).f1 0 hr.1 hr.2 (Int.le_refl _) (by omega)
  exact ⟨r, h1, Ev.congr (fun k => by unfold naive_Run.f; rw [if_pos h0]) (Ev.bind (g := fun _ t => some (t.1, t.2.1, t.2.2)) h2 (Ev.const _)), h3⟩
end
end Go.Proofs.Ythgedejnpgcacaa.V
namespace Go.Proofs.Ythgedejnpgcacaa.V
open Go.RowKit Go.Proofs.YthgedejnpgcacaaW.PrintWords
set_option linter.unusedVariables false
set_option linter.unusedSectionVars false
inductive Task
  | node (i : Int)
  | seq (cs : List Int)
  | cho (cs : List Int)
  | rep (c : Int)
inductive Run (R : List RuleT) (G : List NodeT) (x : ByteArray) : Task → Int → Int → Int → Int → Prop
  | empty {i a u} : (nodeAt G i).f0 = 0 → 1 ≤ u → Run R G x (.node i) a u a (u - 1)
  | hit {i a u} : (nodeAt G i).f0 = 1 → 1 ≤ u → a < (x.size : Int) → byteset_Has.f (nodeAt G i).f3.f0 (nodeAt G i).f3.f1 (nodeAt G i).f3.f2 (nodeAt G i).f3.f3 (bt x a) = some true → Run R G x (.node i) a u (a + 1) (u - 1)
  | miss {i a u} : (nodeAt G i).f0 = 1 → 1 ≤ u → (a < (x.size : Int) → byteset_Has.f (nodeAt G i).f3.f0 (nodeAt G i).f3.f1 (nodeAt G i).f3.f2 (nodeAt G i).f3.f3 (bt x a) = some false) → Run R G x (.node i) a u (-1) (u - 1)
  | call {i a u e l} : (nodeAt G i).f0 = 2 → 1 ≤ u → Run R G x (.node (ruleAt R (nodeAt G i).f2).f1) a (u - 1) e l → Run R G x (.node i) a u e l
  | seq {i a u e l} : (nodeAt G i).f0 = 3 → 1 ≤ u → Run R G x (.seq (nodeAt G i).f1) a (u - 1) e l → Run R G x (.node i) a u e l
  | cho {i a u e l} : (nodeAt G i).f0 = 4 → 1 ≤ u → Run R G x (.cho (nodeAt G i).f1) a (u - 1) e l → Run R G x (.node i) a u e l
  | star {i a u e l} : (nodeAt G i).f0 = 5 → 1 ≤ u → Run R G x (.rep (rd (nodeAt G i).f1 0)) a (u - 1) e l → Run R G x (.node i) a u e l
  | plusNo {i a u b l} : (nodeAt G i).f0 = 6 → 1 ≤ u → Run R G x (.node (rd (nodeAt G i).f1 0)) a (u - 1) b l → b < 0 → Run R G x (.node i) a u b l
  | plus {i a u b m e l} : (nodeAt G i).f0 = 6 → 1 ≤ u → Run R G x (.node (rd (nodeAt G i).f1 0)) a (u - 1) b m → 0 ≤ b → Run R G x (.rep (rd (nodeAt G i).f1 0)) b m e l → Run R G x (.node i) a u e l
  | optNo {i a u b l} : (nodeAt G i).f0 = 7 → 1 ≤ u → Run R G x (.node (rd (nodeAt G i).f1 0)) a (u - 1) b l → b < 0 → Run R G x (.node i) a u a l
  | opt {i a u b l} : (nodeAt G i).f0 = 7 → 1 ≤ u → Run R G x (.node (rd (nodeAt G i).f1 0)) a (u - 1) b l → 0 ≤ b → Run R G x (.node i) a u b l
  | andNo {i a u b l} : (nodeAt G i).f0 = 8 → 1 ≤ u → Run R G x (.node (rd (nodeAt G i).f1 0)) a (u - 1) b l → b < 0 → Run R G x (.node i) a u b l
  | and {i a u b l} : (nodeAt G i).f0 = 8 → 1 ≤ u → Run R G x (.node (rd (nodeAt G i).f1 0)) a (u - 1) b l → 0 ≤ b → Run R G x (.node i) a u a l
  | notNo {i a u b l} : (nodeAt G i).f0 = 9 → 1 ≤ u → Run R G x (.node (rd (nodeAt G i).f1 0)) a (u - 1) b l → 0 ≤ b → Run R G x (.node i) a u (-1) l
  | not {i a u b l} : (nodeAt G i).f0 = 9 → 1 ≤ u → Run R G x (.node (rd (nodeAt G i).f1 0)) a (u - 1) b l → b < 0 → Run R G x (.node i) a u a l
  | seqNil {a u} : Run R G x (.seq []) a u a u
  | seqNo {c cs a u b l} : Run R G x (.node c) a u b l → b < 0 → Run R G x (.seq (c :: cs)) a u b l
  | seqGo {c cs a u b m e l} : Run R G x (.node c) a u b m → 0 ≤ b → Run R G x (.seq cs) b m e l → Run R G x (.seq (c :: cs)) a u e l
  | choNil {a u} : Run R G x (.cho []) a u (-1) u
  | choYes {c cs a u b l} : Run R G x (.node c) a u b l → 0 ≤ b → Run R G x (.cho (c :: cs)) a u b l
  | choGo {c cs a u b m e l} : Run R G x (.node c) a u b m → b < 0 → Run R G x (.cho cs) a m e l → Run R G x (.cho (c :: cs)) a u e l
  | repEnd {c a u b l} : Run R G x (.node c) a u b l → b < 0 → Run R G x (.rep c) a u a l
  | repGo {c a u b m e l} : Run R G x (.node c) a u b m → 0 ≤ b → Run R G x (.rep c) b m e l → Run R G x (.rep c) a u e l
theorem seqF_cons (F : Int → Int → Int → Option (Bool × Int × Int)) (c : Int) (cs : List Int) (a u : Int) : vetchref18_Node.seqF F (c :: cs) a u = (F c a u).bind fun r => if r.1 = true ∧ 0 ≤ r.2.1 then vetchref18_Node.seqF F cs r.2.1 r.2.2 else some r := rfl
theorem choF_cons (F : Int → Int → Option (Bool × Int × Int)) (c : Int) (cs : List Int) (e u : Int) : vetchref18_Node.choF F (c :: cs) e u = (F c u).bind fun r => if r.1 = true ∧ r.2.1 < 0 then vetchref18_Node.choF F cs r.2.1 r.2.2 else some r := rfl
section
variable {R : List RuleT} {G : List NodeT} {x : ByteArray} (hx : x.size ≤ 1000000) (hG : G.length ≤ 1000000) (hw : WF R G) (hok : ∀ y ∈ G, Ok56 y) (hkl : ∀ i : Int, 0 ≤ i → i < (G.length : Int) → (nodeAt G i).f1.length ≤ 9223372036854775807)
include hx hG hw hok hkl
end
end Go.Proofs.Ythgedejnpgcacaa.V
