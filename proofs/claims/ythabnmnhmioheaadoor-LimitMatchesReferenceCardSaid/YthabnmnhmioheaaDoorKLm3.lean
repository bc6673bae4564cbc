/- The law LimitMatchesReference returns true whatever comes in, and leaves its arguments as they were. No condition. -/
import Derived.Test.YthabnmnhmioheaaDoorKLm2
import Derived.Laws.MathBits
import Derived.KernelRfl
import Derived.Test.YthabnmnhmioheaaDoorCards
import Derived.Test.YthabnmnhmioheaaDoorTie
import Derived.WalkKit
import Derived.ProofKit
import Derived.OpenShut
import Derived.ShutString
import Derived.ChangeOld
import Derived.Below
import Derived.SizedLaws
import Derived.ChangeSame
import Derived.ChangeVars
import Derived.JoinedOf
import Derived.RowKit
import Derived.RowKitTokens
import Derived.LaidLaws
import Derived.LaidHandle
import Derived.Stop.Joined
import Derived.SevenTiedAt
namespace Go.Proofs.YthabnmnhmioheaaDoor.V
open Go.RowKit Go.Proofs.YthabnmnhmioheaaDoorW.PrintWords Go.Proofs.YthabnmnhmioheaaDoorW.PrintLast Go.Proofs.YthabnmnhmioheaaDoorW.PrintMore
attribute [local go_sem] max2_int min2_int max_two min_two max_three min_three max_four min_four tdiv_most
set_option linter.unusedVariables false
set_option linter.unusedSimpArgs false
attribute [local go_sem high] eqA24
def vetchlaw17_LimitMatchesReference.f (k : Nat) (a0 : Int) (a1 : Int) : Option (Bool) := (vetchlaw17_awake.f k).bind fun t167 => (if t167 = true then ((limit_Enough.f k a0 a1).bind fun bt168 => ((vetchref17_Enough.f k a0 a1).bind fun bt172 => ((limit_C.f k a0).bind fun bt176 => ((limit_R.f k a0).bind fun bt178 => ((vetchref17_Times.f k (([8, a0] : List Int))).bind fun bt183 => ((vetchref17_Times.f k (([2, a0] : List Int))).bind fun bt188 => (if bt176.1 = bt183.1 then (if (bt176.2 != bt183.2) = true then (some false) else (if bt178.1 = bt188.1 then (if (bt178.2 != bt188.2) = true then (some false) else (if (!(bt168.1 == bt172.1) || (!(bt168.2.1 == bt172.2.1))) = true then (some false) else ((fault_Code.f k bt168.2.2).bind fun bt190 => (if bt190.1 = bt172.2.2 then (if bt168.2.2.isNone = true then (some (true == (bt172.2.2 == 0))) else (some (false == (bt172.2.2 == 0)))) else (some false))))) else (some false))) else (some false)))))))) else (some false))
set_option maxHeartbeats 8000000 in
set_option maxRecDepth 100000 in
theorem vetchlaw17_LimitMatchesReference.calls (k : Nat) (a0 : Int) (a1 : Int) (r : Bool) (w : World) (hg : w.cell? ⟨0, 0, none⟩ = some (.iface 61 (.agg #[.pointer (some ⟨1, 26, none⟩)]))) (h : vetchlaw17_LimitMatchesReference.f k a0 a1 = some r) :
 Calls Tryd.prog 3 #[.int .i64 a0, .int .i64 a1] w fun e w' => e = .returned (.bool r) ∧ Below w.heap.size w w' := by
 have hu24 := Tryd.underlying24
 have hu26 := Tryd.underlying26
 have hu35 := Tryd.underlying35
 have HB := Aside0.mk (Below.refl w.heap.size w)
 have HG := Aside0.mk hg
 clear hg
 have H : ((vetchlaw17_awake.f k).bind fun t167 => (if t167 = true then ((limit_Enough.f k a0 a1).bind fun bt168 => ((vetchref17_Enough.f k a0 a1).bind fun bt172 => ((limit_C.f k a0).bind fun bt176 => ((limit_R.f k a0).bind fun bt178 => ((vetchref17_Times.f k (([8, a0] : List Int))).bind fun bt183 => ((vetchref17_Times.f k (([2, a0] : List Int))).bind fun bt188 => (if bt176.1 = bt183.1 then (if (bt176.2 != bt183.2) = true then (some false) else (if bt178.1 = bt188.1 then (if (bt178.2 != bt188.2) = true then (some false) else (if (!(bt168.1 == bt172.1) || (!(bt168.2.1 == bt172.2.1))) = true then (some false) else ((fault_Code.f k bt168.2.2).bind fun bt190 => (if bt190.1 = bt172.2.2 then (if bt168.2.2.isNone = true then (some (true == (bt172.2.2 == 0))) else (some (false == (bt172.2.2 == 0)))) else (some false))))) else (some false))) else (some false)))))))) else (some false))) = some r := h
 clear h
 replace H := Option.bind_eq_some_iff.mp H
 obtain ⟨t167, A30, H⟩ := H
 replace H : (if t167 = true then ((limit_Enough.f k a0 a1).bind fun bt168 => ((vetchref17_Enough.f k a0 a1).bind fun bt172 => ((limit_C.f k a0).bind fun bt176 => ((limit_R.f k a0).bind fun bt178 => ((vetchref17_Times.f k (([8, a0] : List Int))).bind fun bt183 => ((vetchref17_Times.f k (([2, a0] : List Int))).bind fun bt188 => (if bt176.1 = bt183.1 then (if (bt176.2 != bt183.2) = true then (some false) else (if bt178.1 = bt188.1 then (if (bt178.2 != bt188.2) = true then (some false) else (if (!(bt168.1 == bt172.1) || (!(bt168.2.1 == bt172.2.1))) = true then (some false) else ((fault_Code.f k bt168.2.2).bind fun bt190 => (if bt190.1 = bt172.2.2 then (if bt168.2.2.isNone = true then (some (true == (bt172.2.2 == 0))) else (some (false == (bt172.2.2 == 0)))) else (some false))))) else (some false))) else (some false)))))))) else (some false)) = some r := H
 have A3 := Aside0.mk A30
 clear A30
 by_cases c4 : t167 = true
 ·
  subst c4
  have H1 : ((limit_Enough.f k a0 a1).bind fun bt168 => ((vetchref17_Enough.f k a0 a1).bind fun bt172 => ((limit_C.f k a0).bind fun bt176 => ((limit_R.f k a0).bind fun bt178 => ((vetchref17_Times.f k (([8, a0] : List Int))).bind fun bt183 => ((vetchref17_Times.f k (([2, a0] : List Int))).bind fun bt188 => (if bt176.1 = bt183.1 then (if (bt176.2 != bt183.2) = true then (some false) else (if bt178.1 = bt188.1 then (if (bt178.2 != bt188.2) = true then (some false) else (if (!(bt168.1 == bt172.1) || (!(bt168.2.1 == bt172.2.1))) = true then (some false) else ((fault_Code.f k bt168.2.2).bind fun bt190 => (if bt190.1 = bt172.2.2 then (if bt168.2.2.isNone = true then (some (true == (bt172.2.2 == 0))) else (some (false == (bt172.2.2 == 0)))) else (some false))))) else (some false))) else (some false)))))))) = some r := by rw [if_pos rfl] at H; exact H
  clear H
  have H := H1
  clear H1
  replace H := Option.bind_eq_some_iff.mp H
  obtain ⟨⟨t168, t169, t170⟩, A50, H⟩ := H
  replace H : ((vetchref17_Enough.f k a0 a1).bind fun bt172 => ((limit_C.f k a0).bind fun bt176 => ((limit_R.f k a0).bind fun bt178 => ((vetchref17_Times.f k (([8, a0] : List Int))).bind fun bt183 => ((vetchref17_Times.f k (([2, a0] : List Int))).bind fun bt188 => (if bt176.1 = bt183.1 then (if (bt176.2 != bt183.2) = true then (some false) else (if bt178.1 = bt188.1 then (if (bt178.2 != bt188.2) = true then (some false) else (if (!(t168 == bt172.1) || (!(t169 == bt172.2.1))) = true then (some false) else ((fault_Code.f k t170).bind fun bt190 => (if bt190.1 = bt172.2.2 then (if t170.isNone = true then (some (true == (bt172.2.2 == 0))) else (some (false == (bt172.2.2 == 0)))) else (some false))))) else (some false))) else (some false))))))) = some r := H
  have A5 := Aside0.mk A50
  clear A50
  replace H := Option.bind_eq_some_iff.mp H
  obtain ⟨⟨t172, t173, t174⟩, A60, H⟩ := H
  replace H : ((limit_C.f k a0).bind fun bt176 => ((limit_R.f k a0).bind fun bt178 => ((vetchref17_Times.f k (([8, a0] : List Int))).bind fun bt183 => ((vetchref17_Times.f k (([2, a0] : List Int))).bind fun bt188 => (if bt176.1 = bt183.1 then (if (bt176.2 != bt183.2) = true then (some false) else (if bt178.1 = bt188.1 then (if (bt178.2 != bt188.2) = true then (some false) else (if (!(t168 == t172) || (!(t169 == t173))) = true then (some false) else ((fault_Code.f k t170).bind fun bt190 => (if bt190.1 = t174 then (if t170.isNone = true then (some (true == (t174 == 0))) else (some (false == (t174 == 0)))) else (some false))))) else (some false))) else (some false)))))) = some r := H
  have A6 := Aside0.mk A60
  clear A60
  replace H := Option.bind_eq_some_iff.mp H
  obtain ⟨⟨t176, t177⟩, A70, H⟩ := H
  replace H : ((limit_R.f k a0).bind fun bt178 => ((vetchref17_Times.f k (([8, a0] : List Int))).bind fun bt183 => ((vetchref17_Times.f k (([2, a0] : List Int))).bind fun bt188 => (if t176 = bt183.1 then (if (t177 != bt183.2) = true then (some false) else (if bt178.1 = bt188.1 then (if (bt178.2 != bt188.2) = true then (some false) else (if (!(t168 == t172) || (!(t169 == t173))) = true then (some false) else ((fault_Code.f k t170).bind fun bt190 => (if bt190.1 = t174 then (if t170.isNone = true then (some (true == (t174 == 0))) else (some (false == (t174 == 0)))) else (some false))))) else (some false))) else (some false))))) = some r := H
  have A7 := Aside0.mk A70
  clear A70
  replace H := Option.bind_eq_some_iff.mp H
  obtain ⟨⟨t178, t179⟩, A80, H⟩ := H
  replace H : ((vetchref17_Times.f k (([8, a0] : List Int))).bind fun bt183 => ((vetchref17_Times.f k (([2, a0] : List Int))).bind fun bt188 => (if t176 = bt183.1 then (if (t177 != bt183.2) = true then (some false) else (if t178 = bt188.1 then (if (t179 != bt188.2) = true then (some false) else (if (!(t168 == t172) || (!(t169 == t173))) = true then (some false) else ((fault_Code.f k t170).bind fun bt190 => (if bt190.1 = t174 then (if t170.isNone = true then (some (true == (t174 == 0))) else (some (false == (t174 == 0)))) else (some false))))) else (some false))) else (some false)))) = some r := H
  have A8 := Aside0.mk A80
  clear A80
  obtain ⟨y180, hy180⟩ : ∃ y_ : List Int, y_ = (([8, a0] : List Int)) := ⟨_, rfl⟩
  replace H : ((vetchref17_Times.f k y180).bind fun bt183 => ((vetchref17_Times.f k (([2, a0] : List Int))).bind fun bt188 => (if t176 = bt183.1 then (if (t177 != bt183.2) = true then (some false) else (if t178 = bt188.1 then (if (t179 != bt188.2) = true then (some false) else (if (!(t168 == t172) || (!(t169 == t173))) = true then (some false) else ((fault_Code.f k t170).bind fun bt190 => (if bt190.1 = t174 then (if t170.isNone = true then (some (true == (t174 == 0))) else (some (false == (t174 == 0)))) else (some false))))) else (some false))) else (some false)))) = some r := by first | (rw [hy180]; with_reducible exact H) | (have H2_ := (Option.bind_some _ _).symm.trans H; rw [hy180]; with_reducible exact H2_) | (have H2_ := (Option.bind_some _ _).symm.trans H; with_reducible exact H2_) | with_reducible exact H | (rw [hy180]; exact H) | exact H
  have Ny180 := Aside0.mk hy180
  clear hy180
  replace H := Option.bind_eq_some_iff.mp H
  obtain ⟨⟨t183, t184⟩, A90, H⟩ := H
  replace H : ((vetchref17_Times.f k (([2, a0] : List Int))).bind fun bt188 => (if t176 = t183 then (if (t177 != t184) = true then (some false) else (if t178 = bt188.1 then (if (t179 != bt188.2) = true then (some false) else (if (!(t168 == t172) || (!(t169 == t173))) = true then (some false) else ((fault_Code.f k t170).bind fun bt190 => (if bt190.1 = t174 then (if t170.isNone = true then (some (true == (t174 == 0))) else (some (false == (t174 == 0)))) else (some false))))) else (some false))) else (some false))) = some r := H
  have A9 := Aside0.mk A90
  clear A90
  obtain ⟨y185, hy185⟩ : ∃ y_ : List Int, y_ = (([2, a0] : List Int)) := ⟨_, rfl⟩
  replace H : ((vetchref17_Times.f k y185).bind fun bt188 => (if t176 = t183 then (if (t177 != t184) = true then (some false) else (if t178 = bt188.1 then (if (t179 != bt188.2) = true then (some false) else (if (!(t168 == t172) || (!(t169 == t173))) = true then (some false) else ((fault_Code.f k t170).bind fun bt190 => (if bt190.1 = t174 then (if t170.isNone = true then (some (true == (t174 == 0))) else (some (false == (t174 == 0)))) else (some false))))) else (some false))) else (some false))) = some r := by first | (rw [hy185]; with_reducible exact H) | (have H2_ := (Option.bind_some _ _).symm.trans H; rw [hy185]; with_reducible exact H2_) | (have H2_ := (Option.bind_some _ _).symm.trans H; with_reducible exact H2_) | with_reducible exact H | (rw [hy185]; exact H) | exact H
  have Ny185 := Aside0.mk hy185
  clear hy185
  replace H := Option.bind_eq_some_iff.mp H
  obtain ⟨⟨t188, t189⟩, A100, H⟩ := H
  replace H : (if t176 = t183 then (if (t177 != t184) = true then (some false) else (if t178 = t188 then (if (t179 != t189) = true then (some false) else (if (!(t168 == t172) || (!(t169 == t173))) = true then (some false) else ((fault_Code.f k t170).bind fun bt190 => (if bt190.1 = t174 then (if t170.isNone = true then (some (true == (t174 == 0))) else (some (false == (t174 == 0)))) else (some false))))) else (some false))) else (some false)) = some r := H
  have A10 := Aside0.mk A100
  clear A100
  by_cases c11 : t176 = t183
  ·
   rw [if_pos c11] at H
   have c11b0 : (t176 == t183) = true := beq_iff_eq.mpr c11
   have c11b1 : (t176 != t183) = false := bne_eq_false_iff_eq.mpr c11
   clear c11
   by_cases c12 : (t177 != t184) = true
   ·
    rw [if_pos c12] at H
    have c12b0 : (t177 != t184) = true := c12
    (try (have c12b1 : decide (t177 = t184) = false := by simpa using c12))
    (try (have c12b2 : (t177 == t184) = false := by simpa using c12))
    (try (have c12b3 : ¬ (t177 = t184) := by simpa using c12))
    clear c12
    obtain rfl := Option.some.inj H
    go_enter Tryd.func3, Tryd.ntmps3
    go_wp2_with (first | ((with_reducible refine gate_callee (f := 4) rfl ?_); refine goesL_ (some 19) rfl rfl Tryd.func4 (by kernel_rfl) rfl #[] rfl (by (try simp only [List.map_toArray, List.map_cons, List.map_nil]); first | done | rfl | (simp only [List.length_drop, List.length_take]; rfl)) ?_; (with_reducible refine (vetchlaw17_awake.calls k  true _ A3.out).mono ?_); rintro e w13 ⟨rfl, hb⟩; refine ⟨_, rfl, ?_⟩; have n0_ := Aside0.mk (below_step (by repeat (first | (with_reducible first | exact HB.out | apply below_alloc | apply pw_below_drewN | apply below_drew1) | exact HB.out)) hb); clear HB; have HB := n0_; clear n0_; (try clear hb); (try clear hb2); (try clear hk); (try clear hi)) | ((with_reducible refine gate_callee (f := 5) rfl ?_); refine goesL_ (some 24) rfl rfl Tryd.func5 (by kernel_rfl) rfl #[.int .i64 a0, .int .i64 a1] rfl (by (try simp only [List.map_toArray, List.map_cons, List.map_nil]); first | done | rfl | (simp only [List.length_drop, List.length_take]; rfl)) ?_; (with_reducible refine (limit_Enough.calls k a0 a1 t168 t169 t170 _ A5.out).mono ?_); rintro e w14 ⟨rfl, hb⟩; refine ⟨_, rfl, ?_⟩; have n0_ := Aside0.mk (below_step (by repeat (first | (with_reducible first | exact HB.out | apply below_alloc | apply pw_below_drewN | apply below_drew1) | exact HB.out)) hb); clear HB; have HB := n0_; clear n0_; (try clear hb); (try clear hb2); (try clear hk); (try clear hi); (try simp only [errW_none, errW_some])) | ((with_reducible refine gate_dst (N := 5) rfl ?_); refine box_event ?hg (N := 5) ?hd (cs := #[.int .i64 0, .int .i64 0]) (t := 24) ?hr ?_; (case hd => rfl); (case hg => rfl); (case hr => first | (go_simp; done) | (go_simp; rfl)); intro gb171 hg w15 hbox hb; have n0_ := Aside0.mk (below_step (by repeat (first | (with_reducible first | exact HB.out | apply below_alloc | apply pw_below_drewN | apply below_drew1) | exact HB.out)) hb); have n1_ := Aside0.mk (hbox); have n2_ := Aside0.mk ((by rw [hg]; exact (below_size (by repeat (first | (with_reducible first | exact HB.out | apply below_alloc | apply pw_below_drewN | apply below_drew1) | exact HB.out))) : w.heap.size ≤ gb171)); have n3_ := Aside0.mk ((by rw [hg]; exact (below_size (by repeat (first | (with_reducible first | exact HB.out | apply below_alloc | apply pw_below_drewN | apply below_drew1) | exact HB.out))) : w.heap.size ≤ gb171)); clear HB; have HB := n0_; have BK171 := n1_; have GW171 := n2_; have GE171 := n3_; clear n0_ n1_ n2_ n3_; clear hb hbox hg; have hcz16_0 : w15.cell? ⟨gb171, 0, none⟩ = some (.int .i64 0) := (blk_cell BK171.out 0).trans rfl; have hcz16_1 : w15.cell? ⟨gb171, 1, none⟩ = some (.int .i64 0) := (blk_cell BK171.out 1).trans rfl; have hfz16_0 := blk_frozen BK171.out 0; have hfz16_1 := blk_frozen BK171.out 1) | ((with_reducible refine gate_callee (f := 6) rfl ?_); refine goesL_ (some 30) rfl rfl Tryd.func6 (by kernel_rfl) rfl #[.int .i64 a0, .int .i64 a1] rfl (by (try simp only [List.map_toArray, List.map_cons, List.map_nil]); first | done | rfl | (simp only [List.length_drop, List.length_take]; rfl)) ?_; (with_reducible refine (vetchref17_Enough.calls k a0 a1 t172 t173 t174 _ A6.out).mono ?_); rintro e w17 ⟨rfl, hb⟩; refine ⟨_, rfl, ?_⟩; have n0_ := Aside0.mk (blk_below (g := gb171) (o := .cells #[.int .i64 t168, .int .i64 t169] 24 (0, 0)) (by (with_reducible repeat (first | refine blk_drewN ?_ _ | refine blk_drew ?_ | refine blk_alloc ?_ _)); refine blk_put (cs := #[.int .i64 t168, .int .i64 0]) ?_ 1 _ rfl; (with_reducible repeat (first | refine blk_drewN ?_ _ | refine blk_drew ?_ | refine blk_alloc ?_ _)); refine blk_put (cs := #[.int .i64 0, .int .i64 0]) ?_ 0 _ rfl; (with_reducible repeat (first | refine blk_drewN ?_ _ | refine blk_drew ?_ | refine blk_alloc ?_ _)); exact BK171.out) hb); have n1_ := Aside0.mk (below_step (by repeat (first | (with_reducible first | exact HB.out | apply below_alloc | apply pw_below_drewN | apply below_drew1 | refine below_set ?_ GE171.out) | exact HB.out)) hb); clear BK171; clear HB; have BK171 := n0_; have HB := n1_; clear n0_ n1_; (try clear hb); (try clear hb2); (try clear hk); (try clear hi)) | ((with_reducible refine gate_dst (N := 7) rfl ?_); refine box_event ?hg (N := 7) ?hd (cs := #[.int .i64 0, .int .i64 0]) (t := 24) ?hr ?_; (case hd => rfl); (case hg => rfl); (case hr => first | (go_simp; done) | (go_simp; rfl)); intro gb175 hg w18 hbox hb; have n0_ := Aside0.mk (blk_below (g := gb171) (o := .cells #[.int .i64 t168, .int .i64 t169] 24 (0, 0)) (by (with_reducible repeat (first | refine blk_drewN ?_ _ | refine blk_drew ?_ | refine blk_alloc ?_ _)); exact BK171.out) hb); have n1_ := Aside0.mk (below_step (by repeat (first | (with_reducible first | exact HB.out | apply below_alloc | apply pw_below_drewN | apply below_drew1 | refine below_set ?_ GE171.out) | exact HB.out)) hb); have n2_ := Aside0.mk (hbox); have n3_ := Aside0.mk ((by rw [hg]; exact (below_size (by repeat (first | (with_reducible first | exact HB.out | apply below_alloc | apply pw_below_drewN | apply below_drew1 | refine below_set ?_ GE171.out) | exact HB.out))) : w.heap.size ≤ gb175)); have n4_ := Aside0.mk ((by rw [hg]; exact (below_size (by repeat (first | (with_reducible first | exact HB.out | apply below_alloc | apply pw_below_drewN | apply below_drew1 | refine below_set ?_ GE171.out) | exact HB.out))) : w.heap.size ≤ gb175)); have n5_ := Aside0.mk ((by rw [hg]; exact Nat.ne_of_lt (blk_lt (g := gb171) (o := .cells #[.int .i64 t168, .int .i64 t169] 24 (0, 0)) (by (with_reducible repeat (first | refine blk_drewN ?_ _ | refine blk_drew ?_ | refine blk_alloc ?_ _)); exact BK171.out)) : gb171 ≠ gb175)); have n6_ := Aside0.mk ((by rw [hg]; exact Nat.ne_of_gt (blk_lt (g := gb171) (o := .cells #[.int .i64 t168, .int .i64 t169] 24 (0, 0)) (by (with_reducible repeat (first | refine blk_drewN ?_ _ | refine blk_drew ?_ | refine blk_alloc ?_ _)); exact BK171.out)) : gb175 ≠ gb171)); clear BK171; clear HB; have BK171 := n0_; have HB := n1_; have BK175 := n2_; have GW175 := n3_; have GE175 := n4_; have NB171_175 := n5_; have NB175_171 := n6_; clear n0_ n1_ n2_ n3_ n4_ n5_ n6_; clear hb hbox hg; have hnb19 := NB175_171.out; have hnc19 := NB171_175.out; have hcz20_0 : w18.cell? ⟨gb175, 0, none⟩ = some (.int .i64 0) := (blk_cell BK175.out 0).trans rfl; have hcz20_1 : w18.cell? ⟨gb175, 1, none⟩ = some (.int .i64 0) := (blk_cell BK175.out 1).trans rfl; have hfz20_0 := blk_frozen BK175.out 0; have hfz20_1 := blk_frozen BK175.out 1) | ((with_reducible refine gate_callee (f := 7) rfl ?_); refine goesL_ (some 35) rfl rfl Tryd.func7 (by kernel_rfl) rfl #[.int .i64 a0] rfl (by (try simp only [List.map_toArray, List.map_cons, List.map_nil]); first | done | rfl | (simp only [List.length_drop, List.length_take]; rfl)) ?_; (with_reducible refine (limit_C.calls k a0 t176 t177 _ A7.out).mono ?_); rintro e w21 ⟨rfl, hb⟩; refine ⟨_, rfl, ?_⟩; have n0_ := Aside0.mk (blk_below (g := gb171) (o := .cells #[.int .i64 t168, .int .i64 t169] 24 (0, 0)) (by (with_reducible repeat (first | refine blk_drewN ?_ _ | refine blk_drew ?_ | refine blk_alloc ?_ _)); refine blk_far ?_ NB171_175.out _; (with_reducible repeat (first | refine blk_drewN ?_ _ | refine blk_drew ?_ | refine blk_alloc ?_ _)); refine blk_far ?_ NB171_175.out _; (with_reducible repeat (first | refine blk_drewN ?_ _ | refine blk_drew ?_ | refine blk_alloc ?_ _)); exact BK171.out) hb); have n1_ := Aside0.mk (blk_below (g := gb175) (o := .cells #[.int .i64 t172, .int .i64 t173] 24 (0, 0)) (by (with_reducible repeat (first | refine blk_drewN ?_ _ | refine blk_drew ?_ | refine blk_alloc ?_ _)); refine blk_put (cs := #[.int .i64 t172, .int .i64 0]) ?_ 1 _ rfl; (with_reducible repeat (first | refine blk_drewN ?_ _ | refine blk_drew ?_ | refine blk_alloc ?_ _)); refine blk_put (cs := #[.int .i64 0, .int .i64 0]) ?_ 0 _ rfl; (with_reducible repeat (first | refine blk_drewN ?_ _ | refine blk_drew ?_ | refine blk_alloc ?_ _)); exact BK175.out) hb); have n2_ := Aside0.mk (below_step (by repeat (first | (with_reducible first | exact HB.out | apply below_alloc | apply pw_below_drewN | apply below_drew1 | refine below_set ?_ GE171.out | refine below_set ?_ GE175.out) | exact HB.out)) hb); clear BK171; clear BK175; clear HB; have BK171 := n0_; have BK175 := n1_; have HB := n2_; clear n0_ n1_ n2_; (try clear hb); (try clear hb2); (try clear hk); (try clear hi)) | ((with_reducible refine gate_callee (f := 8) rfl ?_); refine goesL_ (some 40) rfl rfl Tryd.func8 (by kernel_rfl) rfl #[.int .i64 a0] rfl (by (try simp only [List.map_toArray, List.map_cons, List.map_nil]); first | done | rfl | (simp only [List.length_drop, List.length_take]; rfl)) ?_; (with_reducible refine (limit_R.calls k a0 t178 t179 _ A8.out).mono ?_); rintro e w22 ⟨rfl, hb⟩; refine ⟨_, rfl, ?_⟩; have n0_ := Aside0.mk (blk_below (g := gb171) (o := .cells #[.int .i64 t168, .int .i64 t169] 24 (0, 0)) (by (with_reducible repeat (first | refine blk_drewN ?_ _ | refine blk_drew ?_ | refine blk_alloc ?_ _)); exact BK171.out) hb); have n1_ := Aside0.mk (blk_below (g := gb175) (o := .cells #[.int .i64 t172, .int .i64 t173] 24 (0, 0)) (by (with_reducible repeat (first | refine blk_drewN ?_ _ | refine blk_drew ?_ | refine blk_alloc ?_ _)); exact BK175.out) hb); have n2_ := Aside0.mk (below_step (by repeat (first | (with_reducible first | exact HB.out | apply below_alloc | apply pw_below_drewN | apply below_drew1 | refine below_set ?_ GE171.out | refine below_set ?_ GE175.out) | exact HB.out)) hb); clear BK171; clear BK175; clear HB; have BK171 := n0_; have BK175 := n1_; have HB := n2_; clear n0_ n1_ n2_; (try clear hb); (try clear hb2); (try clear hk); (try clear hi)) | ((with_reducible refine gate_dst (N := 45) rfl ?_); refine Kd.R_lit (Kd.int .i64) _ 3 ?hg (N := 45) ?hd (xs := ([8, a0] : List Int)) (inner := [.int .i64 8, .int .i64 a0]) (ok := fun _ => True) (okp := fun _ => True) ?hr ?hp (fun _ hk => hk) trivial (Below.refl _ _) (Nat.le_refl _) (by simp) ?_; (case hd => rfl); (case hg => rfl); (case hr => first | (go_simp; done) | (go_simp; rfl)); (case hp => exact (Reps.one (show Kd.M (Kd.int .i64) _ _ _ 8 [.int .i64 8] from rfl) (Reps.one (show Kd.M (Kd.int .i64) _ _ _ a0 [.int .i64 a0] from rfl) (Reps.none _ _)))); intro v181 w23 ho24 hb hg_ hnew_; clear hg_ hnew_; (first | rw [← Ny180.out] at ho24 | (simp only [Int.reduceToNat] at ho24; rw [← Ny180.out] at ho24)); have n0_ := Aside0.mk (Kd.R_lower ho24 (below_size (by repeat (first | (with_reducible first | exact HB.out | apply below_alloc | apply pw_below_drewN | apply below_drew1 | refine below_set ?_ GE171.out | refine below_set ?_ GE175.out) | exact HB.out)))); have n1_ := Aside0.mk (blk_below (g := gb171) (o := .cells #[.int .i64 t168, .int .i64 t169] 24 (0, 0)) (by (with_reducible repeat (first | refine blk_drewN ?_ _ | refine blk_drew ?_ | refine blk_alloc ?_ _)); exact BK171.out) hb); have n2_ := Aside0.mk (blk_below (g := gb175) (o := .cells #[.int .i64 t172, .int .i64 t173] 24 (0, 0)) (by (with_reducible repeat (first | refine blk_drewN ?_ _ | refine blk_drew ?_ | refine blk_alloc ?_ _)); exact BK175.out) hb); have n3_ := Aside0.mk (below_step (by repeat (first | (with_reducible first | exact HB.out | apply below_alloc | apply pw_below_drewN | apply below_drew1 | refine below_set ?_ GE171.out | refine below_set ?_ GE175.out) | exact HB.out)) hb); clear BK171; clear BK175; clear HB; have HO182 := n0_; have BK171 := n1_; have BK175 := n2_; have HB := n3_; clear n0_ n1_ n2_ n3_; clear hb ho24; obtain ⟨Ao25, co25, eo25⟩ := Kd.R_slice HO182.out; subst eo25) | ((with_reducible refine gate_callee (f := 9) rfl ?_); refine goesL_ (some 46) rfl rfl Tryd.func9 (by kernel_rfl) rfl #[.slice Ao25 y180.length co25] rfl (by (try simp only [List.map_toArray, List.map_cons, List.map_nil]); first | done | rfl | (simp only [List.length_drop, List.length_take]; rfl)) ?_; (with_reducible refine (vetchref17_Times.calls k _ _ y180 t183 t184 _ ?side1 ?side2 A9.out).mono ?_); (case side1 => repeat (first | exact (Kd.R_reads' HO182.out).2.2 | (with_reducible refine Kd.C_alloc ?_ _) | (with_reducible refine Kd.C_drewN ?_ _) | (with_reducible refine Kd.C_drew ?_))); (case side2 => exact (Kd.R_reads' HO182.out).2.1); rintro e w' ⟨rfl, ⟨nd, rfl⟩⟩; refine ⟨_, rfl, ?_⟩) | ((with_reducible refine gate_dst (N := 51) rfl ?_); refine Kd.R_lit (Kd.int .i64) _ 3 ?hg (N := 51) ?hd (xs := ([2, a0] : List Int)) (inner := [.int .i64 2, .int .i64 a0]) (ok := fun _ => True) (okp := fun _ => True) ?hr ?hp (fun _ hk => hk) trivial (Below.refl _ _) (Nat.le_refl _) (by simp) ?_; (case hd => rfl); (case hg => rfl); (case hr => first | (go_simp; done) | (go_simp; rfl)); (case hp => exact (Reps.one (show Kd.M (Kd.int .i64) _ _ _ 2 [.int .i64 2] from rfl) (Reps.one (show Kd.M (Kd.int .i64) _ _ _ a0 [.int .i64 a0] from rfl) (Reps.none _ _)))); intro v186 w26 ho27 hb hg_ hnew_; clear hg_ hnew_; (first | rw [← Ny185.out] at ho27 | (simp only [Int.reduceToNat] at ho27; rw [← Ny185.out] at ho27)); have n0_ := Aside0.mk (Kd.R_elder' (by (with_reducible repeat (first | apply Kd.R_alloc | apply Kd.R_drewN | apply Kd.R_drew)); exact HO182.out) (Kd.R_base ho27) hb); have n1_ := Aside0.mk (Kd.R_lower (Kd.R_new' ho27 (Kd.R_lt (by (with_reducible repeat (first | apply Kd.R_alloc | apply Kd.R_drewN | apply Kd.R_drew)); exact HO182.out))) (below_size (by repeat (first | (with_reducible first | exact HB.out | apply below_alloc | apply pw_below_drewN | apply below_drew1 | refine below_set ?_ GE171.out | refine below_set ?_ GE175.out) | exact HB.out)))); have n2_ := Aside0.mk (blk_below (g := gb171) (o := .cells #[.int .i64 t168, .int .i64 t169] 24 (0, 0)) (by (with_reducible repeat (first | refine blk_drewN ?_ _ | refine blk_drew ?_ | refine blk_alloc ?_ _)); exact BK171.out) hb); have n3_ := Aside0.mk (blk_below (g := gb175) (o := .cells #[.int .i64 t172, .int .i64 t173] 24 (0, 0)) (by (with_reducible repeat (first | refine blk_drewN ?_ _ | refine blk_drew ?_ | refine blk_alloc ?_ _)); exact BK175.out) hb); have n4_ := Aside0.mk (below_step (by repeat (first | (with_reducible first | exact HB.out | apply below_alloc | apply pw_below_drewN | apply below_drew1 | refine below_set ?_ GE171.out | refine below_set ?_ GE175.out) | exact HB.out)) hb); clear HO182; clear BK171; clear BK175; clear HB; have HO182 := n0_; have HO187 := n1_; have BK171 := n2_; have BK175 := n3_; have HB := n4_; clear n0_ n1_ n2_ n3_ n4_; clear hb ho27; obtain ⟨Ao28, co28, eo28⟩ := Kd.R_slice HO187.out; subst eo28) | ((with_reducible refine gate_callee (f := 9) rfl ?_); refine goesL_ (some 52) rfl rfl Tryd.func9 (by kernel_rfl) rfl #[.slice Ao28 y185.length co28] rfl (by (try simp only [List.map_toArray, List.map_cons, List.map_nil]); first | done | rfl | (simp only [List.length_drop, List.length_take]; rfl)) ?_; (with_reducible refine (vetchref17_Times.calls k _ _ y185 t188 t189 _ ?side1 ?side2 A10.out).mono ?_); (case side1 => repeat (first | exact (Kd.R_reads' HO187.out).2.2 | (with_reducible refine Kd.C_alloc ?_ _) | (with_reducible refine Kd.C_drewN ?_ _) | (with_reducible refine Kd.C_drew ?_))); (case side2 => exact (Kd.R_reads' HO187.out).2.1); rintro e w' ⟨rfl, ⟨nd, rfl⟩⟩; refine ⟨_, rfl, ?_⟩))
    go_ret
    exact ⟨by first | rfl | (simp [errW_none, errW_some] <;> rfl) | (simp [*, errW_none, errW_some] <;> rfl), by repeat (first | (with_reducible first | exact HB.out | apply below_alloc | apply pw_below_drewN | apply below_drew1 | refine below_set ?_ GE171.out | refine below_set ?_ GE175.out) | exact HB.out)⟩
   ·
    rw [if_neg c12] at H
    have c12b0 : (t177 != t184) = false := by simpa using c12
    (try (have c12b1 : decide (t177 = t184) = true := by simpa using c12))
    (try (have c12b2 : (t177 == t184) = true := by simpa using c12))
    clear c12
    by_cases c29 : t178 = t188
    ·
     rw [if_pos c29] at H
     have c29b0 : (t178 == t188) = true := beq_iff_eq.mpr c29
     have c29b1 : (t178 != t188) = false := bne_eq_false_iff_eq.mpr c29
     clear c29
     by_cases c30 : (t179 != t189) = true
     ·
      rw [if_pos c30] at H
      have c30b0 : (t179 != t189) = true := c30
      (try (have c30b1 : decide (t179 = t189) = false := by simpa using c30))
      (try (have c30b2 : (t179 == t189) = false := by simpa using c30))
      (try (have c30b3 : ¬ (t179 = t189) := by simpa using c30))
      clear c30
      obtain rfl := Option.some.inj H
      go_enter Tryd.func3, Tryd.ntmps3
      go_wp2_with (first | ((with_reducible refine gate_callee (f := 4) rfl ?_); refine goesL_ (some 19) rfl rfl Tryd.func4 (by kernel_rfl) rfl #[] rfl (by (try simp only [List.map_toArray, List.map_cons, List.map_nil]); first | done | rfl | (simp only [List.length_drop, List.length_take]; rfl)) ?_; (with_reducible refine (vetchlaw17_awake.calls k  true _ A3.out).mono ?_); rintro e w31 ⟨rfl, hb⟩; refine ⟨_, rfl, ?_⟩; have n0_ := Aside0.mk (below_step (by repeat (first | (with_reducible first | exact HB.out | apply below_alloc | apply pw_below_drewN | apply below_drew1) | exact HB.out)) hb); clear HB; have HB := n0_; clear n0_; (try clear hb); (try clear hb2); (try clear hk); (try clear hi)) | ((with_reducible refine gate_callee (f := 5) rfl ?_); refine goesL_ (some 24) rfl rfl Tryd.func5 (by kernel_rfl) rfl #[.int .i64 a0, .int .i64 a1] rfl (by (try simp only [List.map_toArray, List.map_cons, List.map_nil]); first | done | rfl | (simp only [List.length_drop, List.length_take]; rfl)) ?_; (with_reducible refine (limit_Enough.calls k a0 a1 t168 t169 t170 _ A5.out).mono ?_); rintro e w32 ⟨rfl, hb⟩; refine ⟨_, rfl, ?_⟩; have n0_ := Aside0.mk (below_step (by repeat (first | (with_reducible first | exact HB.out | apply below_alloc | apply pw_below_drewN | apply below_drew1) | exact HB.out)) hb); clear HB; have HB := n0_; clear n0_; (try clear hb); (try clear hb2); (try clear hk); (try clear hi); (try simp only [errW_none, errW_some])) | ((with_reducible refine gate_dst (N := 5) rfl ?_); refine box_event ?hg (N := 5) ?hd (cs := #[.int .i64 0, .int .i64 0]) (t := 24) ?hr ?_; (case hd => rfl); (case hg => rfl); (case hr => first | (go_simp; done) | (go_simp; rfl)); intro gb171 hg w33 hbox hb; have n0_ := Aside0.mk (below_step (by repeat (first | (with_reducible first | exact HB.out | apply below_alloc | apply pw_below_drewN | apply below_drew1) | exact HB.out)) hb); have n1_ := Aside0.mk (hbox); have n2_ := Aside0.mk ((by rw [hg]; exact (below_size (by repeat (first | (with_reducible first | exact HB.out | apply below_alloc | apply pw_below_drewN | apply below_drew1) | exact HB.out))) : w.heap.size ≤ gb171)); have n3_ := Aside0.mk ((by rw [hg]; exact (below_size (by repeat (first | (with_reducible first | exact HB.out | apply below_alloc | apply pw_below_drewN | apply below_drew1) | exact HB.out))) : w.heap.size ≤ gb171)); clear HB; have HB := n0_; have BK171 := n1_; have GW171 := n2_; have GE171 := n3_; clear n0_ n1_ n2_ n3_; clear hb hbox hg; have hcz34_0 : w33.cell? ⟨gb171, 0, none⟩ = some (.int .i64 0) := (blk_cell BK171.out 0).trans rfl; have hcz34_1 : w33.cell? ⟨gb171, 1, none⟩ = some (.int .i64 0) := (blk_cell BK171.out 1).trans rfl; have hfz34_0 := blk_frozen BK171.out 0; have hfz34_1 := blk_frozen BK171.out 1) | ((with_reducible refine gate_callee (f := 6) rfl ?_); refine goesL_ (some 30) rfl rfl Tryd.func6 (by kernel_rfl) rfl #[.int .i64 a0, .int .i64 a1] rfl (by (try simp only [List.map_toArray, List.map_cons, List.map_nil]); first | done | rfl | (simp only [List.length_drop, List.length_take]; rfl)) ?_; (with_reducible refine (vetchref17_Enough.calls k a0 a1 t172 t173 t174 _ A6.out).mono ?_); rintro e w35 ⟨rfl, hb⟩; refine ⟨_, rfl, ?_⟩; have n0_ := Aside0.mk (blk_below (g := gb171) (o := .cells #[.int .i64 t168, .int .i64 t169] 24 (0, 0)) (by (with_reducible repeat (first | refine blk_drewN ?_ _ | refine blk_drew ?_ | refine blk_alloc ?_ _)); refine blk_put (cs := #[.int .i64 t168, .int .i64 0]) ?_ 1 _ rfl; (with_reducible repeat (first | refine blk_drewN ?_ _ | refine blk_drew ?_ | refine blk_alloc ?_ _)); refine blk_put (cs := #[.int .i64 0, .int .i64 0]) ?_ 0 _ rfl; (with_reducible repeat (first | refine blk_drewN ?_ _ | refine blk_drew ?_ | refine blk_alloc ?_ _)); exact BK171.out) hb); have n1_ := Aside0.mk (below_step (by repeat (first | (with_reducible first | exact HB.out | apply below_alloc | apply pw_below_drewN | apply below_drew1 | refine below_set ?_ GE171.out) | exact HB.out)) hb); clear BK171; clear HB; have BK171 := n0_; have HB := n1_; clear n0_ n1_; (try clear hb); (try clear hb2); (try clear hk); (try clear hi)) | ((with_reducible refine gate_dst (N := 7) rfl ?_); refine box_event ?hg (N := 7) ?hd (cs := #[.int .i64 0, .int .i64 0]) (t := 24) ?hr ?_; (case hd => rfl); (case hg => rfl); (case hr => first | (go_simp; done) | (go_simp; rfl)); intro gb175 hg w36 hbox hb; have n0_ := Aside0.mk (blk_below (g := gb171) (o := .cells #[.int .i64 t168, .int .i64 t169] 24 (0, 0)) (by (with_reducible repeat (first | refine blk_drewN ?_ _ | refine blk_drew ?_ | refine blk_alloc ?_ _)); exact BK171.out) hb); have n1_ := Aside0.mk (below_step (by repeat (first | (with_reducible first | exact HB.out | apply below_alloc | apply pw_below_drewN | apply below_drew1 | refine below_set ?_ GE171.out) | exact HB.out)) hb); have n2_ := Aside0.mk (hbox); have n3_ := Aside0.mk ((by rw [hg]; exact (below_size (by repeat (first | (with_reducible first | exact HB.out | apply below_alloc | apply pw_below_drewN | apply below_drew1 | refine below_set ?_ GE171.out) | exact HB.out))) : w.heap.size ≤ gb175)); have n4_ := Aside0.mk ((by rw [hg]; exact (below_size (by repeat (first | (with_reducible first | exact HB.out | apply below_alloc | apply pw_below_drewN | apply below_drew1 | refine below_set ?_ GE171.out) | exact HB.out))) : w.heap.size ≤ gb175)); have n5_ := Aside0.mk ((by rw [hg]; exact Nat.ne_of_lt (blk_lt (g := gb171) (o := .cells #[.int .i64 t168, .int .i64 t169] 24 (0, 0)) (by (with_reducible repeat (first | refine blk_drewN ?_ _ | refine blk_drew ?_ | refine blk_alloc ?_ _)); exact BK171.out)) : gb171 ≠ gb175)); have n6_ := Aside0.mk ((by rw [hg]; exact Nat.ne_of_gt (blk_lt (g := gb171) (o := .cells #[.int .i64 t168, .int .i64 t169] 24 (0, 0)) (by (with_reducible repeat (first | refine blk_drewN ?_ _ | refine blk_drew ?_ | refine blk_alloc ?_ _)); exact BK171.out)) : gb175 ≠ gb171)); clear BK171; clear HB; have BK171 := n0_; have HB := n1_; have BK175 := n2_; have GW175 := n3_; have GE175 := n4_; have NB171_175 := n5_; have NB175_171 := n6_; clear n0_ n1_ n2_ n3_ n4_ n5_ n6_; clear hb hbox hg; have hnb37 := NB175_171.out; have hnc37 := NB171_175.out; have hcz38_0 : w36.cell? ⟨gb175, 0, none⟩ = some (.int .i64 0) := (blk_cell BK175.out 0).trans rfl; have hcz38_1 : w36.cell? ⟨gb175, 1, none⟩ = some (.int .i64 0) := (blk_cell BK175.out 1).trans rfl; have hfz38_0 := blk_frozen BK175.out 0; have hfz38_1 := blk_frozen BK175.out 1) | ((with_reducible refine gate_callee (f := 7) rfl ?_); refine goesL_ (some 35) rfl rfl Tryd.func7 (by kernel_rfl) rfl #[.int .i64 a0] rfl (by (try simp only [List.map_toArray, List.map_cons, List.map_nil]); first | done | rfl | (simp only [List.length_drop, List.length_take]; rfl)) ?_; (with_reducible refine (limit_C.calls k a0 t176 t177 _ A7.out).mono ?_); rintro e w39 ⟨rfl, hb⟩; refine ⟨_, rfl, ?_⟩; have n0_ := Aside0.mk (blk_below (g := gb171) (o := .cells #[.int .i64 t168, .int .i64 t169] 24 (0, 0)) (by (with_reducible repeat (first | refine blk_drewN ?_ _ | refine blk_drew ?_ | refine blk_alloc ?_ _)); refine blk_far ?_ NB171_175.out _; (with_reducible repeat (first | refine blk_drewN ?_ _ | refine blk_drew ?_ | refine blk_alloc ?_ _)); refine blk_far ?_ NB171_175.out _; (with_reducible repeat (first | refine blk_drewN ?_ _ | refine blk_drew ?_ | refine blk_alloc ?_ _)); exact BK171.out) hb); have n1_ := Aside0.mk (blk_below (g := gb175) (o := .cells #[.int .i64 t172, .int .i64 t173] 24 (0, 0)) (by (with_reducible repeat (first | refine blk_drewN ?_ _ | refine blk_drew ?_ | refine blk_alloc ?_ _)); refine blk_put (cs := #[.int .i64 t172, .int .i64 0]) ?_ 1 _ rfl; (with_reducible repeat (first | refine blk_drewN ?_ _ | refine blk_drew ?_ | refine blk_alloc ?_ _)); refine blk_put (cs := #[.int .i64 0, .int .i64 0]) ?_ 0 _ rfl; (with_reducible repeat (first | refine blk_drewN ?_ _ | refine blk_drew ?_ | refine blk_alloc ?_ _)); exact BK175.out) hb); have n2_ := Aside0.mk (below_step (by repeat (first | (with_reducible first | exact HB.out | apply below_alloc | apply pw_below_drewN | apply below_drew1 | refine below_set ?_ GE171.out | refine below_set ?_ GE175.out) | exact HB.out)) hb); clear BK171; clear BK175; clear HB; have BK171 := n0_; have BK175 := n1_; have HB := n2_; clear n0_ n1_ n2_; (try clear hb); (try clear hb2); (try clear hk); (try clear hi)) | ((with_reducible refine gate_callee (f := 8) rfl ?_); refine goesL_ (some 40) rfl rfl Tryd.func8 (by kernel_rfl) rfl #[.int .i64 a0] rfl (by (try simp only [List.map_toArray, List.map_cons, List.map_nil]); first | done | rfl | (simp only [List.length_drop, List.length_take]; rfl)) ?_; (with_reducible refine (limit_R.calls k a0 t178 t179 _ A8.out).mono ?_); rintro e w40 ⟨rfl, hb⟩; refine ⟨_, rfl, ?_⟩; have n0_ := Aside0.mk (blk_below (g := gb171) (o := .cells #[.int .i64 t168, .int .i64 t169] 24 (0, 0)) (by (with_reducible repeat (first | refine blk_drewN ?_ _ | refine blk_drew ?_ | refine blk_alloc ?_ _)); exact BK171.out) hb); have n1_ := Aside0.mk (blk_below (g := gb175) (o := .cells #[.int .i64 t172, .int .i64 t173] 24 (0, 0)) (by (with_reducible repeat (first | refine blk_drewN ?_ _ | refine blk_drew ?_ | refine blk_alloc ?_ _)); exact BK175.out) hb); have n2_ := Aside0.mk (below_step (by repeat (first | (with_reducible first | exact HB.out | apply below_alloc | apply pw_below_drewN | apply below_drew1 | refine below_set ?_ GE171.out | refine below_set ?_ GE175.out) | exact HB.out)) hb); clear BK171; clear BK175; clear HB; have BK171 := n0_; have BK175 := n1_; have HB := n2_; clear n0_ n1_ n2_; (try clear hb); (try clear hb2); (try clear hk); (try clear hi)) | ((with_reducible refine gate_dst (N := 45) rfl ?_); refine Kd.R_lit (Kd.int .i64) _ 3 ?hg (N := 45) ?hd (xs := ([8, a0] : List Int)) (inner := [.int .i64 8, .int .i64 a0]) (ok := fun _ => True) (okp := fun _ => True) ?hr ?hp (fun _ hk => hk) trivial (Below.refl _ _) (Nat.le_refl _) (by simp) ?_; (case hd => rfl); (case hg => rfl); (case hr => first | (go_simp; done) | (go_simp; rfl)); (case hp => exact (Reps.one (show Kd.M (Kd.int .i64) _ _ _ 8 [.int .i64 8] from rfl) (Reps.one (show Kd.M (Kd.int .i64) _ _ _ a0 [.int .i64 a0] from rfl) (Reps.none _ _)))); intro v181 w41 ho42 hb hg_ hnew_; clear hg_ hnew_; (first | rw [← Ny180.out] at ho42 | (simp only [Int.reduceToNat] at ho42; rw [← Ny180.out] at ho42)); have n0_ := Aside0.mk (Kd.R_lower ho42 (below_size (by repeat (first | (with_reducible first | exact HB.out | apply below_alloc | apply pw_below_drewN | apply below_drew1 | refine below_set ?_ GE171.out | refine below_set ?_ GE175.out) | exact HB.out)))); have n1_ := Aside0.mk (blk_below (g := gb171) (o := .cells #[.int .i64 t168, .int .i64 t169] 24 (0, 0)) (by (with_reducible repeat (first | refine blk_drewN ?_ _ | refine blk_drew ?_ | refine blk_alloc ?_ _)); exact BK171.out) hb); have n2_ := Aside0.mk (blk_below (g := gb175) (o := .cells #[.int .i64 t172, .int .i64 t173] 24 (0, 0)) (by (with_reducible repeat (first | refine blk_drewN ?_ _ | refine blk_drew ?_ | refine blk_alloc ?_ _)); exact BK175.out) hb); have n3_ := Aside0.mk (below_step (by repeat (first | (with_reducible first | exact HB.out | apply below_alloc | apply pw_below_drewN | apply below_drew1 | refine below_set ?_ GE171.out | refine below_set ?_ GE175.out) | exact HB.out)) hb); clear BK171; clear BK175; clear HB; have HO182 := n0_; have BK171 := n1_; have BK175 := n2_; have HB := n3_; clear n0_ n1_ n2_ n3_; clear hb ho42; obtain ⟨Ao43, co43, eo43⟩ := Kd.R_slice HO182.out; subst eo43) | ((with_reducible refine gate_callee (f := 9) rfl ?_); refine goesL_ (some 46) rfl rfl Tryd.func9 (by kernel_rfl) rfl #[.slice Ao43 y180.length co43] rfl (by (try simp only [List.map_toArray, List.map_cons, List.map_nil]); first | done | rfl | (simp only [List.length_drop, List.length_take]; rfl)) ?_; (with_reducible refine (vetchref17_Times.calls k _ _ y180 t183 t184 _ ?side1 ?side2 A9.out).mono ?_); (case side1 => repeat (first | exact (Kd.R_reads' HO182.out).2.2 | (with_reducible refine Kd.C_alloc ?_ _) | (with_reducible refine Kd.C_drewN ?_ _) | (with_reducible refine Kd.C_drew ?_))); (case side2 => exact (Kd.R_reads' HO182.out).2.1); rintro e w' ⟨rfl, ⟨nd, rfl⟩⟩; refine ⟨_, rfl, ?_⟩) | ((with_reducible refine gate_dst (N := 51) rfl ?_); refine Kd.R_lit (Kd.int .i64) _ 3 ?hg (N := 51) ?hd (xs := ([2, a0] : List Int)) (inner := [.int .i64 2, .int .i64 a0]) (ok := fun _ => True) (okp := fun _ => True) ?hr ?hp (fun _ hk => hk) trivial (Below.refl _ _) (Nat.le_refl _) (by simp) ?_; (case hd => rfl); (case hg => rfl); (case hr => first | (go_simp; done) | (go_simp; rfl)); (case hp => exact (Reps.one (show Kd.M (Kd.int .i64) _ _ _ 2 [.int .i64 2] from rfl) (Reps.one (show Kd.M (Kd.int .i64) _ _ _ a0 [.int .i64 a0] from rfl) (Reps.none _ _)))); intro v186 w44 ho45 hb hg_ hnew_; clear hg_ hnew_; (first | rw [← Ny185.out] at ho45 | (simp only [Int.reduceToNat] at ho45; rw [← Ny185.out] at ho45)); have n0_ := Aside0.mk (Kd.R_elder' (by (with_reducible repeat (first | apply Kd.R_alloc | apply Kd.R_drewN | apply Kd.R_drew)); exact HO182.out) (Kd.R_base ho45) hb); have n1_ := Aside0.mk (Kd.R_lower (Kd.R_new' ho45 (Kd.R_lt (by (with_reducible repeat (first | apply Kd.R_alloc | apply Kd.R_drewN | apply Kd.R_drew)); exact HO182.out))) (below_size (by repeat (first | (with_reducible first | exact HB.out | apply below_alloc | apply pw_below_drewN | apply below_drew1 | refine below_set ?_ GE171.out | refine below_set ?_ GE175.out) | exact HB.out)))); have n2_ := Aside0.mk (blk_below (g := gb171) (o := .cells #[.int .i64 t168, .int .i64 t169] 24 (0, 0)) (by (with_reducible repeat (first | refine blk_drewN ?_ _ | refine blk_drew ?_ | refine blk_alloc ?_ _)); exact BK171.out) hb); have n3_ := Aside0.mk (blk_below (g := gb175) (o := .cells #[.int .i64 t172, .int .i64 t173] 24 (0, 0)) (by (with_reducible repeat (first | refine blk_drewN ?_ _ | refine blk_drew ?_ | refine blk_alloc ?_ _)); exact BK175.out) hb); have n4_ := Aside0.mk (below_step (by repeat (first | (with_reducible first | exact HB.out | apply below_alloc | apply pw_below_drewN | apply below_drew1 | refine below_set ?_ GE171.out | refine below_set ?_ GE175.out) | exact HB.out)) hb); clear HO182; clear BK171; clear BK175; clear HB; have HO182 := n0_; have HO187 := n1_; have BK171 := n2_; have BK175 := n3_; have HB := n4_; clear n0_ n1_ n2_ n3_ n4_; clear hb ho45; obtain ⟨Ao46, co46, eo46⟩ := Kd.R_slice HO187.out; subst eo46) | ((with_reducible refine gate_callee (f := 9) rfl ?_); refine goesL_ (some 52) rfl rfl Tryd.func9 (by kernel_rfl) rfl #[.slice Ao46 y185.length co46] rfl (by (try simp only [List.map_toArray, List.map_cons, List.map_nil]); first | done | rfl | (simp only [List.length_drop, List.length_take]; rfl)) ?_; (with_reducible refine (vetchref17_Times.calls k _ _ y185 t188 t189 _ ?side1 ?side2 A10.out).mono ?_); (case side1 => repeat (first | exact (Kd.R_reads' HO187.out).2.2 | (with_reducible refine Kd.C_alloc ?_ _) | (with_reducible refine Kd.C_drewN ?_ _) | (with_reducible refine Kd.C_drew ?_))); (case side2 => exact (Kd.R_reads' HO187.out).2.1); rintro e w' ⟨rfl, ⟨nd, rfl⟩⟩; refine ⟨_, rfl, ?_⟩))
      go_ret
      exact ⟨by first | rfl | (simp [errW_none, errW_some] <;> rfl) | (simp [*, errW_none, errW_some] <;> rfl), by repeat (first | (with_reducible first | exact HB.out | apply below_alloc | apply pw_below_drewN | apply below_drew1 | refine below_set ?_ GE171.out | refine below_set ?_ GE175.out) | exact HB.out)⟩
     ·
      rw [if_neg c30] at H
      have c30b0 : (t179 != t189) = false := by simpa using c30
      (try (have c30b1 : decide (t179 = t189) = true := by simpa using c30))
      (try (have c30b2 : (t179 == t189) = true := by simpa using c30))
      clear c30
      have HC47 := Aside0.mk H
      clear H
      go_enter Tryd.func3, Tryd.ntmps3
      go_upto_if 77 with (first | ((with_reducible refine gate_callee (f := 4) rfl ?_); refine goesL_ (some 19) rfl rfl Tryd.func4 (by kernel_rfl) rfl #[] rfl (by (try simp only [List.map_toArray, List.map_cons, List.map_nil]); first | done | rfl | (simp only [List.length_drop, List.length_take]; rfl)) ?_; (with_reducible refine (vetchlaw17_awake.calls k  true _ A3.out).mono ?_); rintro e w48 ⟨rfl, hb⟩; refine ⟨_, rfl, ?_⟩; have n0_ := Aside0.mk (below_step (by repeat (first | (with_reducible first | exact HB.out | apply below_alloc | apply pw_below_drewN | apply below_drew1) | exact HB.out)) hb); clear HB; have HB := n0_; clear n0_; (try clear hb); (try clear hb2); (try clear hk); (try clear hi)) | ((with_reducible refine gate_callee (f := 5) rfl ?_); refine goesL_ (some 24) rfl rfl Tryd.func5 (by kernel_rfl) rfl #[.int .i64 a0, .int .i64 a1] rfl (by (try simp only [List.map_toArray, List.map_cons, List.map_nil]); first | done | rfl | (simp only [List.length_drop, List.length_take]; rfl)) ?_; (with_reducible refine (limit_Enough.calls k a0 a1 t168 t169 t170 _ A5.out).mono ?_); rintro e w49 ⟨rfl, hb⟩; refine ⟨_, rfl, ?_⟩; have n0_ := Aside0.mk (below_step (by repeat (first | (with_reducible first | exact HB.out | apply below_alloc | apply pw_below_drewN | apply below_drew1) | exact HB.out)) hb); clear HB; have HB := n0_; clear n0_; (try clear hb); (try clear hb2); (try clear hk); (try clear hi); (try simp only [errW_none, errW_some])) | ((with_reducible refine gate_dst (N := 5) rfl ?_); refine box_event ?hg (N := 5) ?hd (cs := #[.int .i64 0, .int .i64 0]) (t := 24) ?hr ?_; (case hd => rfl); (case hg => rfl); (case hr => first | (go_simp; done) | (go_simp; rfl)); intro gb171 hg w50 hbox hb; have n0_ := Aside0.mk (below_step (by repeat (first | (with_reducible first | exact HB.out | apply below_alloc | apply pw_below_drewN | apply below_drew1) | exact HB.out)) hb); have n1_ := Aside0.mk (hbox); have n2_ := Aside0.mk ((by rw [hg]; exact (below_size (by repeat (first | (with_reducible first | exact HB.out | apply below_alloc | apply pw_below_drewN | apply below_drew1) | exact HB.out))) : w.heap.size ≤ gb171)); have n3_ := Aside0.mk ((by rw [hg]; exact (below_size (by repeat (first | (with_reducible first | exact HB.out | apply below_alloc | apply pw_below_drewN | apply below_drew1) | exact HB.out))) : w.heap.size ≤ gb171)); clear HB; have HB := n0_; have BK171 := n1_; have GW171 := n2_; have GE171 := n3_; clear n0_ n1_ n2_ n3_; clear hb hbox hg; have hcz51_0 : w50.cell? ⟨gb171, 0, none⟩ = some (.int .i64 0) := (blk_cell BK171.out 0).trans rfl; have hcz51_1 : w50.cell? ⟨gb171, 1, none⟩ = some (.int .i64 0) := (blk_cell BK171.out 1).trans rfl; have hfz51_0 := blk_frozen BK171.out 0; have hfz51_1 := blk_frozen BK171.out 1) | ((with_reducible refine gate_callee (f := 6) rfl ?_); refine goesL_ (some 30) rfl rfl Tryd.func6 (by kernel_rfl) rfl #[.int .i64 a0, .int .i64 a1] rfl (by (try simp only [List.map_toArray, List.map_cons, List.map_nil]); first | done | rfl | (simp only [List.length_drop, List.length_take]; rfl)) ?_; (with_reducible refine (vetchref17_Enough.calls k a0 a1 t172 t173 t174 _ A6.out).mono ?_); rintro e w52 ⟨rfl, hb⟩; refine ⟨_, rfl, ?_⟩; have n0_ := Aside0.mk (blk_below (g := gb171) (o := .cells #[.int .i64 t168, .int .i64 t169] 24 (0, 0)) (by (with_reducible repeat (first | refine blk_drewN ?_ _ | refine blk_drew ?_ | refine blk_alloc ?_ _)); refine blk_put (cs := #[.int .i64 t168, .int .i64 0]) ?_ 1 _ rfl; (with_reducible repeat (first | refine blk_drewN ?_ _ | refine blk_drew ?_ | refine blk_alloc ?_ _)); refine blk_put (cs := #[.int .i64 0, .int .i64 0]) ?_ 0 _ rfl; (with_reducible repeat (first | refine blk_drewN ?_ _ | refine blk_drew ?_ | refine blk_alloc ?_ _)); exact BK171.out) hb); have n1_ := Aside0.mk (below_step (by repeat (first | (with_reducible first | exact HB.out | apply below_alloc | apply pw_below_drewN | apply below_drew1 | refine below_set ?_ GE171.out) | exact HB.out)) hb); clear BK171; clear HB; have BK171 := n0_; have HB := n1_; clear n0_ n1_; (try clear hb); (try clear hb2); (try clear hk); (try clear hi)) | ((with_reducible refine gate_dst (N := 7) rfl ?_); refine box_event ?hg (N := 7) ?hd (cs := #[.int .i64 0, .int .i64 0]) (t := 24) ?hr ?_; (case hd => rfl); (case hg => rfl); (case hr => first | (go_simp; done) | (go_simp; rfl)); intro gb175 hg w53 hbox hb; have n0_ := Aside0.mk (blk_below (g := gb171) (o := .cells #[.int .i64 t168, .int .i64 t169] 24 (0, 0)) (by (with_reducible repeat (first | refine blk_drewN ?_ _ | refine blk_drew ?_ | refine blk_alloc ?_ _)); exact BK171.out) hb); have n1_ := Aside0.mk (below_step (by repeat (first | (with_reducible first | exact HB.out | apply below_alloc | apply pw_below_drewN | apply below_drew1 | refine below_set ?_ GE171.out) | exact HB.out)) hb); have n2_ := Aside0.mk (hbox); have n3_ := Aside0.mk ((by rw [hg]; exact (below_size (by repeat (first | (with_reducible first | exact HB.out | apply below_alloc | apply pw_below_drewN | apply below_drew1 | refine below_set ?_ GE171.out) | exact HB.out))) : w.heap.size ≤ gb175)); have n4_ := Aside0.mk ((by rw [hg]; exact (below_size (by repeat (first | (with_reducible first | exact HB.out | apply below_alloc | apply pw_below_drewN | apply below_drew1 | refine below_set ?_ GE171.out) | exact HB.out))) : w.heap.size ≤ gb175)); have n5_ := Aside0.mk ((by rw [hg]; exact Nat.ne_of_lt (blk_lt (g := gb171) (o := .cells #[.int .i64 t168, .int .i64 t169] 24 (0, 0)) (by (with_reducible repeat (first | refine blk_drewN ?_ _ | refine blk_drew ?_ | refine blk_alloc ?_ _)); exact BK171.out)) : gb171 ≠ gb175)); have n6_ := Aside0.mk ((by rw [hg]; exact Nat.ne_of_gt (blk_lt (g := gb171) (o := .cells #[.int .i64 t168, .int .i64 t169] 24 (0, 0)) (by (with_reducible repeat (first | refine blk_drewN ?_ _ | refine blk_drew ?_ | refine blk_alloc ?_ _)); exact BK171.out)) : gb175 ≠ gb171)); clear BK171; clear HB; have BK171 := n0_; have HB := n1_; have BK175 := n2_; have GW175 := n3_; have GE175 := n4_; have NB171_175 := n5_; have NB175_171 := n6_; clear n0_ n1_ n2_ n3_ n4_ n5_ n6_; clear hb hbox hg; have hnb54 := NB175_171.out; have hnc54 := NB171_175.out; have hcz55_0 : w53.cell? ⟨gb175, 0, none⟩ = some (.int .i64 0) := (blk_cell BK175.out 0).trans rfl; have hcz55_1 : w53.cell? ⟨gb175, 1, none⟩ = some (.int .i64 0) := (blk_cell BK175.out 1).trans rfl; have hfz55_0 := blk_frozen BK175.out 0; have hfz55_1 := blk_frozen BK175.out 1) | ((with_reducible refine gate_callee (f := 7) rfl ?_); refine goesL_ (some 35) rfl rfl Tryd.func7 (by kernel_rfl) rfl #[.int .i64 a0] rfl (by (try simp only [List.map_toArray, List.map_cons, List.map_nil]); first | done | rfl | (simp only [List.length_drop, List.length_take]; rfl)) ?_; (with_reducible refine (limit_C.calls k a0 t176 t177 _ A7.out).mono ?_); rintro e w56 ⟨rfl, hb⟩; refine ⟨_, rfl, ?_⟩; have n0_ := Aside0.mk (blk_below (g := gb171) (o := .cells #[.int .i64 t168, .int .i64 t169] 24 (0, 0)) (by (with_reducible repeat (first | refine blk_drewN ?_ _ | refine blk_drew ?_ | refine blk_alloc ?_ _)); refine blk_far ?_ NB171_175.out _; (with_reducible repeat (first | refine blk_drewN ?_ _ | refine blk_drew ?_ | refine blk_alloc ?_ _)); refine blk_far ?_ NB171_175.out _; (with_reducible repeat (first | refine blk_drewN ?_ _ | refine blk_drew ?_ | refine blk_alloc ?_ _)); exact BK171.out) hb); have n1_ := Aside0.mk (blk_below (g := gb175) (o := .cells #[.int .i64 t172, .int .i64 t173] 24 (0, 0)) (by (with_reducible repeat (first | refine blk_drewN ?_ _ | refine blk_drew ?_ | refine blk_alloc ?_ _)); refine blk_put (cs := #[.int .i64 t172, .int .i64 0]) ?_ 1 _ rfl; (with_reducible repeat (first | refine blk_drewN ?_ _ | refine blk_drew ?_ | refine blk_alloc ?_ _)); refine blk_put (cs := #[.int .i64 0, .int .i64 0]) ?_ 0 _ rfl; (with_reducible repeat (first | refine blk_drewN ?_ _ | refine blk_drew ?_ | refine blk_alloc ?_ _)); exact BK175.out) hb); have n2_ := Aside0.mk (below_step (by repeat (first | (with_reducible first | exact HB.out | apply below_alloc | apply pw_below_drewN | apply below_drew1 | refine below_set ?_ GE171.out | refine below_set ?_ GE175.out) | exact HB.out)) hb); clear BK171; clear BK175; clear HB; have BK171 := n0_; have BK175 := n1_; have HB := n2_; clear n0_ n1_ n2_; (try clear hb); (try clear hb2); (try clear hk); (try clear hi)) | ((with_reducible refine gate_callee (f := 8) rfl ?_); refine goesL_ (some 40) rfl rfl Tryd.func8 (by kernel_rfl) rfl #[.int .i64 a0] rfl (by (try simp only [List.map_toArray, List.map_cons, List.map_nil]); first | done | rfl | (simp only [List.length_drop, List.length_take]; rfl)) ?_; (with_reducible refine (limit_R.calls k a0 t178 t179 _ A8.out).mono ?_); rintro e w57 ⟨rfl, hb⟩; refine ⟨_, rfl, ?_⟩; have n0_ := Aside0.mk (blk_below (g := gb171) (o := .cells #[.int .i64 t168, .int .i64 t169] 24 (0, 0)) (by (with_reducible repeat (first | refine blk_drewN ?_ _ | refine blk_drew ?_ | refine blk_alloc ?_ _)); exact BK171.out) hb); have n1_ := Aside0.mk (blk_below (g := gb175) (o := .cells #[.int .i64 t172, .int .i64 t173] 24 (0, 0)) (by (with_reducible repeat (first | refine blk_drewN ?_ _ | refine blk_drew ?_ | refine blk_alloc ?_ _)); exact BK175.out) hb); have n2_ := Aside0.mk (below_step (by repeat (first | (with_reducible first | exact HB.out | apply below_alloc | apply pw_below_drewN | apply below_drew1 | refine below_set ?_ GE171.out | refine below_set ?_ GE175.out) | exact HB.out)) hb); clear BK171; clear BK175; clear HB; have BK171 := n0_; have BK175 := n1_; have HB := n2_; clear n0_ n1_ n2_; (try clear hb); (try clear hb2); (try clear hk); (try clear hi)) | ((with_reducible refine gate_dst (N := 45) rfl ?_); refine Kd.R_lit (Kd.int .i64) _ 3 ?hg (N := 45) ?hd (xs := ([8, a0] : List Int)) (inner := [.int .i64 8, .int .i64 a0]) (ok := fun _ => True) (okp := fun _ => True) ?hr ?hp (fun _ hk => hk) trivial (Below.refl _ _) (Nat.le_refl _) (by simp) ?_; (case hd => rfl); (case hg => rfl); (case hr => first | (go_simp; done) | (go_simp; rfl)); (case hp => exact (Reps.one (show Kd.M (Kd.int .i64) _ _ _ 8 [.int .i64 8] from rfl) (Reps.one (show Kd.M (Kd.int .i64) _ _ _ a0 [.int .i64 a0] from rfl) (Reps.none _ _)))); intro v181 w58 ho59 hb hg_ hnew_; clear hg_ hnew_; (first | rw [← Ny180.out] at ho59 | (simp only [Int.reduceToNat] at ho59; rw [← Ny180.out] at ho59)); have n0_ := Aside0.mk (Kd.R_lower ho59 (below_size (by repeat (first | (with_reducible first | exact HB.out | apply below_alloc | apply pw_below_drewN | apply below_drew1 | refine below_set ?_ GE171.out | refine below_set ?_ GE175.out) | exact HB.out)))); have n1_ := Aside0.mk (blk_below (g := gb171) (o := .cells #[.int .i64 t168, .int .i64 t169] 24 (0, 0)) (by (with_reducible repeat (first | refine blk_drewN ?_ _ | refine blk_drew ?_ | refine blk_alloc ?_ _)); exact BK171.out) hb); have n2_ := Aside0.mk (blk_below (g := gb175) (o := .cells #[.int .i64 t172, .int .i64 t173] 24 (0, 0)) (by (with_reducible repeat (first | refine blk_drewN ?_ _ | refine blk_drew ?_ | refine blk_alloc ?_ _)); exact BK175.out) hb); have n3_ := Aside0.mk (below_step (by repeat (first | (with_reducible first | exact HB.out | apply below_alloc | apply pw_below_drewN | apply below_drew1 | refine below_set ?_ GE171.out | refine below_set ?_ GE175.out) | exact HB.out)) hb); clear BK171; clear BK175; clear HB; have HO182 := n0_; have BK171 := n1_; have BK175 := n2_; have HB := n3_; clear n0_ n1_ n2_ n3_; clear hb ho59; obtain ⟨Ao60, co60, eo60⟩ := Kd.R_slice HO182.out; subst eo60) | ((with_reducible refine gate_callee (f := 9) rfl ?_); refine goesL_ (some 46) rfl rfl Tryd.func9 (by kernel_rfl) rfl #[.slice Ao60 y180.length co60] rfl (by (try simp only [List.map_toArray, List.map_cons, List.map_nil]); first | done | rfl | (simp only [List.length_drop, List.length_take]; rfl)) ?_; (with_reducible refine (vetchref17_Times.calls k _ _ y180 t183 t184 _ ?side1 ?side2 A9.out).mono ?_); (case side1 => repeat (first | exact (Kd.R_reads' HO182.out).2.2 | (with_reducible refine Kd.C_alloc ?_ _) | (with_reducible refine Kd.C_drewN ?_ _) | (with_reducible refine Kd.C_drew ?_))); (case side2 => exact (Kd.R_reads' HO182.out).2.1); rintro e w' ⟨rfl, ⟨nd, rfl⟩⟩; refine ⟨_, rfl, ?_⟩) | ((with_reducible refine gate_dst (N := 51) rfl ?_); refine Kd.R_lit (Kd.int .i64) _ 3 ?hg (N := 51) ?hd (xs := ([2, a0] : List Int)) (inner := [.int .i64 2, .int .i64 a0]) (ok := fun _ => True) (okp := fun _ => True) ?hr ?hp (fun _ hk => hk) trivial (Below.refl _ _) (Nat.le_refl _) (by simp) ?_; (case hd => rfl); (case hg => rfl); (case hr => first | (go_simp; done) | (go_simp; rfl)); (case hp => exact (Reps.one (show Kd.M (Kd.int .i64) _ _ _ 2 [.int .i64 2] from rfl) (Reps.one (show Kd.M (Kd.int .i64) _ _ _ a0 [.int .i64 a0] from rfl) (Reps.none _ _)))); intro v186 w61 ho62 hb hg_ hnew_; clear hg_ hnew_; (first | rw [← Ny185.out] at ho62 | (simp only [Int.reduceToNat] at ho62; rw [← Ny185.out] at ho62)); have n0_ := Aside0.mk (Kd.R_elder' (by (with_reducible repeat (first | apply Kd.R_alloc | apply Kd.R_drewN | apply Kd.R_drew)); exact HO182.out) (Kd.R_base ho62) hb); have n1_ := Aside0.mk (Kd.R_lower (Kd.R_new' ho62 (Kd.R_lt (by (with_reducible repeat (first | apply Kd.R_alloc | apply Kd.R_drewN | apply Kd.R_drew)); exact HO182.out))) (below_size (by repeat (first | (with_reducible first | exact HB.out | apply below_alloc | apply pw_below_drewN | apply below_drew1 | refine below_set ?_ GE171.out | refine below_set ?_ GE175.out) | exact HB.out)))); have n2_ := Aside0.mk (blk_below (g := gb171) (o := .cells #[.int .i64 t168, .int .i64 t169] 24 (0, 0)) (by (with_reducible repeat (first | refine blk_drewN ?_ _ | refine blk_drew ?_ | refine blk_alloc ?_ _)); exact BK171.out) hb); have n3_ := Aside0.mk (blk_below (g := gb175) (o := .cells #[.int .i64 t172, .int .i64 t173] 24 (0, 0)) (by (with_reducible repeat (first | refine blk_drewN ?_ _ | refine blk_drew ?_ | refine blk_alloc ?_ _)); exact BK175.out) hb); have n4_ := Aside0.mk (below_step (by repeat (first | (with_reducible first | exact HB.out | apply below_alloc | apply pw_below_drewN | apply below_drew1 | refine below_set ?_ GE171.out | refine below_set ?_ GE175.out) | exact HB.out)) hb); clear HO182; clear BK171; clear BK175; clear HB; have HO182 := n0_; have HO187 := n1_; have BK171 := n2_; have BK175 := n3_; have HB := n4_; clear n0_ n1_ n2_ n3_ n4_; clear hb ho62; obtain ⟨Ao63, co63, eo63⟩ := Kd.R_slice HO187.out; subst eo63) | ((with_reducible refine gate_callee (f := 9) rfl ?_); refine goesL_ (some 52) rfl rfl Tryd.func9 (by kernel_rfl) rfl #[.slice Ao63 y185.length co63] rfl (by (try simp only [List.map_toArray, List.map_cons, List.map_nil]); first | done | rfl | (simp only [List.length_drop, List.length_take]; rfl)) ?_; (with_reducible refine (vetchref17_Times.calls k _ _ y185 t188 t189 _ ?side1 ?side2 A10.out).mono ?_); (case side1 => repeat (first | exact (Kd.R_reads' HO187.out).2.2 | (with_reducible refine Kd.C_alloc ?_ _) | (with_reducible refine Kd.C_drewN ?_ _) | (with_reducible refine Kd.C_drew ?_))); (case side2 => exact (Kd.R_reads' HO187.out).2.1); rintro e w' ⟨rfl, ⟨nd, rfl⟩⟩; refine ⟨_, rfl, ?_⟩; have hcz64_0 : w61.cell? ⟨gb171, 0, none⟩ = some (.int .i64 t168) := (blk_cell BK171.out 0).trans rfl; have hcz64_1 : w61.cell? ⟨gb171, 1, none⟩ = some (.int .i64 t169) := (blk_cell BK171.out 1).trans rfl; have hfz64_0 := blk_frozen BK171.out 0; have hfz64_1 := blk_frozen BK171.out 1; have hcz65_0 : w61.cell? ⟨gb175, 0, none⟩ = some (.int .i64 t172) := (blk_cell BK175.out 0).trans rfl; have hcz65_1 : w61.cell? ⟨gb175, 1, none⟩ = some (.int .i64 t173) := (blk_cell BK175.out 1).trans rfl; have hfz65_0 := blk_frozen BK175.out 0; have hfz65_1 := blk_frozen BK175.out 1))
      (try simp only [Act.put, List.setIfInBounds_toArray, List.set_cons_zero, List.set_cons_succ])
      have H := HC47.out
      clear HC47
      by_cases c66 : (!(t168 == t172) || (!(t169 == t173))) = true
      ·
       rw [if_pos c66] at H
       have c66b0 : (!(t168 == t172) || (!(t169 == t173))) = true := c66
       clear c66
       (first | rw [c66b0] | (simp only [i64_w, i32_w]; rw [c66b0]) | skip)
       obtain rfl := Option.some.inj H
       go_wp2
       go_ret
       exact ⟨by first | rfl | (simp [errW_none, errW_some] <;> rfl) | (simp [*, errW_none, errW_some] <;> rfl), by repeat (first | (with_reducible first | exact HB.out | apply below_alloc | apply pw_below_drewN | apply below_drew1 | refine below_set ?_ GE171.out | refine below_set ?_ GE175.out) | exact HB.out)⟩
      ·
       rw [if_neg c66] at H
       have c66b0 : (!(t168 == t172) || (!(t169 == t173))) = false := by simpa using c66
       clear c66
       (first | rw [c66b0] | (simp only [i64_w, i32_w]; rw [c66b0]) | skip)
       replace H := Option.bind_eq_some_iff.mp H
       obtain ⟨⟨t190, t191⟩, A670, H⟩ := H
       replace H : (if t190 = t174 then (if t170.isNone = true then (some (true == (t174 == 0))) else (some (false == (t174 == 0)))) else (some false)) = some r := H
       have A67 := Aside0.mk A670
       clear A670
       by_cases c68 : t190 = t174
       ·
        rw [if_pos c68] at H
        have c68b0 : (t190 == t174) = true := beq_iff_eq.mpr c68
        have c68b1 : (t190 != t174) = false := bne_eq_false_iff_eq.mpr c68
        clear c68
        rcases t170 with _ | q192
        ·
         have H1 : (some (true == (t174 == 0))) = some r := by rw [if_pos (show (none : Option Int).isNone = true by rfl)] at H; exact H
         clear H
         have H := H1
         clear H1
         try simp only [errW_none, errW_some]
         obtain rfl := Option.some.inj H
         have CA67 := fun W hW => fault_Code.calls' k none t190 t191 W hW A67.out
         try simp only [errW_none, errW_some] at CA67
         go_wp2_with (first | (go_at_call 10; (with_reducible refine (CA67 _ ?hgs).mono ?_); (case hgs => exact (Below.cell (by repeat (first | (with_reducible first | exact HB.out | apply below_alloc | apply pw_below_drewN | apply below_drew1 | refine below_set ?_ GE171.out | refine below_set ?_ GE175.out) | exact HB.out)) (World.block_lt_of_cell? _ _ HG.out)).trans HG.out); rintro e w69 ⟨rfl, hb⟩; have n0_ := Aside0.mk (Kd.R_below (by (with_reducible repeat (first | apply Kd.R_alloc | apply Kd.R_drewN | apply Kd.R_drew)); exact HO182.out) hb); have n1_ := Aside0.mk (Kd.R_below (by (with_reducible repeat (first | apply Kd.R_alloc | apply Kd.R_drewN | apply Kd.R_drew)); exact HO187.out) hb); have n2_ := Aside0.mk (blk_below (g := gb171) (o := .cells #[.int .i64 t168, .int .i64 t169] 24 (0, 0)) (by (with_reducible repeat (first | refine blk_drewN ?_ _ | refine blk_drew ?_ | refine blk_alloc ?_ _)); exact BK171.out) hb); have n3_ := Aside0.mk (blk_below (g := gb175) (o := .cells #[.int .i64 t172, .int .i64 t173] 24 (0, 0)) (by (with_reducible repeat (first | refine blk_drewN ?_ _ | refine blk_drew ?_ | refine blk_alloc ?_ _)); exact BK175.out) hb); have n4_ := Aside0.mk (below_step (by repeat (first | (with_reducible first | exact HB.out | apply below_alloc | apply pw_below_drewN | apply below_drew1 | refine below_set ?_ GE171.out | refine below_set ?_ GE175.out) | exact HB.out)) hb); clear HO182; clear HO187; clear BK171; clear BK175; clear HB; have HO182 := n0_; have HO187 := n1_; have BK171 := n2_; have BK175 := n3_; have HB := n4_; clear n0_ n1_ n2_ n3_ n4_; (try clear hb); (try clear hb2); (try clear hk); (try clear hi)))
         go_ret
         exact ⟨by first | rfl | (simp [errW_none, errW_some] <;> rfl) | (simp [*, errW_none, errW_some] <;> rfl), by repeat (first | (with_reducible first | exact HB.out | apply below_alloc | apply pw_below_drewN | apply below_drew1 | refine below_set ?_ GE171.out | refine below_set ?_ GE175.out) | exact HB.out)⟩
        ·
         have H1 : (some (false == (t174 == 0))) = some r := by rw [if_neg (show ¬ (some q192).isNone = true by simp)] at H; exact H
         clear H
         have H := H1
         clear H1
         try simp only [errW_none, errW_some]
         obtain rfl := Option.some.inj H
         have CA67 := fun W hW => fault_Code.calls' k (some q192) t190 t191 W hW A67.out
         try simp only [errW_none, errW_some] at CA67
         go_wp2_with (first | (go_at_call 10; (with_reducible refine (CA67 _ ?hgs).mono ?_); (case hgs => exact (Below.cell (by repeat (first | (with_reducible first | exact HB.out | apply below_alloc | apply pw_below_drewN | apply below_drew1 | refine below_set ?_ GE171.out | refine below_set ?_ GE175.out) | exact HB.out)) (World.block_lt_of_cell? _ _ HG.out)).trans HG.out); rintro e w70 ⟨rfl, hb⟩; have n0_ := Aside0.mk (Kd.R_below (by (with_reducible repeat (first | apply Kd.R_alloc | apply Kd.R_drewN | apply Kd.R_drew)); exact HO182.out) hb); have n1_ := Aside0.mk (Kd.R_below (by (with_reducible repeat (first | apply Kd.R_alloc | apply Kd.R_drewN | apply Kd.R_drew)); exact HO187.out) hb); have n2_ := Aside0.mk (blk_below (g := gb171) (o := .cells #[.int .i64 t168, .int .i64 t169] 24 (0, 0)) (by (with_reducible repeat (first | refine blk_drewN ?_ _ | refine blk_drew ?_ | refine blk_alloc ?_ _)); exact BK171.out) hb); have n3_ := Aside0.mk (blk_below (g := gb175) (o := .cells #[.int .i64 t172, .int .i64 t173] 24 (0, 0)) (by (with_reducible repeat (first | refine blk_drewN ?_ _ | refine blk_drew ?_ | refine blk_alloc ?_ _)); exact BK175.out) hb); have n4_ := Aside0.mk (below_step (by repeat (first | (with_reducible first | exact HB.out | apply below_alloc | apply pw_below_drewN | apply below_drew1 | refine below_set ?_ GE171.out | refine below_set ?_ GE175.out) | exact HB.out)) hb); clear HO182; clear HO187; clear BK171; clear BK175; clear HB; have HO182 := n0_; have HO187 := n1_; have BK171 := n2_; have BK175 := n3_; have HB := n4_; clear n0_ n1_ n2_ n3_ n4_; (try clear hb); (try clear hb2); (try clear hk); (try clear hi)))
         go_ret
         exact ⟨by first | rfl | (simp [errW_none, errW_some] <;> rfl) | (simp [*, errW_none, errW_some] <;> rfl), by repeat (first | (with_reducible first | exact HB.out | apply below_alloc | apply pw_below_drewN | apply below_drew1 | refine below_set ?_ GE171.out | refine below_set ?_ GE175.out) | exact HB.out)⟩
       ·
        rw [if_neg c68] at H
        have c68b0 : (t190 == t174) = false := beq_eq_false_iff_ne.mpr c68
        have c68b1 : (t190 != t174) = true := bne_iff_ne.mpr c68
        obtain rfl := Option.some.inj H
        have CA67 := fun W hW => fault_Code.calls' k t170 t190 t191 W hW A67.out
        try simp only [errW_none, errW_some] at CA67
        go_wp2_with (first | (go_at_call 10; (with_reducible refine (CA67 _ ?hgs).mono ?_); (case hgs => exact (Below.cell (by repeat (first | (with_reducible first | exact HB.out | apply below_alloc | apply pw_below_drewN | apply below_drew1 | refine below_set ?_ GE171.out | refine below_set ?_ GE175.out) | exact HB.out)) (World.block_lt_of_cell? _ _ HG.out)).trans HG.out); rintro e w71 ⟨rfl, hb⟩; have n0_ := Aside0.mk (Kd.R_below (by (with_reducible repeat (first | apply Kd.R_alloc | apply Kd.R_drewN | apply Kd.R_drew)); exact HO182.out) hb); have n1_ := Aside0.mk (Kd.R_below (by (with_reducible repeat (first | apply Kd.R_alloc | apply Kd.R_drewN | apply Kd.R_drew)); exact HO187.out) hb); have n2_ := Aside0.mk (blk_below (g := gb171) (o := .cells #[.int .i64 t168, .int .i64 t169] 24 (0, 0)) (by (with_reducible repeat (first | refine blk_drewN ?_ _ | refine blk_drew ?_ | refine blk_alloc ?_ _)); exact BK171.out) hb); have n3_ := Aside0.mk (blk_below (g := gb175) (o := .cells #[.int .i64 t172, .int .i64 t173] 24 (0, 0)) (by (with_reducible repeat (first | refine blk_drewN ?_ _ | refine blk_drew ?_ | refine blk_alloc ?_ _)); exact BK175.out) hb); have n4_ := Aside0.mk (below_step (by repeat (first | (with_reducible first | exact HB.out | apply below_alloc | apply pw_below_drewN | apply below_drew1 | refine below_set ?_ GE171.out | refine below_set ?_ GE175.out) | exact HB.out)) hb); clear HO182; clear HO187; clear BK171; clear BK175; clear HB; have HO182 := n0_; have HO187 := n1_; have BK171 := n2_; have BK175 := n3_; have HB := n4_; clear n0_ n1_ n2_ n3_ n4_; (try clear hb); (try clear hb2); (try clear hk); (try clear hi)))
        go_ret
        exact ⟨by first | rfl | (simp [errW_none, errW_some] <;> rfl) | (simp [*, errW_none, errW_some] <;> rfl), by repeat (first | (with_reducible first | exact HB.out | apply below_alloc | apply pw_below_drewN | apply below_drew1 | refine below_set ?_ GE171.out | refine below_set ?_ GE175.out) | exact HB.out)⟩
    ·
     rw [if_neg c29] at H
     have c29b0 : (t178 == t188) = false := beq_eq_false_iff_ne.mpr c29
     have c29b1 : (t178 != t188) = true := bne_iff_ne.mpr c29
     obtain rfl := Option.some.inj H
     go_enter Tryd.func3, Tryd.ntmps3
     go_wp2_with (first | ((with_reducible refine gate_callee (f := 4) rfl ?_); refine goesL_ (some 19) rfl rfl Tryd.func4 (by kernel_rfl) rfl #[] rfl (by (try simp only [List.map_toArray, List.map_cons, List.map_nil]); first | done | rfl | (simp only [List.length_drop, List.length_take]; rfl)) ?_; (with_reducible refine (vetchlaw17_awake.calls k  true _ A3.out).mono ?_); rintro e w72 ⟨rfl, hb⟩; refine ⟨_, rfl, ?_⟩; have n0_ := Aside0.mk (below_step (by repeat (first | (with_reducible first | exact HB.out | apply below_alloc | apply pw_below_drewN | apply below_drew1) | exact HB.out)) hb); clear HB; have HB := n0_; clear n0_; (try clear hb); (try clear hb2); (try clear hk); (try clear hi)) | ((with_reducible refine gate_callee (f := 5) rfl ?_); refine goesL_ (some 24) rfl rfl Tryd.func5 (by kernel_rfl) rfl #[.int .i64 a0, .int .i64 a1] rfl (by (try simp only [List.map_toArray, List.map_cons, List.map_nil]); first | done | rfl | (simp only [List.length_drop, List.length_take]; rfl)) ?_; (with_reducible refine (limit_Enough.calls k a0 a1 t168 t169 t170 _ A5.out).mono ?_); rintro e w73 ⟨rfl, hb⟩; refine ⟨_, rfl, ?_⟩; have n0_ := Aside0.mk (below_step (by repeat (first | (with_reducible first | exact HB.out | apply below_alloc | apply pw_below_drewN | apply below_drew1) | exact HB.out)) hb); clear HB; have HB := n0_; clear n0_; (try clear hb); (try clear hb2); (try clear hk); (try clear hi); (try simp only [errW_none, errW_some])) | ((with_reducible refine gate_dst (N := 5) rfl ?_); refine box_event ?hg (N := 5) ?hd (cs := #[.int .i64 0, .int .i64 0]) (t := 24) ?hr ?_; (case hd => rfl); (case hg => rfl); (case hr => first | (go_simp; done) | (go_simp; rfl)); intro gb171 hg w74 hbox hb; have n0_ := Aside0.mk (below_step (by repeat (first | (with_reducible first | exact HB.out | apply below_alloc | apply pw_below_drewN | apply below_drew1) | exact HB.out)) hb); have n1_ := Aside0.mk (hbox); have n2_ := Aside0.mk ((by rw [hg]; exact (below_size (by repeat (first | (with_reducible first | exact HB.out | apply below_alloc | apply pw_below_drewN | apply below_drew1) | exact HB.out))) : w.heap.size ≤ gb171)); have n3_ := Aside0.mk ((by rw [hg]; exact (below_size (by repeat (first | (with_reducible first | exact HB.out | apply below_alloc | apply pw_below_drewN | apply below_drew1) | exact HB.out))) : w.heap.size ≤ gb171)); clear HB; have HB := n0_; have BK171 := n1_; have GW171 := n2_; have GE171 := n3_; clear n0_ n1_ n2_ n3_; clear hb hbox hg; have hcz75_0 : w74.cell? ⟨gb171, 0, none⟩ = some (.int .i64 0) := (blk_cell BK171.out 0).trans rfl; have hcz75_1 : w74.cell? ⟨gb171, 1, none⟩ = some (.int .i64 0) := (blk_cell BK171.out 1).trans rfl; have hfz75_0 := blk_frozen BK171.out 0; have hfz75_1 := blk_frozen BK171.out 1) | ((with_reducible refine gate_callee (f := 6) rfl ?_); refine goesL_ (some 30) rfl rfl Tryd.func6 (by kernel_rfl) rfl #[.int .i64 a0, .int .i64 a1] rfl (by (try simp only [List.map_toArray, List.map_cons, List.map_nil]); first | done | rfl | (simp only [List.length_drop, List.length_take]; rfl)) ?_; (with_reducible refine (vetchref17_Enough.calls k a0 a1 t172 t173 t174 _ A6.out).mono ?_); rintro e w76 ⟨rfl, hb⟩; refine ⟨_, rfl, ?_⟩; have n0_ := Aside0.mk (blk_below (g := gb171) (o := .cells #[.int .i64 t168, .int .i64 t169] 24 (0, 0)) (by (with_reducible repeat (first | refine blk_drewN ?_ _ | refine blk_drew ?_ | refine blk_alloc ?_ _)); refine blk_put (cs := #[.int .i64 t168, .int .i64 0]) ?_ 1 _ rfl; (with_reducible repeat (first | refine blk_drewN ?_ _ | refine blk_drew ?_ | refine blk_alloc ?_ _)); refine blk_put (cs := #[.int .i64 0, .int .i64 0]) ?_ 0 _ rfl; (with_reducible repeat (first | refine blk_drewN ?_ _ | refine blk_drew ?_ | refine blk_alloc ?_ _)); exact BK171.out) hb); have n1_ := Aside0.mk (below_step (by repeat (first | (with_reducible first | exact HB.out | apply below_alloc | apply pw_below_drewN | apply below_drew1 | refine below_set ?_ GE171.out) | exact HB.out)) hb); clear BK171; clear HB; have BK171 := n0_; have HB := n1_; clear n0_ n1_; (try clear hb); (try clear hb2); (try clear hk); (try clear hi)) | ((with_reducible refine gate_dst (N := 7) rfl ?_); refine box_event ?hg (N := 7) ?hd (cs := #[.int .i64 0, .int .i64 0]) (t := 24) ?hr ?_; (case hd => rfl); (case hg => rfl); (case hr => first | (go_simp; done) | (go_simp; rfl)); intro gb175 hg w77 hbox hb; have n0_ := Aside0.mk (blk_below (g := gb171) (o := .cells #[.int .i64 t168, .int .i64 t169] 24 (0, 0)) (by (with_reducible repeat (first | refine blk_drewN ?_ _ | refine blk_drew ?_ | refine blk_alloc ?_ _)); exact BK171.out) hb); have n1_ := Aside0.mk (below_step (by repeat (first | (with_reducible first | exact HB.out | apply below_alloc | apply pw_below_drewN | apply below_drew1 | refine below_set ?_ GE171.out) | exact HB.out)) hb); have n2_ := Aside0.mk (hbox); have n3_ := Aside0.mk ((by rw [hg]; exact (below_size (by repeat (first | (with_reducible first | exact HB.out | apply below_alloc | apply pw_below_drewN | apply below_drew1 | refine below_set ?_ GE171.out) | exact HB.out))) : w.heap.size ≤ gb175)); have n4_ := Aside0.mk ((by rw [hg]; exact (below_size (by repeat (first | (with_reducible first | exact HB.out | apply below_alloc | apply pw_below_drewN | apply below_drew1 | refine below_set ?_ GE171.out) | exact HB.out))) : w.heap.size ≤ gb175)); have n5_ := Aside0.mk ((by rw [hg]; exact Nat.ne_of_lt (blk_lt (g := gb171) (o := .cells #[.int .i64 t168, .int .i64 t169] 24 (0, 0)) (by (with_reducible repeat (first | refine blk_drewN ?_ _ | refine blk_drew ?_ | refine blk_alloc ?_ _)); exact BK171.out)) : gb171 ≠ gb175)); have n6_ := Aside0.mk ((by rw [hg]; exact Nat.ne_of_gt (blk_lt (g := gb171) (o := .cells #[.int .i64 t168, .int .i64 t169] 24 (0, 0)) (by (with_reducible repeat (first | refine blk_drewN ?_ _ | refine blk_drew ?_ | refine blk_alloc ?_ _)); exact BK171.out)) : gb175 ≠ gb171)); clear BK171; clear HB; have BK171 := n0_; have HB := n1_; have BK175 := n2_; have GW175 := n3_; have GE175 := n4_; have NB171_175 := n5_; have NB175_171 := n6_; clear n0_ n1_ n2_ n3_ n4_ n5_ n6_; clear hb hbox hg; have hnb78 := NB175_171.out; have hnc78 := NB171_175.out; have hcz79_0 : w77.cell? ⟨gb175, 0, none⟩ = some (.int .i64 0) := (blk_cell BK175.out 0).trans rfl; have hcz79_1 : w77.cell? ⟨gb175, 1, none⟩ = some (.int .i64 0) := (blk_cell BK175.out 1).trans rfl; have hfz79_0 := blk_frozen BK175.out 0; have hfz79_1 := blk_frozen BK175.out 1) | ((with_reducible refine gate_callee (f := 7) rfl ?_); refine goesL_ (some 35) rfl rfl Tryd.func7 (by kernel_rfl) rfl #[.int .i64 a0] rfl (by (try simp only [List.map_toArray, List.map_cons, List.map_nil]); first | done | rfl | (simp only [List.length_drop, List.length_take]; rfl)) ?_; (with_reducible refine (limit_C.calls k a0 t176 t177 _ A7.out).mono ?_); rintro e w80 ⟨rfl, hb⟩; refine ⟨_, rfl, ?_⟩; have n0_ := Aside0.mk (blk_below (g := gb171) (o := .cells #[.int .i64 t168, .int .i64 t169] 24 (0, 0)) (by (with_reducible repeat (first | refine blk_drewN ?_ _ | refine blk_drew ?_ | refine blk_alloc ?_ _)); refine blk_far ?_ NB171_175.out _; (with_reducible repeat (first | refine blk_drewN ?_ _ | refine blk_drew ?_ | refine blk_alloc ?_ _)); refine blk_far ?_ NB171_175.out _; (with_reducible repeat (first | refine blk_drewN ?_ _ | refine blk_drew ?_ | refine blk_alloc ?_ _)); exact BK171.out) hb); have n1_ := Aside0.mk (blk_below (g := gb175) (o := .cells #[.int .i64 t172, .int .i64 t173] 24 (0, 0)) (by (with_reducible repeat (first | refine blk_drewN ?_ _ | refine blk_drew ?_ | refine blk_alloc ?_ _)); refine blk_put (cs := #[.int .i64 t172, .int .i64 0]) ?_ 1 _ rfl; (with_reducible repeat (first | refine blk_drewN ?_ _ | refine blk_drew ?_ | refine blk_alloc ?_ _)); refine blk_put (cs := #[.int .i64 0, .int .i64 0]) ?_ 0 _ rfl; (with_reducible repeat (first | refine blk_drewN ?_ _ | refine blk_drew ?_ | refine blk_alloc ?_ _)); exact BK175.out) hb); have n2_ := Aside0.mk (below_step (by repeat (first | (with_reducible first | exact HB.out | apply below_alloc | apply pw_below_drewN | apply below_drew1 | refine below_set ?_ GE171.out | refine below_set ?_ GE175.out) | exact HB.out)) hb); clear BK171; clear BK175; clear HB; have BK171 := n0_; have BK175 := n1_; have HB := n2_; clear n0_ n1_ n2_; (try clear hb); (try clear hb2); (try clear hk); (try clear hi)) | ((with_reducible refine gate_callee (f := 8) rfl ?_); refine goesL_ (some 40) rfl rfl Tryd.func8 (by kernel_rfl) rfl #[.int .i64 a0] rfl (by (try simp only [List.map_toArray, List.map_cons, List.map_nil]); first | done | rfl | (simp only [List.length_drop, List.length_take]; rfl)) ?_; (with_reducible refine (limit_R.calls k a0 t178 t179 _ A8.out).mono ?_); rintro e w81 ⟨rfl, hb⟩; refine ⟨_, rfl, ?_⟩; have n0_ := Aside0.mk (blk_below (g := gb171) (o := .cells #[.int .i64 t168, .int .i64 t169] 24 (0, 0)) (by (with_reducible repeat (first | refine blk_drewN ?_ _ | refine blk_drew ?_ | refine blk_alloc ?_ _)); exact BK171.out) hb); have n1_ := Aside0.mk (blk_below (g := gb175) (o := .cells #[.int .i64 t172, .int .i64 t173] 24 (0, 0)) (by (with_reducible repeat (first | refine blk_drewN ?_ _ | refine blk_drew ?_ | refine blk_alloc ?_ _)); exact BK175.out) hb); have n2_ := Aside0.mk (below_step (by repeat (first | (with_reducible first | exact HB.out | apply below_alloc | apply pw_below_drewN | apply below_drew1 | refine below_set ?_ GE171.out | refine below_set ?_ GE175.out) | exact HB.out)) hb); clear BK171; clear BK175; clear HB; have BK171 := n0_; have BK175 := n1_; have HB := n2_; clear n0_ n1_ n2_; (try clear hb); (try clear hb2); (try clear hk); (try clear hi)) | ((with_reducible refine gate_dst (N := 45) rfl ?_); refine Kd.R_lit (Kd.int .i64) _ 3 ?hg (N := 45) ?hd (xs := ([8, a0] : List Int)) (inner := [.int .i64 8, .int .i64 a0]) (ok := fun _ => True) (okp := fun _ => True) ?hr ?hp (fun _ hk => hk) trivial (Below.refl _ _) (Nat.le_refl _) (by simp) ?_; (case hd => rfl); (case hg => rfl); (case hr => first | (go_simp; done) | (go_simp; rfl)); (case hp => exact (Reps.one (show Kd.M (Kd.int .i64) _ _ _ 8 [.int .i64 8] from rfl) (Reps.one (show Kd.M (Kd.int .i64) _ _ _ a0 [.int .i64 a0] from rfl) (Reps.none _ _)))); intro v181 w82 ho83 hb hg_ hnew_; clear hg_ hnew_; (first | rw [← Ny180.out] at ho83 | (simp only [Int.reduceToNat] at ho83; rw [← Ny180.out] at ho83)); have n0_ := Aside0.mk (Kd.R_lower ho83 (below_size (by repeat (first | (with_reducible first | exact HB.out | apply below_alloc | apply pw_below_drewN | apply below_drew1 | refine below_set ?_ GE171.out | refine below_set ?_ GE175.out) | exact HB.out)))); have n1_ := Aside0.mk (blk_below (g := gb171) (o := .cells #[.int .i64 t168, .int .i64 t169] 24 (0, 0)) (by (with_reducible repeat (first | refine blk_drewN ?_ _ | refine blk_drew ?_ | refine blk_alloc ?_ _)); exact BK171.out) hb); have n2_ := Aside0.mk (blk_below (g := gb175) (o := .cells #[.int .i64 t172, .int .i64 t173] 24 (0, 0)) (by (with_reducible repeat (first | refine blk_drewN ?_ _ | refine blk_drew ?_ | refine blk_alloc ?_ _)); exact BK175.out) hb); have n3_ := Aside0.mk (below_step (by repeat (first | (with_reducible first | exact HB.out | apply below_alloc | apply pw_below_drewN | apply below_drew1 | refine below_set ?_ GE171.out | refine below_set ?_ GE175.out) | exact HB.out)) hb); clear BK171; clear BK175; clear HB; have HO182 := n0_; have BK171 := n1_; have BK175 := n2_; have HB := n3_; clear n0_ n1_ n2_ n3_; clear hb ho83; obtain ⟨Ao84, co84, eo84⟩ := Kd.R_slice HO182.out; subst eo84) | ((with_reducible refine gate_callee (f := 9) rfl ?_); refine goesL_ (some 46) rfl rfl Tryd.func9 (by kernel_rfl) rfl #[.slice Ao84 y180.length co84] rfl (by (try simp only [List.map_toArray, List.map_cons, List.map_nil]); first | done | rfl | (simp only [List.length_drop, List.length_take]; rfl)) ?_; (with_reducible refine (vetchref17_Times.calls k _ _ y180 t183 t184 _ ?side1 ?side2 A9.out).mono ?_); (case side1 => repeat (first | exact (Kd.R_reads' HO182.out).2.2 | (with_reducible refine Kd.C_alloc ?_ _) | (with_reducible refine Kd.C_drewN ?_ _) | (with_reducible refine Kd.C_drew ?_))); (case side2 => exact (Kd.R_reads' HO182.out).2.1); rintro e w' ⟨rfl, ⟨nd, rfl⟩⟩; refine ⟨_, rfl, ?_⟩) | ((with_reducible refine gate_dst (N := 51) rfl ?_); refine Kd.R_lit (Kd.int .i64) _ 3 ?hg (N := 51) ?hd (xs := ([2, a0] : List Int)) (inner := [.int .i64 2, .int .i64 a0]) (ok := fun _ => True) (okp := fun _ => True) ?hr ?hp (fun _ hk => hk) trivial (Below.refl _ _) (Nat.le_refl _) (by simp) ?_; (case hd => rfl); (case hg => rfl); (case hr => first | (go_simp; done) | (go_simp; rfl)); (case hp => exact (Reps.one (show Kd.M (Kd.int .i64) _ _ _ 2 [.int .i64 2] from rfl) (Reps.one (show Kd.M (Kd.int .i64) _ _ _ a0 [.int .i64 a0] from rfl) (Reps.none _ _)))); intro v186 w85 ho86 hb hg_ hnew_; clear hg_ hnew_; (first | rw [← Ny185.out] at ho86 | (simp only [Int.reduceToNat] at ho86; rw [← Ny185.out] at ho86)); have n0_ := Aside0.mk (Kd.R_elder' (by (with_reducible repeat (first | apply Kd.R_alloc | apply Kd.R_drewN | apply Kd.R_drew)); exact HO182.out) (Kd.R_base ho86) hb); have n1_ := Aside0.mk (Kd.R_lower (Kd.R_new' ho86 (Kd.R_lt (by (with_reducible repeat (first | apply Kd.R_alloc | apply Kd.R_drewN | apply Kd.R_drew)); exact HO182.out))) (below_size (by repeat (first | (with_reducible first | exact HB.out | apply below_alloc | apply pw_below_drewN | apply below_drew1 | refine below_set ?_ GE171.out | refine below_set ?_ GE175.out) | exact HB.out)))); have n2_ := Aside0.mk (blk_below (g := gb171) (o := .cells #[.int .i64 t168, .int .i64 t169] 24 (0, 0)) (by (with_reducible repeat (first | refine blk_drewN ?_ _ | refine blk_drew ?_ | refine blk_alloc ?_ _)); exact BK171.out) hb); have n3_ := Aside0.mk (blk_below (g := gb175) (o := .cells #[.int .i64 t172, .int .i64 t173] 24 (0, 0)) (by (with_reducible repeat (first | refine blk_drewN ?_ _ | refine blk_drew ?_ | refine blk_alloc ?_ _)); exact BK175.out) hb); have n4_ := Aside0.mk (below_step (by repeat (first | (with_reducible first | exact HB.out | apply below_alloc | apply pw_below_drewN | apply below_drew1 | refine below_set ?_ GE171.out | refine below_set ?_ GE175.out) | exact HB.out)) hb); clear HO182; clear BK171; clear BK175; clear HB; have HO182 := n0_; have HO187 := n1_; have BK171 := n2_; have BK175 := n3_; have HB := n4_; clear n0_ n1_ n2_ n3_ n4_; clear hb ho86; obtain ⟨Ao87, co87, eo87⟩ := Kd.R_slice HO187.out; subst eo87) | ((with_reducible refine gate_callee (f := 9) rfl ?_); refine goesL_ (some 52) rfl rfl Tryd.func9 (by kernel_rfl) rfl #[.slice Ao87 y185.length co87] rfl (by (try simp only [List.map_toArray, List.map_cons, List.map_nil]); first | done | rfl | (simp only [List.length_drop, List.length_take]; rfl)) ?_; (with_reducible refine (vetchref17_Times.calls k _ _ y185 t188 t189 _ ?side1 ?side2 A10.out).mono ?_); (case side1 => repeat (first | exact (Kd.R_reads' HO187.out).2.2 | (with_reducible refine Kd.C_alloc ?_ _) | (with_reducible refine Kd.C_drewN ?_ _) | (with_reducible refine Kd.C_drew ?_))); (case side2 => exact (Kd.R_reads' HO187.out).2.1); rintro e w' ⟨rfl, ⟨nd, rfl⟩⟩; refine ⟨_, rfl, ?_⟩))
     go_ret
     exact ⟨by first | rfl | (simp [errW_none, errW_some] <;> rfl) | (simp [*, errW_none, errW_some] <;> rfl), by repeat (first | (with_reducible first | exact HB.out | apply below_alloc | apply pw_below_drewN | apply below_drew1 | refine below_set ?_ GE171.out | refine below_set ?_ GE175.out) | exact HB.out)⟩
  ·
   rw [if_neg c11] at H
   have c11b0 : (t176 == t183) = false := beq_eq_false_iff_ne.mpr c11
   have c11b1 : (t176 != t183) = true := bne_iff_ne.mpr c11
   obtain rfl := Option.some.inj H
   go_enter Tryd.func3, Tryd.ntmps3
   go_wp2_with (first | ((with_reducible refine gate_callee (f := 4) rfl ?_); refine goesL_ (some 19) rfl rfl Tryd.func4 (by kernel_rfl) rfl #[] rfl (by (try simp only [List.map_toArray, List.map_cons, List.map_nil]); first | done | rfl | (simp only [List.length_drop, List.length_take]; rfl)) ?_; (with_reducible refine (vetchlaw17_awake.calls k  true _ A3.out).mono ?_); rintro e w88 ⟨rfl, hb⟩; refine ⟨_, rfl, ?_⟩; have n0_ := Aside0.mk (below_step (by repeat (first | (with_reducible first | exact HB.out | apply below_alloc | apply pw_below_drewN | apply below_drew1) | exact HB.out)) hb); clear HB; have HB := n0_; clear n0_; (try clear hb); (try clear hb2); (try clear hk); (try clear hi)) | ((with_reducible refine gate_callee (f := 5) rfl ?_); refine goesL_ (some 24) rfl rfl Tryd.func5 (by kernel_rfl) rfl #[.int .i64 a0, .int .i64 a1] rfl (by (try simp only [List.map_toArray, List.map_cons, List.map_nil]); first | done | rfl | (simp only [List.length_drop, List.length_take]; rfl)) ?_; (with_reducible refine (limit_Enough.calls k a0 a1 t168 t169 t170 _ A5.out).mono ?_); rintro e w89 ⟨rfl, hb⟩; refine ⟨_, rfl, ?_⟩; have n0_ := Aside0.mk (below_step (by repeat (first | (with_reducible first | exact HB.out | apply below_alloc | apply pw_below_drewN | apply below_drew1) | exact HB.out)) hb); clear HB; have HB := n0_; clear n0_; (try clear hb); (try clear hb2); (try clear hk); (try clear hi); (try simp only [errW_none, errW_some])) | ((with_reducible refine gate_dst (N := 5) rfl ?_); refine box_event ?hg (N := 5) ?hd (cs := #[.int .i64 0, .int .i64 0]) (t := 24) ?hr ?_; (case hd => rfl); (case hg => rfl); (case hr => first | (go_simp; done) | (go_simp; rfl)); intro gb171 hg w90 hbox hb; have n0_ := Aside0.mk (below_step (by repeat (first | (with_reducible first | exact HB.out | apply below_alloc | apply pw_below_drewN | apply below_drew1) | exact HB.out)) hb); have n1_ := Aside0.mk (hbox); have n2_ := Aside0.mk ((by rw [hg]; exact (below_size (by repeat (first | (with_reducible first | exact HB.out | apply below_alloc | apply pw_below_drewN | apply below_drew1) | exact HB.out))) : w.heap.size ≤ gb171)); have n3_ := Aside0.mk ((by rw [hg]; exact (below_size (by repeat (first | (with_reducible first | exact HB.out | apply below_alloc | apply pw_below_drewN | apply below_drew1) | exact HB.out))) : w.heap.size ≤ gb171)); clear HB; have HB := n0_; have BK171 := n1_; have GW171 := n2_; have GE171 := n3_; clear n0_ n1_ n2_ n3_; clear hb hbox hg; have hcz91_0 : w90.cell? ⟨gb171, 0, none⟩ = some (.int .i64 0) := (blk_cell BK171.out 0).trans rfl; have hcz91_1 : w90.cell? ⟨gb171, 1, none⟩ = some (.int .i64 0) := (blk_cell BK171.out 1).trans rfl; have hfz91_0 := blk_frozen BK171.out 0; have hfz91_1 := blk_frozen BK171.out 1) | ((with_reducible refine gate_callee (f := 6) rfl ?_); refine goesL_ (some 30) rfl rfl Tryd.func6 (by kernel_rfl) rfl #[.int .i64 a0, .int .i64 a1] rfl (by (try simp only [List.map_toArray, List.map_cons, List.map_nil]); first | done | rfl | (simp only [List.length_drop, List.length_take]; rfl)) ?_; (with_reducible refine (vetchref17_Enough.calls k a0 a1 t172 t173 t174 _ A6.out).mono ?_); rintro e w92 ⟨rfl, hb⟩; refine ⟨_, rfl, ?_⟩; have n0_ := Aside0.mk (blk_below (g := gb171) (o := .cells #[.int .i64 t168, .int .i64 t169] 24 (0, 0)) (by (with_reducible repeat (first | refine blk_drewN ?_ _ | refine blk_drew ?_ | refine blk_alloc ?_ _)); refine blk_put (cs := #[.int .i64 t168, .int .i64 0]) ?_ 1 _ rfl; (with_reducible repeat (first | refine blk_drewN ?_ _ | refine blk_drew ?_ | refine blk_alloc ?_ _)); refine blk_put (cs := #[.int .i64 0, .int .i64 0]) ?_ 0 _ rfl; (with_reducible repeat (first | refine blk_drewN ?_ _ | refine blk_drew ?_ | refine blk_alloc ?_ _)); exact BK171.out) hb); have n1_ := Aside0.mk (below_step (by repeat (first | (with_reducible first | exact HB.out | apply below_alloc | apply pw_below_drewN | apply below_drew1 | refine below_set ?_ GE171.out) | exact HB.out)) hb); clear BK171; clear HB; have BK171 := n0_; have HB := n1_; clear n0_ n1_; (try clear hb); (try clear hb2); (try clear hk); (try clear hi)) | ((with_reducible refine gate_dst (N := 7) rfl ?_); refine box_event ?hg (N := 7) ?hd (cs := #[.int .i64 0, .int .i64 0]) (t := 24) ?hr ?_; (case hd => rfl); (case hg => rfl); (case hr => first | (go_simp; done) | (go_simp; rfl)); intro gb175 hg w93 hbox hb; have n0_ := Aside0.mk (blk_below (g := gb171) (o := .cells #[.int .i64 t168, .int .i64 t169] 24 (0, 0)) (by (with_reducible repeat (first | refine blk_drewN ?_ _ | refine blk_drew ?_ | refine blk_alloc ?_ _)); exact BK171.out) hb); have n1_ := Aside0.mk (below_step (by repeat (first | (with_reducible first | exact HB.out | apply below_alloc | apply pw_below_drewN | apply below_drew1 | refine below_set ?_ GE171.out) | exact HB.out)) hb); have n2_ := Aside0.mk (hbox); have n3_ := Aside0.mk ((by rw [hg]; exact (below_size (by repeat (first | (with_reducible first | exact HB.out | apply below_alloc | apply pw_below_drewN | apply below_drew1 | refine below_set ?_ GE171.out) | exact HB.out))) : w.heap.size ≤ gb175)); have n4_ := Aside0.mk ((by rw [hg]; exact (below_size (by repeat (first | (with_reducible first | exact HB.out | apply below_alloc | apply pw_below_drewN | apply below_drew1 | refine below_set ?_ GE171.out) | exact HB.out))) : w.heap.size ≤ gb175)); have n5_ := Aside0.mk ((by rw [hg]; exact Nat.ne_of_lt (blk_lt (g := gb171) (o := .cells #[.int .i64 t168, .int .i64 t169] 24 (0, 0)) (by (with_reducible repeat (first | refine blk_drewN ?_ _ | refine blk_drew ?_ | refine blk_alloc ?_ _)); exact BK171.out)) : gb171 ≠ gb175)); have n6_ := Aside0.mk ((by rw [hg]; exact Nat.ne_of_gt (blk_lt (g := gb171) (o := .cells #[.int .i64 t168, .int .i64 t169] 24 (0, 0)) (by (with_reducible repeat (first | refine blk_drewN ?_ _ | refine blk_drew ?_ | refine blk_alloc ?_ _)); exact BK171.out)) : gb175 ≠ gb171)); clear BK171; clear HB; have BK171 := n0_; have HB := n1_; have BK175 := n2_; have GW175 := n3_; have GE175 := n4_; have NB171_175 := n5_; have NB175_171 := n6_; clear n0_ n1_ n2_ n3_ n4_ n5_ n6_; clear hb hbox hg; have hnb94 := NB175_171.out; have hnc94 := NB171_175.out; have hcz95_0 : w93.cell? ⟨gb175, 0, none⟩ = some (.int .i64 0) := (blk_cell BK175.out 0).trans rfl; have hcz95_1 : w93.cell? ⟨gb175, 1, none⟩ = some (.int .i64 0) := (blk_cell BK175.out 1).trans rfl; have hfz95_0 := blk_frozen BK175.out 0; have hfz95_1 := blk_frozen BK175.out 1) | ((with_reducible refine gate_callee (f := 7) rfl ?_); refine goesL_ (some 35) rfl rfl Tryd.func7 (by kernel_rfl) rfl #[.int .i64 a0] rfl (by (try simp only [List.map_toArray, List.map_cons, List.map_nil]); first | done | rfl | (simp only [List.length_drop, List.length_take]; rfl)) ?_; (with_reducible refine (limit_C.calls k a0 t176 t177 _ A7.out).mono ?_); rintro e w96 ⟨rfl, hb⟩; refine ⟨_, rfl, ?_⟩; have n0_ := Aside0.mk (blk_below (g := gb171) (o := .cells #[.int .i64 t168, .int .i64 t169] 24 (0, 0)) (by (with_reducible repeat (first | refine blk_drewN ?_ _ | refine blk_drew ?_ | refine blk_alloc ?_ _)); refine blk_far ?_ NB171_175.out _; (with_reducible repeat (first | refine blk_drewN ?_ _ | refine blk_drew ?_ | refine blk_alloc ?_ _)); refine blk_far ?_ NB171_175.out _; (with_reducible repeat (first | refine blk_drewN ?_ _ | refine blk_drew ?_ | refine blk_alloc ?_ _)); exact BK171.out) hb); have n1_ := Aside0.mk (blk_below (g := gb175) (o := .cells #[.int .i64 t172, .int .i64 t173] 24 (0, 0)) (by (with_reducible repeat (first | refine blk_drewN ?_ _ | refine blk_drew ?_ | refine blk_alloc ?_ _)); refine blk_put (cs := #[.int .i64 t172, .int .i64 0]) ?_ 1 _ rfl; (with_reducible repeat (first | refine blk_drewN ?_ _ | refine blk_drew ?_ | refine blk_alloc ?_ _)); refine blk_put (cs := #[.int .i64 0, .int .i64 0]) ?_ 0 _ rfl; (with_reducible repeat (first | refine blk_drewN ?_ _ | refine blk_drew ?_ | refine blk_alloc ?_ _)); exact BK175.out) hb); have n2_ := Aside0.mk (below_step (by repeat (first | (with_reducible first | exact HB.out | apply below_alloc | apply pw_below_drewN | apply below_drew1 | refine below_set ?_ GE171.out | refine below_set ?_ GE175.out) | exact HB.out)) hb); clear BK171; clear BK175; clear HB; have BK171 := n0_; have BK175 := n1_; have HB := n2_; clear n0_ n1_ n2_; (try clear hb); (try clear hb2); (try clear hk); (try clear hi)) | ((with_reducible refine gate_callee (f := 8) rfl ?_); refine goesL_ (some 40) rfl rfl Tryd.func8 (by kernel_rfl) rfl #[.int .i64 a0] rfl (by (try simp only [List.map_toArray, List.map_cons, List.map_nil]); first | done | rfl | (simp only [List.length_drop, List.length_take]; rfl)) ?_; (with_reducible refine (limit_R.calls k a0 t178 t179 _ A8.out).mono ?_); rintro e w97 ⟨rfl, hb⟩; refine ⟨_, rfl, ?_⟩; have n0_ := Aside0.mk (blk_below (g := gb171) (o := .cells #[.int .i64 t168, .int .i64 t169] 24 (0, 0)) (by (with_reducible repeat (first | refine blk_drewN ?_ _ | refine blk_drew ?_ | refine blk_alloc ?_ _)); exact BK171.out) hb); have n1_ := Aside0.mk (blk_below (g := gb175) (o := .cells #[.int .i64 t172, .int .i64 t173] 24 (0, 0)) (by (with_reducible repeat (first | refine blk_drewN ?_ _ | refine blk_drew ?_ | refine blk_alloc ?_ _)); exact BK175.out) hb); have n2_ := Aside0.mk (below_step (by repeat (first | (with_reducible first | exact HB.out | apply below_alloc | apply pw_below_drewN | apply below_drew1 | refine below_set ?_ GE171.out | refine below_set ?_ GE175.out) | exact HB.out)) hb); clear BK171; clear BK175; clear HB; have BK171 := n0_; have BK175 := n1_; have HB := n2_; clear n0_ n1_ n2_; (try clear hb); (try clear hb2); (try clear hk); (try clear hi)) | ((with_reducible refine gate_dst (N := 45) rfl ?_); refine Kd.R_lit (Kd.int .i64) _ 3 ?hg (N := 45) ?hd (xs := ([8, a0] : List Int)) (inner := [.int .i64 8, .int .i64 a0]) (ok := fun _ => True) (okp := fun _ => True) ?hr ?hp (fun _ hk => hk) trivial (Below.refl _ _) (Nat.le_refl _) (by simp) ?_; (case hd => rfl); (case hg => rfl); (case hr => first | (go_simp; done) | (go_simp; rfl)); (case hp => exact (Reps.one (show Kd.M (Kd.int .i64) _ _ _ 8 [.int .i64 8] from rfl) (Reps.one (show Kd.M (Kd.int .i64) _ _ _ a0 [.int .i64 a0] from rfl) (Reps.none _ _)))); intro v181 w98 ho99 hb hg_ hnew_; clear hg_ hnew_; (first | rw [← Ny180.out] at ho99 | (simp only [Int.reduceToNat] at ho99; rw [← Ny180.out] at ho99)); have n0_ := Aside0.mk (Kd.R_lower ho99 (below_size (by repeat (first | (with_reducible first | exact HB.out | apply below_alloc | apply pw_below_drewN | apply below_drew1 | refine below_set ?_ GE171.out | refine below_set ?_ GE175.out) | exact HB.out)))); have n1_ := Aside0.mk (blk_below (g := gb171) (o := .cells #[.int .i64 t168, .int .i64 t169] 24 (0, 0)) (by (with_reducible repeat (first | refine blk_drewN ?_ _ | refine blk_drew ?_ | refine blk_alloc ?_ _)); exact BK171.out) hb); have n2_ := Aside0.mk (blk_below (g := gb175) (o := .cells #[.int .i64 t172, .int .i64 t173] 24 (0, 0)) (by (with_reducible repeat (first | refine blk_drewN ?_ _ | refine blk_drew ?_ | refine blk_alloc ?_ _)); exact BK175.out) hb); have n3_ := Aside0.mk (below_step (by repeat (first | (with_reducible first | exact HB.out | apply below_alloc | apply pw_below_drewN | apply below_drew1 | refine below_set ?_ GE171.out | refine below_set ?_ GE175.out) | exact HB.out)) hb); clear BK171; clear BK175; clear HB; have HO182 := n0_; have BK171 := n1_; have BK175 := n2_; have HB := n3_; clear n0_ n1_ n2_ n3_; clear hb ho99; obtain ⟨Ao100, co100, eo100⟩ := Kd.R_slice HO182.out; subst eo100) | ((with_reducible refine gate_callee (f := 9) rfl ?_); refine goesL_ (some 46) rfl rfl Tryd.func9 (by kernel_rfl) rfl #[.slice Ao100 y180.length co100] rfl (by (try simp only [List.map_toArray, List.map_cons, List.map_nil]); first | done | rfl | (simp only [List.length_drop, List.length_take]; rfl)) ?_; (with_reducible refine (vetchref17_Times.calls k _ _ y180 t183 t184 _ ?side1 ?side2 A9.out).mono ?_); (case side1 => repeat (first | exact (Kd.R_reads' HO182.out).2.2 | (with_reducible refine Kd.C_alloc ?_ _) | (with_reducible refine Kd.C_drewN ?_ _) | (with_reducible refine Kd.C_drew ?_))); (case side2 => exact (Kd.R_reads' HO182.out).2.1); rintro e w' ⟨rfl, ⟨nd, rfl⟩⟩; refine ⟨_, rfl, ?_⟩) | ((with_reducible refine gate_dst (N := 51) rfl ?_); refine Kd.R_lit (Kd.int .i64) _ 3 ?hg (N := 51) ?hd (xs := ([2, a0] : List Int)) (inner := [.int .i64 2, .int .i64 a0]) (ok := fun _ => True) (okp := fun _ => True) ?hr ?hp (fun _ hk => hk) trivial (Below.refl _ _) (Nat.le_refl _) (by simp) ?_; (case hd => rfl); (case hg => rfl); (case hr => first | (go_simp; done) | (go_simp; rfl)); (case hp => exact (Reps.one (show Kd.M (Kd.int .i64) _ _ _ 2 [.int .i64 2] from rfl) (Reps.one (show Kd.M (Kd.int .i64) _ _ _ a0 [.int .i64 a0] from rfl) (Reps.none _ _)))); intro v186 w101 ho102 hb hg_ hnew_; clear hg_ hnew_; (first | rw [← Ny185.out] at ho102 | (simp only [Int.reduceToNat] at ho102; rw [← Ny185.out] at ho102)); have n0_ := Aside0.mk (Kd.R_elder' (by (with_reducible repeat (first | apply Kd.R_alloc | apply Kd.R_drewN | apply Kd.R_drew)); exact HO182.out) (Kd.R_base ho102) hb); have n1_ := Aside0.mk (Kd.R_lower (Kd.R_new' ho102 (Kd.R_lt (by (with_reducible repeat (first | apply Kd.R_alloc | apply Kd.R_drewN | apply Kd.R_drew)); exact HO182.out))) (below_size (by repeat (first | (with_reducible first | exact HB.out | apply below_alloc | apply pw_below_drewN | apply below_drew1 | refine below_set ?_ GE171.out | refine below_set ?_ GE175.out) | exact HB.out)))); have n2_ := Aside0.mk (blk_below (g := gb171) (o := .cells #[.int .i64 t168, .int .i64 t169] 24 (0, 0)) (by (with_reducible repeat (first | refine blk_drewN ?_ _ | refine blk_drew ?_ | refine blk_alloc ?_ _)); exact BK171.out) hb); have n3_ := Aside0.mk (blk_below (g := gb175) (o := .cells #[.int .i64 t172, .int .i64 t173] 24 (0, 0)) (by (with_reducible repeat (first | refine blk_drewN ?_ _ | refine blk_drew ?_ | refine blk_alloc ?_ _)); exact BK175.out) hb); have n4_ := Aside0.mk (below_step (by repeat (first | (with_reducible first | exact HB.out | apply below_alloc | apply pw_below_drewN | apply below_drew1 | refine below_set ?_ GE171.out | refine below_set ?_ GE175.out) | exact HB.out)) hb); clear HO182; clear BK171; clear BK175; clear HB; have HO182 := n0_; have HO187 := n1_; have BK171 := n2_; have BK175 := n3_; have HB := n4_; clear n0_ n1_ n2_ n3_ n4_; clear hb ho102; obtain ⟨Ao103, co103, eo103⟩ := Kd.R_slice HO187.out; subst eo103) | ((with_reducible refine gate_callee (f := 9) rfl ?_); refine goesL_ (some 52) rfl rfl Tryd.func9 (by kernel_rfl) rfl #[.slice Ao103 y185.length co103] rfl (by (try simp only [List.map_toArray, List.map_cons, List.map_nil]); first | done | rfl | (simp only [List.length_drop, List.length_take]; rfl)) ?_; (with_reducible refine (vetchref17_Times.calls k _ _ y185 t188 t189 _ ?side1 ?side2 A10.out).mono ?_); (case side1 => repeat (first | exact (Kd.R_reads' HO187.out).2.2 | (with_reducible refine Kd.C_alloc ?_ _) | (with_reducible refine Kd.C_drewN ?_ _) | (with_reducible refine Kd.C_drew ?_))); (case side2 => exact (Kd.R_reads' HO187.out).2.1); rintro e w' ⟨rfl, ⟨nd, rfl⟩⟩; refine ⟨_, rfl, ?_⟩))
   go_ret
   exact ⟨by first | rfl | (simp [errW_none, errW_some] <;> rfl) | (simp [*, errW_none, errW_some] <;> rfl), by repeat (first | (with_reducible first | exact HB.out | apply below_alloc | apply pw_below_drewN | apply below_drew1 | refine below_set ?_ GE171.out | refine below_set ?_ GE175.out) | exact HB.out)⟩
 ·
  replace c4 := Bool.eq_false_iff.mpr c4
  subst c4
  have H1 : (some false) = some r := by rw [if_neg (show ¬ (false = true) by decide)] at H; exact H
  clear H
  have H := H1
  clear H1
  obtain rfl := Option.some.inj H
  go_enter Tryd.func3, Tryd.ntmps3
  go_wp2_with (first | ((with_reducible refine gate_callee (f := 4) rfl ?_); refine goesL_ (some 19) rfl rfl Tryd.func4 (by kernel_rfl) rfl #[] rfl (by (try simp only [List.map_toArray, List.map_cons, List.map_nil]); first | done | rfl | (simp only [List.length_drop, List.length_take]; rfl)) ?_; (with_reducible refine (vetchlaw17_awake.calls k  false _ A3.out).mono ?_); rintro e w104 ⟨rfl, hb⟩; refine ⟨_, rfl, ?_⟩; have n0_ := Aside0.mk (below_step (by repeat (first | (with_reducible first | exact HB.out | apply below_alloc | apply pw_below_drewN | apply below_drew1) | exact HB.out)) hb); clear HB; have HB := n0_; clear n0_; (try clear hb); (try clear hb2); (try clear hk); (try clear hi)))
  go_ret
  exact ⟨by first | rfl | (simp [errW_none, errW_some] <;> rfl) | (simp [*, errW_none, errW_some] <;> rfl), by repeat (first | (with_reducible first | exact HB.out | apply below_alloc | apply pw_below_drewN | apply below_drew1) | exact HB.out)⟩
end Go.Proofs.YthabnmnhmioheaaDoor.V
namespace Go.Proofs.YthabnmnhmioheaaDoor.V
open Go.RowKit Go.Proofs.YthabnmnhmioheaaDoorW.PrintWords
set_option linter.unusedVariables false
def Ev {α : Type} (f : Nat → Option α) (v : α) : Prop := ∃ k, ∀ j, k ≤ j → f j = some v
section
variable {α β : Type}
theorem Ev.const (v : α) : Ev (fun _ => some v) v := ⟨0, fun _ _ => rfl⟩
theorem Ev.congr {f g : Nat → Option α} {v : α} (h : ∀ k, f k = g k) (hg : Ev g v) : Ev f v := by
  obtain ⟨k, hk⟩ := hg
  exact ⟨k, fun j hj => (h j).trans (hk j hj)⟩
theorem Ev.of_eq {f : Nat → Option α} {v : α} (h : ∀ k, f k = some v) : Ev f v := ⟨0, fun j _ => h j⟩
theorem Ev.succ {f g : Nat → Option α} {v : α} (h : ∀ k, f (k + 1) = g k) (hg : Ev g v) : Ev f v := by
  obtain ⟨k, hk⟩ := hg
  refine ⟨k + 1, fun j hj => ?_⟩
  cases j with
  | zero => omega
  | succ j => exact (h j).trans (hk j (by omega))
theorem Ev.bind {f : Nat → Option α} {g : Nat → α → Option β} {v : α} {u : β} (hf : Ev f v) (hg : Ev (fun k => g k v) u) : Ev (fun k => (f k).bind (g k)) u := by
  obtain ⟨k, hk⟩ := hf
  obtain ⟨m, hm⟩ := hg
  refine ⟨k + m, fun j hj => ?_⟩
  simp only [hk j (by omega), Option.bind_some]
  exact hm j (by omega)
theorem Ev.map {f : Nat → Option α} {g : α → Option β} {v : α} {u : β} (hf : Ev f v) (hg : g v = some u) : Ev (fun k => (f k).bind g) u := Ev.bind (g := fun _ => g) hf (Ev.of_eq fun _ => hg)
theorem Ev.out {f : Nat → Option α} {v : α} (h : Ev f v) : ∃ k, f k = some v := ⟨h.choose, h.choose_spec _ (Nat.le_refl _)⟩
end
end Go.Proofs.YthabnmnhmioheaaDoor.V
namespace Go.Proofs.YthabnmnhmioheaaDoor.Pure
open Go.RowKit Go.Proofs.YthabnmnhmioheaaDoor.V Go.Proofs.YthabnmnhmioheaaDoorW.PrintWords Go.Proofs.YthabnmnhmioheaaDoorW.PrintLast
set_option linter.unusedVariables false
set_option linter.unusedSimpArgs false
theorem mul_parts (a b : Int) : a * b = (a / 4294967296) * (b / 4294967296) * 18446744073709551616 + ((a / 4294967296) * (b % 4294967296) + (a % 4294967296) * (b / 4294967296)) * 4294967296 + (a % 4294967296) * (b % 4294967296) := by
  have ha : a = (a / 4294967296) * 4294967296 + a % 4294967296 := by omega
  have hb : b = (b / 4294967296) * 4294967296 + b % 4294967296 := by omega
  generalize hx : a / 4294967296 = x at *
  generalize hy : a % 4294967296 = y at *
  generalize hz : b / 4294967296 = z at *
  generalize hw : b % 4294967296 = w at *
  subst ha hb
  simp only [Int.add_mul, Int.mul_add]
  have e1 : x * 4294967296 * (z * 4294967296) = x * z * 18446744073709551616 := by
    rw [Int.mul_assoc x, Int.mul_left_comm 4294967296 z, ← Int.mul_assoc x z]; rfl
  have e2 : x * 4294967296 * w = x * w * 4294967296 := by rw [Int.mul_assoc, Int.mul_comm 4294967296 w, Int.mul_assoc]
  have e3 : y * (z * 4294967296) = y * z * 4294967296 := by rw [Int.mul_assoc]
  rw [e1, e2, e3]
  omega
theorem bd (x y : Int) (hx : 0 ≤ x ∧ x < 4294967296) (hy : 0 ≤ y ∧ y < 4294967296) : 0 ≤ x * y ∧ x * y ≤ 18446744065119617025 := by
  constructor
  · exact Int.mul_nonneg hx.1 hy.1
  · have := Int.mul_le_mul (show x ≤ 4294967295 by omega) (show y ≤ 4294967295 by omega) hy.1 (by omega)
    omega
theorem mul_hi (a b : Int) (ha : 0 ≤ a ∧ a < 18446744073709551616) (hb : 0 ≤ b ∧ b < 18446744073709551616) :
   let t := (a / 4294967296) * (b % 4294967296) + ((a % 4294967296) * (b % 4294967296)) / 4294967296
   t < 18446744073709551616 ∧ 0 ≤ t ∧ (t % 4294967296 + (a % 4294967296) * (b / 4294967296)) < 18446744073709551616 ∧ 0 ≤ (t % 4294967296 + (a % 4294967296) * (b / 4294967296)) ∧
   (a / 4294967296) * (b / 4294967296) + t / 4294967296 + (t % 4294967296 + (a % 4294967296) * (b / 4294967296)) / 4294967296 = a * b / 18446744073709551616 ∧
   0 ≤ a * b / 18446744073709551616 ∧ a * b / 18446744073709551616 < 18446744073709551616 := by
  have hm := mul_parts a b
  have h1 := bd (a / 4294967296) (b / 4294967296) (by omega) (by omega)
  have h2 := bd (a / 4294967296) (b % 4294967296) (by omega) (by omega)
  have h3 := bd (a % 4294967296) (b / 4294967296) (by omega) (by omega)
  have h4 := bd (a % 4294967296) (b % 4294967296) (by omega) (by omega)
  generalize (a / 4294967296) * (b / 4294967296) = p at *
  generalize (a / 4294967296) * (b % 4294967296) = q at *
  generalize (a % 4294967296) * (b / 4294967296) = r at *
  generalize (a % 4294967296) * (b % 4294967296) = s at *
  generalize a * b = m at *
  intro t
  have ht : t = q + s / 4294967296 := rfl
  clear_value t
  refine ⟨?_, ?_, ?_, ?_, ?_, ?_, ?_⟩ <;> omega
def tStep (s : Int × Bool) (n : Int) : Int × Bool := ((s.1 * n) % 9223372036854775808, s.2 && decide (s.1 * n < 9223372036854775808))
def tStart (l : List Int) : Int := if l.any (· == 0) then 0 else 1
def tRun (l : List Int) : Int × Bool := l.foldl tStep (tStart l, true)
def timesP (l : List Int) : Int × Bool :=
  if l.any (· < 0) then (0, false) else if (tRun l).2 then ((tRun l).1, true) else (0, false)
def prodL (l : List Int) : Int := l.foldl (· * ·) 1
def timesS (l : List Int) : Int × Bool :=
  if l.any (· < 0) then (0, false) else if l.any (· == 0) then (0, true) else if prodL l < 9223372036854775808 then (prodL l, true) else (0, false)
theorem foldl_mul (l : List Int) (a : Int) : l.foldl (· * ·) a = a * prodL l := by
  unfold prodL
  induction l generalizing a with
  | nil => simp
  | cons x l ih => simp only [List.foldl_cons]; rw [ih (a * x), ih (1 * x)]; rw [Int.one_mul, Int.mul_assoc]
theorem prodL_cons (x : Int) (l : List Int) : prodL (x :: l) = x * prodL l := by
  unfold prodL; rw [List.foldl_cons, foldl_mul, Int.one_mul]; rfl
theorem prodL_pos (l : List Int) (h : ∀ x ∈ l, 1 ≤ x) : 1 ≤ prodL l := by
  induction l with
  | nil => decide
  | cons x l ih =>
    rw [prodL_cons]
    have h1 := h x (by simp)
    have h2 := ih (fun y hy => h y (by simp [hy]))
    have := Int.mul_le_mul h1 h2 (by omega) (by omega)
    omega
theorem tRun_zero (l : List Int) (h : ∀ x ∈ l, 0 ≤ x) (b : Bool) : l.foldl tStep (0, b) = (0, b) := by
  induction l with
  | nil => rfl
  | cons x l ih =>
    rw [List.foldl_cons]
    have : tStep (0, b) x = (0, b) := by simp [tStep]
    rw [this]; exact ih (fun y hy => h y (by simp [hy]))
theorem tRun_bad (l : List Int) (a : Int) : (l.foldl tStep (a, false)).2 = false := by
  induction l generalizing a with
  | nil => rfl
  | cons x l ih => rw [List.foldl_cons]; simp only [tStep, Bool.false_and]; exact ih _
theorem tRun_pos (l : List Int) (h : ∀ x ∈ l, 1 ≤ x) (a : Int) (ha : 1 ≤ a) (hb : a < 9223372036854775808) :
    (a * prodL l < 9223372036854775808 → l.foldl tStep (a, true) = (a * prodL l, true)) ∧ (9223372036854775808 ≤ a * prodL l → (l.foldl tStep (a, true)).2 = false) := by
  induction l generalizing a with
  | nil => simp [prodL]; omega
  | cons x l ih =>
    have h1 := h x (by simp)
    have h2 := prodL_pos l (fun y hy => h y (by simp [hy]))
    have hax : 1 ≤ a * x := by have := Int.mul_le_mul ha h1 (by omega) (by omega); omega
    rw [prodL_cons, ← Int.mul_assoc, List.foldl_cons]
    by_cases hs : a * x < 9223372036854775808
    · have e : tStep (a, true) x = (a * x, true) := by
        simp only [tStep, Bool.true_and, hs, decide_true]
        rw [Int.emod_eq_of_lt (by omega) hs]
      rw [e]
      exact ih (fun y hy => h y (by simp [hy])) _ hax hs
    · have e : tStep (a, true) x = ((a * x) % 9223372036854775808, false) := by simp [tStep, hs]
      rw [e]
      refine ⟨fun hlt => ?_, fun _ => tRun_bad _ _⟩
      have : a * x * 1 ≤ a * x * prodL l := Int.mul_le_mul_of_nonneg_left h2 (by omega)
      omega
theorem timesP_eq (l : List Int) : timesP l = timesS l := by
  unfold timesP timesS
  by_cases hn : l.any (· < 0) = true
  · rw [if_pos hn, if_pos hn]
  · rw [if_neg hn, if_neg hn]
    have h0 : ∀ x ∈ l, 0 ≤ x := by
      intro x hx
      have : ¬ x < 0 := fun hlt => hn (List.any_eq_true.2 ⟨x, hx, by simpa using hlt⟩)
      omega
    by_cases hz : l.any (· == 0) = true
    · rw [if_pos hz]
      have e : tRun l = (0, true) := by unfold tRun tStart; rw [if_pos hz]; exact tRun_zero l h0 true
      rw [e]; rfl
    · rw [if_neg hz]
      have h1 : ∀ x ∈ l, 1 ≤ x := by
        intro x hx
        have h2 := h0 x hx
        have : ¬ x = 0 := fun hlt => hz (List.any_eq_true.2 ⟨x, hx, by simpa using hlt⟩)
        omega
      obtain ⟨ha, hb⟩ := tRun_pos l h1 1 (by omega) (by omega)
      rw [Int.one_mul] at ha hb
      have e : tRun l = l.foldl tStep (1, true) := by unfold tRun tStart; rw [if_neg hz]
      by_cases hp : prodL l < 9223372036854775808
      · rw [if_pos hp, e, ha hp]; rfl
      · rw [if_neg hp, e, hb (by omega)]; rfl
theorem mul64_f (a b : Int) (ha : 0 ≤ a ∧ a < 18446744073709551616) (hb : 0 ≤ b ∧ b < 18446744073709551616) :
    bits_Mul64.f a b = some (a * b / 18446744073709551616, a * b % 18446744073709551616) := by
  have h1 := bd (a / 4294967296) (b / 4294967296) (by omega) (by omega)
  have h2 := bd (a / 4294967296) (b % 4294967296) (by omega) (by omega)
  have h3 := bd (a % 4294967296) (b / 4294967296) (by omega) (by omega)
  have h4 := bd (a % 4294967296) (b % 4294967296) (by omega) (by omega)
  obtain ⟨t1, t2, t3, t4, t5, t6, t7⟩ := mul_hi a b ha hb
  unfold bits_Mul64.f
  rw [and_low32 a ha.1 ha.2, and_low32 b hb.1 hb.2]
  rw [IntWalk.u64_in (a / 4294967296 * (b / 4294967296)) (by omega), IntWalk.u64_in (a / 4294967296 * (b % 4294967296)) (by omega), IntWalk.u64_in (a % 4294967296 * (b % 4294967296)) (by omega), IntWalk.u64_in (a % 4294967296 * (b / 4294967296)) (by omega)]
  generalize (a / 4294967296) * (b / 4294967296) = p at *
  generalize (a / 4294967296) * (b % 4294967296) = q at *
  generalize (a % 4294967296) * (b / 4294967296) = r at *
  generalize (a % 4294967296) * (b % 4294967296) = s at *
  rw [IntWalk.u64_in (q + s / 4294967296) (by omega)]
  rw [and_low32 _ t2 t1, IntWalk.u64_in (_ % 4294967296 + r) (by omega), IntWalk.u64_in (p + _) (by omega), IntWalk.u64_in (p + _ + _) (by omega), t5]
  have e : IntKind.u64.wrap (a * b) = a * b % 18446744073709551616 := by simp [IntKind.wrap, IntKind.bits, IntKind.signed]
  rw [e]
theorem and_low63 (z : Int) (h0 : 0 ≤ z) (h1 : z < 18446744073709551616) : bits .and .u64 z 9223372036854775807 = z % 9223372036854775808 := by
  rw [u64_and z _ h0 h1 (by omega) (by omega)]
  obtain ⟨n, rfl⟩ := Int.eq_ofNat_of_zero_le h0
  rw [show (9223372036854775807 : Int).toNat = 2 ^ 63 - 1 from rfl, Int.toNat_natCast, Nat.and_two_pow_sub_one_eq_mod]
  rfl
def tEnd (s : Int × Bool) : Int × Bool := if s.2 then (s.1, true) else (0, false)
theorem drop_cons (xs : List Int) (i : Int) (h0 : 0 ≤ i) (h1 : i < xs.length) : xs.drop i.toNat = rd xs i :: xs.drop (i + 1).toNat := by
  have e : (i + 1).toNat = i.toNat + 1 := by omega
  have hl : i.toNat < xs.length := by omega
  rw [e, List.drop_eq_getElem_cons hl]
  simp [rd, List.getD_eq_getElem?_getD, List.getElem?_eq_getElem hl]
theorem rd_mem (xs : List Int) (i : Int) (h0 : 0 ≤ i) (h1 : i < xs.length) : rd xs i ∈ xs := by
  have hl : i.toNat < xs.length := by omega
  simp [rd, List.getD_eq_getElem?_getD, List.getElem?_eq_getElem hl]
theorem w64 (n : Int) (h : -9223372036854775808 ≤ n ∧ n ≤ 9223372036854775807) : wrap64 n = n := by unfold wrap64; omega
theorem times_l1 (xs : List Int) (hx : ∀ x ∈ xs, 0 ≤ x ∧ x ≤ 9223372036854775807) (hl : xs.length ≤ 9223372036854775807) (d : Nat) : ∀ (k : Nat) (a : Int) (b : Bool) (i : Int), 0 ≤ i → i ≤ xs.length → (xs.length : Int) - i = d → d < k → 0 ≤ a → a < 9223372036854775808 →
    limit_Times.l1 k a b xs (xs.length : Int) i = some (tEnd ((xs.drop i.toNat).foldl tStep (a, b))) := by
  induction d with
  | zero =>
    intro k a b i h0 h1 hd hk ha hb
    obtain ⟨k, rfl⟩ : ∃ m, k = m + 1 := ⟨k - 1, by omega⟩
    have e : xs.drop i.toNat = [] := List.drop_eq_nil_of_le (by omega)
    simp only [limit_Times.l1]; rw [if_neg (by omega), e]
    cases b <;> rfl
  | succ d ih =>
    intro k a b i h0 h1 hd hk ha hb
    obtain ⟨k, rfl⟩ : ∃ m, k = m + 1 := ⟨k - 1, by omega⟩
    have hlt : i < xs.length := by omega
    obtain ⟨hn0, hn1⟩ := hx _ (rd_mem xs i h0 hlt)
    have hab : 0 ≤ a * rd xs i := Int.mul_nonneg ha hn0
    have hab2 : a * rd xs i ≤ 9223372036854775807 * 9223372036854775807 := Int.mul_le_mul (by omega) hn1 hn0 (by omega)
    simp only [limit_Times.l1]; rw [if_pos (by omega), if_pos h0, if_pos hlt, IntWalk.u64_in a (by omega), IntWalk.u64_in (rd xs i) (by omega), mul64_f _ _ (by omega) (by omega)]
    simp only [Option.bind_some]
    rw [drop_cons xs i h0 hlt, List.foldl_cons, and_low63 _ (by omega) (by omega), w64 (_ % _) (by omega), w64 (i + 1) (by omega)]
    have em : a * rd xs i % 18446744073709551616 % 9223372036854775808 = (a * rd xs i) % 9223372036854775808 := by omega
    rw [em]
    have ht : tStep (a, b) (rd xs i) = ((a * rd xs i) % 9223372036854775808, b && decide (a * rd xs i < 9223372036854775808)) := rfl
    rw [ht]
    cases b with
    | false =>
      rw [if_neg (by decide)]
      rw [ih k _ _ (i + 1) (by omega) (by omega) (by omega) (by omega) (by omega) (by omega)]
      rfl
    | true =>
      rw [if_pos rfl]
      by_cases hc : a * rd xs i / 18446744073709551616 = 0
      · rw [if_pos hc, ih k _ _ (i + 1) (by omega) (by omega) (by omega) (by omega) (by omega) (by omega)]
        have : decide (a * rd xs i % 18446744073709551616 ≤ 9223372036854775807) = (true && decide (a * rd xs i < 9223372036854775808)) := by
          rw [Bool.true_and]; exact decide_eq_decide.2 (by omega)
        rw [this]
      · rw [if_neg hc, ih k _ _ (i + 1) (by omega) (by omega) (by omega) (by omega) (by omega) (by omega)]
        have : false = (true && decide (a * rd xs i < 9223372036854775808)) := by
          rw [Bool.true_and]; exact (decide_eq_false (by omega)).symm
        rw [← this]
def tHead (a : Int) (l : List Int) : Int := if l.any (· == 0) then 0 else a
theorem times_l0 (xs : List Int) (hl : xs.length ≤ 9223372036854775807) (d : Nat) : ∀ (k : Nat) (a : Int) (b : Bool) (i : Int), 0 ≤ i → i ≤ xs.length → (xs.length : Int) - i = d → d < k →
    (∀ j : Int, 0 ≤ j → j < i → 0 ≤ rd xs j) →
    (((xs.drop i.toNat).any (· < 0) = true → limit_Times.l0 k xs a b xs (xs.length : Int) i = some (0, false)) ∧
     ((xs.drop i.toNat).any (· < 0) = false → ∃ k', k ≤ k' + d + 1 ∧ limit_Times.l0 k xs a b xs (xs.length : Int) i = limit_Times.l1 k' (tHead a (xs.drop i.toNat)) b xs (xs.length : Int) 0)) := by
  induction d with
  | zero =>
    intro k a b i h0 h1 hd hk hp
    obtain ⟨k, rfl⟩ : ∃ m, k = m + 1 := ⟨k - 1, by omega⟩
    have e : xs.drop i.toNat = [] := List.drop_eq_nil_of_le (by omega)
    rw [e]
    refine ⟨fun h => by simp at h, fun _ => ⟨k, by omega, ?_⟩⟩
    simp only [limit_Times.l0]; rw [if_neg (by omega)]; rfl
  | succ d ih =>
    intro k a b i h0 h1 hd hk hp
    obtain ⟨k, rfl⟩ : ∃ m, k = m + 1 := ⟨k - 1, by omega⟩
    have hlt : i < xs.length := by omega
    rw [drop_cons xs i h0 hlt]
    simp only [limit_Times.l0]; rw [if_pos (by omega), if_pos h0, if_pos hlt]
    by_cases hn : rd xs i < 0
    · rw [if_pos hn]
      refine ⟨fun _ => rfl, fun h => ?_⟩
      simp [hn] at h
    · rw [if_neg hn, w64 (i + 1) (by omega)]
      have hp' : ∀ j : Int, 0 ≤ j → j < i + 1 → 0 ≤ rd xs j := by
        intro j j0 j1
        by_cases hj : j < i
        · exact hp j j0 hj
        · obtain rfl : j = i := by omega
          omega
      have e1 : ((rd xs i :: xs.drop (i + 1).toNat).any (· < 0)) = (xs.drop (i + 1).toNat).any (· < 0) := by simp [hn]
      rw [e1]
      by_cases hz : rd xs i = 0
      · rw [if_pos hz]
        obtain ⟨g1, g2⟩ := ih k 0 b (i + 1) (by omega) (by omega) (by omega) (by omega) hp'
        refine ⟨g1, fun h => ?_⟩
        obtain ⟨k', hk', he⟩ := g2 h
        refine ⟨k', by omega, ?_⟩
        rw [he]
        congr 1
        unfold tHead
        simp [hz]
      · rw [if_neg hz]
        obtain ⟨g1, g2⟩ := ih k a b (i + 1) (by omega) (by omega) (by omega) (by omega) hp'
        refine ⟨g1, fun h => ?_⟩
        obtain ⟨k', hk', he⟩ := g2 h
        refine ⟨k', by omega, ?_⟩
        rw [he]
        congr 1
        unfold tHead
        simp [hz]
theorem times_f (k : Nat) (xs : List Int) (hx : ∀ x ∈ xs, x ≤ 9223372036854775807) (hl : xs.length ≤ 9223372036854775807) (hk : 2 * xs.length + 2 ≤ k) : limit_Times.f k xs = some (timesS xs) := by
  rw [← timesP_eq]
  unfold limit_Times.f timesP
  obtain ⟨g1, g2⟩ := times_l0 xs hl xs.length k 1 true 0 (by omega) (by omega) (by omega) (by omega) (by omega)
  by_cases hn : xs.any (· < 0) = true
  · rw [if_pos hn]; exact g1 hn
  · rw [if_neg hn]
    obtain ⟨k', hk', he⟩ := g2 (by simpa using hn)
    rw [he]
    have h0 : ∀ x ∈ xs, 0 ≤ x ∧ x ≤ 9223372036854775807 := by
      intro x hm
      have : ¬ x < 0 := fun hlt => hn (List.any_eq_true.2 ⟨x, hm, by simpa using hlt⟩)
      exact ⟨by omega, hx x hm⟩
    have ht : 0 ≤ tHead 1 (xs.drop (0 : Int).toNat) ∧ tHead 1 (xs.drop (0 : Int).toNat) ≤ 1 := by unfold tHead; split <;> omega
    rw [times_l1 xs h0 hl xs.length k' _ _ 0 (by omega) (by omega) (by omega) (by omega) (by omega) (by omega)]
    rfl
theorem times3 (c m n : Int) (hc : 1 ≤ c) (hm : 1 ≤ m) (hn : 1 ≤ n) : timesS [c, m, n] = if c * (m * n) < 9223372036854775808 then (c * (m * n), true) else (0, false) := by
  have e : prodL [c, m, n] = c * (m * n) := by simp [prodL, Int.mul_assoc]
  unfold timesS
  rw [if_neg (by simp; omega), if_neg (by simp; omega), e]
theorem wf64 {n : Int} (h : (Lit.int .i64 n).wf = true) : -9223372036854775808 ≤ n ∧ n ≤ 9223372036854775807 := by
  simp [Lit.wf, IntKind.min, IntKind.max, IntKind.signed, IntKind.bits] at h; omega
theorem enough_in (k : Nat) (m n : Int) (hk : 20 ≤ k) (hm : 1 ≤ m) (hm' : m ≤ 9223372036854775807) (hn : 0 ≤ n) (hn' : n < 9223372036854775807) :
    limit_Enough.f k m n = some (if 8 * (m * (n + 1)) < 9223372036854775808 then (8 * (m * (n + 1)), 2 * (m * (n + 1)), none) else (0, 0, some 9)) := by
  obtain ⟨k, rfl⟩ : ∃ j, k = j + 1 := ⟨k - 1, by omega⟩
  unfold limit_Enough.f
  rw [if_neg (by omega), decide_eq_false (by omega)]
  simp only [limit_Enough.j0]
  rw [if_neg (by decide), if_neg (by omega), w64 (n + 1) (by omega)]
  rw [times_f k [8, m, n + 1] (by simp; omega) (by simp) (by simp; omega), times_f k [2, m, n + 1] (by simp; omega) (by simp) (by simp; omega)]
  rw [times3 8 m (n + 1) (by omega) hm (by omega), times3 2 m (n + 1) (by omega) hm (by omega)]
  simp only [Option.bind_some]
  have hp : 0 ≤ m * (n + 1) := Int.mul_nonneg (by omega) (by omega)
  by_cases h : 8 * (m * (n + 1)) < 9223372036854775808
  · rw [if_pos h, if_pos (show 2 * (m * (n + 1)) < 9223372036854775808 by omega), if_pos rfl, if_pos rfl, if_pos h]
  · rw [if_neg h, if_neg (by decide), if_neg h]
theorem enough_wrong (k : Nat) (m n : Int) (hk : 20 ≤ k) (h : m < 1 ∨ n < 0) : limit_Enough.f k m n = some (0, 0, some 10) := by
  obtain ⟨k, rfl⟩ : ∃ j, k = j + 1 := ⟨k - 1, by omega⟩
  unfold limit_Enough.f
  by_cases hm : m < 1
  · rw [if_pos hm]; simp [limit_Enough.j0]
  · rw [if_neg hm, decide_eq_true (by omega)]; simp [limit_Enough.j0]
theorem enough_most (k : Nat) (m : Int) (hk : 20 ≤ k) (hm : 1 ≤ m) : limit_Enough.f k m 9223372036854775807 = some (0, 0, some 9) := by
  obtain ⟨k, rfl⟩ : ∃ j, k = j + 1 := ⟨k - 1, by omega⟩
  unfold limit_Enough.f
  rw [if_neg (by omega)]; simp [limit_Enough.j0]
theorem awake_20 : vetchlaw17_awake.f 20 = some true := by decide +kernel
theorem awake_f (k : Nat) (hk : 20 ≤ k) : vetchlaw17_awake.f k = some true := at_rounds vetchlaw17_awake.mono hk awake_20
theorem ref_l1 (xs : List Int) (hx : ∀ x ∈ xs, 1 ≤ x ∧ x ≤ 9223372036854775807) (hl : xs.length ≤ 9223372036854775806) : ∀ (d : Nat) (a : Int) (i : Int), 0 ≤ i → i.toNat + d = xs.length → 1 ≤ a → a ≤ 9223372036854775807 →
    V.Ev (fun k => vetchref17_Times.l1 k xs a i) (if a * prodL (xs.drop i.toNat) < 9223372036854775808 then (a * prodL (xs.drop i.toNat), true) else (0, false)) := by
  intro d
  induction d with
  | zero =>
    intro a i h0 hd ha1 ha2
    rw [List.drop_eq_nil_of_le (by omega)]
    have e : a * prodL [] = a := by simp [prodL]
    rw [e, if_pos (by omega)]
    exact V.Ev.succ (g := fun _ => some (a, true)) (fun k => by rw [vetchref17_Times.l1, if_neg (by omega)]) (V.Ev.const _)
  | succ d ih =>
    intro a i h0 hd ha1 ha2
    have hlt : i < (xs.length : Int) := by omega
    obtain ⟨n1, n2⟩ := hx _ (rd_mem xs i h0 hlt)
    rw [drop_cons xs i h0 hlt, prodL_cons, ← Int.mul_assoc]
    have hpos : 1 ≤ prodL (xs.drop (i + 1).toNat) := prodL_pos _ (fun x hm => (hx x (List.mem_of_mem_drop hm)).1)
    have hq0 : 0 ≤ 9223372036854775807 / rd xs i := Int.ediv_nonneg (by decide) (by omega)
    have hq1 : 9223372036854775807 / rd xs i ≤ 9223372036854775807 := Int.ediv_le_self _ (by decide)
    have hiff : 9223372036854775807 / rd xs i < a ↔ 9223372036854775807 < a * rd xs i := Int.ediv_lt_iff_lt_mul (by omega)
    by_cases c : a > wrap64 (9223372036854775807 / rd xs i)
    · have c' : 9223372036854775807 < a * rd xs i := hiff.1 (by rw [w64 _ ⟨by omega, hq1⟩] at c; exact c)
      have hge : a * rd xs i ≤ a * rd xs i * prodL (xs.drop (i + 1).toNat) := by
        have := Int.mul_le_mul_of_nonneg_left hpos (show 0 ≤ a * rd xs i by omega)
        rwa [Int.mul_one] at this
      rw [if_neg (by omega)]
      exact V.Ev.succ (g := fun _ => some (0, false)) (fun k => by rw [vetchref17_Times.l1, if_pos hlt, if_pos h0, if_neg (by omega), if_pos c]) (V.Ev.const _)
    · have c' : ¬ 9223372036854775807 < a * rd xs i := fun h => c (by rw [w64 _ ⟨by omega, hq1⟩]; exact hiff.2 h)
      have hm1 : 1 ≤ a * rd xs i := by
        have := Int.mul_le_mul ha1 n1 (by decide) (by omega)
        rwa [Int.mul_one] at this
      refine V.Ev.succ (fun k => ?_) (ih (a * rd xs i) (i + 1) (by omega) (by omega) hm1 (by omega))
      rw [vetchref17_Times.l1, if_pos hlt, if_pos h0, if_neg (by omega), if_neg c, w64 (a * rd xs i) (by omega), w64 (i + 1) (by omega)]
theorem ref_l0 (xs : List Int) (hx : ∀ x ∈ xs, x ≤ 9223372036854775807) (hl : xs.length ≤ 9223372036854775806) : ∀ (d : Nat) (z : Bool) (i : Int), 0 ≤ i → i.toNat + d = xs.length → (z = true ↔ (xs.take i.toNat).any (· == 0) = true) → (xs.take i.toNat).any (· < 0) = false →
    V.Ev (fun k => vetchref17_Times.l0 k xs z i) (timesS xs) := by
  intro d
  induction d with
  | zero =>
    intro z i h0 hd hz hneg
    rw [List.take_of_length_le (by omega)] at hz hneg
    have step : ∀ k, vetchref17_Times.l0 (k + 1) xs z i = if z = true then some (0, true) else vetchref17_Times.l1 k xs 1 0 := fun k => by rw [vetchref17_Times.l0, if_neg (by omega)]
    unfold timesS
    rw [if_neg (by rw [hneg]; decide)]
    by_cases c : z = true
    · rw [if_pos (hz.1 c)]
      exact V.Ev.succ step (V.Ev.of_eq fun _ => if_pos c)
    · rw [if_neg (fun h => c (hz.2 h))]
      have hall : ∀ x ∈ xs, 1 ≤ x ∧ x ≤ 9223372036854775807 := fun x hm => by
        have h1 : ¬ x < 0 := fun h => by
          have : xs.any (· < 0) = true := List.any_eq_true.2 ⟨x, hm, by simpa using h⟩
          rw [hneg] at this
          exact absurd this (by decide)
        have h2 : ¬ x = 0 := fun h => c (hz.2 (List.any_eq_true.2 ⟨x, hm, by simpa using h⟩))
        exact ⟨by omega, hx x hm⟩
      have := ref_l1 xs hall hl xs.length 1 0 (Int.le_refl _) (by simp) (by decide) (by decide)
      simp only [Int.toNat_zero, List.drop_zero, Int.one_mul] at this
      exact V.Ev.succ step (V.Ev.congr (fun _ => if_neg c) this)
  | succ d ih =>
    intro z i h0 hd hz hneg
    have hlt : i < (xs.length : Int) := by omega
    have htake : xs.take (i + 1).toNat = xs.take i.toNat ++ [rd xs i] := by
      have h : i.toNat < xs.length := by omega
      rw [show (i + 1).toNat = i.toNat + 1 by omega, List.take_succ_eq_append_getElem h]
      unfold rd
      rw [List.getD_eq_getElem?_getD, List.getElem?_eq_getElem h]
      rfl
    by_cases cn : rd xs i < 0
    · unfold timesS
      rw [if_pos (List.any_eq_true.2 ⟨_, rd_mem xs i h0 hlt, by simpa using cn⟩)]
      exact V.Ev.succ (g := fun _ => some (0, false)) (fun k => by rw [vetchref17_Times.l0, if_pos hlt, if_pos h0, if_pos cn]) (V.Ev.const _)
    · have hneg' : (xs.take (i + 1).toNat).any (· < 0) = false := by rw [htake, List.any_append, hneg]; simp; omega
      by_cases cz : z = true
      · refine V.Ev.succ (fun k => ?_) (ih true (i + 1) (by omega) (by omega) (by rw [htake, List.any_append, hz.1 cz]; simp) hneg')
        rw [vetchref17_Times.l0, if_pos hlt, if_pos h0, if_neg cn, if_pos cz, w64 (i + 1) (by omega)]
      · have hz0 : (xs.take i.toNat).any (· == 0) = false := by
          cases h : (xs.take i.toNat).any (· == 0) with
          | false => rfl
          | true => exact absurd (hz.2 h) cz
        refine V.Ev.succ (fun k => ?_) (ih (rd xs i == 0) (i + 1) (by omega) (by omega) (by rw [htake, List.any_append, hz0]; simp) hneg')
        rw [vetchref17_Times.l0, if_pos hlt, if_pos h0, if_neg cn, if_neg cz, w64 (i + 1) (by omega)]
theorem refTimes_ev (xs : List Int) (hx : ∀ x ∈ xs, x ≤ 9223372036854775807) (hl : xs.length ≤ 9223372036854775806) : V.Ev (fun k => vetchref17_Times.f k xs) (timesS xs) := by
  have h := ref_l0 xs hx hl xs.length false 0 (Int.le_refl _) (by simp) (by simp) (by simp)
  exact h
theorem limTimes_ev (xs : List Int) (hx : ∀ x ∈ xs, x ≤ 9223372036854775807) (hl : xs.length ≤ 1000) : V.Ev (fun k => limit_Times.f k xs) (timesS xs) := ⟨2 * xs.length + 2, fun j hj => times_f j xs hx (by omega) hj⟩
theorem refEnough_wrong (m n : Int) (h : m < 1 ∨ n < 0) : V.Ev (fun k => vetchref17_Enough.f k m n) (0, 0, 10) := by
  have e : ∀ k, vetchref17_Enough.f (k + 1) m n = some (0, 0, 10) := fun k => by
    unfold vetchref17_Enough.f
    by_cases hm : m < 1
    · rw [if_pos hm]; simp [vetchref17_Enough.j0]
    · rw [if_neg hm, decide_eq_true (by omega)]; simp [vetchref17_Enough.j0]
  exact V.Ev.succ (g := fun _ => some (0, 0, 10)) e (V.Ev.const _)
theorem refEnough_most (m : Int) (hm : 1 ≤ m) : V.Ev (fun k => vetchref17_Enough.f k m 9223372036854775807) (0, 0, 9) := by
  have e : ∀ k, vetchref17_Enough.f (k + 1) m 9223372036854775807 = some (0, 0, 9) := fun k => by
    unfold vetchref17_Enough.f
    rw [if_neg (by omega)]; simp [vetchref17_Enough.j0]
  exact V.Ev.succ (g := fun _ => some (0, 0, 9)) e (V.Ev.const _)
theorem refEnough_in (m n : Int) (hm : 1 ≤ m) (hm' : m ≤ 9223372036854775807) (hn : 0 ≤ n) (hn' : n < 9223372036854775807) :
    V.Ev (fun k => vetchref17_Enough.f k m n) (if 8 * (m * (n + 1)) < 9223372036854775808 then (8 * (m * (n + 1)), 2 * (m * (n + 1)), 0) else (0, 0, 9)) := by
  have hp : 0 ≤ m * (n + 1) := Int.mul_nonneg (by omega) (by omega)
  have ht := refTimes_ev [8, m, n + 1] (by simp; omega) (by simp)
  rw [times3 8 m (n + 1) (by omega) hm (by omega)] at ht
  have e : ∀ k, vetchref17_Enough.f (k + 1) m n = (vetchref17_Times.f k [8, m, n + 1]).bind fun bt => (if bt.2 = true then (some (bt.1, wrap64 (Int.tdiv bt.1 4), (0 : Int))) else (some (0, 0, 9))) := fun k => by
    unfold vetchref17_Enough.f
    rw [if_neg (by omega), decide_eq_false (by omega)]
    simp only [vetchref17_Enough.j0]
    rw [if_neg (by decide), if_neg (by omega), w64 (n + 1) (by omega)]
  refine V.Ev.succ e (V.Ev.bind ht ?_)
  by_cases h : 8 * (m * (n + 1)) < 9223372036854775808
  · rw [if_pos h, if_pos h]
    refine V.Ev.of_eq fun k => ?_
    have hd : Int.tdiv (8 * (m * (n + 1))) 4 = 2 * (m * (n + 1)) := by
      rw [Int.tdiv_eq_ediv_of_nonneg (by omega)]; omega
    rw [if_pos rfl, hd, w64 _ (by omega)]
  · rw [if_neg h, if_neg h]
    exact V.Ev.of_eq fun k => if_neg (by decide)
theorem matches_end (m n a b c : Int) (e : Option Int) (hm : m ≤ 9223372036854775807) (hE : V.Ev (fun k => limit_Enough.f k m n) (a, b, e)) (hR : V.Ev (fun k => vetchref17_Enough.f k m n) (a, b, c)) (hc : e.getD 0 = c) (h0 : e.isNone = (c == 0)) :
    ∃ k, vetchlaw17_LimitMatchesReference.f k m n = some true := by
  have h8 := limTimes_ev [8, m] (by simp; omega) (by simp)
  have h2 := limTimes_ev [2, m] (by simp; omega) (by simp)
  have r8 := refTimes_ev [8, m] (by simp; omega) (by simp)
  have r2 := refTimes_ev [2, m] (by simp; omega) (by simp)
  have hC : V.Ev (fun k => limit_C.f k m) (timesS [8, m]) := by unfold limit_C.f; exact V.Ev.bind h8 (V.Ev.of_eq fun k => rfl)
  have hQ : V.Ev (fun k => limit_R.f k m) (timesS [2, m]) := by unfold limit_R.f; exact V.Ev.bind h2 (V.Ev.of_eq fun k => rfl)
  have haw : V.Ev (fun k => vetchlaw17_awake.f k) true := ⟨20, fun j hj => awake_f j hj⟩
  refine (V.Ev.bind haw (V.Ev.congr (fun k => if_pos rfl) (V.Ev.bind hE (V.Ev.bind hR (V.Ev.bind hC (V.Ev.bind hQ (V.Ev.bind r8 (V.Ev.bind r2 (V.Ev.of_eq (v := true) fun k => ?_))))))))).out
  dsimp only
  rw [if_pos rfl, if_neg (by simp), if_pos rfl, if_neg (by simp), if_neg (by simp)]
  simp only [fault_Code.f, Option.bind_some]
  rw [if_pos hc]
  cases e with
  | none => have e : (c == 0) = true := h0.symm; rw [e]; rfl
  | some z => have e : (c == 0) = false := h0.symm; rw [e]; rfl
theorem limitMatchesReference (m n : Int) (w0 : (Lit.int .i64 m).wf = true) (w1 : (Lit.int .i64 n).wf = true) : ∃ k, vetchlaw17_LimitMatchesReference.f k m n = some true := by
  have hm := wf64 w0
  have hn := wf64 w1
  by_cases h : m < 1 ∨ n < 0
  · exact matches_end m n 0 0 10 (some 10) hm.2 ⟨20, fun j hj => enough_wrong j m n hj h⟩ (refEnough_wrong m n h) rfl rfl
  · by_cases hx : n = 9223372036854775807
    · subst hx
      exact matches_end m _ 0 0 9 (some 9) hm.2 ⟨20, fun j hj => enough_most j m hj (by omega)⟩ (refEnough_most m (by omega)) rfl rfl
    · have hE : V.Ev (fun k => limit_Enough.f k m n) (if 8 * (m * (n + 1)) < 9223372036854775808 then (8 * (m * (n + 1)), 2 * (m * (n + 1)), none) else (0, 0, some 9)) := ⟨20, fun j hj => enough_in j m n hj (by omega) hm.2 (by omega) (by omega)⟩
      have hR := refEnough_in m n (by omega) hm.2 (by omega) (by omega)
      by_cases hf : 8 * (m * (n + 1)) < 9223372036854775808
      · rw [if_pos hf] at hE hR
        exact matches_end m n _ _ 0 none hm.2 hE hR rfl rfl
      · rw [if_neg hf] at hE hR
        exact matches_end m n _ _ 9 (some 9) hm.2 hE hR rfl rfl
end Go.Proofs.YthabnmnhmioheaaDoor.Pure
namespace Go.Proofs.YthabnmnhmioheaaDoor.limitMatchesReference
open Go.ChangeShapes Go.WideShapes Go.ChangeAt Go.RowKit Go.Proofs.YthabnmnhmioheaaDoor.V
set_option linter.unusedVariables false
theorem own : ownKnob Tryd.prog.godebug = none := by kernel_rfl
theorem et : Tryd.prog.globalNamed "errors.errorType" = some 0 := by kernel_rfl
theorem rt : (Tryd.prog.cutTypes.find? (·.1 == "internal/reflectlite.rtype")).map (·.2) = some 61 := by kernel_rfl
theorem oneRow : ((List.range 104).filter fun t => Tryd.prog.rowNamed t [101, 114, 114, 111, 114]) = [26] := by kernel_rfl
theorem size : Tryd.prog.types.size = 104 := by kernel_rfl
theorem handle_of_laid {W : World} (h : laidMetH Tryd.prog [("errors.errorType", Rows.laid_errors_errorType)] W) : W.cell? ⟨0, 0, none⟩ = some (.iface 61 (.agg #[.pointer (some ⟨1, 26, none⟩)])) := by
  have h' : laidMet Tryd.prog [] W ∧ handlesMet Tryd.prog [("errors.errorType", Rows.laid_errors_errorType)] W := h
  obtain ⟨name, u, ty, e1, e2, e3, e4, e5⟩ := h'.2 _ (List.mem_singleton.2 rfl)
  have en : name = [101, 114, 114, 111, 114] := (Option.some.inj e1).symm
  subst en
  obtain rfl := Option.some.inj (rt.symm.trans e2)
  have hm : ty ∈ (List.range 104).filter fun t => Tryd.prog.rowNamed t [101, 114, 114, 111, 114] := List.mem_filter.2 ⟨List.mem_range.2 (by rw [← size]; exact e3), e4⟩
  rw [oneRow] at hm
  obtain rfl := List.mem_singleton.1 hm
  have hh : typeHandle Tryd.prog 26 = .pointer (some ⟨1, 26, none⟩) := by kernel_rfl
  rw [hh] at e5
  simpa using World.var?_cell et e5 0
noncomputable def laidWorld (os : Os) : World :=
  let w0 := World.holding Tryd.prog os ⟨#[], #[], []⟩
  { w0 with heap := w0.heap.modify 0 fun
      | .cells _ t frozen => .cells #[.iface 61 (.agg #[.pointer (some ⟨1, 26, none⟩)])] t frozen
      | o => o }
theorem laidWorld_met (os : Os) (args : Array Value) : laidMetH Tryd.prog [("errors.errorType", Rows.laid_errors_errorType)] ((laidWorld os).forCall (fun _ _ => 0) ⟨#[], args, []⟩).memory :=
  laidMetH_of_parts (laidMet_nil _ _) (by kernel_rfl)
set_option maxRecDepth 100000 in
theorem lifted (os : Os) (started : os.Started) (H : Type) (enc : TypeId × Value → H) :
    ReturnsInHanded {} Tryd.checked os 3 .any (fun w args => (Rows.limitMatchesReferenceSpec.pre enc Tryd.prog Tryd.f3 [] false w args ∧ laidMetH Tryd.prog [("errors.errorType", Rows.laid_errors_errorType)] w) ∧ sizedMet enc Tryd.prog Tryd.f3 (OpenSpec.ofChange Rows.limitMatchesReferenceSpec) false w args)
      (Rows.limitMatchesReferenceSpec.post enc Tryd.prog Tryd.f3 false true false false) := by
  refine returnsInHanded_of_change_and (C := Tryd.checked) (X := fun w _ => laidMetH Tryd.prog [("errors.errorType", Rows.laid_errors_errorType)] w) (fun _ _ _ hh h => h.of_heap hh) own started (by kernel_rfl) Tryd.func3
    (ChangeSpec.witness_at (enc := enc) (C := Tryd.checked) (os := os) (X := fun w _ => laidMetH Tryd.prog [("errors.errorType", Rows.laid_errors_errorType)] w) false (laidWorld os) #[.int .i64 0, .int .i64 0] 8 rfl (by kernel_rfl) (by kernel_rfl) (by kernel_rfl) (by kernel_rfl) (by kernel_rfl) (laidWorld_met os _)) ?_
  intro W base args ds gs before hval0 hW _ hsz0 hL _
  have hval : ∀ (j : Nat) t v, Tryd.f3.params[j]? = some t → args[j]? = some v → Value.okWide Tryd.prog W .any base t v := hval0
  have hW' := hW
  obtain ⟨p, q, hA0, hV, rfl, hfz, hnd⟩ := hW
  have hA : DataW.TrodAll enc Tryd.prog W 0 (fun _ => true) true Tryd.f3.params.toList args.toList ds p := hA0
  rw [Tryd.params3] at hA hval
  obtain ⟨v0, vs0, d0, ds0, p0, q0, hargs, rfl, rfl, h0, r0⟩ := trodAll_cons hA
  obtain ⟨v1, vs1, d1, ds1, p1, q1, rfl, rfl, rfl, h1, r1⟩ := trodAll_cons r0
  obtain ⟨rfl, rfl, rfl⟩ := trodAll_nil r1
  obtain rfl : args = #[v0, v1] := by cases args; simp_all
  obtain ⟨rfl, rfl⟩ := trodVars_none hV
  obtain ⟨a0, rfl, rfl, rfl, w0⟩ := open_int Tryd.underlying3 (hval 0 3 v0 rfl rfl) h0
  obtain ⟨a1, rfl, rfl, rfl, w1⟩ := open_int Tryd.underlying3 (hval 1 3 v1 rfl rfl) h1
  clear hA0 hval0 hsz0
  have hg := handle_of_laid hL
  obtain ⟨k, hk⟩ := Pure.limitMatchesReference a0 a1 w0 w1
  refine (vetchlaw17_LimitMatchesReference.calls k a0 a1 true W hg hk).mono fun e W' ⟨he, bel⟩ => ?_
  subst he
  exact ⟨_, rfl, _, _, _, [], _, [], hW', trodAll_mk1 (shut_bool Tryd.underlying4 _), (trodAll_cons_mk (shut_int Tryd.underlying3 w0) (trodAll_cons_mk (shut_int Tryd.underlying3 w1) trodAll_mk0)), rfl, bel.frame _, fun h => by cases h⟩
theorem over : Rows.limitMatchesReferenceRow.holds Tryd.pinned (OpenSpec.ofChange Rows.limitMatchesReferenceSpec) :=
  OpenClaim.holds_of_wide 3 Tryd.f3 rfl rfl rfl rfl rfl rfl rfl ⟨rfl, rfl, rfl, rfl, rfl⟩ rfl rfl rfl rfl rfl (by kernel_rfl) Tryd.func3 (by kernel_rfl)
    (of_decide_eq_true (by kernel_rfl)) (by unfold Func.isWrapper; first | (rw [if_pos (by decide +kernel)]; kernel_rfl) | (rw [if_neg (by decide +kernel)]; exact ⟨rfl, rfl⟩))
    (fun os started H enc _ => lifted os started H enc)
theorem card_holds : Rows.LimitMatchesReferenceCardSaid :=
  Claim7.holds_tied_plain_at .later [] [.handle] true (true, "ec408c82554299f558140b8ad598166b13d4d945df3e884b6eec65a25e428a4f") true
    over (fun _ h => by cases h) (by kernel_rfl) (fun _ h => by cases h) limitMatchesReference_row_tie rfl ⟨rfl, rfl⟩ (by kernel_rfl) rfl
    (fun f fn hf hfn => by
      obtain rfl : f = 3 := Option.some.inj ((show Tryd.prog.funcNamed "vetch/vetchlaw17.LimitMatchesReference" = some 3 by kernel_rfl).symm.trans hf) |>.symm
      obtain rfl : fn = Tryd.f3 := (Option.some.inj (Tryd.func3.symm.trans hfn)).symm
      exact ⟨by kernel_rfl, fun j t ht => by
        rw [Tryd.params3] at ht
        have h3 : t = 3 := by
          rcases j with _ | _ | j
          · simpa using ht.symm
          · simpa using ht.symm
          · simp at ht
        subst h3
        exact (show Tryd.prog.wantsStandIn 3 = false by kernel_rfl)⟩)
    (by kernel_rfl)
end Go.Proofs.YthabnmnhmioheaaDoor.limitMatchesReference
namespace Go.Proofs.YthabnmnhmioheaaDoor
theorem limitMatchesReference_holds : Rows.LimitMatchesReferenceCardSaid := limitMatchesReference.card_holds
#print axioms limitMatchesReference_holds
end Go.Proofs.YthabnmnhmioheaaDoor
