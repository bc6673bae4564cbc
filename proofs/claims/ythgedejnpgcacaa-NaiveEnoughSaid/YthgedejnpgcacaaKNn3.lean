/- The law NaiveEnough returns true whatever comes in, and leaves its arguments as they were. No condition. -/
import Derived.Test.YthgedejnpgcacaaKNn2
import Derived.StillTailTactics
namespace Go.Proofs.Ythgedejnpgcacaa.V
open Go.RowKit Go.Proofs.YthgedejnpgcacaaW.PrintWords Go.Proofs.YthgedejnpgcacaaW.PrintLast Go.Proofs.YthgedejnpgcacaaW.PrintMore
attribute [local go_sem] max2_int min2_int max_two min_two max_three min_three max_four min_four tdiv_most
set_option linter.unusedVariables false
set_option linter.unusedSimpArgs false
mutual
def vetchref05_Check.j0 : Nat → Bool → List (S51) → List (S56) → Option (ByteArray × Int × Int)
 | 0, _, _, _ => none
 | k + 1, x18, x211000, x211001 => if x18 = true then (some ((⟨#[]⟩ : ByteArray), 4, 0)) else (if (x211000.length : Int) = 0 then (some ((⟨#[114, 117, 108, 101, 115]⟩ : ByteArray), 10, 0)) else (vetchref05_Check.l0 k 0 x211000 x211001))
def vetchref05_Check.l0 : Nat → Int → List (S51) → List (S56) → Option (ByteArray × Int × Int)
 | 0, _, _, _ => none
 | k + 1, x5, x211000, x211001 => if x5 < (x211000.length : Int) then (if 0 ≤ x5 then ((vetchref04_Name.f k ((rd_T51 x211000 x5).f0)).bind fun t212 => (if t212 = true then (vetchref05_Check.l1 k x5 0 x211000 x211001) else (some ((⟨#[114, 117, 108, 101, 115]⟩ : ByteArray), 10, x5)))) else (none)) else (vetchref05_Check.l2 k 0 x211000 x211001)
def vetchref05_Check.l1 : Nat → Int → Int → List (S51) → List (S56) → Option (ByteArray × Int × Int)
 | 0, _, _, _, _ => none
 | k + 1, x5, x6, x211000, x211001 => if x6 < x5 then (if 0 ≤ x6 then (if x6 < (x211000.length : Int) then (if 0 ≤ x5 then (if x5 < (x211000.length : Int) then (if ((rd_T51 x211000 x6).f0).toList = ((rd_T51 x211000 x5).f0).toList then (some ((⟨#[114, 117, 108, 101, 115]⟩ : ByteArray), 10, x5)) else (vetchref05_Check.l1 k x5 (wrap64 (x6 + 1)) x211000 x211001)) else (none)) else (none)) else (none)) else (none)) else (vetchref05_Check.l0 k (wrap64 (x5 + 1)) x211000 x211001)
def vetchref05_Check.l2 : Nat → Int → List (S51) → List (S56) → Option (ByteArray × Int × Int)
 | 0, _, _, _ => none
 | k + 1, x7, x211000, x211001 => if x7 < (x211001.length : Int) then (if 0 ≤ x7 then ((vetchref05_Made.f k ((rd_T56 x211001 x7).f0) ((rd_T56 x211001 x7).f1) ((rd_T56 x211001 x7).f2) ((rd_T56 x211001 x7).f3.f0) ((rd_T56 x211001 x7).f3.f1) ((rd_T56 x211001 x7).f3.f2) ((rd_T56 x211001 x7).f3.f3) (x211000.length : Int)).bind fun t216 => (if t216 = true then (vetchref05_Check.l2 k (wrap64 (x7 + 1)) x211000 x211001) else (some ((⟨#[110, 111, 100, 101, 115]⟩ : ByteArray), 10, x7)))) else (none)) else ((vetchref05_Ordered.f k x211000 x211001).bind fun t217 => (if t217 = true then (vetchref05_Check.l3 k 0 x211000 x211001) else (some ((⟨#[]⟩ : ByteArray), 10, 0))))
def vetchref05_Check.l3 : Nat → Int → List (S51) → List (S56) → Option (ByteArray × Int × Int)
 | 0, _, _, _ => none
 | k + 1, x8, x211000, x211001 => if x8 < (x211001.length : Int) then ((vetchref05_Depth.f k x211000 x211001 x8 205).bind fun t218 => (if t218 > 200 then (some ((⟨#[110, 111, 100, 101, 115]⟩ : ByteArray), 5, x8)) else (vetchref05_Check.l3 k (wrap64 (x8 + 1)) x211000 x211001))) else (some ((⟨#[]⟩ : ByteArray), 0, 0))
end
def vetchref05_Check.f (k : Nat) (l0_0 : List (S51)) (l0_1 : List (S56)) : Option (ByteArray × Int × Int) := if (l0_0.length : Int) > 1000 then (vetchref05_Check.j0 k true l0_0 l0_1) else (vetchref05_Check.j0 k (decide ((l0_1.length : Int) > 10000)) l0_0 l0_1)
def vetchref05_Check.T13 : Bool × List (List Nat × List Nat) := (true, [([], []), ([0], [0]), ([], []), ([1, 2], [1, 2]), ([3], [3]), ([4], [4]), ([], []), ([6], [6]), ([], []), ([7, 8], [7, 8]), ([9], [9]), ([10], [10]), ([5, 11], [5, 11])])
def vetchref05_Check.B13 : List Nat := [0, 1, 0, 7, 15, 31, 0, 64, 0, 448, 960, 1984, 4095]
theorem vetchref05_Check.tab13 : rtab .any (opsOf Try.f32 13) = vetchref05_Check.T13 := by kernel_rfl
theorem vetchref05_Check.bits13 : waitsOk vetchref05_Check.T13.2 vetchref05_Check.B13 = true := by kernel_rfl
def vetchref05_Check.T18 : Bool × List (List Nat × List Nat) := (true, [([], []), ([0], [0]), ([], []), ([1, 2], [1, 2]), ([3], [3]), ([], []), ([5], [5]), ([6], [6]), ([4, 7], [4, 7]), ([8], [8])])
def vetchref05_Check.B18 : List Nat := [0, 1, 0, 7, 15, 0, 32, 96, 255, 511]
theorem vetchref05_Check.tab18 : rtab .any (opsOf Try.f32 18) = vetchref05_Check.T18 := by kernel_rfl
theorem vetchref05_Check.bits18 : waitsOk vetchref05_Check.T18.2 vetchref05_Check.B18 = true := by kernel_rfl
set_option maxHeartbeats 8000000 in
set_option maxRecDepth 100000 in
theorem vetchref05_Check.calls (k : Nat) (A0_0 : Option Addr) (c0_0 : Nat) (l0_0 : List (S51)) (A0_1 : Option Addr) (c0_1 : Nat) (l0_1 : List (S56)) (r1 : ByteArray) (r2 : Int) (r3 : Int) (w : World) (hr0_0 : Kd.C k51 w A0_0 l0_0.length l0_0) (hc0_0 : l0_0.length ≤ c0_0) (hr0_1 : Kd.C k56 w A0_1 l0_1.length l0_1) (hc0_1 : l0_1.length ≤ c0_1) (h : vetchref05_Check.f k l0_0 l0_1 = some (r1, r2, r3)) :
 Calls Try.prog 32 #[.agg #[.slice A0_0 l0_0.length c0_0, .slice A0_1 l0_1.length c0_1]] w fun e w' => e = .returned (.tuple #[.string r1, .int .i64 r2, .int .i64 r3]) ∧ Below w.heap.size w w' := by
 have hu25 := Try.underlying25
 have hu56 := Try.underlying56
 have HR0_0 := Aside0.mk hr0_0
 have HC0_0 := Aside0.mk hc0_0
 clear hr0_0 hc0_0
 have HR0_1 := Aside0.mk hr0_1
 have HC0_1 := Aside0.mk hc0_1
 clear hr0_1 hc0_1
 have HB := Aside0.mk (Below.refl w.heap.size w)
 have H : (if (l0_0.length : Int) > 1000 then (vetchref05_Check.j0 k true l0_0 l0_1) else (vetchref05_Check.j0 k (decide ((l0_1.length : Int) > 10000)) l0_0 l0_1)) = some (r1, r2, r3) := h
 clear h
 have HC2 := Aside0.mk H
 clear H
 go_enter Try.func32, Try.ntmps32
 go_upto_region 1 with (first | ((with_reducible refine gate_dst (N := 1) rfl ?_); (try (refine gate_guard (by rfl) ?_; dsimp only)); refine box_event ?hg (N := 1) ?hd (cs := #[.slice A0_0 l0_0.length c0_0, .slice A0_1 l0_1.length c0_1]) (t := 25) ?hr ?_; (case hd => rfl); (case hg => rfl); (case hr => first | (go_simp; done) | (go_simp; rfl)); intro gb210 hg w3 hbox hb; have n0_ := Aside0.mk (below_step (by repeat (first | (with_reducible first | exact HB.out | apply below_alloc | apply pw_below_drewN | apply below_drew1) | exact HB.out)) hb); have n1_ := Aside0.mk (hbox); have n2_ := Aside0.mk ((by rw [hg]; exact (below_size (by repeat (first | (with_reducible first | exact HB.out | apply below_alloc | apply pw_below_drewN | apply below_drew1) | exact HB.out))) : w.heap.size ≤ gb210)); have n3_ := Aside0.mk ((by rw [hg]; exact (below_size (by repeat (first | (with_reducible first | exact HB.out | apply below_alloc | apply pw_below_drewN | apply below_drew1) | exact HB.out))) : w.heap.size ≤ gb210)); clear HB; have HB := n0_; have BK210 := n1_; have GW210 := n2_; have GE210 := n3_; clear n0_ n1_ n2_ n3_; clear hb hbox hg))
 (try simp only [Act.put, List.setIfInBounds_toArray, List.set_cons_zero, List.set_cons_succ])
 go_cut [18] (fun v18 wc => ∃ (kq : Nat) (x18_1 : Bool), v18 = .bool x18_1 ∧ Aside0 (vetchref05_Check.j0 kq x18_1 l0_0 l0_1 = some (r1, r2, r3)) ∧ Aside0 (kq ≤ k) ∧ Aside0 (wc.heap[gb210]? = some (.cells #[(.slice A0_0 l0_0.length c0_0), (.slice A0_1 l0_1.length c0_1)] 25 (0, 0))) ∧ Aside0 (Below w.heap.size w wc))
 case first =>
  have H := HC2.out
  clear HC2
  by_cases c4 : (l0_0.length : Int) > 1000
  ·
   rw [if_pos c4] at H
   have c4b0 : decide (1000 < (l0_0.length : Int)) = true := decide_eq_true c4
   have c4b1 : decide (1000 < l0_0.length) = true := decide_eq_true (by omega)
   clear c4
   (first | rw [c4b0] | (simp only [i64_w, i32_w]; rw [c4b0]) | skip)
   have H' := Aside0.mk H
   clear H
   have hcz5_0 : w3.cell? ⟨gb210, 0, none⟩ = some (.slice A0_0 l0_0.length c0_0) := (blk_cell BK210.out 0).trans rfl
   have hcz5_1 : w3.cell? ⟨gb210, 1, none⟩ = some (.slice A0_1 l0_1.length c0_1) := (blk_cell BK210.out 1).trans rfl
   have hfz5_0 := blk_frozen BK210.out 0
   have hfz5_1 := blk_frozen BK210.out 1
   go_wp2
   go_meet
   case rel => exact ⟨_, (true), (by first | rfl | (simp; done) | (simp [*]; done)), H', ⟨by first | omega | exact Nat.le_refl _⟩, ⟨by (with_reducible repeat (first | refine blk_drewN ?_ _ | refine blk_drew ?_ | refine blk_alloc ?_ _)); exact BK210.out⟩, ⟨by repeat (first | (with_reducible first | exact HB.out | apply below_alloc | apply pw_below_drewN | apply below_drew1 | refine below_set ?_ GE210.out) | exact HB.out)⟩⟩
  ·
   rw [if_neg c4] at H
   have c4b0 : decide (1000 < (l0_0.length : Int)) = false := decide_eq_false c4
   have c4b1 : decide (1000 < l0_0.length) = false := decide_eq_false (by omega)
   clear c4
   (first | rw [c4b0] | (simp only [i64_w, i32_w]; rw [c4b0]) | skip)
   have H' := Aside0.mk H
   clear H
   have hcz6_0 : w3.cell? ⟨gb210, 0, none⟩ = some (.slice A0_0 l0_0.length c0_0) := (blk_cell BK210.out 0).trans rfl
   have hcz6_1 : w3.cell? ⟨gb210, 1, none⟩ = some (.slice A0_1 l0_1.length c0_1) := (blk_cell BK210.out 1).trans rfl
   have hfz6_0 := blk_frozen BK210.out 0
   have hfz6_1 := blk_frozen BK210.out 1
   go_wp2
   go_meet
   case rel => exact ⟨_, (decide ((l0_1.length : Int) > 10000)), (by first | rfl | (simp; done) | (simp [*]; done)), H', ⟨by first | omega | exact Nat.le_refl _⟩, ⟨by (with_reducible repeat (first | refine blk_drewN ?_ _ | refine blk_drew ?_ | refine blk_alloc ?_ _)); exact BK210.out⟩, ⟨by repeat (first | (with_reducible first | exact HB.out | apply below_alloc | apply pw_below_drewN | apply below_drew1 | refine below_set ?_ GE210.out) | exact HB.out)⟩⟩
 case rest =>
  clear HC2
  try clear p2
  try clear c3
  try clear c4
  try clear c4b0
  try clear c4b1
  try clear hcz5_0
  try clear hcz5_1
  try clear hcz6_0
  try clear hcz6_1
  try clear hfz5_0
  try clear hfz5_1
  try clear hfz6_0
  try clear hfz6_1
  obtain ⟨kq, x18_1, rfl, HA, HJ1, BK210, HB⟩ := hcut
  cases kq with
  | zero => exact absurd HA.out (by simp [vetchref05_Check.j0])
  | succ kj1 =>
   have H := HA.out
   clear HA
   simp only [vetchref05_Check.j0] at H
   by_cases c7 : x18_1 = true
   ·
    subst c7
    have H1 : (some ((⟨#[]⟩ : ByteArray), 4, 0)) = some (r1, r2, r3) := by rw [if_pos rfl] at H; exact H
    clear H
    have H := H1
    clear H1
    simp only [Option.some.injEq, Prod.mk.injEq] at H
    obtain ⟨rfl, rfl, rfl⟩ := H
    go_wp2
    go_ret3
    exact ⟨by first | rfl | (simp [errW_none, errW_some] <;> rfl) | (simp [*, errW_none, errW_some] <;> rfl), by repeat (first | (with_reducible first | exact HB.out | apply below_alloc | apply pw_below_drewN | apply below_drew1 | refine below_set ?_ GE210.out) | exact HB.out)⟩
   ·
    replace c7 := Bool.eq_false_iff.mpr c7
    subst c7
    have H1 : (if (l0_0.length : Int) = 0 then (some ((⟨#[114, 117, 108, 101, 115]⟩ : ByteArray), 10, 0)) else (vetchref05_Check.l0 kj1 0 l0_0 l0_1)) = some (r1, r2, r3) := by rw [if_neg (show ¬ (false = true) by decide)] at H; exact H
    clear H
    have H := H1
    clear H1
    by_cases c8 : (l0_0.length : Int) = 0
    ·
     rw [if_pos c8] at H
     have c8b0 : ((l0_0.length : Int) == 0) = true := beq_iff_eq.mpr c8
     have c8b1 : ((l0_0.length : Int) != 0) = false := bne_eq_false_iff_eq.mpr c8
     clear c8
     simp only [Option.some.injEq, Prod.mk.injEq] at H
     obtain ⟨rfl, rfl, rfl⟩ := H
     have hcz9_0 : wc.cell? ⟨gb210, 0, none⟩ = some (.slice A0_0 l0_0.length c0_0) := (blk_cell BK210.out 0).trans rfl
     have hcz9_1 : wc.cell? ⟨gb210, 1, none⟩ = some (.slice A0_1 l0_1.length c0_1) := (blk_cell BK210.out 1).trans rfl
     have hfz9_0 := blk_frozen BK210.out 0
     have hfz9_1 := blk_frozen BK210.out 1
     go_wp2
     go_ret3
     exact ⟨by first | rfl | (simp [errW_none, errW_some] <;> rfl) | (simp [*, errW_none, errW_some] <;> rfl), by repeat (first | (with_reducible first | exact HB.out | apply below_alloc | apply pw_below_drewN | apply below_drew1 | refine below_set ?_ GE210.out) | exact HB.out)⟩
    ·
     rw [if_neg c8] at H
     have c8b0 : ((l0_0.length : Int) == 0) = false := beq_eq_false_iff_ne.mpr c8
     have c8b1 : ((l0_0.length : Int) != 0) = true := bne_iff_ne.mpr c8
     have c8b2 : ¬ (l0_0 = []) := fun h_ => c8 (by rw [h_]; rfl)
     have H' := Aside0.mk H
     clear H
     have hcz10_0 : wc.cell? ⟨gb210, 0, none⟩ = some (.slice A0_0 l0_0.length c0_0) := (blk_cell BK210.out 0).trans rfl
     have hcz10_1 : wc.cell? ⟨gb210, 1, none⟩ = some (.slice A0_1 l0_1.length c0_1) := (blk_cell BK210.out 1).trans rfl
     have hfz10_0 := blk_frozen BK210.out 0
     have hfz10_1 := blk_frozen BK210.out 1
     go_wp2
     go_loopg [5] kj1 (fun kq v5 w' => ∃ (x5_2 : Int), v5 = .int .i64 x5_2 ∧ Aside0 (vetchref05_Check.l0 kq x5_2 l0_0 l0_1 = some (r1, r2, r3)) ∧ Aside0 (kq ≤ kj1) ∧ Aside0 (w'.heap[gb210]? = some (.cells #[(.slice A0_0 l0_0.length c0_0), (.slice A0_1 l0_1.length c0_1)] 25 (0, 0))) ∧ Aside0 (Below w.heap.size w w'))
     case atStart => exact ⟨(0), (by first | rfl | (simp; done) | (simp [*]; done)), H', ⟨Nat.le_refl _⟩, ⟨by (with_reducible repeat (first | refine blk_drewN ?_ _ | refine blk_drew ?_ | refine blk_alloc ?_ _)); exact BK210.out⟩, ⟨by repeat (first | (with_reducible first | exact HB.out | apply below_alloc | apply pw_below_drewN | apply below_drew1 | refine below_set ?_ GE210.out) | exact HB.out)⟩⟩
     case round =>
      clear H'
      try clear p2
      try clear c3
      try clear c4
      try clear c4b0
      try clear c4b1
      try clear c7
      try clear c8
      try clear c8b0
      try clear c8b1
      try clear c8b2
      try clear hcz10_0
      try clear hcz10_1
      try clear hcz5_0
      try clear hcz5_1
      try clear hcz6_0
      try clear hcz6_1
      try clear hcz9_0
      try clear hcz9_1
      try clear hfz10_0
      try clear hfz10_1
      try clear hfz5_0
      try clear hfz5_1
      try clear hfz6_0
      try clear hfz6_1
      try clear hfz9_0
      try clear hfz9_1
      try clear p2
      obtain ⟨x5_2, rfl, HA, HK2, BK210, HB⟩ := hrel
      cases gk with
      | zero => exact absurd HA.out (by simp [vetchref05_Check.l0])
      | succ k2 =>
       have H := HA.out
       clear HA
       simp only [vetchref05_Check.l0] at H
       by_cases c11 : x5_2 < (l0_0.length : Int)
       ·
        rw [if_pos c11] at H
        have c11b0 : decide (x5_2 < (l0_0.length : Int)) = true := decide_eq_true c11
        clear c11
        by_cases c12 : 0 ≤ x5_2
        ·
         rw [if_pos c12] at H
         have c12b0 : decide (0 ≤ x5_2) = true := decide_eq_true c12
         clear c12
         replace H := Option.bind_eq_some_iff.mp H
         obtain ⟨t212, A130, H⟩ := H
         replace H : (if t212 = true then (vetchref05_Check.l1 k2 x5_2 0 l0_0 l0_1) else (some ((⟨#[114, 117, 108, 101, 115]⟩ : ByteArray), 10, x5_2))) = some (r1, r2, r3) := H
         have A13 := Aside0.mk A130
         clear A130
         by_cases c14 : t212 = true
         ·
          subst c14
          have H1 : (vetchref05_Check.l1 k2 x5_2 0 l0_0 l0_1) = some (r1, r2, r3) := by rw [if_pos rfl] at H; exact H
          clear H
          have H := H1
          clear H1
          have H' := Aside0.mk H
          clear H
          have hcz15_0 : wr.cell? ⟨gb210, 0, none⟩ = some (.slice A0_0 l0_0.length c0_0) := (blk_cell BK210.out 0).trans rfl
          have hcz15_1 : wr.cell? ⟨gb210, 1, none⟩ = some (.slice A0_1 l0_1.length c0_1) := (blk_cell BK210.out 1).trans rfl
          have hfz15_0 := blk_frozen BK210.out 0
          have hfz15_1 := blk_frozen BK210.out 1
          have p211 : 0 ≤ (x5_2 : Int) := of_decide_eq_true (by first | (with_reducible assumption) | assumption)
          have q211 : x5_2 < (l0_0.length : Int) := of_decide_eq_true (by first | (with_reducible assumption) | assumption)
          obtain ⟨ad211, e211, hx211_0, hx211_1⟩ := at_T51 HR0_0.out x5_2 p211 q211
          cases e211
          replace hx211_0 := (HB.out.cell (World.block_lt_of_cell? w _ hx211_0)).trans hx211_0
          replace hx211_1 := (HB.out.cell (World.block_lt_of_cell? w _ hx211_1)).trans hx211_1
          replace p211 := eq_true p211
          replace q211 := eq_true q211
          go_wp2_with (first | ((with_reducible refine gate_callee (f := 36) rfl ?_); refine goesL_ (some 36) rfl rfl Try.func36 (by kernel_rfl) rfl #[.string ((rd_T51 l0_0 x5_2).f0)] rfl (by (try simp only [List.map_toArray, List.map_cons, List.map_nil]); first | done | rfl | (simp only [List.length_drop, List.length_take]; rfl)) ?_; (with_reducible refine (vetchref04_Name.calls k2 ((rd_T51 l0_0 x5_2).f0) true _ A13.out).mono ?_); rintro e w' ⟨rfl, ⟨nd, rfl⟩⟩; refine ⟨_, rfl, ?_⟩))
          go_loopg [6] k2 (fun kq v6 w' => ∃ (x6_3 : Int), v6 = .int .i64 x6_3 ∧ Aside0 (vetchref05_Check.l1 kq x5_2 x6_3 l0_0 l0_1 = some (r1, r2, r3)) ∧ Aside0 (kq ≤ k2) ∧ Aside0 (w'.heap[gb210]? = some (.cells #[(.slice (some ad211) l0_0.length c0_0), (.slice A0_1 l0_1.length c0_1)] 25 (0, 0))) ∧ Aside0 (Below w.heap.size w w'))
          case atStart => exact ⟨(0), (by first | rfl | (simp; done) | (simp [*]; done)), H', ⟨Nat.le_refl _⟩, ⟨by (with_reducible repeat (first | refine blk_drewN ?_ _ | refine blk_drew ?_ | refine blk_alloc ?_ _)); exact BK210.out⟩, ⟨by repeat (first | (with_reducible first | exact HB.out | apply below_alloc | apply pw_below_drewN | apply below_drew1 | refine below_set ?_ GE210.out) | exact HB.out)⟩⟩
          case round =>
           clear H'
           try clear c1
           try clear p2
           try clear q2
           try clear hx2
           try clear c3
           try clear c4
           try clear c4b0
           try clear c4b1
           try clear c7
           try clear c8
           try clear c8b0
           try clear c8b1
           try clear c8b2
           try clear c11
           try clear c11b0
           try clear c12
           try clear c12b0
           try clear c14
           try clear hcz10_0
           try clear hcz10_1
           try clear hcz15_0
           try clear hcz15_1
           try clear hcz5_0
           try clear hcz5_1
           try clear hcz6_0
           try clear hcz6_1
           try clear hcz9_0
           try clear hcz9_1
           try clear hfz10_0
           try clear hfz10_1
           try clear hfz15_0
           try clear hfz15_1
           try clear hfz5_0
           try clear hfz5_1
           try clear hfz6_0
           try clear hfz6_1
           try clear hfz9_0
           try clear hfz9_1
           try clear hx211_0
           try clear hx211_1
           try clear p2
           try clear p211
           try clear q211
           obtain ⟨x6_3, rfl, HA, HK3, BK210, HB⟩ := hrel
           cases gk with
           | zero => exact absurd HA.out (by simp [vetchref05_Check.l1])
           | succ k3 =>
            have H := HA.out
            clear HA
            simp only [vetchref05_Check.l1] at H
            by_cases c16 : x6_3 < x5_2
            ·
             rw [if_pos c16] at H
             have c16b0 : decide (x6_3 < x5_2) = true := decide_eq_true c16
             clear c16
             by_cases c17 : 0 ≤ x6_3
             ·
              rw [if_pos c17] at H
              have c17b0 : decide (0 ≤ x6_3) = true := decide_eq_true c17
              clear c17
              by_cases c18 : x6_3 < (l0_0.length : Int)
              ·
               rw [if_pos c18] at H
               have c18b0 : decide (x6_3 < (l0_0.length : Int)) = true := decide_eq_true c18
               clear c18
               by_cases c19 : 0 ≤ x5_2
               ·
                rw [if_pos c19] at H
                have c19b0 : decide (0 ≤ x5_2) = true := decide_eq_true c19
                clear c19
                by_cases c20 : x5_2 < (l0_0.length : Int)
                ·
                 rw [if_pos c20] at H
                 have c20b0 : decide (x5_2 < (l0_0.length : Int)) = true := decide_eq_true c20
                 clear c20
                 by_cases c21 : ((rd_T51 l0_0 x6_3).f0).toList = ((rd_T51 l0_0 x5_2).f0).toList
                 ·
                  rw [if_pos c21] at H
                  have c21b0 : (((rd_T51 l0_0 x6_3).f0).toList == ((rd_T51 l0_0 x5_2).f0).toList) = true := beq_iff_eq.mpr c21
                  have c21b1 : (((rd_T51 l0_0 x6_3).f0).toList != ((rd_T51 l0_0 x5_2).f0).toList) = false := bne_eq_false_iff_eq.mpr c21
                  clear c21
                  simp only [Option.some.injEq, Prod.mk.injEq] at H
                  obtain ⟨rfl, rfl, rfl⟩ := H
                  try go_wp2
                  have n0_ := Aside0.mk (blk_drew BK210.out)
                  have n1_ := Aside0.mk (below_drew1 HB.out)
                  clear BK210
                  clear HB
                  have BK210 := n0_
                  have HB := n1_
                  clear n0_ n1_
                  have p213 : 0 ≤ (x6_3 : Int) := of_decide_eq_true (by first | (with_reducible assumption) | assumption)
                  have q213 : x6_3 < (l0_0.length : Int) := of_decide_eq_true (by first | (with_reducible assumption) | assumption)
                  obtain ⟨ad213, e213, hx213_0, hx213_1⟩ := at_T51 HR0_0.out x6_3 p213 q213
                  have hw213_1 := hx213_1
                  have hw213_0 := hx213_0
                  obtain rfl : ad211 = ad213 := (by injection e213)
                  replace hx213_0 := (HB.out.cell (World.block_lt_of_cell? w _ hx213_0)).trans hx213_0
                  replace hx213_1 := (HB.out.cell (World.block_lt_of_cell? w _ hx213_1)).trans hx213_1
                  replace p213 := eq_true p213
                  replace q213 := eq_true q213
                  have p214 : 0 ≤ (x5_2 : Int) := of_decide_eq_true (by first | (with_reducible assumption) | assumption)
                  have q214 : x5_2 < (l0_0.length : Int) := of_decide_eq_true (by first | (with_reducible assumption) | assumption)
                  obtain ⟨ad214, e214, hx214_0, hx214_1⟩ := at_T51 HR0_0.out x5_2 p214 q214
                  have hw214_1 := hx214_1
                  have hw214_0 := hx214_0
                  obtain rfl : ad211 = ad214 := (by injection e214)
                  replace hx214_0 := (HB.out.cell (World.block_lt_of_cell? w _ hx214_0)).trans hx214_0
                  replace hx214_1 := (HB.out.cell (World.block_lt_of_cell? w _ hx214_1)).trans hx214_1
                  replace p214 := eq_true p214
                  replace q214 := eq_true q214
                  refine start_ (n := 13) (S := fun w' => w'.cell? ⟨gb210, 0, none⟩ = some (.slice (some ad211) l0_0.length c0_0) ∧ w'.cell? ⟨gb210, 1, none⟩ = some (.slice A0_1 l0_1.length c0_1) ∧ w'.cell? (ad211.add ((x6_3).toNat * 2)) = some (.string ((rd_T51 l0_0 x6_3).f0)) ∧ w'.cell? ⟨(ad211.add ((x6_3).toNat * 2)).block, (ad211.add ((x6_3).toNat * 2)).off + 1, none⟩ = some (.int .i64 ((rd_T51 l0_0 x6_3).f1)) ∧ w'.cell? (ad211.add ((x5_2).toNat * 2)) = some (.string ((rd_T51 l0_0 x5_2).f0)) ∧ w'.cell? ⟨(ad211.add ((x5_2).toNat * 2)).block, (ad211.add ((x5_2).toNat * 2)).off + 1, none⟩ = some (.int .i64 ((rd_T51 l0_0 x5_2).f1))) (ds := []) #[false, false, false, false, false, false, false, false, false, false, false, false, false] (by kernel_rfl) rfl rfl ⟨(blk_cell BK210.out 0).trans rfl, (blk_cell BK210.out 1).trans rfl, ((HB.out.cell (World.block_lt_of_cell? w _ hw213_0)).trans hw213_0), ((HB.out.cell (World.block_lt_of_cell? w _ hw213_1)).trans hw213_1), ((HB.out.cell (World.block_lt_of_cell? w _ hw214_0)).trans hw214_0), ((HB.out.cell (World.block_lt_of_cell? w _ hw214_1)).trans hw214_1)⟩ (fun hHeld => ?_); refine with_tabW vetchref05_Check.tab13 vetchref05_Check.bits13 (fun HT_ HW_ => ?_)
                  generalize wr.drew = w22 at BK210 HB hx213_0 hx213_1 hx214_0 hx214_1 hHeld ⊢
                  refine pure_ (i := 0) (N := some 44) (v := ?_) (a' := ?_) #[true, false, false, false, false, false, false, false, false, false, false, false, false] rfl rfl (any_of HT_.out (by kernel_rfl)) (fun _ _ _ h => h) (Or.inl ⟨by rfl, ?_⟩) ?_ ?_
                  rotate_left
                  ·
                   intro w'
                   go_simp
                   with_reducible rfl
                  rotate_left
                  ·
                   simp only [Act.put, List.setIfInBounds_toArray, List.set_cons_zero, List.set_cons_succ, i64_w, i32_w]
                   rfl
                  refine pure_ (i := 2) (N := some 46) (v := ?_) (a' := ?_) #[true, false, true, false, false, false, false, false, false, false, false, false, false] rfl rfl (any_of HT_.out (by kernel_rfl)) (fun _ _ _ h => h) (Or.inl ⟨by rfl, ?_⟩) ?_ ?_
                  rotate_left
                  ·
                   intro w'
                   go_simp
                   with_reducible rfl
                  rotate_left
                  ·
                   simp only [Act.put, List.setIfInBounds_toArray, List.set_cons_zero, List.set_cons_succ, i64_w, i32_w]
                   rfl
                  refine pure_ (i := 6) (N := some 50) (v := ?_) (a' := ?_) #[true, false, true, false, false, false, true, false, false, false, false, false, false] rfl rfl (any_of HT_.out (by kernel_rfl)) (fun _ _ _ h => h) (Or.inl ⟨by rfl, ?_⟩) ?_ ?_
                  rotate_left
                  ·
                   intro w'
                   go_simp
                   with_reducible rfl
                  rotate_left
                  ·
                   simp only [Act.put, List.setIfInBounds_toArray, List.set_cons_zero, List.set_cons_succ, i64_w, i32_w]
                   rfl
                  refine pure_ (i := 8) (N := some 52) (v := ?_) (a' := ?_) #[true, false, true, false, false, false, true, false, true, false, false, false, false] rfl rfl (any_of HT_.out (by kernel_rfl)) (fun _ _ _ h => h) (Or.inl ⟨by rfl, ?_⟩) ?_ ?_
                  rotate_left
                  ·
                   intro w'
                   go_simp
                   with_reducible rfl
                  rotate_left
                  ·
                   simp only [Act.put, List.setIfInBounds_toArray, List.set_cons_zero, List.set_cons_succ, i64_w, i32_w]
                   rfl
                  refine take_ (i := 1) (N := some 45) (v := ?_) (a' := ?_) #[true, true, true, false, false, false, true, false, true, false, false, false, false] rfl rfl (take_ofW HT_.out HW_.out (by kernel_rfl)) (fun _ _ _ h => h) (Or.inl ⟨by rfl, ?_⟩) hHeld ?_ ?_
                  rotate_left
                  ·
                   rintro w' ⟨s0, s1, s2, s3, s4, s5⟩
                   go_simp
                   with_reducible rfl
                  rotate_left
                  ·
                   simp only [Act.put, List.setIfInBounds_toArray, List.set_cons_zero, List.set_cons_succ, i64_w, i32_w]
                   rfl
                  refine pure_ (i := 3) (N := some 47) (v := ?_) (a' := ?_) #[true, true, true, true, false, false, true, false, true, false, false, false, false] rfl rfl (any_of HT_.out (by kernel_rfl)) (fun _ _ _ h => h) (Or.inl ⟨by rfl, ?_⟩) ?_ ?_
                  rotate_left
                  ·
                   intro w'
                   go_simp
                   with_reducible rfl
                  rotate_left
                  ·
                   simp only [Act.put, List.setIfInBounds_toArray, List.set_cons_zero, List.set_cons_succ, i64_w, i32_w]
                   rfl
                  refine pure_ (i := 4) (N := some 48) (v := ?_) (a' := ?_) #[true, true, true, true, true, false, true, false, true, false, false, false, false] rfl rfl (any_of HT_.out (by kernel_rfl)) (fun _ _ _ h => h) (Or.inl ⟨by rfl, ?_⟩) ?_ ?_
                  rotate_left
                  ·
                   intro w'
                   go_simp
                   with_reducible rfl
                  rotate_left
                  ·
                   simp only [Act.put, List.setIfInBounds_toArray, List.set_cons_zero, List.set_cons_succ, i64_w, i32_w]
                   rfl
                  refine take_ (i := 5) (N := some 49) (v := ?_) (a' := ?_) #[true, true, true, true, true, true, true, false, true, false, false, false, false] rfl rfl (take_ofW HT_.out HW_.out (by kernel_rfl)) (fun _ _ _ h => h) (Or.inl ⟨by rfl, ?_⟩) hHeld ?_ ?_
                  rotate_left
                  ·
                   rintro w' ⟨s0, s1, s2, s3, s4, s5⟩
                   go_simp
                   with_reducible rfl
                  rotate_left
                  ·
                   simp only [Act.put, List.setIfInBounds_toArray, List.set_cons_zero, List.set_cons_succ, i64_w, i32_w]
                   rfl
                  refine take_ (i := 7) (N := some 51) (v := ?_) (a' := ?_) #[true, true, true, true, true, true, true, true, true, false, false, false, false] rfl rfl (take_ofW HT_.out HW_.out (by kernel_rfl)) (fun _ _ _ h => h) (Or.inl ⟨by rfl, ?_⟩) hHeld ?_ ?_
                  rotate_left
                  ·
                   rintro w' ⟨s0, s1, s2, s3, s4, s5⟩
                   go_simp
                   with_reducible rfl
                  rotate_left
                  ·
                   simp only [Act.put, List.setIfInBounds_toArray, List.set_cons_zero, List.set_cons_succ, i64_w, i32_w]
                   rfl
                  refine pure_ (i := 9) (N := some 53) (v := ?_) (a' := ?_) #[true, true, true, true, true, true, true, true, true, true, false, false, false] rfl rfl (any_of HT_.out (by kernel_rfl)) (fun _ _ _ h => h) (Or.inl ⟨by rfl, ?_⟩) ?_ ?_
                  rotate_left
                  ·
                   intro w'
                   go_simp
                   with_reducible rfl
                  rotate_left
                  ·
                   simp only [Act.put, List.setIfInBounds_toArray, List.set_cons_zero, List.set_cons_succ, i64_w, i32_w]
                   rfl
                  refine pure_ (i := 10) (N := some 54) (v := ?_) (a' := ?_) #[true, true, true, true, true, true, true, true, true, true, true, false, false] rfl rfl (any_of HT_.out (by kernel_rfl)) (fun _ _ _ h => h) (Or.inl ⟨by rfl, ?_⟩) ?_ ?_
                  rotate_left
                  ·
                   intro w'
                   go_simp
                   with_reducible rfl
                  rotate_left
                  ·
                   simp only [Act.put, List.setIfInBounds_toArray, List.set_cons_zero, List.set_cons_succ, i64_w, i32_w]
                   rfl
                  refine take_ (i := 11) (N := some 55) (v := ?_) (a' := ?_) #[true, true, true, true, true, true, true, true, true, true, true, true, false] rfl rfl (take_ofW HT_.out HW_.out (by kernel_rfl)) (fun _ _ _ h => h) (Or.inl ⟨by rfl, ?_⟩) hHeld ?_ ?_
                  rotate_left
                  ·
                   rintro w' ⟨s0, s1, s2, s3, s4, s5⟩
                   go_simp
                   with_reducible rfl
                  rotate_left
                  ·
                   simp only [Act.put, List.setIfInBounds_toArray, List.set_cons_zero, List.set_cons_succ, i64_w, i32_w]
                   rfl
                  refine pure_ (i := 12) (N := some 56) (v := ?_) (a' := ?_) #[true, true, true, true, true, true, true, true, true, true, true, true, true] rfl rfl (any_of HT_.out (by kernel_rfl)) (fun _ _ _ h => h) (Or.inl ⟨by rfl, ?_⟩) ?_ ?_
                  rotate_left
                  ·
                   intro w'
                   go_simp
                   with_reducible rfl
                  rotate_left
                  ·
                   simp only [Act.put, List.setIfInBounds_toArray, List.set_cons_zero, List.set_cons_succ, i64_w, i32_w]
                   rfl
                  refine done_ (done_of HT_.out (by kernel_rfl)) ?_
                  try go_wp2
                  go_ret3
                  exact ⟨by first | rfl | (simp [errW_none, errW_some] <;> rfl) | (simp [*, errW_none, errW_some] <;> rfl), by repeat (first | (with_reducible first | exact HB.out | apply below_alloc | apply pw_below_drewN | apply below_drew1 | refine below_set ?_ GE210.out) | exact HB.out)⟩
                 ·
                  rw [if_neg c21] at H
                  have c21b0 : (((rd_T51 l0_0 x6_3).f0).toList == ((rd_T51 l0_0 x5_2).f0).toList) = false := beq_eq_false_iff_ne.mpr c21
                  have c21b1 : (((rd_T51 l0_0 x6_3).f0).toList != ((rd_T51 l0_0 x5_2).f0).toList) = true := bne_iff_ne.mpr c21
                  have H' := Aside0.mk H
                  clear H
                  try go_wp2
                  have n0_ := Aside0.mk (blk_drew BK210.out)
                  have n1_ := Aside0.mk (below_drew1 HB.out)
                  clear BK210
                  clear HB
                  have BK210 := n0_
                  have HB := n1_
                  clear n0_ n1_
                  have p213 : 0 ≤ (x6_3 : Int) := of_decide_eq_true (by first | (with_reducible assumption) | assumption)
                  have q213 : x6_3 < (l0_0.length : Int) := of_decide_eq_true (by first | (with_reducible assumption) | assumption)
                  obtain ⟨ad213, e213, hx213_0, hx213_1⟩ := at_T51 HR0_0.out x6_3 p213 q213
                  have hw213_1 := hx213_1
                  have hw213_0 := hx213_0
                  obtain rfl : ad211 = ad213 := (by injection e213)
                  replace hx213_0 := (HB.out.cell (World.block_lt_of_cell? w _ hx213_0)).trans hx213_0
                  replace hx213_1 := (HB.out.cell (World.block_lt_of_cell? w _ hx213_1)).trans hx213_1
                  replace p213 := eq_true p213
                  replace q213 := eq_true q213
                  have p214 : 0 ≤ (x5_2 : Int) := of_decide_eq_true (by first | (with_reducible assumption) | assumption)
                  have q214 : x5_2 < (l0_0.length : Int) := of_decide_eq_true (by first | (with_reducible assumption) | assumption)
                  obtain ⟨ad214, e214, hx214_0, hx214_1⟩ := at_T51 HR0_0.out x5_2 p214 q214
                  have hw214_1 := hx214_1
                  have hw214_0 := hx214_0
                  obtain rfl : ad211 = ad214 := (by injection e214)
                  replace hx214_0 := (HB.out.cell (World.block_lt_of_cell? w _ hx214_0)).trans hx214_0
                  replace hx214_1 := (HB.out.cell (World.block_lt_of_cell? w _ hx214_1)).trans hx214_1
                  replace p214 := eq_true p214
                  replace q214 := eq_true q214
                  refine start_ (n := 13) (S := fun w' => w'.cell? ⟨gb210, 0, none⟩ = some (.slice (some ad211) l0_0.length c0_0) ∧ w'.cell? ⟨gb210, 1, none⟩ = some (.slice A0_1 l0_1.length c0_1) ∧ w'.cell? (ad211.add ((x6_3).toNat * 2)) = some (.string ((rd_T51 l0_0 x6_3).f0)) ∧ w'.cell? ⟨(ad211.add ((x6_3).toNat * 2)).block, (ad211.add ((x6_3).toNat * 2)).off + 1, none⟩ = some (.int .i64 ((rd_T51 l0_0 x6_3).f1)) ∧ w'.cell? (ad211.add ((x5_2).toNat * 2)) = some (.string ((rd_T51 l0_0 x5_2).f0)) ∧ w'.cell? ⟨(ad211.add ((x5_2).toNat * 2)).block, (ad211.add ((x5_2).toNat * 2)).off + 1, none⟩ = some (.int .i64 ((rd_T51 l0_0 x5_2).f1))) (ds := []) #[false, false, false, false, false, false, false, false, false, false, false, false, false] (by kernel_rfl) rfl rfl ⟨(blk_cell BK210.out 0).trans rfl, (blk_cell BK210.out 1).trans rfl, ((HB.out.cell (World.block_lt_of_cell? w _ hw213_0)).trans hw213_0), ((HB.out.cell (World.block_lt_of_cell? w _ hw213_1)).trans hw213_1), ((HB.out.cell (World.block_lt_of_cell? w _ hw214_0)).trans hw214_0), ((HB.out.cell (World.block_lt_of_cell? w _ hw214_1)).trans hw214_1)⟩ (fun hHeld => ?_); refine with_tabW vetchref05_Check.tab13 vetchref05_Check.bits13 (fun HT_ HW_ => ?_)
                  generalize wr.drew = w23 at BK210 HB hx213_0 hx213_1 hx214_0 hx214_1 hHeld ⊢
                  refine pure_ (i := 0) (N := some 44) (v := ?_) (a' := ?_) #[true, false, false, false, false, false, false, false, false, false, false, false, false] rfl rfl (any_of HT_.out (by kernel_rfl)) (fun _ _ _ h => h) (Or.inl ⟨by rfl, ?_⟩) ?_ ?_
                  rotate_left
                  ·
                   intro w'
                   go_simp
                   with_reducible rfl
                  rotate_left
                  ·
                   simp only [Act.put, List.setIfInBounds_toArray, List.set_cons_zero, List.set_cons_succ, i64_w, i32_w]
                   rfl
                  refine pure_ (i := 2) (N := some 46) (v := ?_) (a' := ?_) #[true, false, true, false, false, false, false, false, false, false, false, false, false] rfl rfl (any_of HT_.out (by kernel_rfl)) (fun _ _ _ h => h) (Or.inl ⟨by rfl, ?_⟩) ?_ ?_
                  rotate_left
                  ·
                   intro w'
                   go_simp
                   with_reducible rfl
                  rotate_left
                  ·
                   simp only [Act.put, List.setIfInBounds_toArray, List.set_cons_zero, List.set_cons_succ, i64_w, i32_w]
                   rfl
                  refine pure_ (i := 6) (N := some 50) (v := ?_) (a' := ?_) #[true, false, true, false, false, false, true, false, false, false, false, false, false] rfl rfl (any_of HT_.out (by kernel_rfl)) (fun _ _ _ h => h) (Or.inl ⟨by rfl, ?_⟩) ?_ ?_
                  rotate_left
                  ·
                   intro w'
                   go_simp
                   with_reducible rfl
                  rotate_left
                  ·
                   simp only [Act.put, List.setIfInBounds_toArray, List.set_cons_zero, List.set_cons_succ, i64_w, i32_w]
                   rfl
                  refine pure_ (i := 8) (N := some 52) (v := ?_) (a' := ?_) #[true, false, true, false, false, false, true, false, true, false, false, false, false] rfl rfl (any_of HT_.out (by kernel_rfl)) (fun _ _ _ h => h) (Or.inl ⟨by rfl, ?_⟩) ?_ ?_
                  rotate_left
                  ·
                   intro w'
                   go_simp
                   with_reducible rfl
                  rotate_left
                  ·
                   simp only [Act.put, List.setIfInBounds_toArray, List.set_cons_zero, List.set_cons_succ, i64_w, i32_w]
                   rfl
                  refine take_ (i := 1) (N := some 45) (v := ?_) (a' := ?_) #[true, true, true, false, false, false, true, false, true, false, false, false, false] rfl rfl (take_ofW HT_.out HW_.out (by kernel_rfl)) (fun _ _ _ h => h) (Or.inl ⟨by rfl, ?_⟩) hHeld ?_ ?_
                  rotate_left
                  ·
                   rintro w' ⟨s0, s1, s2, s3, s4, s5⟩
                   go_simp
                   with_reducible rfl
                  rotate_left
                  ·
                   simp only [Act.put, List.setIfInBounds_toArray, List.set_cons_zero, List.set_cons_succ, i64_w, i32_w]
                   rfl
                  refine pure_ (i := 3) (N := some 47) (v := ?_) (a' := ?_) #[true, true, true, true, false, false, true, false, true, false, false, false, false] rfl rfl (any_of HT_.out (by kernel_rfl)) (fun _ _ _ h => h) (Or.inl ⟨by rfl, ?_⟩) ?_ ?_
                  rotate_left
                  ·
                   intro w'
                   go_simp
                   with_reducible rfl
                  rotate_left
                  ·
                   simp only [Act.put, List.setIfInBounds_toArray, List.set_cons_zero, List.set_cons_succ, i64_w, i32_w]
                   rfl
                  refine pure_ (i := 4) (N := some 48) (v := ?_) (a' := ?_) #[true, true, true, true, true, false, true, false, true, false, false, false, false] rfl rfl (any_of HT_.out (by kernel_rfl)) (fun _ _ _ h => h) (Or.inl ⟨by rfl, ?_⟩) ?_ ?_
                  rotate_left
                  ·
                   intro w'
                   go_simp
                   with_reducible rfl
                  rotate_left
                  ·
                   simp only [Act.put, List.setIfInBounds_toArray, List.set_cons_zero, List.set_cons_succ, i64_w, i32_w]
                   rfl
                  refine take_ (i := 5) (N := some 49) (v := ?_) (a' := ?_) #[true, true, true, true, true, true, true, false, true, false, false, false, false] rfl rfl (take_ofW HT_.out HW_.out (by kernel_rfl)) (fun _ _ _ h => h) (Or.inl ⟨by rfl, ?_⟩) hHeld ?_ ?_
                  rotate_left
                  ·
                   rintro w' ⟨s0, s1, s2, s3, s4, s5⟩
                   go_simp
                   with_reducible rfl
                  rotate_left
                  ·
                   simp only [Act.put, List.setIfInBounds_toArray, List.set_cons_zero, List.set_cons_succ, i64_w, i32_w]
                   rfl
                  refine take_ (i := 7) (N := some 51) (v := ?_) (a' := ?_) #[true, true, true, true, true, true, true, true, true, false, false, false, false] rfl rfl (take_ofW HT_.out HW_.out (by kernel_rfl)) (fun _ _ _ h => h) (Or.inl ⟨by rfl, ?_⟩) hHeld ?_ ?_
                  rotate_left
                  ·
                   rintro w' ⟨s0, s1, s2, s3, s4, s5⟩
                   go_simp
                   with_reducible rfl
                  rotate_left
                  ·
                   simp only [Act.put, List.setIfInBounds_toArray, List.set_cons_zero, List.set_cons_succ, i64_w, i32_w]
                   rfl
                  refine pure_ (i := 9) (N := some 53) (v := ?_) (a' := ?_) #[true, true, true, true, true, true, true, true, true, true, false, false, false] rfl rfl (any_of HT_.out (by kernel_rfl)) (fun _ _ _ h => h) (Or.inl ⟨by rfl, ?_⟩) ?_ ?_
                  rotate_left
                  ·
                   intro w'
                   go_simp
                   with_reducible rfl
                  rotate_left
                  ·
                   simp only [Act.put, List.setIfInBounds_toArray, List.set_cons_zero, List.set_cons_succ, i64_w, i32_w]
                   rfl
                  refine pure_ (i := 10) (N := some 54) (v := ?_) (a' := ?_) #[true, true, true, true, true, true, true, true, true, true, true, false, false] rfl rfl (any_of HT_.out (by kernel_rfl)) (fun _ _ _ h => h) (Or.inl ⟨by rfl, ?_⟩) ?_ ?_
                  rotate_left
                  ·
                   intro w'
                   go_simp
                   with_reducible rfl
                  rotate_left
                  ·
                   simp only [Act.put, List.setIfInBounds_toArray, List.set_cons_zero, List.set_cons_succ, i64_w, i32_w]
                   rfl
                  refine take_ (i := 11) (N := some 55) (v := ?_) (a' := ?_) #[true, true, true, true, true, true, true, true, true, true, true, true, false] rfl rfl (take_ofW HT_.out HW_.out (by kernel_rfl)) (fun _ _ _ h => h) (Or.inl ⟨by rfl, ?_⟩) hHeld ?_ ?_
                  rotate_left
                  ·
                   rintro w' ⟨s0, s1, s2, s3, s4, s5⟩
                   go_simp
                   with_reducible rfl
                  rotate_left
                  ·
                   simp only [Act.put, List.setIfInBounds_toArray, List.set_cons_zero, List.set_cons_succ, i64_w, i32_w]
                   rfl
                  refine pure_ (i := 12) (N := some 56) (v := ?_) (a' := ?_) #[true, true, true, true, true, true, true, true, true, true, true, true, true] rfl rfl (any_of HT_.out (by kernel_rfl)) (fun _ _ _ h => h) (Or.inl ⟨by rfl, ?_⟩) ?_ ?_
                  rotate_left
                  ·
                   intro w'
                   go_simp
                   with_reducible rfl
                  rotate_left
                  ·
                   simp only [Act.put, List.setIfInBounds_toArray, List.set_cons_zero, List.set_cons_succ, i64_w, i32_w]
                   rfl
                  refine done_ (done_of HT_.out (by kernel_rfl)) ?_
                  try go_wp2
                  go_roundg k3
                  case measure => have := HJ1.out; have := HK2.out; have := HK3.out; omega
                  case rel => exact ⟨(wrap64 (x6_3 + 1)), (by first | rfl | (simp; done) | (simp [*]; done)), H', ⟨by have := HJ1.out; have := HK2.out; have := HK3.out; omega⟩, ⟨by (with_reducible repeat (first | refine blk_drewN ?_ _ | refine blk_drew ?_ | refine blk_alloc ?_ _)); exact BK210.out⟩, ⟨by repeat (first | (with_reducible first | exact HB.out | apply below_alloc | apply pw_below_drewN | apply below_drew1 | refine below_set ?_ GE210.out) | exact HB.out)⟩⟩
                ·
                 rw [if_neg c20] at H
                 exact absurd H (by simp)
               ·
                rw [if_neg c19] at H
                exact absurd H (by simp)
              ·
               rw [if_neg c18] at H
               exact absurd H (by simp)
             ·
              rw [if_neg c17] at H
              exact absurd H (by simp)
            ·
             rw [if_neg c16] at H
             have c16b0 : decide (x6_3 < x5_2) = false := decide_eq_false c16
             clear c16
             have H' := Aside0.mk H
             clear H
             go_wp2
             go_roundg k3
             case measure => have := HJ1.out; have := HK2.out; have := HK3.out; omega
             case rel => exact ⟨(wrap64 (x5_2 + 1)), (by first | rfl | (simp; done) | (simp [*]; done)), H', ⟨by have := HJ1.out; have := HK2.out; have := HK3.out; omega⟩, ⟨by (with_reducible repeat (first | refine blk_drewN ?_ _ | refine blk_drew ?_ | refine blk_alloc ?_ _)); exact BK210.out⟩, ⟨by repeat (first | (with_reducible first | exact HB.out | apply below_alloc | apply pw_below_drewN | apply below_drew1 | refine below_set ?_ GE210.out) | exact HB.out)⟩⟩
         ·
          replace c14 := Bool.eq_false_iff.mpr c14
          subst c14
          have H1 : (some ((⟨#[114, 117, 108, 101, 115]⟩ : ByteArray), 10, x5_2)) = some (r1, r2, r3) := by rw [if_neg (show ¬ (false = true) by decide)] at H; exact H
          clear H
          have H := H1
          clear H1
          simp only [Option.some.injEq, Prod.mk.injEq] at H
          obtain ⟨rfl, rfl, rfl⟩ := H
          have hcz24_0 : wr.cell? ⟨gb210, 0, none⟩ = some (.slice A0_0 l0_0.length c0_0) := (blk_cell BK210.out 0).trans rfl
          have hcz24_1 : wr.cell? ⟨gb210, 1, none⟩ = some (.slice A0_1 l0_1.length c0_1) := (blk_cell BK210.out 1).trans rfl
          have hfz24_0 := blk_frozen BK210.out 0
          have hfz24_1 := blk_frozen BK210.out 1
          have p211 : 0 ≤ (x5_2 : Int) := of_decide_eq_true (by first | (with_reducible assumption) | assumption)
          have q211 : x5_2 < (l0_0.length : Int) := of_decide_eq_true (by first | (with_reducible assumption) | assumption)
          obtain ⟨ad211, e211, hx211_0, hx211_1⟩ := at_T51 HR0_0.out x5_2 p211 q211
          cases e211
          replace hx211_0 := (HB.out.cell (World.block_lt_of_cell? w _ hx211_0)).trans hx211_0
          replace hx211_1 := (HB.out.cell (World.block_lt_of_cell? w _ hx211_1)).trans hx211_1
          replace p211 := eq_true p211
          replace q211 := eq_true q211
          go_wp2_with (first | ((with_reducible refine gate_callee (f := 36) rfl ?_); refine goesL_ (some 36) rfl rfl Try.func36 (by kernel_rfl) rfl #[.string ((rd_T51 l0_0 x5_2).f0)] rfl (by (try simp only [List.map_toArray, List.map_cons, List.map_nil]); first | done | rfl | (simp only [List.length_drop, List.length_take]; rfl)) ?_; (with_reducible refine (vetchref04_Name.calls k2 ((rd_T51 l0_0 x5_2).f0) false _ A13.out).mono ?_); rintro e w' ⟨rfl, ⟨nd, rfl⟩⟩; refine ⟨_, rfl, ?_⟩))
          go_ret3
          exact ⟨by first | rfl | (simp [errW_none, errW_some] <;> rfl) | (simp [*, errW_none, errW_some] <;> rfl), by repeat (first | (with_reducible first | exact HB.out | apply below_alloc | apply pw_below_drewN | apply below_drew1 | refine below_set ?_ GE210.out) | exact HB.out)⟩
        ·
         rw [if_neg c12] at H
         exact absurd H (by simp)
       ·
        rw [if_neg c11] at H
        have c11b0 : decide (x5_2 < (l0_0.length : Int)) = false := decide_eq_false c11
        clear c11
        have H' := Aside0.mk H
        clear H
        have hcz25_0 : wr.cell? ⟨gb210, 0, none⟩ = some (.slice A0_0 l0_0.length c0_0) := (blk_cell BK210.out 0).trans rfl
        have hcz25_1 : wr.cell? ⟨gb210, 1, none⟩ = some (.slice A0_1 l0_1.length c0_1) := (blk_cell BK210.out 1).trans rfl
        have hfz25_0 := blk_frozen BK210.out 0
        have hfz25_1 := blk_frozen BK210.out 1
        go_wp2
        go_loopg [7] k2 (fun kq v7 w' => ∃ (x7_3 : Int), v7 = .int .i64 x7_3 ∧ Aside0 (vetchref05_Check.l2 kq x7_3 l0_0 l0_1 = some (r1, r2, r3)) ∧ Aside0 (kq ≤ k2) ∧ Aside0 (w'.heap[gb210]? = some (.cells #[(.slice A0_0 l0_0.length c0_0), (.slice A0_1 l0_1.length c0_1)] 25 (0, 0))) ∧ Aside0 (Below w.heap.size w w'))
        case atStart => exact ⟨(0), (by first | rfl | (simp; done) | (simp [*]; done)), H', ⟨Nat.le_refl _⟩, ⟨by (with_reducible repeat (first | refine blk_drewN ?_ _ | refine blk_drew ?_ | refine blk_alloc ?_ _)); exact BK210.out⟩, ⟨by repeat (first | (with_reducible first | exact HB.out | apply below_alloc | apply pw_below_drewN | apply below_drew1 | refine below_set ?_ GE210.out) | exact HB.out)⟩⟩
        case round =>
         clear H'
         try clear c1
         try clear c2
         try clear p2
         try clear q2
         try clear hx2
         try clear c3
         try clear c4
         try clear c4b0
         try clear c4b1
         try clear p6
         try clear c7
         try clear c8
         try clear c8b0
         try clear c8b1
         try clear c8b2
         try clear c11
         try clear c11b0
         try clear c12
         try clear c12b0
         try clear c14
         try clear c16
         try clear c16b0
         try clear c17
         try clear c17b0
         try clear c18
         try clear c18b0
         try clear c19
         try clear c19b0
         try clear c20
         try clear c20b0
         try clear c21
         try clear c21b0
         try clear c21b1
         try clear p21
         try clear q21
         try clear hx21
         try clear hcz10_0
         try clear hcz10_1
         try clear hcz15_0
         try clear hcz15_1
         try clear hcz24_0
         try clear hcz24_1
         try clear hcz25_0
         try clear hcz25_1
         try clear hcz5_0
         try clear hcz5_1
         try clear hcz6_0
         try clear hcz6_1
         try clear hcz9_0
         try clear hcz9_1
         try clear hfz10_0
         try clear hfz10_1
         try clear hfz15_0
         try clear hfz15_1
         try clear hfz24_0
         try clear hfz24_1
         try clear hfz25_0
         try clear hfz25_1
         try clear hfz5_0
         try clear hfz5_1
         try clear hfz6_0
         try clear hfz6_1
         try clear hfz9_0
         try clear hfz9_1
         try clear hx211_0
         try clear hx211_1
         try clear hx213_0
         try clear hx213_1
         try clear hx214_0
         try clear hx214_1
         try clear p2
         try clear p211
         try clear p213
         try clear p214
         try clear q2
         try clear q211
         try clear q213
         try clear q214
         obtain ⟨x7_3, rfl, HA, HK3, BK210, HB⟩ := hrel
         cases gk with
         | zero => exact absurd HA.out (by simp [vetchref05_Check.l2])
         | succ k3 =>
          have H := HA.out
          clear HA
          simp only [vetchref05_Check.l2] at H
          by_cases c26 : x7_3 < (l0_1.length : Int)
          ·
           rw [if_pos c26] at H
           have c26b0 : decide (x7_3 < (l0_1.length : Int)) = true := decide_eq_true c26
           clear c26
           by_cases c27 : 0 ≤ x7_3
           ·
            rw [if_pos c27] at H
            have c27b0 : decide (0 ≤ x7_3) = true := decide_eq_true c27
            clear c27
            replace H := Option.bind_eq_some_iff.mp H
            obtain ⟨t216, A280, H⟩ := H
            replace H : (if t216 = true then (vetchref05_Check.l2 k3 (wrap64 (x7_3 + 1)) l0_0 l0_1) else (some ((⟨#[110, 111, 100, 101, 115]⟩ : ByteArray), 10, x7_3))) = some (r1, r2, r3) := H
            have A28 := Aside0.mk A280
            clear A280
            by_cases c29 : t216 = true
            ·
             subst c29
             have H1 : (vetchref05_Check.l2 k3 (wrap64 (x7_3 + 1)) l0_0 l0_1) = some (r1, r2, r3) := by rw [if_pos rfl] at H; exact H
             clear H
             have H := H1
             clear H1
             have H' := Aside0.mk H
             clear H
             have hcz30_0 : wr.cell? ⟨gb210, 0, none⟩ = some (.slice A0_0 l0_0.length c0_0) := (blk_cell BK210.out 0).trans rfl
             have hcz30_1 : wr.cell? ⟨gb210, 1, none⟩ = some (.slice A0_1 l0_1.length c0_1) := (blk_cell BK210.out 1).trans rfl
             have hfz30_0 := blk_frozen BK210.out 0
             have hfz30_1 := blk_frozen BK210.out 1
             try go_wp2
             have n0_ := Aside0.mk (blk_drew BK210.out)
             have n1_ := Aside0.mk (below_drew1 HB.out)
             clear BK210
             clear HB
             have BK210 := n0_
             have HB := n1_
             clear n0_ n1_
             have p215 : 0 ≤ (x7_3 : Int) := of_decide_eq_true (by first | (with_reducible assumption) | assumption)
             have q215 : x7_3 < (l0_1.length : Int) := of_decide_eq_true (by first | (with_reducible assumption) | assumption)
             obtain ⟨ad215, A215_1, c215_1, e215, hx215_0, hx215_1, hx215_2, hx215_3, hx215_4, hx215_5, hx215_6, hl215_1, hi215_1⟩ := at_T56 HR0_1.out x7_3 p215 q215
             have hw215_6 := hx215_6
             have hw215_5 := hx215_5
             have hw215_4 := hx215_4
             have hw215_3 := hx215_3
             have hw215_2 := hx215_2
             have hw215_1 := hx215_1
             have hw215_0 := hx215_0
             cases e215
             replace hx215_0 := (HB.out.cell (World.block_lt_of_cell? w _ hx215_0)).trans hx215_0
             replace hx215_1 := (HB.out.cell (World.block_lt_of_cell? w _ hx215_1)).trans hx215_1
             replace hx215_2 := (HB.out.cell (World.block_lt_of_cell? w _ hx215_2)).trans hx215_2
             replace hx215_3 := (HB.out.cell (World.block_lt_of_cell? w _ hx215_3)).trans hx215_3
             replace hx215_4 := (HB.out.cell (World.block_lt_of_cell? w _ hx215_4)).trans hx215_4
             replace hx215_5 := (HB.out.cell (World.block_lt_of_cell? w _ hx215_5)).trans hx215_5
             replace hx215_6 := (HB.out.cell (World.block_lt_of_cell? w _ hx215_6)).trans hx215_6
             have HR215_1 := Aside0.mk hi215_1
             have HC215_1 := Aside0.mk hl215_1
             clear hi215_1 hl215_1
             replace p215 := eq_true p215
             replace q215 := eq_true q215
             refine start_ (n := 10) (S := fun w' => w'.cell? ⟨gb210, 0, none⟩ = some (.slice A0_0 l0_0.length c0_0) ∧ w'.cell? ⟨gb210, 1, none⟩ = some (.slice (some ad215) l0_1.length c0_1) ∧ w'.cell? (ad215.add ((x7_3).toNat * 7)) = some (.int .i64 ((rd_T56 l0_1 x7_3).f0)) ∧ w'.cell? ⟨(ad215.add ((x7_3).toNat * 7)).block, (ad215.add ((x7_3).toNat * 7)).off + 1, none⟩ = some (.slice A215_1 ((rd_T56 l0_1 x7_3).f1).length c215_1) ∧ w'.cell? ⟨(ad215.add ((x7_3).toNat * 7)).block, (ad215.add ((x7_3).toNat * 7)).off + 2, none⟩ = some (.int .i64 ((rd_T56 l0_1 x7_3).f2)) ∧ w'.cell? ⟨(ad215.add ((x7_3).toNat * 7)).block, (ad215.add ((x7_3).toNat * 7)).off + 3, none⟩ = some (.int .u64 ((rd_T56 l0_1 x7_3).f3.f0)) ∧ w'.cell? ⟨(ad215.add ((x7_3).toNat * 7)).block, (ad215.add ((x7_3).toNat * 7)).off + 4, none⟩ = some (.int .u64 ((rd_T56 l0_1 x7_3).f3.f1)) ∧ w'.cell? ⟨(ad215.add ((x7_3).toNat * 7)).block, (ad215.add ((x7_3).toNat * 7)).off + 5, none⟩ = some (.int .u64 ((rd_T56 l0_1 x7_3).f3.f2)) ∧ w'.cell? ⟨(ad215.add ((x7_3).toNat * 7)).block, (ad215.add ((x7_3).toNat * 7)).off + 6, none⟩ = some (.int .u64 ((rd_T56 l0_1 x7_3).f3.f3))) (ds := []) #[false, false, false, false, false, false, false, false, false, false] (by kernel_rfl) rfl rfl ⟨(blk_cell BK210.out 0).trans rfl, (blk_cell BK210.out 1).trans rfl, ((HB.out.cell (World.block_lt_of_cell? w _ hw215_0)).trans hw215_0), ((HB.out.cell (World.block_lt_of_cell? w _ hw215_1)).trans hw215_1), ((HB.out.cell (World.block_lt_of_cell? w _ hw215_2)).trans hw215_2), ((HB.out.cell (World.block_lt_of_cell? w _ hw215_3)).trans hw215_3), ((HB.out.cell (World.block_lt_of_cell? w _ hw215_4)).trans hw215_4), ((HB.out.cell (World.block_lt_of_cell? w _ hw215_5)).trans hw215_5), ((HB.out.cell (World.block_lt_of_cell? w _ hw215_6)).trans hw215_6)⟩ (fun hHeld => ?_); refine with_tabW vetchref05_Check.tab18 vetchref05_Check.bits18 (fun HT_ HW_ => ?_)
             generalize wr.drew = w31 at BK210 HB HR215_1 hx215_0 hx215_1 hx215_2 hx215_3 hx215_4 hx215_5 hx215_6 hHeld ⊢
             refine pure_ (i := 0) (N := some 65) (v := ?_) (a' := ?_) #[true, false, false, false, false, false, false, false, false, false] rfl rfl (any_of HT_.out (by kernel_rfl)) (fun _ _ _ h => h) (Or.inl ⟨by rfl, ?_⟩) ?_ ?_
             rotate_left
             ·
              intro w'
              go_simp
              with_reducible rfl
             rotate_left
             ·
              simp only [Act.put, List.setIfInBounds_toArray, List.set_cons_zero, List.set_cons_succ, i64_w, i32_w]
              rfl
             refine pure_ (i := 2) (N := some 67) (v := ?_) (a' := ?_) #[true, false, true, false, false, false, false, false, false, false] rfl rfl (any_of HT_.out (by kernel_rfl)) (fun _ _ _ h => h) (Or.inl ⟨by rfl, ?_⟩) ?_ ?_
             rotate_left
             ·
              intro w'
              go_simp
              with_reducible rfl
             rotate_left
             ·
              simp only [Act.put, List.setIfInBounds_toArray, List.set_cons_zero, List.set_cons_succ, i64_w, i32_w]
              rfl
             refine pure_ (i := 5) (N := some 70) (v := ?_) (a' := ?_) #[true, false, true, false, false, true, false, false, false, false] rfl rfl (any_of HT_.out (by kernel_rfl)) (fun _ _ _ h => h) (Or.inl ⟨by rfl, ?_⟩) ?_ ?_
             rotate_left
             ·
              intro w'
              go_simp
              with_reducible rfl
             rotate_left
             ·
              simp only [Act.put, List.setIfInBounds_toArray, List.set_cons_zero, List.set_cons_succ, i64_w, i32_w]
              rfl
             refine take_ (i := 1) (N := some 66) (v := ?_) (a' := ?_) #[true, true, true, false, false, true, false, false, false, false] rfl rfl (take_ofW HT_.out HW_.out (by kernel_rfl)) (fun _ _ _ h => h) (Or.inl ⟨by rfl, ?_⟩) hHeld ?_ ?_
             rotate_left
             ·
              rintro w' ⟨s0, s1, s2, s3, s4, s5, s6, s7, s8⟩
              go_simp
              with_reducible rfl
             rotate_left
             ·
              simp only [Act.put, List.setIfInBounds_toArray, List.set_cons_zero, List.set_cons_succ, i64_w, i32_w]
              rfl
             refine pure_ (i := 3) (N := some 68) (v := ?_) (a' := ?_) #[true, true, true, true, false, true, false, false, false, false] rfl rfl (any_of HT_.out (by kernel_rfl)) (fun _ _ _ h => h) (Or.inl ⟨by rfl, ?_⟩) ?_ ?_
             rotate_left
             ·
              intro w'
              go_simp
              with_reducible rfl
             rotate_left
             ·
              simp only [Act.put, List.setIfInBounds_toArray, List.set_cons_zero, List.set_cons_succ, i64_w, i32_w]
              rfl
             refine take_ (i := 4) (N := some 69) (v := ?_) (a' := ?_) #[true, true, true, true, true, true, false, false, false, false] rfl rfl (take_ofW HT_.out HW_.out (by kernel_rfl)) (fun _ _ _ h => h) (Or.inl ⟨by rfl, ?_⟩) hHeld ?_ ?_
             rotate_left
             ·
              rintro w' ⟨s0, s1, s2, s3, s4, s5, s6, s7, s8⟩
              go_simp
              with_reducible rfl
             rotate_left
             ·
              simp only [Act.put, List.setIfInBounds_toArray, List.set_cons_zero, List.set_cons_succ, i64_w, i32_w]
              rfl
             refine take_ (i := 6) (N := some 71) (v := ?_) (a' := ?_) #[true, true, true, true, true, true, true, false, false, false] rfl rfl (take_ofW HT_.out HW_.out (by kernel_rfl)) (fun _ _ _ h => h) (Or.inl ⟨by rfl, ?_⟩) hHeld ?_ ?_
             rotate_left
             ·
              rintro w' ⟨s0, s1, s2, s3, s4, s5, s6, s7, s8⟩
              go_simp
              with_reducible rfl
             rotate_left
             ·
              simp only [Act.put, List.setIfInBounds_toArray, List.set_cons_zero, List.set_cons_succ, i64_w, i32_w]
              rfl
             refine pure_ (i := 7) (N := some 72) (v := ?_) (a' := ?_) #[true, true, true, true, true, true, true, true, false, false] rfl rfl (any_of HT_.out (by kernel_rfl)) (fun _ _ _ h => h) (Or.inl ⟨by rfl, ?_⟩) ?_ ?_
             rotate_left
             ·
              intro w'
              go_simp
              with_reducible rfl
             rotate_left
             ·
              simp only [Act.put, List.setIfInBounds_toArray, List.set_cons_zero, List.set_cons_succ, i64_w, i32_w]
              rfl
             refine one_ (i := 8) (N := some 73) #[true, true, true, true, true, true, true, true, true, false] rfl rfl (one_of HT_.out (by kernel_rfl)) (by decide) (fun K hK => ?_)
             refine goes_ Try.func37 (by kernel_rfl) rfl #[.agg #[.int .i64 ((rd_T56 l0_1 x7_3).f0), .slice A215_1 ((rd_T56 l0_1 x7_3).f1).length c215_1, .int .i64 ((rd_T56 l0_1 x7_3).f2), .int .u64 ((rd_T56 l0_1 x7_3).f3.f0), .int .u64 ((rd_T56 l0_1 x7_3).f3.f1), .int .u64 ((rd_T56 l0_1 x7_3).f3.f2), .int .u64 ((rd_T56 l0_1 x7_3).f3.f3)], .int .i64 (l0_0.length : Int)] (by rfl) rfl rfl (by (try simp only [List.map_toArray, List.map_cons, List.map_nil]); first | done | rfl | (simp only [List.length_drop, List.length_take]; rfl)) ?_
             with_reducible refine (vetchref05_Made.calls k3 ((rd_T56 l0_1 x7_3).f0) _ _ ((rd_T56 l0_1 x7_3).f1) ((rd_T56 l0_1 x7_3).f2) ((rd_T56 l0_1 x7_3).f3.f0) ((rd_T56 l0_1 x7_3).f3.f1) ((rd_T56 l0_1 x7_3).f3.f2) ((rd_T56 l0_1 x7_3).f3.f3) (l0_0.length : Int) true _ ?side1 ?side2 A28.out).mono ?_
             (case side1 => repeat (first | exact (Kd.C_below HR215_1.out HB.out) | (with_reducible refine Kd.C_alloc ?_ _) | (with_reducible refine Kd.C_drewN ?_ _) | (with_reducible refine Kd.C_drew ?_)))
             (case side2 => exact HC215_1.out)
             rintro e w32 ⟨rfl, hb⟩
             refine ⟨_, rfl, ?_⟩
             have n0_ := Aside0.mk (blk_below (g := gb210) (o := .cells #[.slice A0_0 l0_0.length c0_0, .slice (some ad215) l0_1.length c0_1] 25 (0, 0)) (by (with_reducible repeat (first | refine blk_drewN ?_ _ | refine blk_drew ?_ | refine blk_alloc ?_ _)); exact BK210.out) hb)
             have n1_ := Aside0.mk (below_step (by repeat (first | (with_reducible first | exact HB.out | apply below_alloc | apply pw_below_drewN | apply below_drew1 | refine below_set ?_ GE210.out) | exact HB.out)) hb)
             clear BK210
             clear HB
             have BK210 := n0_
             have HB := n1_
             clear n0_ n1_
             (try clear hb)
             (try clear hb2)
             (try clear hk)
             (try clear hi)
             refine hK.out _ _ ⟨(blk_cell BK210.out 0).trans rfl, (blk_cell BK210.out 1).trans rfl, ((HB.out.cell (World.block_lt_of_cell? w _ hw215_0)).trans hw215_0), ((HB.out.cell (World.block_lt_of_cell? w _ hw215_1)).trans hw215_1), ((HB.out.cell (World.block_lt_of_cell? w _ hw215_2)).trans hw215_2), ((HB.out.cell (World.block_lt_of_cell? w _ hw215_3)).trans hw215_3), ((HB.out.cell (World.block_lt_of_cell? w _ hw215_4)).trans hw215_4), ((HB.out.cell (World.block_lt_of_cell? w _ hw215_5)).trans hw215_5), ((HB.out.cell (World.block_lt_of_cell? w _ hw215_6)).trans hw215_6)⟩ (fun hHeld => ?_)
             clear hK K
             refine norm_ (a' := ?_) ?_ ?_
             rotate_left
             ·
              show Act.put _ (some 73) _ = _
              simp only [Act.put, List.setIfInBounds_toArray, List.set_cons_zero, List.set_cons_succ, i64_w, i32_w]
              rfl
             refine pure_ (i := 9) (N := some 74) (v := ?_) (a' := ?_) #[true, true, true, true, true, true, true, true, true, true] rfl rfl (any_of HT_.out (by kernel_rfl)) (fun _ _ _ h => h) (Or.inl ⟨by rfl, ?_⟩) ?_ ?_
             rotate_left
             ·
              intro w'
              go_simp
              with_reducible rfl
             rotate_left
             ·
              simp only [Act.put, List.setIfInBounds_toArray, List.set_cons_zero, List.set_cons_succ, i64_w, i32_w]
              rfl
             refine done_ (done_of HT_.out (by kernel_rfl)) ?_
             try go_wp2
             go_roundg k3
             case measure => have := HJ1.out; have := HK2.out; have := HK3.out; omega
             case rel => exact ⟨(wrap64 (x7_3 + 1)), (by first | rfl | (simp; done) | (simp [*]; done)), H', ⟨by have := HJ1.out; have := HK2.out; have := HK3.out; omega⟩, ⟨by (with_reducible repeat (first | refine blk_drewN ?_ _ | refine blk_drew ?_ | refine blk_alloc ?_ _)); exact BK210.out⟩, ⟨by repeat (first | (with_reducible first | exact HB.out | apply below_alloc | apply pw_below_drewN | apply below_drew1 | refine below_set ?_ GE210.out) | exact HB.out)⟩⟩
            ·
             replace c29 := Bool.eq_false_iff.mpr c29
             subst c29
             have H1 : (some ((⟨#[110, 111, 100, 101, 115]⟩ : ByteArray), 10, x7_3)) = some (r1, r2, r3) := by rw [if_neg (show ¬ (false = true) by decide)] at H; exact H
             clear H
             have H := H1
             clear H1
             simp only [Option.some.injEq, Prod.mk.injEq] at H
             obtain ⟨rfl, rfl, rfl⟩ := H
             have hcz33_0 : wr.cell? ⟨gb210, 0, none⟩ = some (.slice A0_0 l0_0.length c0_0) := (blk_cell BK210.out 0).trans rfl
             have hcz33_1 : wr.cell? ⟨gb210, 1, none⟩ = some (.slice A0_1 l0_1.length c0_1) := (blk_cell BK210.out 1).trans rfl
             have hfz33_0 := blk_frozen BK210.out 0
             have hfz33_1 := blk_frozen BK210.out 1
             try go_wp2
             have n0_ := Aside0.mk (blk_drew BK210.out)
             have n1_ := Aside0.mk (below_drew1 HB.out)
             clear BK210
             clear HB
             have BK210 := n0_
             have HB := n1_
             clear n0_ n1_
             have p215 : 0 ≤ (x7_3 : Int) := of_decide_eq_true (by first | (with_reducible assumption) | assumption)
             have q215 : x7_3 < (l0_1.length : Int) := of_decide_eq_true (by first | (with_reducible assumption) | assumption)
             obtain ⟨ad215, A215_1, c215_1, e215, hx215_0, hx215_1, hx215_2, hx215_3, hx215_4, hx215_5, hx215_6, hl215_1, hi215_1⟩ := at_T56 HR0_1.out x7_3 p215 q215
             have hw215_6 := hx215_6
             have hw215_5 := hx215_5
             have hw215_4 := hx215_4
             have hw215_3 := hx215_3
             have hw215_2 := hx215_2
             have hw215_1 := hx215_1
             have hw215_0 := hx215_0
             cases e215
             replace hx215_0 := (HB.out.cell (World.block_lt_of_cell? w _ hx215_0)).trans hx215_0
             replace hx215_1 := (HB.out.cell (World.block_lt_of_cell? w _ hx215_1)).trans hx215_1
             replace hx215_2 := (HB.out.cell (World.block_lt_of_cell? w _ hx215_2)).trans hx215_2
             replace hx215_3 := (HB.out.cell (World.block_lt_of_cell? w _ hx215_3)).trans hx215_3
             replace hx215_4 := (HB.out.cell (World.block_lt_of_cell? w _ hx215_4)).trans hx215_4
             replace hx215_5 := (HB.out.cell (World.block_lt_of_cell? w _ hx215_5)).trans hx215_5
             replace hx215_6 := (HB.out.cell (World.block_lt_of_cell? w _ hx215_6)).trans hx215_6
             have HR215_1 := Aside0.mk hi215_1
             have HC215_1 := Aside0.mk hl215_1
             clear hi215_1 hl215_1
             replace p215 := eq_true p215
             replace q215 := eq_true q215
             refine start_ (n := 10) (S := fun w' => w'.cell? ⟨gb210, 0, none⟩ = some (.slice A0_0 l0_0.length c0_0) ∧ w'.cell? ⟨gb210, 1, none⟩ = some (.slice (some ad215) l0_1.length c0_1) ∧ w'.cell? (ad215.add ((x7_3).toNat * 7)) = some (.int .i64 ((rd_T56 l0_1 x7_3).f0)) ∧ w'.cell? ⟨(ad215.add ((x7_3).toNat * 7)).block, (ad215.add ((x7_3).toNat * 7)).off + 1, none⟩ = some (.slice A215_1 ((rd_T56 l0_1 x7_3).f1).length c215_1) ∧ w'.cell? ⟨(ad215.add ((x7_3).toNat * 7)).block, (ad215.add ((x7_3).toNat * 7)).off + 2, none⟩ = some (.int .i64 ((rd_T56 l0_1 x7_3).f2)) ∧ w'.cell? ⟨(ad215.add ((x7_3).toNat * 7)).block, (ad215.add ((x7_3).toNat * 7)).off + 3, none⟩ = some (.int .u64 ((rd_T56 l0_1 x7_3).f3.f0)) ∧ w'.cell? ⟨(ad215.add ((x7_3).toNat * 7)).block, (ad215.add ((x7_3).toNat * 7)).off + 4, none⟩ = some (.int .u64 ((rd_T56 l0_1 x7_3).f3.f1)) ∧ w'.cell? ⟨(ad215.add ((x7_3).toNat * 7)).block, (ad215.add ((x7_3).toNat * 7)).off + 5, none⟩ = some (.int .u64 ((rd_T56 l0_1 x7_3).f3.f2)) ∧ w'.cell? ⟨(ad215.add ((x7_3).toNat * 7)).block, (ad215.add ((x7_3).toNat * 7)).off + 6, none⟩ = some (.int .u64 ((rd_T56 l0_1 x7_3).f3.f3))) (ds := []) #[false, false, false, false, false, false, false, false, false, false] (by kernel_rfl) rfl rfl ⟨(blk_cell BK210.out 0).trans rfl, (blk_cell BK210.out 1).trans rfl, ((HB.out.cell (World.block_lt_of_cell? w _ hw215_0)).trans hw215_0), ((HB.out.cell (World.block_lt_of_cell? w _ hw215_1)).trans hw215_1), ((HB.out.cell (World.block_lt_of_cell? w _ hw215_2)).trans hw215_2), ((HB.out.cell (World.block_lt_of_cell? w _ hw215_3)).trans hw215_3), ((HB.out.cell (World.block_lt_of_cell? w _ hw215_4)).trans hw215_4), ((HB.out.cell (World.block_lt_of_cell? w _ hw215_5)).trans hw215_5), ((HB.out.cell (World.block_lt_of_cell? w _ hw215_6)).trans hw215_6)⟩ (fun hHeld => ?_); refine with_tabW vetchref05_Check.tab18 vetchref05_Check.bits18 (fun HT_ HW_ => ?_)
             generalize wr.drew = w34 at BK210 HB HR215_1 hx215_0 hx215_1 hx215_2 hx215_3 hx215_4 hx215_5 hx215_6 hHeld ⊢
             refine pure_ (i := 0) (N := some 65) (v := ?_) (a' := ?_) #[true, false, false, false, false, false, false, false, false, false] rfl rfl (any_of HT_.out (by kernel_rfl)) (fun _ _ _ h => h) (Or.inl ⟨by rfl, ?_⟩) ?_ ?_
             rotate_left
             ·
              intro w'
              go_simp
              with_reducible rfl
             rotate_left
             ·
              simp only [Act.put, List.setIfInBounds_toArray, List.set_cons_zero, List.set_cons_succ, i64_w, i32_w]
              rfl
             refine pure_ (i := 2) (N := some 67) (v := ?_) (a' := ?_) #[true, false, true, false, false, false, false, false, false, false] rfl rfl (any_of HT_.out (by kernel_rfl)) (fun _ _ _ h => h) (Or.inl ⟨by rfl, ?_⟩) ?_ ?_
             rotate_left
             ·
              intro w'
              go_simp
              with_reducible rfl
             rotate_left
             ·
              simp only [Act.put, List.setIfInBounds_toArray, List.set_cons_zero, List.set_cons_succ, i64_w, i32_w]
              rfl
             refine pure_ (i := 5) (N := some 70) (v := ?_) (a' := ?_) #[true, false, true, false, false, true, false, false, false, false] rfl rfl (any_of HT_.out (by kernel_rfl)) (fun _ _ _ h => h) (Or.inl ⟨by rfl, ?_⟩) ?_ ?_
             rotate_left
             ·
              intro w'
              go_simp
              with_reducible rfl
             rotate_left
             ·
              simp only [Act.put, List.setIfInBounds_toArray, List.set_cons_zero, List.set_cons_succ, i64_w, i32_w]
              rfl
             refine take_ (i := 1) (N := some 66) (v := ?_) (a' := ?_) #[true, true, true, false, false, true, false, false, false, false] rfl rfl (take_ofW HT_.out HW_.out (by kernel_rfl)) (fun _ _ _ h => h) (Or.inl ⟨by rfl, ?_⟩) hHeld ?_ ?_
             rotate_left
             ·
              rintro w' ⟨s0, s1, s2, s3, s4, s5, s6, s7, s8⟩
              go_simp
              with_reducible rfl
             rotate_left
             ·
              simp only [Act.put, List.setIfInBounds_toArray, List.set_cons_zero, List.set_cons_succ, i64_w, i32_w]
              rfl
             refine pure_ (i := 3) (N := some 68) (v := ?_) (a' := ?_) #[true, true, true, true, false, true, false, false, false, false] rfl rfl (any_of HT_.out (by kernel_rfl)) (fun _ _ _ h => h) (Or.inl ⟨by rfl, ?_⟩) ?_ ?_
             rotate_left
             ·
              intro w'
              go_simp
              with_reducible rfl
             rotate_left
             ·
              simp only [Act.put, List.setIfInBounds_toArray, List.set_cons_zero, List.set_cons_succ, i64_w, i32_w]
              rfl
             refine take_ (i := 4) (N := some 69) (v := ?_) (a' := ?_) #[true, true, true, true, true, true, false, false, false, false] rfl rfl (take_ofW HT_.out HW_.out (by kernel_rfl)) (fun _ _ _ h => h) (Or.inl ⟨by rfl, ?_⟩) hHeld ?_ ?_
             rotate_left
             ·
              rintro w' ⟨s0, s1, s2, s3, s4, s5, s6, s7, s8⟩
              go_simp
              with_reducible rfl
             rotate_left
             ·
              simp only [Act.put, List.setIfInBounds_toArray, List.set_cons_zero, List.set_cons_succ, i64_w, i32_w]
              rfl
             refine take_ (i := 6) (N := some 71) (v := ?_) (a' := ?_) #[true, true, true, true, true, true, true, false, false, false] rfl rfl (take_ofW HT_.out HW_.out (by kernel_rfl)) (fun _ _ _ h => h) (Or.inl ⟨by rfl, ?_⟩) hHeld ?_ ?_
             rotate_left
             ·
              rintro w' ⟨s0, s1, s2, s3, s4, s5, s6, s7, s8⟩
              go_simp
              with_reducible rfl
             rotate_left
             ·
              simp only [Act.put, List.setIfInBounds_toArray, List.set_cons_zero, List.set_cons_succ, i64_w, i32_w]
              rfl
             refine pure_ (i := 7) (N := some 72) (v := ?_) (a' := ?_) #[true, true, true, true, true, true, true, true, false, false] rfl rfl (any_of HT_.out (by kernel_rfl)) (fun _ _ _ h => h) (Or.inl ⟨by rfl, ?_⟩) ?_ ?_
             rotate_left
             ·
              intro w'
              go_simp
              with_reducible rfl
             rotate_left
             ·
              simp only [Act.put, List.setIfInBounds_toArray, List.set_cons_zero, List.set_cons_succ, i64_w, i32_w]
              rfl
             refine one_ (i := 8) (N := some 73) #[true, true, true, true, true, true, true, true, true, false] rfl rfl (one_of HT_.out (by kernel_rfl)) (by decide) (fun K hK => ?_)
             refine goes_ Try.func37 (by kernel_rfl) rfl #[.agg #[.int .i64 ((rd_T56 l0_1 x7_3).f0), .slice A215_1 ((rd_T56 l0_1 x7_3).f1).length c215_1, .int .i64 ((rd_T56 l0_1 x7_3).f2), .int .u64 ((rd_T56 l0_1 x7_3).f3.f0), .int .u64 ((rd_T56 l0_1 x7_3).f3.f1), .int .u64 ((rd_T56 l0_1 x7_3).f3.f2), .int .u64 ((rd_T56 l0_1 x7_3).f3.f3)], .int .i64 (l0_0.length : Int)] (by rfl) rfl rfl (by (try simp only [List.map_toArray, List.map_cons, List.map_nil]); first | done | rfl | (simp only [List.length_drop, List.length_take]; rfl)) ?_
             with_reducible refine (vetchref05_Made.calls k3 ((rd_T56 l0_1 x7_3).f0) _ _ ((rd_T56 l0_1 x7_3).f1) ((rd_T56 l0_1 x7_3).f2) ((rd_T56 l0_1 x7_3).f3.f0) ((rd_T56 l0_1 x7_3).f3.f1) ((rd_T56 l0_1 x7_3).f3.f2) ((rd_T56 l0_1 x7_3).f3.f3) (l0_0.length : Int) false _ ?side1 ?side2 A28.out).mono ?_
             (case side1 => repeat (first | exact (Kd.C_below HR215_1.out HB.out) | (with_reducible refine Kd.C_alloc ?_ _) | (with_reducible refine Kd.C_drewN ?_ _) | (with_reducible refine Kd.C_drew ?_)))
             (case side2 => exact HC215_1.out)
             rintro e w35 ⟨rfl, hb⟩
             refine ⟨_, rfl, ?_⟩
             have n0_ := Aside0.mk (blk_below (g := gb210) (o := .cells #[.slice A0_0 l0_0.length c0_0, .slice (some ad215) l0_1.length c0_1] 25 (0, 0)) (by (with_reducible repeat (first | refine blk_drewN ?_ _ | refine blk_drew ?_ | refine blk_alloc ?_ _)); exact BK210.out) hb)
             have n1_ := Aside0.mk (below_step (by repeat (first | (with_reducible first | exact HB.out | apply below_alloc | apply pw_below_drewN | apply below_drew1 | refine below_set ?_ GE210.out) | exact HB.out)) hb)
             clear BK210
             clear HB
             have BK210 := n0_
             have HB := n1_
             clear n0_ n1_
             (try clear hb)
             (try clear hb2)
             (try clear hk)
             (try clear hi)
             refine hK.out _ _ ⟨(blk_cell BK210.out 0).trans rfl, (blk_cell BK210.out 1).trans rfl, ((HB.out.cell (World.block_lt_of_cell? w _ hw215_0)).trans hw215_0), ((HB.out.cell (World.block_lt_of_cell? w _ hw215_1)).trans hw215_1), ((HB.out.cell (World.block_lt_of_cell? w _ hw215_2)).trans hw215_2), ((HB.out.cell (World.block_lt_of_cell? w _ hw215_3)).trans hw215_3), ((HB.out.cell (World.block_lt_of_cell? w _ hw215_4)).trans hw215_4), ((HB.out.cell (World.block_lt_of_cell? w _ hw215_5)).trans hw215_5), ((HB.out.cell (World.block_lt_of_cell? w _ hw215_6)).trans hw215_6)⟩ (fun hHeld => ?_)
             clear hK K
             refine norm_ (a' := ?_) ?_ ?_
             rotate_left
             ·
              show Act.put _ (some 73) _ = _
              simp only [Act.put, List.setIfInBounds_toArray, List.set_cons_zero, List.set_cons_succ, i64_w, i32_w]
              rfl
             refine pure_ (i := 9) (N := some 74) (v := ?_) (a' := ?_) #[true, true, true, true, true, true, true, true, true, true] rfl rfl (any_of HT_.out (by kernel_rfl)) (fun _ _ _ h => h) (Or.inl ⟨by rfl, ?_⟩) ?_ ?_
             rotate_left
             ·
              intro w'
              go_simp
              with_reducible rfl
             rotate_left
             ·
              simp only [Act.put, List.setIfInBounds_toArray, List.set_cons_zero, List.set_cons_succ, i64_w, i32_w]
              rfl
             refine done_ (done_of HT_.out (by kernel_rfl)) ?_
             try go_wp2
             go_ret3
             exact ⟨by first | rfl | (simp [errW_none, errW_some] <;> rfl) | (simp [*, errW_none, errW_some] <;> rfl), by repeat (first | (with_reducible first | exact HB.out | apply below_alloc | apply pw_below_drewN | apply below_drew1 | refine below_set ?_ GE210.out) | exact HB.out)⟩
           ·
            rw [if_neg c27] at H
            exact absurd H (by simp)
          ·
           rw [if_neg c26] at H
           have c26b0 : decide (x7_3 < (l0_1.length : Int)) = false := decide_eq_false c26
           clear c26
           replace H := Option.bind_eq_some_iff.mp H
           obtain ⟨t217, A360, H⟩ := H
           replace H : (if t217 = true then (vetchref05_Check.l3 k3 0 l0_0 l0_1) else (some ((⟨#[]⟩ : ByteArray), 10, 0))) = some (r1, r2, r3) := H
           have A36 := Aside0.mk A360
           clear A360
           by_cases c37 : t217 = true
           ·
            subst c37
            have H1 : (vetchref05_Check.l3 k3 0 l0_0 l0_1) = some (r1, r2, r3) := by rw [if_pos rfl] at H; exact H
            clear H
            have H := H1
            clear H1
            have H' := Aside0.mk H
            clear H
            have hcz38_0 : wr.cell? ⟨gb210, 0, none⟩ = some (.slice A0_0 l0_0.length c0_0) := (blk_cell BK210.out 0).trans rfl
            have hcz38_1 : wr.cell? ⟨gb210, 1, none⟩ = some (.slice A0_1 l0_1.length c0_1) := (blk_cell BK210.out 1).trans rfl
            have hfz38_0 := blk_frozen BK210.out 0
            have hfz38_1 := blk_frozen BK210.out 1
            go_wp2_with (first | ((with_reducible refine gate_callee (f := 38) rfl ?_); refine goesL_ (some 77) rfl rfl Try.func38 (by kernel_rfl) rfl #[.agg #[.slice A0_0 l0_0.length c0_0, .slice A0_1 l0_1.length c0_1]] rfl (by (try simp only [List.map_toArray, List.map_cons, List.map_nil]); first | done | rfl | (simp only [List.length_drop, List.length_take]; rfl)) ?_; (with_reducible refine (vetchref05_Ordered.calls k3 _ _ l0_0 _ _ l0_1 true _ ?side1 ?side2 ?side3 ?side4 A36.out).mono ?_); (case side1 => repeat (first | exact (Kd.C_below HR0_0.out HB.out) | (with_reducible refine Kd.C_alloc ?_ _) | (with_reducible refine Kd.C_drewN ?_ _) | (with_reducible refine Kd.C_drew ?_))); (case side2 => exact HC0_0.out); (case side3 => repeat (first | exact (Kd.C_below HR0_1.out HB.out) | (with_reducible refine Kd.C_alloc ?_ _) | (with_reducible refine Kd.C_drewN ?_ _) | (with_reducible refine Kd.C_drew ?_))); (case side4 => exact HC0_1.out); rintro e w39 ⟨rfl, hb⟩; refine ⟨_, rfl, ?_⟩; have n0_ := Aside0.mk (blk_below (g := gb210) (o := .cells #[.slice A0_0 l0_0.length c0_0, .slice A0_1 l0_1.length c0_1] 25 (0, 0)) (by (with_reducible repeat (first | refine blk_drewN ?_ _ | refine blk_drew ?_ | refine blk_alloc ?_ _)); exact BK210.out) hb); have n1_ := Aside0.mk (below_step (by repeat (first | (with_reducible first | exact HB.out | apply below_alloc | apply pw_below_drewN | apply below_drew1 | refine below_set ?_ GE210.out) | exact HB.out)) hb); clear BK210; clear HB; have BK210 := n0_; have HB := n1_; clear n0_ n1_; (try clear hb); (try clear hb2); (try clear hk); (try clear hi)))
            go_loopg [8] k3 (fun kq v8 w' => ∃ (x8_4 : Int), v8 = .int .i64 x8_4 ∧ Aside0 (vetchref05_Check.l3 kq x8_4 l0_0 l0_1 = some (r1, r2, r3)) ∧ Aside0 (kq ≤ k3) ∧ Aside0 (w'.heap[gb210]? = some (.cells #[(.slice A0_0 l0_0.length c0_0), (.slice A0_1 l0_1.length c0_1)] 25 (0, 0))) ∧ Aside0 (Below w.heap.size w w'))
            case atStart => exact ⟨(0), (by first | rfl | (simp; done) | (simp [*]; done)), H', ⟨Nat.le_refl _⟩, ⟨by (with_reducible repeat (first | refine blk_drewN ?_ _ | refine blk_drew ?_ | refine blk_alloc ?_ _)); exact BK210.out⟩, ⟨by repeat (first | (with_reducible first | exact HB.out | apply below_alloc | apply pw_below_drewN | apply below_drew1 | refine below_set ?_ GE210.out) | exact HB.out)⟩⟩
            case round =>
             clear H'
             try clear c1
             try clear c2
             try clear p2
             try clear q2
             try clear hx2
             try clear c3
             try clear c4
             try clear c4b0
             try clear c4b1
             try clear p6
             try clear c7
             try clear c8
             try clear c8b0
             try clear c8b1
             try clear c8b2
             try clear c11
             try clear c11b0
             try clear c12
             try clear c12b0
             try clear c14
             try clear c16
             try clear c16b0
             try clear c17
             try clear c17b0
             try clear c18
             try clear c18b0
             try clear c19
             try clear c19b0
             try clear c20
             try clear c20b0
             try clear c21
             try clear c21b0
             try clear c21b1
             try clear p21
             try clear q21
             try clear hx21
             try clear c26
             try clear c26b0
             try clear c27
             try clear c27b0
             try clear c29
             try clear c36
             try clear c37
             try clear c38
             try clear hcz10_0
             try clear hcz10_1
             try clear hcz15_0
             try clear hcz15_1
             try clear hcz24_0
             try clear hcz24_1
             try clear hcz25_0
             try clear hcz25_1
             try clear hcz30_0
             try clear hcz30_1
             try clear hcz33_0
             try clear hcz33_1
             try clear hcz38_0
             try clear hcz38_1
             try clear hcz5_0
             try clear hcz5_1
             try clear hcz6_0
             try clear hcz6_1
             try clear hcz9_0
             try clear hcz9_1
             try clear hfz10_0
             try clear hfz10_1
             try clear hfz15_0
             try clear hfz15_1
             try clear hfz24_0
             try clear hfz24_1
             try clear hfz25_0
             try clear hfz25_1
             try clear hfz30_0
             try clear hfz30_1
             try clear hfz33_0
             try clear hfz33_1
             try clear hfz38_0
             try clear hfz38_1
             try clear hfz5_0
             try clear hfz5_1
             try clear hfz6_0
             try clear hfz6_1
             try clear hfz9_0
             try clear hfz9_1
             try clear hx211_0
             try clear hx211_1
             try clear hx213_0
             try clear hx213_1
             try clear hx214_0
             try clear hx214_1
             try clear hx215_0
             try clear hx215_1
             try clear hx215_2
             try clear hx215_3
             try clear hx215_4
             try clear hx215_5
             try clear hx215_6
             try clear p2
             try clear p21
             try clear p211
             try clear p213
             try clear p214
             try clear p215
             try clear p6
             try clear q2
             try clear q21
             try clear q211
             try clear q213
             try clear q214
             try clear q215
             obtain ⟨x8_4, rfl, HA, HK4, BK210, HB⟩ := hrel
             cases gk with
             | zero => exact absurd HA.out (by simp [vetchref05_Check.l3])
             | succ k4 =>
              have H := HA.out
              clear HA
              simp only [vetchref05_Check.l3] at H
              by_cases c40 : x8_4 < (l0_1.length : Int)
              ·
               rw [if_pos c40] at H
               have c40b0 : decide (x8_4 < (l0_1.length : Int)) = true := decide_eq_true c40
               clear c40
               replace H := Option.bind_eq_some_iff.mp H
               obtain ⟨t218, A410, H⟩ := H
               replace H : (if t218 > 200 then (some ((⟨#[110, 111, 100, 101, 115]⟩ : ByteArray), 5, x8_4)) else (vetchref05_Check.l3 k4 (wrap64 (x8_4 + 1)) l0_0 l0_1)) = some (r1, r2, r3) := H
               have A41 := Aside0.mk A410
               clear A410
               by_cases c42 : t218 > 200
               ·
                rw [if_pos c42] at H
                have c42b0 : decide (200 < t218) = true := decide_eq_true c42
                clear c42
                simp only [Option.some.injEq, Prod.mk.injEq] at H
                obtain ⟨rfl, rfl, rfl⟩ := H
                have hcz43_0 : wr.cell? ⟨gb210, 0, none⟩ = some (.slice A0_0 l0_0.length c0_0) := (blk_cell BK210.out 0).trans rfl
                have hcz43_1 : wr.cell? ⟨gb210, 1, none⟩ = some (.slice A0_1 l0_1.length c0_1) := (blk_cell BK210.out 1).trans rfl
                have hfz43_0 := blk_frozen BK210.out 0
                have hfz43_1 := blk_frozen BK210.out 1
                go_wp2_with (first | ((with_reducible refine gate_callee (f := 39) rfl ?_); refine goesL_ (some 88) rfl rfl Try.func39 (by kernel_rfl) rfl #[.agg #[.slice A0_0 l0_0.length c0_0, .slice A0_1 l0_1.length c0_1], .int .i64 x8_4, .int .i64 205] rfl (by (try simp only [List.map_toArray, List.map_cons, List.map_nil]); first | done | rfl | (simp only [List.length_drop, List.length_take]; rfl)) ?_; (with_reducible refine (vetchref05_Depth.calls k4 _ _ l0_0 _ _ l0_1 x8_4 205 t218 _ ?side1 ?side2 ?side3 ?side4 A41.out).mono ?_); (case side1 => repeat (first | exact (Kd.C_below HR0_0.out HB.out) | (with_reducible refine Kd.C_alloc ?_ _) | (with_reducible refine Kd.C_drewN ?_ _) | (with_reducible refine Kd.C_drew ?_))); (case side2 => exact HC0_0.out); (case side3 => repeat (first | exact (Kd.C_below HR0_1.out HB.out) | (with_reducible refine Kd.C_alloc ?_ _) | (with_reducible refine Kd.C_drewN ?_ _) | (with_reducible refine Kd.C_drew ?_))); (case side4 => exact HC0_1.out); rintro e w44 ⟨rfl, hb⟩; refine ⟨_, rfl, ?_⟩; have n0_ := Aside0.mk (blk_below (g := gb210) (o := .cells #[.slice A0_0 l0_0.length c0_0, .slice A0_1 l0_1.length c0_1] 25 (0, 0)) (by (with_reducible repeat (first | refine blk_drewN ?_ _ | refine blk_drew ?_ | refine blk_alloc ?_ _)); exact BK210.out) hb); have n1_ := Aside0.mk (below_step (by repeat (first | (with_reducible first | exact HB.out | apply below_alloc | apply pw_below_drewN | apply below_drew1 | refine below_set ?_ GE210.out) | exact HB.out)) hb); clear BK210; clear HB; have BK210 := n0_; have HB := n1_; clear n0_ n1_; (try clear hb); (try clear hb2); (try clear hk); (try clear hi)))
                go_ret3
                exact ⟨by first | rfl | (simp [errW_none, errW_some] <;> rfl) | (simp [*, errW_none, errW_some] <;> rfl), by repeat (first | (with_reducible first | exact HB.out | apply below_alloc | apply pw_below_drewN | apply below_drew1 | refine below_set ?_ GE210.out) | exact HB.out)⟩
               ·
                rw [if_neg c42] at H
                have c42b0 : decide (200 < t218) = false := decide_eq_false c42
                clear c42
                have H' := Aside0.mk H
                clear H
                have hcz45_0 : wr.cell? ⟨gb210, 0, none⟩ = some (.slice A0_0 l0_0.length c0_0) := (blk_cell BK210.out 0).trans rfl
                have hcz45_1 : wr.cell? ⟨gb210, 1, none⟩ = some (.slice A0_1 l0_1.length c0_1) := (blk_cell BK210.out 1).trans rfl
                have hfz45_0 := blk_frozen BK210.out 0
                have hfz45_1 := blk_frozen BK210.out 1
                go_wp2_with (first | ((with_reducible refine gate_callee (f := 39) rfl ?_); refine goesL_ (some 88) rfl rfl Try.func39 (by kernel_rfl) rfl #[.agg #[.slice A0_0 l0_0.length c0_0, .slice A0_1 l0_1.length c0_1], .int .i64 x8_4, .int .i64 205] rfl (by (try simp only [List.map_toArray, List.map_cons, List.map_nil]); first | done | rfl | (simp only [List.length_drop, List.length_take]; rfl)) ?_; (with_reducible refine (vetchref05_Depth.calls k4 _ _ l0_0 _ _ l0_1 x8_4 205 t218 _ ?side1 ?side2 ?side3 ?side4 A41.out).mono ?_); (case side1 => repeat (first | exact (Kd.C_below HR0_0.out HB.out) | (with_reducible refine Kd.C_alloc ?_ _) | (with_reducible refine Kd.C_drewN ?_ _) | (with_reducible refine Kd.C_drew ?_))); (case side2 => exact HC0_0.out); (case side3 => repeat (first | exact (Kd.C_below HR0_1.out HB.out) | (with_reducible refine Kd.C_alloc ?_ _) | (with_reducible refine Kd.C_drewN ?_ _) | (with_reducible refine Kd.C_drew ?_))); (case side4 => exact HC0_1.out); rintro e w46 ⟨rfl, hb⟩; refine ⟨_, rfl, ?_⟩; have n0_ := Aside0.mk (blk_below (g := gb210) (o := .cells #[.slice A0_0 l0_0.length c0_0, .slice A0_1 l0_1.length c0_1] 25 (0, 0)) (by (with_reducible repeat (first | refine blk_drewN ?_ _ | refine blk_drew ?_ | refine blk_alloc ?_ _)); exact BK210.out) hb); have n1_ := Aside0.mk (below_step (by repeat (first | (with_reducible first | exact HB.out | apply below_alloc | apply pw_below_drewN | apply below_drew1 | refine below_set ?_ GE210.out) | exact HB.out)) hb); clear BK210; clear HB; have BK210 := n0_; have HB := n1_; clear n0_ n1_; (try clear hb); (try clear hb2); (try clear hk); (try clear hi)))
                go_roundg k4
                case measure => have := HJ1.out; have := HK2.out; have := HK3.out; have := HK4.out; omega
                case rel => exact ⟨(wrap64 (x8_4 + 1)), (by first | rfl | (simp; done) | (simp [*]; done)), H', ⟨by have := HJ1.out; have := HK2.out; have := HK3.out; have := HK4.out; omega⟩, ⟨by (with_reducible repeat (first | refine blk_drewN ?_ _ | refine blk_drew ?_ | refine blk_alloc ?_ _)); exact BK210.out⟩, ⟨by repeat (first | (with_reducible first | exact HB.out | apply below_alloc | apply pw_below_drewN | apply below_drew1 | refine below_set ?_ GE210.out) | exact HB.out)⟩⟩
              ·
               rw [if_neg c40] at H
               have c40b0 : decide (x8_4 < (l0_1.length : Int)) = false := decide_eq_false c40
               clear c40
               simp only [Option.some.injEq, Prod.mk.injEq] at H
               obtain ⟨rfl, rfl, rfl⟩ := H
               have hcz47_0 : wr.cell? ⟨gb210, 0, none⟩ = some (.slice A0_0 l0_0.length c0_0) := (blk_cell BK210.out 0).trans rfl
               have hcz47_1 : wr.cell? ⟨gb210, 1, none⟩ = some (.slice A0_1 l0_1.length c0_1) := (blk_cell BK210.out 1).trans rfl
               have hfz47_0 := blk_frozen BK210.out 0
               have hfz47_1 := blk_frozen BK210.out 1
               go_wp2
               go_ret3
               exact ⟨by first | rfl | (simp [errW_none, errW_some] <;> rfl) | (simp [*, errW_none, errW_some] <;> rfl), by repeat (first | (with_reducible first | exact HB.out | apply below_alloc | apply pw_below_drewN | apply below_drew1 | refine below_set ?_ GE210.out) | exact HB.out)⟩
           ·
            replace c37 := Bool.eq_false_iff.mpr c37
            subst c37
            have H1 : (some ((⟨#[]⟩ : ByteArray), 10, 0)) = some (r1, r2, r3) := by rw [if_neg (show ¬ (false = true) by decide)] at H; exact H
            clear H
            have H := H1
            clear H1
            simp only [Option.some.injEq, Prod.mk.injEq] at H
            obtain ⟨rfl, rfl, rfl⟩ := H
            have hcz48_0 : wr.cell? ⟨gb210, 0, none⟩ = some (.slice A0_0 l0_0.length c0_0) := (blk_cell BK210.out 0).trans rfl
            have hcz48_1 : wr.cell? ⟨gb210, 1, none⟩ = some (.slice A0_1 l0_1.length c0_1) := (blk_cell BK210.out 1).trans rfl
            have hfz48_0 := blk_frozen BK210.out 0
            have hfz48_1 := blk_frozen BK210.out 1
            go_wp2_with (first | ((with_reducible refine gate_callee (f := 38) rfl ?_); refine goesL_ (some 77) rfl rfl Try.func38 (by kernel_rfl) rfl #[.agg #[.slice A0_0 l0_0.length c0_0, .slice A0_1 l0_1.length c0_1]] rfl (by (try simp only [List.map_toArray, List.map_cons, List.map_nil]); first | done | rfl | (simp only [List.length_drop, List.length_take]; rfl)) ?_; (with_reducible refine (vetchref05_Ordered.calls k3 _ _ l0_0 _ _ l0_1 false _ ?side1 ?side2 ?side3 ?side4 A36.out).mono ?_); (case side1 => repeat (first | exact (Kd.C_below HR0_0.out HB.out) | (with_reducible refine Kd.C_alloc ?_ _) | (with_reducible refine Kd.C_drewN ?_ _) | (with_reducible refine Kd.C_drew ?_))); (case side2 => exact HC0_0.out); (case side3 => repeat (first | exact (Kd.C_below HR0_1.out HB.out) | (with_reducible refine Kd.C_alloc ?_ _) | (with_reducible refine Kd.C_drewN ?_ _) | (with_reducible refine Kd.C_drew ?_))); (case side4 => exact HC0_1.out); rintro e w49 ⟨rfl, hb⟩; refine ⟨_, rfl, ?_⟩; have n0_ := Aside0.mk (blk_below (g := gb210) (o := .cells #[.slice A0_0 l0_0.length c0_0, .slice A0_1 l0_1.length c0_1] 25 (0, 0)) (by (with_reducible repeat (first | refine blk_drewN ?_ _ | refine blk_drew ?_ | refine blk_alloc ?_ _)); exact BK210.out) hb); have n1_ := Aside0.mk (below_step (by repeat (first | (with_reducible first | exact HB.out | apply below_alloc | apply pw_below_drewN | apply below_drew1 | refine below_set ?_ GE210.out) | exact HB.out)) hb); clear BK210; clear HB; have BK210 := n0_; have HB := n1_; clear n0_ n1_; (try clear hb); (try clear hb2); (try clear hk); (try clear hi)))
            go_ret3
            exact ⟨by first | rfl | (simp [errW_none, errW_some] <;> rfl) | (simp [*, errW_none, errW_some] <;> rfl), by repeat (first | (with_reducible first | exact HB.out | apply below_alloc | apply pw_below_drewN | apply below_drew1 | refine below_set ?_ GE210.out) | exact HB.out)⟩
end Go.Proofs.Ythgedejnpgcacaa.V
namespace Go.Proofs.Ythgedejnpgcacaa.V
open Go.RowKit Go.Proofs.YthgedejnpgcacaaW.PrintWords Go.Proofs.YthgedejnpgcacaaW.PrintLast Go.Proofs.YthgedejnpgcacaaW.PrintMore
attribute [local go_sem] max2_int min2_int max_two min_two max_three min_three max_four min_four tdiv_most
set_option linter.unusedVariables false
set_option linter.unusedSimpArgs false
def vetchref05_Valid.f (k : Nat) (l0_0 : List (S51)) (l0_1 : List (S56)) : Option (Bool) := (vetchref05_Check.f k l0_0 l0_1).bind fun bt220 => (some (bt220.2.1 == 0))
set_option maxHeartbeats 8000000 in
set_option maxRecDepth 100000 in
theorem vetchref05_Valid.calls (k : Nat) (A0_0 : Option Addr) (c0_0 : Nat) (l0_0 : List (S51)) (A0_1 : Option Addr) (c0_1 : Nat) (l0_1 : List (S56)) (r : Bool) (w : World) (hr0_0 : Kd.C k51 w A0_0 l0_0.length l0_0) (hc0_0 : l0_0.length ≤ c0_0) (hr0_1 : Kd.C k56 w A0_1 l0_1.length l0_1) (hc0_1 : l0_1.length ≤ c0_1) (h : vetchref05_Valid.f k l0_0 l0_1 = some r) :
 Calls Try.prog 25 #[.agg #[.slice A0_0 l0_0.length c0_0, .slice A0_1 l0_1.length c0_1]] w fun e w' => e = .returned (.bool r) ∧ Below w.heap.size w w' := by
 have hu25 := Try.underlying25
 have HR0_0 := Aside0.mk hr0_0
 have HC0_0 := Aside0.mk hc0_0
 clear hr0_0 hc0_0
 have HR0_1 := Aside0.mk hr0_1
 have HC0_1 := Aside0.mk hc0_1
 clear hr0_1 hc0_1
 have HB := Aside0.mk (Below.refl w.heap.size w)
 have H : ((vetchref05_Check.f k l0_0 l0_1).bind fun bt220 => (some (bt220.2.1 == 0))) = some r := h
 clear h
 replace H := Option.bind_eq_some_iff.mp H
 obtain ⟨⟨t220, t221, t222⟩, A20, H⟩ := H
 replace H : (some (t221 == 0)) = some r := H
 have A2 := Aside0.mk A20
 clear A20
 obtain rfl := Option.some.inj H
 go_enter Try.func25, Try.ntmps25
 go_wp2_with (first | ((with_reducible refine gate_dst (N := 1) rfl ?_); refine box_event ?hg (N := 1) ?hd (cs := #[.slice A0_0 l0_0.length c0_0, .slice A0_1 l0_1.length c0_1]) (t := 25) ?hr ?_; (case hd => rfl); (case hg => rfl); (case hr => first | (go_simp; done) | (go_simp; rfl)); intro gb219 hg w3 hbox hb; have n0_ := Aside0.mk (below_step (by repeat (first | (with_reducible first | exact HB.out | apply below_alloc | apply pw_below_drewN | apply below_drew1) | exact HB.out)) hb); have n1_ := Aside0.mk (hbox); have n2_ := Aside0.mk ((by rw [hg]; exact (below_size (by repeat (first | (with_reducible first | exact HB.out | apply below_alloc | apply pw_below_drewN | apply below_drew1) | exact HB.out))) : w.heap.size ≤ gb219)); have n3_ := Aside0.mk ((by rw [hg]; exact (below_size (by repeat (first | (with_reducible first | exact HB.out | apply below_alloc | apply pw_below_drewN | apply below_drew1) | exact HB.out))) : w.heap.size ≤ gb219)); clear HB; have HB := n0_; have BK219 := n1_; have GW219 := n2_; have GE219 := n3_; clear n0_ n1_ n2_ n3_; clear hb hbox hg; have hcz4_0 : w3.cell? ⟨gb219, 0, none⟩ = some (.slice A0_0 l0_0.length c0_0) := (blk_cell BK219.out 0).trans rfl; have hcz4_1 : w3.cell? ⟨gb219, 1, none⟩ = some (.slice A0_1 l0_1.length c0_1) := (blk_cell BK219.out 1).trans rfl; have hfz4_0 := blk_frozen BK219.out 0; have hfz4_1 := blk_frozen BK219.out 1) | ((with_reducible refine gate_callee (f := 32) rfl ?_); refine goesL_ (some 8) rfl rfl Try.func32 (by kernel_rfl) rfl #[.agg #[.slice A0_0 l0_0.length c0_0, .slice A0_1 l0_1.length c0_1]] rfl (by (try simp only [List.map_toArray, List.map_cons, List.map_nil]); first | done | rfl | (simp only [List.length_drop, List.length_take]; rfl)) ?_; (with_reducible refine (vetchref05_Check.calls k _ _ l0_0 _ _ l0_1 t220 t221 t222 _ ?side1 ?side2 ?side3 ?side4 A2.out).mono ?_); (case side1 => repeat (first | exact (Kd.C_below HR0_0.out HB.out) | (with_reducible refine Kd.C_alloc ?_ _) | (with_reducible refine Kd.C_drewN ?_ _) | (with_reducible refine Kd.C_drew ?_))); (case side2 => exact HC0_0.out); (case side3 => repeat (first | exact (Kd.C_below HR0_1.out HB.out) | (with_reducible refine Kd.C_alloc ?_ _) | (with_reducible refine Kd.C_drewN ?_ _) | (with_reducible refine Kd.C_drew ?_))); (case side4 => exact HC0_1.out); rintro e w5 ⟨rfl, hb⟩; refine ⟨_, rfl, ?_⟩; have n0_ := Aside0.mk (blk_below (g := gb219) (o := .cells #[.slice A0_0 l0_0.length c0_0, .slice A0_1 l0_1.length c0_1] 25 (0, 0)) (by (with_reducible repeat (first | refine blk_drewN ?_ _ | refine blk_drew ?_ | refine blk_alloc ?_ _)); exact BK219.out) hb); have n1_ := Aside0.mk (below_step (by repeat (first | (with_reducible first | exact HB.out | apply below_alloc | apply pw_below_drewN | apply below_drew1 | refine below_set ?_ GE219.out) | exact HB.out)) hb); clear BK219; clear HB; have BK219 := n0_; have HB := n1_; clear n0_ n1_; (try clear hb); (try clear hb2); (try clear hk); (try clear hi)))
 go_ret
 exact ⟨by first | rfl | (simp [errW_none, errW_some] <;> rfl) | (simp [*, errW_none, errW_some] <;> rfl), by repeat (first | (with_reducible first | exact HB.out | apply below_alloc | apply pw_below_drewN | apply below_drew1 | refine below_set ?_ GE219.out) | exact HB.out)⟩
def vetchref05_Small.f (k : Nat) (l0_0 : List (S51)) (l0_1 : List (S56)) : Option (Bool) := (vetchref05_Few.f k l0_0 l0_1).bind fun t224 => (if t224 = true then ((vetchref05_Valid.f k l0_0 l0_1).bind fun t225 => (some t225)) else (some false))
set_option maxHeartbeats 8000000 in
set_option maxRecDepth 100000 in
theorem vetchref05_Small.calls (k : Nat) (A0_0 : Option Addr) (c0_0 : Nat) (l0_0 : List (S51)) (A0_1 : Option Addr) (c0_1 : Nat) (l0_1 : List (S56)) (r : Bool) (w : World) (hr0_0 : Kd.C k51 w A0_0 l0_0.length l0_0) (hc0_0 : l0_0.length ≤ c0_0) (hr0_1 : Kd.C k56 w A0_1 l0_1.length l0_1) (hc0_1 : l0_1.length ≤ c0_1) (h : vetchref05_Small.f k l0_0 l0_1 = some r) :
 Calls Try.prog 18 #[.agg #[.slice A0_0 l0_0.length c0_0, .slice A0_1 l0_1.length c0_1]] w fun e w' => e = .returned (.bool r) ∧ Below w.heap.size w w' := by
 have hu25 := Try.underlying25
 have HR0_0 := Aside0.mk hr0_0
 have HC0_0 := Aside0.mk hc0_0
 clear hr0_0 hc0_0
 have HR0_1 := Aside0.mk hr0_1
 have HC0_1 := Aside0.mk hc0_1
 clear hr0_1 hc0_1
 have HB := Aside0.mk (Below.refl w.heap.size w)
 have H : ((vetchref05_Few.f k l0_0 l0_1).bind fun t224 => (if t224 = true then ((vetchref05_Valid.f k l0_0 l0_1).bind fun t225 => (some t225)) else (some false))) = some r := h
 clear h
 replace H := Option.bind_eq_some_iff.mp H
 obtain ⟨t224, A20, H⟩ := H
 replace H : (if t224 = true then ((vetchref05_Valid.f k l0_0 l0_1).bind fun t225 => (some t225)) else (some false)) = some r := H
 have A2 := Aside0.mk A20
 clear A20
 by_cases c3 : t224 = true
 ·
  subst c3
  have H1 : ((vetchref05_Valid.f k l0_0 l0_1).bind fun t225 => (some t225)) = some r := by rw [if_pos rfl] at H; exact H
  clear H
  have H := H1
  clear H1
  replace H := Option.bind_eq_some_iff.mp H
  obtain ⟨t225, A40, H⟩ := H
  replace H : (some t225) = some r := H
  have A4 := Aside0.mk A40
  clear A40
  obtain rfl := Option.some.inj H
  go_enter Try.func18, Try.ntmps18
  go_wp2_with (first | ((with_reducible refine gate_dst (N := 1) rfl ?_); refine box_event ?hg (N := 1) ?hd (cs := #[.slice A0_0 l0_0.length c0_0, .slice A0_1 l0_1.length c0_1]) (t := 25) ?hr ?_; (case hd => rfl); (case hg => rfl); (case hr => first | (go_simp; done) | (go_simp; rfl)); intro gb223 hg w5 hbox hb; have n0_ := Aside0.mk (below_step (by repeat (first | (with_reducible first | exact HB.out | apply below_alloc | apply pw_below_drewN | apply below_drew1) | exact HB.out)) hb); have n1_ := Aside0.mk (hbox); have n2_ := Aside0.mk ((by rw [hg]; exact (below_size (by repeat (first | (with_reducible first | exact HB.out | apply below_alloc | apply pw_below_drewN | apply below_drew1) | exact HB.out))) : w.heap.size ≤ gb223)); have n3_ := Aside0.mk ((by rw [hg]; exact (below_size (by repeat (first | (with_reducible first | exact HB.out | apply below_alloc | apply pw_below_drewN | apply below_drew1) | exact HB.out))) : w.heap.size ≤ gb223)); clear HB; have HB := n0_; have BK223 := n1_; have GW223 := n2_; have GE223 := n3_; clear n0_ n1_ n2_ n3_; clear hb hbox hg; have hcz6_0 : w5.cell? ⟨gb223, 0, none⟩ = some (.slice A0_0 l0_0.length c0_0) := (blk_cell BK223.out 0).trans rfl; have hcz6_1 : w5.cell? ⟨gb223, 1, none⟩ = some (.slice A0_1 l0_1.length c0_1) := (blk_cell BK223.out 1).trans rfl; have hfz6_0 := blk_frozen BK223.out 0; have hfz6_1 := blk_frozen BK223.out 1) | ((with_reducible refine gate_callee (f := 24) rfl ?_); refine goesL_ (some 4) rfl rfl Try.func24 (by kernel_rfl) rfl #[.agg #[.slice A0_0 l0_0.length c0_0, .slice A0_1 l0_1.length c0_1]] rfl (by (try simp only [List.map_toArray, List.map_cons, List.map_nil]); first | done | rfl | (simp only [List.length_drop, List.length_take]; rfl)) ?_; (with_reducible refine (vetchref05_Few.calls k _ _ l0_0 _ _ l0_1 true _ ?side1 ?side2 ?side3 ?side4 A2.out).mono ?_); (case side1 => repeat (first | exact (Kd.C_below HR0_0.out HB.out) | (with_reducible refine Kd.C_alloc ?_ _) | (with_reducible refine Kd.C_drewN ?_ _) | (with_reducible refine Kd.C_drew ?_))); (case side2 => exact HC0_0.out); (case side3 => repeat (first | exact (Kd.C_below HR0_1.out HB.out) | (with_reducible refine Kd.C_alloc ?_ _) | (with_reducible refine Kd.C_drewN ?_ _) | (with_reducible refine Kd.C_drew ?_))); (case side4 => exact HC0_1.out); rintro e w7 ⟨rfl, hb⟩; refine ⟨_, rfl, ?_⟩; have n0_ := Aside0.mk (blk_below (g := gb223) (o := .cells #[.slice A0_0 l0_0.length c0_0, .slice A0_1 l0_1.length c0_1] 25 (0, 0)) (by (with_reducible repeat (first | refine blk_drewN ?_ _ | refine blk_drew ?_ | refine blk_alloc ?_ _)); exact BK223.out) hb); have n1_ := Aside0.mk (below_step (by repeat (first | (with_reducible first | exact HB.out | apply below_alloc | apply pw_below_drewN | apply below_drew1 | refine below_set ?_ GE223.out) | exact HB.out)) hb); clear BK223; clear HB; have BK223 := n0_; have HB := n1_; clear n0_ n1_; (try clear hb); (try clear hb2); (try clear hk); (try clear hi); have hcz8_0 : w7.cell? ⟨gb223, 0, none⟩ = some (.slice A0_0 l0_0.length c0_0) := (blk_cell BK223.out 0).trans rfl; have hcz8_1 : w7.cell? ⟨gb223, 1, none⟩ = some (.slice A0_1 l0_1.length c0_1) := (blk_cell BK223.out 1).trans rfl; have hfz8_0 := blk_frozen BK223.out 0; have hfz8_1 := blk_frozen BK223.out 1) | (go_at_call 25; (with_reducible refine (vetchref05_Valid.calls k _ _ l0_0 _ _ l0_1 t225 _ ?side1 ?side2 ?side3 ?side4 A4.out).mono ?_); (case side1 => repeat (first | exact (Kd.C_below HR0_0.out HB.out) | (with_reducible refine Kd.C_alloc ?_ _) | (with_reducible refine Kd.C_drewN ?_ _) | (with_reducible refine Kd.C_drew ?_))); (case side2 => exact HC0_0.out); (case side3 => repeat (first | exact (Kd.C_below HR0_1.out HB.out) | (with_reducible refine Kd.C_alloc ?_ _) | (with_reducible refine Kd.C_drewN ?_ _) | (with_reducible refine Kd.C_drew ?_))); (case side4 => exact HC0_1.out); rintro e w9 ⟨rfl, hb⟩; have n0_ := Aside0.mk (blk_below (g := gb223) (o := .cells #[.slice A0_0 l0_0.length c0_0, .slice A0_1 l0_1.length c0_1] 25 (0, 0)) (by (with_reducible repeat (first | refine blk_drewN ?_ _ | refine blk_drew ?_ | refine blk_alloc ?_ _)); exact BK223.out) hb); have n1_ := Aside0.mk (below_step (by repeat (first | (with_reducible first | exact HB.out | apply below_alloc | apply pw_below_drewN | apply below_drew1 | refine below_set ?_ GE223.out) | exact HB.out)) hb); clear BK223; clear HB; have BK223 := n0_; have HB := n1_; clear n0_ n1_; (try clear hb); (try clear hb2); (try clear hk); (try clear hi)))
  go_ret
  exact ⟨by first | rfl | (simp [errW_none, errW_some] <;> rfl) | (simp [*, errW_none, errW_some] <;> rfl), by repeat (first | (with_reducible first | exact HB.out | apply below_alloc | apply pw_below_drewN | apply below_drew1 | refine below_set ?_ GE223.out) | exact HB.out)⟩
 ·
  replace c3 := Bool.eq_false_iff.mpr c3
  subst c3
  have H1 : (some false) = some r := by rw [if_neg (show ¬ (false = true) by decide)] at H; exact H
  clear H
  have H := H1
  clear H1
  obtain rfl := Option.some.inj H
  go_enter Try.func18, Try.ntmps18
  go_wp2_with (first | ((with_reducible refine gate_dst (N := 1) rfl ?_); refine box_event ?hg (N := 1) ?hd (cs := #[.slice A0_0 l0_0.length c0_0, .slice A0_1 l0_1.length c0_1]) (t := 25) ?hr ?_; (case hd => rfl); (case hg => rfl); (case hr => first | (go_simp; done) | (go_simp; rfl)); intro gb223 hg w10 hbox hb; have n0_ := Aside0.mk (below_step (by repeat (first | (with_reducible first | exact HB.out | apply below_alloc | apply pw_below_drewN | apply below_drew1) | exact HB.out)) hb); have n1_ := Aside0.mk (hbox); have n2_ := Aside0.mk ((by rw [hg]; exact (below_size (by repeat (first | (with_reducible first | exact HB.out | apply below_alloc | apply pw_below_drewN | apply below_drew1) | exact HB.out))) : w.heap.size ≤ gb223)); have n3_ := Aside0.mk ((by rw [hg]; exact (below_size (by repeat (first | (with_reducible first | exact HB.out | apply below_alloc | apply pw_below_drewN | apply below_drew1) | exact HB.out))) : w.heap.size ≤ gb223)); clear HB; have HB := n0_; have BK223 := n1_; have GW223 := n2_; have GE223 := n3_; clear n0_ n1_ n2_ n3_; clear hb hbox hg; have hcz11_0 : w10.cell? ⟨gb223, 0, none⟩ = some (.slice A0_0 l0_0.length c0_0) := (blk_cell BK223.out 0).trans rfl; have hcz11_1 : w10.cell? ⟨gb223, 1, none⟩ = some (.slice A0_1 l0_1.length c0_1) := (blk_cell BK223.out 1).trans rfl; have hfz11_0 := blk_frozen BK223.out 0; have hfz11_1 := blk_frozen BK223.out 1) | ((with_reducible refine gate_callee (f := 24) rfl ?_); refine goesL_ (some 4) rfl rfl Try.func24 (by kernel_rfl) rfl #[.agg #[.slice A0_0 l0_0.length c0_0, .slice A0_1 l0_1.length c0_1]] rfl (by (try simp only [List.map_toArray, List.map_cons, List.map_nil]); first | done | rfl | (simp only [List.length_drop, List.length_take]; rfl)) ?_; (with_reducible refine (vetchref05_Few.calls k _ _ l0_0 _ _ l0_1 false _ ?side1 ?side2 ?side3 ?side4 A2.out).mono ?_); (case side1 => repeat (first | exact (Kd.C_below HR0_0.out HB.out) | (with_reducible refine Kd.C_alloc ?_ _) | (with_reducible refine Kd.C_drewN ?_ _) | (with_reducible refine Kd.C_drew ?_))); (case side2 => exact HC0_0.out); (case side3 => repeat (first | exact (Kd.C_below HR0_1.out HB.out) | (with_reducible refine Kd.C_alloc ?_ _) | (with_reducible refine Kd.C_drewN ?_ _) | (with_reducible refine Kd.C_drew ?_))); (case side4 => exact HC0_1.out); rintro e w12 ⟨rfl, hb⟩; refine ⟨_, rfl, ?_⟩; have n0_ := Aside0.mk (blk_below (g := gb223) (o := .cells #[.slice A0_0 l0_0.length c0_0, .slice A0_1 l0_1.length c0_1] 25 (0, 0)) (by (with_reducible repeat (first | refine blk_drewN ?_ _ | refine blk_drew ?_ | refine blk_alloc ?_ _)); exact BK223.out) hb); have n1_ := Aside0.mk (below_step (by repeat (first | (with_reducible first | exact HB.out | apply below_alloc | apply pw_below_drewN | apply below_drew1 | refine below_set ?_ GE223.out) | exact HB.out)) hb); clear BK223; clear HB; have BK223 := n0_; have HB := n1_; clear n0_ n1_; (try clear hb); (try clear hb2); (try clear hk); (try clear hi)))
  go_ret
  exact ⟨by first | rfl | (simp [errW_none, errW_some] <;> rfl) | (simp [*, errW_none, errW_some] <;> rfl), by repeat (first | (with_reducible first | exact HB.out | apply below_alloc | apply pw_below_drewN | apply below_drew1 | refine below_set ?_ GE223.out) | exact HB.out)⟩
end Go.Proofs.Ythgedejnpgcacaa.V
namespace Go.Proofs.Ythgedejnpgcacaa.V
open Go.RowKit Go.Proofs.YthgedejnpgcacaaW.PrintWords Go.Proofs.YthgedejnpgcacaaW.PrintLast Go.Proofs.YthgedejnpgcacaaW.PrintMore
attribute [local go_sem] max2_int min2_int max_two min_two max_three min_three max_four min_four tdiv_most
set_option linter.unusedVariables false
set_option linter.unusedSimpArgs false
theorem eqA45 (d : Nat) (w : World) (x0 y0 : Bool) (x1 y1 : Bool) (x2 y2 : Bool) :
    (Op.equalIn (d + 2) 45 (.agg #[.bool x0, .bool x1, .bool x2]) (.agg #[.bool y0, .bool y1, .bool y2])).run Try.prog w = .ok (x0 == y0 && (x1 == y1 && (x2 == y2))) w := by
  refine eqA_of Try.underlying45 (by kernel_rfl) ?_
  refine eqf_cons (by rfl) (by go_simp; rfl) (by go_simp; rfl) (by go_simp) ?_
  refine eqf_cons (by rfl) (by go_simp; rfl) (by go_simp; rfl) (by go_simp) ?_
  exact eqf_last (by rfl) (by go_simp; rfl) (by go_simp; rfl) (by go_simp)
end Go.Proofs.Ythgedejnpgcacaa.V
namespace Go.Proofs.Ythgedejnpgcacaa.V
open Go.RowKit Go.Proofs.YthgedejnpgcacaaW.PrintWords Go.Proofs.YthgedejnpgcacaaW.PrintLast Go.Proofs.YthgedejnpgcacaaW.PrintMore
attribute [local go_sem] max2_int min2_int max_two min_two max_three min_three max_four min_four tdiv_most
set_option linter.unusedVariables false
set_option linter.unusedSimpArgs false
def vetchref11_ok.f (a0_0 : Bool) (a0_1 : Bool) (a0_2 : Bool) : Option (Bool) := if a0_0 = true then (some true) else (some a0_1)
set_option maxHeartbeats 8000000 in
set_option maxRecDepth 100000 in
theorem vetchref11_ok.calls (a0_0 : Bool) (a0_1 : Bool) (a0_2 : Bool) (r : Bool) (w : World) (h : vetchref11_ok.f a0_0 a0_1 a0_2 = some r) :
 Calls Try.prog 35 #[.agg #[.bool a0_0, .bool a0_1, .bool a0_2]] w fun e w' => e = .returned (.bool r) ∧ Below w.heap.size w w' := by
 have hu45 := Try.underlying45
 have HB := Aside0.mk (Below.refl w.heap.size w)
 have H : (if a0_0 = true then (some true) else (some a0_1)) = some r := h
 clear h
 by_cases c2 : a0_0 = true
 ·
  subst c2
  have H1 : (some true) = some r := by rw [if_pos rfl] at H; exact H
  clear H
  have H := H1
  clear H1
  obtain rfl := Option.some.inj H
  go_enter Try.func35, Try.ntmps35
  go_wp2_with (first | ((with_reducible refine gate_dst (N := 1) rfl ?_); refine box_event ?hg (N := 1) ?hd (cs := #[.bool true, .bool a0_1, .bool a0_2]) (t := 45) ?hr ?_; (case hd => rfl); (case hg => rfl); (case hr => first | (go_simp; done) | (go_simp; rfl)); intro gb293 hg w3 hbox hb; have n0_ := Aside0.mk (below_step (by repeat (first | (with_reducible first | exact HB.out | apply below_alloc | apply pw_below_drewN | apply below_drew1) | exact HB.out)) hb); have n1_ := Aside0.mk (hbox); have n2_ := Aside0.mk ((by rw [hg]; exact (below_size (by repeat (first | (with_reducible first | exact HB.out | apply below_alloc | apply pw_below_drewN | apply below_drew1) | exact HB.out))) : w.heap.size ≤ gb293)); have n3_ := Aside0.mk ((by rw [hg]; exact (below_size (by repeat (first | (with_reducible first | exact HB.out | apply below_alloc | apply pw_below_drewN | apply below_drew1) | exact HB.out))) : w.heap.size ≤ gb293)); clear HB; have HB := n0_; have BK293 := n1_; have GW293 := n2_; have GE293 := n3_; clear n0_ n1_ n2_ n3_; clear hb hbox hg; have hcz4_0 : w3.cell? ⟨gb293, 0, none⟩ = some (.bool true) := (blk_cell BK293.out 0).trans rfl; have hcz4_1 : w3.cell? ⟨gb293, 1, none⟩ = some (.bool a0_1) := (blk_cell BK293.out 1).trans rfl; have hcz4_2 : w3.cell? ⟨gb293, 2, none⟩ = some (.bool a0_2) := (blk_cell BK293.out 2).trans rfl; have hfz4_0 := blk_frozen BK293.out 0; have hfz4_1 := blk_frozen BK293.out 1; have hfz4_2 := blk_frozen BK293.out 2))
  go_ret
  exact ⟨by first | rfl | (simp [errW_none, errW_some] <;> rfl) | (simp [*, errW_none, errW_some] <;> rfl), by repeat (first | (with_reducible first | exact HB.out | apply below_alloc | apply pw_below_drewN | apply below_drew1 | refine below_set ?_ GE293.out) | exact HB.out)⟩
 ·
  replace c2 := Bool.eq_false_iff.mpr c2
  subst c2
  have H1 : (some a0_1) = some r := by rw [if_neg (show ¬ (false = true) by decide)] at H; exact H
  clear H
  have H := H1
  clear H1
  obtain rfl := Option.some.inj H
  go_enter Try.func35, Try.ntmps35
  go_wp2_with (first | ((with_reducible refine gate_dst (N := 1) rfl ?_); refine box_event ?hg (N := 1) ?hd (cs := #[.bool false, .bool a0_1, .bool a0_2]) (t := 45) ?hr ?_; (case hd => rfl); (case hg => rfl); (case hr => first | (go_simp; done) | (go_simp; rfl)); intro gb293 hg w5 hbox hb; have n0_ := Aside0.mk (below_step (by repeat (first | (with_reducible first | exact HB.out | apply below_alloc | apply pw_below_drewN | apply below_drew1) | exact HB.out)) hb); have n1_ := Aside0.mk (hbox); have n2_ := Aside0.mk ((by rw [hg]; exact (below_size (by repeat (first | (with_reducible first | exact HB.out | apply below_alloc | apply pw_below_drewN | apply below_drew1) | exact HB.out))) : w.heap.size ≤ gb293)); have n3_ := Aside0.mk ((by rw [hg]; exact (below_size (by repeat (first | (with_reducible first | exact HB.out | apply below_alloc | apply pw_below_drewN | apply below_drew1) | exact HB.out))) : w.heap.size ≤ gb293)); clear HB; have HB := n0_; have BK293 := n1_; have GW293 := n2_; have GE293 := n3_; clear n0_ n1_ n2_ n3_; clear hb hbox hg; have hcz6_0 : w5.cell? ⟨gb293, 0, none⟩ = some (.bool false) := (blk_cell BK293.out 0).trans rfl; have hcz6_1 : w5.cell? ⟨gb293, 1, none⟩ = some (.bool a0_1) := (blk_cell BK293.out 1).trans rfl; have hcz6_2 : w5.cell? ⟨gb293, 2, none⟩ = some (.bool a0_2) := (blk_cell BK293.out 2).trans rfl; have hfz6_0 := blk_frozen BK293.out 0; have hfz6_1 := blk_frozen BK293.out 1; have hfz6_2 := blk_frozen BK293.out 2))
  go_ret
  exact ⟨by first | rfl | (simp [errW_none, errW_some] <;> rfl) | (simp [*, errW_none, errW_some] <;> rfl), by repeat (first | (with_reducible first | exact HB.out | apply below_alloc | apply pw_below_drewN | apply below_drew1 | refine below_set ?_ GE293.out) | exact HB.out)⟩
end Go.Proofs.Ythgedejnpgcacaa.V
namespace Go.Proofs.Ythgedejnpgcacaa.V
open Go.RowKit Go.Proofs.YthgedejnpgcacaaW.PrintWords Go.Proofs.YthgedejnpgcacaaW.PrintLast Go.Proofs.YthgedejnpgcacaaW.PrintMore
set_option linter.unusedVariables false
set_option linter.unusedSimpArgs false
theorem eq54h (d : Nat) (w : World) (x0 y0 x1 y1 x2 y2 x3 y3 : Int) :
    (Op.equalIn (d + 2) 54 (.agg #[.int .u64 x0, .int .u64 x1, .int .u64 x2, .int .u64 x3]) (.agg #[.int .u64 y0, .int .u64 y1, .int .u64 y2, .int .u64 y3])).run Try.prog w = .ok (x0 == y0 && (x1 == y1 && (x2 == y2 && (x3 == y3)))) w :=
  eqA_four (k := .u64) Try.underlying54 Try.underlying52 (by kernel_rfl) (by kernel_rfl) d w x0 y0 x1 y1 x2 y2 x3 y3
attribute [local go_sem high] eq54h
def vetchref11_Node.seqF (l : List S45) : List Int → Bool → Bool → Bool → Bool → Bool × Bool × Bool
  | [], n, e, f, all => (n, e && all, f)
  | c :: cs, n, e, f, all => vetchref11_Node.seqF l cs (n && (rd_T45 l c).f0) (e || (rd_T45 l c).f1) (f || ((rd_T45 l c).f2 && all)) (all && ((rd_T45 l c).f0 || (rd_T45 l c).f1))
def vetchref11_Node.choF (l : List S45) : List Int → Bool → Bool → Bool → Bool × Bool × Bool
  | [], n, e, f => (n, e, f)
  | c :: cs, n, e, f => vetchref11_Node.choF l cs (n || ((rd_T45 l c).f0 && f)) (e || ((rd_T45 l c).f1 && f)) (f && (rd_T45 l c).f2)
def vetchref11_Node.p (R : List S51) (l : List S45) (nd : S56) : Bool × Bool × Bool :=
  if nd.f0 = 0 then (true, false, false) else
  if nd.f0 = 1 then (false, !(nd.f3.f0 == 0) || (!(nd.f3.f1 == 0) || (!(nd.f3.f2 == 0) || !(nd.f3.f3 == 0))), true) else
  if nd.f0 = 2 then ((rd_T45 l (rd_T51 R nd.f2).f1).f0, (rd_T45 l (rd_T51 R nd.f2).f1).f1, (rd_T45 l (rd_T51 R nd.f2).f1).f2) else
  if nd.f0 = 3 then vetchref11_Node.seqF l nd.f1 true false false true else
  if nd.f0 = 4 then vetchref11_Node.choF l nd.f1 false false true else
  let x := rd_T45 l (rd nd.f1 0)
  if nd.f0 = 5 then (x.f2, x.f1, false) else
  if nd.f0 = 6 then (x.f0 && x.f2, x.f1, x.f2) else
  if nd.f0 = 7 then (x.f0 || x.f2, x.f1, false) else
  if nd.f0 = 8 then (x.f0 || x.f1, false, x.f2) else
  if nd.f0 = 9 then (x.f2, false, x.f0 || x.f1) else (false, false, false)
abbrev vetchref11_Node.fit (R : List S51) (l : List S45) (nd : S56) : Prop :=
  (∀ c ∈ nd.f1, 0 ≤ c ∧ c < (l.length : Int)) ∧ (5 ≤ nd.f0 → nd.f0 ≤ 9 → nd.f1 ≠ []) ∧ (nd.f0 = 2 → 0 ≤ nd.f2 ∧ nd.f2 < (R.length : Int) ∧ 0 ≤ (rd_T51 R nd.f2).f1 ∧ (rd_T51 R nd.f2).f1 < (l.length : Int))
def vetchref11_Node.f (R : List S51) (G : List S56) (i : Int) (l : List S45) : Option (Bool × Bool × Bool) :=
  if 0 ≤ i ∧ i < (G.length : Int) ∧ vetchref11_Node.fit R l (rd_T56 G i) then some (vetchref11_Node.p R l (rd_T56 G i)) else none
theorem rd_memh (xs : List Int) (i : Int) (h0 : 0 ≤ i) (h1 : i < (xs.length : Int)) : rd xs i ∈ xs := by
  have h : i.toNat < xs.length := by omega
  unfold rd
  rw [List.getD_eq_getElem?_getD, List.getElem?_eq_getElem h]
  exact List.getElem_mem h
theorem blk3 {w : World} {g t : Nat} {x y z : Value} (h : w.heap[g]? = some (.cells #[x, y, z] t (0, 0))) (a b c : Value) :
    (((w.setCell ⟨g, 0, none⟩ a).setCell ⟨g, 1, none⟩ b).setCell ⟨g, 2, none⟩ c).heap[g]? = some (.cells #[a, b, c] t (0, 0)) :=
  blk_put (cs := #[a, b, z]) (blk_put (cs := #[a, y, z]) (blk_put (cs := #[x, y, z]) h 0 a rfl) 1 b rfl) 2 c rfl
theorem below3 {w W : World} {n g : Nat} (h : Below n w W) (hg : n ≤ g) (a b c : Value) : Below n w (((W.setCell ⟨g, 0, none⟩ a).setCell ⟨g, 1, none⟩ b).setCell ⟨g, 2, none⟩ c) :=
  ((h.setCell (p := ⟨g, 0, none⟩) hg a).setCell (p := ⟨g, 1, none⟩) hg b).setCell (p := ⟨g, 2, none⟩) hg c
structure Env11 (W1 : World) (gx go : Nat) (ND : Array Value) (W : World) (n e f : Bool) : Prop where
  x : W.heap[gx]? = some (.cells ND 56 (0, 0))
  o : W.heap[go]? = some (.cells #[.bool n, .bool e, .bool f] 45 (0, 0))
  b : Below W1.heap.size W1 W
section
variable {W1 W W' : World} {gx go : Nat} {ND : Array Value} {n e f : Bool}
theorem Env11.put0 (h : Env11 W1 gx go ND W n e f) (h1 : W1.heap.size ≤ go) (h2 : gx ≠ go) (v : Bool) : Env11 W1 gx go ND (W.setCell ⟨go, 0, none⟩ (.bool v)) v e f :=
  ⟨blk_far h.x (p := ⟨go, 0, none⟩) h2 _, blk_put h.o 0 _ rfl, h.b.setCell (p := ⟨go, 0, none⟩) h1 _⟩
theorem Env11.put1 (h : Env11 W1 gx go ND W n e f) (h1 : W1.heap.size ≤ go) (h2 : gx ≠ go) (v : Bool) : Env11 W1 gx go ND (W.setCell ⟨go, 1, none⟩ (.bool v)) n v f :=
  ⟨blk_far h.x (p := ⟨go, 1, none⟩) h2 _, blk_put h.o 1 _ rfl, h.b.setCell (p := ⟨go, 1, none⟩) h1 _⟩
theorem Env11.put2 (h : Env11 W1 gx go ND W n e f) (h1 : W1.heap.size ≤ go) (h2 : gx ≠ go) (v : Bool) : Env11 W1 gx go ND (W.setCell ⟨go, 2, none⟩ (.bool v)) n e v :=
  ⟨blk_far h.x (p := ⟨go, 2, none⟩) h2 _, blk_put h.o 2 _ rfl, h.b.setCell (p := ⟨go, 2, none⟩) h1 _⟩
theorem Env11.below (h : Env11 W1 gx go ND W n e f) (hb : Below W.heap.size W W') : Env11 W1 gx go ND W' n e f := ⟨blk_below h.x hb, blk_below h.o hb, below_step h.b hb⟩
end
def okk (l : List S45) (c : Int) : Bool := (rd_T45 l c).f0 || (rd_T45 l c).f1
theorem drop_rd (xs : List Int) (j : Int) (h0 : 0 ≤ j) (h1 : j < (xs.length : Int)) : xs.drop j.toNat = rd xs j :: xs.drop (j + 1).toNat := by
  have h : j.toNat < xs.length := by omega
  rw [List.drop_eq_getElem_cons h, show (j + 1).toNat = j.toNat + 1 by omega]
  unfold rd
  rw [List.getD_eq_getElem?_getD, List.getElem?_eq_getElem h]
  rfl
theorem take_rd (xs : List Int) (j : Int) (h0 : 0 ≤ j) (h1 : j < (xs.length : Int)) : xs.take (j + 1).toNat = xs.take j.toNat ++ [rd xs j] := by
  have h : j.toNat < xs.length := by omega
  rw [show (j + 1).toNat = j.toNat + 1 by omega, List.take_succ_eq_append_getElem h]
  unfold rd
  rw [List.getD_eq_getElem?_getD, List.getElem?_eq_getElem h]
  rfl
theorem all_rd (p : Int → Bool) (xs : List Int) (j : Int) (h0 : 0 ≤ j) (h1 : j < (xs.length : Int)) : (xs.take (j + 1).toNat).all p = ((xs.take j.toNat).all p && p (rd xs j)) := by
  rw [take_rd xs j h0 h1, List.all_append]
  simp
theorem drop_end (xs : List Int) (j : Int) (h : ¬ j < (xs.length : Int)) : xs.drop j.toNat = [] := List.drop_eq_nil_of_le (by omega)
theorem wrap_next (j : Int) (n : Nat) (h0 : 0 ≤ j) (h1 : j < (n : Int)) (hn : n ≤ 9223372036854775807) : wrap64 (j + 1) = j + 1 := by unfold wrap64; omega
theorem hand_size (w : World) (o : Obj) : (w.alloc o).heap.size = w.heap.size + 1 := by simp
end Go.Proofs.Ythgedejnpgcacaa.V
namespace Go.Proofs.Ythgedejnpgcacaa.V
open Go.RowKit Go.Proofs.YthgedejnpgcacaaW.PrintWords Go.Proofs.YthgedejnpgcacaaW.PrintLast Go.Proofs.YthgedejnpgcacaaW.PrintMore
set_option linter.unusedVariables false
set_option linter.unusedSimpArgs false
attribute [local go_sem high] eq54h
set_option maxHeartbeats 4000000 in
set_option maxRecDepth 100000 in
theorem vetchref11_Node.calls_sx (A0_0 : Option Addr) (c0_0 : Nat) (l0_0 : List S51) (A0_1 : Option Addr) (c0_1 : Nat) (l0_1 : List S56) (a1 : Int) (A2 : Option Addr) (c2 : Nat) (l2 : List S45) (r1 r2 r3 : Bool) (w : World)
    (hr0_0 : Kd.C k51 w A0_0 l0_0.length l0_0) (hc0_0 : l0_0.length ≤ c0_0) (hr0_1 : Kd.C k56 w A0_1 l0_1.length l0_1) (hc0_1 : l0_1.length ≤ c0_1) (hr2 : Kd.C k45 w A2 l2.length l2) (hc2 : l2.length ≤ c2)
    (hs : Aside0 (¬ (rd_T56 l0_1 a1).f0 = 0 ∧ ¬ (rd_T56 l0_1 a1).f0 = 1 ∧ ¬ (rd_T56 l0_1 a1).f0 = 2 ∧ ¬ (rd_T56 l0_1 a1).f0 = 3 ∧ ¬ (rd_T56 l0_1 a1).f0 = 4 ∧ ¬ (rd_T56 l0_1 a1).f0 = 5 ∧ ¬ (rd_T56 l0_1 a1).f0 = 6 ∧ ¬ (rd_T56 l0_1 a1).f0 = 7 ∧ ¬ (rd_T56 l0_1 a1).f0 = 8 ∧ ¬ (rd_T56 l0_1 a1).f0 = 9)) (h : vetchref11_Node.f l0_0 l0_1 a1 l2 = some (r1, r2, r3)) :
    Calls Try.prog 31 #[.agg #[.slice A0_0 l0_0.length c0_0, .slice A0_1 l0_1.length c0_1], .int .i64 a1, .slice A2 l2.length c2] w fun e w' => e = .returned (.agg #[.bool r1, .bool r2, .bool r3]) ∧ Below w.heap.size w w' := by
  unfold vetchref11_Node.f at h
  split at h
  case isFalse => exact absurd h (by simp)
  case isTrue hfit =>
  obtain ⟨p2, p3, hfit⟩ := hfit
  have H : Aside0 (vetchref11_Node.p l0_0 l2 (rd_T56 l0_1 a1) = (r1, r2, r3)) := ⟨Option.some.inj h⟩
  have HF := Aside0.mk hfit
  clear h hfit
  have hu25 := Try.underlying25
  have hu45 := Try.underlying45
  have hu56 := Try.underlying56
  have hu51 := Try.underlying51
  have hu54 := Try.underlying54
  have HB := Aside0.mk (below_alloc (below_alloc (Below.refl w.heap.size w) (.cells #[.slice A0_0 l0_0.length c0_0, .slice A0_1 l0_1.length c0_1] 25)) (.cells #[.bool false, .bool false, .bool false] 45))
  have HG := Aside0.mk (blk_alloc (blk_new w (.cells #[.slice A0_0 l0_0.length c0_0, .slice A0_1 l0_1.length c0_1] 25)) (.cells #[.bool false, .bool false, .bool false] 45))
  have HR := Aside0.mk (blk_new (w.alloc (.cells #[.slice A0_0 l0_0.length c0_0, .slice A0_1 l0_1.length c0_1] 25)) (.cells #[.bool false, .bool false, .bool false] 45))
  have hsz : ((w.alloc (.cells #[.slice A0_0 l0_0.length c0_0, .slice A0_1 l0_1.length c0_1] 25)).alloc (.cells #[.bool false, .bool false, .bool false] 45)).heap.size = w.heap.size + 1 + 1 := by rw [hand_size, hand_size]
  rw [hand_size] at HR
  have HC0 := Aside0.mk (Kd.C_below hr0_0 HB.out)
  have HC1 := Aside0.mk (Kd.C_below hr0_1 HB.out)
  have HC2 := Aside0.mk (Kd.C_below hr2 HB.out)
  have HW := Aside0.mk hsz
  clear hr0_0 hr0_1 hr2 hsz
  go_enter Try.func31, Try.ntmps31
  go_upto_region 1 with (fail)
  generalize ((w.alloc (.cells #[.slice A0_0 l0_0.length c0_0, .slice A0_1 l0_1.length c0_1] 25)).alloc (.cells #[.bool false, .bool false, .bool false] 45)) = W1 at HB HG HR HC0 HC1 HC2 HW ⊢
  have g0 : W1.cell? ⟨w.heap.size, 0, none⟩ = some (.slice A0_0 l0_0.length c0_0) := (blk_cell HG.out 0).trans rfl
  have g1 : W1.cell? ⟨w.heap.size, 1, none⟩ = some (.slice A0_1 l0_1.length c0_1) := (blk_cell HG.out 1).trans rfl
  obtain ⟨ad, Ak, ck, e, k0, k1, k2, k3, k4, k5, k6, hlk, hCk⟩ := at_T56 HC1.out a1 p2 p3
  cases e
  have HCk := Aside0.mk hCk
  have HLk := Aside0.mk hlk
  clear hCk hlk HC1
  replace p2 := eq_true p2
  replace p3 := eq_true p3
  go_upto_region 3 with (fail)
  generalize rd_T56 l0_1 a1 = nd at *
  obtain ⟨gx, hgx⟩ : ∃ gx, gx = W1.heap.size := ⟨_, rfl⟩
  obtain ⟨go, hgo⟩ : ∃ go, go = gx + 1 := ⟨_, rfl⟩
  obtain ⟨gb, hgb⟩ : ∃ gb, gb = w.heap.size := ⟨_, rfl⟩
  obtain ⟨gr, hgr⟩ : ∃ gr, gr = gb + 1 := ⟨_, rfl⟩
  rw [← hgb] at HW HG HR
  rw [← hgr] at HR
  have E2 : Aside0 (Env11 W1 gx go #[.int .i64 nd.f0, .slice Ak nd.f1.length ck, .int .i64 nd.f2, .int .u64 nd.f3.f0, .int .u64 nd.f3.f1, .int .u64 nd.f3.f2, .int .u64 nd.f3.f3] ((W1.alloc (.cells #[.int .i64 nd.f0, .slice Ak nd.f1.length ck, .int .i64 nd.f2, .int .u64 nd.f3.f0, .int .u64 nd.f3.f1, .int .u64 nd.f3.f2, .int .u64 nd.f3.f3] 56)).alloc (.cells #[.bool false, .bool false, .bool false] 45)) false false false) := ⟨by rw [hgx]; exact blk_alloc (blk_new W1 (.cells #[.int .i64 nd.f0, .slice Ak nd.f1.length ck, .int .i64 nd.f2, .int .u64 nd.f3.f0, .int .u64 nd.f3.f1, .int .u64 nd.f3.f2, .int .u64 nd.f3.f3] 56)) (.cells #[.bool false, .bool false, .bool false] 45), by rw [hgo, hgx]; have := blk_new (W1.alloc (.cells #[.int .i64 nd.f0, .slice Ak nd.f1.length ck, .int .i64 nd.f2, .int .u64 nd.f3.f0, .int .u64 nd.f3.f1, .int .u64 nd.f3.f2, .int .u64 nd.f3.f3] 56)) (.cells #[.bool false, .bool false, .bool false] 45); rw [hand_size] at this; exact this, below_alloc (below_alloc (Below.refl _ _) _) _⟩
  have HLT := Aside0.mk (show W1.heap.size ≤ go ∧ gx ≠ go ∧ gb < W1.heap.size ∧ gr < W1.heap.size ∧ gr ≠ go by have := HW.out; omega)
  have HGB := Aside0.mk hgb
  have HGR := Aside0.mk hgr
  rw [← hgx, ← hgb, ← hgr, ← hgo]
  generalize (W1.alloc (.cells #[.int .i64 nd.f0, .slice Ak nd.f1.length ck, .int .i64 nd.f2, .int .u64 nd.f3.f0, .int .u64 nd.f3.f1, .int .u64 nd.f3.f2, .int .u64 nd.f3.f3] 56)).alloc (.cells #[.bool false, .bool false, .bool false] 45) = W2 at E2 ⊢
  clear k0 k1 k2 k3 k4 k5 k6 g0 g1 HW hgx hgo hgb hgr
  have x0 := (blk_cell E2.out.x 0).trans rfl
  go_upto_block 0 with fail
  go_cut [] (fun wc => ∃ n e f, Aside0 ((n, e, f) = (r1, r2, r3)) ∧ Aside0 (Env11 W1 gx go #[.int .i64 nd.f0, .slice Ak nd.f1.length ck, .int .i64 nd.f2, .int .u64 nd.f3.f0, .int .u64 nd.f3.f1, .int .u64 nd.f3.f2, .int .u64 nd.f3.f3] wc n e f))
  case first =>
   clear x0
   have h := H.out
   clear H
   unfold vetchref11_Node.p at h
   have c0 : ¬ nd.f0 = 0 := by have := hs.out; omega
   rw [if_neg c0] at h
   have b0 : (nd.f0 == 0) = false := beq_eq_false_iff_ne.2 c0
   go_upto_region 6 with (fail)
   clear b0
   have c1 : ¬ nd.f0 = 1 := by have := hs.out; omega
   rw [if_neg c1] at h
   have b1 : (nd.f0 == 1) = false := beq_eq_false_iff_ne.2 c1
   go_upto_region 9 with (fail)
   clear b1
   have c2 : ¬ nd.f0 = 2 := by have := hs.out; omega
   rw [if_neg c2] at h
   have b2 : (nd.f0 == 2) = false := beq_eq_false_iff_ne.2 c2
   go_upto_region 11 with (fail)
   clear b2
   have c3 : ¬ nd.f0 = 3 := by have := hs.out; omega
   rw [if_neg c3] at h
   have b3 : (nd.f0 == 3) = false := beq_eq_false_iff_ne.2 c3
   go_upto_region 28 with (fail)
   clear b3
   have c4 : ¬ nd.f0 = 4 := by have := hs.out; omega
   rw [if_neg c4] at h
   have b4 : (nd.f0 == 4) = false := beq_eq_false_iff_ne.2 c4
   go_upto_region 42 with (fail)
   clear b4
   have c5 : ¬ nd.f0 = 5 := by have := hs.out; omega
   rw [if_neg c5] at h
   have b5 : (nd.f0 == 5) = false := beq_eq_false_iff_ne.2 c5
   go_upto_region 45 with (fail)
   clear b5
   have c6 : ¬ nd.f0 = 6 := by have := hs.out; omega
   rw [if_neg c6] at h
   have b6 : (nd.f0 == 6) = false := beq_eq_false_iff_ne.2 c6
   go_upto_region 49 with (fail)
   clear b6
   have c7 : ¬ nd.f0 = 7 := by have := hs.out; omega
   rw [if_neg c7] at h
   have b7 : (nd.f0 == 7) = false := beq_eq_false_iff_ne.2 c7
   go_upto_region 52 with (fail)
   clear b7
   have c8 : ¬ nd.f0 = 8 := by have := hs.out; omega
   rw [if_neg c8] at h
   have b8 : (nd.f0 == 8) = false := beq_eq_false_iff_ne.2 c8
   go_upto_region 55 with (fail)
   clear b8
   have c9 : ¬ nd.f0 = 9 := by have := hs.out; omega
   rw [if_neg c9] at h
   have b9 : (nd.f0 == 9) = false := beq_eq_false_iff_ne.2 c9
   clear c0 c1 c2 c3 c4 c5 c6 c7 c8 c9
   have x0 : W2.cell? ⟨gx, 0, none⟩ = some (.int .i64 nd.f0) := (blk_cell E2.out.x 0).trans rfl
   go_wp2
   go_meet
   exact ⟨_, _, _, ⟨h⟩, ⟨E2.out⟩⟩
  case rest =>
   clear x0
   obtain ⟨n, e, f, HE, E3⟩ := hcut
   obtain ⟨rfl, rfl, rfl⟩ : n = r1 ∧ e = r2 ∧ f = r3 := by simpa using HE.out
   have o0 : wc.cell? ⟨go, 0, none⟩ = some (.bool n) := (blk_cell E3.out.o 0).trans rfl
   have r0 : wc.cell? ⟨gr, 0, none⟩ = some (.bool false) := (blk_cell (blk_below HR.out E3.out.b) 0).trans rfl
   have z0 : wc.frozen? ⟨gr, 0, none⟩ = false := blk_frozen (blk_below HR.out E3.out.b) 0
   have o1 : wc.cell? ⟨go, 1, none⟩ = some (.bool e) := (blk_cell E3.out.o 1).trans rfl
   have r1 : wc.cell? ⟨gr, 1, none⟩ = some (.bool false) := (blk_cell (blk_below HR.out E3.out.b) 1).trans rfl
   have z1 : wc.frozen? ⟨gr, 1, none⟩ = false := blk_frozen (blk_below HR.out E3.out.b) 1
   have o2 : wc.cell? ⟨go, 2, none⟩ = some (.bool f) := (blk_cell E3.out.o 2).trans rfl
   have r2 : wc.cell? ⟨gr, 2, none⟩ = some (.bool false) := (blk_cell (blk_below HR.out E3.out.b) 2).trans rfl
   have z2 : wc.frozen? ⟨gr, 2, none⟩ = false := blk_frozen (blk_below HR.out E3.out.b) 2
   go_wp2
   refine bodyPost_ret (results_cell_row rfl _ _ gr 45 #[.bool n, .bool e, .bool f] (0, 0) _ rfl (blk3 (blk_below HR.out E3.out.b) _ _ _) Try.underlying45 rfl (by kernel_rfl)) rfl ⟨rfl, ?_⟩
   exact below3 (below_step HB.out E3.out.b) (by have := HGB.out; have := HGR.out; omega) _ _ _
end Go.Proofs.Ythgedejnpgcacaa.V
namespace Go.Proofs.Ythgedejnpgcacaa.V
open Go.RowKit Go.Proofs.YthgedejnpgcacaaW.PrintWords Go.Proofs.YthgedejnpgcacaaW.PrintLast Go.Proofs.YthgedejnpgcacaaW.PrintMore
set_option linter.unusedVariables false
set_option linter.unusedSimpArgs false
attribute [local go_sem high] eq54h
set_option maxHeartbeats 4000000 in
set_option maxRecDepth 100000 in
theorem vetchref11_Node.calls_s0 (A0_0 : Option Addr) (c0_0 : Nat) (l0_0 : List S51) (A0_1 : Option Addr) (c0_1 : Nat) (l0_1 : List S56) (a1 : Int) (A2 : Option Addr) (c2 : Nat) (l2 : List S45) (r1 r2 r3 : Bool) (w : World)
    (hr0_0 : Kd.C k51 w A0_0 l0_0.length l0_0) (hc0_0 : l0_0.length ≤ c0_0) (hr0_1 : Kd.C k56 w A0_1 l0_1.length l0_1) (hc0_1 : l0_1.length ≤ c0_1) (hr2 : Kd.C k45 w A2 l2.length l2) (hc2 : l2.length ≤ c2)
    (hs : Aside0 ((rd_T56 l0_1 a1).f0 = 0)) (h : vetchref11_Node.f l0_0 l0_1 a1 l2 = some (r1, r2, r3)) :
    Calls Try.prog 31 #[.agg #[.slice A0_0 l0_0.length c0_0, .slice A0_1 l0_1.length c0_1], .int .i64 a1, .slice A2 l2.length c2] w fun e w' => e = .returned (.agg #[.bool r1, .bool r2, .bool r3]) ∧ Below w.heap.size w w' := by
  unfold vetchref11_Node.f at h
  split at h
  case isFalse => exact absurd h (by simp)
  case isTrue hfit =>
  obtain ⟨p2, p3, hfit⟩ := hfit
  have H : Aside0 (vetchref11_Node.p l0_0 l2 (rd_T56 l0_1 a1) = (r1, r2, r3)) := ⟨Option.some.inj h⟩
  have HF := Aside0.mk hfit
  clear h hfit
  have hu25 := Try.underlying25
  have hu45 := Try.underlying45
  have hu56 := Try.underlying56
  have hu51 := Try.underlying51
  have hu54 := Try.underlying54
  have HB := Aside0.mk (below_alloc (below_alloc (Below.refl w.heap.size w) (.cells #[.slice A0_0 l0_0.length c0_0, .slice A0_1 l0_1.length c0_1] 25)) (.cells #[.bool false, .bool false, .bool false] 45))
  have HG := Aside0.mk (blk_alloc (blk_new w (.cells #[.slice A0_0 l0_0.length c0_0, .slice A0_1 l0_1.length c0_1] 25)) (.cells #[.bool false, .bool false, .bool false] 45))
  have HR := Aside0.mk (blk_new (w.alloc (.cells #[.slice A0_0 l0_0.length c0_0, .slice A0_1 l0_1.length c0_1] 25)) (.cells #[.bool false, .bool false, .bool false] 45))
  have hsz : ((w.alloc (.cells #[.slice A0_0 l0_0.length c0_0, .slice A0_1 l0_1.length c0_1] 25)).alloc (.cells #[.bool false, .bool false, .bool false] 45)).heap.size = w.heap.size + 1 + 1 := by rw [hand_size, hand_size]
  rw [hand_size] at HR
  have HC0 := Aside0.mk (Kd.C_below hr0_0 HB.out)
  have HC1 := Aside0.mk (Kd.C_below hr0_1 HB.out)
  have HC2 := Aside0.mk (Kd.C_below hr2 HB.out)
  have HW := Aside0.mk hsz
  clear hr0_0 hr0_1 hr2 hsz
  go_enter Try.func31, Try.ntmps31
  go_upto_region 1 with (fail)
  generalize ((w.alloc (.cells #[.slice A0_0 l0_0.length c0_0, .slice A0_1 l0_1.length c0_1] 25)).alloc (.cells #[.bool false, .bool false, .bool false] 45)) = W1 at HB HG HR HC0 HC1 HC2 HW ⊢
  have g0 : W1.cell? ⟨w.heap.size, 0, none⟩ = some (.slice A0_0 l0_0.length c0_0) := (blk_cell HG.out 0).trans rfl
  have g1 : W1.cell? ⟨w.heap.size, 1, none⟩ = some (.slice A0_1 l0_1.length c0_1) := (blk_cell HG.out 1).trans rfl
  obtain ⟨ad, Ak, ck, e, k0, k1, k2, k3, k4, k5, k6, hlk, hCk⟩ := at_T56 HC1.out a1 p2 p3
  cases e
  have HCk := Aside0.mk hCk
  have HLk := Aside0.mk hlk
  clear hCk hlk HC1
  replace p2 := eq_true p2
  replace p3 := eq_true p3
  go_upto_region 3 with (fail)
  generalize rd_T56 l0_1 a1 = nd at *
  obtain ⟨gx, hgx⟩ : ∃ gx, gx = W1.heap.size := ⟨_, rfl⟩
  obtain ⟨go, hgo⟩ : ∃ go, go = gx + 1 := ⟨_, rfl⟩
  obtain ⟨gb, hgb⟩ : ∃ gb, gb = w.heap.size := ⟨_, rfl⟩
  obtain ⟨gr, hgr⟩ : ∃ gr, gr = gb + 1 := ⟨_, rfl⟩
  rw [← hgb] at HW HG HR
  rw [← hgr] at HR
  have E2 : Aside0 (Env11 W1 gx go #[.int .i64 nd.f0, .slice Ak nd.f1.length ck, .int .i64 nd.f2, .int .u64 nd.f3.f0, .int .u64 nd.f3.f1, .int .u64 nd.f3.f2, .int .u64 nd.f3.f3] ((W1.alloc (.cells #[.int .i64 nd.f0, .slice Ak nd.f1.length ck, .int .i64 nd.f2, .int .u64 nd.f3.f0, .int .u64 nd.f3.f1, .int .u64 nd.f3.f2, .int .u64 nd.f3.f3] 56)).alloc (.cells #[.bool false, .bool false, .bool false] 45)) false false false) := ⟨by rw [hgx]; exact blk_alloc (blk_new W1 (.cells #[.int .i64 nd.f0, .slice Ak nd.f1.length ck, .int .i64 nd.f2, .int .u64 nd.f3.f0, .int .u64 nd.f3.f1, .int .u64 nd.f3.f2, .int .u64 nd.f3.f3] 56)) (.cells #[.bool false, .bool false, .bool false] 45), by rw [hgo, hgx]; have := blk_new (W1.alloc (.cells #[.int .i64 nd.f0, .slice Ak nd.f1.length ck, .int .i64 nd.f2, .int .u64 nd.f3.f0, .int .u64 nd.f3.f1, .int .u64 nd.f3.f2, .int .u64 nd.f3.f3] 56)) (.cells #[.bool false, .bool false, .bool false] 45); rw [hand_size] at this; exact this, below_alloc (below_alloc (Below.refl _ _) _) _⟩
  have HLT := Aside0.mk (show W1.heap.size ≤ go ∧ gx ≠ go ∧ gb < W1.heap.size ∧ gr < W1.heap.size ∧ gr ≠ go by have := HW.out; omega)
  have HGB := Aside0.mk hgb
  have HGR := Aside0.mk hgr
  rw [← hgx, ← hgb, ← hgr, ← hgo]
  generalize (W1.alloc (.cells #[.int .i64 nd.f0, .slice Ak nd.f1.length ck, .int .i64 nd.f2, .int .u64 nd.f3.f0, .int .u64 nd.f3.f1, .int .u64 nd.f3.f2, .int .u64 nd.f3.f3] 56)).alloc (.cells #[.bool false, .bool false, .bool false] 45) = W2 at E2 ⊢
  clear k0 k1 k2 k3 k4 k5 k6 g0 g1 HW hgx hgo hgb hgr
  have x0 := (blk_cell E2.out.x 0).trans rfl
  go_upto_block 0 with fail
  go_cut [] (fun wc => ∃ n e f, Aside0 ((n, e, f) = (r1, r2, r3)) ∧ Aside0 (Env11 W1 gx go #[.int .i64 nd.f0, .slice Ak nd.f1.length ck, .int .i64 nd.f2, .int .u64 nd.f3.f0, .int .u64 nd.f3.f1, .int .u64 nd.f3.f2, .int .u64 nd.f3.f3] wc n e f))
  case first =>
   clear x0
   have h := H.out
   clear H
   unfold vetchref11_Node.p at h
   have c0 : nd.f0 = 0 := by have := hs.out; omega
   rw [if_pos c0] at h
   have b0 : (nd.f0 == 0) = true := beq_iff_eq.2 c0
   clear c0
   have x0 : W2.cell? ⟨gx, 0, none⟩ = some (.int .i64 nd.f0) := (blk_cell E2.out.x 0).trans rfl
   have o0 : W2.cell? ⟨go, 0, none⟩ = some (.bool false) := (blk_cell E2.out.o 0).trans rfl
   have z0 : W2.frozen? ⟨go, 0, none⟩ = false := blk_frozen E2.out.o 0
   go_wp2
   go_meet
   exact ⟨_, _, _, ⟨h⟩, ⟨(E2.out).put0 HLT.out.1 HLT.out.2.1 true⟩⟩
  case rest =>
   clear x0
   obtain ⟨n, e, f, HE, E3⟩ := hcut
   obtain ⟨rfl, rfl, rfl⟩ : n = r1 ∧ e = r2 ∧ f = r3 := by simpa using HE.out
   have o0 : wc.cell? ⟨go, 0, none⟩ = some (.bool n) := (blk_cell E3.out.o 0).trans rfl
   have r0 : wc.cell? ⟨gr, 0, none⟩ = some (.bool false) := (blk_cell (blk_below HR.out E3.out.b) 0).trans rfl
   have z0 : wc.frozen? ⟨gr, 0, none⟩ = false := blk_frozen (blk_below HR.out E3.out.b) 0
   have o1 : wc.cell? ⟨go, 1, none⟩ = some (.bool e) := (blk_cell E3.out.o 1).trans rfl
   have r1 : wc.cell? ⟨gr, 1, none⟩ = some (.bool false) := (blk_cell (blk_below HR.out E3.out.b) 1).trans rfl
   have z1 : wc.frozen? ⟨gr, 1, none⟩ = false := blk_frozen (blk_below HR.out E3.out.b) 1
   have o2 : wc.cell? ⟨go, 2, none⟩ = some (.bool f) := (blk_cell E3.out.o 2).trans rfl
   have r2 : wc.cell? ⟨gr, 2, none⟩ = some (.bool false) := (blk_cell (blk_below HR.out E3.out.b) 2).trans rfl
   have z2 : wc.frozen? ⟨gr, 2, none⟩ = false := blk_frozen (blk_below HR.out E3.out.b) 2
   go_wp2
   refine bodyPost_ret (results_cell_row rfl _ _ gr 45 #[.bool n, .bool e, .bool f] (0, 0) _ rfl (blk3 (blk_below HR.out E3.out.b) _ _ _) Try.underlying45 rfl (by kernel_rfl)) rfl ⟨rfl, ?_⟩
   exact below3 (below_step HB.out E3.out.b) (by have := HGB.out; have := HGR.out; omega) _ _ _
end Go.Proofs.Ythgedejnpgcacaa.V
namespace Go.Proofs.Ythgedejnpgcacaa.V
open Go.RowKit Go.Proofs.YthgedejnpgcacaaW.PrintWords Go.Proofs.YthgedejnpgcacaaW.PrintLast Go.Proofs.YthgedejnpgcacaaW.PrintMore
set_option linter.unusedVariables false
set_option linter.unusedSimpArgs false
attribute [local go_sem high] eq54h
set_option maxHeartbeats 4000000 in
set_option maxRecDepth 100000 in
theorem vetchref11_Node.calls_s1 (A0_0 : Option Addr) (c0_0 : Nat) (l0_0 : List S51) (A0_1 : Option Addr) (c0_1 : Nat) (l0_1 : List S56) (a1 : Int) (A2 : Option Addr) (c2 : Nat) (l2 : List S45) (r1 r2 r3 : Bool) (w : World)
    (hr0_0 : Kd.C k51 w A0_0 l0_0.length l0_0) (hc0_0 : l0_0.length ≤ c0_0) (hr0_1 : Kd.C k56 w A0_1 l0_1.length l0_1) (hc0_1 : l0_1.length ≤ c0_1) (hr2 : Kd.C k45 w A2 l2.length l2) (hc2 : l2.length ≤ c2)
    (hs : Aside0 ((rd_T56 l0_1 a1).f0 = 1)) (h : vetchref11_Node.f l0_0 l0_1 a1 l2 = some (r1, r2, r3)) :
    Calls Try.prog 31 #[.agg #[.slice A0_0 l0_0.length c0_0, .slice A0_1 l0_1.length c0_1], .int .i64 a1, .slice A2 l2.length c2] w fun e w' => e = .returned (.agg #[.bool r1, .bool r2, .bool r3]) ∧ Below w.heap.size w w' := by
  unfold vetchref11_Node.f at h
  split at h
  case isFalse => exact absurd h (by simp)
  case isTrue hfit =>
  obtain ⟨p2, p3, hfit⟩ := hfit
  have H : Aside0 (vetchref11_Node.p l0_0 l2 (rd_T56 l0_1 a1) = (r1, r2, r3)) := ⟨Option.some.inj h⟩
  have HF := Aside0.mk hfit
  clear h hfit
  have hu25 := Try.underlying25
  have hu45 := Try.underlying45
  have hu56 := Try.underlying56
  have hu51 := Try.underlying51
  have hu54 := Try.underlying54
  have HB := Aside0.mk (below_alloc (below_alloc (Below.refl w.heap.size w) (.cells #[.slice A0_0 l0_0.length c0_0, .slice A0_1 l0_1.length c0_1] 25)) (.cells #[.bool false, .bool false, .bool false] 45))
  have HG := Aside0.mk (blk_alloc (blk_new w (.cells #[.slice A0_0 l0_0.length c0_0, .slice A0_1 l0_1.length c0_1] 25)) (.cells #[.bool false, .bool false, .bool false] 45))
  have HR := Aside0.mk (blk_new (w.alloc (.cells #[.slice A0_0 l0_0.length c0_0, .slice A0_1 l0_1.length c0_1] 25)) (.cells #[.bool false, .bool false, .bool false] 45))
  have hsz : ((w.alloc (.cells #[.slice A0_0 l0_0.length c0_0, .slice A0_1 l0_1.length c0_1] 25)).alloc (.cells #[.bool false, .bool false, .bool false] 45)).heap.size = w.heap.size + 1 + 1 := by rw [hand_size, hand_size]
  rw [hand_size] at HR
  have HC0 := Aside0.mk (Kd.C_below hr0_0 HB.out)
  have HC1 := Aside0.mk (Kd.C_below hr0_1 HB.out)
  have HC2 := Aside0.mk (Kd.C_below hr2 HB.out)
  have HW := Aside0.mk hsz
  clear hr0_0 hr0_1 hr2 hsz
  go_enter Try.func31, Try.ntmps31
  go_upto_region 1 with (fail)
  generalize ((w.alloc (.cells #[.slice A0_0 l0_0.length c0_0, .slice A0_1 l0_1.length c0_1] 25)).alloc (.cells #[.bool false, .bool false, .bool false] 45)) = W1 at HB HG HR HC0 HC1 HC2 HW ⊢
  have g0 : W1.cell? ⟨w.heap.size, 0, none⟩ = some (.slice A0_0 l0_0.length c0_0) := (blk_cell HG.out 0).trans rfl
  have g1 : W1.cell? ⟨w.heap.size, 1, none⟩ = some (.slice A0_1 l0_1.length c0_1) := (blk_cell HG.out 1).trans rfl
  obtain ⟨ad, Ak, ck, e, k0, k1, k2, k3, k4, k5, k6, hlk, hCk⟩ := at_T56 HC1.out a1 p2 p3
  cases e
  have HCk := Aside0.mk hCk
  have HLk := Aside0.mk hlk
  clear hCk hlk HC1
  replace p2 := eq_true p2
  replace p3 := eq_true p3
  go_upto_region 3 with (fail)
  generalize rd_T56 l0_1 a1 = nd at *
  obtain ⟨gx, hgx⟩ : ∃ gx, gx = W1.heap.size := ⟨_, rfl⟩
  obtain ⟨go, hgo⟩ : ∃ go, go = gx + 1 := ⟨_, rfl⟩
  obtain ⟨gb, hgb⟩ : ∃ gb, gb = w.heap.size := ⟨_, rfl⟩
  obtain ⟨gr, hgr⟩ : ∃ gr, gr = gb + 1 := ⟨_, rfl⟩
  rw [← hgb] at HW HG HR
  rw [← hgr] at HR
  have E2 : Aside0 (Env11 W1 gx go #[.int .i64 nd.f0, .slice Ak nd.f1.length ck, .int .i64 nd.f2, .int .u64 nd.f3.f0, .int .u64 nd.f3.f1, .int .u64 nd.f3.f2, .int .u64 nd.f3.f3] ((W1.alloc (.cells #[.int .i64 nd.f0, .slice Ak nd.f1.length ck, .int .i64 nd.f2, .int .u64 nd.f3.f0, .int .u64 nd.f3.f1, .int .u64 nd.f3.f2, .int .u64 nd.f3.f3] 56)).alloc (.cells #[.bool false, .bool false, .bool false] 45)) false false false) := ⟨by rw [hgx]; exact blk_alloc (blk_new W1 (.cells #[.int .i64 nd.f0, .slice Ak nd.f1.length ck, .int .i64 nd.f2, .int .u64 nd.f3.f0, .int .u64 nd.f3.f1, .int .u64 nd.f3.f2, .int .u64 nd.f3.f3] 56)) (.cells #[.bool false, .bool false, .bool false] 45), by rw [hgo, hgx]; have := blk_new (W1.alloc (.cells #[.int .i64 nd.f0, .slice Ak nd.f1.length ck, .int .i64 nd.f2, .int .u64 nd.f3.f0, .int .u64 nd.f3.f1, .int .u64 nd.f3.f2, .int .u64 nd.f3.f3] 56)) (.cells #[.bool false, .bool false, .bool false] 45); rw [hand_size] at this; exact this, below_alloc (below_alloc (Below.refl _ _) _) _⟩
  have HLT := Aside0.mk (show W1.heap.size ≤ go ∧ gx ≠ go ∧ gb < W1.heap.size ∧ gr < W1.heap.size ∧ gr ≠ go by have := HW.out; omega)
  have HGB := Aside0.mk hgb
  have HGR := Aside0.mk hgr
  rw [← hgx, ← hgb, ← hgr, ← hgo]
  generalize (W1.alloc (.cells #[.int .i64 nd.f0, .slice Ak nd.f1.length ck, .int .i64 nd.f2, .int .u64 nd.f3.f0, .int .u64 nd.f3.f1, .int .u64 nd.f3.f2, .int .u64 nd.f3.f3] 56)).alloc (.cells #[.bool false, .bool false, .bool false] 45) = W2 at E2 ⊢
  clear k0 k1 k2 k3 k4 k5 k6 g0 g1 HW hgx hgo hgb hgr
  have x0 := (blk_cell E2.out.x 0).trans rfl
  go_upto_block 0 with fail
  go_cut [] (fun wc => ∃ n e f, Aside0 ((n, e, f) = (r1, r2, r3)) ∧ Aside0 (Env11 W1 gx go #[.int .i64 nd.f0, .slice Ak nd.f1.length ck, .int .i64 nd.f2, .int .u64 nd.f3.f0, .int .u64 nd.f3.f1, .int .u64 nd.f3.f2, .int .u64 nd.f3.f3] wc n e f))
  case first =>
   clear x0
   have h := H.out
   clear H
   unfold vetchref11_Node.p at h
   have c0 : ¬ nd.f0 = 0 := by have := hs.out; omega
   rw [if_neg c0] at h
   have b0 : (nd.f0 == 0) = false := beq_eq_false_iff_ne.2 c0
   go_upto_region 6 with (fail)
   clear b0
   have c1 : nd.f0 = 1 := by have := hs.out; omega
   rw [if_pos c1] at h
   have b1 : (nd.f0 == 1) = true := beq_iff_eq.2 c1
   clear c0 c1
   have x0 : W2.cell? ⟨gx, 0, none⟩ = some (.int .i64 nd.f0) := (blk_cell E2.out.x 0).trans rfl
   have x3 : W2.cell? ⟨gx, 3, none⟩ = some (.int .u64 nd.f3.f0) := (blk_cell E2.out.x 3).trans rfl
   have x4 : W2.cell? ⟨gx, 4, none⟩ = some (.int .u64 nd.f3.f1) := (blk_cell E2.out.x 4).trans rfl
   have x5 : W2.cell? ⟨gx, 5, none⟩ = some (.int .u64 nd.f3.f2) := (blk_cell E2.out.x 5).trans rfl
   have x6 : W2.cell? ⟨gx, 6, none⟩ = some (.int .u64 nd.f3.f3) := (blk_cell E2.out.x 6).trans rfl
   have o1 : W2.cell? ⟨go, 1, none⟩ = some (.bool false) := (blk_cell E2.out.o 1).trans rfl
   have z1 : W2.frozen? ⟨go, 1, none⟩ = false := blk_frozen E2.out.o 1
   have o2 : W2.cell? ⟨go, 2, none⟩ = some (.bool false) := (blk_cell E2.out.o 2).trans rfl
   have z2 : W2.frozen? ⟨go, 2, none⟩ = false := blk_frozen E2.out.o 2
   go_wp2
   go_meet
   exact ⟨_, _, _, ⟨h⟩, ⟨((E2.out).put1 HLT.out.1 HLT.out.2.1 (!(nd.f3.f0 == 0) || (!(nd.f3.f1 == 0) || (!(nd.f3.f2 == 0) || !(nd.f3.f3 == 0))))).put2 HLT.out.1 HLT.out.2.1 true⟩⟩
  case rest =>
   clear x0
   obtain ⟨n, e, f, HE, E3⟩ := hcut
   obtain ⟨rfl, rfl, rfl⟩ : n = r1 ∧ e = r2 ∧ f = r3 := by simpa using HE.out
   have o0 : wc.cell? ⟨go, 0, none⟩ = some (.bool n) := (blk_cell E3.out.o 0).trans rfl
   have r0 : wc.cell? ⟨gr, 0, none⟩ = some (.bool false) := (blk_cell (blk_below HR.out E3.out.b) 0).trans rfl
   have z0 : wc.frozen? ⟨gr, 0, none⟩ = false := blk_frozen (blk_below HR.out E3.out.b) 0
   have o1 : wc.cell? ⟨go, 1, none⟩ = some (.bool e) := (blk_cell E3.out.o 1).trans rfl
   have r1 : wc.cell? ⟨gr, 1, none⟩ = some (.bool false) := (blk_cell (blk_below HR.out E3.out.b) 1).trans rfl
   have z1 : wc.frozen? ⟨gr, 1, none⟩ = false := blk_frozen (blk_below HR.out E3.out.b) 1
   have o2 : wc.cell? ⟨go, 2, none⟩ = some (.bool f) := (blk_cell E3.out.o 2).trans rfl
   have r2 : wc.cell? ⟨gr, 2, none⟩ = some (.bool false) := (blk_cell (blk_below HR.out E3.out.b) 2).trans rfl
   have z2 : wc.frozen? ⟨gr, 2, none⟩ = false := blk_frozen (blk_below HR.out E3.out.b) 2
   go_wp2
   refine bodyPost_ret (results_cell_row rfl _ _ gr 45 #[.bool n, .bool e, .bool f] (0, 0) _ rfl (blk3 (blk_below HR.out E3.out.b) _ _ _) Try.underlying45 rfl (by kernel_rfl)) rfl ⟨rfl, ?_⟩
   exact below3 (below_step HB.out E3.out.b) (by have := HGB.out; have := HGR.out; omega) _ _ _
end Go.Proofs.Ythgedejnpgcacaa.V
namespace Go.Proofs.Ythgedejnpgcacaa.V
open Go.RowKit Go.Proofs.YthgedejnpgcacaaW.PrintWords Go.Proofs.YthgedejnpgcacaaW.PrintLast Go.Proofs.YthgedejnpgcacaaW.PrintMore
set_option linter.unusedVariables false
set_option linter.unusedSimpArgs false
attribute [local go_sem high] eq54h
set_option maxHeartbeats 4000000 in
set_option maxRecDepth 100000 in
theorem vetchref11_Node.calls_s2 (A0_0 : Option Addr) (c0_0 : Nat) (l0_0 : List S51) (A0_1 : Option Addr) (c0_1 : Nat) (l0_1 : List S56) (a1 : Int) (A2 : Option Addr) (c2 : Nat) (l2 : List S45) (r1 r2 r3 : Bool) (w : World)
    (hr0_0 : Kd.C k51 w A0_0 l0_0.length l0_0) (hc0_0 : l0_0.length ≤ c0_0) (hr0_1 : Kd.C k56 w A0_1 l0_1.length l0_1) (hc0_1 : l0_1.length ≤ c0_1) (hr2 : Kd.C k45 w A2 l2.length l2) (hc2 : l2.length ≤ c2)
    (hs : Aside0 ((rd_T56 l0_1 a1).f0 = 2)) (h : vetchref11_Node.f l0_0 l0_1 a1 l2 = some (r1, r2, r3)) :
    Calls Try.prog 31 #[.agg #[.slice A0_0 l0_0.length c0_0, .slice A0_1 l0_1.length c0_1], .int .i64 a1, .slice A2 l2.length c2] w fun e w' => e = .returned (.agg #[.bool r1, .bool r2, .bool r3]) ∧ Below w.heap.size w w' := by
  unfold vetchref11_Node.f at h
  split at h
  case isFalse => exact absurd h (by simp)
  case isTrue hfit =>
  obtain ⟨p2, p3, hfit⟩ := hfit
  have H : Aside0 (vetchref11_Node.p l0_0 l2 (rd_T56 l0_1 a1) = (r1, r2, r3)) := ⟨Option.some.inj h⟩
  have HF := Aside0.mk hfit
  clear h hfit
  have hu25 := Try.underlying25
  have hu45 := Try.underlying45
  have hu56 := Try.underlying56
  have hu51 := Try.underlying51
  have hu54 := Try.underlying54
  have HB := Aside0.mk (below_alloc (below_alloc (Below.refl w.heap.size w) (.cells #[.slice A0_0 l0_0.length c0_0, .slice A0_1 l0_1.length c0_1] 25)) (.cells #[.bool false, .bool false, .bool false] 45))
  have HG := Aside0.mk (blk_alloc (blk_new w (.cells #[.slice A0_0 l0_0.length c0_0, .slice A0_1 l0_1.length c0_1] 25)) (.cells #[.bool false, .bool false, .bool false] 45))
  have HR := Aside0.mk (blk_new (w.alloc (.cells #[.slice A0_0 l0_0.length c0_0, .slice A0_1 l0_1.length c0_1] 25)) (.cells #[.bool false, .bool false, .bool false] 45))
  have hsz : ((w.alloc (.cells #[.slice A0_0 l0_0.length c0_0, .slice A0_1 l0_1.length c0_1] 25)).alloc (.cells #[.bool false, .bool false, .bool false] 45)).heap.size = w.heap.size + 1 + 1 := by rw [hand_size, hand_size]
  rw [hand_size] at HR
  have HC0 := Aside0.mk (Kd.C_below hr0_0 HB.out)
  have HC1 := Aside0.mk (Kd.C_below hr0_1 HB.out)
  have HC2 := Aside0.mk (Kd.C_below hr2 HB.out)
  have HW := Aside0.mk hsz
  clear hr0_0 hr0_1 hr2 hsz
  go_enter Try.func31, Try.ntmps31
  go_upto_region 1 with (fail)
  generalize ((w.alloc (.cells #[.slice A0_0 l0_0.length c0_0, .slice A0_1 l0_1.length c0_1] 25)).alloc (.cells #[.bool false, .bool false, .bool false] 45)) = W1 at HB HG HR HC0 HC1 HC2 HW ⊢
  have g0 : W1.cell? ⟨w.heap.size, 0, none⟩ = some (.slice A0_0 l0_0.length c0_0) := (blk_cell HG.out 0).trans rfl
  have g1 : W1.cell? ⟨w.heap.size, 1, none⟩ = some (.slice A0_1 l0_1.length c0_1) := (blk_cell HG.out 1).trans rfl
  obtain ⟨ad, Ak, ck, e, k0, k1, k2, k3, k4, k5, k6, hlk, hCk⟩ := at_T56 HC1.out a1 p2 p3
  cases e
  have HCk := Aside0.mk hCk
  have HLk := Aside0.mk hlk
  clear hCk hlk HC1
  replace p2 := eq_true p2
  replace p3 := eq_true p3
  go_upto_region 3 with (fail)
  generalize rd_T56 l0_1 a1 = nd at *
  obtain ⟨gx, hgx⟩ : ∃ gx, gx = W1.heap.size := ⟨_, rfl⟩
  obtain ⟨go, hgo⟩ : ∃ go, go = gx + 1 := ⟨_, rfl⟩
  obtain ⟨gb, hgb⟩ : ∃ gb, gb = w.heap.size := ⟨_, rfl⟩
  obtain ⟨gr, hgr⟩ : ∃ gr, gr = gb + 1 := ⟨_, rfl⟩
  rw [← hgb] at HW HG HR
  rw [← hgr] at HR
  have E2 : Aside0 (Env11 W1 gx go #[.int .i64 nd.f0, .slice Ak nd.f1.length ck, .int .i64 nd.f2, .int .u64 nd.f3.f0, .int .u64 nd.f3.f1, .int .u64 nd.f3.f2, .int .u64 nd.f3.f3] ((W1.alloc (.cells #[.int .i64 nd.f0, .slice Ak nd.f1.length ck, .int .i64 nd.f2, .int .u64 nd.f3.f0, .int .u64 nd.f3.f1, .int .u64 nd.f3.f2, .int .u64 nd.f3.f3] 56)).alloc (.cells #[.bool false, .bool false, .bool false] 45)) false false false) := ⟨by rw [hgx]; exact blk_alloc (blk_new W1 (.cells #[.int .i64 nd.f0, .slice Ak nd.f1.length ck, .int .i64 nd.f2, .int .u64 nd.f3.f0, .int .u64 nd.f3.f1, .int .u64 nd.f3.f2, .int .u64 nd.f3.f3] 56)) (.cells #[.bool false, .bool false, .bool false] 45), by rw [hgo, hgx]; have := blk_new (W1.alloc (.cells #[.int .i64 nd.f0, .slice Ak nd.f1.length ck, .int .i64 nd.f2, .int .u64 nd.f3.f0, .int .u64 nd.f3.f1, .int .u64 nd.f3.f2, .int .u64 nd.f3.f3] 56)) (.cells #[.bool false, .bool false, .bool false] 45); rw [hand_size] at this; exact this, below_alloc (below_alloc (Below.refl _ _) _) _⟩
  have HLT := Aside0.mk (show W1.heap.size ≤ go ∧ gx ≠ go ∧ gb < W1.heap.size ∧ gr < W1.heap.size ∧ gr ≠ go by have := HW.out; omega)
  have HGB := Aside0.mk hgb
  have HGR := Aside0.mk hgr
  rw [← hgx, ← hgb, ← hgr, ← hgo]
  generalize (W1.alloc (.cells #[.int .i64 nd.f0, .slice Ak nd.f1.length ck, .int .i64 nd.f2, .int .u64 nd.f3.f0, .int .u64 nd.f3.f1, .int .u64 nd.f3.f2, .int .u64 nd.f3.f3] 56)).alloc (.cells #[.bool false, .bool false, .bool false] 45) = W2 at E2 ⊢
  clear k0 k1 k2 k3 k4 k5 k6 g0 g1 HW hgx hgo hgb hgr
  have x0 := (blk_cell E2.out.x 0).trans rfl
  go_upto_block 0 with fail
  go_cut [] (fun wc => ∃ n e f, Aside0 ((n, e, f) = (r1, r2, r3)) ∧ Aside0 (Env11 W1 gx go #[.int .i64 nd.f0, .slice Ak nd.f1.length ck, .int .i64 nd.f2, .int .u64 nd.f3.f0, .int .u64 nd.f3.f1, .int .u64 nd.f3.f2, .int .u64 nd.f3.f3] wc n e f))
  case first =>
   clear x0
   have h := H.out
   clear H
   unfold vetchref11_Node.p at h
   have c0 : ¬ nd.f0 = 0 := by have := hs.out; omega
   rw [if_neg c0] at h
   have b0 : (nd.f0 == 0) = false := beq_eq_false_iff_ne.2 c0
   go_upto_region 6 with (fail)
   clear b0
   have c1 : ¬ nd.f0 = 1 := by have := hs.out; omega
   rw [if_neg c1] at h
   have b1 : (nd.f0 == 1) = false := beq_eq_false_iff_ne.2 c1
   go_upto_region 9 with (fail)
   clear b1
   have c2 : nd.f0 = 2 := by have := hs.out; omega
   rw [if_pos c2] at h
   have b2 : (nd.f0 == 2) = true := beq_iff_eq.2 c2
   obtain ⟨q0, q1, q2, q3⟩ := HF.out.2.2 c2
   clear c0 c1 c2
   have x0 : W2.cell? ⟨gx, 0, none⟩ = some (.int .i64 nd.f0) := (blk_cell E2.out.x 0).trans rfl
   have x2 : W2.cell? ⟨gx, 2, none⟩ = some (.int .i64 nd.f2) := (blk_cell E2.out.x 2).trans rfl
   have o0 : W2.cell? ⟨go, 0, none⟩ = some (.bool false) := (blk_cell E2.out.o 0).trans rfl
   have z0 : W2.frozen? ⟨go, 0, none⟩ = false := blk_frozen E2.out.o 0
   have o1 : W2.cell? ⟨go, 1, none⟩ = some (.bool false) := (blk_cell E2.out.o 1).trans rfl
   have z1 : W2.frozen? ⟨go, 1, none⟩ = false := blk_frozen E2.out.o 1
   have o2 : W2.cell? ⟨go, 2, none⟩ = some (.bool false) := (blk_cell E2.out.o 2).trans rfl
   have z2 : W2.frozen? ⟨go, 2, none⟩ = false := blk_frozen E2.out.o 2
   have g0 : W2.cell? ⟨gb, 0, none⟩ = some (.slice A0_0 l0_0.length c0_0) := (blk_cell (blk_below HG.out E2.out.b) 0).trans rfl
   obtain ⟨ad1, e1, y0, y1⟩ := at_T51 (Kd.C_below HC0.out E2.out.b) nd.f2 q0 q1
   cases e1
   obtain ⟨ad2, e2, u0, u1, u2⟩ := at_T45 (Kd.C_below HC2.out E2.out.b) (rd_T51 l0_0 nd.f2).f1 q2 q3
   cases e2
   replace q0 := eq_true q0
   replace q1 := eq_true q1
   replace q2 := eq_true q2
   replace q3 := eq_true q3
   go_wp2
   go_meet
   exact ⟨_, _, _, ⟨h⟩, ⟨(((E2.out).put0 HLT.out.1 HLT.out.2.1 _).put1 HLT.out.1 HLT.out.2.1 _).put2 HLT.out.1 HLT.out.2.1 _⟩⟩
  case rest =>
   clear x0
   obtain ⟨n, e, f, HE, E3⟩ := hcut
   obtain ⟨rfl, rfl, rfl⟩ : n = r1 ∧ e = r2 ∧ f = r3 := by simpa using HE.out
   have o0 : wc.cell? ⟨go, 0, none⟩ = some (.bool n) := (blk_cell E3.out.o 0).trans rfl
   have r0 : wc.cell? ⟨gr, 0, none⟩ = some (.bool false) := (blk_cell (blk_below HR.out E3.out.b) 0).trans rfl
   have z0 : wc.frozen? ⟨gr, 0, none⟩ = false := blk_frozen (blk_below HR.out E3.out.b) 0
   have o1 : wc.cell? ⟨go, 1, none⟩ = some (.bool e) := (blk_cell E3.out.o 1).trans rfl
   have r1 : wc.cell? ⟨gr, 1, none⟩ = some (.bool false) := (blk_cell (blk_below HR.out E3.out.b) 1).trans rfl
   have z1 : wc.frozen? ⟨gr, 1, none⟩ = false := blk_frozen (blk_below HR.out E3.out.b) 1
   have o2 : wc.cell? ⟨go, 2, none⟩ = some (.bool f) := (blk_cell E3.out.o 2).trans rfl
   have r2 : wc.cell? ⟨gr, 2, none⟩ = some (.bool false) := (blk_cell (blk_below HR.out E3.out.b) 2).trans rfl
   have z2 : wc.frozen? ⟨gr, 2, none⟩ = false := blk_frozen (blk_below HR.out E3.out.b) 2
   go_wp2
   refine bodyPost_ret (results_cell_row rfl _ _ gr 45 #[.bool n, .bool e, .bool f] (0, 0) _ rfl (blk3 (blk_below HR.out E3.out.b) _ _ _) Try.underlying45 rfl (by kernel_rfl)) rfl ⟨rfl, ?_⟩
   exact below3 (below_step HB.out E3.out.b) (by have := HGB.out; have := HGR.out; omega) _ _ _
end Go.Proofs.Ythgedejnpgcacaa.V
namespace Go.Proofs.Ythgedejnpgcacaa.V
open Go.RowKit Go.Proofs.YthgedejnpgcacaaW.PrintWords Go.Proofs.YthgedejnpgcacaaW.PrintLast Go.Proofs.YthgedejnpgcacaaW.PrintMore
set_option linter.unusedVariables false
set_option linter.unusedSimpArgs false
attribute [local go_sem high] eq54h
set_option maxHeartbeats 4000000 in
set_option maxRecDepth 100000 in
theorem vetchref11_Node.calls_s3 (A0_0 : Option Addr) (c0_0 : Nat) (l0_0 : List S51) (A0_1 : Option Addr) (c0_1 : Nat) (l0_1 : List S56) (a1 : Int) (A2 : Option Addr) (c2 : Nat) (l2 : List S45) (r1 r2 r3 : Bool) (w : World)
    (hr0_0 : Kd.C k51 w A0_0 l0_0.length l0_0) (hc0_0 : l0_0.length ≤ c0_0) (hr0_1 : Kd.C k56 w A0_1 l0_1.length l0_1) (hc0_1 : l0_1.length ≤ c0_1) (hr2 : Kd.C k45 w A2 l2.length l2) (hc2 : l2.length ≤ c2)
    (hs : Aside0 ((rd_T56 l0_1 a1).f0 = 3)) (h : vetchref11_Node.f l0_0 l0_1 a1 l2 = some (r1, r2, r3)) :
    Calls Try.prog 31 #[.agg #[.slice A0_0 l0_0.length c0_0, .slice A0_1 l0_1.length c0_1], .int .i64 a1, .slice A2 l2.length c2] w fun e w' => e = .returned (.agg #[.bool r1, .bool r2, .bool r3]) ∧ Below w.heap.size w w' := by
  unfold vetchref11_Node.f at h
  split at h
  case isFalse => exact absurd h (by simp)
  case isTrue hfit =>
  obtain ⟨p2, p3, hfit⟩ := hfit
  have H : Aside0 (vetchref11_Node.p l0_0 l2 (rd_T56 l0_1 a1) = (r1, r2, r3)) := ⟨Option.some.inj h⟩
  have HF := Aside0.mk hfit
  clear h hfit
  have hu25 := Try.underlying25
  have hu45 := Try.underlying45
  have hu56 := Try.underlying56
  have hu51 := Try.underlying51
  have hu54 := Try.underlying54
  have HB := Aside0.mk (below_alloc (below_alloc (Below.refl w.heap.size w) (.cells #[.slice A0_0 l0_0.length c0_0, .slice A0_1 l0_1.length c0_1] 25)) (.cells #[.bool false, .bool false, .bool false] 45))
  have HG := Aside0.mk (blk_alloc (blk_new w (.cells #[.slice A0_0 l0_0.length c0_0, .slice A0_1 l0_1.length c0_1] 25)) (.cells #[.bool false, .bool false, .bool false] 45))
  have HR := Aside0.mk (blk_new (w.alloc (.cells #[.slice A0_0 l0_0.length c0_0, .slice A0_1 l0_1.length c0_1] 25)) (.cells #[.bool false, .bool false, .bool false] 45))
  have hsz : ((w.alloc (.cells #[.slice A0_0 l0_0.length c0_0, .slice A0_1 l0_1.length c0_1] 25)).alloc (.cells #[.bool false, .bool false, .bool false] 45)).heap.size = w.heap.size + 1 + 1 := by rw [hand_size, hand_size]
  rw [hand_size] at HR
  have HC0 := Aside0.mk (Kd.C_below hr0_0 HB.out)
  have HC1 := Aside0.mk (Kd.C_below hr0_1 HB.out)
  have HC2 := Aside0.mk (Kd.C_below hr2 HB.out)
  have HW := Aside0.mk hsz
  clear hr0_0 hr0_1 hr2 hsz
  go_enter Try.func31, Try.ntmps31
  go_upto_region 1 with (fail)
  generalize ((w.alloc (.cells #[.slice A0_0 l0_0.length c0_0, .slice A0_1 l0_1.length c0_1] 25)).alloc (.cells #[.bool false, .bool false, .bool false] 45)) = W1 at HB HG HR HC0 HC1 HC2 HW ⊢
  have g0 : W1.cell? ⟨w.heap.size, 0, none⟩ = some (.slice A0_0 l0_0.length c0_0) := (blk_cell HG.out 0).trans rfl
  have g1 : W1.cell? ⟨w.heap.size, 1, none⟩ = some (.slice A0_1 l0_1.length c0_1) := (blk_cell HG.out 1).trans rfl
  obtain ⟨ad, Ak, ck, e, k0, k1, k2, k3, k4, k5, k6, hlk, hCk⟩ := at_T56 HC1.out a1 p2 p3
  cases e
  have HCk := Aside0.mk hCk
  have HLk := Aside0.mk hlk
  clear hCk hlk HC1
  replace p2 := eq_true p2
  replace p3 := eq_true p3
  go_upto_region 3 with (fail)
  generalize rd_T56 l0_1 a1 = nd at *
  obtain ⟨gx, hgx⟩ : ∃ gx, gx = W1.heap.size := ⟨_, rfl⟩
  obtain ⟨go, hgo⟩ : ∃ go, go = gx + 1 := ⟨_, rfl⟩
  obtain ⟨gb, hgb⟩ : ∃ gb, gb = w.heap.size := ⟨_, rfl⟩
  obtain ⟨gr, hgr⟩ : ∃ gr, gr = gb + 1 := ⟨_, rfl⟩
  rw [← hgb] at HW HG HR
  rw [← hgr] at HR
  have E2 : Aside0 (Env11 W1 gx go #[.int .i64 nd.f0, .slice Ak nd.f1.length ck, .int .i64 nd.f2, .int .u64 nd.f3.f0, .int .u64 nd.f3.f1, .int .u64 nd.f3.f2, .int .u64 nd.f3.f3] ((W1.alloc (.cells #[.int .i64 nd.f0, .slice Ak nd.f1.length ck, .int .i64 nd.f2, .int .u64 nd.f3.f0, .int .u64 nd.f3.f1, .int .u64 nd.f3.f2, .int .u64 nd.f3.f3] 56)).alloc (.cells #[.bool false, .bool false, .bool false] 45)) false false false) := ⟨by rw [hgx]; exact blk_alloc (blk_new W1 (.cells #[.int .i64 nd.f0, .slice Ak nd.f1.length ck, .int .i64 nd.f2, .int .u64 nd.f3.f0, .int .u64 nd.f3.f1, .int .u64 nd.f3.f2, .int .u64 nd.f3.f3] 56)) (.cells #[.bool false, .bool false, .bool false] 45), by rw [hgo, hgx]; have := blk_new (W1.alloc (.cells #[.int .i64 nd.f0, .slice Ak nd.f1.length ck, .int .i64 nd.f2, .int .u64 nd.f3.f0, .int .u64 nd.f3.f1, .int .u64 nd.f3.f2, .int .u64 nd.f3.f3] 56)) (.cells #[.bool false, .bool false, .bool false] 45); rw [hand_size] at this; exact this, below_alloc (below_alloc (Below.refl _ _) _) _⟩
  have HLT := Aside0.mk (show W1.heap.size ≤ go ∧ gx ≠ go ∧ gb < W1.heap.size ∧ gr < W1.heap.size ∧ gr ≠ go by have := HW.out; omega)
  have HGB := Aside0.mk hgb
  have HGR := Aside0.mk hgr
  rw [← hgx, ← hgb, ← hgr, ← hgo]
  generalize (W1.alloc (.cells #[.int .i64 nd.f0, .slice Ak nd.f1.length ck, .int .i64 nd.f2, .int .u64 nd.f3.f0, .int .u64 nd.f3.f1, .int .u64 nd.f3.f2, .int .u64 nd.f3.f3] 56)).alloc (.cells #[.bool false, .bool false, .bool false] 45) = W2 at E2 ⊢
  clear k0 k1 k2 k3 k4 k5 k6 g0 g1 HW hgx hgo hgb hgr
  have x0 := (blk_cell E2.out.x 0).trans rfl
  go_upto_block 0 with fail
  go_cut [] (fun wc => ∃ n e f, Aside0 ((n, e, f) = (r1, r2, r3)) ∧ Aside0 (Env11 W1 gx go #[.int .i64 nd.f0, .slice Ak nd.f1.length ck, .int .i64 nd.f2, .int .u64 nd.f3.f0, .int .u64 nd.f3.f1, .int .u64 nd.f3.f2, .int .u64 nd.f3.f3] wc n e f))
  case first =>
   clear x0
   have h := H.out
   clear H
   unfold vetchref11_Node.p at h
   have c0 : ¬ nd.f0 = 0 := by have := hs.out; omega
   rw [if_neg c0] at h
   have b0 : (nd.f0 == 0) = false := beq_eq_false_iff_ne.2 c0
   go_upto_region 6 with (fail)
   clear b0
   have c1 : ¬ nd.f0 = 1 := by have := hs.out; omega
   rw [if_neg c1] at h
   have b1 : (nd.f0 == 1) = false := beq_eq_false_iff_ne.2 c1
   go_upto_region 9 with (fail)
   clear b1
   have c2 : ¬ nd.f0 = 2 := by have := hs.out; omega
   rw [if_neg c2] at h
   have b2 : (nd.f0 == 2) = false := beq_eq_false_iff_ne.2 c2
   go_upto_region 11 with (fail)
   clear b2
   have c3 : nd.f0 = 3 := by have := hs.out; omega
   rw [if_pos c3] at h
   have b3 : (nd.f0 == 3) = true := beq_iff_eq.2 c3
   clear c0 c1 c2 c3
   have q9 := HCk.out.2.1
   have HMX := Aside0.mk q9
   clear q9
   have o0 : W2.cell? ⟨go, 0, none⟩ = some (.bool false) := (blk_cell E2.out.o 0).trans rfl
   have z0 : W2.frozen? ⟨go, 0, none⟩ = false := blk_frozen E2.out.o 0
   go_upto_block 1 with fail
   have EV0 := Aside0.mk ((E2.out).put0 HLT.out.1 HLT.out.2.1 true)
   generalize W2.setCell ⟨go, 0, none⟩ (.bool true) = V0 at EV0 ⊢
   clear o0 z0
   go_cut [9] (fun v9 wc => ∃ (n e f al : Bool), v9 = .bool al ∧ Aside0 ((n, e && al, f) = (r1, r2, r3)) ∧ Aside0 (Env11 W1 gx go #[.int .i64 nd.f0, .slice Ak nd.f1.length ck, .int .i64 nd.f2, .int .u64 nd.f3.f0, .int .u64 nd.f3.f1, .int .u64 nd.f3.f2, .int .u64 nd.f3.f3] wc n e f))
   case first =>
    go_wp2
    go_loopg [9, 10] nd.f1.length (fun kq v9 v10 w' => ∃ (n e f : Bool) (al : Bool) (j : Int), v9 = .bool al ∧ v10 = .int .i64 j ∧ Aside0 (0 ≤ j ∧ j ≤ (nd.f1.length : Int) ∧ kq + j.toNat = nd.f1.length) ∧ Aside0 (vetchref11_Node.seqF l2 (nd.f1.drop j.toNat) n e f al = (r1, r2, r3)) ∧ Aside0 (al = (nd.f1.take j.toNat).all (okk l2)) ∧ Aside0 (Env11 W1 gx go #[.int .i64 nd.f0, .slice Ak nd.f1.length ck, .int .i64 nd.f2, .int .u64 nd.f3.f0, .int .u64 nd.f3.f1, .int .u64 nd.f3.f2, .int .u64 nd.f3.f3] w' n e f))
    case atStart => exact ⟨_, _, _, true, 0, rfl, rfl, ⟨by omega⟩, ⟨h⟩, ⟨rfl⟩, EV0⟩
    case round =>
     clear h EV0 E2
     obtain ⟨n, e, f, al, j, rfl, rfl, HJ, HA, HBV, E⟩ := hrel
     by_cases cj : j < (nd.f1.length : Int)
     ·
      have cjb : decide (j < (nd.f1.length : Int)) = true := decide_eq_true cj
      have kap : Aside0 (0 ≤ j) := ⟨by (have := HJ.out; omega)⟩
      have kaq : Aside0 (j < (nd.f1.length : Int)) := ⟨by (have := HJ.out; omega)⟩
      have kar := Aside0.mk (HF.out.1 (rd nd.f1 j) (rd_memh nd.f1 j kap.out kaq.out)).1
      have kas := Aside0.mk (HF.out.1 (rd nd.f1 j) (rd_memh nd.f1 j kap.out kaq.out)).2
      have kapt := eq_true kap.out
      have kaqt := eq_true kaq.out
      have kart := eq_true kar.out
      have kast := eq_true kas.out
      have h := HA.out
      rw [drop_rd nd.f1 j kap.out kaq.out] at h
      rw [vetchref11_Node.seqF] at h
      clear HA cj
      obtain ⟨f0, f1, f2, hfx⟩ : ∃ f0 f1 f2, rd_T45 l2 (rd nd.f1 j) = ⟨f0, f1, f2⟩ := ⟨_, _, _, rfl⟩
      rw [hfx] at h
      dsimp only at h
      have HFX := Aside0.mk hfx
      have HA := Aside0.mk h
      clear hfx h
      obtain ⟨ad1, he1, kay⟩ := Kd.at_int (Kd.C_below HCk.out E.out.b) j kap.out kaq.out
      have x1 : wr.cell? ⟨gx, 1, none⟩ = some (.slice (some ad1) nd.f1.length ck) := by rw [← he1]; exact (blk_cell E.out.x 1).trans rfl
      clear he1
      obtain ⟨ad2, e2, kau0, kau1, kau2⟩ := at_T45 (Kd.C_below HC2.out E.out.b) (rd nd.f1 j) kar.out kas.out
      cases e2
      rw [HFX.out] at kau0 kau1 kau2
      dsimp only at kau0 kau1 kau2
      go_upto_region 18 with (fail)
      obtain ⟨gf, hgf⟩ : ∃ gf, gf = wr.heap.size := ⟨_, rfl⟩
      have EA := Aside0.mk (E.out.below (below_alloc (Below.refl _ _) (.cells #[.bool f0, .bool f1, .bool f2] 45)))
      have BF := Aside0.mk (blk_new wr (.cells #[.bool f0, .bool f1, .bool f2] 45))
      rw [← hgf] at BF ⊢
      have hne : Aside0 (gf ≠ go) := ⟨by have := blk_lt E.out.o; omega⟩
      generalize wr.alloc (.cells #[.bool f0, .bool f1, .bool f2] 45) = V1 at EA BF ⊢
      clear hgf E x1 kay kau0 kau1 kau2 cjb
      clear kapt kaqt kart kast
      go_cut [] (fun wc => Aside0 (Env11 W1 gx go #[.int .i64 nd.f0, .slice Ak nd.f1.length ck, .int .i64 nd.f2, .int .u64 nd.f3.f0, .int .u64 nd.f3.f1, .int .u64 nd.f3.f2, .int .u64 nd.f3.f3] wc (n && f0) (e) (f)) ∧ Aside0 (wc.heap[gf]? = some (.cells #[.bool f0, .bool f1, .bool f2] 45 (0, 0))))
      case first =>
       have o0 : V1.cell? ⟨go, 0, none⟩ = some (.bool (n)) := (blk_cell EA.out.o 0).trans rfl
       have z0 : V1.frozen? ⟨go, 0, none⟩ = false := blk_frozen EA.out.o 0
       have g0 : V1.cell? ⟨gf, 0, none⟩ = some (.bool f0) := (blk_cell BF.out 0).trans rfl
       cases n with
       | true =>
         go_wp2
         go_meet
         exact ⟨⟨EA.out.put0 HLT.out.1 HLT.out.2.1 _⟩, ⟨blk_far BF.out (p := ⟨go, 0, none⟩) hne.out _⟩⟩
       | false =>
         go_wp2
         go_meet
         exact ⟨⟨EA.out.put0 HLT.out.1 HLT.out.2.1 _⟩, ⟨blk_far BF.out (p := ⟨go, 0, none⟩) hne.out _⟩⟩
      case rest =>
       clear EA BF
       obtain ⟨E, BF⟩ := hcut
       go_upto_block 3 with fail
       go_cut [12] (fun v12 wc => v12 = .bool al ∧ Aside0 (Env11 W1 gx go #[.int .i64 nd.f0, .slice Ak nd.f1.length ck, .int .i64 nd.f2, .int .u64 nd.f3.f0, .int .u64 nd.f3.f1, .int .u64 nd.f3.f2, .int .u64 nd.f3.f3] wc (n && f0) (e) (f)) ∧ Aside0 (wc.heap[gf]? = some (.cells #[.bool f0, .bool f1, .bool f2] 45 (0, 0))))
       case first =>
        go_wp2
        go_loopg [12, 13] j.toNat (fun kq v12 v13 w' => ∃ (bf : Bool) (m : Int), v12 = .bool bf ∧ v13 = .int .i64 m ∧ Aside0 (0 ≤ m ∧ m ≤ j ∧ kq + m.toNat = j.toNat) ∧ Aside0 (bf = (nd.f1.take m.toNat).all (okk l2)) ∧ Aside0 (Env11 W1 gx go #[.int .i64 nd.f0, .slice Ak nd.f1.length ck, .int .i64 nd.f2, .int .u64 nd.f3.f0, .int .u64 nd.f3.f1, .int .u64 nd.f3.f2, .int .u64 nd.f3.f3] w' (n && f0) (e) (f)) ∧ Aside0 (w'.heap[gf]? = some (.cells #[.bool f0, .bool f1, .bool f2] 45 (0, 0))))
        case atStart => exact ⟨true, 0, rfl, rfl, ⟨by have := HJ.out; omega⟩, ⟨rfl⟩, E, BF⟩
        case round =>
         clear E BF
         obtain ⟨bf, m, rfl, rfl, HM, HBF, E, BF⟩ := hrel
         by_cases cm : m < j
         ·
          have cmb : decide (m < j) = true := decide_eq_true cm
          have kbp : Aside0 (0 ≤ m) := ⟨by (have := HM.out; have := HJ.out; have := kaq.out; omega)⟩
          have kbq : Aside0 (m < (nd.f1.length : Int)) := ⟨by (have := HM.out; have := HJ.out; have := kaq.out; omega)⟩
          have kbr := Aside0.mk (HF.out.1 (rd nd.f1 m) (rd_memh nd.f1 m kbp.out kbq.out)).1
          have kbs := Aside0.mk (HF.out.1 (rd nd.f1 m) (rd_memh nd.f1 m kbp.out kbq.out)).2
          have kbpt := eq_true kbp.out
          have kbqt := eq_true kbq.out
          have kbrt := eq_true kbr.out
          have kbst := eq_true kbs.out
          have hw := wrap_next m nd.f1.length kbp.out kbq.out HMX.out
          have HWm := Aside0.mk hw
          have HCM := Aside0.mk cm
          clear hw cm
          cases bf with
          | true =>
            obtain ⟨g0, g1, g2, hgx⟩ : ∃ g0 g1 g2, rd_T45 l2 (rd nd.f1 m) = ⟨g0, g1, g2⟩ := ⟨_, _, _, rfl⟩
            have HGX := Aside0.mk hgx
            clear hgx
            obtain ⟨ad1, he1, kby⟩ := Kd.at_int (Kd.C_below HCk.out E.out.b) m kbp.out kbq.out
            have x1 : wr.cell? ⟨gx, 1, none⟩ = some (.slice (some ad1) nd.f1.length ck) := by rw [← he1]; exact (blk_cell E.out.x 1).trans rfl
            clear he1
            obtain ⟨ad2, e2, kbu0, kbu1, kbu2⟩ := at_T45 (Kd.C_below HC2.out E.out.b) (rd nd.f1 m) kbr.out kbs.out
            cases e2
            rw [HGX.out] at kbu0 kbu1 kbu2
            dsimp only at kbu0 kbu1 kbu2
            go_wp2_with (
              go_at_call 35
              refine (vetchref11_ok.calls g0 g1 g2 (g0 || g1) _ (by cases g0 <;> rfl)).mono ?_
              rintro e_ V2 ⟨rfl, hb_⟩
              have HB_ := Aside0.mk hb_
              clear hb_)
            go_roundg (gk - 1)
            case measure => have := HM.out; have := HCM.out; omega
            case rel => exact ⟨(g0 || g1), wrap64 (m + 1), rfl, rfl, ⟨by rw [HWm.out]; have := HM.out; have := HCM.out; omega⟩, ⟨by rw [HWm.out, all_rd _ nd.f1 m kbp.out kbq.out, ← HBF.out]; simp [okk, HGX.out]⟩, ⟨E.out.below HB_.out⟩, ⟨blk_below BF.out HB_.out⟩⟩
          | false =>
            go_wp2
            go_roundg (gk - 1)
            case measure => have := HM.out; have := HCM.out; omega
            case rel => exact ⟨false, wrap64 (m + 1), rfl, rfl, ⟨by rw [HWm.out]; have := HM.out; have := HCM.out; omega⟩, ⟨by rw [HWm.out, all_rd _ nd.f1 m kbp.out kbq.out, ← HBF.out]; rfl⟩, E, BF⟩
         ·
          have cmb : decide (m < j) = false := decide_eq_false cm
          have HCM := Aside0.mk cm
          clear cm
          go_wp2
          go_meet
          exact ⟨by rw [HBV.out, HBF.out, show m = j by have := HM.out; have := HCM.out; omega], E, BF⟩
       case rest =>
        clear E BF
        obtain ⟨rfl, E, BF⟩ := hcut
        go_upto_region 24 with (fail)
        go_cut [] (fun wc => Aside0 (Env11 W1 gx go #[.int .i64 nd.f0, .slice Ak nd.f1.length ck, .int .i64 nd.f2, .int .u64 nd.f3.f0, .int .u64 nd.f3.f1, .int .u64 nd.f3.f2, .int .u64 nd.f3.f3] wc (n && f0) (e) (f || (f2 && al))) ∧ Aside0 (wc.heap[gf]? = some (.cells #[.bool f0, .bool f1, .bool f2] 45 (0, 0))))
        case first =>
         have o2 : wc.cell? ⟨go, 2, none⟩ = some (.bool (f)) := (blk_cell E.out.o 2).trans rfl
         have z2 : wc.frozen? ⟨go, 2, none⟩ = false := blk_frozen E.out.o 2
         have g2 : wc.cell? ⟨gf, 2, none⟩ = some (.bool f2) := (blk_cell BF.out 2).trans rfl
         cases f with
         | true =>
           go_wp2
           go_meet
           exact ⟨⟨E.out.put2 HLT.out.1 HLT.out.2.1 _⟩, ⟨blk_far BF.out (p := ⟨go, 2, none⟩) hne.out _⟩⟩
         | false =>
           cases f2 with
           | true =>
             go_wp2
             go_meet
             exact ⟨⟨E.out.put2 HLT.out.1 HLT.out.2.1 _⟩, ⟨blk_far BF.out (p := ⟨go, 2, none⟩) hne.out _⟩⟩
           | false =>
             go_wp2
             go_meet
             exact ⟨⟨E.out.put2 HLT.out.1 HLT.out.2.1 _⟩, ⟨blk_far BF.out (p := ⟨go, 2, none⟩) hne.out _⟩⟩
        case rest =>
         clear E BF
         obtain ⟨E, BF⟩ := hcut
         go_upto_region 25 with (fail)
         go_cut [9] (fun v9 wc => v9 = .bool (al && (f0 || f1)) ∧ Aside0 (Env11 W1 gx go #[.int .i64 nd.f0, .slice Ak nd.f1.length ck, .int .i64 nd.f2, .int .u64 nd.f3.f0, .int .u64 nd.f3.f1, .int .u64 nd.f3.f2, .int .u64 nd.f3.f3] wc (n && f0) (e) (f || (f2 && al))) ∧ Aside0 (wc.heap[gf]? = some (.cells #[.bool f0, .bool f1, .bool f2] 45 (0, 0))))
         case first =>
          have g0 : wc.cell? ⟨gf, 0, none⟩ = some (.bool f0) := (blk_cell BF.out 0).trans rfl
          have g1 : wc.cell? ⟨gf, 1, none⟩ = some (.bool f1) := (blk_cell BF.out 1).trans rfl
          have g2 : wc.cell? ⟨gf, 2, none⟩ = some (.bool f2) := (blk_cell BF.out 2).trans rfl
          cases al with
          | true =>
            go_wp2_with (
              go_at_call 35
              refine (vetchref11_ok.calls f0 f1 f2 (f0 || f1) _ (by cases f0 <;> rfl)).mono ?_
              rintro e_ V2 ⟨rfl, hb_⟩
              have HB_ := Aside0.mk hb_
              clear hb_)
            go_meet
            exact ⟨rfl, ⟨E.out.below HB_.out⟩, ⟨blk_below BF.out HB_.out⟩⟩
          | false =>
            go_wp2
            go_meet
            exact ⟨rfl, E, BF⟩
         case rest =>
          clear E BF
          obtain ⟨rfl, E, BF⟩ := hcut
          have hw := wrap_next j nd.f1.length kap.out kaq.out HMX.out
          have HWj := Aside0.mk hw
          clear hw
          go_upto_region 26 with (fail)
          have o1 : wc.cell? ⟨go, 1, none⟩ = some (.bool (e)) := (blk_cell E.out.o 1).trans rfl
          have z1 : wc.frozen? ⟨go, 1, none⟩ = false := blk_frozen E.out.o 1
          have g1 : wc.cell? ⟨gf, 1, none⟩ = some (.bool f1) := (blk_cell BF.out 1).trans rfl
          cases e with
          | true =>
            go_wp2
            go_roundg (gk - 1)
            case measure => have := HJ.out; have := kaq.out; omega
            case rel => exact ⟨_, _, _, (al && (f0 || f1)), wrap64 (j + 1), rfl, rfl, ⟨by rw [HWj.out]; have := HJ.out; have := kaq.out; omega⟩, ⟨by rw [HWj.out]; exact HA.out⟩, ⟨by rw [HWj.out, all_rd _ nd.f1 j kap.out kaq.out, ← HBV.out]; simp [okk, HFX.out]⟩, ⟨E.out.put1 HLT.out.1 HLT.out.2.1 _⟩⟩
          | false =>
            go_wp2
            go_roundg (gk - 1)
            case measure => have := HJ.out; have := kaq.out; omega
            case rel => exact ⟨_, _, _, (al && (f0 || f1)), wrap64 (j + 1), rfl, rfl, ⟨by rw [HWj.out]; have := HJ.out; have := kaq.out; omega⟩, ⟨by rw [HWj.out]; exact HA.out⟩, ⟨by rw [HWj.out, all_rd _ nd.f1 j kap.out kaq.out, ← HBV.out]; simp [okk, HFX.out]⟩, ⟨E.out.put1 HLT.out.1 HLT.out.2.1 _⟩⟩
     ·
      have cjb : decide (j < (nd.f1.length : Int)) = false := decide_eq_false cj
      have h := HA.out
      rw [drop_end nd.f1 j cj] at h
      clear cj
      have x1 := (blk_cell E.out.x 1).trans rfl
      go_wp2
      go_meet
      exact ⟨n, e, f, al, rfl, ⟨h⟩, E⟩
   case rest =>
    clear EV0 E2 h
    obtain ⟨n, e, f, al, rfl, HE, E⟩ := hcut
    have o1 : wc.cell? ⟨go, 1, none⟩ = some (.bool e) := (blk_cell E.out.o 1).trans rfl
    have z1 : wc.frozen? ⟨go, 1, none⟩ = false := blk_frozen E.out.o 1
    cases e with
    | true =>
      go_wp2
      go_meet
      exact ⟨_, _, _, HE, ⟨E.out.put1 HLT.out.1 HLT.out.2.1 _⟩⟩
    | false =>
      go_wp2
      go_meet
      exact ⟨_, _, _, HE, ⟨E.out.put1 HLT.out.1 HLT.out.2.1 _⟩⟩
  case rest =>
   clear x0
   obtain ⟨n, e, f, HE, E3⟩ := hcut
   obtain ⟨rfl, rfl, rfl⟩ : n = r1 ∧ e = r2 ∧ f = r3 := by simpa using HE.out
   have o0 : wc.cell? ⟨go, 0, none⟩ = some (.bool n) := (blk_cell E3.out.o 0).trans rfl
   have r0 : wc.cell? ⟨gr, 0, none⟩ = some (.bool false) := (blk_cell (blk_below HR.out E3.out.b) 0).trans rfl
   have z0 : wc.frozen? ⟨gr, 0, none⟩ = false := blk_frozen (blk_below HR.out E3.out.b) 0
   have o1 : wc.cell? ⟨go, 1, none⟩ = some (.bool e) := (blk_cell E3.out.o 1).trans rfl
   have r1 : wc.cell? ⟨gr, 1, none⟩ = some (.bool false) := (blk_cell (blk_below HR.out E3.out.b) 1).trans rfl
   have z1 : wc.frozen? ⟨gr, 1, none⟩ = false := blk_frozen (blk_below HR.out E3.out.b) 1
   have o2 : wc.cell? ⟨go, 2, none⟩ = some (.bool f) := (blk_cell E3.out.o 2).trans rfl
   have r2 : wc.cell? ⟨gr, 2, none⟩ = some (.bool false) := (blk_cell (blk_below HR.out E3.out.b) 2).trans rfl
   have z2 : wc.frozen? ⟨gr, 2, none⟩ = false := blk_frozen (blk_below HR.out E3.out.b) 2
   go_wp2
   refine bodyPost_ret (results_cell_row rfl _ _ gr 45 #[.bool n, .bool e, .bool f] (0, 0) _ rfl (blk3 (blk_below HR.out E3.out.b) _ _ _) Try.underlying45 rfl (by kernel_rfl)) rfl ⟨rfl, ?_⟩
   exact below3 (below_step HB.out E3.out.b) (by have := HGB.out; have := HGR.out; omega) _ _ _
end Go.Proofs.Ythgedejnpgcacaa.V
namespace Go.Proofs.Ythgedejnpgcacaa.V
open Go.RowKit Go.Proofs.YthgedejnpgcacaaW.PrintWords Go.Proofs.YthgedejnpgcacaaW.PrintLast Go.Proofs.YthgedejnpgcacaaW.PrintMore
set_option linter.unusedVariables false
set_option linter.unusedSimpArgs false
attribute [local go_sem high] eq54h
set_option maxHeartbeats 4000000 in
set_option maxRecDepth 100000 in
theorem vetchref11_Node.calls_s4 (A0_0 : Option Addr) (c0_0 : Nat) (l0_0 : List S51) (A0_1 : Option Addr) (c0_1 : Nat) (l0_1 : List S56) (a1 : Int) (A2 : Option Addr) (c2 : Nat) (l2 : List S45) (r1 r2 r3 : Bool) (w : World)
    (hr0_0 : Kd.C k51 w A0_0 l0_0.length l0_0) (hc0_0 : l0_0.length ≤ c0_0) (hr0_1 : Kd.C k56 w A0_1 l0_1.length l0_1) (hc0_1 : l0_1.length ≤ c0_1) (hr2 : Kd.C k45 w A2 l2.length l2) (hc2 : l2.length ≤ c2)
    (hs : Aside0 ((rd_T56 l0_1 a1).f0 = 4)) (h : vetchref11_Node.f l0_0 l0_1 a1 l2 = some (r1, r2, r3)) :
    Calls Try.prog 31 #[.agg #[.slice A0_0 l0_0.length c0_0, .slice A0_1 l0_1.length c0_1], .int .i64 a1, .slice A2 l2.length c2] w fun e w' => e = .returned (.agg #[.bool r1, .bool r2, .bool r3]) ∧ Below w.heap.size w w' := by
  unfold vetchref11_Node.f at h
  split at h
  case isFalse => exact absurd h (by simp)
  case isTrue hfit =>
  obtain ⟨p2, p3, hfit⟩ := hfit
  have H : Aside0 (vetchref11_Node.p l0_0 l2 (rd_T56 l0_1 a1) = (r1, r2, r3)) := ⟨Option.some.inj h⟩
  have HF := Aside0.mk hfit
  clear h hfit
  have hu25 := Try.underlying25
  have hu45 := Try.underlying45
  have hu56 := Try.underlying56
  have hu51 := Try.underlying51
  have hu54 := Try.underlying54
  have HB := Aside0.mk (below_alloc (below_alloc (Below.refl w.heap.size w) (.cells #[.slice A0_0 l0_0.length c0_0, .slice A0_1 l0_1.length c0_1] 25)) (.cells #[.bool false, .bool false, .bool false] 45))
  have HG := Aside0.mk (blk_alloc (blk_new w (.cells #[.slice A0_0 l0_0.length c0_0, .slice A0_1 l0_1.length c0_1] 25)) (.cells #[.bool false, .bool false, .bool false] 45))
  have HR := Aside0.mk (blk_new (w.alloc (.cells #[.slice A0_0 l0_0.length c0_0, .slice A0_1 l0_1.length c0_1] 25)) (.cells #[.bool false, .bool false, .bool false] 45))
  have hsz : ((w.alloc (.cells #[.slice A0_0 l0_0.length c0_0, .slice A0_1 l0_1.length c0_1] 25)).alloc (.cells #[.bool false, .bool false, .bool false] 45)).heap.size = w.heap.size + 1 + 1 := by rw [hand_size, hand_size]
  rw [hand_size] at HR
  have HC0 := Aside0.mk (Kd.C_below hr0_0 HB.out)
  have HC1 := Aside0.mk (Kd.C_below hr0_1 HB.out)
  have HC2 := Aside0.mk (Kd.C_below hr2 HB.out)
  have HW := Aside0.mk hsz
  clear hr0_0 hr0_1 hr2 hsz
  go_enter Try.func31, Try.ntmps31
  go_upto_region 1 with (fail)
  generalize ((w.alloc (.cells #[.slice A0_0 l0_0.length c0_0, .slice A0_1 l0_1.length c0_1] 25)).alloc (.cells #[.bool false, .bool false, .bool false] 45)) = W1 at HB HG HR HC0 HC1 HC2 HW ⊢
  have g0 : W1.cell? ⟨w.heap.size, 0, none⟩ = some (.slice A0_0 l0_0.length c0_0) := (blk_cell HG.out 0).trans rfl
  have g1 : W1.cell? ⟨w.heap.size, 1, none⟩ = some (.slice A0_1 l0_1.length c0_1) := (blk_cell HG.out 1).trans rfl
  obtain ⟨ad, Ak, ck, e, k0, k1, k2, k3, k4, k5, k6, hlk, hCk⟩ := at_T56 HC1.out a1 p2 p3
  cases e
  have HCk := Aside0.mk hCk
  have HLk := Aside0.mk hlk
  clear hCk hlk HC1
  replace p2 := eq_true p2
  replace p3 := eq_true p3
  go_upto_region 3 with (fail)
  generalize rd_T56 l0_1 a1 = nd at *
  obtain ⟨gx, hgx⟩ : ∃ gx, gx = W1.heap.size := ⟨_, rfl⟩
  obtain ⟨go, hgo⟩ : ∃ go, go = gx + 1 := ⟨_, rfl⟩
  obtain ⟨gb, hgb⟩ : ∃ gb, gb = w.heap.size := ⟨_, rfl⟩
  obtain ⟨gr, hgr⟩ : ∃ gr, gr = gb + 1 := ⟨_, rfl⟩
  rw [← hgb] at HW HG HR
  rw [← hgr] at HR
  have E2 : Aside0 (Env11 W1 gx go #[.int .i64 nd.f0, .slice Ak nd.f1.length ck, .int .i64 nd.f2, .int .u64 nd.f3.f0, .int .u64 nd.f3.f1, .int .u64 nd.f3.f2, .int .u64 nd.f3.f3] ((W1.alloc (.cells #[.int .i64 nd.f0, .slice Ak nd.f1.length ck, .int .i64 nd.f2, .int .u64 nd.f3.f0, .int .u64 nd.f3.f1, .int .u64 nd.f3.f2, .int .u64 nd.f3.f3] 56)).alloc (.cells #[.bool false, .bool false, .bool false] 45)) false false false) := ⟨by rw [hgx]; exact blk_alloc (blk_new W1 (.cells #[.int .i64 nd.f0, .slice Ak nd.f1.length ck, .int .i64 nd.f2, .int .u64 nd.f3.f0, .int .u64 nd.f3.f1, .int .u64 nd.f3.f2, .int .u64 nd.f3.f3] 56)) (.cells #[.bool false, .bool false, .bool false] 45), by rw [hgo, hgx]; have := blk_new (W1.alloc (.cells #[.int .i64 nd.f0, .slice Ak nd.f1.length ck, .int .i64 nd.f2, .int .u64 nd.f3.f0, .int .u64 nd.f3.f1, .int .u64 nd.f3.f2, .int .u64 nd.f3.f3] 56)) (.cells #[.bool false, .bool false, .bool false] 45); rw [hand_size] at this; exact this, below_alloc (below_alloc (Below.refl _ _) _) _⟩
  have HLT := Aside0.mk (show W1.heap.size ≤ go ∧ gx ≠ go ∧ gb < W1.heap.size ∧ gr < W1.heap.size ∧ gr ≠ go by have := HW.out; omega)
  have HGB := Aside0.mk hgb
  have HGR := Aside0.mk hgr
  rw [← hgx, ← hgb, ← hgr, ← hgo]
  generalize (W1.alloc (.cells #[.int .i64 nd.f0, .slice Ak nd.f1.length ck, .int .i64 nd.f2, .int .u64 nd.f3.f0, .int .u64 nd.f3.f1, .int .u64 nd.f3.f2, .int .u64 nd.f3.f3] 56)).alloc (.cells #[.bool false, .bool false, .bool false] 45) = W2 at E2 ⊢
  clear k0 k1 k2 k3 k4 k5 k6 g0 g1 HW hgx hgo hgb hgr
  have x0 := (blk_cell E2.out.x 0).trans rfl
  go_upto_block 0 with fail
  go_cut [] (fun wc => ∃ n e f, Aside0 ((n, e, f) = (r1, r2, r3)) ∧ Aside0 (Env11 W1 gx go #[.int .i64 nd.f0, .slice Ak nd.f1.length ck, .int .i64 nd.f2, .int .u64 nd.f3.f0, .int .u64 nd.f3.f1, .int .u64 nd.f3.f2, .int .u64 nd.f3.f3] wc n e f))
  case first =>
   clear x0
   have h := H.out
   clear H
   unfold vetchref11_Node.p at h
   have c0 : ¬ nd.f0 = 0 := by have := hs.out; omega
   rw [if_neg c0] at h
   have b0 : (nd.f0 == 0) = false := beq_eq_false_iff_ne.2 c0
   go_upto_region 6 with (fail)
   clear b0
   have c1 : ¬ nd.f0 = 1 := by have := hs.out; omega
   rw [if_neg c1] at h
   have b1 : (nd.f0 == 1) = false := beq_eq_false_iff_ne.2 c1
   go_upto_region 9 with (fail)
   clear b1
   have c2 : ¬ nd.f0 = 2 := by have := hs.out; omega
   rw [if_neg c2] at h
   have b2 : (nd.f0 == 2) = false := beq_eq_false_iff_ne.2 c2
   go_upto_region 11 with (fail)
   clear b2
   have c3 : ¬ nd.f0 = 3 := by have := hs.out; omega
   rw [if_neg c3] at h
   have b3 : (nd.f0 == 3) = false := beq_eq_false_iff_ne.2 c3
   go_upto_region 28 with (fail)
   clear b3
   have c4 : nd.f0 = 4 := by have := hs.out; omega
   rw [if_pos c4] at h
   have b4 : (nd.f0 == 4) = true := beq_iff_eq.2 c4
   clear c0 c1 c2 c3 c4
   have q9 := HCk.out.2.1
   have HMX := Aside0.mk q9
   clear q9
   have o2 : W2.cell? ⟨go, 2, none⟩ = some (.bool false) := (blk_cell E2.out.o 2).trans rfl
   have z2 : W2.frozen? ⟨go, 2, none⟩ = false := blk_frozen E2.out.o 2
   go_upto_block 5 with fail
   have EV0 := Aside0.mk ((E2.out).put2 HLT.out.1 HLT.out.2.1 true)
   generalize W2.setCell ⟨go, 2, none⟩ (.bool true) = V0 at EV0 ⊢
   clear o2 z2
   go_wp2
   go_loopg [14] nd.f1.length (fun kq v14 w' => ∃ (n e f : Bool) (j : Int), v14 = .int .i64 j ∧ Aside0 (0 ≤ j ∧ j ≤ (nd.f1.length : Int) ∧ kq + j.toNat = nd.f1.length) ∧ Aside0 (vetchref11_Node.choF l2 (nd.f1.drop j.toNat) n e f = (r1, r2, r3)) ∧ Aside0 (f = (nd.f1.take j.toNat).all (fun c => (rd_T45 l2 c).f2)) ∧ Aside0 (Env11 W1 gx go #[.int .i64 nd.f0, .slice Ak nd.f1.length ck, .int .i64 nd.f2, .int .u64 nd.f3.f0, .int .u64 nd.f3.f1, .int .u64 nd.f3.f2, .int .u64 nd.f3.f3] w' n e f))
   case atStart => exact ⟨_, _, _, 0, rfl, ⟨by omega⟩, ⟨h⟩, ⟨rfl⟩, EV0⟩
   case round =>
    clear h EV0 E2
    obtain ⟨n, e, f, j, rfl, HJ, HA, HBV, E⟩ := hrel
    by_cases cj : j < (nd.f1.length : Int)
    ·
     have cjb : decide (j < (nd.f1.length : Int)) = true := decide_eq_true cj
     have kap : Aside0 (0 ≤ j) := ⟨by (have := HJ.out; omega)⟩
     have kaq : Aside0 (j < (nd.f1.length : Int)) := ⟨by (have := HJ.out; omega)⟩
     have kar := Aside0.mk (HF.out.1 (rd nd.f1 j) (rd_memh nd.f1 j kap.out kaq.out)).1
     have kas := Aside0.mk (HF.out.1 (rd nd.f1 j) (rd_memh nd.f1 j kap.out kaq.out)).2
     have kapt := eq_true kap.out
     have kaqt := eq_true kaq.out
     have kart := eq_true kar.out
     have kast := eq_true kas.out
     have h := HA.out
     rw [drop_rd nd.f1 j kap.out kaq.out] at h
     rw [vetchref11_Node.choF] at h
     clear HA cj
     obtain ⟨f0, f1, f2, hfx⟩ : ∃ f0 f1 f2, rd_T45 l2 (rd nd.f1 j) = ⟨f0, f1, f2⟩ := ⟨_, _, _, rfl⟩
     rw [hfx] at h
     dsimp only at h
     have HFX := Aside0.mk hfx
     have HA := Aside0.mk h
     clear hfx h
     obtain ⟨ad1, he1, kay⟩ := Kd.at_int (Kd.C_below HCk.out E.out.b) j kap.out kaq.out
     have x1 : wr.cell? ⟨gx, 1, none⟩ = some (.slice (some ad1) nd.f1.length ck) := by rw [← he1]; exact (blk_cell E.out.x 1).trans rfl
     clear he1
     obtain ⟨ad2, e2, kau0, kau1, kau2⟩ := at_T45 (Kd.C_below HC2.out E.out.b) (rd nd.f1 j) kar.out kas.out
     cases e2
     rw [HFX.out] at kau0 kau1 kau2
     dsimp only at kau0 kau1 kau2
     go_upto_region 34 with (fail)
     obtain ⟨gf, hgf⟩ : ∃ gf, gf = wr.heap.size := ⟨_, rfl⟩
     have EA := Aside0.mk (E.out.below (below_alloc (Below.refl _ _) (.cells #[.bool f0, .bool f1, .bool f2] 45)))
     have BF := Aside0.mk (blk_new wr (.cells #[.bool f0, .bool f1, .bool f2] 45))
     rw [← hgf] at BF ⊢
     have hne : Aside0 (gf ≠ go) := ⟨by have := blk_lt E.out.o; omega⟩
     generalize wr.alloc (.cells #[.bool f0, .bool f1, .bool f2] 45) = V1 at EA BF ⊢
     clear hgf E x1 kay kau0 kau1 kau2 cjb
     clear kapt kaqt kart kast
     go_upto_block 7 with fail
     go_cut [16] (fun v16 wc => v16 = .bool f ∧ Aside0 (Env11 W1 gx go #[.int .i64 nd.f0, .slice Ak nd.f1.length ck, .int .i64 nd.f2, .int .u64 nd.f3.f0, .int .u64 nd.f3.f1, .int .u64 nd.f3.f2, .int .u64 nd.f3.f3] wc (n) (e) (f)) ∧ Aside0 (wc.heap[gf]? = some (.cells #[.bool f0, .bool f1, .bool f2] 45 (0, 0))))
     case first =>
      go_wp2
      go_loopg [16, 17] j.toNat (fun kq v16 v17 w' => ∃ (bf : Bool) (m : Int), v16 = .bool bf ∧ v17 = .int .i64 m ∧ Aside0 (0 ≤ m ∧ m ≤ j ∧ kq + m.toNat = j.toNat) ∧ Aside0 (bf = (nd.f1.take m.toNat).all (fun c => (rd_T45 l2 c).f2)) ∧ Aside0 (Env11 W1 gx go #[.int .i64 nd.f0, .slice Ak nd.f1.length ck, .int .i64 nd.f2, .int .u64 nd.f3.f0, .int .u64 nd.f3.f1, .int .u64 nd.f3.f2, .int .u64 nd.f3.f3] w' (n) (e) (f)) ∧ Aside0 (w'.heap[gf]? = some (.cells #[.bool f0, .bool f1, .bool f2] 45 (0, 0))))
      case atStart => exact ⟨true, 0, rfl, rfl, ⟨by have := HJ.out; omega⟩, ⟨rfl⟩, EA, BF⟩
      case round =>
       clear EA BF
       obtain ⟨bf, m, rfl, rfl, HM, HBF, E, BF⟩ := hrel
       by_cases cm : m < j
       ·
        have cmb : decide (m < j) = true := decide_eq_true cm
        have kbp : Aside0 (0 ≤ m) := ⟨by (have := HM.out; have := HJ.out; have := kaq.out; omega)⟩
        have kbq : Aside0 (m < (nd.f1.length : Int)) := ⟨by (have := HM.out; have := HJ.out; have := kaq.out; omega)⟩
        have kbr := Aside0.mk (HF.out.1 (rd nd.f1 m) (rd_memh nd.f1 m kbp.out kbq.out)).1
        have kbs := Aside0.mk (HF.out.1 (rd nd.f1 m) (rd_memh nd.f1 m kbp.out kbq.out)).2
        have kbpt := eq_true kbp.out
        have kbqt := eq_true kbq.out
        have kbrt := eq_true kbr.out
        have kbst := eq_true kbs.out
        have hw := wrap_next m nd.f1.length kbp.out kbq.out HMX.out
        have HWm := Aside0.mk hw
        have HCM := Aside0.mk cm
        clear hw cm
        cases bf with
        | true =>
          obtain ⟨g0, g1, g2, hgx⟩ : ∃ g0 g1 g2, rd_T45 l2 (rd nd.f1 m) = ⟨g0, g1, g2⟩ := ⟨_, _, _, rfl⟩
          have HGX := Aside0.mk hgx
          clear hgx
          obtain ⟨ad1, he1, kby⟩ := Kd.at_int (Kd.C_below HCk.out E.out.b) m kbp.out kbq.out
          have x1 : wr.cell? ⟨gx, 1, none⟩ = some (.slice (some ad1) nd.f1.length ck) := by rw [← he1]; exact (blk_cell E.out.x 1).trans rfl
          clear he1
          obtain ⟨ad2, e2, kbu0, kbu1, kbu2⟩ := at_T45 (Kd.C_below HC2.out E.out.b) (rd nd.f1 m) kbr.out kbs.out
          cases e2
          rw [HGX.out] at kbu0 kbu1 kbu2
          dsimp only at kbu0 kbu1 kbu2
          go_wp2
          go_roundg (gk - 1)
          case measure => have := HM.out; have := HCM.out; omega
          case rel => exact ⟨g2, wrap64 (m + 1), rfl, rfl, ⟨by rw [HWm.out]; have := HM.out; have := HCM.out; omega⟩, ⟨by rw [HWm.out, all_rd _ nd.f1 m kbp.out kbq.out, ← HBF.out]; simp [HGX.out]⟩, E, BF⟩
        | false =>
          go_wp2
          go_roundg (gk - 1)
          case measure => have := HM.out; have := HCM.out; omega
          case rel => exact ⟨false, wrap64 (m + 1), rfl, rfl, ⟨by rw [HWm.out]; have := HM.out; have := HCM.out; omega⟩, ⟨by rw [HWm.out, all_rd _ nd.f1 m kbp.out kbq.out, ← HBF.out]; rfl⟩, E, BF⟩
       ·
        have cmb : decide (m < j) = false := decide_eq_false cm
        have HCM := Aside0.mk cm
        clear cm
        go_wp2
        go_meet
        exact ⟨by rw [HBV.out, HBF.out, show m = j by have := HM.out; have := HCM.out; omega], E, BF⟩
     case rest =>
      clear EA BF
      obtain ⟨rfl, E, BF⟩ := hcut
      go_upto_region 39 with (fail)
      go_cut [] (fun wc => Aside0 (Env11 W1 gx go #[.int .i64 nd.f0, .slice Ak nd.f1.length ck, .int .i64 nd.f2, .int .u64 nd.f3.f0, .int .u64 nd.f3.f1, .int .u64 nd.f3.f2, .int .u64 nd.f3.f3] wc (n || (f0 && f)) (e) (f)) ∧ Aside0 (wc.heap[gf]? = some (.cells #[.bool f0, .bool f1, .bool f2] 45 (0, 0))))
      case first =>
       have o0 : wc.cell? ⟨go, 0, none⟩ = some (.bool (n)) := (blk_cell E.out.o 0).trans rfl
       have z0 : wc.frozen? ⟨go, 0, none⟩ = false := blk_frozen E.out.o 0
       have g0 : wc.cell? ⟨gf, 0, none⟩ = some (.bool f0) := (blk_cell BF.out 0).trans rfl
       cases n with
       | true =>
         go_wp2
         go_meet
         exact ⟨⟨E.out.put0 HLT.out.1 HLT.out.2.1 _⟩, ⟨blk_far BF.out (p := ⟨go, 0, none⟩) hne.out _⟩⟩
       | false =>
         cases f0 with
         | true =>
           go_wp2
           go_meet
           exact ⟨⟨E.out.put0 HLT.out.1 HLT.out.2.1 _⟩, ⟨blk_far BF.out (p := ⟨go, 0, none⟩) hne.out _⟩⟩
         | false =>
           go_wp2
           go_meet
           exact ⟨⟨E.out.put0 HLT.out.1 HLT.out.2.1 _⟩, ⟨blk_far BF.out (p := ⟨go, 0, none⟩) hne.out _⟩⟩
      case rest =>
       clear E BF
       obtain ⟨E, BF⟩ := hcut
       go_upto_region 40 with (fail)
       go_cut [] (fun wc => Aside0 (Env11 W1 gx go #[.int .i64 nd.f0, .slice Ak nd.f1.length ck, .int .i64 nd.f2, .int .u64 nd.f3.f0, .int .u64 nd.f3.f1, .int .u64 nd.f3.f2, .int .u64 nd.f3.f3] wc (n || (f0 && f)) (e || (f1 && f)) (f)) ∧ Aside0 (wc.heap[gf]? = some (.cells #[.bool f0, .bool f1, .bool f2] 45 (0, 0))))
       case first =>
        have o1 : wc.cell? ⟨go, 1, none⟩ = some (.bool (e)) := (blk_cell E.out.o 1).trans rfl
        have z1 : wc.frozen? ⟨go, 1, none⟩ = false := blk_frozen E.out.o 1
        have g1 : wc.cell? ⟨gf, 1, none⟩ = some (.bool f1) := (blk_cell BF.out 1).trans rfl
        cases e with
        | true =>
          go_wp2
          go_meet
          exact ⟨⟨E.out.put1 HLT.out.1 HLT.out.2.1 _⟩, ⟨blk_far BF.out (p := ⟨go, 1, none⟩) hne.out _⟩⟩
        | false =>
          cases f1 with
          | true =>
            go_wp2
            go_meet
            exact ⟨⟨E.out.put1 HLT.out.1 HLT.out.2.1 _⟩, ⟨blk_far BF.out (p := ⟨go, 1, none⟩) hne.out _⟩⟩
          | false =>
            go_wp2
            go_meet
            exact ⟨⟨E.out.put1 HLT.out.1 HLT.out.2.1 _⟩, ⟨blk_far BF.out (p := ⟨go, 1, none⟩) hne.out _⟩⟩
       case rest =>
        clear E BF
        obtain ⟨E, BF⟩ := hcut
        have hw := wrap_next j nd.f1.length kap.out kaq.out HMX.out
        have HWj := Aside0.mk hw
        clear hw
        go_upto_region 41 with (fail)
        have o2 : wc.cell? ⟨go, 2, none⟩ = some (.bool (f)) := (blk_cell E.out.o 2).trans rfl
        have z2 : wc.frozen? ⟨go, 2, none⟩ = false := blk_frozen E.out.o 2
        have g2 : wc.cell? ⟨gf, 2, none⟩ = some (.bool f2) := (blk_cell BF.out 2).trans rfl
        cases f with
        | true =>
          go_wp2
          go_roundg (gk - 1)
          case measure => have := HJ.out; have := kaq.out; omega
          case rel => exact ⟨_, _, _, wrap64 (j + 1), rfl, ⟨by rw [HWj.out]; have := HJ.out; have := kaq.out; omega⟩, ⟨by rw [HWj.out]; exact HA.out⟩, ⟨by rw [HWj.out, all_rd _ nd.f1 j kap.out kaq.out, ← HBV.out]; simp [HFX.out]⟩, ⟨E.out.put2 HLT.out.1 HLT.out.2.1 _⟩⟩
        | false =>
          go_wp2
          go_roundg (gk - 1)
          case measure => have := HJ.out; have := kaq.out; omega
          case rel => exact ⟨_, _, _, wrap64 (j + 1), rfl, ⟨by rw [HWj.out]; have := HJ.out; have := kaq.out; omega⟩, ⟨by rw [HWj.out]; exact HA.out⟩, ⟨by rw [HWj.out, all_rd _ nd.f1 j kap.out kaq.out, ← HBV.out]; simp [HFX.out]⟩, ⟨E.out.put2 HLT.out.1 HLT.out.2.1 _⟩⟩
    ·
     have cjb : decide (j < (nd.f1.length : Int)) = false := decide_eq_false cj
     have h := HA.out
     rw [drop_end nd.f1 j cj] at h
     clear cj
     have x1 := (blk_cell E.out.x 1).trans rfl
     go_wp2
     go_meet
     exact ⟨_, _, _, ⟨h⟩, E⟩
  case rest =>
   clear x0
   obtain ⟨n, e, f, HE, E3⟩ := hcut
   obtain ⟨rfl, rfl, rfl⟩ : n = r1 ∧ e = r2 ∧ f = r3 := by simpa using HE.out
   have o0 : wc.cell? ⟨go, 0, none⟩ = some (.bool n) := (blk_cell E3.out.o 0).trans rfl
   have r0 : wc.cell? ⟨gr, 0, none⟩ = some (.bool false) := (blk_cell (blk_below HR.out E3.out.b) 0).trans rfl
   have z0 : wc.frozen? ⟨gr, 0, none⟩ = false := blk_frozen (blk_below HR.out E3.out.b) 0
   have o1 : wc.cell? ⟨go, 1, none⟩ = some (.bool e) := (blk_cell E3.out.o 1).trans rfl
   have r1 : wc.cell? ⟨gr, 1, none⟩ = some (.bool false) := (blk_cell (blk_below HR.out E3.out.b) 1).trans rfl
   have z1 : wc.frozen? ⟨gr, 1, none⟩ = false := blk_frozen (blk_below HR.out E3.out.b) 1
   have o2 : wc.cell? ⟨go, 2, none⟩ = some (.bool f) := (blk_cell E3.out.o 2).trans rfl
   have r2 : wc.cell? ⟨gr, 2, none⟩ = some (.bool false) := (blk_cell (blk_below HR.out E3.out.b) 2).trans rfl
   have z2 : wc.frozen? ⟨gr, 2, none⟩ = false := blk_frozen (blk_below HR.out E3.out.b) 2
   go_wp2
   refine bodyPost_ret (results_cell_row rfl _ _ gr 45 #[.bool n, .bool e, .bool f] (0, 0) _ rfl (blk3 (blk_below HR.out E3.out.b) _ _ _) Try.underlying45 rfl (by kernel_rfl)) rfl ⟨rfl, ?_⟩
   exact below3 (below_step HB.out E3.out.b) (by have := HGB.out; have := HGR.out; omega) _ _ _
end Go.Proofs.Ythgedejnpgcacaa.V
namespace Go.Proofs.Ythgedejnpgcacaa.V
open Go.RowKit Go.Proofs.YthgedejnpgcacaaW.PrintWords Go.Proofs.YthgedejnpgcacaaW.PrintLast Go.Proofs.YthgedejnpgcacaaW.PrintMore
set_option linter.unusedVariables false
set_option linter.unusedSimpArgs false
attribute [local go_sem high] eq54h
set_option maxHeartbeats 4000000 in
set_option maxRecDepth 100000 in
theorem vetchref11_Node.calls_s5 (A0_0 : Option Addr) (c0_0 : Nat) (l0_0 : List S51) (A0_1 : Option Addr) (c0_1 : Nat) (l0_1 : List S56) (a1 : Int) (A2 : Option Addr) (c2 : Nat) (l2 : List S45) (r1 r2 r3 : Bool) (w : World)
    (hr0_0 : Kd.C k51 w A0_0 l0_0.length l0_0) (hc0_0 : l0_0.length ≤ c0_0) (hr0_1 : Kd.C k56 w A0_1 l0_1.length l0_1) (hc0_1 : l0_1.length ≤ c0_1) (hr2 : Kd.C k45 w A2 l2.length l2) (hc2 : l2.length ≤ c2)
    (hs : Aside0 ((rd_T56 l0_1 a1).f0 = 5)) (h : vetchref11_Node.f l0_0 l0_1 a1 l2 = some (r1, r2, r3)) :
    Calls Try.prog 31 #[.agg #[.slice A0_0 l0_0.length c0_0, .slice A0_1 l0_1.length c0_1], .int .i64 a1, .slice A2 l2.length c2] w fun e w' => e = .returned (.agg #[.bool r1, .bool r2, .bool r3]) ∧ Below w.heap.size w w' := by
  unfold vetchref11_Node.f at h
  split at h
  case isFalse => exact absurd h (by simp)
  case isTrue hfit =>
  obtain ⟨p2, p3, hfit⟩ := hfit
  have H : Aside0 (vetchref11_Node.p l0_0 l2 (rd_T56 l0_1 a1) = (r1, r2, r3)) := ⟨Option.some.inj h⟩
  have HF := Aside0.mk hfit
  clear h hfit
  have hu25 := Try.underlying25
  have hu45 := Try.underlying45
  have hu56 := Try.underlying56
  have hu51 := Try.underlying51
  have hu54 := Try.underlying54
  have HB := Aside0.mk (below_alloc (below_alloc (Below.refl w.heap.size w) (.cells #[.slice A0_0 l0_0.length c0_0, .slice A0_1 l0_1.length c0_1] 25)) (.cells #[.bool false, .bool false, .bool false] 45))
  have HG := Aside0.mk (blk_alloc (blk_new w (.cells #[.slice A0_0 l0_0.length c0_0, .slice A0_1 l0_1.length c0_1] 25)) (.cells #[.bool false, .bool false, .bool false] 45))
  have HR := Aside0.mk (blk_new (w.alloc (.cells #[.slice A0_0 l0_0.length c0_0, .slice A0_1 l0_1.length c0_1] 25)) (.cells #[.bool false, .bool false, .bool false] 45))
  have hsz : ((w.alloc (.cells #[.slice A0_0 l0_0.length c0_0, .slice A0_1 l0_1.length c0_1] 25)).alloc (.cells #[.bool false, .bool false, .bool false] 45)).heap.size = w.heap.size + 1 + 1 := by rw [hand_size, hand_size]
  rw [hand_size] at HR
  have HC0 := Aside0.mk (Kd.C_below hr0_0 HB.out)
  have HC1 := Aside0.mk (Kd.C_below hr0_1 HB.out)
  have HC2 := Aside0.mk (Kd.C_below hr2 HB.out)
  have HW := Aside0.mk hsz
  clear hr0_0 hr0_1 hr2 hsz
  go_enter Try.func31, Try.ntmps31
  go_upto_region 1 with (fail)
  generalize ((w.alloc (.cells #[.slice A0_0 l0_0.length c0_0, .slice A0_1 l0_1.length c0_1] 25)).alloc (.cells #[.bool false, .bool false, .bool false] 45)) = W1 at HB HG HR HC0 HC1 HC2 HW ⊢
  have g0 : W1.cell? ⟨w.heap.size, 0, none⟩ = some (.slice A0_0 l0_0.length c0_0) := (blk_cell HG.out 0).trans rfl
  have g1 : W1.cell? ⟨w.heap.size, 1, none⟩ = some (.slice A0_1 l0_1.length c0_1) := (blk_cell HG.out 1).trans rfl
  obtain ⟨ad, Ak, ck, e, k0, k1, k2, k3, k4, k5, k6, hlk, hCk⟩ := at_T56 HC1.out a1 p2 p3
  cases e
  have HCk := Aside0.mk hCk
  have HLk := Aside0.mk hlk
  clear hCk hlk HC1
  replace p2 := eq_true p2
  replace p3 := eq_true p3
  go_upto_region 3 with (fail)
  generalize rd_T56 l0_1 a1 = nd at *
  obtain ⟨gx, hgx⟩ : ∃ gx, gx = W1.heap.size := ⟨_, rfl⟩
  obtain ⟨go, hgo⟩ : ∃ go, go = gx + 1 := ⟨_, rfl⟩
  obtain ⟨gb, hgb⟩ : ∃ gb, gb = w.heap.size := ⟨_, rfl⟩
  obtain ⟨gr, hgr⟩ : ∃ gr, gr = gb + 1 := ⟨_, rfl⟩
  rw [← hgb] at HW HG HR
  rw [← hgr] at HR
  have E2 : Aside0 (Env11 W1 gx go #[.int .i64 nd.f0, .slice Ak nd.f1.length ck, .int .i64 nd.f2, .int .u64 nd.f3.f0, .int .u64 nd.f3.f1, .int .u64 nd.f3.f2, .int .u64 nd.f3.f3] ((W1.alloc (.cells #[.int .i64 nd.f0, .slice Ak nd.f1.length ck, .int .i64 nd.f2, .int .u64 nd.f3.f0, .int .u64 nd.f3.f1, .int .u64 nd.f3.f2, .int .u64 nd.f3.f3] 56)).alloc (.cells #[.bool false, .bool false, .bool false] 45)) false false false) := ⟨by rw [hgx]; exact blk_alloc (blk_new W1 (.cells #[.int .i64 nd.f0, .slice Ak nd.f1.length ck, .int .i64 nd.f2, .int .u64 nd.f3.f0, .int .u64 nd.f3.f1, .int .u64 nd.f3.f2, .int .u64 nd.f3.f3] 56)) (.cells #[.bool false, .bool false, .bool false] 45), by rw [hgo, hgx]; have := blk_new (W1.alloc (.cells #[.int .i64 nd.f0, .slice Ak nd.f1.length ck, .int .i64 nd.f2, .int .u64 nd.f3.f0, .int .u64 nd.f3.f1, .int .u64 nd.f3.f2, .int .u64 nd.f3.f3] 56)) (.cells #[.bool false, .bool false, .bool false] 45); rw [hand_size] at this; exact this, below_alloc (below_alloc (Below.refl _ _) _) _⟩
  have HLT := Aside0.mk (show W1.heap.size ≤ go ∧ gx ≠ go ∧ gb < W1.heap.size ∧ gr < W1.heap.size ∧ gr ≠ go by have := HW.out; omega)
  have HGB := Aside0.mk hgb
  have HGR := Aside0.mk hgr
  rw [← hgx, ← hgb, ← hgr, ← hgo]
  generalize (W1.alloc (.cells #[.int .i64 nd.f0, .slice Ak nd.f1.length ck, .int .i64 nd.f2, .int .u64 nd.f3.f0, .int .u64 nd.f3.f1, .int .u64 nd.f3.f2, .int .u64 nd.f3.f3] 56)).alloc (.cells #[.bool false, .bool false, .bool false] 45) = W2 at E2 ⊢
  clear k0 k1 k2 k3 k4 k5 k6 g0 g1 HW hgx hgo hgb hgr
  have x0 := (blk_cell E2.out.x 0).trans rfl
  go_upto_block 0 with fail
  go_cut [] (fun wc => ∃ n e f, Aside0 ((n, e, f) = (r1, r2, r3)) ∧ Aside0 (Env11 W1 gx go #[.int .i64 nd.f0, .slice Ak nd.f1.length ck, .int .i64 nd.f2, .int .u64 nd.f3.f0, .int .u64 nd.f3.f1, .int .u64 nd.f3.f2, .int .u64 nd.f3.f3] wc n e f))
  case first =>
   clear x0
   have h := H.out
   clear H
   unfold vetchref11_Node.p at h
   have c0 : ¬ nd.f0 = 0 := by have := hs.out; omega
   rw [if_neg c0] at h
   have b0 : (nd.f0 == 0) = false := beq_eq_false_iff_ne.2 c0
   go_upto_region 6 with (fail)
   clear b0
   have c1 : ¬ nd.f0 = 1 := by have := hs.out; omega
   rw [if_neg c1] at h
   have b1 : (nd.f0 == 1) = false := beq_eq_false_iff_ne.2 c1
   go_upto_region 9 with (fail)
   clear b1
   have c2 : ¬ nd.f0 = 2 := by have := hs.out; omega
   rw [if_neg c2] at h
   have b2 : (nd.f0 == 2) = false := beq_eq_false_iff_ne.2 c2
   go_upto_region 11 with (fail)
   clear b2
   have c3 : ¬ nd.f0 = 3 := by have := hs.out; omega
   rw [if_neg c3] at h
   have b3 : (nd.f0 == 3) = false := beq_eq_false_iff_ne.2 c3
   go_upto_region 28 with (fail)
   clear b3
   have c4 : ¬ nd.f0 = 4 := by have := hs.out; omega
   rw [if_neg c4] at h
   have b4 : (nd.f0 == 4) = false := beq_eq_false_iff_ne.2 c4
   go_upto_region 42 with (fail)
   clear b4
   have c5 : nd.f0 = 5 := by have := hs.out; omega
   rw [if_pos c5] at h
   have b5 : (nd.f0 == 5) = true := beq_iff_eq.2 c5
   have q9 : (0 : Int) < (nd.f1.length : Int) := by have := List.length_pos_iff.2 (HF.out.2.1 (by omega) (by omega)); omega
   obtain ⟨q2, q3⟩ := HF.out.1 (rd nd.f1 0) (rd_memh nd.f1 0 (Int.le_refl 0) q9)
   clear c0 c1 c2 c3 c4 c5
   have HQ2 := Aside0.mk q2
   replace q2 := eq_true q2
   have HQ3 := Aside0.mk q3
   replace q3 := eq_true q3
   have HQ9 := Aside0.mk q9
   replace q9 := eq_true q9
   have q9n : (0 < nd.f1.length) = True := eq_true (by have := HQ9.out; omega)
   obtain ⟨f0, f1, f2, hfx⟩ : ∃ f0 f1 f2, rd_T45 l2 (rd nd.f1 0) = ⟨f0, f1, f2⟩ := ⟨_, _, _, rfl⟩
   rw [hfx] at h
   dsimp only at h
   have HFX := Aside0.mk hfx
   clear hfx
   obtain ⟨ad1, e1, y0⟩ := Kd.at_int (Kd.C_below HCk.out E2.out.b) 0 (Int.le_refl 0) HQ9.out
   cases e1
   obtain ⟨ad2, e2, u0, u1, u2⟩ := at_T45 (Kd.C_below HC2.out E2.out.b) (rd nd.f1 0) HQ2.out HQ3.out
   cases e2
   replace y0 : W2.cell? ad1 = some (.int .i64 (rd nd.f1 0)) := by simpa [Addr.add] using y0
   rw [HFX.out] at u0 u1 u2
   dsimp only at u0 u1 u2
   have x0 : W2.cell? ⟨gx, 0, none⟩ = some (.int .i64 nd.f0) := (blk_cell E2.out.x 0).trans rfl
   have x1 := (blk_cell E2.out.x 1).trans rfl
   have o0 : W2.cell? ⟨go, 0, none⟩ = some (.bool false) := (blk_cell E2.out.o 0).trans rfl
   have z0 : W2.frozen? ⟨go, 0, none⟩ = false := blk_frozen E2.out.o 0
   go_upto_region 44 with (fail)
   have EV0 := Aside0.mk ((E2.out).put0 HLT.out.1 HLT.out.2.1 f2)
   generalize W2.setCell ⟨go, 0, none⟩ (.bool f2) = V0 at EV0 ⊢
   clear x0 x1 y0 u0 u1 u2 o0 z0
   obtain ⟨ad1, e1, y0⟩ := Kd.at_int (Kd.C_below HCk.out EV0.out.b) 0 (Int.le_refl 0) HQ9.out
   cases e1
   obtain ⟨ad2, e2, u0, u1, u2⟩ := at_T45 (Kd.C_below HC2.out EV0.out.b) (rd nd.f1 0) HQ2.out HQ3.out
   cases e2
   replace y0 : V0.cell? ad1 = some (.int .i64 (rd nd.f1 0)) := by simpa [Addr.add] using y0
   rw [HFX.out] at u0 u1 u2
   dsimp only at u0 u1 u2
   have x0 : V0.cell? ⟨gx, 0, none⟩ = some (.int .i64 nd.f0) := (blk_cell EV0.out.x 0).trans rfl
   have x1 := (blk_cell EV0.out.x 1).trans rfl
   have o1 : V0.cell? ⟨go, 1, none⟩ = some (.bool false) := (blk_cell EV0.out.o 1).trans rfl
   have z1 : V0.frozen? ⟨go, 1, none⟩ = false := blk_frozen EV0.out.o 1
   go_wp2
   go_meet
   exact ⟨_, _, _, ⟨h⟩, ⟨(EV0.out).put1 HLT.out.1 HLT.out.2.1 f1⟩⟩
  case rest =>
   clear x0
   obtain ⟨n, e, f, HE, E3⟩ := hcut
   obtain ⟨rfl, rfl, rfl⟩ : n = r1 ∧ e = r2 ∧ f = r3 := by simpa using HE.out
   have o0 : wc.cell? ⟨go, 0, none⟩ = some (.bool n) := (blk_cell E3.out.o 0).trans rfl
   have r0 : wc.cell? ⟨gr, 0, none⟩ = some (.bool false) := (blk_cell (blk_below HR.out E3.out.b) 0).trans rfl
   have z0 : wc.frozen? ⟨gr, 0, none⟩ = false := blk_frozen (blk_below HR.out E3.out.b) 0
   have o1 : wc.cell? ⟨go, 1, none⟩ = some (.bool e) := (blk_cell E3.out.o 1).trans rfl
   have r1 : wc.cell? ⟨gr, 1, none⟩ = some (.bool false) := (blk_cell (blk_below HR.out E3.out.b) 1).trans rfl
   have z1 : wc.frozen? ⟨gr, 1, none⟩ = false := blk_frozen (blk_below HR.out E3.out.b) 1
   have o2 : wc.cell? ⟨go, 2, none⟩ = some (.bool f) := (blk_cell E3.out.o 2).trans rfl
   have r2 : wc.cell? ⟨gr, 2, none⟩ = some (.bool false) := (blk_cell (blk_below HR.out E3.out.b) 2).trans rfl
   have z2 : wc.frozen? ⟨gr, 2, none⟩ = false := blk_frozen (blk_below HR.out E3.out.b) 2
   go_wp2
   refine bodyPost_ret (results_cell_row rfl _ _ gr 45 #[.bool n, .bool e, .bool f] (0, 0) _ rfl (blk3 (blk_below HR.out E3.out.b) _ _ _) Try.underlying45 rfl (by kernel_rfl)) rfl ⟨rfl, ?_⟩
   exact below3 (below_step HB.out E3.out.b) (by have := HGB.out; have := HGR.out; omega) _ _ _
end Go.Proofs.Ythgedejnpgcacaa.V
namespace Go.Proofs.Ythgedejnpgcacaa.V
open Go.RowKit Go.Proofs.YthgedejnpgcacaaW.PrintWords Go.Proofs.YthgedejnpgcacaaW.PrintLast Go.Proofs.YthgedejnpgcacaaW.PrintMore
set_option linter.unusedVariables false
set_option linter.unusedSimpArgs false
attribute [local go_sem high] eq54h
set_option maxHeartbeats 4000000 in
set_option maxRecDepth 100000 in
theorem vetchref11_Node.calls_s6 (A0_0 : Option Addr) (c0_0 : Nat) (l0_0 : List S51) (A0_1 : Option Addr) (c0_1 : Nat) (l0_1 : List S56) (a1 : Int) (A2 : Option Addr) (c2 : Nat) (l2 : List S45) (r1 r2 r3 : Bool) (w : World)
    (hr0_0 : Kd.C k51 w A0_0 l0_0.length l0_0) (hc0_0 : l0_0.length ≤ c0_0) (hr0_1 : Kd.C k56 w A0_1 l0_1.length l0_1) (hc0_1 : l0_1.length ≤ c0_1) (hr2 : Kd.C k45 w A2 l2.length l2) (hc2 : l2.length ≤ c2)
    (hs : Aside0 ((rd_T56 l0_1 a1).f0 = 6)) (h : vetchref11_Node.f l0_0 l0_1 a1 l2 = some (r1, r2, r3)) :
    Calls Try.prog 31 #[.agg #[.slice A0_0 l0_0.length c0_0, .slice A0_1 l0_1.length c0_1], .int .i64 a1, .slice A2 l2.length c2] w fun e w' => e = .returned (.agg #[.bool r1, .bool r2, .bool r3]) ∧ Below w.heap.size w w' := by
  unfold vetchref11_Node.f at h
  split at h
  case isFalse => exact absurd h (by simp)
  case isTrue hfit =>
  obtain ⟨p2, p3, hfit⟩ := hfit
  have H : Aside0 (vetchref11_Node.p l0_0 l2 (rd_T56 l0_1 a1) = (r1, r2, r3)) := ⟨Option.some.inj h⟩
  have HF := Aside0.mk hfit
  clear h hfit
  have hu25 := Try.underlying25
  have hu45 := Try.underlying45
  have hu56 := Try.underlying56
  have hu51 := Try.underlying51
  have hu54 := Try.underlying54
  have HB := Aside0.mk (below_alloc (below_alloc (Below.refl w.heap.size w) (.cells #[.slice A0_0 l0_0.length c0_0, .slice A0_1 l0_1.length c0_1] 25)) (.cells #[.bool false, .bool false, .bool false] 45))
  have HG := Aside0.mk (blk_alloc (blk_new w (.cells #[.slice A0_0 l0_0.length c0_0, .slice A0_1 l0_1.length c0_1] 25)) (.cells #[.bool false, .bool false, .bool false] 45))
  have HR := Aside0.mk (blk_new (w.alloc (.cells #[.slice A0_0 l0_0.length c0_0, .slice A0_1 l0_1.length c0_1] 25)) (.cells #[.bool false, .bool false, .bool false] 45))
  have hsz : ((w.alloc (.cells #[.slice A0_0 l0_0.length c0_0, .slice A0_1 l0_1.length c0_1] 25)).alloc (.cells #[.bool false, .bool false, .bool false] 45)).heap.size = w.heap.size + 1 + 1 := by rw [hand_size, hand_size]
  rw [hand_size] at HR
  have HC0 := Aside0.mk (Kd.C_below hr0_0 HB.out)
  have HC1 := Aside0.mk (Kd.C_below hr0_1 HB.out)
  have HC2 := Aside0.mk (Kd.C_below hr2 HB.out)
  have HW := Aside0.mk hsz
  clear hr0_0 hr0_1 hr2 hsz
  go_enter Try.func31, Try.ntmps31
  go_upto_region 1 with (fail)
  generalize ((w.alloc (.cells #[.slice A0_0 l0_0.length c0_0, .slice A0_1 l0_1.length c0_1] 25)).alloc (.cells #[.bool false, .bool false, .bool false] 45)) = W1 at HB HG HR HC0 HC1 HC2 HW ⊢
  have g0 : W1.cell? ⟨w.heap.size, 0, none⟩ = some (.slice A0_0 l0_0.length c0_0) := (blk_cell HG.out 0).trans rfl
  have g1 : W1.cell? ⟨w.heap.size, 1, none⟩ = some (.slice A0_1 l0_1.length c0_1) := (blk_cell HG.out 1).trans rfl
  obtain ⟨ad, Ak, ck, e, k0, k1, k2, k3, k4, k5, k6, hlk, hCk⟩ := at_T56 HC1.out a1 p2 p3
  cases e
  have HCk := Aside0.mk hCk
  have HLk := Aside0.mk hlk
  clear hCk hlk HC1
  replace p2 := eq_true p2
  replace p3 := eq_true p3
  go_upto_region 3 with (fail)
  generalize rd_T56 l0_1 a1 = nd at *
  obtain ⟨gx, hgx⟩ : ∃ gx, gx = W1.heap.size := ⟨_, rfl⟩
  obtain ⟨go, hgo⟩ : ∃ go, go = gx + 1 := ⟨_, rfl⟩
  obtain ⟨gb, hgb⟩ : ∃ gb, gb = w.heap.size := ⟨_, rfl⟩
  obtain ⟨gr, hgr⟩ : ∃ gr, gr = gb + 1 := ⟨_, rfl⟩
  rw [← hgb] at HW HG HR
  rw [← hgr] at HR
  have E2 : Aside0 (Env11 W1 gx go #[.int .i64 nd.f0, .slice Ak nd.f1.length ck, .int .i64 nd.f2, .int .u64 nd.f3.f0, .int .u64 nd.f3.f1, .int .u64 nd.f3.f2, .int .u64 nd.f3.f3] ((W1.alloc (.cells #[.int .i64 nd.f0, .slice Ak nd.f1.length ck, .int .i64 nd.f2, .int .u64 nd.f3.f0, .int .u64 nd.f3.f1, .int .u64 nd.f3.f2, .int .u64 nd.f3.f3] 56)).alloc (.cells #[.bool false, .bool false, .bool false] 45)) false false false) := ⟨by rw [hgx]; exact blk_alloc (blk_new W1 (.cells #[.int .i64 nd.f0, .slice Ak nd.f1.length ck, .int .i64 nd.f2, .int .u64 nd.f3.f0, .int .u64 nd.f3.f1, .int .u64 nd.f3.f2, .int .u64 nd.f3.f3] 56)) (.cells #[.bool false, .bool false, .bool false] 45), by rw [hgo, hgx]; have := blk_new (W1.alloc (.cells #[.int .i64 nd.f0, .slice Ak nd.f1.length ck, .int .i64 nd.f2, .int .u64 nd.f3.f0, .int .u64 nd.f3.f1, .int .u64 nd.f3.f2, .int .u64 nd.f3.f3] 56)) (.cells #[.bool false, .bool false, .bool false] 45); rw [hand_size] at this; exact this, below_alloc (below_alloc (Below.refl _ _) _) _⟩
  have HLT := Aside0.mk (show W1.heap.size ≤ go ∧ gx ≠ go ∧ gb < W1.heap.size ∧ gr < W1.heap.size ∧ gr ≠ go by have := HW.out; omega)
  have HGB := Aside0.mk hgb
  have HGR := Aside0.mk hgr
  rw [← hgx, ← hgb, ← hgr, ← hgo]
  generalize (W1.alloc (.cells #[.int .i64 nd.f0, .slice Ak nd.f1.length ck, .int .i64 nd.f2, .int .u64 nd.f3.f0, .int .u64 nd.f3.f1, .int .u64 nd.f3.f2, .int .u64 nd.f3.f3] 56)).alloc (.cells #[.bool false, .bool false, .bool false] 45) = W2 at E2 ⊢
  clear k0 k1 k2 k3 k4 k5 k6 g0 g1 HW hgx hgo hgb hgr
  have x0 := (blk_cell E2.out.x 0).trans rfl
  go_upto_block 0 with fail
  go_cut [] (fun wc => ∃ n e f, Aside0 ((n, e, f) = (r1, r2, r3)) ∧ Aside0 (Env11 W1 gx go #[.int .i64 nd.f0, .slice Ak nd.f1.length ck, .int .i64 nd.f2, .int .u64 nd.f3.f0, .int .u64 nd.f3.f1, .int .u64 nd.f3.f2, .int .u64 nd.f3.f3] wc n e f))
  case first =>
   clear x0
   have h := H.out
   clear H
   unfold vetchref11_Node.p at h
   have c0 : ¬ nd.f0 = 0 := by have := hs.out; omega
   rw [if_neg c0] at h
   have b0 : (nd.f0 == 0) = false := beq_eq_false_iff_ne.2 c0
   go_upto_region 6 with (fail)
   clear b0
   have c1 : ¬ nd.f0 = 1 := by have := hs.out; omega
   rw [if_neg c1] at h
   have b1 : (nd.f0 == 1) = false := beq_eq_false_iff_ne.2 c1
   go_upto_region 9 with (fail)
   clear b1
   have c2 : ¬ nd.f0 = 2 := by have := hs.out; omega
   rw [if_neg c2] at h
   have b2 : (nd.f0 == 2) = false := beq_eq_false_iff_ne.2 c2
   go_upto_region 11 with (fail)
   clear b2
   have c3 : ¬ nd.f0 = 3 := by have := hs.out; omega
   rw [if_neg c3] at h
   have b3 : (nd.f0 == 3) = false := beq_eq_false_iff_ne.2 c3
   go_upto_region 28 with (fail)
   clear b3
   have c4 : ¬ nd.f0 = 4 := by have := hs.out; omega
   rw [if_neg c4] at h
   have b4 : (nd.f0 == 4) = false := beq_eq_false_iff_ne.2 c4
   go_upto_region 42 with (fail)
   clear b4
   have c5 : ¬ nd.f0 = 5 := by have := hs.out; omega
   rw [if_neg c5] at h
   have b5 : (nd.f0 == 5) = false := beq_eq_false_iff_ne.2 c5
   go_upto_region 45 with (fail)
   clear b5
   have c6 : nd.f0 = 6 := by have := hs.out; omega
   rw [if_pos c6] at h
   have b6 : (nd.f0 == 6) = true := beq_iff_eq.2 c6
   have q9 : (0 : Int) < (nd.f1.length : Int) := by have := List.length_pos_iff.2 (HF.out.2.1 (by omega) (by omega)); omega
   obtain ⟨q2, q3⟩ := HF.out.1 (rd nd.f1 0) (rd_memh nd.f1 0 (Int.le_refl 0) q9)
   clear c0 c1 c2 c3 c4 c5 c6
   have HQ2 := Aside0.mk q2
   replace q2 := eq_true q2
   have HQ3 := Aside0.mk q3
   replace q3 := eq_true q3
   have HQ9 := Aside0.mk q9
   replace q9 := eq_true q9
   have q9n : (0 < nd.f1.length) = True := eq_true (by have := HQ9.out; omega)
   obtain ⟨f0, f1, f2, hfx⟩ : ∃ f0 f1 f2, rd_T45 l2 (rd nd.f1 0) = ⟨f0, f1, f2⟩ := ⟨_, _, _, rfl⟩
   rw [hfx] at h
   dsimp only at h
   have HFX := Aside0.mk hfx
   clear hfx
   cases f0 with
   | true =>
     obtain ⟨ad1, e1, y0⟩ := Kd.at_int (Kd.C_below HCk.out E2.out.b) 0 (Int.le_refl 0) HQ9.out
     cases e1
     obtain ⟨ad2, e2, u0, u1, u2⟩ := at_T45 (Kd.C_below HC2.out E2.out.b) (rd nd.f1 0) HQ2.out HQ3.out
     cases e2
     replace y0 : W2.cell? ad1 = some (.int .i64 (rd nd.f1 0)) := by simpa [Addr.add] using y0
     rw [HFX.out] at u0 u1 u2
     dsimp only at u0 u1 u2
     have x0 : W2.cell? ⟨gx, 0, none⟩ = some (.int .i64 nd.f0) := (blk_cell E2.out.x 0).trans rfl
     have x1 := (blk_cell E2.out.x 1).trans rfl
     have o0 : W2.cell? ⟨go, 0, none⟩ = some (.bool false) := (blk_cell E2.out.o 0).trans rfl
     have z0 : W2.frozen? ⟨go, 0, none⟩ = false := blk_frozen E2.out.o 0
     go_upto_region 47 with (fail)
     have EV0 := Aside0.mk ((E2.out).put0 HLT.out.1 HLT.out.2.1 f2)
     generalize W2.setCell ⟨go, 0, none⟩ (.bool f2) = V0 at EV0 ⊢
     clear x0 x1 y0 u0 u1 u2 o0 z0
     obtain ⟨ad1, e1, y0⟩ := Kd.at_int (Kd.C_below HCk.out EV0.out.b) 0 (Int.le_refl 0) HQ9.out
     cases e1
     obtain ⟨ad2, e2, u0, u1, u2⟩ := at_T45 (Kd.C_below HC2.out EV0.out.b) (rd nd.f1 0) HQ2.out HQ3.out
     cases e2
     replace y0 : V0.cell? ad1 = some (.int .i64 (rd nd.f1 0)) := by simpa [Addr.add] using y0
     rw [HFX.out] at u0 u1 u2
     dsimp only at u0 u1 u2
     have x0 : V0.cell? ⟨gx, 0, none⟩ = some (.int .i64 nd.f0) := (blk_cell EV0.out.x 0).trans rfl
     have x1 := (blk_cell EV0.out.x 1).trans rfl
     have o1 : V0.cell? ⟨go, 1, none⟩ = some (.bool false) := (blk_cell EV0.out.o 1).trans rfl
     have z1 : V0.frozen? ⟨go, 1, none⟩ = false := blk_frozen EV0.out.o 1
     go_upto_region 48 with (fail)
     have EV1 := Aside0.mk ((EV0.out).put1 HLT.out.1 HLT.out.2.1 f1)
     generalize V0.setCell ⟨go, 1, none⟩ (.bool f1) = V1 at EV1 ⊢
     clear x0 x1 y0 u0 u1 u2 o1 z1
     obtain ⟨ad1, e1, y0⟩ := Kd.at_int (Kd.C_below HCk.out EV1.out.b) 0 (Int.le_refl 0) HQ9.out
     cases e1
     obtain ⟨ad2, e2, u0, u1, u2⟩ := at_T45 (Kd.C_below HC2.out EV1.out.b) (rd nd.f1 0) HQ2.out HQ3.out
     cases e2
     replace y0 : V1.cell? ad1 = some (.int .i64 (rd nd.f1 0)) := by simpa [Addr.add] using y0
     rw [HFX.out] at u0 u1 u2
     dsimp only at u0 u1 u2
     have x0 : V1.cell? ⟨gx, 0, none⟩ = some (.int .i64 nd.f0) := (blk_cell EV1.out.x 0).trans rfl
     have x1 := (blk_cell EV1.out.x 1).trans rfl
     have o2 : V1.cell? ⟨go, 2, none⟩ = some (.bool false) := (blk_cell EV1.out.o 2).trans rfl
     have z2 : V1.frozen? ⟨go, 2, none⟩ = false := blk_frozen EV1.out.o 2
     go_wp2
     go_meet
     exact ⟨_, _, _, ⟨h⟩, ⟨(EV1.out).put2 HLT.out.1 HLT.out.2.1 f2⟩⟩
   | false =>
     obtain ⟨ad1, e1, y0⟩ := Kd.at_int (Kd.C_below HCk.out E2.out.b) 0 (Int.le_refl 0) HQ9.out
     cases e1
     obtain ⟨ad2, e2, u0, u1, u2⟩ := at_T45 (Kd.C_below HC2.out E2.out.b) (rd nd.f1 0) HQ2.out HQ3.out
     cases e2
     replace y0 : W2.cell? ad1 = some (.int .i64 (rd nd.f1 0)) := by simpa [Addr.add] using y0
     rw [HFX.out] at u0 u1 u2
     dsimp only at u0 u1 u2
     have x0 : W2.cell? ⟨gx, 0, none⟩ = some (.int .i64 nd.f0) := (blk_cell E2.out.x 0).trans rfl
     have x1 := (blk_cell E2.out.x 1).trans rfl
     have o0 : W2.cell? ⟨go, 0, none⟩ = some (.bool false) := (blk_cell E2.out.o 0).trans rfl
     have z0 : W2.frozen? ⟨go, 0, none⟩ = false := blk_frozen E2.out.o 0
     go_upto_region 47 with (fail)
     have EV0 := Aside0.mk ((E2.out).put0 HLT.out.1 HLT.out.2.1 false)
     generalize W2.setCell ⟨go, 0, none⟩ (.bool false) = V0 at EV0 ⊢
     clear x0 x1 y0 u0 u1 u2 o0 z0
     obtain ⟨ad1, e1, y0⟩ := Kd.at_int (Kd.C_below HCk.out EV0.out.b) 0 (Int.le_refl 0) HQ9.out
     cases e1
     obtain ⟨ad2, e2, u0, u1, u2⟩ := at_T45 (Kd.C_below HC2.out EV0.out.b) (rd nd.f1 0) HQ2.out HQ3.out
     cases e2
     replace y0 : V0.cell? ad1 = some (.int .i64 (rd nd.f1 0)) := by simpa [Addr.add] using y0
     rw [HFX.out] at u0 u1 u2
     dsimp only at u0 u1 u2
     have x0 : V0.cell? ⟨gx, 0, none⟩ = some (.int .i64 nd.f0) := (blk_cell EV0.out.x 0).trans rfl
     have x1 := (blk_cell EV0.out.x 1).trans rfl
     have o1 : V0.cell? ⟨go, 1, none⟩ = some (.bool false) := (blk_cell EV0.out.o 1).trans rfl
     have z1 : V0.frozen? ⟨go, 1, none⟩ = false := blk_frozen EV0.out.o 1
     go_upto_region 48 with (fail)
     have EV1 := Aside0.mk ((EV0.out).put1 HLT.out.1 HLT.out.2.1 f1)
     generalize V0.setCell ⟨go, 1, none⟩ (.bool f1) = V1 at EV1 ⊢
     clear x0 x1 y0 u0 u1 u2 o1 z1
     obtain ⟨ad1, e1, y0⟩ := Kd.at_int (Kd.C_below HCk.out EV1.out.b) 0 (Int.le_refl 0) HQ9.out
     cases e1
     obtain ⟨ad2, e2, u0, u1, u2⟩ := at_T45 (Kd.C_below HC2.out EV1.out.b) (rd nd.f1 0) HQ2.out HQ3.out
     cases e2
     replace y0 : V1.cell? ad1 = some (.int .i64 (rd nd.f1 0)) := by simpa [Addr.add] using y0
     rw [HFX.out] at u0 u1 u2
     dsimp only at u0 u1 u2
     have x0 : V1.cell? ⟨gx, 0, none⟩ = some (.int .i64 nd.f0) := (blk_cell EV1.out.x 0).trans rfl
     have x1 := (blk_cell EV1.out.x 1).trans rfl
     have o2 : V1.cell? ⟨go, 2, none⟩ = some (.bool false) := (blk_cell EV1.out.o 2).trans rfl
     have z2 : V1.frozen? ⟨go, 2, none⟩ = false := blk_frozen EV1.out.o 2
     go_wp2
     go_meet
     exact ⟨_, _, _, ⟨h⟩, ⟨(EV1.out).put2 HLT.out.1 HLT.out.2.1 f2⟩⟩
  case rest =>
   clear x0
   obtain ⟨n, e, f, HE, E3⟩ := hcut
   obtain ⟨rfl, rfl, rfl⟩ : n = r1 ∧ e = r2 ∧ f = r3 := by simpa using HE.out
   have o0 : wc.cell? ⟨go, 0, none⟩ = some (.bool n) := (blk_cell E3.out.o 0).trans rfl
   have r0 : wc.cell? ⟨gr, 0, none⟩ = some (.bool false) := (blk_cell (blk_below HR.out E3.out.b) 0).trans rfl
   have z0 : wc.frozen? ⟨gr, 0, none⟩ = false := blk_frozen (blk_below HR.out E3.out.b) 0
   have o1 : wc.cell? ⟨go, 1, none⟩ = some (.bool e) := (blk_cell E3.out.o 1).trans rfl
   have r1 : wc.cell? ⟨gr, 1, none⟩ = some (.bool false) := (blk_cell (blk_below HR.out E3.out.b) 1).trans rfl
   have z1 : wc.frozen? ⟨gr, 1, none⟩ = false := blk_frozen (blk_below HR.out E3.out.b) 1
   have o2 : wc.cell? ⟨go, 2, none⟩ = some (.bool f) := (blk_cell E3.out.o 2).trans rfl
   have r2 : wc.cell? ⟨gr, 2, none⟩ = some (.bool false) := (blk_cell (blk_below HR.out E3.out.b) 2).trans rfl
   have z2 : wc.frozen? ⟨gr, 2, none⟩ = false := blk_frozen (blk_below HR.out E3.out.b) 2
   go_wp2
   refine bodyPost_ret (results_cell_row rfl _ _ gr 45 #[.bool n, .bool e, .bool f] (0, 0) _ rfl (blk3 (blk_below HR.out E3.out.b) _ _ _) Try.underlying45 rfl (by kernel_rfl)) rfl ⟨rfl, ?_⟩
   exact below3 (below_step HB.out E3.out.b) (by have := HGB.out; have := HGR.out; omega) _ _ _
end Go.Proofs.Ythgedejnpgcacaa.V
namespace Go.Proofs.Ythgedejnpgcacaa.V
open Go.RowKit Go.Proofs.YthgedejnpgcacaaW.PrintWords Go.Proofs.YthgedejnpgcacaaW.PrintLast Go.Proofs.YthgedejnpgcacaaW.PrintMore
set_option linter.unusedVariables false
set_option linter.unusedSimpArgs false
attribute [local go_sem high] eq54h
set_option maxHeartbeats 4000000 in
set_option maxRecDepth 100000 in
theorem vetchref11_Node.calls_s7 (A0_0 : Option Addr) (c0_0 : Nat) (l0_0 : List S51) (A0_1 : Option Addr) (c0_1 : Nat) (l0_1 : List S56) (a1 : Int) (A2 : Option Addr) (c2 : Nat) (l2 : List S45) (r1 r2 r3 : Bool) (w : World)
    (hr0_0 : Kd.C k51 w A0_0 l0_0.length l0_0) (hc0_0 : l0_0.length ≤ c0_0) (hr0_1 : Kd.C k56 w A0_1 l0_1.length l0_1) (hc0_1 : l0_1.length ≤ c0_1) (hr2 : Kd.C k45 w A2 l2.length l2) (hc2 : l2.length ≤ c2)
    (hs : Aside0 ((rd_T56 l0_1 a1).f0 = 7)) (h : vetchref11_Node.f l0_0 l0_1 a1 l2 = some (r1, r2, r3)) :
    Calls Try.prog 31 #[.agg #[.slice A0_0 l0_0.length c0_0, .slice A0_1 l0_1.length c0_1], .int .i64 a1, .slice A2 l2.length c2] w fun e w' => e = .returned (.agg #[.bool r1, .bool r2, .bool r3]) ∧ Below w.heap.size w w' := by
  unfold vetchref11_Node.f at h
  split at h
  case isFalse => exact absurd h (by simp)
  case isTrue hfit =>
  obtain ⟨p2, p3, hfit⟩ := hfit
  have H : Aside0 (vetchref11_Node.p l0_0 l2 (rd_T56 l0_1 a1) = (r1, r2, r3)) := ⟨Option.some.inj h⟩
  have HF := Aside0.mk hfit
  clear h hfit
  have hu25 := Try.underlying25
  have hu45 := Try.underlying45
  have hu56 := Try.underlying56
  have hu51 := Try.underlying51
  have hu54 := Try.underlying54
  have HB := Aside0.mk (below_alloc (below_alloc (Below.refl w.heap.size w) (.cells #[.slice A0_0 l0_0.length c0_0, .slice A0_1 l0_1.length c0_1] 25)) (.cells #[.bool false, .bool false, .bool false] 45))
  have HG := Aside0.mk (blk_alloc (blk_new w (.cells #[.slice A0_0 l0_0.length c0_0, .slice A0_1 l0_1.length c0_1] 25)) (.cells #[.bool false, .bool false, .bool false] 45))
  have HR := Aside0.mk (blk_new (w.alloc (.cells #[.slice A0_0 l0_0.length c0_0, .slice A0_1 l0_1.length c0_1] 25)) (.cells #[.bool false, .bool false, .bool false] 45))
  have hsz : ((w.alloc (.cells #[.slice A0_0 l0_0.length c0_0, .slice A0_1 l0_1.length c0_1] 25)).alloc (.cells #[.bool false, .bool false, .bool false] 45)).heap.size = w.heap.size + 1 + 1 := by rw [hand_size, hand_size]
  rw [hand_size] at HR
  have HC0 := Aside0.mk (Kd.C_below hr0_0 HB.out)
  have HC1 := Aside0.mk (Kd.C_below hr0_1 HB.out)
  have HC2 := Aside0.mk (Kd.C_below hr2 HB.out)
  have HW := Aside0.mk hsz
  clear hr0_0 hr0_1 hr2 hsz
  go_enter Try.func31, Try.ntmps31
  go_upto_region 1 with (fail)
  generalize ((w.alloc (.cells #[.slice A0_0 l0_0.length c0_0, .slice A0_1 l0_1.length c0_1] 25)).alloc (.cells #[.bool false, .bool false, .bool false] 45)) = W1 at HB HG HR HC0 HC1 HC2 HW ⊢
  have g0 : W1.cell? ⟨w.heap.size, 0, none⟩ = some (.slice A0_0 l0_0.length c0_0) := (blk_cell HG.out 0).trans rfl
  have g1 : W1.cell? ⟨w.heap.size, 1, none⟩ = some (.slice A0_1 l0_1.length c0_1) := (blk_cell HG.out 1).trans rfl
  obtain ⟨ad, Ak, ck, e, k0, k1, k2, k3, k4, k5, k6, hlk, hCk⟩ := at_T56 HC1.out a1 p2 p3
  cases e
  have HCk := Aside0.mk hCk
  have HLk := Aside0.mk hlk
  clear hCk hlk HC1
  replace p2 := eq_true p2
  replace p3 := eq_true p3
  go_upto_region 3 with (fail)
  generalize rd_T56 l0_1 a1 = nd at *
  obtain ⟨gx, hgx⟩ : ∃ gx, gx = W1.heap.size := ⟨_, rfl⟩
  obtain ⟨go, hgo⟩ : ∃ go, go = gx + 1 := ⟨_, rfl⟩
  obtain ⟨gb, hgb⟩ : ∃ gb, gb = w.heap.size := ⟨_, rfl⟩
  obtain ⟨gr, hgr⟩ : ∃ gr, gr = gb + 1 := ⟨_, rfl⟩
  rw [← hgb] at HW HG HR
  rw [← hgr] at HR
  have E2 : Aside0 (Env11 W1 gx go #[.int .i64 nd.f0, .slice Ak nd.f1.length ck, .int .i64 nd.f2, .int .u64 nd.f3.f0, .int .u64 nd.f3.f1, .int .u64 nd.f3.f2, .int .u64 nd.f3.f3] ((W1.alloc (.cells #[.int .i64 nd.f0, .slice Ak nd.f1.length ck, .int .i64 nd.f2, .int .u64 nd.f3.f0, .int .u64 nd.f3.f1, .int .u64 nd.f3.f2, .int .u64 nd.f3.f3] 56)).alloc (.cells #[.bool false, .bool false, .bool false] 45)) false false false) := ⟨by rw [hgx]; exact blk_alloc (blk_new W1 (.cells #[.int .i64 nd.f0, .slice Ak nd.f1.length ck, .int .i64 nd.f2, .int .u64 nd.f3.f0, .int .u64 nd.f3.f1, .int .u64 nd.f3.f2, .int .u64 nd.f3.f3] 56)) (.cells #[.bool false, .bool false, .bool false] 45), by rw [hgo, hgx]; have := blk_new (W1.alloc (.cells #[.int .i64 nd.f0, .slice Ak nd.f1.length ck, .int .i64 nd.f2, .int .u64 nd.f3.f0, .int .u64 nd.f3.f1, .int .u64 nd.f3.f2, .int .u64 nd.f3.f3] 56)) (.cells #[.bool false, .bool false, .bool false] 45); rw [hand_size] at this; exact this, below_alloc (below_alloc (Below.refl _ _) _) _⟩
  have HLT := Aside0.mk (show W1.heap.size ≤ go ∧ gx ≠ go ∧ gb < W1.heap.size ∧ gr < W1.heap.size ∧ gr ≠ go by have := HW.out; omega)
  have HGB := Aside0.mk hgb
  have HGR := Aside0.mk hgr
  rw [← hgx, ← hgb, ← hgr, ← hgo]
  generalize (W1.alloc (.cells #[.int .i64 nd.f0, .slice Ak nd.f1.length ck, .int .i64 nd.f2, .int .u64 nd.f3.f0, .int .u64 nd.f3.f1, .int .u64 nd.f3.f2, .int .u64 nd.f3.f3] 56)).alloc (.cells #[.bool false, .bool false, .bool false] 45) = W2 at E2 ⊢
  clear k0 k1 k2 k3 k4 k5 k6 g0 g1 HW hgx hgo hgb hgr
  have x0 := (blk_cell E2.out.x 0).trans rfl
  go_upto_block 0 with fail
  go_cut [] (fun wc => ∃ n e f, Aside0 ((n, e, f) = (r1, r2, r3)) ∧ Aside0 (Env11 W1 gx go #[.int .i64 nd.f0, .slice Ak nd.f1.length ck, .int .i64 nd.f2, .int .u64 nd.f3.f0, .int .u64 nd.f3.f1, .int .u64 nd.f3.f2, .int .u64 nd.f3.f3] wc n e f))
  case first =>
   clear x0
   have h := H.out
   clear H
   unfold vetchref11_Node.p at h
   have c0 : ¬ nd.f0 = 0 := by have := hs.out; omega
   rw [if_neg c0] at h
   have b0 : (nd.f0 == 0) = false := beq_eq_false_iff_ne.2 c0
   go_upto_region 6 with (fail)
   clear b0
   have c1 : ¬ nd.f0 = 1 := by have := hs.out; omega
   rw [if_neg c1] at h
   have b1 : (nd.f0 == 1) = false := beq_eq_false_iff_ne.2 c1
   go_upto_region 9 with (fail)
   clear b1
   have c2 : ¬ nd.f0 = 2 := by have := hs.out; omega
   rw [if_neg c2] at h
   have b2 : (nd.f0 == 2) = false := beq_eq_false_iff_ne.2 c2
   go_upto_region 11 with (fail)
   clear b2
   have c3 : ¬ nd.f0 = 3 := by have := hs.out; omega
   rw [if_neg c3] at h
   have b3 : (nd.f0 == 3) = false := beq_eq_false_iff_ne.2 c3
   go_upto_region 28 with (fail)
   clear b3
   have c4 : ¬ nd.f0 = 4 := by have := hs.out; omega
   rw [if_neg c4] at h
   have b4 : (nd.f0 == 4) = false := beq_eq_false_iff_ne.2 c4
   go_upto_region 42 with (fail)
   clear b4
   have c5 : ¬ nd.f0 = 5 := by have := hs.out; omega
   rw [if_neg c5] at h
   have b5 : (nd.f0 == 5) = false := beq_eq_false_iff_ne.2 c5
   go_upto_region 45 with (fail)
   clear b5
   have c6 : ¬ nd.f0 = 6 := by have := hs.out; omega
   rw [if_neg c6] at h
   have b6 : (nd.f0 == 6) = false := beq_eq_false_iff_ne.2 c6
   go_upto_region 49 with (fail)
   clear b6
   have c7 : nd.f0 = 7 := by have := hs.out; omega
   rw [if_pos c7] at h
   have b7 : (nd.f0 == 7) = true := beq_iff_eq.2 c7
   have q9 : (0 : Int) < (nd.f1.length : Int) := by have := List.length_pos_iff.2 (HF.out.2.1 (by omega) (by omega)); omega
   obtain ⟨q2, q3⟩ := HF.out.1 (rd nd.f1 0) (rd_memh nd.f1 0 (Int.le_refl 0) q9)
   clear c0 c1 c2 c3 c4 c5 c6 c7
   have HQ2 := Aside0.mk q2
   replace q2 := eq_true q2
   have HQ3 := Aside0.mk q3
   replace q3 := eq_true q3
   have HQ9 := Aside0.mk q9
   replace q9 := eq_true q9
   have q9n : (0 < nd.f1.length) = True := eq_true (by have := HQ9.out; omega)
   obtain ⟨f0, f1, f2, hfx⟩ : ∃ f0 f1 f2, rd_T45 l2 (rd nd.f1 0) = ⟨f0, f1, f2⟩ := ⟨_, _, _, rfl⟩
   rw [hfx] at h
   dsimp only at h
   have HFX := Aside0.mk hfx
   clear hfx
   cases f0 with
   | true =>
     obtain ⟨ad1, e1, y0⟩ := Kd.at_int (Kd.C_below HCk.out E2.out.b) 0 (Int.le_refl 0) HQ9.out
     cases e1
     obtain ⟨ad2, e2, u0, u1, u2⟩ := at_T45 (Kd.C_below HC2.out E2.out.b) (rd nd.f1 0) HQ2.out HQ3.out
     cases e2
     replace y0 : W2.cell? ad1 = some (.int .i64 (rd nd.f1 0)) := by simpa [Addr.add] using y0
     rw [HFX.out] at u0 u1 u2
     dsimp only at u0 u1 u2
     have x0 : W2.cell? ⟨gx, 0, none⟩ = some (.int .i64 nd.f0) := (blk_cell E2.out.x 0).trans rfl
     have x1 := (blk_cell E2.out.x 1).trans rfl
     have o0 : W2.cell? ⟨go, 0, none⟩ = some (.bool false) := (blk_cell E2.out.o 0).trans rfl
     have z0 : W2.frozen? ⟨go, 0, none⟩ = false := blk_frozen E2.out.o 0
     go_upto_region 51 with (fail)
     have EV0 := Aside0.mk ((E2.out).put0 HLT.out.1 HLT.out.2.1 true)
     generalize W2.setCell ⟨go, 0, none⟩ (.bool true) = V0 at EV0 ⊢
     clear x0 x1 y0 u0 u1 u2 o0 z0
     obtain ⟨ad1, e1, y0⟩ := Kd.at_int (Kd.C_below HCk.out EV0.out.b) 0 (Int.le_refl 0) HQ9.out
     cases e1
     obtain ⟨ad2, e2, u0, u1, u2⟩ := at_T45 (Kd.C_below HC2.out EV0.out.b) (rd nd.f1 0) HQ2.out HQ3.out
     cases e2
     replace y0 : V0.cell? ad1 = some (.int .i64 (rd nd.f1 0)) := by simpa [Addr.add] using y0
     rw [HFX.out] at u0 u1 u2
     dsimp only at u0 u1 u2
     have x0 : V0.cell? ⟨gx, 0, none⟩ = some (.int .i64 nd.f0) := (blk_cell EV0.out.x 0).trans rfl
     have x1 := (blk_cell EV0.out.x 1).trans rfl
     have o1 : V0.cell? ⟨go, 1, none⟩ = some (.bool false) := (blk_cell EV0.out.o 1).trans rfl
     have z1 : V0.frozen? ⟨go, 1, none⟩ = false := blk_frozen EV0.out.o 1
     go_wp2
     go_meet
     exact ⟨_, _, _, ⟨h⟩, ⟨(EV0.out).put1 HLT.out.1 HLT.out.2.1 f1⟩⟩
   | false =>
     obtain ⟨ad1, e1, y0⟩ := Kd.at_int (Kd.C_below HCk.out E2.out.b) 0 (Int.le_refl 0) HQ9.out
     cases e1
     obtain ⟨ad2, e2, u0, u1, u2⟩ := at_T45 (Kd.C_below HC2.out E2.out.b) (rd nd.f1 0) HQ2.out HQ3.out
     cases e2
     replace y0 : W2.cell? ad1 = some (.int .i64 (rd nd.f1 0)) := by simpa [Addr.add] using y0
     rw [HFX.out] at u0 u1 u2
     dsimp only at u0 u1 u2
     have x0 : W2.cell? ⟨gx, 0, none⟩ = some (.int .i64 nd.f0) := (blk_cell E2.out.x 0).trans rfl
     have x1 := (blk_cell E2.out.x 1).trans rfl
     have o0 : W2.cell? ⟨go, 0, none⟩ = some (.bool false) := (blk_cell E2.out.o 0).trans rfl
     have z0 : W2.frozen? ⟨go, 0, none⟩ = false := blk_frozen E2.out.o 0
     go_upto_region 51 with (fail)
     have EV0 := Aside0.mk ((E2.out).put0 HLT.out.1 HLT.out.2.1 f2)
     generalize W2.setCell ⟨go, 0, none⟩ (.bool f2) = V0 at EV0 ⊢
     clear x0 x1 y0 u0 u1 u2 o0 z0
     obtain ⟨ad1, e1, y0⟩ := Kd.at_int (Kd.C_below HCk.out EV0.out.b) 0 (Int.le_refl 0) HQ9.out
     cases e1
     obtain ⟨ad2, e2, u0, u1, u2⟩ := at_T45 (Kd.C_below HC2.out EV0.out.b) (rd nd.f1 0) HQ2.out HQ3.out
     cases e2
     replace y0 : V0.cell? ad1 = some (.int .i64 (rd nd.f1 0)) := by simpa [Addr.add] using y0
     rw [HFX.out] at u0 u1 u2
     dsimp only at u0 u1 u2
     have x0 : V0.cell? ⟨gx, 0, none⟩ = some (.int .i64 nd.f0) := (blk_cell EV0.out.x 0).trans rfl
     have x1 := (blk_cell EV0.out.x 1).trans rfl
     have o1 : V0.cell? ⟨go, 1, none⟩ = some (.bool false) := (blk_cell EV0.out.o 1).trans rfl
     have z1 : V0.frozen? ⟨go, 1, none⟩ = false := blk_frozen EV0.out.o 1
     go_wp2
     go_meet
     exact ⟨_, _, _, ⟨h⟩, ⟨(EV0.out).put1 HLT.out.1 HLT.out.2.1 f1⟩⟩
  case rest =>
   clear x0
   obtain ⟨n, e, f, HE, E3⟩ := hcut
   obtain ⟨rfl, rfl, rfl⟩ : n = r1 ∧ e = r2 ∧ f = r3 := by simpa using HE.out
   have o0 : wc.cell? ⟨go, 0, none⟩ = some (.bool n) := (blk_cell E3.out.o 0).trans rfl
   have r0 : wc.cell? ⟨gr, 0, none⟩ = some (.bool false) := (blk_cell (blk_below HR.out E3.out.b) 0).trans rfl
   have z0 : wc.frozen? ⟨gr, 0, none⟩ = false := blk_frozen (blk_below HR.out E3.out.b) 0
   have o1 : wc.cell? ⟨go, 1, none⟩ = some (.bool e) := (blk_cell E3.out.o 1).trans rfl
   have r1 : wc.cell? ⟨gr, 1, none⟩ = some (.bool false) := (blk_cell (blk_below HR.out E3.out.b) 1).trans rfl
   have z1 : wc.frozen? ⟨gr, 1, none⟩ = false := blk_frozen (blk_below HR.out E3.out.b) 1
   have o2 : wc.cell? ⟨go, 2, none⟩ = some (.bool f) := (blk_cell E3.out.o 2).trans rfl
   have r2 : wc.cell? ⟨gr, 2, none⟩ = some (.bool false) := (blk_cell (blk_below HR.out E3.out.b) 2).trans rfl
   have z2 : wc.frozen? ⟨gr, 2, none⟩ = false := blk_frozen (blk_below HR.out E3.out.b) 2
   go_wp2
   refine bodyPost_ret (results_cell_row rfl _ _ gr 45 #[.bool n, .bool e, .bool f] (0, 0) _ rfl (blk3 (blk_below HR.out E3.out.b) _ _ _) Try.underlying45 rfl (by kernel_rfl)) rfl ⟨rfl, ?_⟩
   exact below3 (below_step HB.out E3.out.b) (by have := HGB.out; have := HGR.out; omega) _ _ _
end Go.Proofs.Ythgedejnpgcacaa.V
namespace Go.Proofs.Ythgedejnpgcacaa.V
open Go.RowKit Go.Proofs.YthgedejnpgcacaaW.PrintWords Go.Proofs.YthgedejnpgcacaaW.PrintLast Go.Proofs.YthgedejnpgcacaaW.PrintMore
set_option linter.unusedVariables false
set_option linter.unusedSimpArgs false
attribute [local go_sem high] eq54h
set_option maxHeartbeats 4000000 in
set_option maxRecDepth 100000 in
theorem vetchref11_Node.calls_s8 (A0_0 : Option Addr) (c0_0 : Nat) (l0_0 : List S51) (A0_1 : Option Addr) (c0_1 : Nat) (l0_1 : List S56) (a1 : Int) (A2 : Option Addr) (c2 : Nat) (l2 : List S45) (r1 r2 r3 : Bool) (w : World)
    (hr0_0 : Kd.C k51 w A0_0 l0_0.length l0_0) (hc0_0 : l0_0.length ≤ c0_0) (hr0_1 : Kd.C k56 w A0_1 l0_1.length l0_1) (hc0_1 : l0_1.length ≤ c0_1) (hr2 : Kd.C k45 w A2 l2.length l2) (hc2 : l2.length ≤ c2)
    (hs : Aside0 ((rd_T56 l0_1 a1).f0 = 8)) (h : vetchref11_Node.f l0_0 l0_1 a1 l2 = some (r1, r2, r3)) :
    Calls Try.prog 31 #[.agg #[.slice A0_0 l0_0.length c0_0, .slice A0_1 l0_1.length c0_1], .int .i64 a1, .slice A2 l2.length c2] w fun e w' => e = .returned (.agg #[.bool r1, .bool r2, .bool r3]) ∧ Below w.heap.size w w' := by
  unfold vetchref11_Node.f at h
  split at h
  case isFalse => exact absurd h (by simp)
  case isTrue hfit =>
  obtain ⟨p2, p3, hfit⟩ := hfit
  have H : Aside0 (vetchref11_Node.p l0_0 l2 (rd_T56 l0_1 a1) = (r1, r2, r3)) := ⟨Option.some.inj h⟩
  have HF := Aside0.mk hfit
  clear h hfit
  have hu25 := Try.underlying25
  have hu45 := Try.underlying45
  have hu56 := Try.underlying56
  have hu51 := Try.underlying51
  have hu54 := Try.underlying54
  have HB := Aside0.mk (below_alloc (below_alloc (Below.refl w.heap.size w) (.cells #[.slice A0_0 l0_0.length c0_0, .slice A0_1 l0_1.length c0_1] 25)) (.cells #[.bool false, .bool false, .bool false] 45))
  have HG := Aside0.mk (blk_alloc (blk_new w (.cells #[.slice A0_0 l0_0.length c0_0, .slice A0_1 l0_1.length c0_1] 25)) (.cells #[.bool false, .bool false, .bool false] 45))
  have HR := Aside0.mk (blk_new (w.alloc (.cells #[.slice A0_0 l0_0.length c0_0, .slice A0_1 l0_1.length c0_1] 25)) (.cells #[.bool false, .bool false, .bool false] 45))
  have hsz : ((w.alloc (.cells #[.slice A0_0 l0_0.length c0_0, .slice A0_1 l0_1.length c0_1] 25)).alloc (.cells #[.bool false, .bool false, .bool false] 45)).heap.size = w.heap.size + 1 + 1 := by rw [hand_size, hand_size]
  rw [hand_size] at HR
  have HC0 := Aside0.mk (Kd.C_below hr0_0 HB.out)
  have HC1 := Aside0.mk (Kd.C_below hr0_1 HB.out)
  have HC2 := Aside0.mk (Kd.C_below hr2 HB.out)
  have HW := Aside0.mk hsz
  clear hr0_0 hr0_1 hr2 hsz
  go_enter Try.func31, Try.ntmps31
  go_upto_region 1 with (fail)
  generalize ((w.alloc (.cells #[.slice A0_0 l0_0.length c0_0, .slice A0_1 l0_1.length c0_1] 25)).alloc (.cells #[.bool false, .bool false, .bool false] 45)) = W1 at HB HG HR HC0 HC1 HC2 HW ⊢
  have g0 : W1.cell? ⟨w.heap.size, 0, none⟩ = some (.slice A0_0 l0_0.length c0_0) := (blk_cell HG.out 0).trans rfl
  have g1 : W1.cell? ⟨w.heap.size, 1, none⟩ = some (.slice A0_1 l0_1.length c0_1) := (blk_cell HG.out 1).trans rfl
  obtain ⟨ad, Ak, ck, e, k0, k1, k2, k3, k4, k5, k6, hlk, hCk⟩ := at_T56 HC1.out a1 p2 p3
  cases e
  have HCk := Aside0.mk hCk
  have HLk := Aside0.mk hlk
  clear hCk hlk HC1
  replace p2 := eq_true p2
  replace p3 := eq_true p3
  go_upto_region 3 with (fail)
  generalize rd_T56 l0_1 a1 = nd at *
  obtain ⟨gx, hgx⟩ : ∃ gx, gx = W1.heap.size := ⟨_, rfl⟩
  obtain ⟨go, hgo⟩ : ∃ go, go = gx + 1 := ⟨_, rfl⟩
  obtain ⟨gb, hgb⟩ : ∃ gb, gb = w.heap.size := ⟨_, rfl⟩
  obtain ⟨gr, hgr⟩ : ∃ gr, gr = gb + 1 := ⟨_, rfl⟩
  rw [← hgb] at HW HG HR
  rw [← hgr] at HR
  have E2 : Aside0 (Env11 W1 gx go #[.int .i64 nd.f0, .slice Ak nd.f1.length ck, .int .i64 nd.f2, .int .u64 nd.f3.f0, .int .u64 nd.f3.f1, .int .u64 nd.f3.f2, .int .u64 nd.f3.f3] ((W1.alloc (.cells #[.int .i64 nd.f0, .slice Ak nd.f1.length ck, .int .i64 nd.f2, .int .u64 nd.f3.f0, .int .u64 nd.f3.f1, .int .u64 nd.f3.f2, .int .u64 nd.f3.f3] 56)).alloc (.cells #[.bool false, .bool false, .bool false] 45)) false false false) := ⟨by rw [hgx]; exact blk_alloc (blk_new W1 (.cells #[.int .i64 nd.f0, .slice Ak nd.f1.length ck, .int .i64 nd.f2, .int .u64 nd.f3.f0, .int .u64 nd.f3.f1, .int .u64 nd.f3.f2, .int .u64 nd.f3.f3] 56)) (.cells #[.bool false, .bool false, .bool false] 45), by rw [hgo, hgx]; have := blk_new (W1.alloc (.cells #[.int .i64 nd.f0, .slice Ak nd.f1.length ck, .int .i64 nd.f2, .int .u64 nd.f3.f0, .int .u64 nd.f3.f1, .int .u64 nd.f3.f2, .int .u64 nd.f3.f3] 56)) (.cells #[.bool false, .bool false, .bool false] 45); rw [hand_size] at this; exact this, below_alloc (below_alloc (Below.refl _ _) _) _⟩
  have HLT := Aside0.mk (show W1.heap.size ≤ go ∧ gx ≠ go ∧ gb < W1.heap.size ∧ gr < W1.heap.size ∧ gr ≠ go by have := HW.out; omega)
  have HGB := Aside0.mk hgb
  have HGR := Aside0.mk hgr
  rw [← hgx, ← hgb, ← hgr, ← hgo]
  generalize (W1.alloc (.cells #[.int .i64 nd.f0, .slice Ak nd.f1.length ck, .int .i64 nd.f2, .int .u64 nd.f3.f0, .int .u64 nd.f3.f1, .int .u64 nd.f3.f2, .int .u64 nd.f3.f3] 56)).alloc (.cells #[.bool false, .bool false, .bool false] 45) = W2 at E2 ⊢
  clear k0 k1 k2 k3 k4 k5 k6 g0 g1 HW hgx hgo hgb hgr
  have x0 := (blk_cell E2.out.x 0).trans rfl
  go_upto_block 0 with fail
  go_cut [] (fun wc => ∃ n e f, Aside0 ((n, e, f) = (r1, r2, r3)) ∧ Aside0 (Env11 W1 gx go #[.int .i64 nd.f0, .slice Ak nd.f1.length ck, .int .i64 nd.f2, .int .u64 nd.f3.f0, .int .u64 nd.f3.f1, .int .u64 nd.f3.f2, .int .u64 nd.f3.f3] wc n e f))
  case first =>
   clear x0
   have h := H.out
   clear H
   unfold vetchref11_Node.p at h
   have c0 : ¬ nd.f0 = 0 := by have := hs.out; omega
   rw [if_neg c0] at h
   have b0 : (nd.f0 == 0) = false := beq_eq_false_iff_ne.2 c0
   go_upto_region 6 with (fail)
   clear b0
   have c1 : ¬ nd.f0 = 1 := by have := hs.out; omega
   rw [if_neg c1] at h
   have b1 : (nd.f0 == 1) = false := beq_eq_false_iff_ne.2 c1
   go_upto_region 9 with (fail)
   clear b1
   have c2 : ¬ nd.f0 = 2 := by have := hs.out; omega
   rw [if_neg c2] at h
   have b2 : (nd.f0 == 2) = false := beq_eq_false_iff_ne.2 c2
   go_upto_region 11 with (fail)
   clear b2
   have c3 : ¬ nd.f0 = 3 := by have := hs.out; omega
   rw [if_neg c3] at h
   have b3 : (nd.f0 == 3) = false := beq_eq_false_iff_ne.2 c3
   go_upto_region 28 with (fail)
   clear b3
   have c4 : ¬ nd.f0 = 4 := by have := hs.out; omega
   rw [if_neg c4] at h
   have b4 : (nd.f0 == 4) = false := beq_eq_false_iff_ne.2 c4
   go_upto_region 42 with (fail)
   clear b4
   have c5 : ¬ nd.f0 = 5 := by have := hs.out; omega
   rw [if_neg c5] at h
   have b5 : (nd.f0 == 5) = false := beq_eq_false_iff_ne.2 c5
   go_upto_region 45 with (fail)
   clear b5
   have c6 : ¬ nd.f0 = 6 := by have := hs.out; omega
   rw [if_neg c6] at h
   have b6 : (nd.f0 == 6) = false := beq_eq_false_iff_ne.2 c6
   go_upto_region 49 with (fail)
   clear b6
   have c7 : ¬ nd.f0 = 7 := by have := hs.out; omega
   rw [if_neg c7] at h
   have b7 : (nd.f0 == 7) = false := beq_eq_false_iff_ne.2 c7
   go_upto_region 52 with (fail)
   clear b7
   have c8 : nd.f0 = 8 := by have := hs.out; omega
   rw [if_pos c8] at h
   have b8 : (nd.f0 == 8) = true := beq_iff_eq.2 c8
   have q9 : (0 : Int) < (nd.f1.length : Int) := by have := List.length_pos_iff.2 (HF.out.2.1 (by omega) (by omega)); omega
   obtain ⟨q2, q3⟩ := HF.out.1 (rd nd.f1 0) (rd_memh nd.f1 0 (Int.le_refl 0) q9)
   clear c0 c1 c2 c3 c4 c5 c6 c7 c8
   have HQ2 := Aside0.mk q2
   replace q2 := eq_true q2
   have HQ3 := Aside0.mk q3
   replace q3 := eq_true q3
   have HQ9 := Aside0.mk q9
   replace q9 := eq_true q9
   have q9n : (0 < nd.f1.length) = True := eq_true (by have := HQ9.out; omega)
   obtain ⟨f0, f1, f2, hfx⟩ : ∃ f0 f1 f2, rd_T45 l2 (rd nd.f1 0) = ⟨f0, f1, f2⟩ := ⟨_, _, _, rfl⟩
   rw [hfx] at h
   dsimp only at h
   have HFX := Aside0.mk hfx
   clear hfx
   obtain ⟨ad1, e1, y0⟩ := Kd.at_int (Kd.C_below HCk.out E2.out.b) 0 (Int.le_refl 0) HQ9.out
   cases e1
   obtain ⟨ad2, e2, u0, u1, u2⟩ := at_T45 (Kd.C_below HC2.out E2.out.b) (rd nd.f1 0) HQ2.out HQ3.out
   cases e2
   replace y0 : W2.cell? ad1 = some (.int .i64 (rd nd.f1 0)) := by simpa [Addr.add] using y0
   rw [HFX.out] at u0 u1 u2
   dsimp only at u0 u1 u2
   have x0 : W2.cell? ⟨gx, 0, none⟩ = some (.int .i64 nd.f0) := (blk_cell E2.out.x 0).trans rfl
   have x1 := (blk_cell E2.out.x 1).trans rfl
   have o0 : W2.cell? ⟨go, 0, none⟩ = some (.bool false) := (blk_cell E2.out.o 0).trans rfl
   have z0 : W2.frozen? ⟨go, 0, none⟩ = false := blk_frozen E2.out.o 0
   go_upto_region 54 with (
     go_at_call 35
     refine (vetchref11_ok.calls f0 f1 f2 (f0 || f1) _ (by cases f0 <;> rfl)).mono ?_
     rintro e_ V0 ⟨rfl, hb_⟩
     have EV0 := Aside0.mk (E2.out.below hb_)
     clear hb_ x0 x1 y0 u0 u1 u2 o0 z0
     have o0 : V0.cell? ⟨go, 0, none⟩ = some (.bool false) := (blk_cell EV0.out.o 0).trans rfl
     have z0 : V0.frozen? ⟨go, 0, none⟩ = false := blk_frozen EV0.out.o 0)
   have EV1 := Aside0.mk ((EV0.out).put0 HLT.out.1 HLT.out.2.1 (f0 || f1))
   generalize V0.setCell ⟨go, 0, none⟩ (.bool (f0 || f1)) = V1 at EV1 ⊢
   clear o0 z0
   obtain ⟨ad1, e1, y0⟩ := Kd.at_int (Kd.C_below HCk.out EV1.out.b) 0 (Int.le_refl 0) HQ9.out
   cases e1
   obtain ⟨ad2, e2, u0, u1, u2⟩ := at_T45 (Kd.C_below HC2.out EV1.out.b) (rd nd.f1 0) HQ2.out HQ3.out
   cases e2
   replace y0 : V1.cell? ad1 = some (.int .i64 (rd nd.f1 0)) := by simpa [Addr.add] using y0
   rw [HFX.out] at u0 u1 u2
   dsimp only at u0 u1 u2
   have x0 : V1.cell? ⟨gx, 0, none⟩ = some (.int .i64 nd.f0) := (blk_cell EV1.out.x 0).trans rfl
   have x1 := (blk_cell EV1.out.x 1).trans rfl
   have o2 : V1.cell? ⟨go, 2, none⟩ = some (.bool false) := (blk_cell EV1.out.o 2).trans rfl
   have z2 : V1.frozen? ⟨go, 2, none⟩ = false := blk_frozen EV1.out.o 2
   go_wp2
   go_meet
   exact ⟨_, _, _, ⟨h⟩, ⟨(EV1.out).put2 HLT.out.1 HLT.out.2.1 f2⟩⟩
  case rest =>
   clear x0
   obtain ⟨n, e, f, HE, E3⟩ := hcut
   obtain ⟨rfl, rfl, rfl⟩ : n = r1 ∧ e = r2 ∧ f = r3 := by simpa using HE.out
   have o0 : wc.cell? ⟨go, 0, none⟩ = some (.bool n) := (blk_cell E3.out.o 0).trans rfl
   have r0 : wc.cell? ⟨gr, 0, none⟩ = some (.bool false) := (blk_cell (blk_below HR.out E3.out.b) 0).trans rfl
   have z0 : wc.frozen? ⟨gr, 0, none⟩ = false := blk_frozen (blk_below HR.out E3.out.b) 0
   have o1 : wc.cell? ⟨go, 1, none⟩ = some (.bool e) := (blk_cell E3.out.o 1).trans rfl
   have r1 : wc.cell? ⟨gr, 1, none⟩ = some (.bool false) := (blk_cell (blk_below HR.out E3.out.b) 1).trans rfl
   have z1 : wc.frozen? ⟨gr, 1, none⟩ = false := blk_frozen (blk_below HR.out E3.out.b) 1
   have o2 : wc.cell? ⟨go, 2, none⟩ = some (.bool f) := (blk_cell E3.out.o 2).trans rfl
   have r2 : wc.cell? ⟨gr, 2, none⟩ = some (.bool false) := (blk_cell (blk_below HR.out E3.out.b) 2).trans rfl
   have z2 : wc.frozen? ⟨gr, 2, none⟩ = false := blk_frozen (blk_below HR.out E3.out.b) 2
   go_wp2
   refine bodyPost_ret (results_cell_row rfl _ _ gr 45 #[.bool n, .bool e, .bool f] (0, 0) _ rfl (blk3 (blk_below HR.out E3.out.b) _ _ _) Try.underlying45 rfl (by kernel_rfl)) rfl ⟨rfl, ?_⟩
   exact below3 (below_step HB.out E3.out.b) (by have := HGB.out; have := HGR.out; omega) _ _ _
end Go.Proofs.Ythgedejnpgcacaa.V
namespace Go.Proofs.Ythgedejnpgcacaa.V
open Go.RowKit Go.Proofs.YthgedejnpgcacaaW.PrintWords Go.Proofs.YthgedejnpgcacaaW.PrintLast Go.Proofs.YthgedejnpgcacaaW.PrintMore
set_option linter.unusedVariables false
set_option linter.unusedSimpArgs false
attribute [local go_sem high] eq54h
set_option maxHeartbeats 4000000 in
set_option maxRecDepth 100000 in
theorem vetchref11_Node.calls_s9 (A0_0 : Option Addr) (c0_0 : Nat) (l0_0 : List S51) (A0_1 : Option Addr) (c0_1 : Nat) (l0_1 : List S56) (a1 : Int) (A2 : Option Addr) (c2 : Nat) (l2 : List S45) (r1 r2 r3 : Bool) (w : World)
    (hr0_0 : Kd.C k51 w A0_0 l0_0.length l0_0) (hc0_0 : l0_0.length ≤ c0_0) (hr0_1 : Kd.C k56 w A0_1 l0_1.length l0_1) (hc0_1 : l0_1.length ≤ c0_1) (hr2 : Kd.C k45 w A2 l2.length l2) (hc2 : l2.length ≤ c2)
    (hs : Aside0 ((rd_T56 l0_1 a1).f0 = 9)) (h : vetchref11_Node.f l0_0 l0_1 a1 l2 = some (r1, r2, r3)) :
    Calls Try.prog 31 #[.agg #[.slice A0_0 l0_0.length c0_0, .slice A0_1 l0_1.length c0_1], .int .i64 a1, .slice A2 l2.length c2] w fun e w' => e = .returned (.agg #[.bool r1, .bool r2, .bool r3]) ∧ Below w.heap.size w w' := by
  unfold vetchref11_Node.f at h
  split at h
  case isFalse => exact absurd h (by simp)
  case isTrue hfit =>
  obtain ⟨p2, p3, hfit⟩ := hfit
  have H : Aside0 (vetchref11_Node.p l0_0 l2 (rd_T56 l0_1 a1) = (r1, r2, r3)) := ⟨Option.some.inj h⟩
  have HF := Aside0.mk hfit
  clear h hfit
  have hu25 := Try.underlying25
  have hu45 := Try.underlying45
  have hu56 := Try.underlying56
  have hu51 := Try.underlying51
  have hu54 := Try.underlying54
  have HB := Aside0.mk (below_alloc (below_alloc (Below.refl w.heap.size w) (.cells #[.slice A0_0 l0_0.length c0_0, .slice A0_1 l0_1.length c0_1] 25)) (.cells #[.bool false, .bool false, .bool false] 45))
  have HG := Aside0.mk (blk_alloc (blk_new w (.cells #[.slice A0_0 l0_0.length c0_0, .slice A0_1 l0_1.length c0_1] 25)) (.cells #[.bool false, .bool false, .bool false] 45))
  have HR := Aside0.mk (blk_new (w.alloc (.cells #[.slice A0_0 l0_0.length c0_0, .slice A0_1 l0_1.length c0_1] 25)) (.cells #[.bool false, .bool false, .bool false] 45))
  have hsz : ((w.alloc (.cells #[.slice A0_0 l0_0.length c0_0, .slice A0_1 l0_1.length c0_1] 25)).alloc (.cells #[.bool false, .bool false, .bool false] 45)).heap.size = w.heap.size + 1 + 1 := by rw [hand_size, hand_size]
  rw [hand_size] at HR
  have HC0 := Aside0.mk (Kd.C_below hr0_0 HB.out)
  have HC1 := Aside0.mk (Kd.C_below hr0_1 HB.out)
  have HC2 := Aside0.mk (Kd.C_below hr2 HB.out)
  have HW := Aside0.mk hsz
  clear hr0_0 hr0_1 hr2 hsz
  go_enter Try.func31, Try.ntmps31
  go_upto_region 1 with (fail)
  generalize ((w.alloc (.cells #[.slice A0_0 l0_0.length c0_0, .slice A0_1 l0_1.length c0_1] 25)).alloc (.cells #[.bool false, .bool false, .bool false] 45)) = W1 at HB HG HR HC0 HC1 HC2 HW ⊢
  have g0 : W1.cell? ⟨w.heap.size, 0, none⟩ = some (.slice A0_0 l0_0.length c0_0) := (blk_cell HG.out 0).trans rfl
  have g1 : W1.cell? ⟨w.heap.size, 1, none⟩ = some (.slice A0_1 l0_1.length c0_1) := (blk_cell HG.out 1).trans rfl
  obtain ⟨ad, Ak, ck, e, k0, k1, k2, k3, k4, k5, k6, hlk, hCk⟩ := at_T56 HC1.out a1 p2 p3
  cases e
  have HCk := Aside0.mk hCk
  have HLk := Aside0.mk hlk
  clear hCk hlk HC1
  replace p2 := eq_true p2
  replace p3 := eq_true p3
  go_upto_region 3 with (fail)
  generalize rd_T56 l0_1 a1 = nd at *
  obtain ⟨gx, hgx⟩ : ∃ gx, gx = W1.heap.size := ⟨_, rfl⟩
  obtain ⟨go, hgo⟩ : ∃ go, go = gx + 1 := ⟨_, rfl⟩
  obtain ⟨gb, hgb⟩ : ∃ gb, gb = w.heap.size := ⟨_, rfl⟩
  obtain ⟨gr, hgr⟩ : ∃ gr, gr = gb + 1 := ⟨_, rfl⟩
  rw [← hgb] at HW HG HR
  rw [← hgr] at HR
  have E2 : Aside0 (Env11 W1 gx go #[.int .i64 nd.f0, .slice Ak nd.f1.length ck, .int .i64 nd.f2, .int .u64 nd.f3.f0, .int .u64 nd.f3.f1, .int .u64 nd.f3.f2, .int .u64 nd.f3.f3] ((W1.alloc (.cells #[.int .i64 nd.f0, .slice Ak nd.f1.length ck, .int .i64 nd.f2, .int .u64 nd.f3.f0, .int .u64 nd.f3.f1, .int .u64 nd.f3.f2, .int .u64 nd.f3.f3] 56)).alloc (.cells #[.bool false, .bool false, .bool false] 45)) false false false) := ⟨by rw [hgx]; exact blk_alloc (blk_new W1 (.cells #[.int .i64 nd.f0, .slice Ak nd.f1.length ck, .int .i64 nd.f2, .int .u64 nd.f3.f0, .int .u64 nd.f3.f1, .int .u64 nd.f3.f2, .int .u64 nd.f3.f3] 56)) (.cells #[.bool false, .bool false, .bool false] 45), by rw [hgo, hgx]; have := blk_new (W1.alloc (.cells #[.int .i64 nd.f0, .slice Ak nd.f1.length ck, .int .i64 nd.f2, .int .u64 nd.f3.f0, .int .u64 nd.f3.f1, .int .u64 nd.f3.f2, .int .u64 nd.f3.f3] 56)) (.cells #[.bool false, .bool false, .bool false] 45); rw [hand_size] at this; exact this, below_alloc (below_alloc (Below.refl _ _) _) _⟩
  have HLT := Aside0.mk (show W1.heap.size ≤ go ∧ gx ≠ go ∧ gb < W1.heap.size ∧ gr < W1.heap.size ∧ gr ≠ go by have := HW.out; omega)
  have HGB := Aside0.mk hgb
  have HGR := Aside0.mk hgr
  rw [← hgx, ← hgb, ← hgr, ← hgo]
  generalize (W1.alloc (.cells #[.int .i64 nd.f0, .slice Ak nd.f1.length ck, .int .i64 nd.f2, .int .u64 nd.f3.f0, .int .u64 nd.f3.f1, .int .u64 nd.f3.f2, .int .u64 nd.f3.f3] 56)).alloc (.cells #[.bool false, .bool false, .bool false] 45) = W2 at E2 ⊢
  clear k0 k1 k2 k3 k4 k5 k6 g0 g1 HW hgx hgo hgb hgr
  have x0 := (blk_cell E2.out.x 0).trans rfl
  go_upto_block 0 with fail
  go_cut [] (fun wc => ∃ n e f, Aside0 ((n, e, f) = (r1, r2, r3)) ∧ Aside0 (Env11 W1 gx go #[.int .i64 nd.f0, .slice Ak nd.f1.length ck, .int .i64 nd.f2, .int .u64 nd.f3.f0, .int .u64 nd.f3.f1, .int .u64 nd.f3.f2, .int .u64 nd.f3.f3] wc n e f))
  case first =>
   clear x0
   have h := H.out
   clear H
   unfold vetchref11_Node.p at h
   have c0 : ¬ nd.f0 = 0 := by have := hs.out; omega
   rw [if_neg c0] at h
   have b0 : (nd.f0 == 0) = false := beq_eq_false_iff_ne.2 c0
   go_upto_region 6 with (fail)
   clear b0
   have c1 : ¬ nd.f0 = 1 := by have := hs.out; omega
   rw [if_neg c1] at h
   have b1 : (nd.f0 == 1) = false := beq_eq_false_iff_ne.2 c1
   go_upto_region 9 with (fail)
   clear b1
   have c2 : ¬ nd.f0 = 2 := by have := hs.out; omega
   rw [if_neg c2] at h
   have b2 : (nd.f0 == 2) = false := beq_eq_false_iff_ne.2 c2
   go_upto_region 11 with (fail)
   clear b2
   have c3 : ¬ nd.f0 = 3 := by have := hs.out; omega
   rw [if_neg c3] at h
   have b3 : (nd.f0 == 3) = false := beq_eq_false_iff_ne.2 c3
   go_upto_region 28 with (fail)
   clear b3
   have c4 : ¬ nd.f0 = 4 := by have := hs.out; omega
   rw [if_neg c4] at h
   have b4 : (nd.f0 == 4) = false := beq_eq_false_iff_ne.2 c4
   go_upto_region 42 with (fail)
   clear b4
   have c5 : ¬ nd.f0 = 5 := by have := hs.out; omega
   rw [if_neg c5] at h
   have b5 : (nd.f0 == 5) = false := beq_eq_false_iff_ne.2 c5
   go_upto_region 45 with (fail)
   clear b5
   have c6 : ¬ nd.f0 = 6 := by have := hs.out; omega
   rw [if_neg c6] at h
   have b6 : (nd.f0 == 6) = false := beq_eq_false_iff_ne.2 c6
   go_upto_region 49 with (fail)
   clear b6
   have c7 : ¬ nd.f0 = 7 := by have := hs.out; omega
   rw [if_neg c7] at h
   have b7 : (nd.f0 == 7) = false := beq_eq_false_iff_ne.2 c7
   go_upto_region 52 with (fail)
   clear b7
   have c8 : ¬ nd.f0 = 8 := by have := hs.out; omega
   rw [if_neg c8] at h
   have b8 : (nd.f0 == 8) = false := beq_eq_false_iff_ne.2 c8
   go_upto_region 55 with (fail)
   clear b8
   have c9 : nd.f0 = 9 := by have := hs.out; omega
   rw [if_pos c9] at h
   have b9 : (nd.f0 == 9) = true := beq_iff_eq.2 c9
   have q9 : (0 : Int) < (nd.f1.length : Int) := by have := List.length_pos_iff.2 (HF.out.2.1 (by omega) (by omega)); omega
   obtain ⟨q2, q3⟩ := HF.out.1 (rd nd.f1 0) (rd_memh nd.f1 0 (Int.le_refl 0) q9)
   clear c0 c1 c2 c3 c4 c5 c6 c7 c8 c9
   have HQ2 := Aside0.mk q2
   replace q2 := eq_true q2
   have HQ3 := Aside0.mk q3
   replace q3 := eq_true q3
   have HQ9 := Aside0.mk q9
   replace q9 := eq_true q9
   have q9n : (0 < nd.f1.length) = True := eq_true (by have := HQ9.out; omega)
   obtain ⟨f0, f1, f2, hfx⟩ : ∃ f0 f1 f2, rd_T45 l2 (rd nd.f1 0) = ⟨f0, f1, f2⟩ := ⟨_, _, _, rfl⟩
   rw [hfx] at h
   dsimp only at h
   have HFX := Aside0.mk hfx
   clear hfx
   obtain ⟨ad1, e1, y0⟩ := Kd.at_int (Kd.C_below HCk.out E2.out.b) 0 (Int.le_refl 0) HQ9.out
   cases e1
   obtain ⟨ad2, e2, u0, u1, u2⟩ := at_T45 (Kd.C_below HC2.out E2.out.b) (rd nd.f1 0) HQ2.out HQ3.out
   cases e2
   replace y0 : W2.cell? ad1 = some (.int .i64 (rd nd.f1 0)) := by simpa [Addr.add] using y0
   rw [HFX.out] at u0 u1 u2
   dsimp only at u0 u1 u2
   have x0 : W2.cell? ⟨gx, 0, none⟩ = some (.int .i64 nd.f0) := (blk_cell E2.out.x 0).trans rfl
   have x1 := (blk_cell E2.out.x 1).trans rfl
   have o0 : W2.cell? ⟨go, 0, none⟩ = some (.bool false) := (blk_cell E2.out.o 0).trans rfl
   have z0 : W2.frozen? ⟨go, 0, none⟩ = false := blk_frozen E2.out.o 0
   go_upto_region 57 with (fail)
   have EV1 := Aside0.mk ((E2.out).put0 HLT.out.1 HLT.out.2.1 f2)
   generalize W2.setCell ⟨go, 0, none⟩ (.bool f2) = V1 at EV1 ⊢
   clear x0 x1 y0 u0 u1 u2 o0 z0
   obtain ⟨ad1, e1, y0⟩ := Kd.at_int (Kd.C_below HCk.out EV1.out.b) 0 (Int.le_refl 0) HQ9.out
   cases e1
   obtain ⟨ad2, e2, u0, u1, u2⟩ := at_T45 (Kd.C_below HC2.out EV1.out.b) (rd nd.f1 0) HQ2.out HQ3.out
   cases e2
   replace y0 : V1.cell? ad1 = some (.int .i64 (rd nd.f1 0)) := by simpa [Addr.add] using y0
   rw [HFX.out] at u0 u1 u2
   dsimp only at u0 u1 u2
   have x0 : V1.cell? ⟨gx, 0, none⟩ = some (.int .i64 nd.f0) := (blk_cell EV1.out.x 0).trans rfl
   have x1 := (blk_cell EV1.out.x 1).trans rfl
   have o2 : V1.cell? ⟨go, 2, none⟩ = some (.bool false) := (blk_cell EV1.out.o 2).trans rfl
   have z2 : V1.frozen? ⟨go, 2, none⟩ = false := blk_frozen EV1.out.o 2
   go_wp2_with (
     go_at_call 35
     refine (vetchref11_ok.calls f0 f1 f2 (f0 || f1) _ (by cases f0 <;> rfl)).mono ?_
     rintro e_ V0 ⟨rfl, hb_⟩
     have EV0 := Aside0.mk (EV1.out.below hb_)
     clear hb_ x0 x1 y0 u0 u1 u2 o2 z2
     have o2 : V0.cell? ⟨go, 2, none⟩ = some (.bool false) := (blk_cell EV0.out.o 2).trans rfl
     have z2 : V0.frozen? ⟨go, 2, none⟩ = false := blk_frozen EV0.out.o 2)
   go_meet
   exact ⟨_, _, _, ⟨h⟩, ⟨(EV0.out).put2 HLT.out.1 HLT.out.2.1 (f0 || f1)⟩⟩
  case rest =>
   clear x0
   obtain ⟨n, e, f, HE, E3⟩ := hcut
   obtain ⟨rfl, rfl, rfl⟩ : n = r1 ∧ e = r2 ∧ f = r3 := by simpa using HE.out
   have o0 : wc.cell? ⟨go, 0, none⟩ = some (.bool n) := (blk_cell E3.out.o 0).trans rfl
   have r0 : wc.cell? ⟨gr, 0, none⟩ = some (.bool false) := (blk_cell (blk_below HR.out E3.out.b) 0).trans rfl
   have z0 : wc.frozen? ⟨gr, 0, none⟩ = false := blk_frozen (blk_below HR.out E3.out.b) 0
   have o1 : wc.cell? ⟨go, 1, none⟩ = some (.bool e) := (blk_cell E3.out.o 1).trans rfl
   have r1 : wc.cell? ⟨gr, 1, none⟩ = some (.bool false) := (blk_cell (blk_below HR.out E3.out.b) 1).trans rfl
   have z1 : wc.frozen? ⟨gr, 1, none⟩ = false := blk_frozen (blk_below HR.out E3.out.b) 1
   have o2 : wc.cell? ⟨go, 2, none⟩ = some (.bool f) := (blk_cell E3.out.o 2).trans rfl
   have r2 : wc.cell? ⟨gr, 2, none⟩ = some (.bool false) := (blk_cell (blk_below HR.out E3.out.b) 2).trans rfl
   have z2 : wc.frozen? ⟨gr, 2, none⟩ = false := blk_frozen (blk_below HR.out E3.out.b) 2
   go_wp2
   refine bodyPost_ret (results_cell_row rfl _ _ gr 45 #[.bool n, .bool e, .bool f] (0, 0) _ rfl (blk3 (blk_below HR.out E3.out.b) _ _ _) Try.underlying45 rfl (by kernel_rfl)) rfl ⟨rfl, ?_⟩
   exact below3 (below_step HB.out E3.out.b) (by have := HGB.out; have := HGR.out; omega) _ _ _
end Go.Proofs.Ythgedejnpgcacaa.V
namespace Go.Proofs.Ythgedejnpgcacaa.V
open Go.RowKit Go.Proofs.YthgedejnpgcacaaW.PrintWords
set_option linter.unusedVariables false
theorem vetchref11_Node.calls (A0_0 : Option Addr) (c0_0 : Nat) (l0_0 : List S51) (A0_1 : Option Addr) (c0_1 : Nat) (l0_1 : List S56) (a1 : Int) (A2 : Option Addr) (c2 : Nat) (l2 : List S45) (r1 r2 r3 : Bool) (w : World)
    (hr0_0 : Kd.C k51 w A0_0 l0_0.length l0_0) (hc0_0 : l0_0.length ≤ c0_0) (hr0_1 : Kd.C k56 w A0_1 l0_1.length l0_1) (hc0_1 : l0_1.length ≤ c0_1) (hr2 : Kd.C k45 w A2 l2.length l2) (hc2 : l2.length ≤ c2)
    (h : vetchref11_Node.f l0_0 l0_1 a1 l2 = some (r1, r2, r3)) :
    Calls Try.prog 31 #[.agg #[.slice A0_0 l0_0.length c0_0, .slice A0_1 l0_1.length c0_1], .int .i64 a1, .slice A2 l2.length c2] w fun e w' => e = .returned (.agg #[.bool r1, .bool r2, .bool r3]) ∧ Below w.heap.size w w' := by
  by_cases d0 : (rd_T56 l0_1 a1).f0 = 0
  · exact vetchref11_Node.calls_s0 A0_0 c0_0 l0_0 A0_1 c0_1 l0_1 a1 A2 c2 l2 r1 r2 r3 w hr0_0 hc0_0 hr0_1 hc0_1 hr2 hc2 ⟨d0⟩ h
  by_cases d1 : (rd_T56 l0_1 a1).f0 = 1
  · exact vetchref11_Node.calls_s1 A0_0 c0_0 l0_0 A0_1 c0_1 l0_1 a1 A2 c2 l2 r1 r2 r3 w hr0_0 hc0_0 hr0_1 hc0_1 hr2 hc2 ⟨d1⟩ h
  by_cases d2 : (rd_T56 l0_1 a1).f0 = 2
  · exact vetchref11_Node.calls_s2 A0_0 c0_0 l0_0 A0_1 c0_1 l0_1 a1 A2 c2 l2 r1 r2 r3 w hr0_0 hc0_0 hr0_1 hc0_1 hr2 hc2 ⟨d2⟩ h
  by_cases d3 : (rd_T56 l0_1 a1).f0 = 3
  · exact vetchref11_Node.calls_s3 A0_0 c0_0 l0_0 A0_1 c0_1 l0_1 a1 A2 c2 l2 r1 r2 r3 w hr0_0 hc0_0 hr0_1 hc0_1 hr2 hc2 ⟨d3⟩ h
  by_cases d4 : (rd_T56 l0_1 a1).f0 = 4
  · exact vetchref11_Node.calls_s4 A0_0 c0_0 l0_0 A0_1 c0_1 l0_1 a1 A2 c2 l2 r1 r2 r3 w hr0_0 hc0_0 hr0_1 hc0_1 hr2 hc2 ⟨d4⟩ h
  by_cases d5 : (rd_T56 l0_1 a1).f0 = 5
  · exact vetchref11_Node.calls_s5 A0_0 c0_0 l0_0 A0_1 c0_1 l0_1 a1 A2 c2 l2 r1 r2 r3 w hr0_0 hc0_0 hr0_1 hc0_1 hr2 hc2 ⟨d5⟩ h
  by_cases d6 : (rd_T56 l0_1 a1).f0 = 6
  · exact vetchref11_Node.calls_s6 A0_0 c0_0 l0_0 A0_1 c0_1 l0_1 a1 A2 c2 l2 r1 r2 r3 w hr0_0 hc0_0 hr0_1 hc0_1 hr2 hc2 ⟨d6⟩ h
  by_cases d7 : (rd_T56 l0_1 a1).f0 = 7
  · exact vetchref11_Node.calls_s7 A0_0 c0_0 l0_0 A0_1 c0_1 l0_1 a1 A2 c2 l2 r1 r2 r3 w hr0_0 hc0_0 hr0_1 hc0_1 hr2 hc2 ⟨d7⟩ h
  by_cases d8 : (rd_T56 l0_1 a1).f0 = 8
  · exact vetchref11_Node.calls_s8 A0_0 c0_0 l0_0 A0_1 c0_1 l0_1 a1 A2 c2 l2 r1 r2 r3 w hr0_0 hc0_0 hr0_1 hc0_1 hr2 hc2 ⟨d8⟩ h
  by_cases d9 : (rd_T56 l0_1 a1).f0 = 9
  · exact vetchref11_Node.calls_s9 A0_0 c0_0 l0_0 A0_1 c0_1 l0_1 a1 A2 c2 l2 r1 r2 r3 w hr0_0 hc0_0 hr0_1 hc0_1 hr2 hc2 ⟨d9⟩ h
  exact vetchref11_Node.calls_sx A0_0 c0_0 l0_0 A0_1 c0_1 l0_1 a1 A2 c2 l2 r1 r2 r3 w hr0_0 hc0_0 hr0_1 hc0_1 hr2 hc2 ⟨by omega⟩ h
end Go.Proofs.Ythgedejnpgcacaa.V
namespace Go.Proofs.Ythgedejnpgcacaa.V
open Go.RowKit Go.Proofs.YthgedejnpgcacaaW.PrintWords Go.Proofs.YthgedejnpgcacaaW.PrintLast Go.Proofs.YthgedejnpgcacaaW.PrintMore
attribute [local go_sem] max2_int min2_int max_two min_two max_three min_three max_four min_four tdiv_most
set_option linter.unusedVariables false
set_option linter.unusedSimpArgs false
attribute [local go_sem high] eqA45
def vetchref11_Step.l0 : Nat → List (S45) → List (S45) → Int → List (S51) → List (S56) → Option ((List (S45)))
 | 0, _, _, _, _, _ => none
 | k + 1, x1, x5, x6, x295000, x295001 => if x6 < (x295001.length : Int) then ((vetchref11_Node.f x295000 x295001 x6 x1).bind fun bt295 => (if x5.length < 46912496118442 then (vetchref11_Step.l0 k x1 (x5 ++ [(⟨bt295.1, bt295.2.1, bt295.2.2⟩ : S45)]) (wrap64 (x6 + 1)) x295000 x295001) else (none))) else (some x5)
def vetchref11_Step.f (k : Nat) (l0_0 : List (S51)) (l0_1 : List (S56)) (l1 : List (S45)) : Option ((List (S45))) := vetchref11_Step.l0 k l1 ([] : List (S45)) 0 l0_0 l0_1
set_option maxHeartbeats 8000000 in
set_option maxRecDepth 100000 in
theorem vetchref11_Step.calls (k : Nat) (A0_0 : Option Addr) (c0_0 : Nat) (l0_0 : List (S51)) (A0_1 : Option Addr) (c0_1 : Nat) (l0_1 : List (S56)) (A1 : Option Addr) (c1 : Nat) (l1 : List (S45)) (r : List (S45)) (w : World) (hr0_0 : Kd.C k51 w A0_0 l0_0.length l0_0) (hc0_0 : l0_0.length ≤ c0_0) (hr0_1 : Kd.C k56 w A0_1 l0_1.length l0_1) (hc0_1 : l0_1.length ≤ c0_1) (hr1 : Kd.C k45 w A1 l1.length l1) (hc1 : l1.length ≤ c1) (h : vetchref11_Step.f k l0_0 l0_1 l1 = some r) :
 Calls Try.prog 22 #[.agg #[.slice A0_0 l0_0.length c0_0, .slice A0_1 l0_1.length c0_1], .slice A1 l1.length c1] w fun e w' => ∃ v0_ : Value, e = .returned (v0_) ∧ Kd.R k45 45 w' w.heap.size (fun _ => True) v0_ r ∧ Below w.heap.size w w' := by
 have hu25 := Try.underlying25
 have HR0_0 := Aside0.mk hr0_0
 have HC0_0 := Aside0.mk hc0_0
 clear hr0_0 hc0_0
 have HR0_1 := Aside0.mk hr0_1
 have HC0_1 := Aside0.mk hc0_1
 clear hr0_1 hc0_1
 have HR1 := Aside0.mk hr1
 have HC1 := Aside0.mk hc1
 clear hr1 hc1
 have HB := Aside0.mk (Below.refl w.heap.size w)
 have H : (vetchref11_Step.l0 k l1 ([] : List (S45)) 0 l0_0 l0_1) = some r := h
 clear h
 have H' := Aside0.mk H
 clear H
 go_enter Try.func22, Try.ntmps22
 go_wp2_with (first | ((with_reducible refine gate_dst (N := 2) rfl ?_); refine box_event ?hg (N := 2) ?hd (cs := #[.slice A0_0 l0_0.length c0_0, .slice A0_1 l0_1.length c0_1]) (t := 25) ?hr ?_; (case hd => rfl); (case hg => rfl); (case hr => first | (go_simp; done) | (go_simp; rfl)); intro gb294 hg w3 hbox hb; have n0_ := Aside0.mk (below_step (by repeat (first | (with_reducible first | exact HB.out | apply below_alloc | apply pw_below_drewN | apply below_drew1) | exact HB.out)) hb); have n1_ := Aside0.mk (hbox); have n2_ := Aside0.mk ((by rw [hg]; exact (below_size (by repeat (first | (with_reducible first | exact HB.out | apply below_alloc | apply pw_below_drewN | apply below_drew1) | exact HB.out))) : w.heap.size ≤ gb294)); have n3_ := Aside0.mk ((by rw [hg]; exact (below_size (by repeat (first | (with_reducible first | exact HB.out | apply below_alloc | apply pw_below_drewN | apply below_drew1) | exact HB.out))) : w.heap.size ≤ gb294)); clear HB; have HB := n0_; have BK294 := n1_; have GW294 := n2_; have GE294 := n3_; clear n0_ n1_ n2_ n3_; clear hb hbox hg))
 go_loopg [5, 6] k (fun kq v5 v6 w' => ∃ (x5_1 : List (S45)) (x6_1 : Int), v6 = .int .i64 x6_1 ∧ Aside0 (vetchref11_Step.l0 kq l1 x5_1 x6_1 l0_0 l0_1 = some r) ∧ Aside0 (kq ≤ k) ∧ Aside0 (Kd.R k45 45 w' w.heap.size (fun _ => True) v5 x5_1) ∧ Aside0 (w'.heap[gb294]? = some (.cells #[(.slice A0_0 l0_0.length c0_0), (.slice A0_1 l0_1.length c0_1)] 25 (0, 0))) ∧ Aside0 (Below w.heap.size w w'))
 case atStart => exact ⟨(([] : List (S45))), (0), (by first | rfl | (simp; done) | (simp [*]; done)), H', ⟨Nat.le_refl _⟩, ⟨by first | exact Kd.R_nil _ _ _ _ _ | exact Kd.N_nil _ _ _ _ _ | exact Kd.V_nil _ _ _ _ _ | exact Kd.Q_nil _ _ _ _ _ | exact Kd.S_nil _ _ _ _ _⟩, ⟨by (with_reducible repeat (first | refine blk_drewN ?_ _ | refine blk_drew ?_ | refine blk_alloc ?_ _)); exact BK294.out⟩, ⟨by repeat (first | (with_reducible first | exact HB.out | apply below_alloc | apply pw_below_drewN | apply below_drew1 | refine below_set ?_ GE294.out) | exact HB.out)⟩⟩
 case round =>
  clear H'
  try clear c1
  try clear c2
  try clear p2
  obtain ⟨x5_1, x6_1, rfl, HA, HK1, HO_5, BK294, HB⟩ := hrel
  cases gk with
  | zero => exact absurd HA.out (by simp [vetchref11_Step.l0])
  | succ k1 =>
   have H := HA.out
   clear HA
   simp only [vetchref11_Step.l0] at H
   by_cases c4 : x6_1 < (l0_1.length : Int)
   ·
    rw [if_pos c4] at H
    have c4b0 : decide (x6_1 < (l0_1.length : Int)) = true := decide_eq_true c4
    clear c4
    replace H := Option.bind_eq_some_iff.mp H
    obtain ⟨⟨t295, t296, t297⟩, A50, H⟩ := H
    replace H : (if x5_1.length < 46912496118442 then (vetchref11_Step.l0 k1 l1 (x5_1 ++ [(⟨t295, t296, t297⟩ : S45)]) (wrap64 (x6_1 + 1)) l0_0 l0_1) else (none)) = some r := H
    have A5 := Aside0.mk A50
    clear A50
    by_cases c6 : x5_1.length < 46912496118442
    ·
     rw [if_pos c6] at H
     have LMc6 := Aside0.mk c6
     clear c6
     obtain ⟨y298, hy298⟩ : ∃ y_ : List (S45), y_ = (x5_1 ++ [(⟨t295, t296, t297⟩ : S45)]) := ⟨_, rfl⟩
     replace H : (vetchref11_Step.l0 k1 l1 y298 (wrap64 (x6_1 + 1)) l0_0 l0_1) = some r := by first | (rw [hy298]; with_reducible exact H) | (have H2_ := (Option.bind_some _ _).symm.trans H; rw [hy298]; with_reducible exact H2_) | (have H2_ := (Option.bind_some _ _).symm.trans H; with_reducible exact H2_) | with_reducible exact H | (rw [hy298]; exact H) | exact H
     have Ny298 := Aside0.mk hy298
     clear hy298
     have H' := Aside0.mk H
     clear H
     have hcz7_0 : wr.cell? ⟨gb294, 0, none⟩ = some (.slice A0_0 l0_0.length c0_0) := (blk_cell BK294.out 0).trans rfl
     have hcz7_1 : wr.cell? ⟨gb294, 1, none⟩ = some (.slice A0_1 l0_1.length c0_1) := (blk_cell BK294.out 1).trans rfl
     have hfz7_0 := blk_frozen BK294.out 0
     have hfz7_1 := blk_frozen BK294.out 1
     go_wp2_with (first | ((with_reducible refine gate_callee (f := 31) rfl ?_); refine goesL_ (some 18) rfl rfl Try.func31 (by kernel_rfl) rfl #[.agg #[.slice A0_0 l0_0.length c0_0, .slice A0_1 l0_1.length c0_1], .int .i64 x6_1, .slice A1 l1.length c1] rfl (by (try simp only [List.map_toArray, List.map_cons, List.map_nil]); first | done | rfl | (simp only [List.length_drop, List.length_take]; rfl)) ?_; (with_reducible refine (vetchref11_Node.calls _ _ l0_0 _ _ l0_1 x6_1 _ _ l1 t295 t296 t297 _ ?side1 ?side2 ?side3 ?side4 ?side5 ?side6 A5.out).mono ?_); (case side1 => repeat (first | exact (Kd.C_below HR0_0.out HB.out) | (with_reducible refine Kd.C_alloc ?_ _) | (with_reducible refine Kd.C_drewN ?_ _) | (with_reducible refine Kd.C_drew ?_))); (case side2 => exact HC0_0.out); (case side3 => repeat (first | exact (Kd.C_below HR0_1.out HB.out) | (with_reducible refine Kd.C_alloc ?_ _) | (with_reducible refine Kd.C_drewN ?_ _) | (with_reducible refine Kd.C_drew ?_))); (case side4 => exact HC0_1.out); (case side5 => repeat (first | exact (Kd.C_below HR1.out HB.out) | (with_reducible refine Kd.C_alloc ?_ _) | (with_reducible refine Kd.C_drewN ?_ _) | (with_reducible refine Kd.C_drew ?_))); (case side6 => exact HC1.out); rintro e w8 ⟨rfl, hb⟩; refine ⟨_, rfl, ?_⟩; have n0_ := Aside0.mk (Kd.R_below (by (with_reducible repeat (first | apply Kd.R_alloc | apply Kd.R_drewN | apply Kd.R_drew)); exact HO_5.out) hb); have n1_ := Aside0.mk (blk_below (g := gb294) (o := .cells #[.slice A0_0 l0_0.length c0_0, .slice A0_1 l0_1.length c0_1] 25 (0, 0)) (by (with_reducible repeat (first | refine blk_drewN ?_ _ | refine blk_drew ?_ | refine blk_alloc ?_ _)); exact BK294.out) hb); have n2_ := Aside0.mk (below_step (by repeat (first | (with_reducible first | exact HB.out | apply below_alloc | apply pw_below_drewN | apply below_drew1 | refine below_set ?_ GE294.out) | exact HB.out)) hb); clear HO_5; clear BK294; clear HB; have HO_5 := n0_; have BK294 := n1_; have HB := n2_; clear n0_ n1_ n2_; (try clear hb); (try clear hb2); (try clear hk); (try clear hi)) | ((with_reducible refine gate_builtin (b := .append) (xs := #[.tmp 14, .tmp 19]) rfl ?_); at_builtin; refine Kd.R_append k45 (w0 := w) w.heap.size rfl (.tmp 14) (.tmp 19) 46 45 (.agg #[(.bool false), (.bool false), (.bool false)]) 3 rfl Try.underlying46 info45 rfl (by decide) (by omega) u5 x5_1 (⟨t295, t296, t297⟩ : S45) [.bool t295, .bool t296, .bool t297] (fun _ => True) (fun _ => False) rfl rfl ?aP (fun _ hk => hk.elim) ?aF ?aO ?aB ?aS ?aL ?_; (case aP => exact k45_mkM _ _ _ (⟨t295, t296, t297⟩ : S45)); (case aB => exact (by repeat (first | (with_reducible first | exact HB.out | apply below_alloc | apply pw_below_drewN | apply below_drew1 | refine below_set ?_ GE294.out) | exact HB.out))); (case aF => exact (fun _ _ => trivial)); (case aO => exact (by (with_reducible repeat (first | apply Kd.R_alloc | apply Kd.R_drewN | apply Kd.R_drew)); exact HO_5.out)); (case aS => exact (below_size (by repeat (first | (with_reducible first | exact HB.out | apply below_alloc | apply pw_below_drewN | apply below_drew1 | refine below_set ?_ GE294.out) | exact HB.out)))); (case aL => have := LMc6.out; omega); intro v299 w9 ho hb hg hat; rw [← Ny298.out] at ho; have n0_ := Aside0.mk (blk_grown (g := gb294) (o := .cells #[.slice A0_0 l0_0.length c0_0, .slice A0_1 l0_1.length c0_1] 25 (0, 0)) (by (with_reducible repeat (first | refine blk_drewN ?_ _ | refine blk_drew ?_ | refine blk_alloc ?_ _)); exact BK294.out) hg (Kd.R_ne HO_5.out BK294.out (by decide))); have n1_ := Aside0.mk (hb); have n2_ := Aside0.mk (ho); clear BK294; clear HB; clear HO_5; have BK294 := n0_; have HB := n1_; have HO300 := n2_; clear n0_ n1_ n2_; clear ho hb hg hat))
     go_roundg k1
     case measure => have := HK1.out; omega
     case rel => exact ⟨(y298), (wrap64 (x6_1 + 1)), (by first | rfl | (simp; done) | (simp [*]; done)), H', ⟨by have := HK1.out; omega⟩, ⟨by (with_reducible repeat (first | apply Kd.R_alloc | apply Kd.R_drewN | apply Kd.R_drew)); exact HO300.out⟩, ⟨by (with_reducible repeat (first | refine blk_drewN ?_ _ | refine blk_drew ?_ | refine blk_alloc ?_ _)); exact BK294.out⟩, ⟨by repeat (first | (with_reducible first | exact HB.out | apply below_alloc | apply pw_below_drewN | apply below_drew1 | refine below_set ?_ GE294.out) | exact HB.out)⟩⟩
    ·
     rw [if_neg c6] at H
     exact absurd H (by simp)
   ·
    rw [if_neg c4] at H
    have c4b0 : decide (x6_1 < (l0_1.length : Int)) = false := decide_eq_false c4
    clear c4
    obtain rfl := Option.some.inj H
    have hcz10_0 : wr.cell? ⟨gb294, 0, none⟩ = some (.slice A0_0 l0_0.length c0_0) := (blk_cell BK294.out 0).trans rfl
    have hcz10_1 : wr.cell? ⟨gb294, 1, none⟩ = some (.slice A0_1 l0_1.length c0_1) := (blk_cell BK294.out 1).trans rfl
    have hfz10_0 := blk_frozen BK294.out 0
    have hfz10_1 := blk_frozen BK294.out 1
    go_wp2
    go_ret
    exact ⟨_, by first | rfl | (simp [errW_none, errW_some] <;> rfl) | (simp [*, errW_none, errW_some] <;> rfl), by (with_reducible repeat (first | apply Kd.R_alloc | apply Kd.R_drewN | apply Kd.R_drew)); exact HO_5.out, by repeat (first | (with_reducible first | exact HB.out | apply below_alloc | apply pw_below_drewN | apply below_drew1 | refine below_set ?_ GE294.out) | exact HB.out)⟩
def vetchref11_Same.l0 : Nat → List (S45) → List (S45) → Int → Option (Bool)
 | 0, _, _, _ => none
 | k + 1, x0, x1, x5 => if x5 < (x0.length : Int) then (if 0 ≤ x5 then (if x5 < (x1.length : Int) then (if (!(((rd_T45 x0 x5).f0) == ((rd_T45 x1 x5).f0)) || (!(((rd_T45 x0 x5).f1) == ((rd_T45 x1 x5).f1)) || (!(((rd_T45 x0 x5).f2) == ((rd_T45 x1 x5).f2))))) = true then (some false) else (vetchref11_Same.l0 k x0 x1 (wrap64 (x5 + 1)))) else (none)) else (none)) else (some true)
def vetchref11_Same.f (k : Nat) (l0 : List (S45)) (l1 : List (S45)) : Option (Bool) := if (l0.length : Int) = (l1.length : Int) then (vetchref11_Same.l0 k l0 l1 0) else (some false)
set_option maxHeartbeats 8000000 in
set_option maxRecDepth 100000 in
theorem vetchref11_Same.calls (k : Nat) (A0 : Option Addr) (c0 : Nat) (l0 : List (S45)) (A1 : Option Addr) (c1 : Nat) (l1 : List (S45)) (r : Bool) (w : World) (hr0 : Kd.C k45 w A0 l0.length l0) (hc0 : l0.length ≤ c0) (hr1 : Kd.C k45 w A1 l1.length l1) (hc1 : l1.length ≤ c1) (h : vetchref11_Same.f k l0 l1 = some r) :
 Calls Try.prog 23 #[.slice A0 l0.length c0, .slice A1 l1.length c1] w fun e w' => e = .returned (.bool r) ∧ Drawn0 w w' := by
 have hu45 := Try.underlying45
 have HR0 := Aside0.mk hr0
 have HC0 := Aside0.mk hc0
 clear hr0 hc0
 have HR1 := Aside0.mk hr1
 have HC1 := Aside0.mk hc1
 clear hr1 hc1
 have H : (if (l0.length : Int) = (l1.length : Int) then (vetchref11_Same.l0 k l0 l1 0) else (some false)) = some r := h
 clear h
 by_cases c3 : (l0.length : Int) = (l1.length : Int)
 ·
  rw [if_pos c3] at H
  have c3b0 : ((l0.length : Int) == (l1.length : Int)) = true := beq_iff_eq.mpr c3
  have c3b1 : ((l0.length : Int) != (l1.length : Int)) = false := bne_eq_false_iff_eq.mpr c3
  have c3b2 : (l0.length == l1.length) = true := by first | simpa using c3 | (simp at c3 ⊢; omega)
  clear c3
  have H' := Aside0.mk H
  clear H
  go_enter Try.func23, Try.ntmps23
  go_wp2
  repeat (go_quiet (fail); try go_wp2)
  go_loopg [5] k (fun kq v5 w' => ∃ (x5_1 : Int), v5 = .int .i64 x5_1 ∧ Aside0 (vetchref11_Same.l0 kq l0 l1 x5_1 = some r) ∧ Aside0 (kq ≤ k) ∧ Drawn0 w w')
  case atStart => exact ⟨(0), (by first | rfl | (simp; done) | (simp [*]; done)), H', ⟨Nat.le_refl _⟩, by repeat (first | exact Drawn0.refl _ | apply Drawn0.step)⟩
  case round =>
   clear H'
   try clear c1
   try clear c2
   try clear p2
   try clear c3
   try clear c3b0
   try clear c3b1
   try clear c3b2
   obtain ⟨x5_1, rfl, HA, HK1, ⟨m1, rfl⟩⟩ := hrel
   cases gk with
   | zero => exact absurd HA.out (by simp [vetchref11_Same.l0])
   | succ k1 =>
    have H := HA.out
    clear HA
    simp only [vetchref11_Same.l0] at H
    by_cases c4 : x5_1 < (l0.length : Int)
    ·
     rw [if_pos c4] at H
     have c4b0 : decide (x5_1 < (l0.length : Int)) = true := decide_eq_true c4
     clear c4
     by_cases c5 : 0 ≤ x5_1
     ·
      rw [if_pos c5] at H
      have c5b0 : decide (0 ≤ x5_1) = true := decide_eq_true c5
      clear c5
      by_cases c6 : x5_1 < (l1.length : Int)
      ·
       rw [if_pos c6] at H
       have c6b0 : decide (x5_1 < (l1.length : Int)) = true := decide_eq_true c6
       clear c6
       by_cases c7 : (!(((rd_T45 l0 x5_1).f0) == ((rd_T45 l1 x5_1).f0)) || (!(((rd_T45 l0 x5_1).f1) == ((rd_T45 l1 x5_1).f1)) || (!(((rd_T45 l0 x5_1).f2) == ((rd_T45 l1 x5_1).f2))))) = true
       ·
        rw [if_pos c7] at H
        have c7b0 : (!(((rd_T45 l0 x5_1).f0) == ((rd_T45 l1 x5_1).f0)) || (!(((rd_T45 l0 x5_1).f1) == ((rd_T45 l1 x5_1).f1)) || (!(((rd_T45 l0 x5_1).f2) == ((rd_T45 l1 x5_1).f2))))) = true := c7
        clear c7
        obtain rfl := Option.some.inj H
        have p301 : 0 ≤ (x5_1 : Int) := of_decide_eq_true (by first | (with_reducible assumption) | assumption)
        have q301 : x5_1 < (l0.length : Int) := of_decide_eq_true (by first | (with_reducible assumption) | assumption)
        obtain ⟨ad301, e301, hx301_0, hx301_1, hx301_2⟩ := at_T45 HR0.out x5_1 p301 q301
        cases e301
        replace p301 := eq_true p301
        replace q301 := eq_true q301
        have p302 : 0 ≤ (x5_1 : Int) := of_decide_eq_true (by first | (with_reducible assumption) | assumption)
        have q302 : x5_1 < (l1.length : Int) := of_decide_eq_true (by first | (with_reducible assumption) | assumption)
        obtain ⟨ad302, e302, hx302_0, hx302_1, hx302_2⟩ := at_T45 HR1.out x5_1 p302 q302
        cases e302
        replace p302 := eq_true p302
        replace q302 := eq_true q302
        go_wp2
        repeat (go_quiet (fail); try go_wp2)
        go_ret
        exact ⟨by first | rfl | (simp; done) | (simp [*]; done) | (refine congrArg (fun b_ => Ending.returned (Value.bool b_)) ?_; rw [Bool.eq_iff_iff]; simp; done), by repeat (first | exact Drawn0.refl _ | apply Drawn0.step)⟩
       ·
        rw [if_neg c7] at H
        have c7b0 : (!(((rd_T45 l0 x5_1).f0) == ((rd_T45 l1 x5_1).f0)) || (!(((rd_T45 l0 x5_1).f1) == ((rd_T45 l1 x5_1).f1)) || (!(((rd_T45 l0 x5_1).f2) == ((rd_T45 l1 x5_1).f2))))) = false := by simpa using c7
        clear c7
        have H' := Aside0.mk H
        clear H
        have p301 : 0 ≤ (x5_1 : Int) := of_decide_eq_true (by first | (with_reducible assumption) | assumption)
        have q301 : x5_1 < (l0.length : Int) := of_decide_eq_true (by first | (with_reducible assumption) | assumption)
        obtain ⟨ad301, e301, hx301_0, hx301_1, hx301_2⟩ := at_T45 HR0.out x5_1 p301 q301
        cases e301
        replace p301 := eq_true p301
        replace q301 := eq_true q301
        have p302 : 0 ≤ (x5_1 : Int) := of_decide_eq_true (by first | (with_reducible assumption) | assumption)
        have q302 : x5_1 < (l1.length : Int) := of_decide_eq_true (by first | (with_reducible assumption) | assumption)
        obtain ⟨ad302, e302, hx302_0, hx302_1, hx302_2⟩ := at_T45 HR1.out x5_1 p302 q302
        cases e302
        replace p302 := eq_true p302
        replace q302 := eq_true q302
        go_wp2
        repeat (go_quiet (fail); try go_wp2)
        go_roundg k1
        case measure => have := HK1.out; omega
        case rel => exact ⟨(wrap64 (x5_1 + 1)), (by first | rfl | (simp; done) | (simp [*]; done)), H', ⟨by have := HK1.out; omega⟩, by repeat (first | exact Drawn0.refl _ | apply Drawn0.step)⟩
      ·
       rw [if_neg c6] at H
       exact absurd H (by simp)
     ·
      rw [if_neg c5] at H
      exact absurd H (by simp)
    ·
     rw [if_neg c4] at H
     have c4b0 : decide (x5_1 < (l0.length : Int)) = false := decide_eq_false c4
     clear c4
     obtain rfl := Option.some.inj H
     go_wp2
     repeat (go_quiet (fail); try go_wp2)
     go_ret
     exact ⟨by first | rfl | (simp; done) | (simp [*]; done) | (refine congrArg (fun b_ => Ending.returned (Value.bool b_)) ?_; rw [Bool.eq_iff_iff]; simp; done), by repeat (first | exact Drawn0.refl _ | apply Drawn0.step)⟩
 ·
  rw [if_neg c3] at H
  have c3b0 : ((l0.length : Int) == (l1.length : Int)) = false := beq_eq_false_iff_ne.mpr c3
  have c3b1 : ((l0.length : Int) != (l1.length : Int)) = true := bne_iff_ne.mpr c3
  have c3b2 : (l0.length == l1.length) = false := by first | simpa using c3 | (simp at c3 ⊢; omega)
  obtain rfl := Option.some.inj H
  go_enter Try.func23, Try.ntmps23
  go_wp2
  repeat (go_quiet (fail); try go_wp2)
  go_ret
  exact ⟨by first | rfl | (simp; done) | (simp [*]; done) | (refine congrArg (fun b_ => Ending.returned (Value.bool b_)) ?_; rw [Bool.eq_iff_iff]; simp; done), by repeat (first | exact Drawn0.refl _ | apply Drawn0.step)⟩
end Go.Proofs.Ythgedejnpgcacaa.V
