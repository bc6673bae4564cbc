/- The law NaiveEnds returns true whatever comes in, and leaves its arguments as they were. No condition. -/
import Derived.Test.YthgedejnpgcacaaKNe3
import Derived.OpenShut
import Derived.Carry
import Derived.Deep.Slices
import Derived.DataElems
import Derived.Laws.Bits64b
namespace Go.Proofs.Ythgedejnpgcacaa.V
open Go.RowKit Go.Proofs.YthgedejnpgcacaaW.PrintWords Go.Proofs.YthgedejnpgcacaaW.PrintLast Go.Proofs.YthgedejnpgcacaaW.PrintMore
set_option linter.unusedVariables false
set_option linter.unusedSimpArgs false
set_option maxHeartbeats 4000000 in
set_option maxRecDepth 100000 in
theorem vetchref18_Node.calls_sf (k : Nat) (ih : ∀ (A0_0 : Option Addr) (c0_0 : Nat) (l0_0 : List S51) (A0_1 : Option Addr) (c0_1 : Nat) (l0_1 : List S56) (a1 : Int) (a2 : ByteArray) (a3 a4 : Int) (r1 : Bool) (r2 r3 : Int) (w : World)
    (hr0_0 : Kd.C k51 w A0_0 l0_0.length l0_0) (hc0_0 : l0_0.length ≤ c0_0) (hr0_1 : Kd.C k56 w A0_1 l0_1.length l0_1) (hc0_1 : l0_1.length ≤ c0_1) (h : vetchref18_Node.f k l0_0 l0_1 a1 a2 a3 a4 = some (r1, r2, r3)), Calls Try.prog 12 #[.agg #[.slice A0_0 l0_0.length c0_0, .slice A0_1 l0_1.length c0_1], .int .i64 a1, .string a2, .int .i64 a3, .int .i64 a4] w fun e w' => e = .returned (.agg #[.bool r1, .int .i64 r2, .int .i64 r3]) ∧ Below w.heap.size w w')
    (A0_0 : Option Addr) (c0_0 : Nat) (l0_0 : List S51) (A0_1 : Option Addr) (c0_1 : Nat) (l0_1 : List S56) (a1 : Int) (a2 : ByteArray) (a3 a4 : Int) (r1 : Bool) (r2 r3 : Int) (w : World)
    (hr0_0 : Kd.C k51 w A0_0 l0_0.length l0_0) (hc0_0 : l0_0.length ≤ c0_0) (hr0_1 : Kd.C k56 w A0_1 l0_1.length l0_1) (hc0_1 : l0_1.length ≤ c0_1) (hs : Aside0 (a4 < 1)) (h : vetchref18_Node.f (k + 1) l0_0 l0_1 a1 a2 a3 a4 = some (r1, r2, r3)) :
    Calls Try.prog 12 #[.agg #[.slice A0_0 l0_0.length c0_0, .slice A0_1 l0_1.length c0_1], .int .i64 a1, .string a2, .int .i64 a3, .int .i64 a4] w fun e w' => e = .returned (.agg #[.bool r1, .int .i64 r2, .int .i64 r3]) ∧ Below w.heap.size w w' := by
  rw [vetchref18_Node.f] at h
  have IH := Aside0.mk ih
  clear ih
  have hu25 := Try.underlying25
  have hu31 := Try.underlying31
  have hu56 := Try.underlying56
  have hu51 := Try.underlying51
  have hu54 := Try.underlying54
  have HB := Aside0.mk (below_alloc (below_alloc (Below.refl w.heap.size w) (.cells #[.slice A0_0 l0_0.length c0_0, .slice A0_1 l0_1.length c0_1] 25)) (.cells #[.bool false, .int .i64 0, .int .i64 0] 31))
  have HG := Aside0.mk (blk_alloc (blk_new w (.cells #[.slice A0_0 l0_0.length c0_0, .slice A0_1 l0_1.length c0_1] 25)) (.cells #[.bool false, .int .i64 0, .int .i64 0] 31))
  have HR := Aside0.mk (blk_new (w.alloc (.cells #[.slice A0_0 l0_0.length c0_0, .slice A0_1 l0_1.length c0_1] 25)) (.cells #[.bool false, .int .i64 0, .int .i64 0] 31))
  have hsz : ((w.alloc (.cells #[.slice A0_0 l0_0.length c0_0, .slice A0_1 l0_1.length c0_1] 25)).alloc (.cells #[.bool false, .int .i64 0, .int .i64 0] 31)).heap.size = w.heap.size + 1 + 1 := by rw [h18_size, h18_size]
  rw [h18_size] at HR
  have HC0 := Aside0.mk (Kd.C_below hr0_0 HB.out)
  have HC1 := Aside0.mk (Kd.C_below hr0_1 HB.out)
  have HW := Aside0.mk hsz
  clear hr0_0 hr0_1 hsz
  rw [if_pos hs.out] at h
  simp only [Option.some.injEq, Prod.mk.injEq] at h
  obtain ⟨rfl, rfl, rfl⟩ := h
  have c4b : decide (a4 < 1) = true := decide_eq_true hs.out
  go_enter Try.func12, Try.ntmps12
  go_upto_region 1 with (fail)
  generalize ((w.alloc (.cells #[.slice A0_0 l0_0.length c0_0, .slice A0_1 l0_1.length c0_1] 25)).alloc (.cells #[.bool false, .int .i64 0, .int .i64 0] 31)) = W1 at HB HG HR HC0 HC1 HW ⊢
  obtain ⟨gb, hgb⟩ : ∃ gb, gb = w.heap.size := ⟨_, rfl⟩
  obtain ⟨gr, hgr⟩ : ∃ gr, gr = gb + 1 := ⟨_, rfl⟩
  rw [← hgb] at HW HG HR ⊢
  rw [← hgr] at HR ⊢
  have HGB := Aside0.mk hgb
  have HGR := Aside0.mk hgr
  clear hgb hgr
  have rr0 : W1.cell? ⟨gr, 0, none⟩ = some (.bool false) := (blk_cell HR.out 0).trans rfl
  have z0 : W1.frozen? ⟨gr, 0, none⟩ = false := blk_frozen HR.out 0
  have rr1 : W1.cell? ⟨gr, 1, none⟩ = some (.int .i64 0) := (blk_cell HR.out 1).trans rfl
  have z1 : W1.frozen? ⟨gr, 1, none⟩ = false := blk_frozen HR.out 1
  have rr2 : W1.cell? ⟨gr, 2, none⟩ = some (.int .i64 0) := (blk_cell HR.out 2).trans rfl
  have z2 : W1.frozen? ⟨gr, 2, none⟩ = false := blk_frozen HR.out 2
  go_wp2
  refine bodyPost_ret (results_cell_row rfl _ _ gr 31 #[.bool false, .int .i64 0, .int .i64 0] (0, 0) _ rfl (h18_blk3 HR.out _ _ _) Try.underlying31 rfl (by kernel_rfl)) rfl ⟨rfl, h18_below3 HB.out (by have := HGB.out; have := HGR.out; omega) _ _ _⟩
end Go.Proofs.Ythgedejnpgcacaa.V
namespace Go.Proofs.Ythgedejnpgcacaa.V
open Go.RowKit Go.Proofs.YthgedejnpgcacaaW.PrintWords Go.Proofs.YthgedejnpgcacaaW.PrintLast Go.Proofs.YthgedejnpgcacaaW.PrintMore
set_option linter.unusedVariables false
set_option linter.unusedSimpArgs false
set_option maxHeartbeats 4000000 in
set_option maxRecDepth 100000 in
theorem vetchref18_Node.calls_s0 (k : Nat) (ih : ∀ (A0_0 : Option Addr) (c0_0 : Nat) (l0_0 : List S51) (A0_1 : Option Addr) (c0_1 : Nat) (l0_1 : List S56) (a1 : Int) (a2 : ByteArray) (a3 a4 : Int) (r1 : Bool) (r2 r3 : Int) (w : World)
    (hr0_0 : Kd.C k51 w A0_0 l0_0.length l0_0) (hc0_0 : l0_0.length ≤ c0_0) (hr0_1 : Kd.C k56 w A0_1 l0_1.length l0_1) (hc0_1 : l0_1.length ≤ c0_1) (h : vetchref18_Node.f k l0_0 l0_1 a1 a2 a3 a4 = some (r1, r2, r3)), Calls Try.prog 12 #[.agg #[.slice A0_0 l0_0.length c0_0, .slice A0_1 l0_1.length c0_1], .int .i64 a1, .string a2, .int .i64 a3, .int .i64 a4] w fun e w' => e = .returned (.agg #[.bool r1, .int .i64 r2, .int .i64 r3]) ∧ Below w.heap.size w w')
    (A0_0 : Option Addr) (c0_0 : Nat) (l0_0 : List S51) (A0_1 : Option Addr) (c0_1 : Nat) (l0_1 : List S56) (a1 : Int) (a2 : ByteArray) (a3 a4 : Int) (r1 : Bool) (r2 r3 : Int) (w : World)
    (hr0_0 : Kd.C k51 w A0_0 l0_0.length l0_0) (hc0_0 : l0_0.length ≤ c0_0) (hr0_1 : Kd.C k56 w A0_1 l0_1.length l0_1) (hc0_1 : l0_1.length ≤ c0_1) (hs : Aside0 (¬ a4 < 1 ∧ (0 ≤ a1 ∧ a1 < (l0_1.length : Int)) ∧ (rd_T56 l0_1 a1).f0 = 0)) (h : vetchref18_Node.f (k + 1) l0_0 l0_1 a1 a2 a3 a4 = some (r1, r2, r3)) :
    Calls Try.prog 12 #[.agg #[.slice A0_0 l0_0.length c0_0, .slice A0_1 l0_1.length c0_1], .int .i64 a1, .string a2, .int .i64 a3, .int .i64 a4] w fun e w' => e = .returned (.agg #[.bool r1, .int .i64 r2, .int .i64 r3]) ∧ Below w.heap.size w w' := by
  rw [vetchref18_Node.f] at h
  have IH := Aside0.mk ih
  clear ih
  have hu25 := Try.underlying25
  have hu31 := Try.underlying31
  have hu56 := Try.underlying56
  have hu51 := Try.underlying51
  have hu54 := Try.underlying54
  have HB := Aside0.mk (below_alloc (below_alloc (Below.refl w.heap.size w) (.cells #[.slice A0_0 l0_0.length c0_0, .slice A0_1 l0_1.length c0_1] 25)) (.cells #[.bool false, .int .i64 0, .int .i64 0] 31))
  have HG := Aside0.mk (blk_alloc (blk_new w (.cells #[.slice A0_0 l0_0.length c0_0, .slice A0_1 l0_1.length c0_1] 25)) (.cells #[.bool false, .int .i64 0, .int .i64 0] 31))
  have HR := Aside0.mk (blk_new (w.alloc (.cells #[.slice A0_0 l0_0.length c0_0, .slice A0_1 l0_1.length c0_1] 25)) (.cells #[.bool false, .int .i64 0, .int .i64 0] 31))
  have hsz : ((w.alloc (.cells #[.slice A0_0 l0_0.length c0_0, .slice A0_1 l0_1.length c0_1] 25)).alloc (.cells #[.bool false, .int .i64 0, .int .i64 0] 31)).heap.size = w.heap.size + 1 + 1 := by rw [h18_size, h18_size]
  rw [h18_size] at HR
  have HC0 := Aside0.mk (Kd.C_below hr0_0 HB.out)
  have HC1 := Aside0.mk (Kd.C_below hr0_1 HB.out)
  have HW := Aside0.mk hsz
  clear hr0_0 hr0_1 hsz
  rw [if_neg hs.out.1, if_pos hs.out.2.1] at h
  have c4b : decide (a4 < 1) = false := decide_eq_false hs.out.1
  have H := Aside0.mk h
  clear h
  go_enter Try.func12, Try.ntmps12
  go_upto_region 1 with (fail)
  generalize ((w.alloc (.cells #[.slice A0_0 l0_0.length c0_0, .slice A0_1 l0_1.length c0_1] 25)).alloc (.cells #[.bool false, .int .i64 0, .int .i64 0] 31)) = W1 at HB HG HR HC0 HC1 HW ⊢
  obtain ⟨gb, hgb⟩ : ∃ gb, gb = w.heap.size := ⟨_, rfl⟩
  obtain ⟨gr, hgr⟩ : ∃ gr, gr = gb + 1 := ⟨_, rfl⟩
  rw [← hgb] at HW HG HR ⊢
  rw [← hgr] at HR ⊢
  have HGB := Aside0.mk hgb
  have HGR := Aside0.mk hgr
  clear hgb hgr
  go_upto_region 4 with (fail)
  clear c4b
  have g1 : W1.cell? ⟨gb, 1, none⟩ = some (.slice A0_1 l0_1.length c0_1) := (blk_cell HG.out 1).trans rfl
  have p2 := hs.out.2.1.1
  have p3 := hs.out.2.1.2
  obtain ⟨ad, Ak, ck, e, k0, k1, k2, k3, k4, k5, k6, hlk, hCk⟩ := at_T56 HC1.out a1 p2 p3
  cases e
  have HCk := Aside0.mk hCk
  have HLk := Aside0.mk hlk
  clear hCk hlk
  replace p2 := eq_true p2
  replace p3 := eq_true p3
  go_upto_region 5 with (fail)
  have HS := Aside0.mk hs.out.2.2
  clear hs
  generalize rd_T56 l0_1 a1 = nd at *
  obtain ⟨gx, hgx⟩ : ∃ gx, gx = W1.heap.size := ⟨_, rfl⟩
  have E2 : Aside0 (Env18 W1 gx #[.int .i64 nd.f0, .slice Ak nd.f1.length ck, .int .i64 nd.f2, .int .u64 nd.f3.f0, .int .u64 nd.f3.f1, .int .u64 nd.f3.f2, .int .u64 nd.f3.f3] (W1.alloc (.cells #[.int .i64 nd.f0, .slice Ak nd.f1.length ck, .int .i64 nd.f2, .int .u64 nd.f3.f0, .int .u64 nd.f3.f1, .int .u64 nd.f3.f2, .int .u64 nd.f3.f3] 56))) := ⟨by rw [hgx]; exact blk_new W1 (.cells #[.int .i64 nd.f0, .slice Ak nd.f1.length ck, .int .i64 nd.f2, .int .u64 nd.f3.f0, .int .u64 nd.f3.f1, .int .u64 nd.f3.f2, .int .u64 nd.f3.f3] 56), below_alloc (Below.refl _ _) _⟩
  have HGX := Aside0.mk hgx
  rw [← hgx]
  generalize W1.alloc (.cells #[.int .i64 nd.f0, .slice Ak nd.f1.length ck, .int .i64 nd.f2, .int .u64 nd.f3.f0, .int .u64 nd.f3.f1, .int .u64 nd.f3.f2, .int .u64 nd.f3.f3] 56) = W2 at E2 ⊢
  clear k0 k1 k2 k3 k4 k5 k6 g1 hgx p2 p3
  have h := H.out
  clear H
  have hnd : Aside0 (gb < W1.heap.size ∧ gr < W1.heap.size) := ⟨by have := HW.out; have := HGR.out; omega⟩
  generalize wrap64 (a4 - 1) = u at *
  have x0 : W2.cell? ⟨gx, 0, none⟩ = some (.int .i64 nd.f0) := (blk_cell E2.out.x 0).trans rfl
  go_upto_region 6 with (fail)
  clear x0
  have c0 : nd.f0 = 0 := HS.out
  rw [if_pos c0] at h
  have b0 : (nd.f0 == 0) = true := beq_iff_eq.2 c0
  clear c0
  simp only [Option.some.injEq, Prod.mk.injEq] at h
  obtain ⟨rfl, rfl, rfl⟩ := h
  have rr0 : W2.cell? ⟨gr, 0, none⟩ = some (.bool false) := (blk_cell (blk_below HR.out E2.out.b) 0).trans rfl
  have z0 : W2.frozen? ⟨gr, 0, none⟩ = false := blk_frozen (blk_below HR.out E2.out.b) 0
  have rr1 : W2.cell? ⟨gr, 1, none⟩ = some (.int .i64 0) := (blk_cell (blk_below HR.out E2.out.b) 1).trans rfl
  have z1 : W2.frozen? ⟨gr, 1, none⟩ = false := blk_frozen (blk_below HR.out E2.out.b) 1
  have rr2 : W2.cell? ⟨gr, 2, none⟩ = some (.int .i64 0) := (blk_cell (blk_below HR.out E2.out.b) 2).trans rfl
  have z2 : W2.frozen? ⟨gr, 2, none⟩ = false := blk_frozen (blk_below HR.out E2.out.b) 2
  go_wp2
  refine bodyPost_ret (results_cell_row rfl _ _ gr 31 #[.bool true, .int .i64 a3, .int .i64 u] (0, 0) _ rfl (h18_blk3 (blk_below HR.out E2.out.b) _ _ _) Try.underlying31 rfl (by kernel_rfl)) rfl ⟨rfl, h18_below3 (below_step HB.out E2.out.b) (by have := HGB.out; have := HGR.out; omega) _ _ _⟩
end Go.Proofs.Ythgedejnpgcacaa.V
namespace Go.Proofs.Ythgedejnpgcacaa.V
open Go.RowKit Go.Proofs.YthgedejnpgcacaaW.PrintWords Go.Proofs.YthgedejnpgcacaaW.PrintLast Go.Proofs.YthgedejnpgcacaaW.PrintMore
set_option linter.unusedVariables false
set_option linter.unusedSimpArgs false
set_option maxHeartbeats 4000000 in
set_option maxRecDepth 100000 in
theorem vetchref18_Node.calls_s1 (k : Nat) (ih : ∀ (A0_0 : Option Addr) (c0_0 : Nat) (l0_0 : List S51) (A0_1 : Option Addr) (c0_1 : Nat) (l0_1 : List S56) (a1 : Int) (a2 : ByteArray) (a3 a4 : Int) (r1 : Bool) (r2 r3 : Int) (w : World)
    (hr0_0 : Kd.C k51 w A0_0 l0_0.length l0_0) (hc0_0 : l0_0.length ≤ c0_0) (hr0_1 : Kd.C k56 w A0_1 l0_1.length l0_1) (hc0_1 : l0_1.length ≤ c0_1) (h : vetchref18_Node.f k l0_0 l0_1 a1 a2 a3 a4 = some (r1, r2, r3)), Calls Try.prog 12 #[.agg #[.slice A0_0 l0_0.length c0_0, .slice A0_1 l0_1.length c0_1], .int .i64 a1, .string a2, .int .i64 a3, .int .i64 a4] w fun e w' => e = .returned (.agg #[.bool r1, .int .i64 r2, .int .i64 r3]) ∧ Below w.heap.size w w')
    (A0_0 : Option Addr) (c0_0 : Nat) (l0_0 : List S51) (A0_1 : Option Addr) (c0_1 : Nat) (l0_1 : List S56) (a1 : Int) (a2 : ByteArray) (a3 a4 : Int) (r1 : Bool) (r2 r3 : Int) (w : World)
    (hr0_0 : Kd.C k51 w A0_0 l0_0.length l0_0) (hc0_0 : l0_0.length ≤ c0_0) (hr0_1 : Kd.C k56 w A0_1 l0_1.length l0_1) (hc0_1 : l0_1.length ≤ c0_1) (hs : Aside0 (¬ a4 < 1 ∧ (0 ≤ a1 ∧ a1 < (l0_1.length : Int)) ∧ (rd_T56 l0_1 a1).f0 = 1)) (h : vetchref18_Node.f (k + 1) l0_0 l0_1 a1 a2 a3 a4 = some (r1, r2, r3)) :
    Calls Try.prog 12 #[.agg #[.slice A0_0 l0_0.length c0_0, .slice A0_1 l0_1.length c0_1], .int .i64 a1, .string a2, .int .i64 a3, .int .i64 a4] w fun e w' => e = .returned (.agg #[.bool r1, .int .i64 r2, .int .i64 r3]) ∧ Below w.heap.size w w' := by
  rw [vetchref18_Node.f] at h
  have IH := Aside0.mk ih
  clear ih
  have hu25 := Try.underlying25
  have hu31 := Try.underlying31
  have hu56 := Try.underlying56
  have hu51 := Try.underlying51
  have hu54 := Try.underlying54
  have HB := Aside0.mk (below_alloc (below_alloc (Below.refl w.heap.size w) (.cells #[.slice A0_0 l0_0.length c0_0, .slice A0_1 l0_1.length c0_1] 25)) (.cells #[.bool false, .int .i64 0, .int .i64 0] 31))
  have HG := Aside0.mk (blk_alloc (blk_new w (.cells #[.slice A0_0 l0_0.length c0_0, .slice A0_1 l0_1.length c0_1] 25)) (.cells #[.bool false, .int .i64 0, .int .i64 0] 31))
  have HR := Aside0.mk (blk_new (w.alloc (.cells #[.slice A0_0 l0_0.length c0_0, .slice A0_1 l0_1.length c0_1] 25)) (.cells #[.bool false, .int .i64 0, .int .i64 0] 31))
  have hsz : ((w.alloc (.cells #[.slice A0_0 l0_0.length c0_0, .slice A0_1 l0_1.length c0_1] 25)).alloc (.cells #[.bool false, .int .i64 0, .int .i64 0] 31)).heap.size = w.heap.size + 1 + 1 := by rw [h18_size, h18_size]
  rw [h18_size] at HR
  have HC0 := Aside0.mk (Kd.C_below hr0_0 HB.out)
  have HC1 := Aside0.mk (Kd.C_below hr0_1 HB.out)
  have HW := Aside0.mk hsz
  clear hr0_0 hr0_1 hsz
  rw [if_neg hs.out.1, if_pos hs.out.2.1] at h
  have c4b : decide (a4 < 1) = false := decide_eq_false hs.out.1
  have H := Aside0.mk h
  clear h
  go_enter Try.func12, Try.ntmps12
  go_upto_region 1 with (fail)
  generalize ((w.alloc (.cells #[.slice A0_0 l0_0.length c0_0, .slice A0_1 l0_1.length c0_1] 25)).alloc (.cells #[.bool false, .int .i64 0, .int .i64 0] 31)) = W1 at HB HG HR HC0 HC1 HW ⊢
  obtain ⟨gb, hgb⟩ : ∃ gb, gb = w.heap.size := ⟨_, rfl⟩
  obtain ⟨gr, hgr⟩ : ∃ gr, gr = gb + 1 := ⟨_, rfl⟩
  rw [← hgb] at HW HG HR ⊢
  rw [← hgr] at HR ⊢
  have HGB := Aside0.mk hgb
  have HGR := Aside0.mk hgr
  clear hgb hgr
  go_upto_region 4 with (fail)
  clear c4b
  have g1 : W1.cell? ⟨gb, 1, none⟩ = some (.slice A0_1 l0_1.length c0_1) := (blk_cell HG.out 1).trans rfl
  have p2 := hs.out.2.1.1
  have p3 := hs.out.2.1.2
  obtain ⟨ad, Ak, ck, e, k0, k1, k2, k3, k4, k5, k6, hlk, hCk⟩ := at_T56 HC1.out a1 p2 p3
  cases e
  have HCk := Aside0.mk hCk
  have HLk := Aside0.mk hlk
  clear hCk hlk
  replace p2 := eq_true p2
  replace p3 := eq_true p3
  go_upto_region 5 with (fail)
  have HS := Aside0.mk hs.out.2.2
  clear hs
  generalize rd_T56 l0_1 a1 = nd at *
  obtain ⟨gx, hgx⟩ : ∃ gx, gx = W1.heap.size := ⟨_, rfl⟩
  have E2 : Aside0 (Env18 W1 gx #[.int .i64 nd.f0, .slice Ak nd.f1.length ck, .int .i64 nd.f2, .int .u64 nd.f3.f0, .int .u64 nd.f3.f1, .int .u64 nd.f3.f2, .int .u64 nd.f3.f3] (W1.alloc (.cells #[.int .i64 nd.f0, .slice Ak nd.f1.length ck, .int .i64 nd.f2, .int .u64 nd.f3.f0, .int .u64 nd.f3.f1, .int .u64 nd.f3.f2, .int .u64 nd.f3.f3] 56))) := ⟨by rw [hgx]; exact blk_new W1 (.cells #[.int .i64 nd.f0, .slice Ak nd.f1.length ck, .int .i64 nd.f2, .int .u64 nd.f3.f0, .int .u64 nd.f3.f1, .int .u64 nd.f3.f2, .int .u64 nd.f3.f3] 56), below_alloc (Below.refl _ _) _⟩
  have HGX := Aside0.mk hgx
  rw [← hgx]
  generalize W1.alloc (.cells #[.int .i64 nd.f0, .slice Ak nd.f1.length ck, .int .i64 nd.f2, .int .u64 nd.f3.f0, .int .u64 nd.f3.f1, .int .u64 nd.f3.f2, .int .u64 nd.f3.f3] 56) = W2 at E2 ⊢
  clear k0 k1 k2 k3 k4 k5 k6 g1 hgx p2 p3
  have h := H.out
  clear H
  have hnd : Aside0 (gb < W1.heap.size ∧ gr < W1.heap.size) := ⟨by have := HW.out; have := HGR.out; omega⟩
  generalize wrap64 (a4 - 1) = u at *
  have x0 : W2.cell? ⟨gx, 0, none⟩ = some (.int .i64 nd.f0) := (blk_cell E2.out.x 0).trans rfl
  go_upto_region 6 with (fail)
  clear x0
  have c0 : ¬ nd.f0 = 0 := by have := HS.out; omega
  rw [if_neg c0] at h
  have b0 : (nd.f0 == 0) = false := beq_eq_false_iff_ne.2 c0
  clear c0
  go_upto_region 8 with (fail)
  clear b0
  have c1 : nd.f0 = 1 := HS.out
  rw [if_pos c1] at h
  have b1 : (nd.f0 == 1) = true := beq_iff_eq.2 c1
  clear c1
  by_cases c4 : a3 < (a2.size : Int)
  · rw [if_pos c4] at h
    by_cases c5 : 0 ≤ a3
    · rw [if_pos c5] at h
      obtain ⟨t, ht, h⟩ := Option.bind_eq_some_iff.1 h
      have HT := Aside0.mk ht
      clear ht
      have hbt := bt_at a2 a3
      have c4b : decide (a3 < (a2.size : Int)) = true := decide_eq_true c4
      replace c4 := eq_true c4
      replace c5 := eq_true c5
      have x3 : W2.cell? ⟨gx, 3, none⟩ = some (.int .u64 nd.f3.f0) := (blk_cell E2.out.x 3).trans rfl
      have x4 : W2.cell? ⟨gx, 4, none⟩ = some (.int .u64 nd.f3.f1) := (blk_cell E2.out.x 4).trans rfl
      have x5 : W2.cell? ⟨gx, 5, none⟩ = some (.int .u64 nd.f3.f2) := (blk_cell E2.out.x 5).trans rfl
      have x6 : W2.cell? ⟨gx, 6, none⟩ = some (.int .u64 nd.f3.f3) := (blk_cell E2.out.x 6).trans rfl
      go_upto_region 9 with (fail)
      go_still_tail 10, (by kernel_rfl)
      change wpList _ _ _ _ _ W2.drew
      cases t with
      | true =>
        rw [if_pos rfl] at h
        simp only [Option.some.injEq, Prod.mk.injEq] at h
        obtain ⟨rfl, rfl, rfl⟩ := h
        go_wp2_with (
          go_at_call 21
          refine (vetchref01_Has.calls k nd.f3.f0 nd.f3.f1 nd.f3.f2 nd.f3.f3 (bt a2 a3) true _ HT.out).mono ?_
          rintro e_ W3 ⟨rfl, hb_⟩
          have E3 := Aside0.mk (E2.out.drew.below hb_)
          have rr0 : W3.cell? ⟨gr, 0, none⟩ = some (.bool false) := (blk_cell (blk_below HR.out E3.out.b) 0).trans rfl
          have z0 : W3.frozen? ⟨gr, 0, none⟩ = false := blk_frozen (blk_below HR.out E3.out.b) 0
          have rr1 : W3.cell? ⟨gr, 1, none⟩ = some (.int .i64 0) := (blk_cell (blk_below HR.out E3.out.b) 1).trans rfl
          have z1 : W3.frozen? ⟨gr, 1, none⟩ = false := blk_frozen (blk_below HR.out E3.out.b) 1
          have rr2 : W3.cell? ⟨gr, 2, none⟩ = some (.int .i64 0) := (blk_cell (blk_below HR.out E3.out.b) 2).trans rfl
          have z2 : W3.frozen? ⟨gr, 2, none⟩ = false := blk_frozen (blk_below HR.out E3.out.b) 2)
        refine bodyPost_ret (results_cell_row rfl _ _ gr 31 #[.bool true, .int .i64 (wrap64 (a3 + 1)), .int .i64 u] (0, 0) _ rfl (h18_blk3 (blk_below HR.out E3.out.b) _ _ _) Try.underlying31 rfl (by kernel_rfl)) rfl ⟨rfl, h18_below3 (below_step HB.out E3.out.b) (by have := HGB.out; have := HGR.out; omega) _ _ _⟩
      | false =>
        rw [if_neg (by decide)] at h
        simp only [Option.some.injEq, Prod.mk.injEq] at h
        obtain ⟨rfl, rfl, rfl⟩ := h
        go_wp2_with (
          go_at_call 21
          refine (vetchref01_Has.calls k nd.f3.f0 nd.f3.f1 nd.f3.f2 nd.f3.f3 (bt a2 a3) false _ HT.out).mono ?_
          rintro e_ W3 ⟨rfl, hb_⟩
          have E3 := Aside0.mk (E2.out.drew.below hb_)
          have rr0 : W3.cell? ⟨gr, 0, none⟩ = some (.bool false) := (blk_cell (blk_below HR.out E3.out.b) 0).trans rfl
          have z0 : W3.frozen? ⟨gr, 0, none⟩ = false := blk_frozen (blk_below HR.out E3.out.b) 0
          have rr1 : W3.cell? ⟨gr, 1, none⟩ = some (.int .i64 0) := (blk_cell (blk_below HR.out E3.out.b) 1).trans rfl
          have z1 : W3.frozen? ⟨gr, 1, none⟩ = false := blk_frozen (blk_below HR.out E3.out.b) 1
          have rr2 : W3.cell? ⟨gr, 2, none⟩ = some (.int .i64 0) := (blk_cell (blk_below HR.out E3.out.b) 2).trans rfl
          have z2 : W3.frozen? ⟨gr, 2, none⟩ = false := blk_frozen (blk_below HR.out E3.out.b) 2)
        refine bodyPost_ret (results_cell_row rfl _ _ gr 31 #[.bool true, .int .i64 (-1), .int .i64 u] (0, 0) _ rfl (h18_blk3 (blk_below HR.out E3.out.b) _ _ _) Try.underlying31 rfl (by kernel_rfl)) rfl ⟨rfl, h18_below3 (below_step HB.out E3.out.b) (by have := HGB.out; have := HGR.out; omega) _ _ _⟩
    · rw [if_neg c5] at h
      exact absurd h (by simp)
  · rw [if_neg c4] at h
    simp only [Option.some.injEq, Prod.mk.injEq] at h
    obtain ⟨rfl, rfl, rfl⟩ := h
    have c4b : decide (a3 < (a2.size : Int)) = false := decide_eq_false c4
    clear c4
    have x3 : W2.cell? ⟨gx, 3, none⟩ = some (.int .u64 nd.f3.f0) := (blk_cell E2.out.x 3).trans rfl
    have x4 : W2.cell? ⟨gx, 4, none⟩ = some (.int .u64 nd.f3.f1) := (blk_cell E2.out.x 4).trans rfl
    have x5 : W2.cell? ⟨gx, 5, none⟩ = some (.int .u64 nd.f3.f2) := (blk_cell E2.out.x 5).trans rfl
    have x6 : W2.cell? ⟨gx, 6, none⟩ = some (.int .u64 nd.f3.f3) := (blk_cell E2.out.x 6).trans rfl
    go_upto_region 9 with (fail)
    go_quiet (fail)
    have E3 := Aside0.mk (E2.out.drewN nq)
    have rr0 : W2.cell? ⟨gr, 0, none⟩ = some (.bool false) := (blk_cell (blk_below HR.out E2.out.b) 0).trans rfl
    have z0 : W2.frozen? ⟨gr, 0, none⟩ = false := blk_frozen (blk_below HR.out E2.out.b) 0
    have rr1 : W2.cell? ⟨gr, 1, none⟩ = some (.int .i64 0) := (blk_cell (blk_below HR.out E2.out.b) 1).trans rfl
    have z1 : W2.frozen? ⟨gr, 1, none⟩ = false := blk_frozen (blk_below HR.out E2.out.b) 1
    have rr2 : W2.cell? ⟨gr, 2, none⟩ = some (.int .i64 0) := (blk_cell (blk_below HR.out E2.out.b) 2).trans rfl
    have z2 : W2.frozen? ⟨gr, 2, none⟩ = false := blk_frozen (blk_below HR.out E2.out.b) 2
    go_wp2
    refine bodyPost_ret (results_cell_row rfl _ _ gr 31 #[.bool true, .int .i64 (-1), .int .i64 u] (0, 0) _ rfl (h18_blk3 (blk_below HR.out E3.out.b) _ _ _) Try.underlying31 rfl (by kernel_rfl)) rfl ⟨rfl, h18_below3 (below_step HB.out E3.out.b) (by have := HGB.out; have := HGR.out; omega) _ _ _⟩
end Go.Proofs.Ythgedejnpgcacaa.V
namespace Go.Proofs.Ythgedejnpgcacaa.V
open Go.RowKit Go.Proofs.YthgedejnpgcacaaW.PrintWords Go.Proofs.YthgedejnpgcacaaW.PrintLast Go.Proofs.YthgedejnpgcacaaW.PrintMore
set_option linter.unusedVariables false
set_option linter.unusedSimpArgs false
set_option maxHeartbeats 4000000 in
set_option maxRecDepth 100000 in
theorem vetchref18_Node.calls_s2 (k : Nat) (ih : ∀ (A0_0 : Option Addr) (c0_0 : Nat) (l0_0 : List S51) (A0_1 : Option Addr) (c0_1 : Nat) (l0_1 : List S56) (a1 : Int) (a2 : ByteArray) (a3 a4 : Int) (r1 : Bool) (r2 r3 : Int) (w : World)
    (hr0_0 : Kd.C k51 w A0_0 l0_0.length l0_0) (hc0_0 : l0_0.length ≤ c0_0) (hr0_1 : Kd.C k56 w A0_1 l0_1.length l0_1) (hc0_1 : l0_1.length ≤ c0_1) (h : vetchref18_Node.f k l0_0 l0_1 a1 a2 a3 a4 = some (r1, r2, r3)), Calls Try.prog 12 #[.agg #[.slice A0_0 l0_0.length c0_0, .slice A0_1 l0_1.length c0_1], .int .i64 a1, .string a2, .int .i64 a3, .int .i64 a4] w fun e w' => e = .returned (.agg #[.bool r1, .int .i64 r2, .int .i64 r3]) ∧ Below w.heap.size w w')
    (A0_0 : Option Addr) (c0_0 : Nat) (l0_0 : List S51) (A0_1 : Option Addr) (c0_1 : Nat) (l0_1 : List S56) (a1 : Int) (a2 : ByteArray) (a3 a4 : Int) (r1 : Bool) (r2 r3 : Int) (w : World)
    (hr0_0 : Kd.C k51 w A0_0 l0_0.length l0_0) (hc0_0 : l0_0.length ≤ c0_0) (hr0_1 : Kd.C k56 w A0_1 l0_1.length l0_1) (hc0_1 : l0_1.length ≤ c0_1) (hs : Aside0 (¬ a4 < 1 ∧ (0 ≤ a1 ∧ a1 < (l0_1.length : Int)) ∧ (rd_T56 l0_1 a1).f0 = 2)) (h : vetchref18_Node.f (k + 1) l0_0 l0_1 a1 a2 a3 a4 = some (r1, r2, r3)) :
    Calls Try.prog 12 #[.agg #[.slice A0_0 l0_0.length c0_0, .slice A0_1 l0_1.length c0_1], .int .i64 a1, .string a2, .int .i64 a3, .int .i64 a4] w fun e w' => e = .returned (.agg #[.bool r1, .int .i64 r2, .int .i64 r3]) ∧ Below w.heap.size w w' := by
  rw [vetchref18_Node.f] at h
  have IH := Aside0.mk ih
  clear ih
  have hu25 := Try.underlying25
  have hu31 := Try.underlying31
  have hu56 := Try.underlying56
  have hu51 := Try.underlying51
  have hu54 := Try.underlying54
  have HB := Aside0.mk (below_alloc (below_alloc (Below.refl w.heap.size w) (.cells #[.slice A0_0 l0_0.length c0_0, .slice A0_1 l0_1.length c0_1] 25)) (.cells #[.bool false, .int .i64 0, .int .i64 0] 31))
  have HG := Aside0.mk (blk_alloc (blk_new w (.cells #[.slice A0_0 l0_0.length c0_0, .slice A0_1 l0_1.length c0_1] 25)) (.cells #[.bool false, .int .i64 0, .int .i64 0] 31))
  have HR := Aside0.mk (blk_new (w.alloc (.cells #[.slice A0_0 l0_0.length c0_0, .slice A0_1 l0_1.length c0_1] 25)) (.cells #[.bool false, .int .i64 0, .int .i64 0] 31))
  have hsz : ((w.alloc (.cells #[.slice A0_0 l0_0.length c0_0, .slice A0_1 l0_1.length c0_1] 25)).alloc (.cells #[.bool false, .int .i64 0, .int .i64 0] 31)).heap.size = w.heap.size + 1 + 1 := by rw [h18_size, h18_size]
  rw [h18_size] at HR
  have HC0 := Aside0.mk (Kd.C_below hr0_0 HB.out)
  have HC1 := Aside0.mk (Kd.C_below hr0_1 HB.out)
  have HW := Aside0.mk hsz
  clear hr0_0 hr0_1 hsz
  rw [if_neg hs.out.1, if_pos hs.out.2.1] at h
  have c4b : decide (a4 < 1) = false := decide_eq_false hs.out.1
  have H := Aside0.mk h
  clear h
  go_enter Try.func12, Try.ntmps12
  go_upto_region 1 with (fail)
  generalize ((w.alloc (.cells #[.slice A0_0 l0_0.length c0_0, .slice A0_1 l0_1.length c0_1] 25)).alloc (.cells #[.bool false, .int .i64 0, .int .i64 0] 31)) = W1 at HB HG HR HC0 HC1 HW ⊢
  obtain ⟨gb, hgb⟩ : ∃ gb, gb = w.heap.size := ⟨_, rfl⟩
  obtain ⟨gr, hgr⟩ : ∃ gr, gr = gb + 1 := ⟨_, rfl⟩
  rw [← hgb] at HW HG HR ⊢
  rw [← hgr] at HR ⊢
  have HGB := Aside0.mk hgb
  have HGR := Aside0.mk hgr
  clear hgb hgr
  go_upto_region 4 with (fail)
  clear c4b
  have g1 : W1.cell? ⟨gb, 1, none⟩ = some (.slice A0_1 l0_1.length c0_1) := (blk_cell HG.out 1).trans rfl
  have p2 := hs.out.2.1.1
  have p3 := hs.out.2.1.2
  obtain ⟨ad, Ak, ck, e, k0, k1, k2, k3, k4, k5, k6, hlk, hCk⟩ := at_T56 HC1.out a1 p2 p3
  cases e
  have HCk := Aside0.mk hCk
  have HLk := Aside0.mk hlk
  clear hCk hlk
  replace p2 := eq_true p2
  replace p3 := eq_true p3
  go_upto_region 5 with (fail)
  have HS := Aside0.mk hs.out.2.2
  clear hs
  generalize rd_T56 l0_1 a1 = nd at *
  obtain ⟨gx, hgx⟩ : ∃ gx, gx = W1.heap.size := ⟨_, rfl⟩
  have E2 : Aside0 (Env18 W1 gx #[.int .i64 nd.f0, .slice Ak nd.f1.length ck, .int .i64 nd.f2, .int .u64 nd.f3.f0, .int .u64 nd.f3.f1, .int .u64 nd.f3.f2, .int .u64 nd.f3.f3] (W1.alloc (.cells #[.int .i64 nd.f0, .slice Ak nd.f1.length ck, .int .i64 nd.f2, .int .u64 nd.f3.f0, .int .u64 nd.f3.f1, .int .u64 nd.f3.f2, .int .u64 nd.f3.f3] 56))) := ⟨by rw [hgx]; exact blk_new W1 (.cells #[.int .i64 nd.f0, .slice Ak nd.f1.length ck, .int .i64 nd.f2, .int .u64 nd.f3.f0, .int .u64 nd.f3.f1, .int .u64 nd.f3.f2, .int .u64 nd.f3.f3] 56), below_alloc (Below.refl _ _) _⟩
  have HGX := Aside0.mk hgx
  rw [← hgx]
  generalize W1.alloc (.cells #[.int .i64 nd.f0, .slice Ak nd.f1.length ck, .int .i64 nd.f2, .int .u64 nd.f3.f0, .int .u64 nd.f3.f1, .int .u64 nd.f3.f2, .int .u64 nd.f3.f3] 56) = W2 at E2 ⊢
  clear k0 k1 k2 k3 k4 k5 k6 g1 hgx p2 p3
  have h := H.out
  clear H
  have hnd : Aside0 (gb < W1.heap.size ∧ gr < W1.heap.size) := ⟨by have := HW.out; have := HGR.out; omega⟩
  generalize wrap64 (a4 - 1) = u at *
  have x0 : W2.cell? ⟨gx, 0, none⟩ = some (.int .i64 nd.f0) := (blk_cell E2.out.x 0).trans rfl
  go_upto_region 6 with (fail)
  clear x0
  have c0 : ¬ nd.f0 = 0 := by have := HS.out; omega
  rw [if_neg c0] at h
  have b0 : (nd.f0 == 0) = false := beq_eq_false_iff_ne.2 c0
  clear c0
  go_upto_region 8 with (fail)
  clear b0
  have c1 : ¬ nd.f0 = 1 := by have := HS.out; omega
  rw [if_neg c1] at h
  have b1 : (nd.f0 == 1) = false := beq_eq_false_iff_ne.2 c1
  clear c1
  go_upto_region 12 with (fail)
  clear b1
  have c2 : nd.f0 = 2 := HS.out
  rw [if_pos c2] at h
  have b2 : (nd.f0 == 2) = true := beq_iff_eq.2 c2
  clear c2
  by_cases c4 : 0 ≤ nd.f2 ∧ nd.f2 < (l0_0.length : Int)
  · rw [if_pos c4] at h
    have HT := Aside0.mk h
    clear h
    have g0 : W2.cell? ⟨gb, 0, none⟩ = some (.slice A0_0 l0_0.length c0_0) := (blk_cell (blk_below HG.out E2.out.b) 0).trans rfl
    have g1 : W2.cell? ⟨gb, 1, none⟩ = some (.slice (some ad) l0_1.length c0_1) := (blk_cell (blk_below HG.out E2.out.b) 1).trans rfl
    have x2 : W2.cell? ⟨gx, 2, none⟩ = some (.int .i64 nd.f2) := (blk_cell E2.out.x 2).trans rfl
    obtain ⟨ad2, e2, y0, y1⟩ := at_T51 (Kd.C_below HC0.out E2.out.b) nd.f2 c4.1 c4.2
    cases e2
    have q0 := eq_true c4.1
    have q1 := eq_true c4.2
    clear c4
    go_upto_region 13 with (fail)
    go_still_tail 11, (by kernel_rfl)
    change wpList _ _ _ _ _ W2.drew
    go_wp2_with (
      go_at_call 12
      refine (IH.out _ _ l0_0 _ _ l0_1 ((rd_T51 l0_0 nd.f2).f1) a2 (a3) (u) r1 r2 r3 _ (Kd.C_below HC0.out E2.out.drew.b) hc0_0 (Kd.C_below HC1.out E2.out.drew.b) hc0_1 HT.out).mono ?_
      rintro e_ W3 ⟨rfl, hb_⟩
      have E3 := Aside0.mk (E2.out.drew.below hb_)
      have rr0 : W3.cell? ⟨gr, 0, none⟩ = some (.bool false) := (blk_cell (blk_below HR.out E3.out.b) 0).trans rfl
      have z0 : W3.frozen? ⟨gr, 0, none⟩ = false := blk_frozen (blk_below HR.out E3.out.b) 0
      have rr1 : W3.cell? ⟨gr, 1, none⟩ = some (.int .i64 0) := (blk_cell (blk_below HR.out E3.out.b) 1).trans rfl
      have z1 : W3.frozen? ⟨gr, 1, none⟩ = false := blk_frozen (blk_below HR.out E3.out.b) 1
      have rr2 : W3.cell? ⟨gr, 2, none⟩ = some (.int .i64 0) := (blk_cell (blk_below HR.out E3.out.b) 2).trans rfl
      have z2 : W3.frozen? ⟨gr, 2, none⟩ = false := blk_frozen (blk_below HR.out E3.out.b) 2)
    refine bodyPost_ret (results_cell_row rfl _ _ gr 31 #[.bool r1, .int .i64 r2, .int .i64 r3] (0, 0) _ rfl (h18_blk3 (blk_below HR.out E3.out.b) _ _ _) Try.underlying31 rfl (by kernel_rfl)) rfl ⟨rfl, h18_below3 (below_step HB.out E3.out.b) (by have := HGB.out; have := HGR.out; omega) _ _ _⟩
  · rw [if_neg c4] at h
    exact absurd h (by simp)
end Go.Proofs.Ythgedejnpgcacaa.V
namespace Go.Proofs.Ythgedejnpgcacaa.V
open Go.RowKit Go.Proofs.YthgedejnpgcacaaW.PrintWords Go.Proofs.YthgedejnpgcacaaW.PrintLast Go.Proofs.YthgedejnpgcacaaW.PrintMore
set_option linter.unusedVariables false
set_option linter.unusedSimpArgs false
set_option maxHeartbeats 4000000 in
set_option maxRecDepth 100000 in
theorem vetchref18_Node.calls_s3 (k : Nat) (ih : ∀ (A0_0 : Option Addr) (c0_0 : Nat) (l0_0 : List S51) (A0_1 : Option Addr) (c0_1 : Nat) (l0_1 : List S56) (a1 : Int) (a2 : ByteArray) (a3 a4 : Int) (r1 : Bool) (r2 r3 : Int) (w : World)
    (hr0_0 : Kd.C k51 w A0_0 l0_0.length l0_0) (hc0_0 : l0_0.length ≤ c0_0) (hr0_1 : Kd.C k56 w A0_1 l0_1.length l0_1) (hc0_1 : l0_1.length ≤ c0_1) (h : vetchref18_Node.f k l0_0 l0_1 a1 a2 a3 a4 = some (r1, r2, r3)), Calls Try.prog 12 #[.agg #[.slice A0_0 l0_0.length c0_0, .slice A0_1 l0_1.length c0_1], .int .i64 a1, .string a2, .int .i64 a3, .int .i64 a4] w fun e w' => e = .returned (.agg #[.bool r1, .int .i64 r2, .int .i64 r3]) ∧ Below w.heap.size w w')
    (A0_0 : Option Addr) (c0_0 : Nat) (l0_0 : List S51) (A0_1 : Option Addr) (c0_1 : Nat) (l0_1 : List S56) (a1 : Int) (a2 : ByteArray) (a3 a4 : Int) (r1 : Bool) (r2 r3 : Int) (w : World)
    (hr0_0 : Kd.C k51 w A0_0 l0_0.length l0_0) (hc0_0 : l0_0.length ≤ c0_0) (hr0_1 : Kd.C k56 w A0_1 l0_1.length l0_1) (hc0_1 : l0_1.length ≤ c0_1) (hs : Aside0 (¬ a4 < 1 ∧ (0 ≤ a1 ∧ a1 < (l0_1.length : Int)) ∧ (rd_T56 l0_1 a1).f0 = 3)) (h : vetchref18_Node.f (k + 1) l0_0 l0_1 a1 a2 a3 a4 = some (r1, r2, r3)) :
    Calls Try.prog 12 #[.agg #[.slice A0_0 l0_0.length c0_0, .slice A0_1 l0_1.length c0_1], .int .i64 a1, .string a2, .int .i64 a3, .int .i64 a4] w fun e w' => e = .returned (.agg #[.bool r1, .int .i64 r2, .int .i64 r3]) ∧ Below w.heap.size w w' := by
  rw [vetchref18_Node.f] at h
  have IH := Aside0.mk ih
  clear ih
  have hu25 := Try.underlying25
  have hu31 := Try.underlying31
  have hu56 := Try.underlying56
  have hu51 := Try.underlying51
  have hu54 := Try.underlying54
  have HB := Aside0.mk (below_alloc (below_alloc (Below.refl w.heap.size w) (.cells #[.slice A0_0 l0_0.length c0_0, .slice A0_1 l0_1.length c0_1] 25)) (.cells #[.bool false, .int .i64 0, .int .i64 0] 31))
  have HG := Aside0.mk (blk_alloc (blk_new w (.cells #[.slice A0_0 l0_0.length c0_0, .slice A0_1 l0_1.length c0_1] 25)) (.cells #[.bool false, .int .i64 0, .int .i64 0] 31))
  have HR := Aside0.mk (blk_new (w.alloc (.cells #[.slice A0_0 l0_0.length c0_0, .slice A0_1 l0_1.length c0_1] 25)) (.cells #[.bool false, .int .i64 0, .int .i64 0] 31))
  have hsz : ((w.alloc (.cells #[.slice A0_0 l0_0.length c0_0, .slice A0_1 l0_1.length c0_1] 25)).alloc (.cells #[.bool false, .int .i64 0, .int .i64 0] 31)).heap.size = w.heap.size + 1 + 1 := by rw [h18_size, h18_size]
  rw [h18_size] at HR
  have HC0 := Aside0.mk (Kd.C_below hr0_0 HB.out)
  have HC1 := Aside0.mk (Kd.C_below hr0_1 HB.out)
  have HW := Aside0.mk hsz
  clear hr0_0 hr0_1 hsz
  rw [if_neg hs.out.1, if_pos hs.out.2.1] at h
  have c4b : decide (a4 < 1) = false := decide_eq_false hs.out.1
  have H := Aside0.mk h
  clear h
  go_enter Try.func12, Try.ntmps12
  go_upto_region 1 with (fail)
  generalize ((w.alloc (.cells #[.slice A0_0 l0_0.length c0_0, .slice A0_1 l0_1.length c0_1] 25)).alloc (.cells #[.bool false, .int .i64 0, .int .i64 0] 31)) = W1 at HB HG HR HC0 HC1 HW ⊢
  obtain ⟨gb, hgb⟩ : ∃ gb, gb = w.heap.size := ⟨_, rfl⟩
  obtain ⟨gr, hgr⟩ : ∃ gr, gr = gb + 1 := ⟨_, rfl⟩
  rw [← hgb] at HW HG HR ⊢
  rw [← hgr] at HR ⊢
  have HGB := Aside0.mk hgb
  have HGR := Aside0.mk hgr
  clear hgb hgr
  go_upto_region 4 with (fail)
  clear c4b
  have g1 : W1.cell? ⟨gb, 1, none⟩ = some (.slice A0_1 l0_1.length c0_1) := (blk_cell HG.out 1).trans rfl
  have p2 := hs.out.2.1.1
  have p3 := hs.out.2.1.2
  obtain ⟨ad, Ak, ck, e, k0, k1, k2, k3, k4, k5, k6, hlk, hCk⟩ := at_T56 HC1.out a1 p2 p3
  cases e
  have HCk := Aside0.mk hCk
  have HLk := Aside0.mk hlk
  clear hCk hlk
  replace p2 := eq_true p2
  replace p3 := eq_true p3
  go_upto_region 5 with (fail)
  have HS := Aside0.mk hs.out.2.2
  clear hs
  generalize rd_T56 l0_1 a1 = nd at *
  obtain ⟨gx, hgx⟩ : ∃ gx, gx = W1.heap.size := ⟨_, rfl⟩
  have E2 : Aside0 (Env18 W1 gx #[.int .i64 nd.f0, .slice Ak nd.f1.length ck, .int .i64 nd.f2, .int .u64 nd.f3.f0, .int .u64 nd.f3.f1, .int .u64 nd.f3.f2, .int .u64 nd.f3.f3] (W1.alloc (.cells #[.int .i64 nd.f0, .slice Ak nd.f1.length ck, .int .i64 nd.f2, .int .u64 nd.f3.f0, .int .u64 nd.f3.f1, .int .u64 nd.f3.f2, .int .u64 nd.f3.f3] 56))) := ⟨by rw [hgx]; exact blk_new W1 (.cells #[.int .i64 nd.f0, .slice Ak nd.f1.length ck, .int .i64 nd.f2, .int .u64 nd.f3.f0, .int .u64 nd.f3.f1, .int .u64 nd.f3.f2, .int .u64 nd.f3.f3] 56), below_alloc (Below.refl _ _) _⟩
  have HGX := Aside0.mk hgx
  rw [← hgx]
  generalize W1.alloc (.cells #[.int .i64 nd.f0, .slice Ak nd.f1.length ck, .int .i64 nd.f2, .int .u64 nd.f3.f0, .int .u64 nd.f3.f1, .int .u64 nd.f3.f2, .int .u64 nd.f3.f3] 56) = W2 at E2 ⊢
  clear k0 k1 k2 k3 k4 k5 k6 g1 hgx p2 p3
  have h := H.out
  clear H
  have hnd : Aside0 (gb < W1.heap.size ∧ gr < W1.heap.size) := ⟨by have := HW.out; have := HGR.out; omega⟩
  generalize wrap64 (a4 - 1) = u at *
  have x0 : W2.cell? ⟨gx, 0, none⟩ = some (.int .i64 nd.f0) := (blk_cell E2.out.x 0).trans rfl
  go_upto_region 6 with (fail)
  clear x0
  have c0 : ¬ nd.f0 = 0 := by have := HS.out; omega
  rw [if_neg c0] at h
  have b0 : (nd.f0 == 0) = false := beq_eq_false_iff_ne.2 c0
  clear c0
  go_upto_region 8 with (fail)
  clear b0
  have c1 : ¬ nd.f0 = 1 := by have := HS.out; omega
  rw [if_neg c1] at h
  have b1 : (nd.f0 == 1) = false := beq_eq_false_iff_ne.2 c1
  clear c1
  go_upto_region 12 with (fail)
  clear b1
  have c2 : ¬ nd.f0 = 2 := by have := HS.out; omega
  rw [if_neg c2] at h
  have b2 : (nd.f0 == 2) = false := beq_eq_false_iff_ne.2 c2
  clear c2
  go_upto_region 14 with (fail)
  clear b2
  have c3 : nd.f0 = 3 := HS.out
  rw [if_pos c3] at h
  have b3 : (nd.f0 == 3) = true := beq_iff_eq.2 c3
  clear c3
  have HMX := Aside0.mk HCk.out.2.1
  go_upto_block 1 with fail
  obtain ⟨gv, hgv⟩ : ∃ gv, gv = W2.heap.size := ⟨_, rfl⟩
  have EV := Aside0.mk (E2.out.below (below_alloc (Below.refl _ _) (.cells #[.bool true, .int .i64 a3, .int .i64 u] 31)))
  have BV := Aside0.mk (blk_new W2 (.cells #[.bool true, .int .i64 a3, .int .i64 u] 31))
  rw [← hgv] at BV ⊢
  have HV : Aside0 (gx ≠ gv ∧ W1.heap.size ≤ gv ∧ gr ≠ gv) := ⟨by have := blk_lt E2.out.x; have := E2.out.b.size; have := hnd.out; omega⟩
  generalize W2.alloc (.cells #[.bool true, .int .i64 a3, .int .i64 u] 31) = V0 at EV BV ⊢
  clear hgv
  go_wp2
  go_loopg [13] nd.f1.length (fun kq v13 w' => ∃ (e q : Int) (j : Int), v13 = .int .i64 j ∧ Aside0 (0 ≤ j ∧ j ≤ (nd.f1.length : Int) ∧ kq + j.toNat = nd.f1.length) ∧ Aside0 (vetchref18_Node.seqF (fun c a u => vetchref18_Node.f k l0_0 l0_1 c a2 a u) (nd.f1.drop j.toNat) e q = some (r1, r2, r3)) ∧ Aside0 (Env18 W1 gx #[.int .i64 nd.f0, .slice Ak nd.f1.length ck, .int .i64 nd.f2, .int .u64 nd.f3.f0, .int .u64 nd.f3.f1, .int .u64 nd.f3.f2, .int .u64 nd.f3.f3] w') ∧ Aside0 (w'.heap[gv]? = some (.cells #[.bool true, .int .i64 e, .int .i64 q] 31 (0, 0))))
  case atStart => exact ⟨a3, u, 0, rfl, ⟨by omega⟩, ⟨h⟩, EV, BV⟩
  case round =>
   clear h EV BV E2
   obtain ⟨e, q, j, rfl, HJ, HA, E, BV⟩ := hrel
   have h := HA.out
   clear HA
   by_cases cj : j < (nd.f1.length : Int)
   ·
    have jp : 0 ≤ j := by have := HJ.out; omega
    rw [h18_drop nd.f1 j jp cj] at h
    rw [vetchref18_Node.seqF] at h
    obtain ⟨⟨t1, t2, t3⟩, ht, h⟩ := Option.bind_eq_some_iff.1 h
    dsimp only at ht h
    have HT := Aside0.mk ht
    have HA := Aside0.mk h
    have HJP := Aside0.mk jp
    have HCJ := Aside0.mk cj
    clear ht h
    have cjb : decide (j < (nd.f1.length : Int)) = true := decide_eq_true cj
    obtain ⟨ad1, he1, kc⟩ := Kd.at_int (Kd.C_below HCk.out E.out.b) j jp cj
    have x1 : wr.cell? ⟨gx, 1, none⟩ = some (.slice (some ad1) nd.f1.length ck) := by rw [← he1]; exact (blk_cell E.out.x 1).trans rfl
    clear he1
    have v0 : wr.cell? ⟨gv, 0, none⟩ = some (.bool true) := (blk_cell BV.out 0).trans rfl
    have v1 : wr.cell? ⟨gv, 1, none⟩ = some (.int .i64 e) := (blk_cell BV.out 1).trans rfl
    have v2 : wr.cell? ⟨gv, 2, none⟩ = some (.int .i64 q) := (blk_cell BV.out 2).trans rfl
    have g0 : wr.cell? ⟨gb, 0, none⟩ = some (.slice A0_0 l0_0.length c0_0) := (blk_cell (blk_below HG.out E.out.b) 0).trans rfl
    have g1 : wr.cell? ⟨gb, 1, none⟩ = some (.slice (some ad) l0_1.length c0_1) := (blk_cell (blk_below HG.out E.out.b) 1).trans rfl
    replace jp := eq_true jp
    replace cj := eq_true cj
    go_upto_region 19 with (fail)
    go_still_tail 11, (by kernel_rfl)
    change wpList _ _ _ _ _ wr.drew
    go_upto_region 20 with (
      go_at_call 12
      refine (IH.out _ _ l0_0 _ _ l0_1 (rd nd.f1 j) a2 (e) (q) t1 t2 t3 _ (Kd.C_below HC0.out E.out.drew.b) hc0_0 (Kd.C_below HC1.out E.out.drew.b) hc0_1 HT.out).mono ?_
      rintro e_ W3 ⟨rfl, hb_⟩
      have E3 := Aside0.mk (E.out.drew.below hb_)
      have BV3 := Aside0.mk (blk_below (blk_drew BV.out) hb_)
      clear hb_ kc x1 v0 v1 v2 g0 g1 cjb jp cj
      have v0 : W3.cell? ⟨gv, 0, none⟩ = some (.bool true) := (blk_cell BV3.out 0).trans rfl
      have y0 : W3.frozen? ⟨gv, 0, none⟩ = false := blk_frozen BV3.out 0
      have v1 : W3.cell? ⟨gv, 1, none⟩ = some (.int .i64 e) := (blk_cell BV3.out 1).trans rfl
      have y1 : W3.frozen? ⟨gv, 1, none⟩ = false := blk_frozen BV3.out 1
      have v2 : W3.cell? ⟨gv, 2, none⟩ = some (.int .i64 q) := (blk_cell BV3.out 2).trans rfl
      have y2 : W3.frozen? ⟨gv, 2, none⟩ = false := blk_frozen BV3.out 2)
    have E4 := Aside0.mk (E3.out.put3 HV.out.2.1 HV.out.1 (.bool t1) (.int .i64 t2) (.int .i64 t3))
    have BV4 := Aside0.mk (h18_blk3 BV3.out (.bool t1) (.int .i64 t2) (.int .i64 t3))
    generalize (((W3.setCell ⟨gv, 0, none⟩ (.bool t1)).setCell ⟨gv, 1, none⟩ (.int .i64 t2)).setCell ⟨gv, 2, none⟩ (.int .i64 t3)) = V3 at E4 BV4 ⊢
    clear v0 v1 v2 y0 y1 y2 E BV E3 BV3
    have h := HA.out
    clear HA
    cases t1 with
    | false =>
      rw [if_neg (by simp)] at h
      simp only [Option.some.injEq, Prod.mk.injEq] at h
      obtain ⟨rfl, rfl, rfl⟩ := h
      have v0 : V3.cell? ⟨gv, 0, none⟩ = some (.bool false) := (blk_cell BV4.out 0).trans rfl
      have v1 : V3.cell? ⟨gv, 1, none⟩ = some (.int .i64 t2) := (blk_cell BV4.out 1).trans rfl
      have v2 : V3.cell? ⟨gv, 2, none⟩ = some (.int .i64 t3) := (blk_cell BV4.out 2).trans rfl
      have rr0 : V3.cell? ⟨gr, 0, none⟩ = some (.bool false) := (blk_cell (blk_below HR.out E4.out.b) 0).trans rfl
      have z0 : V3.frozen? ⟨gr, 0, none⟩ = false := blk_frozen (blk_below HR.out E4.out.b) 0
      have rr1 : V3.cell? ⟨gr, 1, none⟩ = some (.int .i64 0) := (blk_cell (blk_below HR.out E4.out.b) 1).trans rfl
      have z1 : V3.frozen? ⟨gr, 1, none⟩ = false := blk_frozen (blk_below HR.out E4.out.b) 1
      have rr2 : V3.cell? ⟨gr, 2, none⟩ = some (.int .i64 0) := (blk_cell (blk_below HR.out E4.out.b) 2).trans rfl
      have z2 : V3.frozen? ⟨gr, 2, none⟩ = false := blk_frozen (blk_below HR.out E4.out.b) 2
      go_wp2
      refine bodyPost_ret (results_cell_row rfl _ _ gr 31 #[.bool false, .int .i64 t2, .int .i64 t3] (0, 0) _ rfl (h18_blk3 (blk_below HR.out E4.out.b) _ _ _) Try.underlying31 rfl (by kernel_rfl)) rfl ⟨rfl, h18_below3 (below_step HB.out E4.out.b) (by have := HGB.out; have := HGR.out; omega) _ _ _⟩
    | true =>
      by_cases ct : 0 ≤ t2
      · rw [if_pos ⟨rfl, ct⟩] at h
        have ctb : decide (t2 < 0) = false := decide_eq_false (by omega)
        clear ct
        have v0 : V3.cell? ⟨gv, 0, none⟩ = some (.bool true) := (blk_cell BV4.out 0).trans rfl
        have v1 : V3.cell? ⟨gv, 1, none⟩ = some (.int .i64 t2) := (blk_cell BV4.out 1).trans rfl
        have v2 : V3.cell? ⟨gv, 2, none⟩ = some (.int .i64 t3) := (blk_cell BV4.out 2).trans rfl
        have hw := h18_next j nd.f1.length HJP.out HCJ.out HMX.out
        have HWj := Aside0.mk hw
        clear hw
        go_wp2
        go_roundg (gk - 1)
        case measure => have := HJ.out; have := HCJ.out; omega
        case rel => exact ⟨t2, t3, wrap64 (j + 1), rfl, ⟨by rw [HWj.out]; have := HJ.out; have := HCJ.out; omega⟩, ⟨by rw [HWj.out]; exact h⟩, E4, BV4⟩
      · rw [if_neg (fun x => ct x.2)] at h
        simp only [Option.some.injEq, Prod.mk.injEq] at h
        obtain ⟨rfl, rfl, rfl⟩ := h
        have ctb : decide (t2 < 0) = true := decide_eq_true (by omega)
        clear ct
        have v0 : V3.cell? ⟨gv, 0, none⟩ = some (.bool true) := (blk_cell BV4.out 0).trans rfl
        have v1 : V3.cell? ⟨gv, 1, none⟩ = some (.int .i64 t2) := (blk_cell BV4.out 1).trans rfl
        have v2 : V3.cell? ⟨gv, 2, none⟩ = some (.int .i64 t3) := (blk_cell BV4.out 2).trans rfl
        have rr0 : V3.cell? ⟨gr, 0, none⟩ = some (.bool false) := (blk_cell (blk_below HR.out E4.out.b) 0).trans rfl
        have z0 : V3.frozen? ⟨gr, 0, none⟩ = false := blk_frozen (blk_below HR.out E4.out.b) 0
        have rr1 : V3.cell? ⟨gr, 1, none⟩ = some (.int .i64 0) := (blk_cell (blk_below HR.out E4.out.b) 1).trans rfl
        have z1 : V3.frozen? ⟨gr, 1, none⟩ = false := blk_frozen (blk_below HR.out E4.out.b) 1
        have rr2 : V3.cell? ⟨gr, 2, none⟩ = some (.int .i64 0) := (blk_cell (blk_below HR.out E4.out.b) 2).trans rfl
        have z2 : V3.frozen? ⟨gr, 2, none⟩ = false := blk_frozen (blk_below HR.out E4.out.b) 2
        go_wp2
        refine bodyPost_ret (results_cell_row rfl _ _ gr 31 #[.bool true, .int .i64 t2, .int .i64 t3] (0, 0) _ rfl (h18_blk3 (blk_below HR.out E4.out.b) _ _ _) Try.underlying31 rfl (by kernel_rfl)) rfl ⟨rfl, h18_below3 (below_step HB.out E4.out.b) (by have := HGB.out; have := HGR.out; omega) _ _ _⟩
   ·
    have cjb : decide (j < (nd.f1.length : Int)) = false := decide_eq_false cj
    rw [h18_end nd.f1 j cj] at h
    rw [vetchref18_Node.seqF] at h
    clear cj
    simp only [Option.some.injEq, Prod.mk.injEq] at h
    obtain ⟨rfl, rfl, rfl⟩ := h
    have x1 := (blk_cell E.out.x 1).trans rfl
    have v0 : wr.cell? ⟨gv, 0, none⟩ = some (.bool true) := (blk_cell BV.out 0).trans rfl
    have v1 : wr.cell? ⟨gv, 1, none⟩ = some (.int .i64 e) := (blk_cell BV.out 1).trans rfl
    have v2 : wr.cell? ⟨gv, 2, none⟩ = some (.int .i64 q) := (blk_cell BV.out 2).trans rfl
    have rr0 : wr.cell? ⟨gr, 0, none⟩ = some (.bool false) := (blk_cell (blk_below HR.out E.out.b) 0).trans rfl
    have z0 : wr.frozen? ⟨gr, 0, none⟩ = false := blk_frozen (blk_below HR.out E.out.b) 0
    have rr1 : wr.cell? ⟨gr, 1, none⟩ = some (.int .i64 0) := (blk_cell (blk_below HR.out E.out.b) 1).trans rfl
    have z1 : wr.frozen? ⟨gr, 1, none⟩ = false := blk_frozen (blk_below HR.out E.out.b) 1
    have rr2 : wr.cell? ⟨gr, 2, none⟩ = some (.int .i64 0) := (blk_cell (blk_below HR.out E.out.b) 2).trans rfl
    have z2 : wr.frozen? ⟨gr, 2, none⟩ = false := blk_frozen (blk_below HR.out E.out.b) 2
    go_wp2
    refine bodyPost_ret (results_cell_row rfl _ _ gr 31 #[.bool true, .int .i64 e, .int .i64 q] (0, 0) _ rfl (h18_blk3 (blk_below HR.out E.out.b) _ _ _) Try.underlying31 rfl (by kernel_rfl)) rfl ⟨rfl, h18_below3 (below_step HB.out E.out.b) (by have := HGB.out; have := HGR.out; omega) _ _ _⟩
end Go.Proofs.Ythgedejnpgcacaa.V
namespace Go.Proofs.Ythgedejnpgcacaa.V
open Go.RowKit Go.Proofs.YthgedejnpgcacaaW.PrintWords Go.Proofs.YthgedejnpgcacaaW.PrintLast Go.Proofs.YthgedejnpgcacaaW.PrintMore
set_option linter.unusedVariables false
set_option linter.unusedSimpArgs false
set_option maxHeartbeats 4000000 in
set_option maxRecDepth 100000 in
theorem vetchref18_Node.calls_s4 (k : Nat) (ih : ∀ (A0_0 : Option Addr) (c0_0 : Nat) (l0_0 : List S51) (A0_1 : Option Addr) (c0_1 : Nat) (l0_1 : List S56) (a1 : Int) (a2 : ByteArray) (a3 a4 : Int) (r1 : Bool) (r2 r3 : Int) (w : World)
    (hr0_0 : Kd.C k51 w A0_0 l0_0.length l0_0) (hc0_0 : l0_0.length ≤ c0_0) (hr0_1 : Kd.C k56 w A0_1 l0_1.length l0_1) (hc0_1 : l0_1.length ≤ c0_1) (h : vetchref18_Node.f k l0_0 l0_1 a1 a2 a3 a4 = some (r1, r2, r3)), Calls Try.prog 12 #[.agg #[.slice A0_0 l0_0.length c0_0, .slice A0_1 l0_1.length c0_1], .int .i64 a1, .string a2, .int .i64 a3, .int .i64 a4] w fun e w' => e = .returned (.agg #[.bool r1, .int .i64 r2, .int .i64 r3]) ∧ Below w.heap.size w w')
    (A0_0 : Option Addr) (c0_0 : Nat) (l0_0 : List S51) (A0_1 : Option Addr) (c0_1 : Nat) (l0_1 : List S56) (a1 : Int) (a2 : ByteArray) (a3 a4 : Int) (r1 : Bool) (r2 r3 : Int) (w : World)
    (hr0_0 : Kd.C k51 w A0_0 l0_0.length l0_0) (hc0_0 : l0_0.length ≤ c0_0) (hr0_1 : Kd.C k56 w A0_1 l0_1.length l0_1) (hc0_1 : l0_1.length ≤ c0_1) (hs : Aside0 (¬ a4 < 1 ∧ (0 ≤ a1 ∧ a1 < (l0_1.length : Int)) ∧ (rd_T56 l0_1 a1).f0 = 4)) (h : vetchref18_Node.f (k + 1) l0_0 l0_1 a1 a2 a3 a4 = some (r1, r2, r3)) :
    Calls Try.prog 12 #[.agg #[.slice A0_0 l0_0.length c0_0, .slice A0_1 l0_1.length c0_1], .int .i64 a1, .string a2, .int .i64 a3, .int .i64 a4] w fun e w' => e = .returned (.agg #[.bool r1, .int .i64 r2, .int .i64 r3]) ∧ Below w.heap.size w w' := by
  rw [vetchref18_Node.f] at h
  have IH := Aside0.mk ih
  clear ih
  have hu25 := Try.underlying25
  have hu31 := Try.underlying31
  have hu56 := Try.underlying56
  have hu51 := Try.underlying51
  have hu54 := Try.underlying54
  have HB := Aside0.mk (below_alloc (below_alloc (Below.refl w.heap.size w) (.cells #[.slice A0_0 l0_0.length c0_0, .slice A0_1 l0_1.length c0_1] 25)) (.cells #[.bool false, .int .i64 0, .int .i64 0] 31))
  have HG := Aside0.mk (blk_alloc (blk_new w (.cells #[.slice A0_0 l0_0.length c0_0, .slice A0_1 l0_1.length c0_1] 25)) (.cells #[.bool false, .int .i64 0, .int .i64 0] 31))
  have HR := Aside0.mk (blk_new (w.alloc (.cells #[.slice A0_0 l0_0.length c0_0, .slice A0_1 l0_1.length c0_1] 25)) (.cells #[.bool false, .int .i64 0, .int .i64 0] 31))
  have hsz : ((w.alloc (.cells #[.slice A0_0 l0_0.length c0_0, .slice A0_1 l0_1.length c0_1] 25)).alloc (.cells #[.bool false, .int .i64 0, .int .i64 0] 31)).heap.size = w.heap.size + 1 + 1 := by rw [h18_size, h18_size]
  rw [h18_size] at HR
  have HC0 := Aside0.mk (Kd.C_below hr0_0 HB.out)
  have HC1 := Aside0.mk (Kd.C_below hr0_1 HB.out)
  have HW := Aside0.mk hsz
  clear hr0_0 hr0_1 hsz
  rw [if_neg hs.out.1, if_pos hs.out.2.1] at h
  have c4b : decide (a4 < 1) = false := decide_eq_false hs.out.1
  have H := Aside0.mk h
  clear h
  go_enter Try.func12, Try.ntmps12
  go_upto_region 1 with (fail)
  generalize ((w.alloc (.cells #[.slice A0_0 l0_0.length c0_0, .slice A0_1 l0_1.length c0_1] 25)).alloc (.cells #[.bool false, .int .i64 0, .int .i64 0] 31)) = W1 at HB HG HR HC0 HC1 HW ⊢
  obtain ⟨gb, hgb⟩ : ∃ gb, gb = w.heap.size := ⟨_, rfl⟩
  obtain ⟨gr, hgr⟩ : ∃ gr, gr = gb + 1 := ⟨_, rfl⟩
  rw [← hgb] at HW HG HR ⊢
  rw [← hgr] at HR ⊢
  have HGB := Aside0.mk hgb
  have HGR := Aside0.mk hgr
  clear hgb hgr
  go_upto_region 4 with (fail)
  clear c4b
  have g1 : W1.cell? ⟨gb, 1, none⟩ = some (.slice A0_1 l0_1.length c0_1) := (blk_cell HG.out 1).trans rfl
  have p2 := hs.out.2.1.1
  have p3 := hs.out.2.1.2
  obtain ⟨ad, Ak, ck, e, k0, k1, k2, k3, k4, k5, k6, hlk, hCk⟩ := at_T56 HC1.out a1 p2 p3
  cases e
  have HCk := Aside0.mk hCk
  have HLk := Aside0.mk hlk
  clear hCk hlk
  replace p2 := eq_true p2
  replace p3 := eq_true p3
  go_upto_region 5 with (fail)
  have HS := Aside0.mk hs.out.2.2
  clear hs
  generalize rd_T56 l0_1 a1 = nd at *
  obtain ⟨gx, hgx⟩ : ∃ gx, gx = W1.heap.size := ⟨_, rfl⟩
  have E2 : Aside0 (Env18 W1 gx #[.int .i64 nd.f0, .slice Ak nd.f1.length ck, .int .i64 nd.f2, .int .u64 nd.f3.f0, .int .u64 nd.f3.f1, .int .u64 nd.f3.f2, .int .u64 nd.f3.f3] (W1.alloc (.cells #[.int .i64 nd.f0, .slice Ak nd.f1.length ck, .int .i64 nd.f2, .int .u64 nd.f3.f0, .int .u64 nd.f3.f1, .int .u64 nd.f3.f2, .int .u64 nd.f3.f3] 56))) := ⟨by rw [hgx]; exact blk_new W1 (.cells #[.int .i64 nd.f0, .slice Ak nd.f1.length ck, .int .i64 nd.f2, .int .u64 nd.f3.f0, .int .u64 nd.f3.f1, .int .u64 nd.f3.f2, .int .u64 nd.f3.f3] 56), below_alloc (Below.refl _ _) _⟩
  have HGX := Aside0.mk hgx
  rw [← hgx]
  generalize W1.alloc (.cells #[.int .i64 nd.f0, .slice Ak nd.f1.length ck, .int .i64 nd.f2, .int .u64 nd.f3.f0, .int .u64 nd.f3.f1, .int .u64 nd.f3.f2, .int .u64 nd.f3.f3] 56) = W2 at E2 ⊢
  clear k0 k1 k2 k3 k4 k5 k6 g1 hgx p2 p3
  have h := H.out
  clear H
  have hnd : Aside0 (gb < W1.heap.size ∧ gr < W1.heap.size) := ⟨by have := HW.out; have := HGR.out; omega⟩
  generalize wrap64 (a4 - 1) = u at *
  have x0 : W2.cell? ⟨gx, 0, none⟩ = some (.int .i64 nd.f0) := (blk_cell E2.out.x 0).trans rfl
  go_upto_region 6 with (fail)
  clear x0
  have c0 : ¬ nd.f0 = 0 := by have := HS.out; omega
  rw [if_neg c0] at h
  have b0 : (nd.f0 == 0) = false := beq_eq_false_iff_ne.2 c0
  clear c0
  go_upto_region 8 with (fail)
  clear b0
  have c1 : ¬ nd.f0 = 1 := by have := HS.out; omega
  rw [if_neg c1] at h
  have b1 : (nd.f0 == 1) = false := beq_eq_false_iff_ne.2 c1
  clear c1
  go_upto_region 12 with (fail)
  clear b1
  have c2 : ¬ nd.f0 = 2 := by have := HS.out; omega
  rw [if_neg c2] at h
  have b2 : (nd.f0 == 2) = false := beq_eq_false_iff_ne.2 c2
  clear c2
  go_upto_region 14 with (fail)
  clear b2
  have c3 : ¬ nd.f0 = 3 := by have := HS.out; omega
  rw [if_neg c3] at h
  have b3 : (nd.f0 == 3) = false := beq_eq_false_iff_ne.2 c3
  clear c3
  go_upto_region 23 with (fail)
  clear b3
  have c4 : nd.f0 = 4 := HS.out
  rw [if_pos c4] at h
  have b4 : (nd.f0 == 4) = true := beq_iff_eq.2 c4
  clear c4
  have HMX := Aside0.mk HCk.out.2.1
  go_upto_block 3 with fail
  obtain ⟨gv, hgv⟩ : ∃ gv, gv = W2.heap.size := ⟨_, rfl⟩
  have EV := Aside0.mk (E2.out.below (below_alloc (Below.refl _ _) (.cells #[.bool true, .int .i64 (-1), .int .i64 u] 31)))
  have BV := Aside0.mk (blk_new W2 (.cells #[.bool true, .int .i64 (-1), .int .i64 u] 31))
  rw [← hgv] at BV ⊢
  have HV : Aside0 (gx ≠ gv ∧ W1.heap.size ≤ gv ∧ gr ≠ gv) := ⟨by have := blk_lt E2.out.x; have := E2.out.b.size; have := hnd.out; omega⟩
  generalize W2.alloc (.cells #[.bool true, .int .i64 (-1), .int .i64 u] 31) = V0 at EV BV ⊢
  clear hgv
  go_wp2
  go_loopg [15] nd.f1.length (fun kq v15 w' => ∃ (e q : Int) (j : Int), v15 = .int .i64 j ∧ Aside0 (0 ≤ j ∧ j ≤ (nd.f1.length : Int) ∧ kq + j.toNat = nd.f1.length) ∧ Aside0 (vetchref18_Node.choF (fun c u => vetchref18_Node.f k l0_0 l0_1 c a2 a3 u) (nd.f1.drop j.toNat) e q = some (r1, r2, r3)) ∧ Aside0 (Env18 W1 gx #[.int .i64 nd.f0, .slice Ak nd.f1.length ck, .int .i64 nd.f2, .int .u64 nd.f3.f0, .int .u64 nd.f3.f1, .int .u64 nd.f3.f2, .int .u64 nd.f3.f3] w') ∧ Aside0 (w'.heap[gv]? = some (.cells #[.bool true, .int .i64 e, .int .i64 q] 31 (0, 0))))
  case atStart => exact ⟨(-1), u, 0, rfl, ⟨by omega⟩, ⟨h⟩, EV, BV⟩
  case round =>
   clear h EV BV E2
   obtain ⟨e, q, j, rfl, HJ, HA, E, BV⟩ := hrel
   have h := HA.out
   clear HA
   by_cases cj : j < (nd.f1.length : Int)
   ·
    have jp : 0 ≤ j := by have := HJ.out; omega
    rw [h18_drop nd.f1 j jp cj] at h
    rw [vetchref18_Node.choF] at h
    obtain ⟨⟨t1, t2, t3⟩, ht, h⟩ := Option.bind_eq_some_iff.1 h
    dsimp only at ht h
    have HT := Aside0.mk ht
    have HA := Aside0.mk h
    have HJP := Aside0.mk jp
    have HCJ := Aside0.mk cj
    clear ht h
    have cjb : decide (j < (nd.f1.length : Int)) = true := decide_eq_true cj
    obtain ⟨ad1, he1, kc⟩ := Kd.at_int (Kd.C_below HCk.out E.out.b) j jp cj
    have x1 : wr.cell? ⟨gx, 1, none⟩ = some (.slice (some ad1) nd.f1.length ck) := by rw [← he1]; exact (blk_cell E.out.x 1).trans rfl
    clear he1
    have v0 : wr.cell? ⟨gv, 0, none⟩ = some (.bool true) := (blk_cell BV.out 0).trans rfl
    have v1 : wr.cell? ⟨gv, 1, none⟩ = some (.int .i64 e) := (blk_cell BV.out 1).trans rfl
    have v2 : wr.cell? ⟨gv, 2, none⟩ = some (.int .i64 q) := (blk_cell BV.out 2).trans rfl
    have g0 : wr.cell? ⟨gb, 0, none⟩ = some (.slice A0_0 l0_0.length c0_0) := (blk_cell (blk_below HG.out E.out.b) 0).trans rfl
    have g1 : wr.cell? ⟨gb, 1, none⟩ = some (.slice (some ad) l0_1.length c0_1) := (blk_cell (blk_below HG.out E.out.b) 1).trans rfl
    replace jp := eq_true jp
    replace cj := eq_true cj
    go_upto_region 28 with (fail)
    go_still_tail 10, (by kernel_rfl)
    change wpList _ _ _ _ _ wr.drew
    go_upto_region 29 with (
      go_at_call 12
      refine (IH.out _ _ l0_0 _ _ l0_1 (rd nd.f1 j) a2 (a3) (q) t1 t2 t3 _ (Kd.C_below HC0.out E.out.drew.b) hc0_0 (Kd.C_below HC1.out E.out.drew.b) hc0_1 HT.out).mono ?_
      rintro e_ W3 ⟨rfl, hb_⟩
      have E3 := Aside0.mk (E.out.drew.below hb_)
      have BV3 := Aside0.mk (blk_below (blk_drew BV.out) hb_)
      clear hb_ kc x1 v0 v1 v2 g0 g1 cjb jp cj
      have v0 : W3.cell? ⟨gv, 0, none⟩ = some (.bool true) := (blk_cell BV3.out 0).trans rfl
      have y0 : W3.frozen? ⟨gv, 0, none⟩ = false := blk_frozen BV3.out 0
      have v1 : W3.cell? ⟨gv, 1, none⟩ = some (.int .i64 e) := (blk_cell BV3.out 1).trans rfl
      have y1 : W3.frozen? ⟨gv, 1, none⟩ = false := blk_frozen BV3.out 1
      have v2 : W3.cell? ⟨gv, 2, none⟩ = some (.int .i64 q) := (blk_cell BV3.out 2).trans rfl
      have y2 : W3.frozen? ⟨gv, 2, none⟩ = false := blk_frozen BV3.out 2)
    have E4 := Aside0.mk (E3.out.put3 HV.out.2.1 HV.out.1 (.bool t1) (.int .i64 t2) (.int .i64 t3))
    have BV4 := Aside0.mk (h18_blk3 BV3.out (.bool t1) (.int .i64 t2) (.int .i64 t3))
    generalize (((W3.setCell ⟨gv, 0, none⟩ (.bool t1)).setCell ⟨gv, 1, none⟩ (.int .i64 t2)).setCell ⟨gv, 2, none⟩ (.int .i64 t3)) = V3 at E4 BV4 ⊢
    clear v0 v1 v2 y0 y1 y2 E BV E3 BV3
    have h := HA.out
    clear HA
    cases t1 with
    | false =>
      rw [if_neg (by simp)] at h
      simp only [Option.some.injEq, Prod.mk.injEq] at h
      obtain ⟨rfl, rfl, rfl⟩ := h
      have v0 : V3.cell? ⟨gv, 0, none⟩ = some (.bool false) := (blk_cell BV4.out 0).trans rfl
      have v1 : V3.cell? ⟨gv, 1, none⟩ = some (.int .i64 t2) := (blk_cell BV4.out 1).trans rfl
      have v2 : V3.cell? ⟨gv, 2, none⟩ = some (.int .i64 t3) := (blk_cell BV4.out 2).trans rfl
      have rr0 : V3.cell? ⟨gr, 0, none⟩ = some (.bool false) := (blk_cell (blk_below HR.out E4.out.b) 0).trans rfl
      have z0 : V3.frozen? ⟨gr, 0, none⟩ = false := blk_frozen (blk_below HR.out E4.out.b) 0
      have rr1 : V3.cell? ⟨gr, 1, none⟩ = some (.int .i64 0) := (blk_cell (blk_below HR.out E4.out.b) 1).trans rfl
      have z1 : V3.frozen? ⟨gr, 1, none⟩ = false := blk_frozen (blk_below HR.out E4.out.b) 1
      have rr2 : V3.cell? ⟨gr, 2, none⟩ = some (.int .i64 0) := (blk_cell (blk_below HR.out E4.out.b) 2).trans rfl
      have z2 : V3.frozen? ⟨gr, 2, none⟩ = false := blk_frozen (blk_below HR.out E4.out.b) 2
      go_wp2
      refine bodyPost_ret (results_cell_row rfl _ _ gr 31 #[.bool false, .int .i64 t2, .int .i64 t3] (0, 0) _ rfl (h18_blk3 (blk_below HR.out E4.out.b) _ _ _) Try.underlying31 rfl (by kernel_rfl)) rfl ⟨rfl, h18_below3 (below_step HB.out E4.out.b) (by have := HGB.out; have := HGR.out; omega) _ _ _⟩
    | true =>
      by_cases ct : t2 < 0
      · rw [if_pos ⟨rfl, ct⟩] at h
        have ctb : decide (t2 ≥ 0) = false := decide_eq_false (by omega)
        clear ct
        have v0 : V3.cell? ⟨gv, 0, none⟩ = some (.bool true) := (blk_cell BV4.out 0).trans rfl
        have v1 : V3.cell? ⟨gv, 1, none⟩ = some (.int .i64 t2) := (blk_cell BV4.out 1).trans rfl
        have v2 : V3.cell? ⟨gv, 2, none⟩ = some (.int .i64 t3) := (blk_cell BV4.out 2).trans rfl
        have hw := h18_next j nd.f1.length HJP.out HCJ.out HMX.out
        have HWj := Aside0.mk hw
        clear hw
        go_wp2
        go_roundg (gk - 1)
        case measure => have := HJ.out; have := HCJ.out; omega
        case rel => exact ⟨t2, t3, wrap64 (j + 1), rfl, ⟨by rw [HWj.out]; have := HJ.out; have := HCJ.out; omega⟩, ⟨by rw [HWj.out]; exact h⟩, E4, BV4⟩
      · rw [if_neg (fun x => ct x.2)] at h
        simp only [Option.some.injEq, Prod.mk.injEq] at h
        obtain ⟨rfl, rfl, rfl⟩ := h
        have ctb : decide (t2 ≥ 0) = true := decide_eq_true (by omega)
        clear ct
        have v0 : V3.cell? ⟨gv, 0, none⟩ = some (.bool true) := (blk_cell BV4.out 0).trans rfl
        have v1 : V3.cell? ⟨gv, 1, none⟩ = some (.int .i64 t2) := (blk_cell BV4.out 1).trans rfl
        have v2 : V3.cell? ⟨gv, 2, none⟩ = some (.int .i64 t3) := (blk_cell BV4.out 2).trans rfl
        have rr0 : V3.cell? ⟨gr, 0, none⟩ = some (.bool false) := (blk_cell (blk_below HR.out E4.out.b) 0).trans rfl
        have z0 : V3.frozen? ⟨gr, 0, none⟩ = false := blk_frozen (blk_below HR.out E4.out.b) 0
        have rr1 : V3.cell? ⟨gr, 1, none⟩ = some (.int .i64 0) := (blk_cell (blk_below HR.out E4.out.b) 1).trans rfl
        have z1 : V3.frozen? ⟨gr, 1, none⟩ = false := blk_frozen (blk_below HR.out E4.out.b) 1
        have rr2 : V3.cell? ⟨gr, 2, none⟩ = some (.int .i64 0) := (blk_cell (blk_below HR.out E4.out.b) 2).trans rfl
        have z2 : V3.frozen? ⟨gr, 2, none⟩ = false := blk_frozen (blk_below HR.out E4.out.b) 2
        go_wp2
        refine bodyPost_ret (results_cell_row rfl _ _ gr 31 #[.bool true, .int .i64 t2, .int .i64 t3] (0, 0) _ rfl (h18_blk3 (blk_below HR.out E4.out.b) _ _ _) Try.underlying31 rfl (by kernel_rfl)) rfl ⟨rfl, h18_below3 (below_step HB.out E4.out.b) (by have := HGB.out; have := HGR.out; omega) _ _ _⟩
   ·
    have cjb : decide (j < (nd.f1.length : Int)) = false := decide_eq_false cj
    rw [h18_end nd.f1 j cj] at h
    rw [vetchref18_Node.choF] at h
    clear cj
    simp only [Option.some.injEq, Prod.mk.injEq] at h
    obtain ⟨rfl, rfl, rfl⟩ := h
    have x1 := (blk_cell E.out.x 1).trans rfl
    have v0 : wr.cell? ⟨gv, 0, none⟩ = some (.bool true) := (blk_cell BV.out 0).trans rfl
    have v1 : wr.cell? ⟨gv, 1, none⟩ = some (.int .i64 e) := (blk_cell BV.out 1).trans rfl
    have v2 : wr.cell? ⟨gv, 2, none⟩ = some (.int .i64 q) := (blk_cell BV.out 2).trans rfl
    have rr0 : wr.cell? ⟨gr, 0, none⟩ = some (.bool false) := (blk_cell (blk_below HR.out E.out.b) 0).trans rfl
    have z0 : wr.frozen? ⟨gr, 0, none⟩ = false := blk_frozen (blk_below HR.out E.out.b) 0
    have rr1 : wr.cell? ⟨gr, 1, none⟩ = some (.int .i64 0) := (blk_cell (blk_below HR.out E.out.b) 1).trans rfl
    have z1 : wr.frozen? ⟨gr, 1, none⟩ = false := blk_frozen (blk_below HR.out E.out.b) 1
    have rr2 : wr.cell? ⟨gr, 2, none⟩ = some (.int .i64 0) := (blk_cell (blk_below HR.out E.out.b) 2).trans rfl
    have z2 : wr.frozen? ⟨gr, 2, none⟩ = false := blk_frozen (blk_below HR.out E.out.b) 2
    go_wp2
    refine bodyPost_ret (results_cell_row rfl _ _ gr 31 #[.bool true, .int .i64 e, .int .i64 q] (0, 0) _ rfl (h18_blk3 (blk_below HR.out E.out.b) _ _ _) Try.underlying31 rfl (by kernel_rfl)) rfl ⟨rfl, h18_below3 (below_step HB.out E.out.b) (by have := HGB.out; have := HGR.out; omega) _ _ _⟩
end Go.Proofs.Ythgedejnpgcacaa.V
namespace Go.Proofs.Ythgedejnpgcacaa.V
open Go.RowKit Go.Proofs.YthgedejnpgcacaaW.PrintWords Go.Proofs.YthgedejnpgcacaaW.PrintLast Go.Proofs.YthgedejnpgcacaaW.PrintMore
set_option linter.unusedVariables false
set_option linter.unusedSimpArgs false
set_option maxHeartbeats 4000000 in
set_option maxRecDepth 100000 in
theorem vetchref18_Node.calls_s5 (k : Nat) (ih : ∀ (A0_0 : Option Addr) (c0_0 : Nat) (l0_0 : List S51) (A0_1 : Option Addr) (c0_1 : Nat) (l0_1 : List S56) (a1 : Int) (a2 : ByteArray) (a3 a4 : Int) (r1 : Bool) (r2 r3 : Int) (w : World)
    (hr0_0 : Kd.C k51 w A0_0 l0_0.length l0_0) (hc0_0 : l0_0.length ≤ c0_0) (hr0_1 : Kd.C k56 w A0_1 l0_1.length l0_1) (hc0_1 : l0_1.length ≤ c0_1) (h : vetchref18_Node.f k l0_0 l0_1 a1 a2 a3 a4 = some (r1, r2, r3)), Calls Try.prog 12 #[.agg #[.slice A0_0 l0_0.length c0_0, .slice A0_1 l0_1.length c0_1], .int .i64 a1, .string a2, .int .i64 a3, .int .i64 a4] w fun e w' => e = .returned (.agg #[.bool r1, .int .i64 r2, .int .i64 r3]) ∧ Below w.heap.size w w')
    (A0_0 : Option Addr) (c0_0 : Nat) (l0_0 : List S51) (A0_1 : Option Addr) (c0_1 : Nat) (l0_1 : List S56) (a1 : Int) (a2 : ByteArray) (a3 a4 : Int) (r1 : Bool) (r2 r3 : Int) (w : World)
    (hr0_0 : Kd.C k51 w A0_0 l0_0.length l0_0) (hc0_0 : l0_0.length ≤ c0_0) (hr0_1 : Kd.C k56 w A0_1 l0_1.length l0_1) (hc0_1 : l0_1.length ≤ c0_1) (hs : Aside0 (¬ a4 < 1 ∧ (0 ≤ a1 ∧ a1 < (l0_1.length : Int)) ∧ (rd_T56 l0_1 a1).f0 ≠ 0 ∧ (rd_T56 l0_1 a1).f0 ≠ 1 ∧ (rd_T56 l0_1 a1).f0 ≠ 2 ∧ (rd_T56 l0_1 a1).f0 ≠ 3 ∧ (rd_T56 l0_1 a1).f0 ≠ 4 ∧ (rd_T56 l0_1 a1).f0 ≠ 7 ∧ (rd_T56 l0_1 a1).f0 ≠ 8 ∧ (rd_T56 l0_1 a1).f0 ≠ 9)) (h : vetchref18_Node.f (k + 1) l0_0 l0_1 a1 a2 a3 a4 = some (r1, r2, r3)) :
    Calls Try.prog 12 #[.agg #[.slice A0_0 l0_0.length c0_0, .slice A0_1 l0_1.length c0_1], .int .i64 a1, .string a2, .int .i64 a3, .int .i64 a4] w fun e w' => e = .returned (.agg #[.bool r1, .int .i64 r2, .int .i64 r3]) ∧ Below w.heap.size w w' := by
  rw [vetchref18_Node.f] at h
  have IH := Aside0.mk ih
  clear ih
  have hu25 := Try.underlying25
  have hu31 := Try.underlying31
  have hu56 := Try.underlying56
  have hu51 := Try.underlying51
  have hu54 := Try.underlying54
  have HB := Aside0.mk (below_alloc (below_alloc (Below.refl w.heap.size w) (.cells #[.slice A0_0 l0_0.length c0_0, .slice A0_1 l0_1.length c0_1] 25)) (.cells #[.bool false, .int .i64 0, .int .i64 0] 31))
  have HG := Aside0.mk (blk_alloc (blk_new w (.cells #[.slice A0_0 l0_0.length c0_0, .slice A0_1 l0_1.length c0_1] 25)) (.cells #[.bool false, .int .i64 0, .int .i64 0] 31))
  have HR := Aside0.mk (blk_new (w.alloc (.cells #[.slice A0_0 l0_0.length c0_0, .slice A0_1 l0_1.length c0_1] 25)) (.cells #[.bool false, .int .i64 0, .int .i64 0] 31))
  have hsz : ((w.alloc (.cells #[.slice A0_0 l0_0.length c0_0, .slice A0_1 l0_1.length c0_1] 25)).alloc (.cells #[.bool false, .int .i64 0, .int .i64 0] 31)).heap.size = w.heap.size + 1 + 1 := by rw [h18_size, h18_size]
  rw [h18_size] at HR
  have HC0 := Aside0.mk (Kd.C_below hr0_0 HB.out)
  have HC1 := Aside0.mk (Kd.C_below hr0_1 HB.out)
  have HW := Aside0.mk hsz
  clear hr0_0 hr0_1 hsz
  rw [if_neg hs.out.1, if_pos hs.out.2.1] at h
  have c4b : decide (a4 < 1) = false := decide_eq_false hs.out.1
  have H := Aside0.mk h
  clear h
  go_enter Try.func12, Try.ntmps12
  go_upto_region 1 with (fail)
  generalize ((w.alloc (.cells #[.slice A0_0 l0_0.length c0_0, .slice A0_1 l0_1.length c0_1] 25)).alloc (.cells #[.bool false, .int .i64 0, .int .i64 0] 31)) = W1 at HB HG HR HC0 HC1 HW ⊢
  obtain ⟨gb, hgb⟩ : ∃ gb, gb = w.heap.size := ⟨_, rfl⟩
  obtain ⟨gr, hgr⟩ : ∃ gr, gr = gb + 1 := ⟨_, rfl⟩
  rw [← hgb] at HW HG HR ⊢
  rw [← hgr] at HR ⊢
  have HGB := Aside0.mk hgb
  have HGR := Aside0.mk hgr
  clear hgb hgr
  go_upto_region 4 with (fail)
  clear c4b
  have g1 : W1.cell? ⟨gb, 1, none⟩ = some (.slice A0_1 l0_1.length c0_1) := (blk_cell HG.out 1).trans rfl
  have p2 := hs.out.2.1.1
  have p3 := hs.out.2.1.2
  obtain ⟨ad, Ak, ck, e, k0, k1, k2, k3, k4, k5, k6, hlk, hCk⟩ := at_T56 HC1.out a1 p2 p3
  cases e
  have HCk := Aside0.mk hCk
  have HLk := Aside0.mk hlk
  clear hCk hlk
  replace p2 := eq_true p2
  replace p3 := eq_true p3
  go_upto_region 5 with (fail)
  have HS := Aside0.mk hs.out.2.2
  clear hs
  generalize rd_T56 l0_1 a1 = nd at *
  obtain ⟨gx, hgx⟩ : ∃ gx, gx = W1.heap.size := ⟨_, rfl⟩
  have E2 : Aside0 (Env18 W1 gx #[.int .i64 nd.f0, .slice Ak nd.f1.length ck, .int .i64 nd.f2, .int .u64 nd.f3.f0, .int .u64 nd.f3.f1, .int .u64 nd.f3.f2, .int .u64 nd.f3.f3] (W1.alloc (.cells #[.int .i64 nd.f0, .slice Ak nd.f1.length ck, .int .i64 nd.f2, .int .u64 nd.f3.f0, .int .u64 nd.f3.f1, .int .u64 nd.f3.f2, .int .u64 nd.f3.f3] 56))) := ⟨by rw [hgx]; exact blk_new W1 (.cells #[.int .i64 nd.f0, .slice Ak nd.f1.length ck, .int .i64 nd.f2, .int .u64 nd.f3.f0, .int .u64 nd.f3.f1, .int .u64 nd.f3.f2, .int .u64 nd.f3.f3] 56), below_alloc (Below.refl _ _) _⟩
  have HGX := Aside0.mk hgx
  rw [← hgx]
  generalize W1.alloc (.cells #[.int .i64 nd.f0, .slice Ak nd.f1.length ck, .int .i64 nd.f2, .int .u64 nd.f3.f0, .int .u64 nd.f3.f1, .int .u64 nd.f3.f2, .int .u64 nd.f3.f3] 56) = W2 at E2 ⊢
  clear k0 k1 k2 k3 k4 k5 k6 g1 hgx p2 p3
  have h := H.out
  clear H
  have hnd : Aside0 (gb < W1.heap.size ∧ gr < W1.heap.size) := ⟨by have := HW.out; have := HGR.out; omega⟩
  generalize wrap64 (a4 - 1) = u at *
  have x0 : W2.cell? ⟨gx, 0, none⟩ = some (.int .i64 nd.f0) := (blk_cell E2.out.x 0).trans rfl
  go_upto_region 6 with (fail)
  clear x0
  have c0 : ¬ nd.f0 = 0 := by have := HS.out; omega
  rw [if_neg c0] at h
  have b0 : (nd.f0 == 0) = false := beq_eq_false_iff_ne.2 c0
  clear c0
  go_upto_region 8 with (fail)
  clear b0
  have c1 : ¬ nd.f0 = 1 := by have := HS.out; omega
  rw [if_neg c1] at h
  have b1 : (nd.f0 == 1) = false := beq_eq_false_iff_ne.2 c1
  clear c1
  go_upto_region 12 with (fail)
  clear b1
  have c2 : ¬ nd.f0 = 2 := by have := HS.out; omega
  rw [if_neg c2] at h
  have b2 : (nd.f0 == 2) = false := beq_eq_false_iff_ne.2 c2
  clear c2
  go_upto_region 14 with (fail)
  clear b2
  have c3 : ¬ nd.f0 = 3 := by have := HS.out; omega
  rw [if_neg c3] at h
  have b3 : (nd.f0 == 3) = false := beq_eq_false_iff_ne.2 c3
  clear c3
  go_upto_region 23 with (fail)
  clear b3
  have c4 : ¬ nd.f0 = 4 := by have := HS.out; omega
  rw [if_neg c4] at h
  have b4 : (nd.f0 == 4) = false := beq_eq_false_iff_ne.2 c4
  clear c4
  by_cases ck0 : nd.f1 = []
  · rw [if_pos ck0] at h
    exact absurd h (by simp)
  rw [if_neg ck0] at h
  have q9 := h18_mem nd.f1 ck0
  have HQ9 := Aside0.mk q9
  clear ck0
  obtain ⟨⟨t1, t2, t3⟩, ht, h⟩ := Option.bind_eq_some_iff.1 h
  dsimp only at ht h
  have HT := Aside0.mk ht
  have HA := Aside0.mk h
  clear ht h
  obtain ⟨ad1, he1, kc⟩ := Kd.at_int HCk.out 0 (Int.le_refl 0) HQ9.out
  cases he1
  replace kc : W1.cell? ad1 = some (.int .i64 (rd nd.f1 0)) := by simpa [Addr.add] using kc
  have HKC := Aside0.mk kc
  clear kc q9
  have kc := (E2.out.b.cell (World.block_lt_of_cell? W1 _ HKC.out)).trans HKC.out
  have x1 : W2.cell? ⟨gx, 1, none⟩ = some (.slice (some ad1) nd.f1.length ck) := (blk_cell E2.out.x 1).trans rfl
  have g0 : W2.cell? ⟨gb, 0, none⟩ = some (.slice A0_0 l0_0.length c0_0) := (blk_cell (blk_below HG.out E2.out.b) 0).trans rfl
  have g1 : W2.cell? ⟨gb, 1, none⟩ = some (.slice (some ad) l0_1.length c0_1) := (blk_cell (blk_below HG.out E2.out.b) 1).trans rfl
  have q9i := eq_true HQ9.out
  have q9n : (0 < nd.f1.length) = True := eq_true (by have := HQ9.out; omega)
  go_upto_region 32 with (fail)
  clear b4
  have EW := Aside0.mk E2.out.drew
  clear kc x1 g0 g1
  refine start_ (n := 11) (S := fun w' => w'.cell? ⟨gb, 0, none⟩ = some (.slice A0_0 l0_0.length c0_0) ∧ w'.cell? ⟨gb, 1, none⟩ = some (.slice (some ad) l0_1.length c0_1) ∧ w'.cell? ⟨gx, 1, none⟩ = some (.slice (some ad1) nd.f1.length ck) ∧ w'.cell? ad1 = some (.int .i64 (rd nd.f1 0))) (ds := []) #[false, false, false, false, false, false, false, false, false, false, false] (by kernel_rfl) rfl rfl ⟨(blk_cell (blk_below HG.out EW.out.b) 0).trans rfl, (blk_cell (blk_below HG.out EW.out.b) 1).trans rfl, (blk_cell EW.out.x 1).trans rfl, (EW.out.b.cell (World.block_lt_of_cell? W1 _ HKC.out)).trans HKC.out⟩ (fun hHeld => ?_); refine with_tabW h18_tab32 h18_bits32 (fun HT_ HW_ => ?_)
  generalize W2.drew = W3 at EW hHeld ⊢
  refine pure_ (i := 1) (N := some 136) (v := ?_) (a' := ?_) #[false, true, false, false, false, false, false, false, false, false, false] rfl rfl (any_of HT_.out (by kernel_rfl)) (fun _ _ _ h => h) (Or.inl ⟨by rfl, ?_⟩) ?_ ?_
  rotate_left
  ·
   intro w'
   go_simp
   with_reducible rfl
  rotate_left
  ·
   simp only [Act.put, List.setIfInBounds_toArray, List.set_cons_zero, List.set_cons_succ, i64_w, i32_w]
   rfl
  refine pure_ (i := 5) (N := some 140) (v := ?_) (a' := ?_) #[false, true, false, false, false, true, false, false, false, false, false] rfl rfl (any_of HT_.out (by kernel_rfl)) (fun _ _ _ h => h) (Or.inl ⟨by rfl, ?_⟩) ?_ ?_
  rotate_left
  ·
   intro w'
   go_simp
   with_reducible rfl
  rotate_left
  ·
   simp only [Act.put, List.setIfInBounds_toArray, List.set_cons_zero, List.set_cons_succ, i64_w, i32_w]
   rfl
  refine pure_ (i := 6) (N := some 141) (v := ?_) (a' := ?_) #[false, true, false, false, false, true, true, false, false, false, false] rfl rfl (any_of HT_.out (by kernel_rfl)) (fun _ _ _ h => h) (Or.inl ⟨by rfl, ?_⟩) ?_ ?_
  rotate_left
  ·
   intro w'
   go_simp
   with_reducible rfl
  rotate_left
  ·
   simp only [Act.put, List.setIfInBounds_toArray, List.set_cons_zero, List.set_cons_succ, i64_w, i32_w]
   rfl
  refine pure_ (i := 7) (N := some 142) (v := ?_) (a' := ?_) #[false, true, false, false, false, true, true, true, false, false, false] rfl rfl (any_of HT_.out (by kernel_rfl)) (fun _ _ _ h => h) (Or.inl ⟨by rfl, ?_⟩) ?_ ?_
  rotate_left
  ·
   intro w'
   go_simp
   with_reducible rfl
  rotate_left
  ·
   simp only [Act.put, List.setIfInBounds_toArray, List.set_cons_zero, List.set_cons_succ, i64_w, i32_w]
   rfl
  refine take_ (i := 0) (N := some 135) (v := ?_) (a' := ?_) #[true, true, false, false, false, true, true, true, false, false, false] rfl rfl (take_ofW HT_.out HW_.out (by kernel_rfl)) (fun _ _ _ h => h) (Or.inl ⟨by rfl, ?_⟩) hHeld ?_ ?_
  rotate_left
  ·
   rintro w' ⟨s0, s1, s2, s3⟩
   go_simp
   with_reducible rfl
  rotate_left
  ·
   simp only [Act.put, List.setIfInBounds_toArray, List.set_cons_zero, List.set_cons_succ, i64_w, i32_w]
   rfl
  refine take_ (i := 2) (N := some 137) (v := ?_) (a' := ?_) #[true, true, true, false, false, true, true, true, false, false, false] rfl rfl (take_ofW HT_.out HW_.out (by kernel_rfl)) (fun _ _ _ h => h) (Or.inl ⟨by rfl, ?_⟩) hHeld ?_ ?_
  rotate_left
  ·
   rintro w' ⟨s0, s1, s2, s3⟩
   go_simp
   with_reducible rfl
  rotate_left
  ·
   simp only [Act.put, List.setIfInBounds_toArray, List.set_cons_zero, List.set_cons_succ, i64_w, i32_w]
   rfl
  refine pure_ (i := 3) (N := some 138) (v := ?_) (a' := ?_) #[true, true, true, true, false, true, true, true, false, false, false] rfl rfl (any_of HT_.out (by kernel_rfl)) (fun _ _ _ h => h) (Or.inl ⟨by rfl, ?_⟩) ?_ ?_
  rotate_left
  ·
   intro w'
   go_simp
   with_reducible rfl
  rotate_left
  ·
   simp only [Act.put, List.setIfInBounds_toArray, List.set_cons_zero, List.set_cons_succ, i64_w, i32_w]
   rfl
  refine take_ (i := 4) (N := some 139) (v := ?_) (a' := ?_) #[true, true, true, true, true, true, true, true, false, false, false] rfl rfl (take_ofW HT_.out HW_.out (by kernel_rfl)) (fun _ _ _ h => h) (Or.inl ⟨by rfl, ?_⟩) hHeld ?_ ?_
  rotate_left
  ·
   rintro w' ⟨s0, s1, s2, s3⟩
   go_simp
   with_reducible rfl
  rotate_left
  ·
   simp only [Act.put, List.setIfInBounds_toArray, List.set_cons_zero, List.set_cons_succ, i64_w, i32_w]
   rfl
  refine join_ (σ := Nat) 1 #[true, true, true, true, true, true, true, true, true, true, false] (fun s_ => [(143, .agg #[.bool t1, .int .i64 t2, .int .i64 t3]), (16, .pointer (some ⟨s_, 0, none⟩))]) (fun s_ w' => (w'.cell? ⟨gb, 0, none⟩ = some (.slice A0_0 l0_0.length c0_0) ∧ w'.cell? ⟨gb, 1, none⟩ = some (.slice (some ad) l0_1.length c0_1) ∧ w'.cell? ⟨gx, 1, none⟩ = some (.slice (some ad1) nd.f1.length ck) ∧ w'.cell? ad1 = some (.int .i64 (rd nd.f1 0))) ∧ Env18 W1 gx #[.int .i64 nd.f0, .slice (some ad1) nd.f1.length ck, .int .i64 nd.f2, .int .u64 nd.f3.f0, .int .u64 nd.f3.f1, .int .u64 nd.f3.f2, .int .u64 nd.f3.f3] w' ∧ w'.heap[s_]? = some (.cells #[.bool false, .int .i64 0, .int .i64 0] 31 (0, 0)) ∧ gx ≠ s_ ∧ W1.heap.size ≤ s_) ?_ ?_
  rotate_left
  ·
   intro hCont
   refine two_ (i := 8) (j := 9) (Ni := some 143) (Nj := some 16) #[true, true, true, true, true, true, true, true, true, false, false] #[true, true, true, true, true, true, true, true, false, true, false] rfl rfl rfl rfl (two_of HT_.out (by kernel_rfl)) (by decide) (by decide) (fun K hK => ?_) (fun K hK => ?_)
   ·
    refine goes_ Try.func12 (by kernel_rfl) rfl #[.agg #[.slice A0_0 l0_0.length c0_0, .slice (some ad) l0_1.length c0_1], .int .i64 (rd nd.f1 0), .string a2, .int .i64 a3, .int .i64 u] (by rfl) rfl rfl (by (try simp only [List.map_toArray, List.map_cons, List.map_nil]); first | done | rfl) ?_
    refine (IH.out _ _ l0_0 _ _ l0_1 (rd nd.f1 0) a2 a3 u t1 t2 t3 _ (Kd.C_below HC0.out EW.out.b) hc0_0 (Kd.C_below HC1.out EW.out.b) hc0_1 HT.out).mono ?_
    rintro e_ V1 ⟨rfl, hb⟩
    refine ⟨_, rfl, ?_⟩
    have EV1 := Aside0.mk (EW.out.below hb)
    refine hK.out _ _ ⟨(blk_cell (blk_below HG.out EV1.out.b) 0).trans rfl, (blk_cell (blk_below HG.out EV1.out.b) 1).trans rfl, (blk_cell EV1.out.x 1).trans rfl, (EV1.out.b.cell (World.block_lt_of_cell? W1 _ HKC.out)).trans HKC.out⟩ (fun hHeld => ?_)
    clear hK K
    refine norm_ (a' := ?_) ?_ ?_
    rotate_left
    ·
     show Act.put _ (some 143) _ = _
     simp only [Act.put, List.setIfInBounds_toArray, List.set_cons_zero, List.set_cons_succ, i64_w, i32_w]
     rfl
    refine one_ (i := 9) (N := some 16) #[true, true, true, true, true, true, true, true, true, true, false] rfl rfl (one_of HT_.out (by kernel_rfl)) (by decide) (fun K hK => ?_)
    clear hb
    refine box_step ?hg (N := 16) ?hd (cs := #[.bool false, .int .i64 0, .int .i64 0]) (t := 31) ?hr ?_; (case hd => rfl); (case hg => rfl); (case hr => first | (go_simp; done) | (go_simp; rfl))
    intro gv hg V2 hbox hb
    have HBX : gx ≠ gv ∧ W1.heap.size ≤ gv := by rw [hg]; have := blk_lt EV1.out.x; have := EV1.out.b.size; omega
    have EV2 := Aside0.mk (EV1.out.below hb)
    refine hK.out _ _ ⟨(blk_cell (blk_below HG.out EV2.out.b) 0).trans rfl, (blk_cell (blk_below HG.out EV2.out.b) 1).trans rfl, (blk_cell EV2.out.x 1).trans rfl, (EV2.out.b.cell (World.block_lt_of_cell? W1 _ HKC.out)).trans HKC.out⟩ (fun hHeld => ?_)
    clear hK K
    refine norm_ (a' := ?_) ?_ ?_
    rotate_left
    ·
     show Act.put _ (some 16) _ = _
     simp only [Act.put, List.setIfInBounds_toArray, List.set_cons_zero, List.set_cons_succ, i64_w, i32_w]
     rfl
    exact norm_ (by simp only [putAll, Act.put, List.setIfInBounds_toArray, List.set_cons_zero, List.set_cons_succ]) (hCont gv _ ⟨hHeld, EV2.out, hbox, HBX.1, HBX.2⟩)
   ·
    refine box_step ?hg (N := 16) ?hd (cs := #[.bool false, .int .i64 0, .int .i64 0]) (t := 31) ?hr ?_; (case hd => rfl); (case hg => rfl); (case hr => first | (go_simp; done) | (go_simp; rfl))
    intro gv hg V1 hbox hb
    have HBX : gx ≠ gv ∧ W1.heap.size ≤ gv := by rw [hg]; have := blk_lt EW.out.x; have := EW.out.b.size; omega
    have EV1 := Aside0.mk (EW.out.below hb)
    have BX := Aside0.mk hbox
    have HBX := Aside0.mk HBX
    clear hbox hb hg
    refine hK.out _ _ ⟨(blk_cell (blk_below HG.out EV1.out.b) 0).trans rfl, (blk_cell (blk_below HG.out EV1.out.b) 1).trans rfl, (blk_cell EV1.out.x 1).trans rfl, (EV1.out.b.cell (World.block_lt_of_cell? W1 _ HKC.out)).trans HKC.out⟩ (fun hHeld => ?_)
    clear hK K
    refine norm_ (a' := ?_) ?_ ?_
    rotate_left
    ·
     show Act.put _ (some 16) _ = _
     simp only [Act.put, List.setIfInBounds_toArray, List.set_cons_zero, List.set_cons_succ, i64_w, i32_w]
     rfl
    refine one_ (i := 8) (N := some 143) #[true, true, true, true, true, true, true, true, true, true, false] rfl rfl (one_of HT_.out (by kernel_rfl)) (by decide) (fun K hK => ?_)
    refine goes_ Try.func12 (by kernel_rfl) rfl #[.agg #[.slice A0_0 l0_0.length c0_0, .slice (some ad) l0_1.length c0_1], .int .i64 (rd nd.f1 0), .string a2, .int .i64 a3, .int .i64 u] (by rfl) rfl rfl (by (try simp only [List.map_toArray, List.map_cons, List.map_nil]); first | done | rfl) ?_
    refine (IH.out _ _ l0_0 _ _ l0_1 (rd nd.f1 0) a2 a3 u t1 t2 t3 _ (Kd.C_below HC0.out EV1.out.b) hc0_0 (Kd.C_below HC1.out EV1.out.b) hc0_1 HT.out).mono ?_
    rintro e_ V2 ⟨rfl, hb⟩
    refine ⟨_, rfl, ?_⟩
    have EV2 := Aside0.mk (EV1.out.below hb)
    refine hK.out _ _ ⟨(blk_cell (blk_below HG.out EV2.out.b) 0).trans rfl, (blk_cell (blk_below HG.out EV2.out.b) 1).trans rfl, (blk_cell EV2.out.x 1).trans rfl, (EV2.out.b.cell (World.block_lt_of_cell? W1 _ HKC.out)).trans HKC.out⟩ (fun hHeld => ?_)
    clear hK K
    refine norm_ (a' := ?_) ?_ ?_
    rotate_left
    ·
     show Act.put _ (some 143) _ = _
     simp only [Act.put, List.setIfInBounds_toArray, List.set_cons_zero, List.set_cons_succ, i64_w, i32_w]
     rfl
    exact norm_ (by simp only [putAll, Act.put, List.setIfInBounds_toArray, List.set_cons_zero, List.set_cons_succ]) (hCont gv _ ⟨hHeld, EV2.out, blk_below BX.out hb, HBX.out.1, HBX.out.2⟩)
  rintro gv V3 ⟨hHeld, hE_, hB_, hn_, hg_⟩
  have EV3 := Aside0.mk hE_
  have BV3 := Aside0.mk hB_
  have HV : Aside0 (gx ≠ gv ∧ W1.heap.size ≤ gv ∧ gr ≠ gv) := ⟨hn_, hg_, by have := hnd.out; omega⟩
  clear hE_ hB_ hn_ hg_
  refine norm_ (a' := ?_) ?_ ?_
  rotate_left
  ·
   simp only [putAll, Act.put, List.setIfInBounds_toArray, List.set_cons_zero, List.set_cons_succ]
   rfl
  refine one_ (i := 10) (N := none) #[true, true, true, true, true, true, true, true, true, true, true] rfl rfl (one_of HT_.out (by kernel_rfl)) (by decide) (fun K hK => ?_)
  have v0 : V3.cell? ⟨gv, 0, none⟩ = some (.bool false) := (blk_cell BV3.out 0).trans rfl
  have y0 : V3.frozen? ⟨gv, 0, none⟩ = false := blk_frozen BV3.out 0
  have v1 : V3.cell? ⟨gv, 1, none⟩ = some (.int .i64 0) := (blk_cell BV3.out 1).trans rfl
  have y1 : V3.frozen? ⟨gv, 1, none⟩ = false := blk_frozen BV3.out 1
  have v2 : V3.cell? ⟨gv, 2, none⟩ = some (.int .i64 0) := (blk_cell BV3.out 2).trans rfl
  have y2 : V3.frozen? ⟨gv, 2, none⟩ = false := blk_frozen BV3.out 2
  refine skip_ (w1 := ?_) (by rfl) rfl ?_ ?_
  rotate_left
  ·
   go_simp
   rfl
  have EV := Aside0.mk (EV3.out.put3 HV.out.2.1 HV.out.1 (.bool t1) (.int .i64 t2) (.int .i64 t3))
  have BV := Aside0.mk (h18_blk3 BV3.out (.bool t1) (.int .i64 t2) (.int .i64 t3))
  refine hK.out _ _ ⟨(blk_cell (blk_below HG.out EV.out.b) 0).trans rfl, (blk_cell (blk_below HG.out EV.out.b) 1).trans rfl, (blk_cell EV.out.x 1).trans rfl, (EV.out.b.cell (World.block_lt_of_cell? W1 _ HKC.out)).trans HKC.out⟩ (fun hHeld => ?_)
  clear hK K
  refine done_ (done_of HT_.out (by kernel_rfl)) ?_
  clear hHeld v0 v1 v2 y0 y1 y2
  generalize (((V3.setCell ⟨gv, 0, none⟩ (.bool t1)).setCell ⟨gv, 1, none⟩ (.int .i64 t2)).setCell ⟨gv, 2, none⟩ (.int .i64 t3)) = V0 at EV BV ⊢
  clear EV3 BV3
  have v0 : V0.cell? ⟨gv, 0, none⟩ = some (.bool t1) := (blk_cell BV.out 0).trans rfl
  have v1 : V0.cell? ⟨gv, 1, none⟩ = some (.int .i64 t2) := (blk_cell BV.out 1).trans rfl
  have v2 : V0.cell? ⟨gv, 2, none⟩ = some (.int .i64 t3) := (blk_cell BV.out 2).trans rfl
  go_upto_region 33 with (fail)
  clear v0 v1 v2
  have h := HA.out
  clear HA
  cases t1 with
  | false =>
    rw [if_pos rfl] at h
    simp only [Option.some.injEq, Prod.mk.injEq] at h
    obtain ⟨rfl, rfl, rfl⟩ := h
    have v0 : V0.cell? ⟨gv, 0, none⟩ = some (.bool false) := (blk_cell BV.out 0).trans rfl
    have v1 : V0.cell? ⟨gv, 1, none⟩ = some (.int .i64 t2) := (blk_cell BV.out 1).trans rfl
    have v2 : V0.cell? ⟨gv, 2, none⟩ = some (.int .i64 t3) := (blk_cell BV.out 2).trans rfl
    have rr0 : V0.cell? ⟨gr, 0, none⟩ = some (.bool false) := (blk_cell (blk_below HR.out EV.out.b) 0).trans rfl
    have z0 : V0.frozen? ⟨gr, 0, none⟩ = false := blk_frozen (blk_below HR.out EV.out.b) 0
    have rr1 : V0.cell? ⟨gr, 1, none⟩ = some (.int .i64 0) := (blk_cell (blk_below HR.out EV.out.b) 1).trans rfl
    have z1 : V0.frozen? ⟨gr, 1, none⟩ = false := blk_frozen (blk_below HR.out EV.out.b) 1
    have rr2 : V0.cell? ⟨gr, 2, none⟩ = some (.int .i64 0) := (blk_cell (blk_below HR.out EV.out.b) 2).trans rfl
    have z2 : V0.frozen? ⟨gr, 2, none⟩ = false := blk_frozen (blk_below HR.out EV.out.b) 2
    go_wp2
    refine bodyPost_ret (results_cell_row rfl _ _ gr 31 #[.bool false, .int .i64 t2, .int .i64 t3] (0, 0) _ rfl (h18_blk3 (blk_below HR.out EV.out.b) _ _ _) Try.underlying31 rfl (by kernel_rfl)) rfl ⟨rfl, h18_below3 (below_step HB.out EV.out.b) (by have := HGB.out; have := HGR.out; omega) _ _ _⟩
  | true =>
    rw [if_neg (by decide)] at h
    have v0 : V0.cell? ⟨gv, 0, none⟩ = some (.bool true) := (blk_cell BV.out 0).trans rfl
    have v1 : V0.cell? ⟨gv, 1, none⟩ = some (.int .i64 t2) := (blk_cell BV.out 1).trans rfl
    have v2 : V0.cell? ⟨gv, 2, none⟩ = some (.int .i64 t3) := (blk_cell BV.out 2).trans rfl
    have x0 : V0.cell? ⟨gx, 0, none⟩ = some (.int .i64 nd.f0) := (blk_cell EV.out.x 0).trans rfl
    go_upto_region 36 with (fail)
    have c7 : ¬ nd.f0 = 7 := by have := HS.out; omega
    rw [if_neg c7] at h
    have b7 : (nd.f0 == 7) = false := beq_eq_false_iff_ne.2 c7
    clear c7
    go_upto_region 40 with (fail)
    clear b7
    have c8 : ¬ nd.f0 = 8 := by have := HS.out; omega
    rw [if_neg c8] at h
    have b8 : (nd.f0 == 8) = false := beq_eq_false_iff_ne.2 c8
    clear c8
    go_upto_region 44 with (fail)
    clear b8
    have c9 : ¬ nd.f0 = 9 := by have := HS.out; omega
    rw [if_neg c9] at h
    have b9 : (nd.f0 == 9) = false := beq_eq_false_iff_ne.2 c9
    clear c9
    go_upto_region 48 with (fail)
    clear b9
    by_cases c6 : t2 < 0 ∧ nd.f0 = 6
    · rw [if_pos c6] at h
      simp only [Option.some.injEq, Prod.mk.injEq] at h
      obtain ⟨rfl, rfl, rfl⟩ := h
      have ctb : decide (t2 < 0) = true := decide_eq_true c6.1
      have b6 : (nd.f0 == 6) = true := beq_iff_eq.2 c6.2
      clear c6
      have rr0 : V0.cell? ⟨gr, 0, none⟩ = some (.bool false) := (blk_cell (blk_below HR.out EV.out.b) 0).trans rfl
      have z0 : V0.frozen? ⟨gr, 0, none⟩ = false := blk_frozen (blk_below HR.out EV.out.b) 0
      have rr1 : V0.cell? ⟨gr, 1, none⟩ = some (.int .i64 0) := (blk_cell (blk_below HR.out EV.out.b) 1).trans rfl
      have z1 : V0.frozen? ⟨gr, 1, none⟩ = false := blk_frozen (blk_below HR.out EV.out.b) 1
      have rr2 : V0.cell? ⟨gr, 2, none⟩ = some (.int .i64 0) := (blk_cell (blk_below HR.out EV.out.b) 2).trans rfl
      have z2 : V0.frozen? ⟨gr, 2, none⟩ = false := blk_frozen (blk_below HR.out EV.out.b) 2
      go_wp2
      refine bodyPost_ret (results_cell_row rfl _ _ gr 31 #[.bool true, .int .i64 t2, .int .i64 t3] (0, 0) _ rfl (h18_blk3 (blk_below HR.out EV.out.b) _ _ _) Try.underlying31 rfl (by kernel_rfl)) rfl ⟨rfl, h18_below3 (below_step HB.out EV.out.b) (by have := HGB.out; have := HGR.out; omega) _ _ _⟩
    rw [if_neg c6] at h
    go_cut [189] (fun v189 wc => v189 = .bool false ∧ Aside0 (Env18 W1 gx #[.int .i64 nd.f0, .slice (some ad1) nd.f1.length ck, .int .i64 nd.f2, .int .u64 nd.f3.f0, .int .u64 nd.f3.f1, .int .u64 nd.f3.f2, .int .u64 nd.f3.f3] wc) ∧ Aside0 (wc.heap[gv]? = some (.cells #[.bool true, .int .i64 t2, .int .i64 t3] 31 (0, 0))))
    case first =>
     by_cases ct : t2 < 0
     · have ctb : decide (t2 < 0) = true := decide_eq_true ct
       have b6 : (nd.f0 == 6) = false := beq_eq_false_iff_ne.2 (fun x => c6 ⟨ct, x⟩)
       clear ct c6
       go_wp2
       go_meet
       exact ⟨rfl, EV, BV⟩
     · have ctb : decide (t2 < 0) = false := decide_eq_false ct
       clear ct c6
       go_wp2
       go_meet
       exact ⟨rfl, EV, BV⟩
    case rest =>
     clear EV BV v0 v1 v2 x0 c6
     obtain ⟨rfl, EV, BV⟩ := hcut
     go_upto_block 6 with fail
     go_wp2
     go_loopg [17] k (fun kq v17 w' => ∃ (la : Int) (q1 : Bool) (q2 q3 : Int), v17 = .int .i64 la ∧ Aside0 (vetchref18_Node.repF (fun a u => vetchref18_Node.f k l0_0 l0_1 (rd nd.f1 0) a2 a u) kq la (q1, q2, q3) = some (r1, r2, r3)) ∧ Aside0 (Env18 W1 gx #[.int .i64 nd.f0, .slice (some ad1) nd.f1.length ck, .int .i64 nd.f2, .int .u64 nd.f3.f0, .int .u64 nd.f3.f1, .int .u64 nd.f3.f2, .int .u64 nd.f3.f3] w') ∧ Aside0 (w'.heap[gv]? = some (.cells #[.bool q1, .int .i64 q2, .int .i64 q3] 31 (0, 0))))
     case atStart => exact ⟨a3, true, t2, t3, rfl, ⟨h⟩, EV, BV⟩
     case round =>
      clear h EV BV E2 HT
      obtain ⟨la, q1, q2, q3, rfl, HA, E, BV⟩ := hrel
      have h := HA.out
      clear HA
      cases gk with
      | zero => exact absurd h (by simp [vetchref18_Node.repF])
      | succ k1 =>
       rw [vetchref18_Node.repF] at h
       have v0 : wr.cell? ⟨gv, 0, none⟩ = some (.bool q1) := (blk_cell BV.out 0).trans rfl
       have v1 : wr.cell? ⟨gv, 1, none⟩ = some (.int .i64 q2) := (blk_cell BV.out 1).trans rfl
       have v2 : wr.cell? ⟨gv, 2, none⟩ = some (.int .i64 q3) := (blk_cell BV.out 2).trans rfl
       cases q1 with
       | false =>
         rw [if_neg (by simp), if_neg (by simp)] at h
         simp only [Option.some.injEq, Prod.mk.injEq] at h
         obtain ⟨rfl, rfl, rfl⟩ := h
         have rr0 : wr.cell? ⟨gr, 0, none⟩ = some (.bool false) := (blk_cell (blk_below HR.out E.out.b) 0).trans rfl
         have z0 : wr.frozen? ⟨gr, 0, none⟩ = false := blk_frozen (blk_below HR.out E.out.b) 0
         have rr1 : wr.cell? ⟨gr, 1, none⟩ = some (.int .i64 0) := (blk_cell (blk_below HR.out E.out.b) 1).trans rfl
         have z1 : wr.frozen? ⟨gr, 1, none⟩ = false := blk_frozen (blk_below HR.out E.out.b) 1
         have rr2 : wr.cell? ⟨gr, 2, none⟩ = some (.int .i64 0) := (blk_cell (blk_below HR.out E.out.b) 2).trans rfl
         have z2 : wr.frozen? ⟨gr, 2, none⟩ = false := blk_frozen (blk_below HR.out E.out.b) 2
         go_wp2
         refine bodyPost_ret (results_cell_row rfl _ _ gr 31 #[.bool false, .int .i64 q2, .int .i64 q3] (0, 0) _ rfl (h18_blk3 (blk_below HR.out E.out.b) _ _ _) Try.underlying31 rfl (by kernel_rfl)) rfl ⟨rfl, h18_below3 (below_step HB.out E.out.b) (by have := HGB.out; have := HGR.out; omega) _ _ _⟩
       | true =>
         by_cases cq : 0 ≤ q2
         · rw [if_pos ⟨rfl, cq⟩] at h
           obtain ⟨⟨t1, t2, t3⟩, ht, h⟩ := Option.bind_eq_some_iff.1 h
           dsimp only at ht h
           have HT := Aside0.mk ht
           have HA := Aside0.mk h
           clear ht h
           have cqb : decide (q2 ≥ 0) = true := decide_eq_true cq
           clear cq
           have kc := (E.out.b.cell (World.block_lt_of_cell? W1 _ HKC.out)).trans HKC.out
           have x1 : wr.cell? ⟨gx, 1, none⟩ = some (.slice (some ad1) nd.f1.length ck) := (blk_cell E.out.x 1).trans rfl
           have g0 : wr.cell? ⟨gb, 0, none⟩ = some (.slice A0_0 l0_0.length c0_0) := (blk_cell (blk_below HG.out E.out.b) 0).trans rfl
           have g1 : wr.cell? ⟨gb, 1, none⟩ = some (.slice (some ad) l0_1.length c0_1) := (blk_cell (blk_below HG.out E.out.b) 1).trans rfl
           have q9i := eq_true HQ9.out
           have q9n : (0 < nd.f1.length) = True := eq_true (by have := HQ9.out; omega)
           go_upto_region 53 with (fail)
           go_still_tail 9, (by kernel_rfl)
           change wpList _ _ _ _ _ wr.drew
           go_wp2_with (
             go_at_call 12
             refine (IH.out _ _ l0_0 _ _ l0_1 (rd nd.f1 0) a2 (q2) (q3) t1 t2 t3 _ (Kd.C_below HC0.out E.out.drew.b) hc0_0 (Kd.C_below HC1.out E.out.drew.b) hc0_1 HT.out).mono ?_
             rintro e_ W3 ⟨rfl, hb_⟩
             have E3 := Aside0.mk (E.out.drew.below hb_)
             have BV3 := Aside0.mk (blk_below (blk_drew BV.out) hb_)
             clear hb_ kc x1 v0 v1 v2 g0 g1 cqb q9i q9n
             have v0 : W3.cell? ⟨gv, 0, none⟩ = some (.bool true) := (blk_cell BV3.out 0).trans rfl
             have y0 : W3.frozen? ⟨gv, 0, none⟩ = false := blk_frozen BV3.out 0
             have v1 : W3.cell? ⟨gv, 1, none⟩ = some (.int .i64 q2) := (blk_cell BV3.out 1).trans rfl
             have y1 : W3.frozen? ⟨gv, 1, none⟩ = false := blk_frozen BV3.out 1
             have v2 : W3.cell? ⟨gv, 2, none⟩ = some (.int .i64 q3) := (blk_cell BV3.out 2).trans rfl
             have y2 : W3.frozen? ⟨gv, 2, none⟩ = false := blk_frozen BV3.out 2)
           go_roundg k1
           case measure => omega
           case rel => exact ⟨q2, t1, t2, t3, rfl, HA, ⟨E3.out.put3 HV.out.2.1 HV.out.1 _ _ _⟩, ⟨h18_blk3 BV3.out _ _ _⟩⟩
         · rw [if_neg (fun x => cq x.2), if_pos rfl] at h
           simp only [Option.some.injEq, Prod.mk.injEq] at h
           obtain ⟨rfl, rfl, rfl⟩ := h
           have cqb : decide (q2 ≥ 0) = false := decide_eq_false cq
           clear cq
           have rr0 : wr.cell? ⟨gr, 0, none⟩ = some (.bool false) := (blk_cell (blk_below HR.out E.out.b) 0).trans rfl
           have z0 : wr.frozen? ⟨gr, 0, none⟩ = false := blk_frozen (blk_below HR.out E.out.b) 0
           have rr1 : wr.cell? ⟨gr, 1, none⟩ = some (.int .i64 0) := (blk_cell (blk_below HR.out E.out.b) 1).trans rfl
           have z1 : wr.frozen? ⟨gr, 1, none⟩ = false := blk_frozen (blk_below HR.out E.out.b) 1
           have rr2 : wr.cell? ⟨gr, 2, none⟩ = some (.int .i64 0) := (blk_cell (blk_below HR.out E.out.b) 2).trans rfl
           have z2 : wr.frozen? ⟨gr, 2, none⟩ = false := blk_frozen (blk_below HR.out E.out.b) 2
           go_wp2
           refine bodyPost_ret (results_cell_row rfl _ _ gr 31 #[.bool true, .int .i64 la, .int .i64 q3] (0, 0) _ rfl (h18_blk3 (blk_below HR.out E.out.b) _ _ _) Try.underlying31 rfl (by kernel_rfl)) rfl ⟨rfl, h18_below3 (below_step HB.out E.out.b) (by have := HGB.out; have := HGR.out; omega) _ _ _⟩
end Go.Proofs.Ythgedejnpgcacaa.V
namespace Go.Proofs.Ythgedejnpgcacaa.V
open Go.RowKit Go.Proofs.YthgedejnpgcacaaW.PrintWords Go.Proofs.YthgedejnpgcacaaW.PrintLast Go.Proofs.YthgedejnpgcacaaW.PrintMore
set_option linter.unusedVariables false
set_option linter.unusedSimpArgs false
set_option maxHeartbeats 4000000 in
set_option maxRecDepth 100000 in
theorem vetchref18_Node.calls_s7 (k : Nat) (ih : ∀ (A0_0 : Option Addr) (c0_0 : Nat) (l0_0 : List S51) (A0_1 : Option Addr) (c0_1 : Nat) (l0_1 : List S56) (a1 : Int) (a2 : ByteArray) (a3 a4 : Int) (r1 : Bool) (r2 r3 : Int) (w : World)
    (hr0_0 : Kd.C k51 w A0_0 l0_0.length l0_0) (hc0_0 : l0_0.length ≤ c0_0) (hr0_1 : Kd.C k56 w A0_1 l0_1.length l0_1) (hc0_1 : l0_1.length ≤ c0_1) (h : vetchref18_Node.f k l0_0 l0_1 a1 a2 a3 a4 = some (r1, r2, r3)), Calls Try.prog 12 #[.agg #[.slice A0_0 l0_0.length c0_0, .slice A0_1 l0_1.length c0_1], .int .i64 a1, .string a2, .int .i64 a3, .int .i64 a4] w fun e w' => e = .returned (.agg #[.bool r1, .int .i64 r2, .int .i64 r3]) ∧ Below w.heap.size w w')
    (A0_0 : Option Addr) (c0_0 : Nat) (l0_0 : List S51) (A0_1 : Option Addr) (c0_1 : Nat) (l0_1 : List S56) (a1 : Int) (a2 : ByteArray) (a3 a4 : Int) (r1 : Bool) (r2 r3 : Int) (w : World)
    (hr0_0 : Kd.C k51 w A0_0 l0_0.length l0_0) (hc0_0 : l0_0.length ≤ c0_0) (hr0_1 : Kd.C k56 w A0_1 l0_1.length l0_1) (hc0_1 : l0_1.length ≤ c0_1) (hs : Aside0 (¬ a4 < 1 ∧ (0 ≤ a1 ∧ a1 < (l0_1.length : Int)) ∧ (rd_T56 l0_1 a1).f0 = 7)) (h : vetchref18_Node.f (k + 1) l0_0 l0_1 a1 a2 a3 a4 = some (r1, r2, r3)) :
    Calls Try.prog 12 #[.agg #[.slice A0_0 l0_0.length c0_0, .slice A0_1 l0_1.length c0_1], .int .i64 a1, .string a2, .int .i64 a3, .int .i64 a4] w fun e w' => e = .returned (.agg #[.bool r1, .int .i64 r2, .int .i64 r3]) ∧ Below w.heap.size w w' := by
  rw [vetchref18_Node.f] at h
  have IH := Aside0.mk ih
  clear ih
  have hu25 := Try.underlying25
  have hu31 := Try.underlying31
  have hu56 := Try.underlying56
  have hu51 := Try.underlying51
  have hu54 := Try.underlying54
  have HB := Aside0.mk (below_alloc (below_alloc (Below.refl w.heap.size w) (.cells #[.slice A0_0 l0_0.length c0_0, .slice A0_1 l0_1.length c0_1] 25)) (.cells #[.bool false, .int .i64 0, .int .i64 0] 31))
  have HG := Aside0.mk (blk_alloc (blk_new w (.cells #[.slice A0_0 l0_0.length c0_0, .slice A0_1 l0_1.length c0_1] 25)) (.cells #[.bool false, .int .i64 0, .int .i64 0] 31))
  have HR := Aside0.mk (blk_new (w.alloc (.cells #[.slice A0_0 l0_0.length c0_0, .slice A0_1 l0_1.length c0_1] 25)) (.cells #[.bool false, .int .i64 0, .int .i64 0] 31))
  have hsz : ((w.alloc (.cells #[.slice A0_0 l0_0.length c0_0, .slice A0_1 l0_1.length c0_1] 25)).alloc (.cells #[.bool false, .int .i64 0, .int .i64 0] 31)).heap.size = w.heap.size + 1 + 1 := by rw [h18_size, h18_size]
  rw [h18_size] at HR
  have HC0 := Aside0.mk (Kd.C_below hr0_0 HB.out)
  have HC1 := Aside0.mk (Kd.C_below hr0_1 HB.out)
  have HW := Aside0.mk hsz
  clear hr0_0 hr0_1 hsz
  rw [if_neg hs.out.1, if_pos hs.out.2.1] at h
  have c4b : decide (a4 < 1) = false := decide_eq_false hs.out.1
  have H := Aside0.mk h
  clear h
  go_enter Try.func12, Try.ntmps12
  go_upto_region 1 with (fail)
  generalize ((w.alloc (.cells #[.slice A0_0 l0_0.length c0_0, .slice A0_1 l0_1.length c0_1] 25)).alloc (.cells #[.bool false, .int .i64 0, .int .i64 0] 31)) = W1 at HB HG HR HC0 HC1 HW ⊢
  obtain ⟨gb, hgb⟩ : ∃ gb, gb = w.heap.size := ⟨_, rfl⟩
  obtain ⟨gr, hgr⟩ : ∃ gr, gr = gb + 1 := ⟨_, rfl⟩
  rw [← hgb] at HW HG HR ⊢
  rw [← hgr] at HR ⊢
  have HGB := Aside0.mk hgb
  have HGR := Aside0.mk hgr
  clear hgb hgr
  go_upto_region 4 with (fail)
  clear c4b
  have g1 : W1.cell? ⟨gb, 1, none⟩ = some (.slice A0_1 l0_1.length c0_1) := (blk_cell HG.out 1).trans rfl
  have p2 := hs.out.2.1.1
  have p3 := hs.out.2.1.2
  obtain ⟨ad, Ak, ck, e, k0, k1, k2, k3, k4, k5, k6, hlk, hCk⟩ := at_T56 HC1.out a1 p2 p3
  cases e
  have HCk := Aside0.mk hCk
  have HLk := Aside0.mk hlk
  clear hCk hlk
  replace p2 := eq_true p2
  replace p3 := eq_true p3
  go_upto_region 5 with (fail)
  have HS := Aside0.mk hs.out.2.2
  clear hs
  generalize rd_T56 l0_1 a1 = nd at *
  obtain ⟨gx, hgx⟩ : ∃ gx, gx = W1.heap.size := ⟨_, rfl⟩
  have E2 : Aside0 (Env18 W1 gx #[.int .i64 nd.f0, .slice Ak nd.f1.length ck, .int .i64 nd.f2, .int .u64 nd.f3.f0, .int .u64 nd.f3.f1, .int .u64 nd.f3.f2, .int .u64 nd.f3.f3] (W1.alloc (.cells #[.int .i64 nd.f0, .slice Ak nd.f1.length ck, .int .i64 nd.f2, .int .u64 nd.f3.f0, .int .u64 nd.f3.f1, .int .u64 nd.f3.f2, .int .u64 nd.f3.f3] 56))) := ⟨by rw [hgx]; exact blk_new W1 (.cells #[.int .i64 nd.f0, .slice Ak nd.f1.length ck, .int .i64 nd.f2, .int .u64 nd.f3.f0, .int .u64 nd.f3.f1, .int .u64 nd.f3.f2, .int .u64 nd.f3.f3] 56), below_alloc (Below.refl _ _) _⟩
  have HGX := Aside0.mk hgx
  rw [← hgx]
  generalize W1.alloc (.cells #[.int .i64 nd.f0, .slice Ak nd.f1.length ck, .int .i64 nd.f2, .int .u64 nd.f3.f0, .int .u64 nd.f3.f1, .int .u64 nd.f3.f2, .int .u64 nd.f3.f3] 56) = W2 at E2 ⊢
  clear k0 k1 k2 k3 k4 k5 k6 g1 hgx p2 p3
  have h := H.out
  clear H
  have hnd : Aside0 (gb < W1.heap.size ∧ gr < W1.heap.size) := ⟨by have := HW.out; have := HGR.out; omega⟩
  generalize wrap64 (a4 - 1) = u at *
  have x0 : W2.cell? ⟨gx, 0, none⟩ = some (.int .i64 nd.f0) := (blk_cell E2.out.x 0).trans rfl
  go_upto_region 6 with (fail)
  clear x0
  have c0 : ¬ nd.f0 = 0 := by have := HS.out; omega
  rw [if_neg c0] at h
  have b0 : (nd.f0 == 0) = false := beq_eq_false_iff_ne.2 c0
  clear c0
  go_upto_region 8 with (fail)
  clear b0
  have c1 : ¬ nd.f0 = 1 := by have := HS.out; omega
  rw [if_neg c1] at h
  have b1 : (nd.f0 == 1) = false := beq_eq_false_iff_ne.2 c1
  clear c1
  go_upto_region 12 with (fail)
  clear b1
  have c2 : ¬ nd.f0 = 2 := by have := HS.out; omega
  rw [if_neg c2] at h
  have b2 : (nd.f0 == 2) = false := beq_eq_false_iff_ne.2 c2
  clear c2
  go_upto_region 14 with (fail)
  clear b2
  have c3 : ¬ nd.f0 = 3 := by have := HS.out; omega
  rw [if_neg c3] at h
  have b3 : (nd.f0 == 3) = false := beq_eq_false_iff_ne.2 c3
  clear c3
  go_upto_region 23 with (fail)
  clear b3
  have c4 : ¬ nd.f0 = 4 := by have := HS.out; omega
  rw [if_neg c4] at h
  have b4 : (nd.f0 == 4) = false := beq_eq_false_iff_ne.2 c4
  clear c4
  by_cases ck0 : nd.f1 = []
  · rw [if_pos ck0] at h
    exact absurd h (by simp)
  rw [if_neg ck0] at h
  have q9 := h18_mem nd.f1 ck0
  have HQ9 := Aside0.mk q9
  clear ck0
  obtain ⟨⟨t1, t2, t3⟩, ht, h⟩ := Option.bind_eq_some_iff.1 h
  dsimp only at ht h
  have HT := Aside0.mk ht
  have HA := Aside0.mk h
  clear ht h
  obtain ⟨ad1, he1, kc⟩ := Kd.at_int HCk.out 0 (Int.le_refl 0) HQ9.out
  cases he1
  replace kc : W1.cell? ad1 = some (.int .i64 (rd nd.f1 0)) := by simpa [Addr.add] using kc
  have HKC := Aside0.mk kc
  clear kc q9
  have kc := (E2.out.b.cell (World.block_lt_of_cell? W1 _ HKC.out)).trans HKC.out
  have x1 : W2.cell? ⟨gx, 1, none⟩ = some (.slice (some ad1) nd.f1.length ck) := (blk_cell E2.out.x 1).trans rfl
  have g0 : W2.cell? ⟨gb, 0, none⟩ = some (.slice A0_0 l0_0.length c0_0) := (blk_cell (blk_below HG.out E2.out.b) 0).trans rfl
  have g1 : W2.cell? ⟨gb, 1, none⟩ = some (.slice (some ad) l0_1.length c0_1) := (blk_cell (blk_below HG.out E2.out.b) 1).trans rfl
  have q9i := eq_true HQ9.out
  have q9n : (0 < nd.f1.length) = True := eq_true (by have := HQ9.out; omega)
  go_upto_region 32 with (fail)
  clear b4
  have EW := Aside0.mk E2.out.drew
  clear kc x1 g0 g1
  refine start_ (n := 11) (S := fun w' => w'.cell? ⟨gb, 0, none⟩ = some (.slice A0_0 l0_0.length c0_0) ∧ w'.cell? ⟨gb, 1, none⟩ = some (.slice (some ad) l0_1.length c0_1) ∧ w'.cell? ⟨gx, 1, none⟩ = some (.slice (some ad1) nd.f1.length ck) ∧ w'.cell? ad1 = some (.int .i64 (rd nd.f1 0))) (ds := []) #[false, false, false, false, false, false, false, false, false, false, false] (by kernel_rfl) rfl rfl ⟨(blk_cell (blk_below HG.out EW.out.b) 0).trans rfl, (blk_cell (blk_below HG.out EW.out.b) 1).trans rfl, (blk_cell EW.out.x 1).trans rfl, (EW.out.b.cell (World.block_lt_of_cell? W1 _ HKC.out)).trans HKC.out⟩ (fun hHeld => ?_); refine with_tabW h18_tab32 h18_bits32 (fun HT_ HW_ => ?_)
  generalize W2.drew = W3 at EW hHeld ⊢
  refine pure_ (i := 1) (N := some 136) (v := ?_) (a' := ?_) #[false, true, false, false, false, false, false, false, false, false, false] rfl rfl (any_of HT_.out (by kernel_rfl)) (fun _ _ _ h => h) (Or.inl ⟨by rfl, ?_⟩) ?_ ?_
  rotate_left
  ·
   intro w'
   go_simp
   with_reducible rfl
  rotate_left
  ·
   simp only [Act.put, List.setIfInBounds_toArray, List.set_cons_zero, List.set_cons_succ, i64_w, i32_w]
   rfl
  refine pure_ (i := 5) (N := some 140) (v := ?_) (a' := ?_) #[false, true, false, false, false, true, false, false, false, false, false] rfl rfl (any_of HT_.out (by kernel_rfl)) (fun _ _ _ h => h) (Or.inl ⟨by rfl, ?_⟩) ?_ ?_
  rotate_left
  ·
   intro w'
   go_simp
   with_reducible rfl
  rotate_left
  ·
   simp only [Act.put, List.setIfInBounds_toArray, List.set_cons_zero, List.set_cons_succ, i64_w, i32_w]
   rfl
  refine pure_ (i := 6) (N := some 141) (v := ?_) (a' := ?_) #[false, true, false, false, false, true, true, false, false, false, false] rfl rfl (any_of HT_.out (by kernel_rfl)) (fun _ _ _ h => h) (Or.inl ⟨by rfl, ?_⟩) ?_ ?_
  rotate_left
  ·
   intro w'
   go_simp
   with_reducible rfl
  rotate_left
  ·
   simp only [Act.put, List.setIfInBounds_toArray, List.set_cons_zero, List.set_cons_succ, i64_w, i32_w]
   rfl
  refine pure_ (i := 7) (N := some 142) (v := ?_) (a' := ?_) #[false, true, false, false, false, true, true, true, false, false, false] rfl rfl (any_of HT_.out (by kernel_rfl)) (fun _ _ _ h => h) (Or.inl ⟨by rfl, ?_⟩) ?_ ?_
  rotate_left
  ·
   intro w'
   go_simp
   with_reducible rfl
  rotate_left
  ·
   simp only [Act.put, List.setIfInBounds_toArray, List.set_cons_zero, List.set_cons_succ, i64_w, i32_w]
   rfl
  refine take_ (i := 0) (N := some 135) (v := ?_) (a' := ?_) #[true, true, false, false, false, true, true, true, false, false, false] rfl rfl (take_ofW HT_.out HW_.out (by kernel_rfl)) (fun _ _ _ h => h) (Or.inl ⟨by rfl, ?_⟩) hHeld ?_ ?_
  rotate_left
  ·
   rintro w' ⟨s0, s1, s2, s3⟩
   go_simp
   with_reducible rfl
  rotate_left
  ·
   simp only [Act.put, List.setIfInBounds_toArray, List.set_cons_zero, List.set_cons_succ, i64_w, i32_w]
   rfl
  refine take_ (i := 2) (N := some 137) (v := ?_) (a' := ?_) #[true, true, true, false, false, true, true, true, false, false, false] rfl rfl (take_ofW HT_.out HW_.out (by kernel_rfl)) (fun _ _ _ h => h) (Or.inl ⟨by rfl, ?_⟩) hHeld ?_ ?_
  rotate_left
  ·
   rintro w' ⟨s0, s1, s2, s3⟩
   go_simp
   with_reducible rfl
  rotate_left
  ·
   simp only [Act.put, List.setIfInBounds_toArray, List.set_cons_zero, List.set_cons_succ, i64_w, i32_w]
   rfl
  refine pure_ (i := 3) (N := some 138) (v := ?_) (a' := ?_) #[true, true, true, true, false, true, true, true, false, false, false] rfl rfl (any_of HT_.out (by kernel_rfl)) (fun _ _ _ h => h) (Or.inl ⟨by rfl, ?_⟩) ?_ ?_
  rotate_left
  ·
   intro w'
   go_simp
   with_reducible rfl
  rotate_left
  ·
   simp only [Act.put, List.setIfInBounds_toArray, List.set_cons_zero, List.set_cons_succ, i64_w, i32_w]
   rfl
  refine take_ (i := 4) (N := some 139) (v := ?_) (a' := ?_) #[true, true, true, true, true, true, true, true, false, false, false] rfl rfl (take_ofW HT_.out HW_.out (by kernel_rfl)) (fun _ _ _ h => h) (Or.inl ⟨by rfl, ?_⟩) hHeld ?_ ?_
  rotate_left
  ·
   rintro w' ⟨s0, s1, s2, s3⟩
   go_simp
   with_reducible rfl
  rotate_left
  ·
   simp only [Act.put, List.setIfInBounds_toArray, List.set_cons_zero, List.set_cons_succ, i64_w, i32_w]
   rfl
  refine join_ (σ := Nat) 1 #[true, true, true, true, true, true, true, true, true, true, false] (fun s_ => [(143, .agg #[.bool t1, .int .i64 t2, .int .i64 t3]), (16, .pointer (some ⟨s_, 0, none⟩))]) (fun s_ w' => (w'.cell? ⟨gb, 0, none⟩ = some (.slice A0_0 l0_0.length c0_0) ∧ w'.cell? ⟨gb, 1, none⟩ = some (.slice (some ad) l0_1.length c0_1) ∧ w'.cell? ⟨gx, 1, none⟩ = some (.slice (some ad1) nd.f1.length ck) ∧ w'.cell? ad1 = some (.int .i64 (rd nd.f1 0))) ∧ Env18 W1 gx #[.int .i64 nd.f0, .slice (some ad1) nd.f1.length ck, .int .i64 nd.f2, .int .u64 nd.f3.f0, .int .u64 nd.f3.f1, .int .u64 nd.f3.f2, .int .u64 nd.f3.f3] w' ∧ w'.heap[s_]? = some (.cells #[.bool false, .int .i64 0, .int .i64 0] 31 (0, 0)) ∧ gx ≠ s_ ∧ W1.heap.size ≤ s_) ?_ ?_
  rotate_left
  ·
   intro hCont
   refine two_ (i := 8) (j := 9) (Ni := some 143) (Nj := some 16) #[true, true, true, true, true, true, true, true, true, false, false] #[true, true, true, true, true, true, true, true, false, true, false] rfl rfl rfl rfl (two_of HT_.out (by kernel_rfl)) (by decide) (by decide) (fun K hK => ?_) (fun K hK => ?_)
   ·
    refine goes_ Try.func12 (by kernel_rfl) rfl #[.agg #[.slice A0_0 l0_0.length c0_0, .slice (some ad) l0_1.length c0_1], .int .i64 (rd nd.f1 0), .string a2, .int .i64 a3, .int .i64 u] (by rfl) rfl rfl (by (try simp only [List.map_toArray, List.map_cons, List.map_nil]); first | done | rfl) ?_
    refine (IH.out _ _ l0_0 _ _ l0_1 (rd nd.f1 0) a2 a3 u t1 t2 t3 _ (Kd.C_below HC0.out EW.out.b) hc0_0 (Kd.C_below HC1.out EW.out.b) hc0_1 HT.out).mono ?_
    rintro e_ V1 ⟨rfl, hb⟩
    refine ⟨_, rfl, ?_⟩
    have EV1 := Aside0.mk (EW.out.below hb)
    refine hK.out _ _ ⟨(blk_cell (blk_below HG.out EV1.out.b) 0).trans rfl, (blk_cell (blk_below HG.out EV1.out.b) 1).trans rfl, (blk_cell EV1.out.x 1).trans rfl, (EV1.out.b.cell (World.block_lt_of_cell? W1 _ HKC.out)).trans HKC.out⟩ (fun hHeld => ?_)
    clear hK K
    refine norm_ (a' := ?_) ?_ ?_
    rotate_left
    ·
     show Act.put _ (some 143) _ = _
     simp only [Act.put, List.setIfInBounds_toArray, List.set_cons_zero, List.set_cons_succ, i64_w, i32_w]
     rfl
    refine one_ (i := 9) (N := some 16) #[true, true, true, true, true, true, true, true, true, true, false] rfl rfl (one_of HT_.out (by kernel_rfl)) (by decide) (fun K hK => ?_)
    clear hb
    refine box_step ?hg (N := 16) ?hd (cs := #[.bool false, .int .i64 0, .int .i64 0]) (t := 31) ?hr ?_; (case hd => rfl); (case hg => rfl); (case hr => first | (go_simp; done) | (go_simp; rfl))
    intro gv hg V2 hbox hb
    have HBX : gx ≠ gv ∧ W1.heap.size ≤ gv := by rw [hg]; have := blk_lt EV1.out.x; have := EV1.out.b.size; omega
    have EV2 := Aside0.mk (EV1.out.below hb)
    refine hK.out _ _ ⟨(blk_cell (blk_below HG.out EV2.out.b) 0).trans rfl, (blk_cell (blk_below HG.out EV2.out.b) 1).trans rfl, (blk_cell EV2.out.x 1).trans rfl, (EV2.out.b.cell (World.block_lt_of_cell? W1 _ HKC.out)).trans HKC.out⟩ (fun hHeld => ?_)
    clear hK K
    refine norm_ (a' := ?_) ?_ ?_
    rotate_left
    ·
     show Act.put _ (some 16) _ = _
     simp only [Act.put, List.setIfInBounds_toArray, List.set_cons_zero, List.set_cons_succ, i64_w, i32_w]
     rfl
    exact norm_ (by simp only [putAll, Act.put, List.setIfInBounds_toArray, List.set_cons_zero, List.set_cons_succ]) (hCont gv _ ⟨hHeld, EV2.out, hbox, HBX.1, HBX.2⟩)
   ·
    refine box_step ?hg (N := 16) ?hd (cs := #[.bool false, .int .i64 0, .int .i64 0]) (t := 31) ?hr ?_; (case hd => rfl); (case hg => rfl); (case hr => first | (go_simp; done) | (go_simp; rfl))
    intro gv hg V1 hbox hb
    have HBX : gx ≠ gv ∧ W1.heap.size ≤ gv := by rw [hg]; have := blk_lt EW.out.x; have := EW.out.b.size; omega
    have EV1 := Aside0.mk (EW.out.below hb)
    have BX := Aside0.mk hbox
    have HBX := Aside0.mk HBX
    clear hbox hb hg
    refine hK.out _ _ ⟨(blk_cell (blk_below HG.out EV1.out.b) 0).trans rfl, (blk_cell (blk_below HG.out EV1.out.b) 1).trans rfl, (blk_cell EV1.out.x 1).trans rfl, (EV1.out.b.cell (World.block_lt_of_cell? W1 _ HKC.out)).trans HKC.out⟩ (fun hHeld => ?_)
    clear hK K
    refine norm_ (a' := ?_) ?_ ?_
    rotate_left
    ·
     show Act.put _ (some 16) _ = _
     simp only [Act.put, List.setIfInBounds_toArray, List.set_cons_zero, List.set_cons_succ, i64_w, i32_w]
     rfl
    refine one_ (i := 8) (N := some 143) #[true, true, true, true, true, true, true, true, true, true, false] rfl rfl (one_of HT_.out (by kernel_rfl)) (by decide) (fun K hK => ?_)
    refine goes_ Try.func12 (by kernel_rfl) rfl #[.agg #[.slice A0_0 l0_0.length c0_0, .slice (some ad) l0_1.length c0_1], .int .i64 (rd nd.f1 0), .string a2, .int .i64 a3, .int .i64 u] (by rfl) rfl rfl (by (try simp only [List.map_toArray, List.map_cons, List.map_nil]); first | done | rfl) ?_
    refine (IH.out _ _ l0_0 _ _ l0_1 (rd nd.f1 0) a2 a3 u t1 t2 t3 _ (Kd.C_below HC0.out EV1.out.b) hc0_0 (Kd.C_below HC1.out EV1.out.b) hc0_1 HT.out).mono ?_
    rintro e_ V2 ⟨rfl, hb⟩
    refine ⟨_, rfl, ?_⟩
    have EV2 := Aside0.mk (EV1.out.below hb)
    refine hK.out _ _ ⟨(blk_cell (blk_below HG.out EV2.out.b) 0).trans rfl, (blk_cell (blk_below HG.out EV2.out.b) 1).trans rfl, (blk_cell EV2.out.x 1).trans rfl, (EV2.out.b.cell (World.block_lt_of_cell? W1 _ HKC.out)).trans HKC.out⟩ (fun hHeld => ?_)
    clear hK K
    refine norm_ (a' := ?_) ?_ ?_
    rotate_left
    ·
     show Act.put _ (some 143) _ = _
     simp only [Act.put, List.setIfInBounds_toArray, List.set_cons_zero, List.set_cons_succ, i64_w, i32_w]
     rfl
    exact norm_ (by simp only [putAll, Act.put, List.setIfInBounds_toArray, List.set_cons_zero, List.set_cons_succ]) (hCont gv _ ⟨hHeld, EV2.out, blk_below BX.out hb, HBX.out.1, HBX.out.2⟩)
  rintro gv V3 ⟨hHeld, hE_, hB_, hn_, hg_⟩
  have EV3 := Aside0.mk hE_
  have BV3 := Aside0.mk hB_
  have HV : Aside0 (gx ≠ gv ∧ W1.heap.size ≤ gv ∧ gr ≠ gv) := ⟨hn_, hg_, by have := hnd.out; omega⟩
  clear hE_ hB_ hn_ hg_
  refine norm_ (a' := ?_) ?_ ?_
  rotate_left
  ·
   simp only [putAll, Act.put, List.setIfInBounds_toArray, List.set_cons_zero, List.set_cons_succ]
   rfl
  refine one_ (i := 10) (N := none) #[true, true, true, true, true, true, true, true, true, true, true] rfl rfl (one_of HT_.out (by kernel_rfl)) (by decide) (fun K hK => ?_)
  have v0 : V3.cell? ⟨gv, 0, none⟩ = some (.bool false) := (blk_cell BV3.out 0).trans rfl
  have y0 : V3.frozen? ⟨gv, 0, none⟩ = false := blk_frozen BV3.out 0
  have v1 : V3.cell? ⟨gv, 1, none⟩ = some (.int .i64 0) := (blk_cell BV3.out 1).trans rfl
  have y1 : V3.frozen? ⟨gv, 1, none⟩ = false := blk_frozen BV3.out 1
  have v2 : V3.cell? ⟨gv, 2, none⟩ = some (.int .i64 0) := (blk_cell BV3.out 2).trans rfl
  have y2 : V3.frozen? ⟨gv, 2, none⟩ = false := blk_frozen BV3.out 2
  refine skip_ (w1 := ?_) (by rfl) rfl ?_ ?_
  rotate_left
  ·
   go_simp
   rfl
  have EV := Aside0.mk (EV3.out.put3 HV.out.2.1 HV.out.1 (.bool t1) (.int .i64 t2) (.int .i64 t3))
  have BV := Aside0.mk (h18_blk3 BV3.out (.bool t1) (.int .i64 t2) (.int .i64 t3))
  refine hK.out _ _ ⟨(blk_cell (blk_below HG.out EV.out.b) 0).trans rfl, (blk_cell (blk_below HG.out EV.out.b) 1).trans rfl, (blk_cell EV.out.x 1).trans rfl, (EV.out.b.cell (World.block_lt_of_cell? W1 _ HKC.out)).trans HKC.out⟩ (fun hHeld => ?_)
  clear hK K
  refine done_ (done_of HT_.out (by kernel_rfl)) ?_
  clear hHeld v0 v1 v2 y0 y1 y2
  generalize (((V3.setCell ⟨gv, 0, none⟩ (.bool t1)).setCell ⟨gv, 1, none⟩ (.int .i64 t2)).setCell ⟨gv, 2, none⟩ (.int .i64 t3)) = V0 at EV BV ⊢
  clear EV3 BV3
  have v0 : V0.cell? ⟨gv, 0, none⟩ = some (.bool t1) := (blk_cell BV.out 0).trans rfl
  have v1 : V0.cell? ⟨gv, 1, none⟩ = some (.int .i64 t2) := (blk_cell BV.out 1).trans rfl
  have v2 : V0.cell? ⟨gv, 2, none⟩ = some (.int .i64 t3) := (blk_cell BV.out 2).trans rfl
  go_upto_region 33 with (fail)
  clear v0 v1 v2
  have h := HA.out
  clear HA
  cases t1 with
  | false =>
    rw [if_pos rfl] at h
    simp only [Option.some.injEq, Prod.mk.injEq] at h
    obtain ⟨rfl, rfl, rfl⟩ := h
    have v0 : V0.cell? ⟨gv, 0, none⟩ = some (.bool false) := (blk_cell BV.out 0).trans rfl
    have v1 : V0.cell? ⟨gv, 1, none⟩ = some (.int .i64 t2) := (blk_cell BV.out 1).trans rfl
    have v2 : V0.cell? ⟨gv, 2, none⟩ = some (.int .i64 t3) := (blk_cell BV.out 2).trans rfl
    have rr0 : V0.cell? ⟨gr, 0, none⟩ = some (.bool false) := (blk_cell (blk_below HR.out EV.out.b) 0).trans rfl
    have z0 : V0.frozen? ⟨gr, 0, none⟩ = false := blk_frozen (blk_below HR.out EV.out.b) 0
    have rr1 : V0.cell? ⟨gr, 1, none⟩ = some (.int .i64 0) := (blk_cell (blk_below HR.out EV.out.b) 1).trans rfl
    have z1 : V0.frozen? ⟨gr, 1, none⟩ = false := blk_frozen (blk_below HR.out EV.out.b) 1
    have rr2 : V0.cell? ⟨gr, 2, none⟩ = some (.int .i64 0) := (blk_cell (blk_below HR.out EV.out.b) 2).trans rfl
    have z2 : V0.frozen? ⟨gr, 2, none⟩ = false := blk_frozen (blk_below HR.out EV.out.b) 2
    go_wp2
    refine bodyPost_ret (results_cell_row rfl _ _ gr 31 #[.bool false, .int .i64 t2, .int .i64 t3] (0, 0) _ rfl (h18_blk3 (blk_below HR.out EV.out.b) _ _ _) Try.underlying31 rfl (by kernel_rfl)) rfl ⟨rfl, h18_below3 (below_step HB.out EV.out.b) (by have := HGB.out; have := HGR.out; omega) _ _ _⟩
  | true =>
    rw [if_neg (by decide)] at h
    have v0 : V0.cell? ⟨gv, 0, none⟩ = some (.bool true) := (blk_cell BV.out 0).trans rfl
    have v1 : V0.cell? ⟨gv, 1, none⟩ = some (.int .i64 t2) := (blk_cell BV.out 1).trans rfl
    have v2 : V0.cell? ⟨gv, 2, none⟩ = some (.int .i64 t3) := (blk_cell BV.out 2).trans rfl
    have x0 : V0.cell? ⟨gx, 0, none⟩ = some (.int .i64 nd.f0) := (blk_cell EV.out.x 0).trans rfl
    go_upto_region 36 with (fail)
    have c7 : nd.f0 = 7 := HS.out
    rw [if_pos c7] at h
    have b7 : (nd.f0 == 7) = true := beq_iff_eq.2 c7
    clear c7
    by_cases ct : t2 < 0
    · rw [if_pos ct] at h
      have ctb : decide (t2 < 0) = true := decide_eq_true ct
      clear ct
      simp only [Option.some.injEq, Prod.mk.injEq] at h
      obtain ⟨rfl, rfl, rfl⟩ := h
      have rr0 : V0.cell? ⟨gr, 0, none⟩ = some (.bool false) := (blk_cell (blk_below HR.out EV.out.b) 0).trans rfl
      have z0 : V0.frozen? ⟨gr, 0, none⟩ = false := blk_frozen (blk_below HR.out EV.out.b) 0
      have rr1 : V0.cell? ⟨gr, 1, none⟩ = some (.int .i64 0) := (blk_cell (blk_below HR.out EV.out.b) 1).trans rfl
      have z1 : V0.frozen? ⟨gr, 1, none⟩ = false := blk_frozen (blk_below HR.out EV.out.b) 1
      have rr2 : V0.cell? ⟨gr, 2, none⟩ = some (.int .i64 0) := (blk_cell (blk_below HR.out EV.out.b) 2).trans rfl
      have z2 : V0.frozen? ⟨gr, 2, none⟩ = false := blk_frozen (blk_below HR.out EV.out.b) 2
      go_wp2
      refine bodyPost_ret (results_cell_row rfl _ _ gr 31 #[.bool true, .int .i64 a3, .int .i64 t3] (0, 0) _ rfl (h18_blk3 (blk_below HR.out EV.out.b) _ _ _) Try.underlying31 rfl (by kernel_rfl)) rfl ⟨rfl, h18_below3 (below_step HB.out EV.out.b) (by have := HGB.out; have := HGR.out; omega) _ _ _⟩
    · rw [if_neg ct] at h
      have ctb : decide (t2 < 0) = false := decide_eq_false ct
      clear ct
      simp only [Option.some.injEq, Prod.mk.injEq] at h
      obtain ⟨rfl, rfl, rfl⟩ := h
      have rr0 : V0.cell? ⟨gr, 0, none⟩ = some (.bool false) := (blk_cell (blk_below HR.out EV.out.b) 0).trans rfl
      have z0 : V0.frozen? ⟨gr, 0, none⟩ = false := blk_frozen (blk_below HR.out EV.out.b) 0
      have rr1 : V0.cell? ⟨gr, 1, none⟩ = some (.int .i64 0) := (blk_cell (blk_below HR.out EV.out.b) 1).trans rfl
      have z1 : V0.frozen? ⟨gr, 1, none⟩ = false := blk_frozen (blk_below HR.out EV.out.b) 1
      have rr2 : V0.cell? ⟨gr, 2, none⟩ = some (.int .i64 0) := (blk_cell (blk_below HR.out EV.out.b) 2).trans rfl
      have z2 : V0.frozen? ⟨gr, 2, none⟩ = false := blk_frozen (blk_below HR.out EV.out.b) 2
      go_wp2
      refine bodyPost_ret (results_cell_row rfl _ _ gr 31 #[.bool true, .int .i64 t2, .int .i64 t3] (0, 0) _ rfl (h18_blk3 (blk_below HR.out EV.out.b) _ _ _) Try.underlying31 rfl (by kernel_rfl)) rfl ⟨rfl, h18_below3 (below_step HB.out EV.out.b) (by have := HGB.out; have := HGR.out; omega) _ _ _⟩
end Go.Proofs.Ythgedejnpgcacaa.V
namespace Go.Proofs.Ythgedejnpgcacaa.V
open Go.RowKit Go.Proofs.YthgedejnpgcacaaW.PrintWords Go.Proofs.YthgedejnpgcacaaW.PrintLast Go.Proofs.YthgedejnpgcacaaW.PrintMore
set_option linter.unusedVariables false
set_option linter.unusedSimpArgs false
set_option maxHeartbeats 4000000 in
set_option maxRecDepth 100000 in
theorem vetchref18_Node.calls_s8 (k : Nat) (ih : ∀ (A0_0 : Option Addr) (c0_0 : Nat) (l0_0 : List S51) (A0_1 : Option Addr) (c0_1 : Nat) (l0_1 : List S56) (a1 : Int) (a2 : ByteArray) (a3 a4 : Int) (r1 : Bool) (r2 r3 : Int) (w : World)
    (hr0_0 : Kd.C k51 w A0_0 l0_0.length l0_0) (hc0_0 : l0_0.length ≤ c0_0) (hr0_1 : Kd.C k56 w A0_1 l0_1.length l0_1) (hc0_1 : l0_1.length ≤ c0_1) (h : vetchref18_Node.f k l0_0 l0_1 a1 a2 a3 a4 = some (r1, r2, r3)), Calls Try.prog 12 #[.agg #[.slice A0_0 l0_0.length c0_0, .slice A0_1 l0_1.length c0_1], .int .i64 a1, .string a2, .int .i64 a3, .int .i64 a4] w fun e w' => e = .returned (.agg #[.bool r1, .int .i64 r2, .int .i64 r3]) ∧ Below w.heap.size w w')
    (A0_0 : Option Addr) (c0_0 : Nat) (l0_0 : List S51) (A0_1 : Option Addr) (c0_1 : Nat) (l0_1 : List S56) (a1 : Int) (a2 : ByteArray) (a3 a4 : Int) (r1 : Bool) (r2 r3 : Int) (w : World)
    (hr0_0 : Kd.C k51 w A0_0 l0_0.length l0_0) (hc0_0 : l0_0.length ≤ c0_0) (hr0_1 : Kd.C k56 w A0_1 l0_1.length l0_1) (hc0_1 : l0_1.length ≤ c0_1) (hs : Aside0 (¬ a4 < 1 ∧ (0 ≤ a1 ∧ a1 < (l0_1.length : Int)) ∧ (rd_T56 l0_1 a1).f0 = 8)) (h : vetchref18_Node.f (k + 1) l0_0 l0_1 a1 a2 a3 a4 = some (r1, r2, r3)) :
    Calls Try.prog 12 #[.agg #[.slice A0_0 l0_0.length c0_0, .slice A0_1 l0_1.length c0_1], .int .i64 a1, .string a2, .int .i64 a3, .int .i64 a4] w fun e w' => e = .returned (.agg #[.bool r1, .int .i64 r2, .int .i64 r3]) ∧ Below w.heap.size w w' := by
  rw [vetchref18_Node.f] at h
  have IH := Aside0.mk ih
  clear ih
  have hu25 := Try.underlying25
  have hu31 := Try.underlying31
  have hu56 := Try.underlying56
  have hu51 := Try.underlying51
  have hu54 := Try.underlying54
  have HB := Aside0.mk (below_alloc (below_alloc (Below.refl w.heap.size w) (.cells #[.slice A0_0 l0_0.length c0_0, .slice A0_1 l0_1.length c0_1] 25)) (.cells #[.bool false, .int .i64 0, .int .i64 0] 31))
  have HG := Aside0.mk (blk_alloc (blk_new w (.cells #[.slice A0_0 l0_0.length c0_0, .slice A0_1 l0_1.length c0_1] 25)) (.cells #[.bool false, .int .i64 0, .int .i64 0] 31))
  have HR := Aside0.mk (blk_new (w.alloc (.cells #[.slice A0_0 l0_0.length c0_0, .slice A0_1 l0_1.length c0_1] 25)) (.cells #[.bool false, .int .i64 0, .int .i64 0] 31))
  have hsz : ((w.alloc (.cells #[.slice A0_0 l0_0.length c0_0, .slice A0_1 l0_1.length c0_1] 25)).alloc (.cells #[.bool false, .int .i64 0, .int .i64 0] 31)).heap.size = w.heap.size + 1 + 1 := by rw [h18_size, h18_size]
  rw [h18_size] at HR
  have HC0 := Aside0.mk (Kd.C_below hr0_0 HB.out)
  have HC1 := Aside0.mk (Kd.C_below hr0_1 HB.out)
  have HW := Aside0.mk hsz
  clear hr0_0 hr0_1 hsz
  rw [if_neg hs.out.1, if_pos hs.out.2.1] at h
  have c4b : decide (a4 < 1) = false := decide_eq_false hs.out.1
  have H := Aside0.mk h
  clear h
  go_enter Try.func12, Try.ntmps12
  go_upto_region 1 with (fail)
  generalize ((w.alloc (.cells #[.slice A0_0 l0_0.length c0_0, .slice A0_1 l0_1.length c0_1] 25)).alloc (.cells #[.bool false, .int .i64 0, .int .i64 0] 31)) = W1 at HB HG HR HC0 HC1 HW ⊢
  obtain ⟨gb, hgb⟩ : ∃ gb, gb = w.heap.size := ⟨_, rfl⟩
  obtain ⟨gr, hgr⟩ : ∃ gr, gr = gb + 1 := ⟨_, rfl⟩
  rw [← hgb] at HW HG HR ⊢
  rw [← hgr] at HR ⊢
  have HGB := Aside0.mk hgb
  have HGR := Aside0.mk hgr
  clear hgb hgr
  go_upto_region 4 with (fail)
  clear c4b
  have g1 : W1.cell? ⟨gb, 1, none⟩ = some (.slice A0_1 l0_1.length c0_1) := (blk_cell HG.out 1).trans rfl
  have p2 := hs.out.2.1.1
  have p3 := hs.out.2.1.2
  obtain ⟨ad, Ak, ck, e, k0, k1, k2, k3, k4, k5, k6, hlk, hCk⟩ := at_T56 HC1.out a1 p2 p3
  cases e
  have HCk := Aside0.mk hCk
  have HLk := Aside0.mk hlk
  clear hCk hlk
  replace p2 := eq_true p2
  replace p3 := eq_true p3
  go_upto_region 5 with (fail)
  have HS := Aside0.mk hs.out.2.2
  clear hs
  generalize rd_T56 l0_1 a1 = nd at *
  obtain ⟨gx, hgx⟩ : ∃ gx, gx = W1.heap.size := ⟨_, rfl⟩
  have E2 : Aside0 (Env18 W1 gx #[.int .i64 nd.f0, .slice Ak nd.f1.length ck, .int .i64 nd.f2, .int .u64 nd.f3.f0, .int .u64 nd.f3.f1, .int .u64 nd.f3.f2, .int .u64 nd.f3.f3] (W1.alloc (.cells #[.int .i64 nd.f0, .slice Ak nd.f1.length ck, .int .i64 nd.f2, .int .u64 nd.f3.f0, .int .u64 nd.f3.f1, .int .u64 nd.f3.f2, .int .u64 nd.f3.f3] 56))) := ⟨by rw [hgx]; exact blk_new W1 (.cells #[.int .i64 nd.f0, .slice Ak nd.f1.length ck, .int .i64 nd.f2, .int .u64 nd.f3.f0, .int .u64 nd.f3.f1, .int .u64 nd.f3.f2, .int .u64 nd.f3.f3] 56), below_alloc (Below.refl _ _) _⟩
  have HGX := Aside0.mk hgx
  rw [← hgx]
  generalize W1.alloc (.cells #[.int .i64 nd.f0, .slice Ak nd.f1.length ck, .int .i64 nd.f2, .int .u64 nd.f3.f0, .int .u64 nd.f3.f1, .int .u64 nd.f3.f2, .int .u64 nd.f3.f3] 56) = W2 at E2 ⊢
  clear k0 k1 k2 k3 k4 k5 k6 g1 hgx p2 p3
  have h := H.out
  clear H
  have hnd : Aside0 (gb < W1.heap.size ∧ gr < W1.heap.size) := ⟨by have := HW.out; have := HGR.out; omega⟩
  generalize wrap64 (a4 - 1) = u at *
  have x0 : W2.cell? ⟨gx, 0, none⟩ = some (.int .i64 nd.f0) := (blk_cell E2.out.x 0).trans rfl
  go_upto_region 6 with (fail)
  clear x0
  have c0 : ¬ nd.f0 = 0 := by have := HS.out; omega
  rw [if_neg c0] at h
  have b0 : (nd.f0 == 0) = false := beq_eq_false_iff_ne.2 c0
  clear c0
  go_upto_region 8 with (fail)
  clear b0
  have c1 : ¬ nd.f0 = 1 := by have := HS.out; omega
  rw [if_neg c1] at h
  have b1 : (nd.f0 == 1) = false := beq_eq_false_iff_ne.2 c1
  clear c1
  go_upto_region 12 with (fail)
  clear b1
  have c2 : ¬ nd.f0 = 2 := by have := HS.out; omega
  rw [if_neg c2] at h
  have b2 : (nd.f0 == 2) = false := beq_eq_false_iff_ne.2 c2
  clear c2
  go_upto_region 14 with (fail)
  clear b2
  have c3 : ¬ nd.f0 = 3 := by have := HS.out; omega
  rw [if_neg c3] at h
  have b3 : (nd.f0 == 3) = false := beq_eq_false_iff_ne.2 c3
  clear c3
  go_upto_region 23 with (fail)
  clear b3
  have c4 : ¬ nd.f0 = 4 := by have := HS.out; omega
  rw [if_neg c4] at h
  have b4 : (nd.f0 == 4) = false := beq_eq_false_iff_ne.2 c4
  clear c4
  by_cases ck0 : nd.f1 = []
  · rw [if_pos ck0] at h
    exact absurd h (by simp)
  rw [if_neg ck0] at h
  have q9 := h18_mem nd.f1 ck0
  have HQ9 := Aside0.mk q9
  clear ck0
  obtain ⟨⟨t1, t2, t3⟩, ht, h⟩ := Option.bind_eq_some_iff.1 h
  dsimp only at ht h
  have HT := Aside0.mk ht
  have HA := Aside0.mk h
  clear ht h
  obtain ⟨ad1, he1, kc⟩ := Kd.at_int HCk.out 0 (Int.le_refl 0) HQ9.out
  cases he1
  replace kc : W1.cell? ad1 = some (.int .i64 (rd nd.f1 0)) := by simpa [Addr.add] using kc
  have HKC := Aside0.mk kc
  clear kc q9
  have kc := (E2.out.b.cell (World.block_lt_of_cell? W1 _ HKC.out)).trans HKC.out
  have x1 : W2.cell? ⟨gx, 1, none⟩ = some (.slice (some ad1) nd.f1.length ck) := (blk_cell E2.out.x 1).trans rfl
  have g0 : W2.cell? ⟨gb, 0, none⟩ = some (.slice A0_0 l0_0.length c0_0) := (blk_cell (blk_below HG.out E2.out.b) 0).trans rfl
  have g1 : W2.cell? ⟨gb, 1, none⟩ = some (.slice (some ad) l0_1.length c0_1) := (blk_cell (blk_below HG.out E2.out.b) 1).trans rfl
  have q9i := eq_true HQ9.out
  have q9n : (0 < nd.f1.length) = True := eq_true (by have := HQ9.out; omega)
  go_upto_region 32 with (fail)
  clear b4
  have EW := Aside0.mk E2.out.drew
  clear kc x1 g0 g1
  refine start_ (n := 11) (S := fun w' => w'.cell? ⟨gb, 0, none⟩ = some (.slice A0_0 l0_0.length c0_0) ∧ w'.cell? ⟨gb, 1, none⟩ = some (.slice (some ad) l0_1.length c0_1) ∧ w'.cell? ⟨gx, 1, none⟩ = some (.slice (some ad1) nd.f1.length ck) ∧ w'.cell? ad1 = some (.int .i64 (rd nd.f1 0))) (ds := []) #[false, false, false, false, false, false, false, false, false, false, false] (by kernel_rfl) rfl rfl ⟨(blk_cell (blk_below HG.out EW.out.b) 0).trans rfl, (blk_cell (blk_below HG.out EW.out.b) 1).trans rfl, (blk_cell EW.out.x 1).trans rfl, (EW.out.b.cell (World.block_lt_of_cell? W1 _ HKC.out)).trans HKC.out⟩ (fun hHeld => ?_); refine with_tabW h18_tab32 h18_bits32 (fun HT_ HW_ => ?_)
  generalize W2.drew = W3 at EW hHeld ⊢
  refine pure_ (i := 1) (N := some 136) (v := ?_) (a' := ?_) #[false, true, false, false, false, false, false, false, false, false, false] rfl rfl (any_of HT_.out (by kernel_rfl)) (fun _ _ _ h => h) (Or.inl ⟨by rfl, ?_⟩) ?_ ?_
  rotate_left
  ·
   intro w'
   go_simp
   with_reducible rfl
  rotate_left
  ·
   simp only [Act.put, List.setIfInBounds_toArray, List.set_cons_zero, List.set_cons_succ, i64_w, i32_w]
   rfl
  refine pure_ (i := 5) (N := some 140) (v := ?_) (a' := ?_) #[false, true, false, false, false, true, false, false, false, false, false] rfl rfl (any_of HT_.out (by kernel_rfl)) (fun _ _ _ h => h) (Or.inl ⟨by rfl, ?_⟩) ?_ ?_
  rotate_left
  ·
   intro w'
   go_simp
   with_reducible rfl
  rotate_left
  ·
   simp only [Act.put, List.setIfInBounds_toArray, List.set_cons_zero, List.set_cons_succ, i64_w, i32_w]
   rfl
  refine pure_ (i := 6) (N := some 141) (v := ?_) (a' := ?_) #[false, true, false, false, false, true, true, false, false, false, false] rfl rfl (any_of HT_.out (by kernel_rfl)) (fun _ _ _ h => h) (Or.inl ⟨by rfl, ?_⟩) ?_ ?_
  rotate_left
  ·
   intro w'
   go_simp
   with_reducible rfl
  rotate_left
  ·
   simp only [Act.put, List.setIfInBounds_toArray, List.set_cons_zero, List.set_cons_succ, i64_w, i32_w]
   rfl
  refine pure_ (i := 7) (N := some 142) (v := ?_) (a' := ?_) #[false, true, false, false, false, true, true, true, false, false, false] rfl rfl (any_of HT_.out (by kernel_rfl)) (fun _ _ _ h => h) (Or.inl ⟨by rfl, ?_⟩) ?_ ?_
  rotate_left
  ·
   intro w'
   go_simp
   with_reducible rfl
  rotate_left
  ·
   simp only [Act.put, List.setIfInBounds_toArray, List.set_cons_zero, List.set_cons_succ, i64_w, i32_w]
   rfl
  refine take_ (i := 0) (N := some 135) (v := ?_) (a' := ?_) #[true, true, false, false, false, true, true, true, false, false, false] rfl rfl (take_ofW HT_.out HW_.out (by kernel_rfl)) (fun _ _ _ h => h) (Or.inl ⟨by rfl, ?_⟩) hHeld ?_ ?_
  rotate_left
  ·
   rintro w' ⟨s0, s1, s2, s3⟩
   go_simp
   with_reducible rfl
  rotate_left
  ·
   simp only [Act.put, List.setIfInBounds_toArray, List.set_cons_zero, List.set_cons_succ, i64_w, i32_w]
   rfl
  refine take_ (i := 2) (N := some 137) (v := ?_) (a' := ?_) #[true, true, true, false, false, true, true, true, false, false, false] rfl rfl (take_ofW HT_.out HW_.out (by kernel_rfl)) (fun _ _ _ h => h) (Or.inl ⟨by rfl, ?_⟩) hHeld ?_ ?_
  rotate_left
  ·
   rintro w' ⟨s0, s1, s2, s3⟩
   go_simp
   with_reducible rfl
  rotate_left
  ·
   simp only [Act.put, List.setIfInBounds_toArray, List.set_cons_zero, List.set_cons_succ, i64_w, i32_w]
   rfl
  refine pure_ (i := 3) (N := some 138) (v := ?_) (a' := ?_) #[true, true, true, true, false, true, true, true, false, false, false] rfl rfl (any_of HT_.out (by kernel_rfl)) (fun _ _ _ h => h) (Or.inl ⟨by rfl, ?_⟩) ?_ ?_
  rotate_left
  ·
   intro w'
   go_simp
   with_reducible rfl
  rotate_left
  ·
   simp only [Act.put, List.setIfInBounds_toArray, List.set_cons_zero, List.set_cons_succ, i64_w, i32_w]
   rfl
  refine take_ (i := 4) (N := some 139) (v := ?_) (a' := ?_) #[true, true, true, true, true, true, true, true, false, false, false] rfl rfl (take_ofW HT_.out HW_.out (by kernel_rfl)) (fun _ _ _ h => h) (Or.inl ⟨by rfl, ?_⟩) hHeld ?_ ?_
  rotate_left
  ·
   rintro w' ⟨s0, s1, s2, s3⟩
   go_simp
   with_reducible rfl
  rotate_left
  ·
   simp only [Act.put, List.setIfInBounds_toArray, List.set_cons_zero, List.set_cons_succ, i64_w, i32_w]
   rfl
  refine join_ (σ := Nat) 1 #[true, true, true, true, true, true, true, true, true, true, false] (fun s_ => [(143, .agg #[.bool t1, .int .i64 t2, .int .i64 t3]), (16, .pointer (some ⟨s_, 0, none⟩))]) (fun s_ w' => (w'.cell? ⟨gb, 0, none⟩ = some (.slice A0_0 l0_0.length c0_0) ∧ w'.cell? ⟨gb, 1, none⟩ = some (.slice (some ad) l0_1.length c0_1) ∧ w'.cell? ⟨gx, 1, none⟩ = some (.slice (some ad1) nd.f1.length ck) ∧ w'.cell? ad1 = some (.int .i64 (rd nd.f1 0))) ∧ Env18 W1 gx #[.int .i64 nd.f0, .slice (some ad1) nd.f1.length ck, .int .i64 nd.f2, .int .u64 nd.f3.f0, .int .u64 nd.f3.f1, .int .u64 nd.f3.f2, .int .u64 nd.f3.f3] w' ∧ w'.heap[s_]? = some (.cells #[.bool false, .int .i64 0, .int .i64 0] 31 (0, 0)) ∧ gx ≠ s_ ∧ W1.heap.size ≤ s_) ?_ ?_
  rotate_left
  ·
   intro hCont
   refine two_ (i := 8) (j := 9) (Ni := some 143) (Nj := some 16) #[true, true, true, true, true, true, true, true, true, false, false] #[true, true, true, true, true, true, true, true, false, true, false] rfl rfl rfl rfl (two_of HT_.out (by kernel_rfl)) (by decide) (by decide) (fun K hK => ?_) (fun K hK => ?_)
   ·
    refine goes_ Try.func12 (by kernel_rfl) rfl #[.agg #[.slice A0_0 l0_0.length c0_0, .slice (some ad) l0_1.length c0_1], .int .i64 (rd nd.f1 0), .string a2, .int .i64 a3, .int .i64 u] (by rfl) rfl rfl (by (try simp only [List.map_toArray, List.map_cons, List.map_nil]); first | done | rfl) ?_
    refine (IH.out _ _ l0_0 _ _ l0_1 (rd nd.f1 0) a2 a3 u t1 t2 t3 _ (Kd.C_below HC0.out EW.out.b) hc0_0 (Kd.C_below HC1.out EW.out.b) hc0_1 HT.out).mono ?_
    rintro e_ V1 ⟨rfl, hb⟩
    refine ⟨_, rfl, ?_⟩
    have EV1 := Aside0.mk (EW.out.below hb)
    refine hK.out _ _ ⟨(blk_cell (blk_below HG.out EV1.out.b) 0).trans rfl, (blk_cell (blk_below HG.out EV1.out.b) 1).trans rfl, (blk_cell EV1.out.x 1).trans rfl, (EV1.out.b.cell (World.block_lt_of_cell? W1 _ HKC.out)).trans HKC.out⟩ (fun hHeld => ?_)
    clear hK K
    refine norm_ (a' := ?_) ?_ ?_
    rotate_left
    ·
     show Act.put _ (some 143) _ = _
     simp only [Act.put, List.setIfInBounds_toArray, List.set_cons_zero, List.set_cons_succ, i64_w, i32_w]
     rfl
    refine one_ (i := 9) (N := some 16) #[true, true, true, true, true, true, true, true, true, true, false] rfl rfl (one_of HT_.out (by kernel_rfl)) (by decide) (fun K hK => ?_)
    clear hb
    refine box_step ?hg (N := 16) ?hd (cs := #[.bool false, .int .i64 0, .int .i64 0]) (t := 31) ?hr ?_; (case hd => rfl); (case hg => rfl); (case hr => first | (go_simp; done) | (go_simp; rfl))
    intro gv hg V2 hbox hb
    have HBX : gx ≠ gv ∧ W1.heap.size ≤ gv := by rw [hg]; have := blk_lt EV1.out.x; have := EV1.out.b.size; omega
    have EV2 := Aside0.mk (EV1.out.below hb)
    refine hK.out _ _ ⟨(blk_cell (blk_below HG.out EV2.out.b) 0).trans rfl, (blk_cell (blk_below HG.out EV2.out.b) 1).trans rfl, (blk_cell EV2.out.x 1).trans rfl, (EV2.out.b.cell (World.block_lt_of_cell? W1 _ HKC.out)).trans HKC.out⟩ (fun hHeld => ?_)
    clear hK K
    refine norm_ (a' := ?_) ?_ ?_
    rotate_left
    ·
     show Act.put _ (some 16) _ = _
     simp only [Act.put, List.setIfInBounds_toArray, List.set_cons_zero, List.set_cons_succ, i64_w, i32_w]
     rfl
    exact norm_ (by simp only [putAll, Act.put, List.setIfInBounds_toArray, List.set_cons_zero, List.set_cons_succ]) (hCont gv _ ⟨hHeld, EV2.out, hbox, HBX.1, HBX.2⟩)
   ·
    refine box_step ?hg (N := 16) ?hd (cs := #[.bool false, .int .i64 0, .int .i64 0]) (t := 31) ?hr ?_; (case hd => rfl); (case hg => rfl); (case hr => first | (go_simp; done) | (go_simp; rfl))
    intro gv hg V1 hbox hb
    have HBX : gx ≠ gv ∧ W1.heap.size ≤ gv := by rw [hg]; have := blk_lt EW.out.x; have := EW.out.b.size; omega
    have EV1 := Aside0.mk (EW.out.below hb)
    have BX := Aside0.mk hbox
    have HBX := Aside0.mk HBX
    clear hbox hb hg
    refine hK.out _ _ ⟨(blk_cell (blk_below HG.out EV1.out.b) 0).trans rfl, (blk_cell (blk_below HG.out EV1.out.b) 1).trans rfl, (blk_cell EV1.out.x 1).trans rfl, (EV1.out.b.cell (World.block_lt_of_cell? W1 _ HKC.out)).trans HKC.out⟩ (fun hHeld => ?_)
    clear hK K
    refine norm_ (a' := ?_) ?_ ?_
    rotate_left
    ·
     show Act.put _ (some 16) _ = _
     simp only [Act.put, List.setIfInBounds_toArray, List.set_cons_zero, List.set_cons_succ, i64_w, i32_w]
     rfl
    refine one_ (i := 8) (N := some 143) #[true, true, true, true, true, true, true, true, true, true, false] rfl rfl (one_of HT_.out (by kernel_rfl)) (by decide) (fun K hK => ?_)
    refine goes_ Try.func12 (by kernel_rfl) rfl #[.agg #[.slice A0_0 l0_0.length c0_0, .slice (some ad) l0_1.length c0_1], .int .i64 (rd nd.f1 0), .string a2, .int .i64 a3, .int .i64 u] (by rfl) rfl rfl (by (try simp only [List.map_toArray, List.map_cons, List.map_nil]); first | done | rfl) ?_
    refine (IH.out _ _ l0_0 _ _ l0_1 (rd nd.f1 0) a2 a3 u t1 t2 t3 _ (Kd.C_below HC0.out EV1.out.b) hc0_0 (Kd.C_below HC1.out EV1.out.b) hc0_1 HT.out).mono ?_
    rintro e_ V2 ⟨rfl, hb⟩
    refine ⟨_, rfl, ?_⟩
    have EV2 := Aside0.mk (EV1.out.below hb)
    refine hK.out _ _ ⟨(blk_cell (blk_below HG.out EV2.out.b) 0).trans rfl, (blk_cell (blk_below HG.out EV2.out.b) 1).trans rfl, (blk_cell EV2.out.x 1).trans rfl, (EV2.out.b.cell (World.block_lt_of_cell? W1 _ HKC.out)).trans HKC.out⟩ (fun hHeld => ?_)
    clear hK K
    refine norm_ (a' := ?_) ?_ ?_
    rotate_left
    ·
     show Act.put _ (some 143) _ = _
     simp only [Act.put, List.setIfInBounds_toArray, List.set_cons_zero, List.set_cons_succ, i64_w, i32_w]
     rfl
    exact norm_ (by simp only [putAll, Act.put, List.setIfInBounds_toArray, List.set_cons_zero, List.set_cons_succ]) (hCont gv _ ⟨hHeld, EV2.out, blk_below BX.out hb, HBX.out.1, HBX.out.2⟩)
  rintro gv V3 ⟨hHeld, hE_, hB_, hn_, hg_⟩
  have EV3 := Aside0.mk hE_
  have BV3 := Aside0.mk hB_
  have HV : Aside0 (gx ≠ gv ∧ W1.heap.size ≤ gv ∧ gr ≠ gv) := ⟨hn_, hg_, by have := hnd.out; omega⟩
  clear hE_ hB_ hn_ hg_
  refine norm_ (a' := ?_) ?_ ?_
  rotate_left
  ·
   simp only [putAll, Act.put, List.setIfInBounds_toArray, List.set_cons_zero, List.set_cons_succ]
   rfl
  refine one_ (i := 10) (N := none) #[true, true, true, true, true, true, true, true, true, true, true] rfl rfl (one_of HT_.out (by kernel_rfl)) (by decide) (fun K hK => ?_)
  have v0 : V3.cell? ⟨gv, 0, none⟩ = some (.bool false) := (blk_cell BV3.out 0).trans rfl
  have y0 : V3.frozen? ⟨gv, 0, none⟩ = false := blk_frozen BV3.out 0
  have v1 : V3.cell? ⟨gv, 1, none⟩ = some (.int .i64 0) := (blk_cell BV3.out 1).trans rfl
  have y1 : V3.frozen? ⟨gv, 1, none⟩ = false := blk_frozen BV3.out 1
  have v2 : V3.cell? ⟨gv, 2, none⟩ = some (.int .i64 0) := (blk_cell BV3.out 2).trans rfl
  have y2 : V3.frozen? ⟨gv, 2, none⟩ = false := blk_frozen BV3.out 2
  refine skip_ (w1 := ?_) (by rfl) rfl ?_ ?_
  rotate_left
  ·
   go_simp
   rfl
  have EV := Aside0.mk (EV3.out.put3 HV.out.2.1 HV.out.1 (.bool t1) (.int .i64 t2) (.int .i64 t3))
  have BV := Aside0.mk (h18_blk3 BV3.out (.bool t1) (.int .i64 t2) (.int .i64 t3))
  refine hK.out _ _ ⟨(blk_cell (blk_below HG.out EV.out.b) 0).trans rfl, (blk_cell (blk_below HG.out EV.out.b) 1).trans rfl, (blk_cell EV.out.x 1).trans rfl, (EV.out.b.cell (World.block_lt_of_cell? W1 _ HKC.out)).trans HKC.out⟩ (fun hHeld => ?_)
  clear hK K
  refine done_ (done_of HT_.out (by kernel_rfl)) ?_
  clear hHeld v0 v1 v2 y0 y1 y2
  generalize (((V3.setCell ⟨gv, 0, none⟩ (.bool t1)).setCell ⟨gv, 1, none⟩ (.int .i64 t2)).setCell ⟨gv, 2, none⟩ (.int .i64 t3)) = V0 at EV BV ⊢
  clear EV3 BV3
  have v0 : V0.cell? ⟨gv, 0, none⟩ = some (.bool t1) := (blk_cell BV.out 0).trans rfl
  have v1 : V0.cell? ⟨gv, 1, none⟩ = some (.int .i64 t2) := (blk_cell BV.out 1).trans rfl
  have v2 : V0.cell? ⟨gv, 2, none⟩ = some (.int .i64 t3) := (blk_cell BV.out 2).trans rfl
  go_upto_region 33 with (fail)
  clear v0 v1 v2
  have h := HA.out
  clear HA
  cases t1 with
  | false =>
    rw [if_pos rfl] at h
    simp only [Option.some.injEq, Prod.mk.injEq] at h
    obtain ⟨rfl, rfl, rfl⟩ := h
    have v0 : V0.cell? ⟨gv, 0, none⟩ = some (.bool false) := (blk_cell BV.out 0).trans rfl
    have v1 : V0.cell? ⟨gv, 1, none⟩ = some (.int .i64 t2) := (blk_cell BV.out 1).trans rfl
    have v2 : V0.cell? ⟨gv, 2, none⟩ = some (.int .i64 t3) := (blk_cell BV.out 2).trans rfl
    have rr0 : V0.cell? ⟨gr, 0, none⟩ = some (.bool false) := (blk_cell (blk_below HR.out EV.out.b) 0).trans rfl
    have z0 : V0.frozen? ⟨gr, 0, none⟩ = false := blk_frozen (blk_below HR.out EV.out.b) 0
    have rr1 : V0.cell? ⟨gr, 1, none⟩ = some (.int .i64 0) := (blk_cell (blk_below HR.out EV.out.b) 1).trans rfl
    have z1 : V0.frozen? ⟨gr, 1, none⟩ = false := blk_frozen (blk_below HR.out EV.out.b) 1
    have rr2 : V0.cell? ⟨gr, 2, none⟩ = some (.int .i64 0) := (blk_cell (blk_below HR.out EV.out.b) 2).trans rfl
    have z2 : V0.frozen? ⟨gr, 2, none⟩ = false := blk_frozen (blk_below HR.out EV.out.b) 2
    go_wp2
    refine bodyPost_ret (results_cell_row rfl _ _ gr 31 #[.bool false, .int .i64 t2, .int .i64 t3] (0, 0) _ rfl (h18_blk3 (blk_below HR.out EV.out.b) _ _ _) Try.underlying31 rfl (by kernel_rfl)) rfl ⟨rfl, h18_below3 (below_step HB.out EV.out.b) (by have := HGB.out; have := HGR.out; omega) _ _ _⟩
  | true =>
    rw [if_neg (by decide)] at h
    have v0 : V0.cell? ⟨gv, 0, none⟩ = some (.bool true) := (blk_cell BV.out 0).trans rfl
    have v1 : V0.cell? ⟨gv, 1, none⟩ = some (.int .i64 t2) := (blk_cell BV.out 1).trans rfl
    have v2 : V0.cell? ⟨gv, 2, none⟩ = some (.int .i64 t3) := (blk_cell BV.out 2).trans rfl
    have x0 : V0.cell? ⟨gx, 0, none⟩ = some (.int .i64 nd.f0) := (blk_cell EV.out.x 0).trans rfl
    go_upto_region 36 with (fail)
    have c7 : ¬ nd.f0 = 7 := by have := HS.out; omega
    rw [if_neg c7] at h
    have b7 : (nd.f0 == 7) = false := beq_eq_false_iff_ne.2 c7
    clear c7
    go_upto_region 40 with (fail)
    clear b7
    have c8 : nd.f0 = 8 := HS.out
    rw [if_pos c8] at h
    have b8 : (nd.f0 == 8) = true := beq_iff_eq.2 c8
    clear c8
    by_cases ct : t2 < 0
    · rw [if_pos ct] at h
      have ctb : decide (t2 < 0) = true := decide_eq_true ct
      clear ct
      simp only [Option.some.injEq, Prod.mk.injEq] at h
      obtain ⟨rfl, rfl, rfl⟩ := h
      have rr0 : V0.cell? ⟨gr, 0, none⟩ = some (.bool false) := (blk_cell (blk_below HR.out EV.out.b) 0).trans rfl
      have z0 : V0.frozen? ⟨gr, 0, none⟩ = false := blk_frozen (blk_below HR.out EV.out.b) 0
      have rr1 : V0.cell? ⟨gr, 1, none⟩ = some (.int .i64 0) := (blk_cell (blk_below HR.out EV.out.b) 1).trans rfl
      have z1 : V0.frozen? ⟨gr, 1, none⟩ = false := blk_frozen (blk_below HR.out EV.out.b) 1
      have rr2 : V0.cell? ⟨gr, 2, none⟩ = some (.int .i64 0) := (blk_cell (blk_below HR.out EV.out.b) 2).trans rfl
      have z2 : V0.frozen? ⟨gr, 2, none⟩ = false := blk_frozen (blk_below HR.out EV.out.b) 2
      go_wp2
      refine bodyPost_ret (results_cell_row rfl _ _ gr 31 #[.bool true, .int .i64 t2, .int .i64 t3] (0, 0) _ rfl (h18_blk3 (blk_below HR.out EV.out.b) _ _ _) Try.underlying31 rfl (by kernel_rfl)) rfl ⟨rfl, h18_below3 (below_step HB.out EV.out.b) (by have := HGB.out; have := HGR.out; omega) _ _ _⟩
    · rw [if_neg ct] at h
      have ctb : decide (t2 < 0) = false := decide_eq_false ct
      clear ct
      simp only [Option.some.injEq, Prod.mk.injEq] at h
      obtain ⟨rfl, rfl, rfl⟩ := h
      have rr0 : V0.cell? ⟨gr, 0, none⟩ = some (.bool false) := (blk_cell (blk_below HR.out EV.out.b) 0).trans rfl
      have z0 : V0.frozen? ⟨gr, 0, none⟩ = false := blk_frozen (blk_below HR.out EV.out.b) 0
      have rr1 : V0.cell? ⟨gr, 1, none⟩ = some (.int .i64 0) := (blk_cell (blk_below HR.out EV.out.b) 1).trans rfl
      have z1 : V0.frozen? ⟨gr, 1, none⟩ = false := blk_frozen (blk_below HR.out EV.out.b) 1
      have rr2 : V0.cell? ⟨gr, 2, none⟩ = some (.int .i64 0) := (blk_cell (blk_below HR.out EV.out.b) 2).trans rfl
      have z2 : V0.frozen? ⟨gr, 2, none⟩ = false := blk_frozen (blk_below HR.out EV.out.b) 2
      go_wp2
      refine bodyPost_ret (results_cell_row rfl _ _ gr 31 #[.bool true, .int .i64 a3, .int .i64 t3] (0, 0) _ rfl (h18_blk3 (blk_below HR.out EV.out.b) _ _ _) Try.underlying31 rfl (by kernel_rfl)) rfl ⟨rfl, h18_below3 (below_step HB.out EV.out.b) (by have := HGB.out; have := HGR.out; omega) _ _ _⟩
end Go.Proofs.Ythgedejnpgcacaa.V
namespace Go.Proofs.Ythgedejnpgcacaa.V
open Go.RowKit Go.Proofs.YthgedejnpgcacaaW.PrintWords Go.Proofs.YthgedejnpgcacaaW.PrintLast Go.Proofs.YthgedejnpgcacaaW.PrintMore
set_option linter.unusedVariables false
set_option linter.unusedSimpArgs false
set_option maxHeartbeats 4000000 in
set_option maxRecDepth 100000 in
theorem vetchref18_Node.calls_s9 (k : Nat) (ih : ∀ (A0_0 : Option Addr) (c0_0 : Nat) (l0_0 : List S51) (A0_1 : Option Addr) (c0_1 : Nat) (l0_1 : List S56) (a1 : Int) (a2 : ByteArray) (a3 a4 : Int) (r1 : Bool) (r2 r3 : Int) (w : World)
    (hr0_0 : Kd.C k51 w A0_0 l0_0.length l0_0) (hc0_0 : l0_0.length ≤ c0_0) (hr0_1 : Kd.C k56 w A0_1 l0_1.length l0_1) (hc0_1 : l0_1.length ≤ c0_1) (h : vetchref18_Node.f k l0_0 l0_1 a1 a2 a3 a4 = some (r1, r2, r3)), Calls Try.prog 12 #[.agg #[.slice A0_0 l0_0.length c0_0, .slice A0_1 l0_1.length c0_1], .int .i64 a1, .string a2, .int .i64 a3, .int .i64 a4] w fun e w' => e = .returned (.agg #[.bool r1, .int .i64 r2, .int .i64 r3]) ∧ Below w.heap.size w w')
    (A0_0 : Option Addr) (c0_0 : Nat) (l0_0 : List S51) (A0_1 : Option Addr) (c0_1 : Nat) (l0_1 : List S56) (a1 : Int) (a2 : ByteArray) (a3 a4 : Int) (r1 : Bool) (r2 r3 : Int) (w : World)
    (hr0_0 : Kd.C k51 w A0_0 l0_0.length l0_0) (hc0_0 : l0_0.length ≤ c0_0) (hr0_1 : Kd.C k56 w A0_1 l0_1.length l0_1) (hc0_1 : l0_1.length ≤ c0_1) (hs : Aside0 (¬ a4 < 1 ∧ (0 ≤ a1 ∧ a1 < (l0_1.length : Int)) ∧ (rd_T56 l0_1 a1).f0 = 9)) (h : vetchref18_Node.f (k + 1) l0_0 l0_1 a1 a2 a3 a4 = some (r1, r2, r3)) :
    Calls Try.prog 12 #[.agg #[.slice A0_0 l0_0.length c0_0, .slice A0_1 l0_1.length c0_1], .int .i64 a1, .string a2, .int .i64 a3, .int .i64 a4] w fun e w' => e = .returned (.agg #[.bool r1, .int .i64 r2, .int .i64 r3]) ∧ Below w.heap.size w w' := by
  rw [vetchref18_Node.f] at h
  have IH := Aside0.mk ih
  clear ih
  have hu25 := Try.underlying25
  have hu31 := Try.underlying31
  have hu56 := Try.underlying56
  have hu51 := Try.underlying51
  have hu54 := Try.underlying54
  have HB := Aside0.mk (below_alloc (below_alloc (Below.refl w.heap.size w) (.cells #[.slice A0_0 l0_0.length c0_0, .slice A0_1 l0_1.length c0_1] 25)) (.cells #[.bool false, .int .i64 0, .int .i64 0] 31))
  have HG := Aside0.mk (blk_alloc (blk_new w (.cells #[.slice A0_0 l0_0.length c0_0, .slice A0_1 l0_1.length c0_1] 25)) (.cells #[.bool false, .int .i64 0, .int .i64 0] 31))
  have HR := Aside0.mk (blk_new (w.alloc (.cells #[.slice A0_0 l0_0.length c0_0, .slice A0_1 l0_1.length c0_1] 25)) (.cells #[.bool false, .int .i64 0, .int .i64 0] 31))
  have hsz : ((w.alloc (.cells #[.slice A0_0 l0_0.length c0_0, .slice A0_1 l0_1.length c0_1] 25)).alloc (.cells #[.bool false, .int .i64 0, .int .i64 0] 31)).heap.size = w.heap.size + 1 + 1 := by rw [h18_size, h18_size]
  rw [h18_size] at HR
  have HC0 := Aside0.mk (Kd.C_below hr0_0 HB.out)
  have HC1 := Aside0.mk (Kd.C_below hr0_1 HB.out)
  have HW := Aside0.mk hsz
  clear hr0_0 hr0_1 hsz
  rw [if_neg hs.out.1, if_pos hs.out.2.1] at h
  have c4b : decide (a4 < 1) = false := decide_eq_false hs.out.1
  have H := Aside0.mk h
  clear h
  go_enter Try.func12, Try.ntmps12
  go_upto_region 1 with (fail)
  generalize ((w.alloc (.cells #[.slice A0_0 l0_0.length c0_0, .slice A0_1 l0_1.length c0_1] 25)).alloc (.cells #[.bool false, .int .i64 0, .int .i64 0] 31)) = W1 at HB HG HR HC0 HC1 HW ⊢
  obtain ⟨gb, hgb⟩ : ∃ gb, gb = w.heap.size := ⟨_, rfl⟩
  obtain ⟨gr, hgr⟩ : ∃ gr, gr = gb + 1 := ⟨_, rfl⟩
  rw [← hgb] at HW HG HR ⊢
  rw [← hgr] at HR ⊢
  have HGB := Aside0.mk hgb
  have HGR := Aside0.mk hgr
  clear hgb hgr
  go_upto_region 4 with (fail)
  clear c4b
  have g1 : W1.cell? ⟨gb, 1, none⟩ = some (.slice A0_1 l0_1.length c0_1) := (blk_cell HG.out 1).trans rfl
  have p2 := hs.out.2.1.1
  have p3 := hs.out.2.1.2
  obtain ⟨ad, Ak, ck, e, k0, k1, k2, k3, k4, k5, k6, hlk, hCk⟩ := at_T56 HC1.out a1 p2 p3
  cases e
  have HCk := Aside0.mk hCk
  have HLk := Aside0.mk hlk
  clear hCk hlk
  replace p2 := eq_true p2
  replace p3 := eq_true p3
  go_upto_region 5 with (fail)
  have HS := Aside0.mk hs.out.2.2
  clear hs
  generalize rd_T56 l0_1 a1 = nd at *
  obtain ⟨gx, hgx⟩ : ∃ gx, gx = W1.heap.size := ⟨_, rfl⟩
  have E2 : Aside0 (Env18 W1 gx #[.int .i64 nd.f0, .slice Ak nd.f1.length ck, .int .i64 nd.f2, .int .u64 nd.f3.f0, .int .u64 nd.f3.f1, .int .u64 nd.f3.f2, .int .u64 nd.f3.f3] (W1.alloc (.cells #[.int .i64 nd.f0, .slice Ak nd.f1.length ck, .int .i64 nd.f2, .int .u64 nd.f3.f0, .int .u64 nd.f3.f1, .int .u64 nd.f3.f2, .int .u64 nd.f3.f3] 56))) := ⟨by rw [hgx]; exact blk_new W1 (.cells #[.int .i64 nd.f0, .slice Ak nd.f1.length ck, .int .i64 nd.f2, .int .u64 nd.f3.f0, .int .u64 nd.f3.f1, .int .u64 nd.f3.f2, .int .u64 nd.f3.f3] 56), below_alloc (Below.refl _ _) _⟩
  have HGX := Aside0.mk hgx
  rw [← hgx]
  generalize W1.alloc (.cells #[.int .i64 nd.f0, .slice Ak nd.f1.length ck, .int .i64 nd.f2, .int .u64 nd.f3.f0, .int .u64 nd.f3.f1, .int .u64 nd.f3.f2, .int .u64 nd.f3.f3] 56) = W2 at E2 ⊢
  clear k0 k1 k2 k3 k4 k5 k6 g1 hgx p2 p3
  have h := H.out
  clear H
  have hnd : Aside0 (gb < W1.heap.size ∧ gr < W1.heap.size) := ⟨by have := HW.out; have := HGR.out; omega⟩
  generalize wrap64 (a4 - 1) = u at *
  have x0 : W2.cell? ⟨gx, 0, none⟩ = some (.int .i64 nd.f0) := (blk_cell E2.out.x 0).trans rfl
  go_upto_region 6 with (fail)
  clear x0
  have c0 : ¬ nd.f0 = 0 := by have := HS.out; omega
  rw [if_neg c0] at h
  have b0 : (nd.f0 == 0) = false := beq_eq_false_iff_ne.2 c0
  clear c0
  go_upto_region 8 with (fail)
  clear b0
  have c1 : ¬ nd.f0 = 1 := by have := HS.out; omega
  rw [if_neg c1] at h
  have b1 : (nd.f0 == 1) = false := beq_eq_false_iff_ne.2 c1
  clear c1
  go_upto_region 12 with (fail)
  clear b1
  have c2 : ¬ nd.f0 = 2 := by have := HS.out; omega
  rw [if_neg c2] at h
  have b2 : (nd.f0 == 2) = false := beq_eq_false_iff_ne.2 c2
  clear c2
  go_upto_region 14 with (fail)
  clear b2
  have c3 : ¬ nd.f0 = 3 := by have := HS.out; omega
  rw [if_neg c3] at h
  have b3 : (nd.f0 == 3) = false := beq_eq_false_iff_ne.2 c3
  clear c3
  go_upto_region 23 with (fail)
  clear b3
  have c4 : ¬ nd.f0 = 4 := by have := HS.out; omega
  rw [if_neg c4] at h
  have b4 : (nd.f0 == 4) = false := beq_eq_false_iff_ne.2 c4
  clear c4
  by_cases ck0 : nd.f1 = []
  · rw [if_pos ck0] at h
    exact absurd h (by simp)
  rw [if_neg ck0] at h
  have q9 := h18_mem nd.f1 ck0
  have HQ9 := Aside0.mk q9
  clear ck0
  obtain ⟨⟨t1, t2, t3⟩, ht, h⟩ := Option.bind_eq_some_iff.1 h
  dsimp only at ht h
  have HT := Aside0.mk ht
  have HA := Aside0.mk h
  clear ht h
  obtain ⟨ad1, he1, kc⟩ := Kd.at_int HCk.out 0 (Int.le_refl 0) HQ9.out
  cases he1
  replace kc : W1.cell? ad1 = some (.int .i64 (rd nd.f1 0)) := by simpa [Addr.add] using kc
  have HKC := Aside0.mk kc
  clear kc q9
  have kc := (E2.out.b.cell (World.block_lt_of_cell? W1 _ HKC.out)).trans HKC.out
  have x1 : W2.cell? ⟨gx, 1, none⟩ = some (.slice (some ad1) nd.f1.length ck) := (blk_cell E2.out.x 1).trans rfl
  have g0 : W2.cell? ⟨gb, 0, none⟩ = some (.slice A0_0 l0_0.length c0_0) := (blk_cell (blk_below HG.out E2.out.b) 0).trans rfl
  have g1 : W2.cell? ⟨gb, 1, none⟩ = some (.slice (some ad) l0_1.length c0_1) := (blk_cell (blk_below HG.out E2.out.b) 1).trans rfl
  have q9i := eq_true HQ9.out
  have q9n : (0 < nd.f1.length) = True := eq_true (by have := HQ9.out; omega)
  go_upto_region 32 with (fail)
  clear b4
  have EW := Aside0.mk E2.out.drew
  clear kc x1 g0 g1
  refine start_ (n := 11) (S := fun w' => w'.cell? ⟨gb, 0, none⟩ = some (.slice A0_0 l0_0.length c0_0) ∧ w'.cell? ⟨gb, 1, none⟩ = some (.slice (some ad) l0_1.length c0_1) ∧ w'.cell? ⟨gx, 1, none⟩ = some (.slice (some ad1) nd.f1.length ck) ∧ w'.cell? ad1 = some (.int .i64 (rd nd.f1 0))) (ds := []) #[false, false, false, false, false, false, false, false, false, false, false] (by kernel_rfl) rfl rfl ⟨(blk_cell (blk_below HG.out EW.out.b) 0).trans rfl, (blk_cell (blk_below HG.out EW.out.b) 1).trans rfl, (blk_cell EW.out.x 1).trans rfl, (EW.out.b.cell (World.block_lt_of_cell? W1 _ HKC.out)).trans HKC.out⟩ (fun hHeld => ?_); refine with_tabW h18_tab32 h18_bits32 (fun HT_ HW_ => ?_)
  generalize W2.drew = W3 at EW hHeld ⊢
  refine pure_ (i := 1) (N := some 136) (v := ?_) (a' := ?_) #[false, true, false, false, false, false, false, false, false, false, false] rfl rfl (any_of HT_.out (by kernel_rfl)) (fun _ _ _ h => h) (Or.inl ⟨by rfl, ?_⟩) ?_ ?_
  rotate_left
  ·
   intro w'
   go_simp
   with_reducible rfl
  rotate_left
  ·
   simp only [Act.put, List.setIfInBounds_toArray, List.set_cons_zero, List.set_cons_succ, i64_w, i32_w]
   rfl
  refine pure_ (i := 5) (N := some 140) (v := ?_) (a' := ?_) #[false, true, false, false, false, true, false, false, false, false, false] rfl rfl (any_of HT_.out (by kernel_rfl)) (fun _ _ _ h => h) (Or.inl ⟨by rfl, ?_⟩) ?_ ?_
  rotate_left
  ·
   intro w'
   go_simp
   with_reducible rfl
  rotate_left
  ·
   simp only [Act.put, List.setIfInBounds_toArray, List.set_cons_zero, List.set_cons_succ, i64_w, i32_w]
   rfl
  refine pure_ (i := 6) (N := some 141) (v := ?_) (a' := ?_) #[false, true, false, false, false, true, true, false, false, false, false] rfl rfl (any_of HT_.out (by kernel_rfl)) (fun _ _ _ h => h) (Or.inl ⟨by rfl, ?_⟩) ?_ ?_
  rotate_left
  ·
   intro w'
   go_simp
   with_reducible rfl
  rotate_left
  ·
   simp only [Act.put, List.setIfInBounds_toArray, List.set_cons_zero, List.set_cons_succ, i64_w, i32_w]
   rfl
  refine pure_ (i := 7) (N := some 142) (v := ?_) (a' := ?_) #[false, true, false, false, false, true, true, true, false, false, false] rfl rfl (any_of HT_.out (by kernel_rfl)) (fun _ _ _ h => h) (Or.inl ⟨by rfl, ?_⟩) ?_ ?_
  rotate_left
  ·
   intro w'
   go_simp
   with_reducible rfl
  rotate_left
  ·
   simp only [Act.put, List.setIfInBounds_toArray, List.set_cons_zero, List.set_cons_succ, i64_w, i32_w]
   rfl
  refine take_ (i := 0) (N := some 135) (v := ?_) (a' := ?_) #[true, true, false, false, false, true, true, true, false, false, false] rfl rfl (take_ofW HT_.out HW_.out (by kernel_rfl)) (fun _ _ _ h => h) (Or.inl ⟨by rfl, ?_⟩) hHeld ?_ ?_
  rotate_left
  ·
   rintro w' ⟨s0, s1, s2, s3⟩
   go_simp
   with_reducible rfl
  rotate_left
  ·
   simp only [Act.put, List.setIfInBounds_toArray, List.set_cons_zero, List.set_cons_succ, i64_w, i32_w]
   rfl
  refine take_ (i := 2) (N := some 137) (v := ?_) (a' := ?_) #[true, true, true, false, false, true, true, true, false, false, false] rfl rfl (take_ofW HT_.out HW_.out (by kernel_rfl)) (fun _ _ _ h => h) (Or.inl ⟨by rfl, ?_⟩) hHeld ?_ ?_
  rotate_left
  ·
   rintro w' ⟨s0, s1, s2, s3⟩
   go_simp
   with_reducible rfl
  rotate_left
  ·
   simp only [Act.put, List.setIfInBounds_toArray, List.set_cons_zero, List.set_cons_succ, i64_w, i32_w]
   rfl
  refine pure_ (i := 3) (N := some 138) (v := ?_) (a' := ?_) #[true, true, true, true, false, true, true, true, false, false, false] rfl rfl (any_of HT_.out (by kernel_rfl)) (fun _ _ _ h => h) (Or.inl ⟨by rfl, ?_⟩) ?_ ?_
  rotate_left
  ·
   intro w'
   go_simp
   with_reducible rfl
  rotate_left
  ·
   simp only [Act.put, List.setIfInBounds_toArray, List.set_cons_zero, List.set_cons_succ, i64_w, i32_w]
   rfl
  refine take_ (i := 4) (N := some 139) (v := ?_) (a' := ?_) #[true, true, true, true, true, true, true, true, false, false, false] rfl rfl (take_ofW HT_.out HW_.out (by kernel_rfl)) (fun _ _ _ h => h) (Or.inl ⟨by rfl, ?_⟩) hHeld ?_ ?_
  rotate_left
  ·
   rintro w' ⟨s0, s1, s2, s3⟩
   go_simp
   with_reducible rfl
  rotate_left
  ·
   simp only [Act.put, List.setIfInBounds_toArray, List.set_cons_zero, List.set_cons_succ, i64_w, i32_w]
   rfl
  refine join_ (σ := Nat) 1 #[true, true, true, true, true, true, true, true, true, true, false] (fun s_ => [(143, .agg #[.bool t1, .int .i64 t2, .int .i64 t3]), (16, .pointer (some ⟨s_, 0, none⟩))]) (fun s_ w' => (w'.cell? ⟨gb, 0, none⟩ = some (.slice A0_0 l0_0.length c0_0) ∧ w'.cell? ⟨gb, 1, none⟩ = some (.slice (some ad) l0_1.length c0_1) ∧ w'.cell? ⟨gx, 1, none⟩ = some (.slice (some ad1) nd.f1.length ck) ∧ w'.cell? ad1 = some (.int .i64 (rd nd.f1 0))) ∧ Env18 W1 gx #[.int .i64 nd.f0, .slice (some ad1) nd.f1.length ck, .int .i64 nd.f2, .int .u64 nd.f3.f0, .int .u64 nd.f3.f1, .int .u64 nd.f3.f2, .int .u64 nd.f3.f3] w' ∧ w'.heap[s_]? = some (.cells #[.bool false, .int .i64 0, .int .i64 0] 31 (0, 0)) ∧ gx ≠ s_ ∧ W1.heap.size ≤ s_) ?_ ?_
  rotate_left
  ·
   intro hCont
   refine two_ (i := 8) (j := 9) (Ni := some 143) (Nj := some 16) #[true, true, true, true, true, true, true, true, true, false, false] #[true, true, true, true, true, true, true, true, false, true, false] rfl rfl rfl rfl (two_of HT_.out (by kernel_rfl)) (by decide) (by decide) (fun K hK => ?_) (fun K hK => ?_)
   ·
    refine goes_ Try.func12 (by kernel_rfl) rfl #[.agg #[.slice A0_0 l0_0.length c0_0, .slice (some ad) l0_1.length c0_1], .int .i64 (rd nd.f1 0), .string a2, .int .i64 a3, .int .i64 u] (by rfl) rfl rfl (by (try simp only [List.map_toArray, List.map_cons, List.map_nil]); first | done | rfl) ?_
    refine (IH.out _ _ l0_0 _ _ l0_1 (rd nd.f1 0) a2 a3 u t1 t2 t3 _ (Kd.C_below HC0.out EW.out.b) hc0_0 (Kd.C_below HC1.out EW.out.b) hc0_1 HT.out).mono ?_
    rintro e_ V1 ⟨rfl, hb⟩
    refine ⟨_, rfl, ?_⟩
    have EV1 := Aside0.mk (EW.out.below hb)
    refine hK.out _ _ ⟨(blk_cell (blk_below HG.out EV1.out.b) 0).trans rfl, (blk_cell (blk_below HG.out EV1.out.b) 1).trans rfl, (blk_cell EV1.out.x 1).trans rfl, (EV1.out.b.cell (World.block_lt_of_cell? W1 _ HKC.out)).trans HKC.out⟩ (fun hHeld => ?_)
    clear hK K
    refine norm_ (a' := ?_) ?_ ?_
    rotate_left
    ·
     show Act.put _ (some 143) _ = _
     simp only [Act.put, List.setIfInBounds_toArray, List.set_cons_zero, List.set_cons_succ, i64_w, i32_w]
     rfl
    refine one_ (i := 9) (N := some 16) #[true, true, true, true, true, true, true, true, true, true, false] rfl rfl (one_of HT_.out (by kernel_rfl)) (by decide) (fun K hK => ?_)
    clear hb
    refine box_step ?hg (N := 16) ?hd (cs := #[.bool false, .int .i64 0, .int .i64 0]) (t := 31) ?hr ?_; (case hd => rfl); (case hg => rfl); (case hr => first | (go_simp; done) | (go_simp; rfl))
    intro gv hg V2 hbox hb
    have HBX : gx ≠ gv ∧ W1.heap.size ≤ gv := by rw [hg]; have := blk_lt EV1.out.x; have := EV1.out.b.size; omega
    have EV2 := Aside0.mk (EV1.out.below hb)
    refine hK.out _ _ ⟨(blk_cell (blk_below HG.out EV2.out.b) 0).trans rfl, (blk_cell (blk_below HG.out EV2.out.b) 1).trans rfl, (blk_cell EV2.out.x 1).trans rfl, (EV2.out.b.cell (World.block_lt_of_cell? W1 _ HKC.out)).trans HKC.out⟩ (fun hHeld => ?_)
    clear hK K
    refine norm_ (a' := ?_) ?_ ?_
    rotate_left
    ·
     show Act.put _ (some 16) _ = _
     simp only [Act.put, List.setIfInBounds_toArray, List.set_cons_zero, List.set_cons_succ, i64_w, i32_w]
     rfl
    exact norm_ (by simp only [putAll, Act.put, List.setIfInBounds_toArray, List.set_cons_zero, List.set_cons_succ]) (hCont gv _ ⟨hHeld, EV2.out, hbox, HBX.1, HBX.2⟩)
   ·
    refine box_step ?hg (N := 16) ?hd (cs := #[.bool false, .int .i64 0, .int .i64 0]) (t := 31) ?hr ?_; (case hd => rfl); (case hg => rfl); (case hr => first | (go_simp; done) | (go_simp; rfl))
    intro gv hg V1 hbox hb
    have HBX : gx ≠ gv ∧ W1.heap.size ≤ gv := by rw [hg]; have := blk_lt EW.out.x; have := EW.out.b.size; omega
    have EV1 := Aside0.mk (EW.out.below hb)
    have BX := Aside0.mk hbox
    have HBX := Aside0.mk HBX
    clear hbox hb hg
    refine hK.out _ _ ⟨(blk_cell (blk_below HG.out EV1.out.b) 0).trans rfl, (blk_cell (blk_below HG.out EV1.out.b) 1).trans rfl, (blk_cell EV1.out.x 1).trans rfl, (EV1.out.b.cell (World.block_lt_of_cell? W1 _ HKC.out)).trans HKC.out⟩ (fun hHeld => ?_)
    clear hK K
    refine norm_ (a' := ?_) ?_ ?_
    rotate_left
    ·
     show Act.put _ (some 16) _ = _
     simp only [Act.put, List.setIfInBounds_toArray, List.set_cons_zero, List.set_cons_succ, i64_w, i32_w]
     rfl
    refine one_ (i := 8) (N := some 143) #[true, true, true, true, true, true, true, true, true, true, false] rfl rfl (one_of HT_.out (by kernel_rfl)) (by decide) (fun K hK => ?_)
    refine goes_ Try.func12 (by kernel_rfl) rfl #[.agg #[.slice A0_0 l0_0.length c0_0, .slice (some ad) l0_1.length c0_1], .int .i64 (rd nd.f1 0), .string a2, .int .i64 a3, .int .i64 u] (by rfl) rfl rfl (by (try simp only [List.map_toArray, List.map_cons, List.map_nil]); first | done | rfl) ?_
    refine (IH.out _ _ l0_0 _ _ l0_1 (rd nd.f1 0) a2 a3 u t1 t2 t3 _ (Kd.C_below HC0.out EV1.out.b) hc0_0 (Kd.C_below HC1.out EV1.out.b) hc0_1 HT.out).mono ?_
    rintro e_ V2 ⟨rfl, hb⟩
    refine ⟨_, rfl, ?_⟩
    have EV2 := Aside0.mk (EV1.out.below hb)
    refine hK.out _ _ ⟨(blk_cell (blk_below HG.out EV2.out.b) 0).trans rfl, (blk_cell (blk_below HG.out EV2.out.b) 1).trans rfl, (blk_cell EV2.out.x 1).trans rfl, (EV2.out.b.cell (World.block_lt_of_cell? W1 _ HKC.out)).trans HKC.out⟩ (fun hHeld => ?_)
    clear hK K
    refine norm_ (a' := ?_) ?_ ?_
    rotate_left
    ·
     show Act.put _ (some 143) _ = _
     simp only [Act.put, List.setIfInBounds_toArray, List.set_cons_zero, List.set_cons_succ, i64_w, i32_w]
     rfl
    exact norm_ (by simp only [putAll, Act.put, List.setIfInBounds_toArray, List.set_cons_zero, List.set_cons_succ]) (hCont gv _ ⟨hHeld, EV2.out, blk_below BX.out hb, HBX.out.1, HBX.out.2⟩)
  rintro gv V3 ⟨hHeld, hE_, hB_, hn_, hg_⟩
  have EV3 := Aside0.mk hE_
  have BV3 := Aside0.mk hB_
  have HV : Aside0 (gx ≠ gv ∧ W1.heap.size ≤ gv ∧ gr ≠ gv) := ⟨hn_, hg_, by have := hnd.out; omega⟩
  clear hE_ hB_ hn_ hg_
  refine norm_ (a' := ?_) ?_ ?_
  rotate_left
  ·
   simp only [putAll, Act.put, List.setIfInBounds_toArray, List.set_cons_zero, List.set_cons_succ]
   rfl
  refine one_ (i := 10) (N := none) #[true, true, true, true, true, true, true, true, true, true, true] rfl rfl (one_of HT_.out (by kernel_rfl)) (by decide) (fun K hK => ?_)
  have v0 : V3.cell? ⟨gv, 0, none⟩ = some (.bool false) := (blk_cell BV3.out 0).trans rfl
  have y0 : V3.frozen? ⟨gv, 0, none⟩ = false := blk_frozen BV3.out 0
  have v1 : V3.cell? ⟨gv, 1, none⟩ = some (.int .i64 0) := (blk_cell BV3.out 1).trans rfl
  have y1 : V3.frozen? ⟨gv, 1, none⟩ = false := blk_frozen BV3.out 1
  have v2 : V3.cell? ⟨gv, 2, none⟩ = some (.int .i64 0) := (blk_cell BV3.out 2).trans rfl
  have y2 : V3.frozen? ⟨gv, 2, none⟩ = false := blk_frozen BV3.out 2
  refine skip_ (w1 := ?_) (by rfl) rfl ?_ ?_
  rotate_left
  ·
   go_simp
   rfl
  have EV := Aside0.mk (EV3.out.put3 HV.out.2.1 HV.out.1 (.bool t1) (.int .i64 t2) (.int .i64 t3))
  have BV := Aside0.mk (h18_blk3 BV3.out (.bool t1) (.int .i64 t2) (.int .i64 t3))
  refine hK.out _ _ ⟨(blk_cell (blk_below HG.out EV.out.b) 0).trans rfl, (blk_cell (blk_below HG.out EV.out.b) 1).trans rfl, (blk_cell EV.out.x 1).trans rfl, (EV.out.b.cell (World.block_lt_of_cell? W1 _ HKC.out)).trans HKC.out⟩ (fun hHeld => ?_)
  clear hK K
  refine done_ (done_of HT_.out (by kernel_rfl)) ?_
  clear hHeld v0 v1 v2 y0 y1 y2
  generalize (((V3.setCell ⟨gv, 0, none⟩ (.bool t1)).setCell ⟨gv, 1, none⟩ (.int .i64 t2)).setCell ⟨gv, 2, none⟩ (.int .i64 t3)) = V0 at EV BV ⊢
  clear EV3 BV3
  have v0 : V0.cell? ⟨gv, 0, none⟩ = some (.bool t1) := (blk_cell BV.out 0).trans rfl
  have v1 : V0.cell? ⟨gv, 1, none⟩ = some (.int .i64 t2) := (blk_cell BV.out 1).trans rfl
  have v2 : V0.cell? ⟨gv, 2, none⟩ = some (.int .i64 t3) := (blk_cell BV.out 2).trans rfl
  go_upto_region 33 with (fail)
  clear v0 v1 v2
  have h := HA.out
  clear HA
  cases t1 with
  | false =>
    rw [if_pos rfl] at h
    simp only [Option.some.injEq, Prod.mk.injEq] at h
    obtain ⟨rfl, rfl, rfl⟩ := h
    have v0 : V0.cell? ⟨gv, 0, none⟩ = some (.bool false) := (blk_cell BV.out 0).trans rfl
    have v1 : V0.cell? ⟨gv, 1, none⟩ = some (.int .i64 t2) := (blk_cell BV.out 1).trans rfl
    have v2 : V0.cell? ⟨gv, 2, none⟩ = some (.int .i64 t3) := (blk_cell BV.out 2).trans rfl
    have rr0 : V0.cell? ⟨gr, 0, none⟩ = some (.bool false) := (blk_cell (blk_below HR.out EV.out.b) 0).trans rfl
    have z0 : V0.frozen? ⟨gr, 0, none⟩ = false := blk_frozen (blk_below HR.out EV.out.b) 0
    have rr1 : V0.cell? ⟨gr, 1, none⟩ = some (.int .i64 0) := (blk_cell (blk_below HR.out EV.out.b) 1).trans rfl
    have z1 : V0.frozen? ⟨gr, 1, none⟩ = false := blk_frozen (blk_below HR.out EV.out.b) 1
    have rr2 : V0.cell? ⟨gr, 2, none⟩ = some (.int .i64 0) := (blk_cell (blk_below HR.out EV.out.b) 2).trans rfl
    have z2 : V0.frozen? ⟨gr, 2, none⟩ = false := blk_frozen (blk_below HR.out EV.out.b) 2
    go_wp2
    refine bodyPost_ret (results_cell_row rfl _ _ gr 31 #[.bool false, .int .i64 t2, .int .i64 t3] (0, 0) _ rfl (h18_blk3 (blk_below HR.out EV.out.b) _ _ _) Try.underlying31 rfl (by kernel_rfl)) rfl ⟨rfl, h18_below3 (below_step HB.out EV.out.b) (by have := HGB.out; have := HGR.out; omega) _ _ _⟩
  | true =>
    rw [if_neg (by decide)] at h
    have v0 : V0.cell? ⟨gv, 0, none⟩ = some (.bool true) := (blk_cell BV.out 0).trans rfl
    have v1 : V0.cell? ⟨gv, 1, none⟩ = some (.int .i64 t2) := (blk_cell BV.out 1).trans rfl
    have v2 : V0.cell? ⟨gv, 2, none⟩ = some (.int .i64 t3) := (blk_cell BV.out 2).trans rfl
    have x0 : V0.cell? ⟨gx, 0, none⟩ = some (.int .i64 nd.f0) := (blk_cell EV.out.x 0).trans rfl
    go_upto_region 36 with (fail)
    have c7 : ¬ nd.f0 = 7 := by have := HS.out; omega
    rw [if_neg c7] at h
    have b7 : (nd.f0 == 7) = false := beq_eq_false_iff_ne.2 c7
    clear c7
    go_upto_region 40 with (fail)
    clear b7
    have c8 : ¬ nd.f0 = 8 := by have := HS.out; omega
    rw [if_neg c8] at h
    have b8 : (nd.f0 == 8) = false := beq_eq_false_iff_ne.2 c8
    clear c8
    go_upto_region 44 with (fail)
    clear b8
    have c9 : nd.f0 = 9 := HS.out
    rw [if_pos c9] at h
    have b9 : (nd.f0 == 9) = true := beq_iff_eq.2 c9
    clear c9
    by_cases ct : t2 < 0
    · rw [if_pos ct] at h
      have ctb : decide (t2 < 0) = true := decide_eq_true ct
      clear ct
      simp only [Option.some.injEq, Prod.mk.injEq] at h
      obtain ⟨rfl, rfl, rfl⟩ := h
      have rr0 : V0.cell? ⟨gr, 0, none⟩ = some (.bool false) := (blk_cell (blk_below HR.out EV.out.b) 0).trans rfl
      have z0 : V0.frozen? ⟨gr, 0, none⟩ = false := blk_frozen (blk_below HR.out EV.out.b) 0
      have rr1 : V0.cell? ⟨gr, 1, none⟩ = some (.int .i64 0) := (blk_cell (blk_below HR.out EV.out.b) 1).trans rfl
      have z1 : V0.frozen? ⟨gr, 1, none⟩ = false := blk_frozen (blk_below HR.out EV.out.b) 1
      have rr2 : V0.cell? ⟨gr, 2, none⟩ = some (.int .i64 0) := (blk_cell (blk_below HR.out EV.out.b) 2).trans rfl
      have z2 : V0.frozen? ⟨gr, 2, none⟩ = false := blk_frozen (blk_below HR.out EV.out.b) 2
      go_wp2
      refine bodyPost_ret (results_cell_row rfl _ _ gr 31 #[.bool true, .int .i64 a3, .int .i64 t3] (0, 0) _ rfl (h18_blk3 (blk_below HR.out EV.out.b) _ _ _) Try.underlying31 rfl (by kernel_rfl)) rfl ⟨rfl, h18_below3 (below_step HB.out EV.out.b) (by have := HGB.out; have := HGR.out; omega) _ _ _⟩
    · rw [if_neg ct] at h
      have ctb : decide (t2 < 0) = false := decide_eq_false ct
      clear ct
      simp only [Option.some.injEq, Prod.mk.injEq] at h
      obtain ⟨rfl, rfl, rfl⟩ := h
      have rr0 : V0.cell? ⟨gr, 0, none⟩ = some (.bool false) := (blk_cell (blk_below HR.out EV.out.b) 0).trans rfl
      have z0 : V0.frozen? ⟨gr, 0, none⟩ = false := blk_frozen (blk_below HR.out EV.out.b) 0
      have rr1 : V0.cell? ⟨gr, 1, none⟩ = some (.int .i64 0) := (blk_cell (blk_below HR.out EV.out.b) 1).trans rfl
      have z1 : V0.frozen? ⟨gr, 1, none⟩ = false := blk_frozen (blk_below HR.out EV.out.b) 1
      have rr2 : V0.cell? ⟨gr, 2, none⟩ = some (.int .i64 0) := (blk_cell (blk_below HR.out EV.out.b) 2).trans rfl
      have z2 : V0.frozen? ⟨gr, 2, none⟩ = false := blk_frozen (blk_below HR.out EV.out.b) 2
      go_wp2
      refine bodyPost_ret (results_cell_row rfl _ _ gr 31 #[.bool true, .int .i64 (-1), .int .i64 t3] (0, 0) _ rfl (h18_blk3 (blk_below HR.out EV.out.b) _ _ _) Try.underlying31 rfl (by kernel_rfl)) rfl ⟨rfl, h18_below3 (below_step HB.out EV.out.b) (by have := HGB.out; have := HGR.out; omega) _ _ _⟩
end Go.Proofs.Ythgedejnpgcacaa.V
namespace Go.Proofs.Ythgedejnpgcacaa.V
open Go.RowKit Go.Proofs.YthgedejnpgcacaaW.PrintWords
set_option linter.unusedVariables false
theorem vetchref18_Node.calls (k : Nat) : ∀ (A0_0 : Option Addr) (c0_0 : Nat) (l0_0 : List S51) (A0_1 : Option Addr) (c0_1 : Nat) (l0_1 : List S56) (a1 : Int) (a2 : ByteArray) (a3 a4 : Int) (r1 : Bool) (r2 r3 : Int) (w : World)
    (hr0_0 : Kd.C k51 w A0_0 l0_0.length l0_0) (hc0_0 : l0_0.length ≤ c0_0) (hr0_1 : Kd.C k56 w A0_1 l0_1.length l0_1) (hc0_1 : l0_1.length ≤ c0_1) (h : vetchref18_Node.f k l0_0 l0_1 a1 a2 a3 a4 = some (r1, r2, r3)),
    Calls Try.prog 12 #[.agg #[.slice A0_0 l0_0.length c0_0, .slice A0_1 l0_1.length c0_1], .int .i64 a1, .string a2, .int .i64 a3, .int .i64 a4] w fun e w' => e = .returned (.agg #[.bool r1, .int .i64 r2, .int .i64 r3]) ∧ Below w.heap.size w w' := by
  induction k with
  | zero => intro A0_0 c0_0 l0_0 A0_1 c0_1 l0_1 a1 a2 a3 a4 r1 r2 r3 w hr0_0 hc0_0 hr0_1 hc0_1 h; exact absurd h (by simp [vetchref18_Node.f])
  | succ k ih =>
  intro A0_0 c0_0 l0_0 A0_1 c0_1 l0_1 a1 a2 a3 a4 r1 r2 r3 w hr0_0 hc0_0 hr0_1 hc0_1 h
  by_cases cf : a4 < 1
  · exact vetchref18_Node.calls_sf k ih A0_0 c0_0 l0_0 A0_1 c0_1 l0_1 a1 a2 a3 a4 r1 r2 r3 w hr0_0 hc0_0 hr0_1 hc0_1 ⟨cf⟩ h
  by_cases ci : 0 ≤ a1 ∧ a1 < (l0_1.length : Int)
  · by_cases d0 : (rd_T56 l0_1 a1).f0 = 0
    · exact vetchref18_Node.calls_s0 k ih A0_0 c0_0 l0_0 A0_1 c0_1 l0_1 a1 a2 a3 a4 r1 r2 r3 w hr0_0 hc0_0 hr0_1 hc0_1 ⟨cf, ci, d0⟩ h
    by_cases d1 : (rd_T56 l0_1 a1).f0 = 1
    · exact vetchref18_Node.calls_s1 k ih A0_0 c0_0 l0_0 A0_1 c0_1 l0_1 a1 a2 a3 a4 r1 r2 r3 w hr0_0 hc0_0 hr0_1 hc0_1 ⟨cf, ci, d1⟩ h
    by_cases d2 : (rd_T56 l0_1 a1).f0 = 2
    · exact vetchref18_Node.calls_s2 k ih A0_0 c0_0 l0_0 A0_1 c0_1 l0_1 a1 a2 a3 a4 r1 r2 r3 w hr0_0 hc0_0 hr0_1 hc0_1 ⟨cf, ci, d2⟩ h
    by_cases d3 : (rd_T56 l0_1 a1).f0 = 3
    · exact vetchref18_Node.calls_s3 k ih A0_0 c0_0 l0_0 A0_1 c0_1 l0_1 a1 a2 a3 a4 r1 r2 r3 w hr0_0 hc0_0 hr0_1 hc0_1 ⟨cf, ci, d3⟩ h
    by_cases d4 : (rd_T56 l0_1 a1).f0 = 4
    · exact vetchref18_Node.calls_s4 k ih A0_0 c0_0 l0_0 A0_1 c0_1 l0_1 a1 a2 a3 a4 r1 r2 r3 w hr0_0 hc0_0 hr0_1 hc0_1 ⟨cf, ci, d4⟩ h
    by_cases d7 : (rd_T56 l0_1 a1).f0 = 7
    · exact vetchref18_Node.calls_s7 k ih A0_0 c0_0 l0_0 A0_1 c0_1 l0_1 a1 a2 a3 a4 r1 r2 r3 w hr0_0 hc0_0 hr0_1 hc0_1 ⟨cf, ci, d7⟩ h
    by_cases d8 : (rd_T56 l0_1 a1).f0 = 8
    · exact vetchref18_Node.calls_s8 k ih A0_0 c0_0 l0_0 A0_1 c0_1 l0_1 a1 a2 a3 a4 r1 r2 r3 w hr0_0 hc0_0 hr0_1 hc0_1 ⟨cf, ci, d8⟩ h
    by_cases d9 : (rd_T56 l0_1 a1).f0 = 9
    · exact vetchref18_Node.calls_s9 k ih A0_0 c0_0 l0_0 A0_1 c0_1 l0_1 a1 a2 a3 a4 r1 r2 r3 w hr0_0 hc0_0 hr0_1 hc0_1 ⟨cf, ci, d9⟩ h
    exact vetchref18_Node.calls_s5 k ih A0_0 c0_0 l0_0 A0_1 c0_1 l0_1 a1 a2 a3 a4 r1 r2 r3 w hr0_0 hc0_0 hr0_1 hc0_1 ⟨cf, ci, d0, d1, d2, d3, d4, d7, d8, d9⟩ h
  · rw [vetchref18_Node.f, if_neg cf, if_neg ci] at h
    exact absurd h (by simp)
end Go.Proofs.Ythgedejnpgcacaa.V
namespace Go.Proofs.Ythgedejnpgcacaa.V
open Go.RowKit Go.Proofs.YthgedejnpgcacaaW.PrintWords Go.Proofs.YthgedejnpgcacaaW.PrintLast Go.Proofs.YthgedejnpgcacaaW.PrintMore
attribute [local go_sem] max2_int min2_int max_two min_two max_three min_three max_four min_four
set_option linter.unusedVariables false
set_option linter.unusedSimpArgs false
mutual
def vetchlaw18_NaiveEnds.j0 : Nat → Int → ByteArray → Int → Bool → List (S51) → List (S56) → Option (Bool)
 | 0, _, _, _, _, _, _ => none
 | k + 1, x1, x2, x3, x27, x281000, x281001 => if x27 = true then ((vetchlaw18_awake.f k).bind fun t283 => (some t283)) else (if (x281001.length : Int) = 0 then (none) else ((naive_Ends.f k x281000 x281001 (Int.tmod (wrap64 (x1)) (x281001.length : Int)) x2 x3).bind fun t284 => (if (t284.length : Int) = (wrap64 ((x2.size : Int) + 1)) then (vetchlaw18_NaiveEnds.l0 k x2 x3 (Int.tmod (wrap64 (x1)) (x281001.length : Int)) t284 0 x281000 x281001) else (some false))))
def vetchlaw18_NaiveEnds.l0 : Nat → ByteArray → Int → Int → List Int → Int → List (S51) → List (S56) → Option (Bool)
 | 0, _, _, _, _, _, _, _ => none
 | k + 1, x2, x3, x9, x10, x11, x281000, x281001 => if x11 < (x10.length : Int) then ((vetchref18_Node.f k x281000 x281001 x9 x2 x11 x3).bind fun bt287 => (if bt287.1 = true then (if 0 ≤ x11 then (if (rd x10 x11) = bt287.2.1 then (vetchlaw18_NaiveEnds.l0 k x2 x3 x9 x10 (wrap64 (x11 + 1)) x281000 x281001) else (some false)) else (none)) else (if 0 ≤ x11 then (if (rd x10 x11) = (-2) then (vetchlaw18_NaiveEnds.l0 k x2 x3 x9 x10 (wrap64 (x11 + 1)) x281000 x281001) else (some false)) else (none)))) else (some true)
end
def vetchlaw18_NaiveEnds.f (k : Nat) (l0_0 : List (S51)) (l0_1 : List (S56)) (a1 : Int) (a2 : ByteArray) (a3 : Int) : Option (Bool) := (vetchlaw18_awake.f k).bind fun t281 => (if t281 = true then ((vetchlaw18_fits.f k l0_0 l0_1 a2 a3).bind fun t282 => (if t282 = true then (vetchlaw18_NaiveEnds.j0 k a1 a2 a3 (decide ((a2.size : Int) > 20)) l0_0 l0_1) else (vetchlaw18_NaiveEnds.j0 k a1 a2 a3 true l0_0 l0_1))) else (vetchlaw18_NaiveEnds.j0 k a1 a2 a3 true l0_0 l0_1))
theorem vetchlaw18_NaiveEnds.mono_l : ∀ k, (∀ y0 y1 y2 y3 y4 y5, LeO (vetchlaw18_NaiveEnds.j0 k y0 y1 y2 y3 y4 y5) (vetchlaw18_NaiveEnds.j0 (k + 1) y0 y1 y2 y3 y4 y5)) ∧ (∀ y0 y1 y2 y3 y4 y5 y6, LeO (vetchlaw18_NaiveEnds.l0 k y0 y1 y2 y3 y4 y5 y6) (vetchlaw18_NaiveEnds.l0 (k + 1) y0 y1 y2 y3 y4 y5 y6))
 | 0 => ⟨fun _ _ _ _ _ _ r h => by simp [vetchlaw18_NaiveEnds.j0] at h, fun _ _ _ _ _ _ _ r h => by simp [vetchlaw18_NaiveEnds.l0] at h⟩
 | k + 1 => by
  obtain ⟨ih0, ih1⟩ := vetchlaw18_NaiveEnds.mono_l k
  refine ⟨?_, ?_⟩
  ·
   intro y0 y1 y2 y3 y4 y5
   unfold vetchlaw18_NaiveEnds.j0
   repeat' first
   | (with_reducible exact ih0 _ _ _ _ _ _)
   | (with_reducible exact ih1 _ _ _ _ _ _ _)
   | (with_reducible exact naive_Ends.mono _ _ _ _ _ _)
   | (with_reducible exact vetchlaw18_awake.mono _)
   | (with_reducible exact vetchlaw18_fits.mono _ _ _ _ _)
   | (with_reducible exact vetchref18_Node.mono _ _ _ _ _ _ _)
   | (with_reducible exact LeO.refl _)
   | (with_reducible exact LeO.none _)
   | (with_reducible refine LeO.ite ?_ ?_)
   | (with_reducible refine LeO.bind ?_ (fun _ => ?_))
   | exact ih0 _ _ _ _ _ _
   | exact ih1 _ _ _ _ _ _ _
   | exact naive_Ends.mono _ _ _ _ _ _
   | exact vetchlaw18_awake.mono _
   | exact vetchlaw18_fits.mono _ _ _ _ _
   | exact vetchref18_Node.mono _ _ _ _ _ _ _
   | exact LeO.none _
   | refine LeO.ite ?_ ?_
   | refine LeO.bind ?_ (fun _ => ?_)
  ·
   intro y0 y1 y2 y3 y4 y5 y6
   unfold vetchlaw18_NaiveEnds.l0
   repeat' first
   | (with_reducible exact ih0 _ _ _ _ _ _)
   | (with_reducible exact ih1 _ _ _ _ _ _ _)
   | (with_reducible exact naive_Ends.mono _ _ _ _ _ _)
   | (with_reducible exact vetchlaw18_awake.mono _)
   | (with_reducible exact vetchlaw18_fits.mono _ _ _ _ _)
   | (with_reducible exact vetchref18_Node.mono _ _ _ _ _ _ _)
   | (with_reducible exact LeO.refl _)
   | (with_reducible exact LeO.none _)
   | (with_reducible refine LeO.ite ?_ ?_)
   | (with_reducible refine LeO.bind ?_ (fun _ => ?_))
   | exact ih0 _ _ _ _ _ _
   | exact ih1 _ _ _ _ _ _ _
   | exact naive_Ends.mono _ _ _ _ _ _
   | exact vetchlaw18_awake.mono _
   | exact vetchlaw18_fits.mono _ _ _ _ _
   | exact vetchref18_Node.mono _ _ _ _ _ _ _
   | exact LeO.none _
   | refine LeO.ite ?_ ?_
   | refine LeO.bind ?_ (fun _ => ?_)
theorem vetchlaw18_NaiveEnds.mono : ∀ a0 a1 a2 a3 a4 k, LeO (vetchlaw18_NaiveEnds.f k a0 a1 a2 a3 a4) (vetchlaw18_NaiveEnds.f (k + 1) a0 a1 a2 a3 a4) := by
 intro a0 a1 a2 a3 a4 k
 obtain ⟨ih0, ih1⟩ := vetchlaw18_NaiveEnds.mono_l k
 unfold vetchlaw18_NaiveEnds.f
 repeat' first
  | (with_reducible exact ih0 _ _ _ _ _ _)
  | (with_reducible exact ih1 _ _ _ _ _ _ _)
  | (with_reducible exact naive_Ends.mono _ _ _ _ _ _)
  | (with_reducible exact vetchlaw18_awake.mono _)
  | (with_reducible exact vetchlaw18_fits.mono _ _ _ _ _)
  | (with_reducible exact vetchref18_Node.mono _ _ _ _ _ _ _)
  | (with_reducible exact LeO.refl _)
  | (with_reducible exact LeO.none _)
  | (with_reducible refine LeO.ite ?_ ?_)
  | (with_reducible refine LeO.bind ?_ (fun _ => ?_))
  | exact ih0 _ _ _ _ _ _
  | exact ih1 _ _ _ _ _ _ _
  | exact naive_Ends.mono _ _ _ _ _ _
  | exact vetchlaw18_awake.mono _
  | exact vetchlaw18_fits.mono _ _ _ _ _
  | exact vetchref18_Node.mono _ _ _ _ _ _ _
  | exact LeO.none _
  | refine LeO.ite ?_ ?_
  | refine LeO.bind ?_ (fun _ => ?_)
set_option maxHeartbeats 8000000 in
set_option maxRecDepth 100000 in
theorem vetchlaw18_NaiveEnds.calls (k : Nat) (A0_0 : Option Addr) (c0_0 : Nat) (l0_0 : List (S51)) (A0_1 : Option Addr) (c0_1 : Nat) (l0_1 : List (S56)) (a1 : Int) (a2 : ByteArray) (a3 : Int) (r : Bool) (w : World) (hr0_0 : Kd.C k51 w A0_0 l0_0.length l0_0) (hc0_0 : l0_0.length ≤ c0_0) (hr0_1 : Kd.C k56 w A0_1 l0_1.length l0_1) (hc0_1 : l0_1.length ≤ c0_1) (h : vetchlaw18_NaiveEnds.f k l0_0 l0_1 a1 a2 a3 = some r) :
 Calls Try.prog 6 #[.agg #[.slice A0_0 l0_0.length c0_0, .slice A0_1 l0_1.length c0_1], .int .u16 a1, .string a2, .int .i64 a3] w fun e w' => e = .returned (.bool r) ∧ Below w.heap.size w w' := by
 have hu25 := Try.underlying25
 have hu31 := Try.underlying31
 have HR0_0 := Aside0.mk hr0_0
 have HC0_0 := Aside0.mk hc0_0
 clear hr0_0 hc0_0
 have HR0_1 := Aside0.mk hr0_1
 have HC0_1 := Aside0.mk hc0_1
 clear hr0_1 hc0_1
 have HB := Aside0.mk (Below.refl w.heap.size w)
 have H : ((vetchlaw18_awake.f k).bind fun t281 => (if t281 = true then ((vetchlaw18_fits.f k l0_0 l0_1 a2 a3).bind fun t282 => (if t282 = true then (vetchlaw18_NaiveEnds.j0 k a1 a2 a3 (decide ((a2.size : Int) > 20)) l0_0 l0_1) else (vetchlaw18_NaiveEnds.j0 k a1 a2 a3 true l0_0 l0_1))) else (vetchlaw18_NaiveEnds.j0 k a1 a2 a3 true l0_0 l0_1))) = some r := h
 clear h
 have HC5 := Aside0.mk H
 clear H
 go_enter Try.func6, Try.ntmps6
 go_upto_region 1 with (first | ((with_reducible refine gate_dst (N := 4) rfl ?_); (try (refine gate_guard (by rfl) ?_; dsimp only)); refine box_event ?hg (N := 4) ?hd (cs := #[.slice A0_0 l0_0.length c0_0, .slice A0_1 l0_1.length c0_1]) (t := 25) ?hr ?_; (case hd => rfl); (case hg => rfl); (case hr => first | (go_simp; done) | (go_simp; rfl)); intro gb280 hg w6 hbox hb; have n0_ := Aside0.mk (below_step (by repeat (first | (with_reducible first | exact HB.out | apply below_alloc | apply pw_below_drewN | apply below_drew1) | exact HB.out)) hb); have n1_ := Aside0.mk (hbox); have n2_ := Aside0.mk ((by rw [hg]; exact (below_size (by repeat (first | (with_reducible first | exact HB.out | apply below_alloc | apply pw_below_drewN | apply below_drew1) | exact HB.out))) : w.heap.size ≤ gb280)); have n3_ := Aside0.mk ((by rw [hg]; exact (below_size (by repeat (first | (with_reducible first | exact HB.out | apply below_alloc | apply pw_below_drewN | apply below_drew1) | exact HB.out))) : w.heap.size ≤ gb280)); clear HB; have HB := n0_; have BK280 := n1_; have GW280 := n2_; have GE280 := n3_; clear n0_ n1_ n2_ n3_; clear hb hbox hg))
 (try simp only [Act.put, List.setIfInBounds_toArray, List.set_cons_zero, List.set_cons_succ])
 go_cut [27] (fun v27 wc => ∃ (kq : Nat) (x27_4 : Bool), v27 = .bool x27_4 ∧ Aside0 (vetchlaw18_NaiveEnds.j0 kq a1 a2 a3 x27_4 l0_0 l0_1 = some r) ∧ Aside0 (kq ≤ k) ∧ Aside0 (wc.heap[gb280]? = some (.cells #[(.slice A0_0 l0_0.length c0_0), (.slice A0_1 l0_1.length c0_1)] 25 (0, 0))) ∧ Aside0 (Below w.heap.size w wc))
 case first =>
  have H := HC5.out
  clear HC5
  replace H := Option.bind_eq_some_iff.mp H
  obtain ⟨t281, A70, H⟩ := H
  replace H : (if t281 = true then ((vetchlaw18_fits.f k l0_0 l0_1 a2 a3).bind fun t282 => (if t282 = true then (vetchlaw18_NaiveEnds.j0 k a1 a2 a3 (decide ((a2.size : Int) > 20)) l0_0 l0_1) else (vetchlaw18_NaiveEnds.j0 k a1 a2 a3 true l0_0 l0_1))) else (vetchlaw18_NaiveEnds.j0 k a1 a2 a3 true l0_0 l0_1)) = some r := H
  have A7 := Aside0.mk A70
  clear A70
  by_cases c8 : t281 = true
  ·
   subst c8
   have H1 : ((vetchlaw18_fits.f k l0_0 l0_1 a2 a3).bind fun t282 => (if t282 = true then (vetchlaw18_NaiveEnds.j0 k a1 a2 a3 (decide ((a2.size : Int) > 20)) l0_0 l0_1) else (vetchlaw18_NaiveEnds.j0 k a1 a2 a3 true l0_0 l0_1))) = some r := by rw [if_pos rfl] at H; exact H
   clear H
   have H := H1
   clear H1
   replace H := Option.bind_eq_some_iff.mp H
   obtain ⟨t282, A90, H⟩ := H
   replace H : (if t282 = true then (vetchlaw18_NaiveEnds.j0 k a1 a2 a3 (decide ((a2.size : Int) > 20)) l0_0 l0_1) else (vetchlaw18_NaiveEnds.j0 k a1 a2 a3 true l0_0 l0_1)) = some r := H
   have A9 := Aside0.mk A90
   clear A90
   by_cases c10 : t282 = true
   ·
    subst c10
    have H1 : (vetchlaw18_NaiveEnds.j0 k a1 a2 a3 (decide ((a2.size : Int) > 20)) l0_0 l0_1) = some r := by rw [if_pos rfl] at H; exact H
    clear H
    have H := H1
    clear H1
    have H' := Aside0.mk H
    clear H
    go_wp2_with (first | ((with_reducible refine gate_callee (f := 9) rfl ?_); refine goesL_ (some 14) rfl rfl Try.func9 (by kernel_rfl) rfl #[] rfl (by (try simp only [List.map_toArray, List.map_cons, List.map_nil]); first | done | rfl | (simp only [List.length_drop, List.length_take]; rfl)) ?_; (with_reducible refine (vetchlaw18_awake.calls k  true _ A7.out).mono ?_); rintro e w11 ⟨rfl, hb⟩; refine ⟨_, rfl, ?_⟩; have n0_ := Aside0.mk (blk_below (g := gb280) (o := .cells #[.slice A0_0 l0_0.length c0_0, .slice A0_1 l0_1.length c0_1] 25 (0, 0)) (by (with_reducible repeat (first | refine blk_drewN ?_ _ | refine blk_drew ?_ | refine blk_alloc ?_ _)); exact BK280.out) hb); have n1_ := Aside0.mk (below_step (by repeat (first | (with_reducible first | exact HB.out | apply below_alloc | apply pw_below_drewN | apply below_drew1 | refine below_set ?_ GE280.out) | exact HB.out)) hb); clear BK280; clear HB; have BK280 := n0_; have HB := n1_; clear n0_ n1_; (try clear hb); (try clear hb2); (try clear hk); (try clear hi); have hcz12_0 : w11.cell? ⟨gb280, 0, none⟩ = some (.slice A0_0 l0_0.length c0_0) := (blk_cell BK280.out 0).trans rfl; have hcz12_1 : w11.cell? ⟨gb280, 1, none⟩ = some (.slice A0_1 l0_1.length c0_1) := (blk_cell BK280.out 1).trans rfl; have hfz12_0 := blk_frozen BK280.out 0; have hfz12_1 := blk_frozen BK280.out 1) | (go_at_call 10; (with_reducible refine (vetchlaw18_fits.calls k _ _ l0_0 _ _ l0_1 a2 a3 true _ ?side1 ?side2 ?side3 ?side4 A9.out).mono ?_); (case side1 => repeat (first | exact (Kd.C_below HR0_0.out HB.out) | (with_reducible refine Kd.C_alloc ?_ _) | (with_reducible refine Kd.C_drewN ?_ _) | (with_reducible refine Kd.C_drew ?_))); (case side2 => exact HC0_0.out); (case side3 => repeat (first | exact (Kd.C_below HR0_1.out HB.out) | (with_reducible refine Kd.C_alloc ?_ _) | (with_reducible refine Kd.C_drewN ?_ _) | (with_reducible refine Kd.C_drew ?_))); (case side4 => exact HC0_1.out); rintro e w13 ⟨rfl, hb⟩; have n0_ := Aside0.mk (blk_below (g := gb280) (o := .cells #[.slice A0_0 l0_0.length c0_0, .slice A0_1 l0_1.length c0_1] 25 (0, 0)) (by (with_reducible repeat (first | refine blk_drewN ?_ _ | refine blk_drew ?_ | refine blk_alloc ?_ _)); exact BK280.out) hb); have n1_ := Aside0.mk (below_step (by repeat (first | (with_reducible first | exact HB.out | apply below_alloc | apply pw_below_drewN | apply below_drew1 | refine below_set ?_ GE280.out) | exact HB.out)) hb); clear BK280; clear HB; have BK280 := n0_; have HB := n1_; clear n0_ n1_; (try clear hb); (try clear hb2); (try clear hk); (try clear hi)))
    go_meet
    case rel => exact ⟨_, (decide ((a2.size : Int) > 20)), (by first | rfl | (simp; done) | (simp [*]; done)), H', ⟨by first | omega | exact Nat.le_refl _⟩, ⟨by (with_reducible repeat (first | refine blk_drewN ?_ _ | refine blk_drew ?_ | refine blk_alloc ?_ _)); exact BK280.out⟩, ⟨by repeat (first | (with_reducible first | exact HB.out | apply below_alloc | apply pw_below_drewN | apply below_drew1 | refine below_set ?_ GE280.out) | exact HB.out)⟩⟩
   ·
    replace c10 := Bool.eq_false_iff.mpr c10
    subst c10
    have H1 : (vetchlaw18_NaiveEnds.j0 k a1 a2 a3 true l0_0 l0_1) = some r := by rw [if_neg (show ¬ (false = true) by decide)] at H; exact H
    clear H
    have H := H1
    clear H1
    have H' := Aside0.mk H
    clear H
    go_wp2_with (first | ((with_reducible refine gate_callee (f := 9) rfl ?_); refine goesL_ (some 14) rfl rfl Try.func9 (by kernel_rfl) rfl #[] rfl (by (try simp only [List.map_toArray, List.map_cons, List.map_nil]); first | done | rfl | (simp only [List.length_drop, List.length_take]; rfl)) ?_; (with_reducible refine (vetchlaw18_awake.calls k  true _ A7.out).mono ?_); rintro e w14 ⟨rfl, hb⟩; refine ⟨_, rfl, ?_⟩; have n0_ := Aside0.mk (blk_below (g := gb280) (o := .cells #[.slice A0_0 l0_0.length c0_0, .slice A0_1 l0_1.length c0_1] 25 (0, 0)) (by (with_reducible repeat (first | refine blk_drewN ?_ _ | refine blk_drew ?_ | refine blk_alloc ?_ _)); exact BK280.out) hb); have n1_ := Aside0.mk (below_step (by repeat (first | (with_reducible first | exact HB.out | apply below_alloc | apply pw_below_drewN | apply below_drew1 | refine below_set ?_ GE280.out) | exact HB.out)) hb); clear BK280; clear HB; have BK280 := n0_; have HB := n1_; clear n0_ n1_; (try clear hb); (try clear hb2); (try clear hk); (try clear hi); have hcz15_0 : w14.cell? ⟨gb280, 0, none⟩ = some (.slice A0_0 l0_0.length c0_0) := (blk_cell BK280.out 0).trans rfl; have hcz15_1 : w14.cell? ⟨gb280, 1, none⟩ = some (.slice A0_1 l0_1.length c0_1) := (blk_cell BK280.out 1).trans rfl; have hfz15_0 := blk_frozen BK280.out 0; have hfz15_1 := blk_frozen BK280.out 1) | (go_at_call 10; (with_reducible refine (vetchlaw18_fits.calls k _ _ l0_0 _ _ l0_1 a2 a3 false _ ?side1 ?side2 ?side3 ?side4 A9.out).mono ?_); (case side1 => repeat (first | exact (Kd.C_below HR0_0.out HB.out) | (with_reducible refine Kd.C_alloc ?_ _) | (with_reducible refine Kd.C_drewN ?_ _) | (with_reducible refine Kd.C_drew ?_))); (case side2 => exact HC0_0.out); (case side3 => repeat (first | exact (Kd.C_below HR0_1.out HB.out) | (with_reducible refine Kd.C_alloc ?_ _) | (with_reducible refine Kd.C_drewN ?_ _) | (with_reducible refine Kd.C_drew ?_))); (case side4 => exact HC0_1.out); rintro e w16 ⟨rfl, hb⟩; have n0_ := Aside0.mk (blk_below (g := gb280) (o := .cells #[.slice A0_0 l0_0.length c0_0, .slice A0_1 l0_1.length c0_1] 25 (0, 0)) (by (with_reducible repeat (first | refine blk_drewN ?_ _ | refine blk_drew ?_ | refine blk_alloc ?_ _)); exact BK280.out) hb); have n1_ := Aside0.mk (below_step (by repeat (first | (with_reducible first | exact HB.out | apply below_alloc | apply pw_below_drewN | apply below_drew1 | refine below_set ?_ GE280.out) | exact HB.out)) hb); clear BK280; clear HB; have BK280 := n0_; have HB := n1_; clear n0_ n1_; (try clear hb); (try clear hb2); (try clear hk); (try clear hi)))
    go_meet
    case rel => exact ⟨_, (true), (by first | rfl | (simp; done) | (simp [*]; done)), H', ⟨by first | omega | exact Nat.le_refl _⟩, ⟨by (with_reducible repeat (first | refine blk_drewN ?_ _ | refine blk_drew ?_ | refine blk_alloc ?_ _)); exact BK280.out⟩, ⟨by repeat (first | (with_reducible first | exact HB.out | apply below_alloc | apply pw_below_drewN | apply below_drew1 | refine below_set ?_ GE280.out) | exact HB.out)⟩⟩
  ·
   replace c8 := Bool.eq_false_iff.mpr c8
   subst c8
   have H1 : (vetchlaw18_NaiveEnds.j0 k a1 a2 a3 true l0_0 l0_1) = some r := by rw [if_neg (show ¬ (false = true) by decide)] at H; exact H
   clear H
   have H := H1
   clear H1
   have H' := Aside0.mk H
   clear H
   go_wp2_with (first | ((with_reducible refine gate_callee (f := 9) rfl ?_); refine goesL_ (some 14) rfl rfl Try.func9 (by kernel_rfl) rfl #[] rfl (by (try simp only [List.map_toArray, List.map_cons, List.map_nil]); first | done | rfl | (simp only [List.length_drop, List.length_take]; rfl)) ?_; (with_reducible refine (vetchlaw18_awake.calls k  false _ A7.out).mono ?_); rintro e w17 ⟨rfl, hb⟩; refine ⟨_, rfl, ?_⟩; have n0_ := Aside0.mk (blk_below (g := gb280) (o := .cells #[.slice A0_0 l0_0.length c0_0, .slice A0_1 l0_1.length c0_1] 25 (0, 0)) (by (with_reducible repeat (first | refine blk_drewN ?_ _ | refine blk_drew ?_ | refine blk_alloc ?_ _)); exact BK280.out) hb); have n1_ := Aside0.mk (below_step (by repeat (first | (with_reducible first | exact HB.out | apply below_alloc | apply pw_below_drewN | apply below_drew1 | refine below_set ?_ GE280.out) | exact HB.out)) hb); clear BK280; clear HB; have BK280 := n0_; have HB := n1_; clear n0_ n1_; (try clear hb); (try clear hb2); (try clear hk); (try clear hi)))
   go_meet
   case rel => exact ⟨_, (true), (by first | rfl | (simp; done) | (simp [*]; done)), H', ⟨by first | omega | exact Nat.le_refl _⟩, ⟨by (with_reducible repeat (first | refine blk_drewN ?_ _ | refine blk_drew ?_ | refine blk_alloc ?_ _)); exact BK280.out⟩, ⟨by repeat (first | (with_reducible first | exact HB.out | apply below_alloc | apply pw_below_drewN | apply below_drew1 | refine below_set ?_ GE280.out) | exact HB.out)⟩⟩
 case rest =>
  clear HC5
  try clear c1
  try clear p2
  try clear c6
  try clear c8
  try clear c9
  try clear c10
  try clear hcz12_0
  try clear hcz12_1
  try clear hcz15_0
  try clear hcz15_1
  try clear hfz12_0
  try clear hfz12_1
  try clear hfz15_0
  try clear hfz15_1
  obtain ⟨kq, x27_4, rfl, HA, HJ4, BK280, HB⟩ := hcut
  cases kq with
  | zero => exact absurd HA.out (by simp [vetchlaw18_NaiveEnds.j0])
  | succ kj4 =>
   have H := HA.out
   clear HA
   simp only [vetchlaw18_NaiveEnds.j0] at H
   by_cases c18 : x27_4 = true
   ·
    subst c18
    have H1 : ((vetchlaw18_awake.f kj4).bind fun t283 => (some t283)) = some r := by rw [if_pos rfl] at H; exact H
    clear H
    have H := H1
    clear H1
    replace H := Option.bind_eq_some_iff.mp H
    obtain ⟨t283, A190, H⟩ := H
    replace H : (some t283) = some r := H
    have A19 := Aside0.mk A190
    clear A190
    obtain rfl := Option.some.inj H
    go_wp2_with (first | ((with_reducible refine gate_callee (f := 9) rfl ?_); refine goesL_ (some 28) rfl rfl Try.func9 (by kernel_rfl) rfl #[] rfl (by (try simp only [List.map_toArray, List.map_cons, List.map_nil]); first | done | rfl | (simp only [List.length_drop, List.length_take]; rfl)) ?_; (with_reducible refine (vetchlaw18_awake.calls kj4  t283 _ A19.out).mono ?_); rintro e w20 ⟨rfl, hb⟩; refine ⟨_, rfl, ?_⟩; have n0_ := Aside0.mk (blk_below (g := gb280) (o := .cells #[.slice A0_0 l0_0.length c0_0, .slice A0_1 l0_1.length c0_1] 25 (0, 0)) (by (with_reducible repeat (first | refine blk_drewN ?_ _ | refine blk_drew ?_ | refine blk_alloc ?_ _)); exact BK280.out) hb); have n1_ := Aside0.mk (below_step (by repeat (first | (with_reducible first | exact HB.out | apply below_alloc | apply pw_below_drewN | apply below_drew1 | refine below_set ?_ GE280.out) | exact HB.out)) hb); clear BK280; clear HB; have BK280 := n0_; have HB := n1_; clear n0_ n1_; (try clear hb); (try clear hb2); (try clear hk); (try clear hi)))
    go_ret
    exact ⟨by first | rfl | (simp [errW_none, errW_some] <;> rfl) | (simp [*, errW_none, errW_some] <;> rfl), by repeat (first | (with_reducible first | exact HB.out | apply below_alloc | apply pw_below_drewN | apply below_drew1 | refine below_set ?_ GE280.out) | exact HB.out)⟩
   ·
    replace c18 := Bool.eq_false_iff.mpr c18
    subst c18
    have H1 : (if (l0_1.length : Int) = 0 then (none) else ((naive_Ends.f kj4 l0_0 l0_1 (Int.tmod (wrap64 (a1)) (l0_1.length : Int)) a2 a3).bind fun t284 => (if (t284.length : Int) = (wrap64 ((a2.size : Int) + 1)) then (vetchlaw18_NaiveEnds.l0 kj4 a2 a3 (Int.tmod (wrap64 (a1)) (l0_1.length : Int)) t284 0 l0_0 l0_1) else (some false)))) = some r := by rw [if_neg (show ¬ (false = true) by decide)] at H; exact H
    clear H
    have H := H1
    clear H1
    by_cases c21 : (l0_1.length : Int) = 0
    ·
     rw [if_pos c21] at H
     exact absurd H (by simp)
    ·
     rw [if_neg c21] at H
     have c21b0 : ((l0_1.length : Int) == 0) = false := beq_eq_false_iff_ne.mpr c21
     have c21b1 : ((l0_1.length : Int) != 0) = true := bne_iff_ne.mpr c21
     have c21b2 : ¬ (l0_1 = []) := fun h_ => c21 (by rw [h_]; rfl)
     replace H := Option.bind_eq_some_iff.mp H
     obtain ⟨t284, A220, H⟩ := H
     replace H : (if (t284.length : Int) = (wrap64 ((a2.size : Int) + 1)) then (vetchlaw18_NaiveEnds.l0 kj4 a2 a3 (Int.tmod (wrap64 (a1)) (l0_1.length : Int)) t284 0 l0_0 l0_1) else (some false)) = some r := H
     have A22 := Aside0.mk A220
     clear A220
     by_cases c23 : (t284.length : Int) = (wrap64 ((a2.size : Int) + 1))
     ·
      rw [if_pos c23] at H
      have c23b0 : ((t284.length : Int) == (wrap64 ((a2.size : Int) + 1))) = true := beq_iff_eq.mpr c23
      have c23b1 : ((t284.length : Int) != (wrap64 ((a2.size : Int) + 1))) = false := bne_eq_false_iff_eq.mpr c23
      clear c23
      have H' := Aside0.mk H
      clear H
      have hcz24_0 : wc.cell? ⟨gb280, 0, none⟩ = some (.slice A0_0 l0_0.length c0_0) := (blk_cell BK280.out 0).trans rfl
      have hcz24_1 : wc.cell? ⟨gb280, 1, none⟩ = some (.slice A0_1 l0_1.length c0_1) := (blk_cell BK280.out 1).trans rfl
      have hfz24_0 := blk_frozen BK280.out 0
      have hfz24_1 := blk_frozen BK280.out 1
      go_wp2_with (first | ((with_reducible refine gate_callee (f := 16) rfl ?_); refine goesL_ (some 39) rfl rfl Try.func16 (by kernel_rfl) rfl #[.agg #[.slice A0_0 l0_0.length c0_0, .slice A0_1 l0_1.length c0_1], .int .i64 (Int.tmod (wrap64 (a1)) (l0_1.length : Int)), .string a2, .int .i64 a3] rfl (by (try simp only [List.map_toArray, List.map_cons, List.map_nil]); first | done | rfl | (simp only [List.length_drop, List.length_take]; rfl)) ?_; (with_reducible refine (naive_Ends.calls kj4 _ _ l0_0 _ _ l0_1 (Int.tmod (wrap64 (a1)) (l0_1.length : Int)) a2 a3 t284 _ ?side1 ?side2 ?side3 ?side4 A22.out).mono ?_); (case side1 => repeat (first | exact (Kd.C_below HR0_0.out HB.out) | (with_reducible refine Kd.C_alloc ?_ _) | (with_reducible refine Kd.C_drewN ?_ _) | (with_reducible refine Kd.C_drew ?_))); (case side2 => exact HC0_0.out); (case side3 => repeat (first | exact (Kd.C_below HR0_1.out HB.out) | (with_reducible refine Kd.C_alloc ?_ _) | (with_reducible refine Kd.C_drewN ?_ _) | (with_reducible refine Kd.C_drew ?_))); (case side4 => exact HC0_1.out); rintro e w25 ⟨v285, rfl, ho0, hb⟩; refine ⟨_, rfl, ?_⟩; have n0_ := Aside0.mk (Kd.R_lower ho0 (below_size (by repeat (first | (with_reducible first | exact HB.out | apply below_alloc | apply pw_below_drewN | apply below_drew1 | refine below_set ?_ GE280.out) | exact HB.out)))); have n1_ := Aside0.mk (blk_below (g := gb280) (o := .cells #[.slice A0_0 l0_0.length c0_0, .slice A0_1 l0_1.length c0_1] 25 (0, 0)) (by (with_reducible repeat (first | refine blk_drewN ?_ _ | refine blk_drew ?_ | refine blk_alloc ?_ _)); exact BK280.out) hb); have n2_ := Aside0.mk (below_step (by repeat (first | (with_reducible first | exact HB.out | apply below_alloc | apply pw_below_drewN | apply below_drew1 | refine below_set ?_ GE280.out) | exact HB.out)) hb); clear BK280; clear HB; have HO286 := n0_; have BK280 := n1_; have HB := n2_; clear n0_ n1_ n2_; (try clear hb); (try clear hb2); (try clear hk); (try clear hi); (try clear ho0); obtain ⟨Ao26, co26, eo26⟩ := Kd.R_slice HO286.out; subst eo26))
      go_loopg [11] kj4 (fun kq v11 w' => ∃ (x11_2 : Int), v11 = .int .i64 x11_2 ∧ Aside0 (vetchlaw18_NaiveEnds.l0 kq a2 a3 (Int.tmod (wrap64 (a1)) (l0_1.length : Int)) t284 x11_2 l0_0 l0_1 = some r) ∧ Aside0 (kq ≤ kj4) ∧ Aside0 (Kd.R (Kd.int .i64) 3 w' w.heap.size (fun _ => True) (.slice Ao26 t284.length co26) t284) ∧ Aside0 (w'.heap[gb280]? = some (.cells #[(.slice A0_0 l0_0.length c0_0), (.slice A0_1 l0_1.length c0_1)] 25 (0, 0))) ∧ Aside0 (Below w.heap.size w w'))
      case atStart => exact ⟨(0), (by first | rfl | (simp; done) | (simp [*]; done)), H', ⟨Nat.le_refl _⟩, ⟨by (with_reducible repeat (first | apply Kd.R_alloc | apply Kd.R_drewN | apply Kd.R_drew)); exact HO286.out⟩, ⟨by (with_reducible repeat (first | refine blk_drewN ?_ _ | refine blk_drew ?_ | refine blk_alloc ?_ _)); exact BK280.out⟩, ⟨by repeat (first | (with_reducible first | exact HB.out | apply below_alloc | apply pw_below_drewN | apply below_drew1 | refine below_set ?_ GE280.out) | exact HB.out)⟩⟩
      case round =>
       clear H'
       try clear c1
       try clear c2
       try clear p2
       try clear c6
       try clear p6
       try clear c8
       try clear c9
       try clear c10
       try clear c16
       try clear c18
       try clear c21
       try clear c21b0
       try clear c21b1
       try clear c21b2
       try clear c23
       try clear c23b0
       try clear c23b1
       try clear hcz12_0
       try clear hcz12_1
       try clear hcz15_0
       try clear hcz15_1
       try clear hcz24_0
       try clear hcz24_1
       try clear hfz12_0
       try clear hfz12_1
       try clear hfz15_0
       try clear hfz15_1
       try clear hfz24_0
       try clear hfz24_1
       try clear p2
       obtain ⟨x11_2, rfl, HA, HK2, HO_10, BK280, HB⟩ := hrel
       cases gk with
       | zero => exact absurd HA.out (by simp [vetchlaw18_NaiveEnds.l0])
       | succ k2 =>
        have H := HA.out
        clear HA
        simp only [vetchlaw18_NaiveEnds.l0] at H
        by_cases c27 : x11_2 < (t284.length : Int)
        ·
         rw [if_pos c27] at H
         have c27b0 : decide (x11_2 < (t284.length : Int)) = true := decide_eq_true c27
         clear c27
         replace H := Option.bind_eq_some_iff.mp H
         obtain ⟨⟨t287, t288, t289⟩, A280, H⟩ := H
         replace H : (if t287 = true then (if 0 ≤ x11_2 then (if (rd t284 x11_2) = t288 then (vetchlaw18_NaiveEnds.l0 k2 a2 a3 (Int.tmod (wrap64 (a1)) (l0_1.length : Int)) t284 (wrap64 (x11_2 + 1)) l0_0 l0_1) else (some false)) else (none)) else (if 0 ≤ x11_2 then (if (rd t284 x11_2) = (-2) then (vetchlaw18_NaiveEnds.l0 k2 a2 a3 (Int.tmod (wrap64 (a1)) (l0_1.length : Int)) t284 (wrap64 (x11_2 + 1)) l0_0 l0_1) else (some false)) else (none))) = some r := H
         have A28 := Aside0.mk A280
         clear A280
         by_cases c29 : t287 = true
         ·
          subst c29
          have H1 : (if 0 ≤ x11_2 then (if (rd t284 x11_2) = t288 then (vetchlaw18_NaiveEnds.l0 k2 a2 a3 (Int.tmod (wrap64 (a1)) (l0_1.length : Int)) t284 (wrap64 (x11_2 + 1)) l0_0 l0_1) else (some false)) else (none)) = some r := by rw [if_pos rfl] at H; exact H
          clear H
          have H := H1
          clear H1
          by_cases c30 : 0 ≤ x11_2
          ·
           rw [if_pos c30] at H
           have c30b0 : decide (0 ≤ x11_2) = true := decide_eq_true c30
           clear c30
           by_cases c31 : (rd t284 x11_2) = t288
           ·
            rw [if_pos c31] at H
            have c31b0 : ((rd t284 x11_2) == t288) = true := beq_iff_eq.mpr c31
            have c31b1 : ((rd t284 x11_2) != t288) = false := bne_eq_false_iff_eq.mpr c31
            clear c31
            have H' := Aside0.mk H
            clear H
            have hcz32_0 : wr.cell? ⟨gb280, 0, none⟩ = some (.slice A0_0 l0_0.length c0_0) := (blk_cell BK280.out 0).trans rfl
            have hcz32_1 : wr.cell? ⟨gb280, 1, none⟩ = some (.slice A0_1 l0_1.length c0_1) := (blk_cell BK280.out 1).trans rfl
            have hfz32_0 := blk_frozen BK280.out 0
            have hfz32_1 := blk_frozen BK280.out 1
            go_wp2_with (first | ((with_reducible refine gate_callee (f := 12) rfl ?_); refine goesL_ (some 57) rfl rfl Try.func12 (by kernel_rfl) rfl #[.agg #[.slice A0_0 l0_0.length c0_0, .slice A0_1 l0_1.length c0_1], .int .i64 (Int.tmod (wrap64 (a1)) (l0_1.length : Int)), .string a2, .int .i64 x11_2, .int .i64 a3] rfl (by (try simp only [List.map_toArray, List.map_cons, List.map_nil]); first | done | rfl | (simp only [List.length_drop, List.length_take]; rfl)) ?_; (with_reducible refine (vetchref18_Node.calls k2 _ _ l0_0 _ _ l0_1 (Int.tmod (wrap64 (a1)) (l0_1.length : Int)) a2 x11_2 a3 true t288 t289 _ ?side1 ?side2 ?side3 ?side4 A28.out).mono ?_); (case side1 => repeat (first | exact (Kd.C_below HR0_0.out HB.out) | (with_reducible refine Kd.C_alloc ?_ _) | (with_reducible refine Kd.C_drewN ?_ _) | (with_reducible refine Kd.C_drew ?_))); (case side2 => exact HC0_0.out); (case side3 => repeat (first | exact (Kd.C_below HR0_1.out HB.out) | (with_reducible refine Kd.C_alloc ?_ _) | (with_reducible refine Kd.C_drewN ?_ _) | (with_reducible refine Kd.C_drew ?_))); (case side4 => exact HC0_1.out); rintro e w33 ⟨rfl, hb⟩; refine ⟨_, rfl, ?_⟩; have n0_ := Aside0.mk (Kd.R_below (by (with_reducible repeat (first | apply Kd.R_alloc | apply Kd.R_drewN | apply Kd.R_drew)); exact HO_10.out) hb); have n1_ := Aside0.mk (blk_below (g := gb280) (o := .cells #[.slice A0_0 l0_0.length c0_0, .slice A0_1 l0_1.length c0_1] 25 (0, 0)) (by (with_reducible repeat (first | refine blk_drewN ?_ _ | refine blk_drew ?_ | refine blk_alloc ?_ _)); exact BK280.out) hb); have n2_ := Aside0.mk (below_step (by repeat (first | (with_reducible first | exact HB.out | apply below_alloc | apply pw_below_drewN | apply below_drew1 | refine below_set ?_ GE280.out) | exact HB.out)) hb); clear HO_10; clear BK280; clear HB; have HO_10 := n0_; have BK280 := n1_; have HB := n2_; clear n0_ n1_ n2_; (try clear hb); (try clear hb2); (try clear hk); (try clear hi)) | ((with_reducible refine gate_dst (N := 12) rfl ?_); (try (refine gate_guard (by rfl) ?_; dsimp only)); refine box_event ?hg (N := 12) ?hd (cs := #[.bool false, .int .i64 0, .int .i64 0]) (t := 31) ?hr ?_; (case hd => rfl); (case hg => rfl); (case hr => first | (go_simp; done) | (go_simp; rfl)); intro gb290 hg w34 hbox hb; have n0_ := Aside0.mk (Kd.R_below (by (with_reducible repeat (first | apply Kd.R_alloc | apply Kd.R_drewN | apply Kd.R_drew)); exact HO_10.out) hb); have n1_ := Aside0.mk (blk_below (g := gb280) (o := .cells #[.slice A0_0 l0_0.length c0_0, .slice A0_1 l0_1.length c0_1] 25 (0, 0)) (by (with_reducible repeat (first | refine blk_drewN ?_ _ | refine blk_drew ?_ | refine blk_alloc ?_ _)); exact BK280.out) hb); have n2_ := Aside0.mk (below_step (by repeat (first | (with_reducible first | exact HB.out | apply below_alloc | apply pw_below_drewN | apply below_drew1 | refine below_set ?_ GE280.out) | exact HB.out)) hb); have n3_ := Aside0.mk (hbox); have n4_ := Aside0.mk ((by rw [hg]; exact (below_size (by repeat (first | (with_reducible first | exact HB.out | apply below_alloc | apply pw_below_drewN | apply below_drew1 | refine below_set ?_ GE280.out) | exact HB.out))) : w.heap.size ≤ gb290)); have n5_ := Aside0.mk ((by rw [hg]; exact (below_size (by repeat (first | (with_reducible first | exact HB.out | apply below_alloc | apply pw_below_drewN | apply below_drew1 | refine below_set ?_ GE280.out) | exact HB.out))) : w.heap.size ≤ gb290)); have n6_ := Aside0.mk ((by rw [hg]; exact Nat.ne_of_lt (blk_lt (g := gb280) (o := .cells #[.slice A0_0 l0_0.length c0_0, .slice A0_1 l0_1.length c0_1] 25 (0, 0)) (by (with_reducible repeat (first | refine blk_drewN ?_ _ | refine blk_drew ?_ | refine blk_alloc ?_ _)); exact BK280.out)) : gb280 ≠ gb290)); have n7_ := Aside0.mk ((by rw [hg]; exact Nat.ne_of_gt (blk_lt (g := gb280) (o := .cells #[.slice A0_0 l0_0.length c0_0, .slice A0_1 l0_1.length c0_1] 25 (0, 0)) (by (with_reducible repeat (first | refine blk_drewN ?_ _ | refine blk_drew ?_ | refine blk_alloc ?_ _)); exact BK280.out)) : gb290 ≠ gb280)); clear HO_10; clear BK280; clear HB; have HO_10 := n0_; have BK280 := n1_; have HB := n2_; have BK290 := n3_; have GW290 := n4_; have GE290 := n5_; have NB280_290 := n6_; have NB290_280 := n7_; clear n0_ n1_ n2_ n3_ n4_ n5_ n6_ n7_; clear hb hbox hg; have hnb35 := NB290_280.out; have hnc35 := NB280_290.out; have hcz36_0 : w34.cell? ⟨gb290, 0, none⟩ = some (.bool false) := (blk_cell BK290.out 0).trans rfl; have hcz36_1 : w34.cell? ⟨gb290, 1, none⟩ = some (.int .i64 0) := (blk_cell BK290.out 1).trans rfl; have hcz36_2 : w34.cell? ⟨gb290, 2, none⟩ = some (.int .i64 0) := (blk_cell BK290.out 2).trans rfl; have hfz36_0 := blk_frozen BK290.out 0; have hfz36_1 := blk_frozen BK290.out 1; have hfz36_2 := blk_frozen BK290.out 2; have p291 : 0 ≤ (x11_2 : Int) := of_decide_eq_true (by first | (with_reducible assumption) | assumption); have q291 : x11_2 < (t284.length : Int) := of_decide_eq_true (by first | (with_reducible assumption) | assumption); obtain ⟨ad291, e291, hx291_0⟩ := Kd.at_int (Kd.R_reads' HO_10.out).2.2 x11_2 p291 q291; cases e291; have hn291_0 : ad291.block ≠ gb290 := Kd.own_blk (Kd.R_ne HO_10.out BK290.out (by decide)); have hn291_1 : ad291.block ≠ gb290 := Kd.own_blk (Kd.R_ne HO_10.out BK290.out (by decide)); have hn291_2 : ad291.block ≠ gb290 := Kd.own_blk (Kd.R_ne HO_10.out BK290.out (by decide)); replace hx291_0 := (cell_far (p := ⟨gb290, 0, none⟩) (by first | (rw [add_block]; exact hn291_0) | (show (Addr.add _ _).block ≠ _; rw [add_block]; exact hn291_0) | exact hn291_0) (.bool true)).trans hx291_0; replace hx291_0 := (cell_far (p := ⟨gb290, 1, none⟩) (by first | (rw [add_block]; exact hn291_1) | (show (Addr.add _ _).block ≠ _; rw [add_block]; exact hn291_1) | exact hn291_1) (.int .i64 t288)).trans hx291_0; replace hx291_0 := (cell_far (p := ⟨gb290, 2, none⟩) (by first | (rw [add_block]; exact hn291_2) | (show (Addr.add _ _).block ≠ _; rw [add_block]; exact hn291_2) | exact hn291_2) (.int .i64 t289)).trans hx291_0; clear hn291_0; clear hn291_1; clear hn291_2; replace p291 := eq_true p291; replace q291 := eq_true q291))
            go_roundg k2
            case measure => have := HJ4.out; have := HK2.out; omega
            case rel => exact ⟨(wrap64 (x11_2 + 1)), (by first | rfl | (simp; done) | (simp [*]; done)), H', ⟨by have := HJ4.out; have := HK2.out; omega⟩, ⟨by (with_reducible repeat (first | apply Kd.R_alloc | apply Kd.R_drewN | apply Kd.R_drew)); exact Kd.R_mono (Kd.R_far (p := ⟨gb290, 2, none⟩) (Kd.R_far (p := ⟨gb290, 1, none⟩) (Kd.R_far (p := ⟨gb290, 0, none⟩) (Kd.R_types HO_10.out BK290.out (by decide)) (fun _ hk => hk.2) (.bool true)) (fun _ hk => hk.2) (.int .i64 t288)) (fun _ hk => hk.2) (.int .i64 t289)) (fun _ hk => trivial)⟩, ⟨by (with_reducible repeat (first | refine blk_drewN ?_ _ | refine blk_drew ?_ | refine blk_alloc ?_ _)); refine blk_far ?_ NB280_290.out _; (with_reducible repeat (first | refine blk_drewN ?_ _ | refine blk_drew ?_ | refine blk_alloc ?_ _)); refine blk_far ?_ NB280_290.out _; (with_reducible repeat (first | refine blk_drewN ?_ _ | refine blk_drew ?_ | refine blk_alloc ?_ _)); refine blk_far ?_ NB280_290.out _; (with_reducible repeat (first | refine blk_drewN ?_ _ | refine blk_drew ?_ | refine blk_alloc ?_ _)); exact BK280.out⟩, ⟨by repeat (first | (with_reducible first | exact HB.out | apply below_alloc | apply pw_below_drewN | apply below_drew1 | refine below_set ?_ GE280.out | refine below_set ?_ GE290.out) | exact HB.out)⟩⟩
           ·
            rw [if_neg c31] at H
            have c31b0 : ((rd t284 x11_2) == t288) = false := beq_eq_false_iff_ne.mpr c31
            have c31b1 : ((rd t284 x11_2) != t288) = true := bne_iff_ne.mpr c31
            obtain rfl := Option.some.inj H
            have hcz37_0 : wr.cell? ⟨gb280, 0, none⟩ = some (.slice A0_0 l0_0.length c0_0) := (blk_cell BK280.out 0).trans rfl
            have hcz37_1 : wr.cell? ⟨gb280, 1, none⟩ = some (.slice A0_1 l0_1.length c0_1) := (blk_cell BK280.out 1).trans rfl
            have hfz37_0 := blk_frozen BK280.out 0
            have hfz37_1 := blk_frozen BK280.out 1
            go_wp2_with (first | ((with_reducible refine gate_callee (f := 12) rfl ?_); refine goesL_ (some 57) rfl rfl Try.func12 (by kernel_rfl) rfl #[.agg #[.slice A0_0 l0_0.length c0_0, .slice A0_1 l0_1.length c0_1], .int .i64 (Int.tmod (wrap64 (a1)) (l0_1.length : Int)), .string a2, .int .i64 x11_2, .int .i64 a3] rfl (by (try simp only [List.map_toArray, List.map_cons, List.map_nil]); first | done | rfl | (simp only [List.length_drop, List.length_take]; rfl)) ?_; (with_reducible refine (vetchref18_Node.calls k2 _ _ l0_0 _ _ l0_1 (Int.tmod (wrap64 (a1)) (l0_1.length : Int)) a2 x11_2 a3 true t288 t289 _ ?side1 ?side2 ?side3 ?side4 A28.out).mono ?_); (case side1 => repeat (first | exact (Kd.C_below HR0_0.out HB.out) | (with_reducible refine Kd.C_alloc ?_ _) | (with_reducible refine Kd.C_drewN ?_ _) | (with_reducible refine Kd.C_drew ?_))); (case side2 => exact HC0_0.out); (case side3 => repeat (first | exact (Kd.C_below HR0_1.out HB.out) | (with_reducible refine Kd.C_alloc ?_ _) | (with_reducible refine Kd.C_drewN ?_ _) | (with_reducible refine Kd.C_drew ?_))); (case side4 => exact HC0_1.out); rintro e w38 ⟨rfl, hb⟩; refine ⟨_, rfl, ?_⟩; have n0_ := Aside0.mk (Kd.R_below (by (with_reducible repeat (first | apply Kd.R_alloc | apply Kd.R_drewN | apply Kd.R_drew)); exact HO_10.out) hb); have n1_ := Aside0.mk (blk_below (g := gb280) (o := .cells #[.slice A0_0 l0_0.length c0_0, .slice A0_1 l0_1.length c0_1] 25 (0, 0)) (by (with_reducible repeat (first | refine blk_drewN ?_ _ | refine blk_drew ?_ | refine blk_alloc ?_ _)); exact BK280.out) hb); have n2_ := Aside0.mk (below_step (by repeat (first | (with_reducible first | exact HB.out | apply below_alloc | apply pw_below_drewN | apply below_drew1 | refine below_set ?_ GE280.out) | exact HB.out)) hb); clear HO_10; clear BK280; clear HB; have HO_10 := n0_; have BK280 := n1_; have HB := n2_; clear n0_ n1_ n2_; (try clear hb); (try clear hb2); (try clear hk); (try clear hi)) | ((with_reducible refine gate_dst (N := 12) rfl ?_); (try (refine gate_guard (by rfl) ?_; dsimp only)); refine box_event ?hg (N := 12) ?hd (cs := #[.bool false, .int .i64 0, .int .i64 0]) (t := 31) ?hr ?_; (case hd => rfl); (case hg => rfl); (case hr => first | (go_simp; done) | (go_simp; rfl)); intro gb290 hg w39 hbox hb; have n0_ := Aside0.mk (Kd.R_below (by (with_reducible repeat (first | apply Kd.R_alloc | apply Kd.R_drewN | apply Kd.R_drew)); exact HO_10.out) hb); have n1_ := Aside0.mk (blk_below (g := gb280) (o := .cells #[.slice A0_0 l0_0.length c0_0, .slice A0_1 l0_1.length c0_1] 25 (0, 0)) (by (with_reducible repeat (first | refine blk_drewN ?_ _ | refine blk_drew ?_ | refine blk_alloc ?_ _)); exact BK280.out) hb); have n2_ := Aside0.mk (below_step (by repeat (first | (with_reducible first | exact HB.out | apply below_alloc | apply pw_below_drewN | apply below_drew1 | refine below_set ?_ GE280.out) | exact HB.out)) hb); have n3_ := Aside0.mk (hbox); have n4_ := Aside0.mk ((by rw [hg]; exact (below_size (by repeat (first | (with_reducible first | exact HB.out | apply below_alloc | apply pw_below_drewN | apply below_drew1 | refine below_set ?_ GE280.out) | exact HB.out))) : w.heap.size ≤ gb290)); have n5_ := Aside0.mk ((by rw [hg]; exact (below_size (by repeat (first | (with_reducible first | exact HB.out | apply below_alloc | apply pw_below_drewN | apply below_drew1 | refine below_set ?_ GE280.out) | exact HB.out))) : w.heap.size ≤ gb290)); have n6_ := Aside0.mk ((by rw [hg]; exact Nat.ne_of_lt (blk_lt (g := gb280) (o := .cells #[.slice A0_0 l0_0.length c0_0, .slice A0_1 l0_1.length c0_1] 25 (0, 0)) (by (with_reducible repeat (first | refine blk_drewN ?_ _ | refine blk_drew ?_ | refine blk_alloc ?_ _)); exact BK280.out)) : gb280 ≠ gb290)); have n7_ := Aside0.mk ((by rw [hg]; exact Nat.ne_of_gt (blk_lt (g := gb280) (o := .cells #[.slice A0_0 l0_0.length c0_0, .slice A0_1 l0_1.length c0_1] 25 (0, 0)) (by (with_reducible repeat (first | refine blk_drewN ?_ _ | refine blk_drew ?_ | refine blk_alloc ?_ _)); exact BK280.out)) : gb290 ≠ gb280)); clear HO_10; clear BK280; clear HB; have HO_10 := n0_; have BK280 := n1_; have HB := n2_; have BK290 := n3_; have GW290 := n4_; have GE290 := n5_; have NB280_290 := n6_; have NB290_280 := n7_; clear n0_ n1_ n2_ n3_ n4_ n5_ n6_ n7_; clear hb hbox hg; have hnb40 := NB290_280.out; have hnc40 := NB280_290.out; have hcz41_0 : w39.cell? ⟨gb290, 0, none⟩ = some (.bool false) := (blk_cell BK290.out 0).trans rfl; have hcz41_1 : w39.cell? ⟨gb290, 1, none⟩ = some (.int .i64 0) := (blk_cell BK290.out 1).trans rfl; have hcz41_2 : w39.cell? ⟨gb290, 2, none⟩ = some (.int .i64 0) := (blk_cell BK290.out 2).trans rfl; have hfz41_0 := blk_frozen BK290.out 0; have hfz41_1 := blk_frozen BK290.out 1; have hfz41_2 := blk_frozen BK290.out 2; have p291 : 0 ≤ (x11_2 : Int) := of_decide_eq_true (by first | (with_reducible assumption) | assumption); have q291 : x11_2 < (t284.length : Int) := of_decide_eq_true (by first | (with_reducible assumption) | assumption); obtain ⟨ad291, e291, hx291_0⟩ := Kd.at_int (Kd.R_reads' HO_10.out).2.2 x11_2 p291 q291; cases e291; have hn291_0 : ad291.block ≠ gb290 := Kd.own_blk (Kd.R_ne HO_10.out BK290.out (by decide)); have hn291_1 : ad291.block ≠ gb290 := Kd.own_blk (Kd.R_ne HO_10.out BK290.out (by decide)); have hn291_2 : ad291.block ≠ gb290 := Kd.own_blk (Kd.R_ne HO_10.out BK290.out (by decide)); replace hx291_0 := (cell_far (p := ⟨gb290, 0, none⟩) (by first | (rw [add_block]; exact hn291_0) | (show (Addr.add _ _).block ≠ _; rw [add_block]; exact hn291_0) | exact hn291_0) (.bool true)).trans hx291_0; replace hx291_0 := (cell_far (p := ⟨gb290, 1, none⟩) (by first | (rw [add_block]; exact hn291_1) | (show (Addr.add _ _).block ≠ _; rw [add_block]; exact hn291_1) | exact hn291_1) (.int .i64 t288)).trans hx291_0; replace hx291_0 := (cell_far (p := ⟨gb290, 2, none⟩) (by first | (rw [add_block]; exact hn291_2) | (show (Addr.add _ _).block ≠ _; rw [add_block]; exact hn291_2) | exact hn291_2) (.int .i64 t289)).trans hx291_0; clear hn291_0; clear hn291_1; clear hn291_2; replace p291 := eq_true p291; replace q291 := eq_true q291))
            go_ret
            exact ⟨by first | rfl | (simp [errW_none, errW_some] <;> rfl) | (simp [*, errW_none, errW_some] <;> rfl), by repeat (first | (with_reducible first | exact HB.out | apply below_alloc | apply pw_below_drewN | apply below_drew1 | refine below_set ?_ GE280.out | refine below_set ?_ GE290.out) | exact HB.out)⟩
          ·
           rw [if_neg c30] at H
           exact absurd H (by simp)
         ·
          replace c29 := Bool.eq_false_iff.mpr c29
          subst c29
          have H1 : (if 0 ≤ x11_2 then (if (rd t284 x11_2) = (-2) then (vetchlaw18_NaiveEnds.l0 k2 a2 a3 (Int.tmod (wrap64 (a1)) (l0_1.length : Int)) t284 (wrap64 (x11_2 + 1)) l0_0 l0_1) else (some false)) else (none)) = some r := by rw [if_neg (show ¬ (false = true) by decide)] at H; exact H
          clear H
          have H := H1
          clear H1
          by_cases c42 : 0 ≤ x11_2
          ·
           rw [if_pos c42] at H
           have c42b0 : decide (0 ≤ x11_2) = true := decide_eq_true c42
           clear c42
           by_cases c43 : (rd t284 x11_2) = (-2)
           ·
            rw [if_pos c43] at H
            have c43b0 : ((rd t284 x11_2) == (-2)) = true := beq_iff_eq.mpr c43
            have c43b1 : ((rd t284 x11_2) != (-2)) = false := bne_eq_false_iff_eq.mpr c43
            clear c43
            have H' := Aside0.mk H
            clear H
            have hcz44_0 : wr.cell? ⟨gb280, 0, none⟩ = some (.slice A0_0 l0_0.length c0_0) := (blk_cell BK280.out 0).trans rfl
            have hcz44_1 : wr.cell? ⟨gb280, 1, none⟩ = some (.slice A0_1 l0_1.length c0_1) := (blk_cell BK280.out 1).trans rfl
            have hfz44_0 := blk_frozen BK280.out 0
            have hfz44_1 := blk_frozen BK280.out 1
            go_wp2_with (first | ((with_reducible refine gate_callee (f := 12) rfl ?_); refine goesL_ (some 57) rfl rfl Try.func12 (by kernel_rfl) rfl #[.agg #[.slice A0_0 l0_0.length c0_0, .slice A0_1 l0_1.length c0_1], .int .i64 (Int.tmod (wrap64 (a1)) (l0_1.length : Int)), .string a2, .int .i64 x11_2, .int .i64 a3] rfl (by (try simp only [List.map_toArray, List.map_cons, List.map_nil]); first | done | rfl | (simp only [List.length_drop, List.length_take]; rfl)) ?_; (with_reducible refine (vetchref18_Node.calls k2 _ _ l0_0 _ _ l0_1 (Int.tmod (wrap64 (a1)) (l0_1.length : Int)) a2 x11_2 a3 false t288 t289 _ ?side1 ?side2 ?side3 ?side4 A28.out).mono ?_); (case side1 => repeat (first | exact (Kd.C_below HR0_0.out HB.out) | (with_reducible refine Kd.C_alloc ?_ _) | (with_reducible refine Kd.C_drewN ?_ _) | (with_reducible refine Kd.C_drew ?_))); (case side2 => exact HC0_0.out); (case side3 => repeat (first | exact (Kd.C_below HR0_1.out HB.out) | (with_reducible refine Kd.C_alloc ?_ _) | (with_reducible refine Kd.C_drewN ?_ _) | (with_reducible refine Kd.C_drew ?_))); (case side4 => exact HC0_1.out); rintro e w45 ⟨rfl, hb⟩; refine ⟨_, rfl, ?_⟩; have n0_ := Aside0.mk (Kd.R_below (by (with_reducible repeat (first | apply Kd.R_alloc | apply Kd.R_drewN | apply Kd.R_drew)); exact HO_10.out) hb); have n1_ := Aside0.mk (blk_below (g := gb280) (o := .cells #[.slice A0_0 l0_0.length c0_0, .slice A0_1 l0_1.length c0_1] 25 (0, 0)) (by (with_reducible repeat (first | refine blk_drewN ?_ _ | refine blk_drew ?_ | refine blk_alloc ?_ _)); exact BK280.out) hb); have n2_ := Aside0.mk (below_step (by repeat (first | (with_reducible first | exact HB.out | apply below_alloc | apply pw_below_drewN | apply below_drew1 | refine below_set ?_ GE280.out) | exact HB.out)) hb); clear HO_10; clear BK280; clear HB; have HO_10 := n0_; have BK280 := n1_; have HB := n2_; clear n0_ n1_ n2_; (try clear hb); (try clear hb2); (try clear hk); (try clear hi)) | ((with_reducible refine gate_dst (N := 12) rfl ?_); (try (refine gate_guard (by rfl) ?_; dsimp only)); refine box_event ?hg (N := 12) ?hd (cs := #[.bool false, .int .i64 0, .int .i64 0]) (t := 31) ?hr ?_; (case hd => rfl); (case hg => rfl); (case hr => first | (go_simp; done) | (go_simp; rfl)); intro gb290 hg w46 hbox hb; have n0_ := Aside0.mk (Kd.R_below (by (with_reducible repeat (first | apply Kd.R_alloc | apply Kd.R_drewN | apply Kd.R_drew)); exact HO_10.out) hb); have n1_ := Aside0.mk (blk_below (g := gb280) (o := .cells #[.slice A0_0 l0_0.length c0_0, .slice A0_1 l0_1.length c0_1] 25 (0, 0)) (by (with_reducible repeat (first | refine blk_drewN ?_ _ | refine blk_drew ?_ | refine blk_alloc ?_ _)); exact BK280.out) hb); have n2_ := Aside0.mk (below_step (by repeat (first | (with_reducible first | exact HB.out | apply below_alloc | apply pw_below_drewN | apply below_drew1 | refine below_set ?_ GE280.out) | exact HB.out)) hb); have n3_ := Aside0.mk (hbox); have n4_ := Aside0.mk ((by rw [hg]; exact (below_size (by repeat (first | (with_reducible first | exact HB.out | apply below_alloc | apply pw_below_drewN | apply below_drew1 | refine below_set ?_ GE280.out) | exact HB.out))) : w.heap.size ≤ gb290)); have n5_ := Aside0.mk ((by rw [hg]; exact (below_size (by repeat (first | (with_reducible first | exact HB.out | apply below_alloc | apply pw_below_drewN | apply below_drew1 | refine below_set ?_ GE280.out) | exact HB.out))) : w.heap.size ≤ gb290)); have n6_ := Aside0.mk ((by rw [hg]; exact Nat.ne_of_lt (blk_lt (g := gb280) (o := .cells #[.slice A0_0 l0_0.length c0_0, .slice A0_1 l0_1.length c0_1] 25 (0, 0)) (by (with_reducible repeat (first | refine blk_drewN ?_ _ | refine blk_drew ?_ | refine blk_alloc ?_ _)); exact BK280.out)) : gb280 ≠ gb290)); have n7_ := Aside0.mk ((by rw [hg]; exact Nat.ne_of_gt (blk_lt (g := gb280) (o := .cells #[.slice A0_0 l0_0.length c0_0, .slice A0_1 l0_1.length c0_1] 25 (0, 0)) (by (with_reducible repeat (first | refine blk_drewN ?_ _ | refine blk_drew ?_ | refine blk_alloc ?_ _)); exact BK280.out)) : gb290 ≠ gb280)); clear HO_10; clear BK280; clear HB; have HO_10 := n0_; have BK280 := n1_; have HB := n2_; have BK290 := n3_; have GW290 := n4_; have GE290 := n5_; have NB280_290 := n6_; have NB290_280 := n7_; clear n0_ n1_ n2_ n3_ n4_ n5_ n6_ n7_; clear hb hbox hg; have hnb47 := NB290_280.out; have hnc47 := NB280_290.out; have hcz48_0 : w46.cell? ⟨gb290, 0, none⟩ = some (.bool false) := (blk_cell BK290.out 0).trans rfl; have hcz48_1 : w46.cell? ⟨gb290, 1, none⟩ = some (.int .i64 0) := (blk_cell BK290.out 1).trans rfl; have hcz48_2 : w46.cell? ⟨gb290, 2, none⟩ = some (.int .i64 0) := (blk_cell BK290.out 2).trans rfl; have hfz48_0 := blk_frozen BK290.out 0; have hfz48_1 := blk_frozen BK290.out 1; have hfz48_2 := blk_frozen BK290.out 2; have p292 : 0 ≤ (x11_2 : Int) := of_decide_eq_true (by first | (with_reducible assumption) | assumption); have q292 : x11_2 < (t284.length : Int) := of_decide_eq_true (by first | (with_reducible assumption) | assumption); obtain ⟨ad292, e292, hx292_0⟩ := Kd.at_int (Kd.R_reads' HO_10.out).2.2 x11_2 p292 q292; cases e292; have hn292_0 : ad292.block ≠ gb290 := Kd.own_blk (Kd.R_ne HO_10.out BK290.out (by decide)); have hn292_1 : ad292.block ≠ gb290 := Kd.own_blk (Kd.R_ne HO_10.out BK290.out (by decide)); have hn292_2 : ad292.block ≠ gb290 := Kd.own_blk (Kd.R_ne HO_10.out BK290.out (by decide)); replace hx292_0 := (cell_far (p := ⟨gb290, 0, none⟩) (by first | (rw [add_block]; exact hn292_0) | (show (Addr.add _ _).block ≠ _; rw [add_block]; exact hn292_0) | exact hn292_0) (.bool false)).trans hx292_0; replace hx292_0 := (cell_far (p := ⟨gb290, 1, none⟩) (by first | (rw [add_block]; exact hn292_1) | (show (Addr.add _ _).block ≠ _; rw [add_block]; exact hn292_1) | exact hn292_1) (.int .i64 t288)).trans hx292_0; replace hx292_0 := (cell_far (p := ⟨gb290, 2, none⟩) (by first | (rw [add_block]; exact hn292_2) | (show (Addr.add _ _).block ≠ _; rw [add_block]; exact hn292_2) | exact hn292_2) (.int .i64 t289)).trans hx292_0; clear hn292_0; clear hn292_1; clear hn292_2; replace p292 := eq_true p292; replace q292 := eq_true q292))
            go_roundg k2
            case measure => have := HJ4.out; have := HK2.out; omega
            case rel => exact ⟨(wrap64 (x11_2 + 1)), (by first | rfl | (simp; done) | (simp [*]; done)), H', ⟨by have := HJ4.out; have := HK2.out; omega⟩, ⟨by (with_reducible repeat (first | apply Kd.R_alloc | apply Kd.R_drewN | apply Kd.R_drew)); exact Kd.R_mono (Kd.R_far (p := ⟨gb290, 2, none⟩) (Kd.R_far (p := ⟨gb290, 1, none⟩) (Kd.R_far (p := ⟨gb290, 0, none⟩) (Kd.R_types HO_10.out BK290.out (by decide)) (fun _ hk => hk.2) (.bool false)) (fun _ hk => hk.2) (.int .i64 t288)) (fun _ hk => hk.2) (.int .i64 t289)) (fun _ hk => trivial)⟩, ⟨by (with_reducible repeat (first | refine blk_drewN ?_ _ | refine blk_drew ?_ | refine blk_alloc ?_ _)); refine blk_far ?_ NB280_290.out _; (with_reducible repeat (first | refine blk_drewN ?_ _ | refine blk_drew ?_ | refine blk_alloc ?_ _)); refine blk_far ?_ NB280_290.out _; (with_reducible repeat (first | refine blk_drewN ?_ _ | refine blk_drew ?_ | refine blk_alloc ?_ _)); refine blk_far ?_ NB280_290.out _; (with_reducible repeat (first | refine blk_drewN ?_ _ | refine blk_drew ?_ | refine blk_alloc ?_ _)); exact BK280.out⟩, ⟨by repeat (first | (with_reducible first | exact HB.out | apply below_alloc | apply pw_below_drewN | apply below_drew1 | refine below_set ?_ GE280.out | refine below_set ?_ GE290.out) | exact HB.out)⟩⟩
           ·
            rw [if_neg c43] at H
            have c43b0 : ((rd t284 x11_2) == (-2)) = false := beq_eq_false_iff_ne.mpr c43
            have c43b1 : ((rd t284 x11_2) != (-2)) = true := bne_iff_ne.mpr c43
            obtain rfl := Option.some.inj H
            have hcz49_0 : wr.cell? ⟨gb280, 0, none⟩ = some (.slice A0_0 l0_0.length c0_0) := (blk_cell BK280.out 0).trans rfl
            have hcz49_1 : wr.cell? ⟨gb280, 1, none⟩ = some (.slice A0_1 l0_1.length c0_1) := (blk_cell BK280.out 1).trans rfl
            have hfz49_0 := blk_frozen BK280.out 0
            have hfz49_1 := blk_frozen BK280.out 1
            go_wp2_with (first | ((with_reducible refine gate_callee (f := 12) rfl ?_); refine goesL_ (some 57) rfl rfl Try.func12 (by kernel_rfl) rfl #[.agg #[.slice A0_0 l0_0.length c0_0, .slice A0_1 l0_1.length c0_1], .int .i64 (Int.tmod (wrap64 (a1)) (l0_1.length : Int)), .string a2, .int .i64 x11_2, .int .i64 a3] rfl (by (try simp only [List.map_toArray, List.map_cons, List.map_nil]); first | done | rfl | (simp only [List.length_drop, List.length_take]; rfl)) ?_; (with_reducible refine (vetchref18_Node.calls k2 _ _ l0_0 _ _ l0_1 (Int.tmod (wrap64 (a1)) (l0_1.length : Int)) a2 x11_2 a3 false t288 t289 _ ?side1 ?side2 ?side3 ?side4 A28.out).mono ?_); (case side1 => repeat (first | exact (Kd.C_below HR0_0.out HB.out) | (with_reducible refine Kd.C_alloc ?_ _) | (with_reducible refine Kd.C_drewN ?_ _) | (with_reducible refine Kd.C_drew ?_))); (case side2 => exact HC0_0.out); (case side3 => repeat (first | exact (Kd.C_below HR0_1.out HB.out) | (with_reducible refine Kd.C_alloc ?_ _) | (with_reducible refine Kd.C_drewN ?_ _) | (with_reducible refine Kd.C_drew ?_))); (case side4 => exact HC0_1.out); rintro e w50 ⟨rfl, hb⟩; refine ⟨_, rfl, ?_⟩; have n0_ := Aside0.mk (Kd.R_below (by (with_reducible repeat (first | apply Kd.R_alloc | apply Kd.R_drewN | apply Kd.R_drew)); exact HO_10.out) hb); have n1_ := Aside0.mk (blk_below (g := gb280) (o := .cells #[.slice A0_0 l0_0.length c0_0, .slice A0_1 l0_1.length c0_1] 25 (0, 0)) (by (with_reducible repeat (first | refine blk_drewN ?_ _ | refine blk_drew ?_ | refine blk_alloc ?_ _)); exact BK280.out) hb); have n2_ := Aside0.mk (below_step (by repeat (first | (with_reducible first | exact HB.out | apply below_alloc | apply pw_below_drewN | apply below_drew1 | refine below_set ?_ GE280.out) | exact HB.out)) hb); clear HO_10; clear BK280; clear HB; have HO_10 := n0_; have BK280 := n1_; have HB := n2_; clear n0_ n1_ n2_; (try clear hb); (try clear hb2); (try clear hk); (try clear hi)) | ((with_reducible refine gate_dst (N := 12) rfl ?_); (try (refine gate_guard (by rfl) ?_; dsimp only)); refine box_event ?hg (N := 12) ?hd (cs := #[.bool false, .int .i64 0, .int .i64 0]) (t := 31) ?hr ?_; (case hd => rfl); (case hg => rfl); (case hr => first | (go_simp; done) | (go_simp; rfl)); intro gb290 hg w51 hbox hb; have n0_ := Aside0.mk (Kd.R_below (by (with_reducible repeat (first | apply Kd.R_alloc | apply Kd.R_drewN | apply Kd.R_drew)); exact HO_10.out) hb); have n1_ := Aside0.mk (blk_below (g := gb280) (o := .cells #[.slice A0_0 l0_0.length c0_0, .slice A0_1 l0_1.length c0_1] 25 (0, 0)) (by (with_reducible repeat (first | refine blk_drewN ?_ _ | refine blk_drew ?_ | refine blk_alloc ?_ _)); exact BK280.out) hb); have n2_ := Aside0.mk (below_step (by repeat (first | (with_reducible first | exact HB.out | apply below_alloc | apply pw_below_drewN | apply below_drew1 | refine below_set ?_ GE280.out) | exact HB.out)) hb); have n3_ := Aside0.mk (hbox); have n4_ := Aside0.mk ((by rw [hg]; exact (below_size (by repeat (first | (with_reducible first | exact HB.out | apply below_alloc | apply pw_below_drewN | apply below_drew1 | refine below_set ?_ GE280.out) | exact HB.out))) : w.heap.size ≤ gb290)); have n5_ := Aside0.mk ((by rw [hg]; exact (below_size (by repeat (first | (with_reducible first | exact HB.out | apply below_alloc | apply pw_below_drewN | apply below_drew1 | refine below_set ?_ GE280.out) | exact HB.out))) : w.heap.size ≤ gb290)); have n6_ := Aside0.mk ((by rw [hg]; exact Nat.ne_of_lt (blk_lt (g := gb280) (o := .cells #[.slice A0_0 l0_0.length c0_0, .slice A0_1 l0_1.length c0_1] 25 (0, 0)) (by (with_reducible repeat (first | refine blk_drewN ?_ _ | refine blk_drew ?_ | refine blk_alloc ?_ _)); exact BK280.out)) : gb280 ≠ gb290)); have n7_ := Aside0.mk ((by rw [hg]; exact Nat.ne_of_gt (blk_lt (g := gb280) (o := .cells #[.slice A0_0 l0_0.length c0_0, .slice A0_1 l0_1.length c0_1] 25 (0, 0)) (by (with_reducible repeat (first | refine blk_drewN ?_ _ | refine blk_drew ?_ | refine blk_alloc ?_ _)); exact BK280.out)) : gb290 ≠ gb280)); clear HO_10; clear BK280; clear HB; have HO_10 := n0_; have BK280 := n1_; have HB := n2_; have BK290 := n3_; have GW290 := n4_; have GE290 := n5_; have NB280_290 := n6_; have NB290_280 := n7_; clear n0_ n1_ n2_ n3_ n4_ n5_ n6_ n7_; clear hb hbox hg; have hnb52 := NB290_280.out; have hnc52 := NB280_290.out; have hcz53_0 : w51.cell? ⟨gb290, 0, none⟩ = some (.bool false) := (blk_cell BK290.out 0).trans rfl; have hcz53_1 : w51.cell? ⟨gb290, 1, none⟩ = some (.int .i64 0) := (blk_cell BK290.out 1).trans rfl; have hcz53_2 : w51.cell? ⟨gb290, 2, none⟩ = some (.int .i64 0) := (blk_cell BK290.out 2).trans rfl; have hfz53_0 := blk_frozen BK290.out 0; have hfz53_1 := blk_frozen BK290.out 1; have hfz53_2 := blk_frozen BK290.out 2; have p292 : 0 ≤ (x11_2 : Int) := of_decide_eq_true (by first | (with_reducible assumption) | assumption); have q292 : x11_2 < (t284.length : Int) := of_decide_eq_true (by first | (with_reducible assumption) | assumption); obtain ⟨ad292, e292, hx292_0⟩ := Kd.at_int (Kd.R_reads' HO_10.out).2.2 x11_2 p292 q292; cases e292; have hn292_0 : ad292.block ≠ gb290 := Kd.own_blk (Kd.R_ne HO_10.out BK290.out (by decide)); have hn292_1 : ad292.block ≠ gb290 := Kd.own_blk (Kd.R_ne HO_10.out BK290.out (by decide)); have hn292_2 : ad292.block ≠ gb290 := Kd.own_blk (Kd.R_ne HO_10.out BK290.out (by decide)); replace hx292_0 := (cell_far (p := ⟨gb290, 0, none⟩) (by first | (rw [add_block]; exact hn292_0) | (show (Addr.add _ _).block ≠ _; rw [add_block]; exact hn292_0) | exact hn292_0) (.bool false)).trans hx292_0; replace hx292_0 := (cell_far (p := ⟨gb290, 1, none⟩) (by first | (rw [add_block]; exact hn292_1) | (show (Addr.add _ _).block ≠ _; rw [add_block]; exact hn292_1) | exact hn292_1) (.int .i64 t288)).trans hx292_0; replace hx292_0 := (cell_far (p := ⟨gb290, 2, none⟩) (by first | (rw [add_block]; exact hn292_2) | (show (Addr.add _ _).block ≠ _; rw [add_block]; exact hn292_2) | exact hn292_2) (.int .i64 t289)).trans hx292_0; clear hn292_0; clear hn292_1; clear hn292_2; replace p292 := eq_true p292; replace q292 := eq_true q292))
            go_ret
            exact ⟨by first | rfl | (simp [errW_none, errW_some] <;> rfl) | (simp [*, errW_none, errW_some] <;> rfl), by repeat (first | (with_reducible first | exact HB.out | apply below_alloc | apply pw_below_drewN | apply below_drew1 | refine below_set ?_ GE280.out | refine below_set ?_ GE290.out) | exact HB.out)⟩
          ·
           rw [if_neg c42] at H
           exact absurd H (by simp)
        ·
         rw [if_neg c27] at H
         have c27b0 : decide (x11_2 < (t284.length : Int)) = false := decide_eq_false c27
         clear c27
         obtain rfl := Option.some.inj H
         go_wp2
         go_ret
         exact ⟨by first | rfl | (simp [errW_none, errW_some] <;> rfl) | (simp [*, errW_none, errW_some] <;> rfl), by repeat (first | (with_reducible first | exact HB.out | apply below_alloc | apply pw_below_drewN | apply below_drew1 | refine below_set ?_ GE280.out) | exact HB.out)⟩
     ·
      rw [if_neg c23] at H
      have c23b0 : ((t284.length : Int) == (wrap64 ((a2.size : Int) + 1))) = false := beq_eq_false_iff_ne.mpr c23
      have c23b1 : ((t284.length : Int) != (wrap64 ((a2.size : Int) + 1))) = true := bne_iff_ne.mpr c23
      obtain rfl := Option.some.inj H
      have hcz54_0 : wc.cell? ⟨gb280, 0, none⟩ = some (.slice A0_0 l0_0.length c0_0) := (blk_cell BK280.out 0).trans rfl
      have hcz54_1 : wc.cell? ⟨gb280, 1, none⟩ = some (.slice A0_1 l0_1.length c0_1) := (blk_cell BK280.out 1).trans rfl
      have hfz54_0 := blk_frozen BK280.out 0
      have hfz54_1 := blk_frozen BK280.out 1
      go_wp2_with (first | ((with_reducible refine gate_callee (f := 16) rfl ?_); refine goesL_ (some 39) rfl rfl Try.func16 (by kernel_rfl) rfl #[.agg #[.slice A0_0 l0_0.length c0_0, .slice A0_1 l0_1.length c0_1], .int .i64 (Int.tmod (wrap64 (a1)) (l0_1.length : Int)), .string a2, .int .i64 a3] rfl (by (try simp only [List.map_toArray, List.map_cons, List.map_nil]); first | done | rfl | (simp only [List.length_drop, List.length_take]; rfl)) ?_; (with_reducible refine (naive_Ends.calls kj4 _ _ l0_0 _ _ l0_1 (Int.tmod (wrap64 (a1)) (l0_1.length : Int)) a2 a3 t284 _ ?side1 ?side2 ?side3 ?side4 A22.out).mono ?_); (case side1 => repeat (first | exact (Kd.C_below HR0_0.out HB.out) | (with_reducible refine Kd.C_alloc ?_ _) | (with_reducible refine Kd.C_drewN ?_ _) | (with_reducible refine Kd.C_drew ?_))); (case side2 => exact HC0_0.out); (case side3 => repeat (first | exact (Kd.C_below HR0_1.out HB.out) | (with_reducible refine Kd.C_alloc ?_ _) | (with_reducible refine Kd.C_drewN ?_ _) | (with_reducible refine Kd.C_drew ?_))); (case side4 => exact HC0_1.out); rintro e w55 ⟨v285, rfl, ho0, hb⟩; refine ⟨_, rfl, ?_⟩; have n0_ := Aside0.mk (Kd.R_lower ho0 (below_size (by repeat (first | (with_reducible first | exact HB.out | apply below_alloc | apply pw_below_drewN | apply below_drew1 | refine below_set ?_ GE280.out) | exact HB.out)))); have n1_ := Aside0.mk (blk_below (g := gb280) (o := .cells #[.slice A0_0 l0_0.length c0_0, .slice A0_1 l0_1.length c0_1] 25 (0, 0)) (by (with_reducible repeat (first | refine blk_drewN ?_ _ | refine blk_drew ?_ | refine blk_alloc ?_ _)); exact BK280.out) hb); have n2_ := Aside0.mk (below_step (by repeat (first | (with_reducible first | exact HB.out | apply below_alloc | apply pw_below_drewN | apply below_drew1 | refine below_set ?_ GE280.out) | exact HB.out)) hb); clear BK280; clear HB; have HO286 := n0_; have BK280 := n1_; have HB := n2_; clear n0_ n1_ n2_; (try clear hb); (try clear hb2); (try clear hk); (try clear hi); (try clear ho0); obtain ⟨Ao56, co56, eo56⟩ := Kd.R_slice HO286.out; subst eo56))
      go_ret
      exact ⟨by first | rfl | (simp [errW_none, errW_some] <;> rfl) | (simp [*, errW_none, errW_some] <;> rfl), by repeat (first | (with_reducible first | exact HB.out | apply below_alloc | apply pw_below_drewN | apply below_drew1 | refine below_set ?_ GE280.out) | exact HB.out)⟩
end Go.Proofs.Ythgedejnpgcacaa.V
namespace Go.Proofs.Ythgedejnpgcacaa.V
open Go.RowKit Go.Proofs.YthgedejnpgcacaaW.PrintWords
set_option linter.unusedVariables false
def Ev {α : Type} (f : Nat → Option α) (v : α) : Prop := ∃ k, ∀ j, k ≤ j → f j = some v
section
variable {α β : Type}
theorem Ev.const (v : α) : Ev (fun _ => some v) v := ⟨0, fun _ _ => rfl⟩
theorem Ev.congr {f g : Nat → Option α} {v : α} (h : ∀ k, f k = g k) (hg : Ev g v) : Ev f v := by
  obtain ⟨k, hk⟩ := hg
  exact ⟨k, fun j hj => (h j).trans (hk j hj)⟩
theorem Ev.of_eq {f : Nat → Option α} {v : α} (h : ∀ k, f k = some v) : Ev f v := ⟨0, fun j _ => h j⟩
theorem Ev.succ {f g : Nat → Option α} {v : α} (h : ∀ k, f (k + 1) = g k) (hg : Ev g v) : Ev f v := by
  obtain ⟨k, hk⟩ := hg
  refine ⟨k + 1, fun j hj => ?_⟩
  cases j with
  | zero => omega
  | succ j => exact (h j).trans (hk j (by omega))
theorem Ev.bind {f : Nat → Option α} {g : Nat → α → Option β} {v : α} {u : β} (hf : Ev f v) (hg : Ev (fun k => g k v) u) : Ev (fun k => (f k).bind (g k)) u := by
  obtain ⟨k, hk⟩ := hf
  obtain ⟨m, hm⟩ := hg
  refine ⟨k + m, fun j hj => ?_⟩
  simp only [hk j (by omega), Option.bind_some]
  exact hm j (by omega)
theorem Ev.map {f : Nat → Option α} {g : α → Option β} {v : α} {u : β} (hf : Ev f v) (hg : g v = some u) : Ev (fun k => (f k).bind g) u := Ev.bind (g := fun _ => g) hf (Ev.of_eq fun _ => hg)
theorem Ev.shift {f : Nat → Option α} {v : α} (b : Nat) (h : Ev f v) : Ev (fun k => f (k + b)) v := by
  obtain ⟨k, hk⟩ := h
  exact ⟨k, fun j hj => hk (j + b) (by omega)⟩
theorem Ev.out {f : Nat → Option α} {v : α} (h : Ev f v) : ∃ k, f k = some v := ⟨h.choose, h.choose_spec _ (Nat.le_refl _)⟩
theorem Ev.of_mono {f : Nat → Option α} {v : α} {k : Nat} (hm : ∀ k, LeO (f k) (f (k + 1))) (h : f k = some v) : Ev f v := by
  refine ⟨k, fun j hj => ?_⟩
  induction j with
  | zero => obtain rfl : k = 0 := by omega
            exact h
  | succ j ih =>
    rcases Nat.lt_or_ge j k with hlt | hge
    · obtain rfl : k = j + 1 := by omega
      exact h
    · exact hm j v (ih hge)
end
theorem w64p (n : Int) (h : -9223372036854775808 ≤ n ∧ n ≤ 9223372036854775807) : wrap64 n = n := by unfold wrap64; omega
end Go.Proofs.Ythgedejnpgcacaa.V
namespace Go.Proofs.Ythgedejnpgcacaa.Opens
open Go.RowKit Go.Proofs.YthgedejnpgcacaaW.PrintWords
set_option linter.unusedVariables false
def Opn {α : Type} (P : Program) (W : World) (d : Kd α) (t : TypeId) (ok : α → Prop) : Prop :=
  ∀ (H : Type) (enc : TypeId × Value → H) (fuel : Nat) (cs : List Value) (x : DataW H × List MemPlace), DataW.trod enc P W 0 (fun _ => true) true fuel t cs = some x → ∃ a, d.K W a cs ∧ ok a
section
variable {P : Program} {W : World} {t : TypeId}
theorem Opn.int {k : IntKind} (ht : P.underlying t = some (.int k)) : Opn P W (Kd.int k) t (fun n => (Lit.int k n).wf = true) := fun H enc fuel cs x h => by
  obtain ⟨n, rfl, _, hw⟩ := DataW.trod_int ht h
  exact ⟨n, rfl, hw⟩
theorem Opn.bool (ht : P.underlying t = some .bool) : Opn P W Kd.bool t (fun _ => True) := fun H enc fuel cs x h => by
  obtain ⟨n, rfl, _⟩ := DataW.trod_bool ht h
  exact ⟨n, rfl, trivial⟩
theorem Opn.string (ht : P.underlying t = some .string) : Opn P W Kd.string t (fun s => s.size ≤ maxLen) := fun H enc fuel cs x h => by
  obtain ⟨n, rfl, _, hw⟩ := DataW.trod_string ht h
  exact ⟨n, rfl, hw⟩
theorem Opn.iso {α β : Type} {d : Kd α} {ok : α → Prop} (f : β → α) (g : α → β) (hfg : ∀ a, f (g a) = a) (h : Opn P W d t ok) : Opn P W (Kd.iso d f) t (fun b => ok (f b)) := fun H enc fuel cs x hx => by
  obtain ⟨a, hk, ho⟩ := h H enc fuel cs x hx
  exact ⟨g a, show d.K W (f (g a)) cs by rw [hfg]; exact hk, show ok (f (g a)) by rw [hfg]; exact ho⟩
theorem Opn.imp {α : Type} {d : Kd α} {ok ok' : α → Prop} (h : Opn P W d t ok) (hi : ∀ a, ok a → ok' a) : Opn P W d t ok' := fun H enc fuel cs x hx => by
  obtain ⟨a, hk, ho⟩ := h H enc fuel cs x hx
  exact ⟨a, hk, hi a ho⟩
theorem lists_of {α : Type} (n : Nat) (R : Nat → α → Prop) (h : ∀ i, i < n → ∃ a, R i a) : ∃ l : List α, l.length = n ∧ ∀ i a, l[i]? = some a → R i a := by
  induction n with
  | zero => exact ⟨[], rfl, fun i a h => by simp at h⟩
  | succ n ih =>
    obtain ⟨l, hl, hr⟩ := ih (fun i hi => h i (by omega))
    obtain ⟨a, ha⟩ := h n (by omega)
    refine ⟨l ++ [a], by simp [hl], fun i b hb => ?_⟩
    by_cases hi : i < n
    · exact hr i b (by rwa [List.getElem?_append_left (by omega)] at hb)
    · have : i = n := by
        have := (List.getElem?_eq_some_iff.1 hb).1
        simp at this
        omega
      subst this
      rw [List.getElem?_append_right (by omega)] at hb
      simp [hl] at hb
      exact hb ▸ ha
theorem Opn.slice {α : Type} {e : TypeId} {d : Kd α} {ok : α → Prop} (e' : Nat) (ht : P.underlying t = some (.slice e)) (hc : P.cellsOf e = d.sz) (h : Opn P W d e ok) :
    Opn P W (Kd.slice e' d) t (fun l => l.length ≤ maxLen ∧ ∀ x ∈ l, ok x) := fun H enc fuel cs x hx => by
  rcases DataW.trod_slice ht hx with ⟨rfl, _⟩ | ⟨a, len, cap, elems, rest, n, _, rfl, _, _, hl, hm, hlen, hel, _, _⟩
  · exact ⟨[], ⟨none, 0, rfl, Nat.le_refl _, rfl, Nat.zero_le _, fun h => absurd h (by simp)⟩, Nat.zero_le _, fun x h => by simp at h⟩
  · have hm' : len ≤ maxLen := Nat.le_trans hl hm
    obtain ⟨l, hll, hlr⟩ := lists_of len (fun i b => ∃ cs', W.cells? 0 (a.add (i * P.cellsOf e)) (P.cellsOf e) = some cs' ∧ d.K W b cs' ∧ ok b) (fun i hi => by
      have h1 := hel i hi
      have h2 : i < elems.length := by omega
      rw [List.getElem?_eq_getElem h2, Option.bind_eq_some_iff] at h1
      obtain ⟨cs', h3, h4⟩ := h1
      obtain ⟨b, h5, h6⟩ := h H enc n cs' _ h4
      exact ⟨b, cs', h3, h5, h6⟩)
    subst hll
    refine ⟨l, ⟨some a, cap, rfl, hl, rfl, hm', fun _ => ⟨a, rfl, fun j p hp => ?_⟩⟩, hm', fun y hy => ?_⟩
    · obtain ⟨cs', h1, h2, _⟩ := hlr j p hp
      obtain ⟨_, hlen', hget⟩ := World.cells?_some h1
      rw [hc] at hlen' hget
      exact ⟨cs', hlen', h2, fun i u hu => by
        have := hget i (by have := (List.getElem?_eq_some_iff.1 hu).1; omega)
        rw [← hu, ← this]
        congr 1
        exact (Addr.add_add _ _ _).symm⟩
    · obtain ⟨i, hi⟩ := List.getElem?_of_mem hy
      exact (hlr i y hi).choose_spec.2.2
def Pieces {H : Type} (enc : TypeId × Value → H) (P : Program) (W : World) (n : Nat) : List TypeId → List Value → Prop
  | [], cs => cs = []
  | t :: ts, cs => ∃ c1 c2 x, cs = c1 ++ c2 ∧ DataW.trod enc P W 0 (fun _ => true) true n t c1 = some x ∧ Pieces enc P W n ts c2
def OpnS {α : Type} (P : Program) (W : World) (d : Kd α) (ts : List TypeId) (ok : α → Prop) : Prop :=
  ∀ (H : Type) (enc : TypeId × Value → H) (n : Nat) (cs : List Value), Pieces enc P W n ts cs → ∃ a, d.K W a cs ∧ ok a
theorem OpnS.one {α : Type} {d : Kd α} {ok : α → Prop} (h : Opn P W d t ok) : OpnS P W d [t] ok := fun H enc n cs hp => by
  obtain ⟨c1, c2, x, rfl, hx, rfl⟩ := hp
  rw [List.append_nil]
  exact h H enc n c1 x hx
theorem OpnS.cons {α β : Type} {d : Kd α} {e : Kd β} {ok : α → Prop} {ok' : β → Prop} {ts : List TypeId} (h : Opn P W d t ok) (hs : OpnS P W e ts ok') : OpnS P W (Kd.pair d e) (t :: ts) (fun x => ok x.1 ∧ ok' x.2) := fun H enc n cs hp => by
  obtain ⟨c1, c2, x, rfl, hx, hp⟩ := hp
  obtain ⟨a, ha, hoa⟩ := h H enc n c1 x hx
  obtain ⟨b, hb, hob⟩ := hs H enc n c2 hp
  exact ⟨(a, b), ⟨c1, c2, rfl, ha, hb⟩, hoa, hob⟩
def offsB (P : Program) (total : Nat) : Nat → List Field → Bool
  | o, [] => o == total
  | o, f :: r => f.offset == o && offsB P total (o + P.cellsOf f.type) r
theorem pieces_of {H : Type} {enc : TypeId × Value → H} {n total : Nat} {cs : List Value} (hl : cs.length = total) :
    ∀ (fs : List Field) (o : Nat), offsB P total o fs = true → (∀ f ∈ fs, ∃ x, DataW.trod enc P W 0 (fun _ => true) true n f.type ((cs.drop f.offset).take (P.cellsOf f.type)) = some x) → Pieces enc P W n (fs.map (·.type)) (cs.drop o)
  | [], o, ho, _ => by
    simp [offsB] at ho
    simp [Pieces, ho, hl]
  | f :: r, o, ho, hf => by
    simp [offsB] at ho
    obtain ⟨x, hx⟩ := hf f (by simp)
    refine ⟨(cs.drop o).take (P.cellsOf f.type), cs.drop (o + P.cellsOf f.type), x, ?_, by rw [← ho.1]; exact hx, pieces_of hl r _ ho.2 (fun g hg => hf g (List.mem_cons_of_mem _ hg))⟩
    rw [← List.drop_drop, List.take_append_drop]
theorem Opn.struct {α : Type} {d : Kd α} {ok : α → Prop} {fs : Array Field} {ts : List TypeId} (ht : P.underlying t = some (.struct fs)) (hts : fs.toList.map (·.type) = ts) (ho : offsB P (P.cellsOf t) 0 fs.toList = true) (h : OpnS P W d ts ok) : Opn P W d t ok := fun H enc fuel cs x hx => by
  obtain ⟨xs, n, _, _, hl, hxs, hf⟩ := DataW.trod_struct ht hx
  refine h H enc n cs (hts ▸ ?_)
  have := pieces_of (enc := enc) (W := W) (n := n) hl fs.toList 0 ho (fun f hm => by
    obtain ⟨i, hi⟩ := List.getElem?_of_mem hm
    have hi' : fs[i]? = some f := by simpa using hi
    have h1 := hf i f hi'
    have h2 : i < xs.length := by rw [hxs]; exact (Array.getElem?_eq_some_iff.1 hi').1
    exact ⟨xs[i], by rw [h1]; simp⟩)
  simpa using this
theorem pieces_same {H : Type} {enc : TypeId × Value → H} {n k s : Nat} {e : TypeId} {cs : List Value} (hs : P.cellsOf e = s) (hl : cs.length = k * s) :
    ∀ (m i : Nat), i + m = k → (∀ j, j < k → ∃ x, DataW.trod enc P W 0 (fun _ => true) true n e ((cs.drop (j * s)).take s) = some x) → Pieces enc P W n (List.replicate m e) (cs.drop (i * s))
  | 0, i, hi, _ => by
    have : i = k := by omega
    subst this
    simp [Pieces, hl]
  | m + 1, i, hi, hf => by
    obtain ⟨x, hx⟩ := hf i (by omega)
    refine ⟨(cs.drop (i * s)).take s, cs.drop ((i + 1) * s), x, ?_, hx, pieces_same hs hl m (i + 1) (by omega) hf⟩
    rw [Nat.succ_mul, ← List.drop_drop, List.take_append_drop]
theorem Opn.array {α : Type} {d : Kd α} {ok : α → Prop} {n : Nat} {e : TypeId} (ht : P.underlying t = some (.array n e)) (hc : P.cellsOf t = n * P.cellsOf e) (h : OpnS P W d (List.replicate n e) ok) : Opn P W d t ok := fun H enc fuel cs x hx => by
  obtain ⟨xs, m, _, _, hl, hxs, hf⟩ := DataW.trod_array ht hx
  refine h H enc m cs ?_
  have := pieces_same (enc := enc) (W := W) (n := m) (k := n) (e := e) rfl (hl.trans hc) n 0 (by omega) (fun j hj => by
    have h2 : j < xs.length := by omega
    exact ⟨xs[j], by rw [hf j hj]; simp⟩)
  simpa using this
theorem Opn.arg {α : Type} {d : Kd α} {ok : α → Prop} {H : Type} {enc : TypeId × Value → H} {v : Value} {x : DataW H} {ps : List MemPlace} (h : Opn P W d t ok) (hd : DataW.Trod enc P W 0 (fun _ => true) true t v x ps) : ∃ a, d.K W a v.cells.toList ∧ ok a := by
  obtain ⟨fuel, hf⟩ := hd
  exact h H enc fuel _ _ hf
theorem trod_lts {H : Type} {enc : TypeId × Value → H} {v : Value} {x : DataW H} {ps : List MemPlace} (hd : DataW.Trod enc P W 0 (fun _ => true) true t v x ps) : ∀ q ∈ ps, q.block < W.heap.size := by
  obtain ⟨m, hm⟩ := hd
  exact DataW.trod_lt m _ _ _ hm
end
end Go.Proofs.Ythgedejnpgcacaa.Opens
namespace Go.Proofs.Ythgedejnpgcacaa.V
open Go.RowKit Go.Proofs.Ythgedejnpgcacaa.Opens Go.Proofs.YthgedejnpgcacaaW.PrintWords
set_option linter.unusedVariables false
def Ok54 (x : S54) : Prop := (Lit.int .u64 x.f0).wf = true ∧ (Lit.int .u64 x.f1).wf = true ∧ (Lit.int .u64 x.f2).wf = true ∧ (Lit.int .u64 x.f3).wf = true
theorem opn54 (W : World) : Opn Try.prog W k54 54 Ok54 := (Opn.iso (fun x : S54 => (x.f0, x.f1, x.f2, x.f3)) (fun a => ⟨a.1, a.2.1, a.2.2.1, a.2.2.2⟩) (fun _ => rfl) (Opn.array Try.underlying54 (by kernel_rfl) (OpnS.cons (Opn.int Try.underlying52) (OpnS.cons (Opn.int Try.underlying52) (OpnS.cons (Opn.int Try.underlying52) (OpnS.one (Opn.int Try.underlying52))))))).imp (fun _ h => h)
def Ok56 (x : S56) : Prop := (Lit.int .i64 x.f0).wf = true ∧ (x.f1.length ≤ maxLen ∧ ∀ y ∈ x.f1, (Lit.int .i64 y).wf = true) ∧ (Lit.int .i64 x.f2).wf = true ∧ Ok54 x.f3
theorem opn56 (W : World) : Opn Try.prog W k56 56 Ok56 := (Opn.iso (fun x : S56 => (x.f0, x.f1, x.f2, x.f3)) (fun a => ⟨a.1, a.2.1, a.2.2.1, a.2.2.2⟩) (fun _ => rfl) (Opn.struct Try.underlying56 rfl (by kernel_rfl) (OpnS.cons (Opn.int Try.underlying3) (OpnS.cons (Opn.slice 3 Try.underlying41 (by kernel_rfl) (Opn.int Try.underlying3)) (OpnS.cons (Opn.int Try.underlying3) (OpnS.one (opn54 W))))))).imp (fun _ h => h)
def Ok51 (x : S51) : Prop := x.f0.size ≤ maxLen ∧ (Lit.int .i64 x.f1).wf = true
theorem opn51 (W : World) : Opn Try.prog W k51 51 Ok51 := (Opn.iso (fun x : S51 => (x.f0, x.f1)) (fun a => ⟨a.1, a.2⟩) (fun _ => rfl) (Opn.struct Try.underlying51 rfl (by kernel_rfl) (OpnS.cons (Opn.string Try.underlying9) (OpnS.one (Opn.int Try.underlying3))))).imp (fun _ h => h)
theorem opn25 (W : World) : Opn Try.prog W (Kd.pair (Kd.slice 51 k51) (Kd.slice 56 k56)) 25 (fun x => ((x.1.length ≤ maxLen ∧ ∀ y ∈ x.1, Ok51 y) ∧ (x.2.length ≤ maxLen ∧ ∀ y ∈ x.2, Ok56 y))) := (Opn.struct Try.underlying25 rfl (by kernel_rfl) (OpnS.cons (Opn.slice 51 Try.underlying22 (by kernel_rfl) (opn51 W)) (OpnS.one (Opn.slice 56 Try.underlying23 (by kernel_rfl) (opn56 W))))).imp (fun _ h => h)
end Go.Proofs.Ythgedejnpgcacaa.V
namespace Go.Proofs.Ythgedejnpgcacaa.V
open Go.RowKit Go.Proofs.YthgedejnpgcacaaW.PrintWords
set_option linter.unusedVariables false
set_option linter.unusedSimpArgs false
abbrev RuleT := S51
abbrev NodeT := S56
abbrev nodeAt (G : List NodeT) (i : Int) : NodeT := rd_T56 G i
abbrev ruleAt (R : List RuleT) (i : Int) : RuleT := rd_T51 R i
def Made (n : Int) (x : NodeT) : Prop :=
  0 ≤ x.f0 ∧ x.f0 ≤ 9 ∧ (x.f0 ≤ 2 → x.f1 = []) ∧ (x.f0 = 3 → 2 ≤ x.f1.length) ∧ (x.f0 = 4 → 2 ≤ x.f1.length) ∧ (5 ≤ x.f0 → x.f1.length = 1) ∧ (x.f0 = 2 → 0 ≤ x.f2 ∧ x.f2 < n) ∧ (x.f0 ≠ 2 → x.f2 = 0) ∧ (x.f0 ≠ 1 → x.f3.f0 = 0 ∧ x.f3.f1 = 0 ∧ x.f3.f2 = 0 ∧ x.f3.f3 = 0)
def KidsOk (G : List NodeT) (i : Int) : Prop := ∀ c ∈ (nodeAt G i).f1, 0 ≤ c ∧ c < i
structure WF (R : List RuleT) (G : List NodeT) : Prop where
  rules : 0 < R.length ∧ R.length ≤ 1000
  nodes : 0 < G.length ∧ G.length ≤ 10000
  made : ∀ i : Int, 0 ≤ i → i < (G.length : Int) → Made R.length (nodeAt G i)
  kids : ∀ i : Int, 0 ≤ i → i < (G.length : Int) → KidsOk G i
  roots : ∀ r : Int, 0 ≤ r → r < (R.length : Int) → 0 ≤ (ruleAt R r).f1 ∧ (ruleAt R r).f1 < (G.length : Int)
theorem letter_ev (c : Int) (b : Bool) : ∃ v, ∀ k : Nat, vetchref04_Letter.f c b = some v := by
  unfold vetchref04_Letter.f
  repeat' split
  all_goals exact ⟨_, fun _ => rfl⟩
theorem name_l0 (x : ByteArray) (hx : x.size ≤ maxLen) : ∀ (n : Nat) (i : Int), 0 ≤ i → i.toNat + n = x.size → ∃ v, Ev (fun k => vetchref04_Name.l0 k x i) v := by
  intro n
  induction n with
  | zero =>
    intro i h0 hn
    exact ⟨_, Ev.succ (g := fun _ => some _) (fun k => by rw [vetchref04_Name.l0, if_neg (by omega)]) (Ev.const _)⟩
  | succ n ih =>
    intro i h0 hn
    have hm : x.size ≤ 9223372036854775807 := hx
    obtain ⟨b, hb⟩ := letter_ev (bt x i) (i == 0)
    cases b with
    | true =>
      obtain ⟨v, hv⟩ := ih (wrap64 (i + 1)) (by rw [w64p _ (by omega)]; omega) (by rw [w64p _ (by omega)]; omega)
      exact ⟨v, Ev.succ (fun k => by rw [vetchref04_Name.l0, if_pos (by omega), if_pos h0, hb k, Option.bind_some, if_pos rfl]) hv⟩
    | false => exact ⟨false, Ev.succ (g := fun _ => some false) (fun k => by rw [vetchref04_Name.l0, if_pos (by omega), if_pos h0, hb k, Option.bind_some, if_neg (by decide)]) (Ev.const _)⟩
theorem name_ev (x : ByteArray) (hx : x.size ≤ maxLen) : ∃ v, Ev (fun k => vetchref04_Name.f k x) v := by
  obtain ⟨v, hv⟩ := name_l0 x hx x.size 0 (by omega) (by simp)
  exact ⟨v, hv⟩
theorem made_ev (n : Int) (x : NodeT) : ∃ v, Ev (fun k => vetchref05_Made.f k x.f0 x.f1 x.f2 x.f3.f0 x.f3.f1 x.f3.f2 x.f3.f3 n) v ∧ (v = true → Made n x) := by
  obtain ⟨op, kids, rule, s0, s1, s2, s3⟩ := x
  have hj1 : ∀ b : Bool, ∃ v, (∀ k, vetchref05_Made.j1 (k + 1) n b op kids rule s0 s1 s2 s3 = some v) ∧ (v = true → b = false ∧ (op = 2 → 0 ≤ rule ∧ rule < n) ∧ (op ≠ 2 → rule = 0) ∧ (op ≠ 1 → s0 = 0 ∧ s1 = 0 ∧ s2 = 0 ∧ s3 = 0)) := by
    intro b
    simp only [vetchref05_Made.j1]
    repeat' split
    all_goals refine ⟨_, fun _ => rfl, ?_⟩
    all_goals simp_all
    all_goals omega
  have hj0 : ∀ b : Bool, ∃ v, (∀ k, vetchref05_Made.j0 (k + 2) n b op kids rule s0 s1 s2 s3 = some v) ∧ (v = true → b = false ∧ (op ≤ 2 → kids.length = 0) ∧ (op = 3 → 2 ≤ kids.length) ∧ (op = 4 → 2 ≤ kids.length) ∧ (5 ≤ op → kids.length = 1) ∧ (op = 2 → 0 ≤ rule ∧ rule < n) ∧ (op ≠ 2 → rule = 0) ∧ (op ≠ 1 → s0 = 0 ∧ s1 = 0 ∧ s2 = 0 ∧ s3 = 0)) := by
    intro b
    simp only [vetchref05_Made.j0]
    repeat' split
    all_goals first
      | exact ⟨_, fun _ => rfl, fun h => absurd h (by decide)⟩
      | (obtain ⟨v, h1, h2⟩ := hj1 true; exact ⟨v, h1, fun h => absurd (h2 h).1 (by decide)⟩)
      | (obtain ⟨v, h1, h2⟩ := hj1 false; refine ⟨v, h1, fun h => ?_⟩; obtain ⟨_, h3, h4, h5⟩ := h2 h; refine ⟨by simp_all, by omega, by omega, by omega, by omega, h3, h4, h5⟩)
      | (obtain ⟨v, h1, h2⟩ := hj1 ((kids.length : Int) != 1); refine ⟨v, h1, fun h => ?_⟩; obtain ⟨h6, h3, h4, h5⟩ := h2 h; have h7 : (kids.length : Int) = 1 := by simpa using h6
         refine ⟨by simp_all, by omega, by omega, by omega, by omega, h3, h4, h5⟩)
  have hf : ∃ v, (∀ k, vetchref05_Made.f (k + 2) op kids rule s0 s1 s2 s3 n = some v) ∧ (v = true → 0 ≤ op ∧ op ≤ 9 ∧ (op ≤ 2 → kids.length = 0) ∧ (op = 3 → 2 ≤ kids.length) ∧ (op = 4 → 2 ≤ kids.length) ∧ (5 ≤ op → kids.length = 1) ∧ (op = 2 → 0 ≤ rule ∧ rule < n) ∧ (op ≠ 2 → rule = 0) ∧ (op ≠ 1 → s0 = 0 ∧ s1 = 0 ∧ s2 = 0 ∧ s3 = 0)) := by
    unfold vetchref05_Made.f
    split
    · obtain ⟨v, h1, h2⟩ := hj0 true
      exact ⟨v, h1, fun h => absurd (h2 h).1 (by decide)⟩
    · rename_i h0
      obtain ⟨v, h1, h2⟩ := hj0 (decide (op > 9))
      refine ⟨v, h1, fun h => ?_⟩
      obtain ⟨h3, h4⟩ := h2 h
      have h5 : ¬ op > 9 := by simpa using h3
      exact ⟨by omega, by omega, h4⟩
  obtain ⟨v, h1, h2⟩ := hf
  refine ⟨v, ⟨2, fun j hj => ?_⟩, fun h => ?_⟩
  · obtain ⟨k, rfl⟩ : ∃ k, j = k + 2 := ⟨j - 2, by omega⟩
    exact h1 k
  · obtain ⟨a, b, c, d⟩ := h2 h
    exact ⟨a, b, fun h => List.length_eq_zero_iff.1 (c h), d⟩
theorem expr_ev (R : List RuleT) (G : List NodeT) (hG : G.length ≤ maxLen) (hk : ∀ i : Int, 0 ≤ i → i < (G.length : Int) → (nodeAt G i).f1.length ≤ maxLen) :
    ∀ (n : Nat) (i : Int), i < (G.length : Int) → i < (n : Int) → ∃ v, Ev (fun k => vetchref05_Expression.f k R G i) v ∧ (v = -2 ∨ (-1 ≤ v ∧ v < i ∧ ∀ j, v < j → j ≤ i → KidsOk G j)) := by
  have hG' : G.length ≤ 9223372036854775807 := hG
  have neg : ∀ i : Int, i < 0 → ∃ v, Ev (fun k => vetchref05_Expression.f k R G i) v ∧ (v = -2 ∨ (-1 ≤ v ∧ v < i ∧ ∀ j, v < j → j ≤ i → KidsOk G j)) := fun i hi =>
    ⟨-2, Ev.succ (g := fun _ => some (-2)) (fun k => by rw [vetchref05_Expression.f, if_pos hi]) (Ev.const _), .inl rfl⟩
  intro n
  induction n with
  | zero => exact fun i _ hi => neg i (by omega)
  | succ n ih =>
    intro i hl hi
    by_cases h0 : i < 0
    · exact neg i h0
    have hkl : (nodeAt G i).f1.length ≤ 9223372036854775807 := hk i (by omega) hl
    have loop : ∀ (m : Nat) (a : Int), m ≤ (nodeAt G i).f1.length → -1 ≤ a → a < i → (∀ j, a < j → j < i → KidsOk G j) → (∀ p : Nat, m ≤ p → p < (nodeAt G i).f1.length → a < rd (nodeAt G i).f1 p ∧ rd (nodeAt G i).f1 p < i) →
        ∃ v, Ev (fun k => vetchref05_Expression.l0 k i a ((m : Int) - 1) R G) v ∧ (v = -2 ∨ (-1 ≤ v ∧ v < i ∧ (∀ j, v < j → j < i → KidsOk G j) ∧ ∀ p : Nat, p < (nodeAt G i).f1.length → v < rd (nodeAt G i).f1 p ∧ rd (nodeAt G i).f1 p < i)) := by
      intro m
      induction m with
      | zero =>
        intro a hm ha1 ha2 hn hp
        exact ⟨a, Ev.succ (g := fun _ => some a) (fun k => by rw [vetchref05_Expression.l0, if_neg (by omega)]) (Ev.const _), .inr ⟨ha1, ha2, hn, fun p hp' => hp p (by omega) hp'⟩⟩
      | succ m ihm =>
        intro a hm ha1 ha2 hn hp
        by_cases hkid : rd (nodeAt G i).f1 ((m : Int) + 1 - 1) = a
        · obtain ⟨v, hv, hs⟩ := ih a (by omega) (by omega)
          have step : ∀ k, vetchref05_Expression.l0 (k + 1) i a (((m + 1 : Nat) : Int) - 1) R G = (vetchref05_Expression.f k R G a).bind fun t => if t = (-2) then some (-2) else vetchref05_Expression.l0 k i t (wrap64 (((m + 1 : Nat) : Int) - 1 - 1)) R G := fun k => by
            rw [vetchref05_Expression.l0, if_pos (by omega), if_pos (by omega), if_pos hl, if_pos (by omega), if_pos (by show _ < ((nodeAt G i).f1.length : Int); omega), if_pos (by push_cast; exact hkid)]
          rcases hs with rfl | ⟨h1, h2, h3⟩
          · exact ⟨-2, Ev.succ step (Ev.bind hv (Ev.of_eq fun _ => if_pos rfl)), .inl rfl⟩
          · obtain ⟨u, hu, hus⟩ := ihm v (by omega) h1 (by omega) (fun j hj1 hj2 => by
                by_cases hja : j ≤ a
                · exact h3 j hj1 hja
                · exact hn j (by omega) hj2) (fun p hp1 hp2 => by
                by_cases hpm : p = m
                · subst hpm
                  rw [show ((p : Nat) : Int) = (p : Int) + 1 - 1 by omega, hkid]
                  omega
                · have := hp p (by omega) hp2
                  omega)
            refine ⟨u, Ev.succ step (Ev.bind hv (Ev.congr (fun k => if_neg (by omega)) ?_)), hus⟩
            rw [w64p _ (by omega), show ((m + 1 : Nat) : Int) - 1 - 1 = (m : Int) - 1 by omega]
            exact hu
        · refine ⟨-2, Ev.succ (g := fun _ => some (-2)) (fun k => by
            rw [vetchref05_Expression.l0, if_pos (by omega), if_pos (by omega), if_pos hl, if_pos (by omega), if_pos (by show _ < ((nodeAt G i).f1.length : Int); omega), if_neg (by push_cast; exact hkid)]) (Ev.const _), .inl rfl⟩
    obtain ⟨v, hv, hs⟩ := loop (nodeAt G i).f1.length (i - 1) (Nat.le_refl _) (by omega) (by omega) (fun j h1 h2 => absurd h2 (by omega)) (fun p h1 h2 => absurd h2 (by omega))
    refine ⟨v, Ev.succ (fun k => by rw [vetchref05_Expression.f, if_neg h0, if_pos (by omega), if_pos hl, w64p _ (by omega), w64p _ (by show _ ≤ ((nodeAt G i).f1.length : Int) - 1 ∧ ((nodeAt G i).f1.length : Int) - 1 ≤ _; omega)]) hv, ?_⟩
    rcases hs with rfl | ⟨h1, h2, h3, h4⟩
    · exact .inl rfl
    · refine .inr ⟨h1, h2, fun j hj1 hj2 => ?_⟩
      by_cases hji : j = i
      · subst hji
        intro c hc
        obtain ⟨p, hp, rfl⟩ := List.getElem_of_mem hc
        have := h4 p hp
        have e : rd (nodeAt G j).f1 p = (nodeAt G j).f1[p] := by
          unfold rd
          rw [List.getD_eq_getElem?_getD, show (p : Int).toNat = p by omega, List.getElem?_eq_getElem hp]
          rfl
        rw [e] at this
        omega
      · exact h3 j hj1 (by omega)
theorem ordered_ev (R : List RuleT) (G : List NodeT) (hR : R.length ≤ maxLen) (hG : G.length ≤ maxLen) (hk : ∀ i : Int, 0 ≤ i → i < (G.length : Int) → (nodeAt G i).f1.length ≤ maxLen) :
    ∃ v, Ev (fun k => vetchref05_Ordered.f k R G) v ∧ (v = true → (∀ i : Int, 0 ≤ i → i < (G.length : Int) → KidsOk G i) ∧ ∀ r : Int, 0 ≤ r → r < (R.length : Int) → 0 ≤ (ruleAt R r).f1 ∧ (ruleAt R r).f1 < (G.length : Int)) := by
  have hG' : G.length ≤ 9223372036854775807 := hG
  have hR' : R.length ≤ 9223372036854775807 := hR
  have loop : ∀ (n : Nat) (i b : Int), 0 ≤ i → i.toNat + n = R.length → -1 ≤ b → b < (G.length : Int) → (∀ j, 0 ≤ j → j ≤ b → KidsOk G j) → (∀ r, 0 ≤ r → r < i → 0 ≤ (ruleAt R r).f1 ∧ (ruleAt R r).f1 < (G.length : Int)) →
      ∃ v, Ev (fun k => vetchref05_Ordered.l0 k b i R G) v ∧ (v = true → (∀ i : Int, 0 ≤ i → i < (G.length : Int) → KidsOk G i) ∧ ∀ r : Int, 0 ≤ r → r < (R.length : Int) → 0 ≤ (ruleAt R r).f1 ∧ (ruleAt R r).f1 < (G.length : Int)) := by
    intro n
    induction n with
    | zero =>
      intro i b h0 hn hb1 hb2 hj hr
      refine ⟨b == wrap64 ((G.length : Int) - 1), Ev.succ (g := fun _ => some _) (fun k => by rw [vetchref05_Ordered.l0, if_neg (by omega)]) (Ev.const _), fun hv => ?_⟩
      have hb : b = (G.length : Int) - 1 := by
        have := beq_iff_eq.1 hv
        rwa [w64p _ (by omega)] at this
      exact ⟨fun j h1 h2 => hj j h1 (by omega), fun r h1 h2 => hr r h1 (by omega)⟩
    | succ n ih =>
      intro i b h0 hn hb1 hb2 hj hr
      by_cases c1 : (ruleAt R i).f1 ≤ b
      · exact ⟨false, Ev.succ (g := fun _ => some false) (fun k => by rw [vetchref05_Ordered.l0, if_pos (by omega), if_pos h0, if_pos c1]) (Ev.const _), fun h => absurd h (by decide)⟩
      by_cases c2 : (ruleAt R i).f1 ≥ (G.length : Int)
      · exact ⟨false, Ev.succ (g := fun _ => some false) (fun k => by rw [vetchref05_Ordered.l0, if_pos (by omega), if_pos h0, if_neg c1, if_pos c2]) (Ev.const _), fun h => absurd h (by decide)⟩
      obtain ⟨v, hv, hs⟩ := expr_ev R G hG hk G.length (ruleAt R i).f1 (by omega) (by omega)
      have step : ∀ k, vetchref05_Ordered.l0 (k + 1) b i R G = (vetchref05_Expression.f k R G (ruleAt R i).f1).bind fun t => if t = b then vetchref05_Ordered.l0 k (ruleAt R i).f1 (wrap64 (i + 1)) R G else some false := fun k => by
        rw [vetchref05_Ordered.l0, if_pos (by omega), if_pos h0, if_neg c1, if_neg c2]
      by_cases c3 : v = b
      · obtain ⟨u, hu, hus⟩ := ih (i + 1) (ruleAt R i).f1 (by omega) (by omega) (by omega) (by omega) (fun j h1 h2 => by
            by_cases hjb : j ≤ b
            · exact hj j h1 hjb
            · rcases hs with rfl | ⟨_, _, h5⟩
              · omega
              · exact h5 j (by omega) h2) (fun r h1 h2 => by
            by_cases hri : r = i
            · subst hri; omega
            · exact hr r h1 (by omega))
        refine ⟨u, Ev.succ step (Ev.bind hv (Ev.congr (fun k => if_pos c3) ?_)), hus⟩
        rw [w64p _ (by omega)]
        exact hu
      · exact ⟨false, Ev.succ step (Ev.bind hv (Ev.of_eq fun _ => if_neg c3)), fun h => absurd h (by decide)⟩
  obtain ⟨v, hv, hs⟩ := loop R.length 0 (-1) (by omega) (by simp) (by omega) (by omega) (fun j h1 h2 => absurd h2 (by omega)) (fun r h1 h2 => absurd h2 (by omega))
  exact ⟨v, hv, hs⟩
theorem depth_ev (R : List RuleT) (G : List NodeT) (hG : G.length ≤ maxLen) (hk : ∀ i : Int, 0 ≤ i → i < (G.length : Int) → (nodeAt G i).f1.length ≤ maxLen) (ho : ∀ i : Int, 0 ≤ i → i < (G.length : Int) → KidsOk G i) :
    ∀ (n : Nat) (i : Int), 0 ≤ i → i < (G.length : Int) → n ≤ 1000 → ∃ v, Ev (fun k => vetchref05_Depth.f k R G i (n : Int)) v := by
  intro n
  induction n with
  | zero =>
    intro i h0 h1 _
    refine ⟨wrap64 (0 + 1), Ev.succ (fun k => by rw [vetchref05_Depth.f]) (Ev.succ (g := fun _ => some _) (fun k => ?_) (Ev.const _))⟩
    rw [vetchref05_Depth.l0, if_pos h0, if_pos h1]
    split
    · rfl
    · rfl
  | succ n ih =>
    intro i h0 h1 hn
    have hkl : (nodeAt G i).f1.length ≤ 9223372036854775807 := hk i h0 h1
    have loop : ∀ (m : Nat) (j d : Int), 0 ≤ j → j.toNat + m = (nodeAt G i).f1.length → ∃ v, Ev (fun k => vetchref05_Depth.l0 k i ((n + 1 : Nat) : Int) d j R G) v := by
      intro m
      induction m with
      | zero =>
        intro j d hj hm
        exact ⟨wrap64 (d + 1), Ev.succ (g := fun _ => some _) (fun k => by rw [vetchref05_Depth.l0, if_pos h0, if_pos h1, if_neg (by show ¬ _ < ((nodeAt G i).f1.length : Int); omega)]) (Ev.const _)⟩
      | succ m ihm =>
        intro j d hj hm
        have hjl : j < ((nodeAt G i).f1.length : Int) := by omega
        have hmem : rd (nodeAt G i).f1 j ∈ (nodeAt G i).f1 := by
          have h : j.toNat < (nodeAt G i).f1.length := by omega
          unfold rd
          rw [List.getD_eq_getElem?_getD, List.getElem?_eq_getElem h]
          exact List.getElem_mem h
        have hc := ho i h0 h1 _ hmem
        obtain ⟨v, hv⟩ := ih (rd (nodeAt G i).f1 j) hc.1 (by omega) (by omega)
        obtain ⟨u, hu⟩ := ihm (j + 1) (mx d v) (by omega) (by omega)
        refine ⟨u, Ev.succ (g := fun k => (vetchref05_Depth.f k R G (rd (nodeAt G i).f1 j) (n : Int)).bind fun t => vetchref05_Depth.l0 k i ((n + 1 : Nat) : Int) (mx d t) (j + 1) R G) (fun k => ?_) (Ev.bind hv hu)⟩
        rw [vetchref05_Depth.l0, if_pos h0, if_pos h1, if_pos hjl, if_pos (by omega), if_pos hj, w64p (((n + 1 : Nat) : Int) - 1) (by omega), w64p (j + 1) (by omega), show ((n + 1 : Nat) : Int) - 1 = (n : Int) by omega]
    obtain ⟨v, hv⟩ := loop (nodeAt G i).f1.length 0 0 (by omega) (by simp)
    exact ⟨v, Ev.succ (fun k => by rw [vetchref05_Depth.f]) hv⟩
theorem check_ev (R : List RuleT) (G : List NodeT) (hR : R.length ≤ maxLen ∧ ∀ y ∈ R, Ok51 y) (hG : G.length ≤ maxLen ∧ ∀ y ∈ G, Ok56 y) :
    ∃ v, Ev (fun k => vetchref05_Check.f k R G) v ∧ (v.2.1 = 0 → WF R G) := by
  have hG' : G.length ≤ 9223372036854775807 := hG.1
  have hR' : R.length ≤ 9223372036854775807 := hR.1
  have memR : ∀ r : Int, 0 ≤ r → r < (R.length : Int) → ruleAt R r ∈ R := fun r h0 h1 => by
    have h : r.toNat < R.length := by omega
    show R.getD r.toNat _ ∈ R
    rw [List.getD_eq_getElem?_getD, List.getElem?_eq_getElem h]
    exact List.getElem_mem h
  have memG : ∀ r : Int, 0 ≤ r → r < (G.length : Int) → nodeAt G r ∈ G := fun r h0 h1 => by
    have h : r.toNat < G.length := by omega
    show G.getD r.toNat _ ∈ G
    rw [List.getD_eq_getElem?_getD, List.getElem?_eq_getElem h]
    exact List.getElem_mem h
  have hk : ∀ i : Int, 0 ≤ i → i < (G.length : Int) → (nodeAt G i).f1.length ≤ maxLen := fun i h0 h1 => (hG.2 _ (memG i h0 h1)).2.1.1
  have no : ∀ {f : Nat → Option (ByteArray × Int × Int)} {a : ByteArray} {c o : Int} {p : Prop}, c ≠ 0 → Ev f (a, c, o) → ∃ v, Ev f v ∧ (v.2.1 = 0 → p) := fun hc h => ⟨_, h, fun h' => absurd h' hc⟩
  have l3 : (∀ i : Int, 0 ≤ i → i < (G.length : Int) → KidsOk G i) → ∀ (n : Nat) (i : Int), 0 ≤ i → i.toNat + n = G.length → ∃ v, Ev (fun k => vetchref05_Check.l3 k i R G) v ∧ (v.2.1 = 0 → True) := by
    intro ho n
    induction n with
    | zero => exact fun i h0 hn => ⟨_, Ev.succ (g := fun _ => some _) (fun k => by rw [vetchref05_Check.l3, if_neg (by omega)]) (Ev.const _), fun _ => trivial⟩
    | succ n ih =>
      intro i h0 hn
      obtain ⟨d, hd⟩ := depth_ev R G hG.1 hk ho 205 i h0 (by omega) (by omega)
      have step : ∀ k, vetchref05_Check.l3 (k + 1) i R G = (vetchref05_Depth.f k R G i 205).bind fun t => if t > 200 then some ((⟨#[110, 111, 100, 101, 115]⟩ : ByteArray), 5, i) else vetchref05_Check.l3 k (wrap64 (i + 1)) R G := fun k => by rw [vetchref05_Check.l3, if_pos (by omega)]
      by_cases c : d > 200
      · exact ⟨_, Ev.succ step (Ev.bind hd (Ev.of_eq fun _ => if_pos c)), fun _ => trivial⟩
      · obtain ⟨v, hv, hs⟩ := ih (i + 1) (by omega) (by omega)
        refine ⟨v, Ev.succ step (Ev.bind hd (Ev.congr (fun k => if_neg c) ?_)), hs⟩
        rw [w64p _ (by omega)]
        exact hv
  have l2 : 0 < R.length → R.length ≤ 1000 → G.length ≤ 10000 → ∀ (n : Nat) (i : Int), 0 ≤ i → i.toNat + n = G.length → (∀ j : Int, 0 ≤ j → j < i → Made R.length (nodeAt G j)) → ∃ v, Ev (fun k => vetchref05_Check.l2 k i R G) v ∧ (v.2.1 = 0 → WF R G) := by
    intro hr1 hr2 hg n
    induction n with
    | zero =>
      intro i h0 hn hm
      obtain ⟨b, hb, hbs⟩ := ordered_ev R G hR.1 hG.1 hk
      have step : ∀ k, vetchref05_Check.l2 (k + 1) i R G = (vetchref05_Ordered.f k R G).bind fun t => if t = true then vetchref05_Check.l3 k 0 R G else some ((⟨#[]⟩ : ByteArray), 10, 0) := fun k => by rw [vetchref05_Check.l2, if_neg (by omega)]
      cases b with
      | false => exact no (by decide) (Ev.succ step (Ev.bind hb (Ev.of_eq fun _ => if_neg (by decide))))
      | true =>
        obtain ⟨hkids, hroots⟩ := hbs rfl
        obtain ⟨v, hv, _⟩ := l3 hkids G.length 0 (by omega) (by simp)
        refine ⟨v, Ev.succ step (Ev.bind hb (Ev.congr (fun k => if_pos rfl) hv)), fun _ => ⟨⟨hr1, hr2⟩, ⟨?_, hg⟩, fun j h1 h2 => hm j h1 (by omega), hkids, hroots⟩⟩
        have := hroots 0 (by omega) (by omega)
        omega
    | succ n ih =>
      intro i h0 hn hm
      obtain ⟨b, hb, hbs⟩ := made_ev R.length (nodeAt G i)
      have step : ∀ k, vetchref05_Check.l2 (k + 1) i R G = (vetchref05_Made.f k (nodeAt G i).f0 (nodeAt G i).f1 (nodeAt G i).f2 (nodeAt G i).f3.f0 (nodeAt G i).f3.f1 (nodeAt G i).f3.f2 (nodeAt G i).f3.f3 (R.length : Int)).bind fun t => if t = true then vetchref05_Check.l2 k (wrap64 (i + 1)) R G else some ((⟨#[110, 111, 100, 101, 115]⟩ : ByteArray), 10, i) := fun k => by rw [vetchref05_Check.l2, if_pos (by omega), if_pos h0]
      cases b with
      | false => exact no (by decide) (Ev.succ step (Ev.bind hb (Ev.of_eq fun _ => if_neg (by decide))))
      | true =>
        obtain ⟨v, hv, hs⟩ := ih (i + 1) (by omega) (by omega) (fun j h1 h2 => by
          by_cases hji : j = i
          · subst hji; exact hbs rfl
          · exact hm j h1 (by omega))
        refine ⟨v, Ev.succ step (Ev.bind hb (Ev.congr (fun k => if_pos rfl) ?_)), hs⟩
        rw [w64p _ (by omega)]
        exact hv
  have l0 : 0 < R.length → R.length ≤ 1000 → G.length ≤ 10000 → ∀ (n : Nat) (i : Int), 0 ≤ i → i.toNat + n = R.length → ∃ v, Ev (fun k => vetchref05_Check.l0 k i R G) v ∧ (v.2.1 = 0 → WF R G) := by
    intro hr1 hr2 hg n
    induction n with
    | zero =>
      intro i h0 hn
      obtain ⟨v, hv, hs⟩ := l2 hr1 hr2 hg G.length 0 (by omega) (by simp) (fun j h1 h2 => absurd h2 (by omega))
      exact ⟨v, Ev.succ (fun k => by rw [vetchref05_Check.l0, if_neg (by omega)]) hv, hs⟩
    | succ n ih =>
      intro i h0 hn
      have l1 : ∀ (m : Nat) (j : Int), 0 ≤ j → j ≤ i → j.toNat + m = i.toNat → ∃ v, Ev (fun k => vetchref05_Check.l1 k i j R G) v ∧ (v.2.1 = 0 → WF R G) := by
        intro m
        induction m with
        | zero =>
          intro j hj0 hj hm
          obtain ⟨v, hv, hs⟩ := ih (i + 1) (by omega) (by omega)
          refine ⟨v, Ev.succ (fun k => by rw [vetchref05_Check.l1, if_neg (by omega)]) ?_, hs⟩
          rw [w64p _ (by omega)]
          exact hv
        | succ m ihm =>
          intro j hj0 hj hm
          by_cases c : ((ruleAt R j).f0).toList = ((ruleAt R i).f0).toList
          · exact no (c := 10) (by decide) (Ev.succ (g := fun _ => some ((⟨#[114, 117, 108, 101, 115]⟩ : ByteArray), 10, i)) (fun k => by rw [vetchref05_Check.l1, if_pos (by omega), if_pos hj0, if_pos (by omega), if_pos h0, if_pos (by omega), if_pos c]) (Ev.const _))
          · obtain ⟨v, hv, hs⟩ := ihm (j + 1) (by omega) (by omega) (by omega)
            refine ⟨v, Ev.succ (fun k => by rw [vetchref05_Check.l1, if_pos (by omega), if_pos hj0, if_pos (by omega), if_pos h0, if_pos (by omega), if_neg c]) ?_, hs⟩
            rw [w64p _ (by omega)]
            exact hv
      obtain ⟨b, hb⟩ := name_ev (ruleAt R i).f0 (hR.2 _ (memR i h0 (by omega))).1
      have step : ∀ k, vetchref05_Check.l0 (k + 1) i R G = (vetchref04_Name.f k (ruleAt R i).f0).bind fun t => if t = true then vetchref05_Check.l1 k i 0 R G else some ((⟨#[114, 117, 108, 101, 115]⟩ : ByteArray), 10, i) := fun k => by rw [vetchref05_Check.l0, if_pos (by omega), if_pos h0]
      cases b with
      | false => exact no (by decide) (Ev.succ step (Ev.bind hb (Ev.of_eq fun _ => if_neg (by decide))))
      | true =>
        obtain ⟨v, hv, hs⟩ := l1 i.toNat 0 (by omega) h0 (by simp)
        exact ⟨v, Ev.succ step (Ev.bind hb (Ev.congr (fun k => if_pos rfl) hv)), hs⟩
  unfold vetchref05_Check.f
  by_cases c1 : (R.length : Int) > 1000
  · exact no (c := 4) (by decide) (Ev.congr (fun k => if_pos c1) (Ev.succ (g := fun _ => some ((⟨#[]⟩ : ByteArray), 4, 0)) (fun k => by rw [vetchref05_Check.j0, if_pos rfl]) (Ev.const _)))
  by_cases c2 : (G.length : Int) > 10000
  · exact no (c := 4) (by decide) (Ev.congr (fun k => if_neg c1) (Ev.succ (g := fun _ => some ((⟨#[]⟩ : ByteArray), 4, 0)) (fun k => by rw [vetchref05_Check.j0, if_pos (by simpa using c2)]) (Ev.const _)))
  by_cases c3 : (R.length : Int) = 0
  · exact no (c := 10) (by decide) (Ev.congr (fun k => if_neg c1) (Ev.succ (g := fun _ => some ((⟨#[114, 117, 108, 101, 115]⟩ : ByteArray), 10, 0)) (fun k => by rw [vetchref05_Check.j0, if_neg (by simpa using c2), if_pos c3]) (Ev.const _)))
  obtain ⟨v, hv, hs⟩ := l0 (by omega) (by omega) (by omega) R.length 0 (by omega) (by simp)
  exact ⟨v, Ev.congr (fun k => if_neg c1) (Ev.succ (fun k => by rw [vetchref05_Check.j0, if_neg (by simpa using c2), if_neg c3]) hv), hs⟩
theorem valid_ev (R : List RuleT) (G : List NodeT) (hR : R.length ≤ maxLen ∧ ∀ y ∈ R, Ok51 y) (hG : G.length ≤ maxLen ∧ ∀ y ∈ G, Ok56 y) :
    ∃ v, Ev (fun k => vetchref05_Valid.f k R G) v ∧ (v = true → WF R G) := by
  obtain ⟨v, hv, hs⟩ := check_ev R G hR hG
  exact ⟨v.2.1 == 0, Ev.bind hv (Ev.const _), fun h => hs (beq_iff_eq.1 h)⟩
end Go.Proofs.Ythgedejnpgcacaa.V
namespace Go.Proofs.Ythgedejnpgcacaa.V
open Go.RowKit Go.Proofs.YthgedejnpgcacaaW.PrintWords
set_option linter.unusedVariables false
theorem has_l0 : ∀ (n : Nat) (c v i : Int), 0 ≤ i → i.toNat + n = (c % 64).toNat → Ev (fun k => vetchref01_Has.l0 k c v i) (v / 2 ^ n % 2 == 1) := by
  intro n
  induction n with
  | zero =>
    intro c v i h0 hn
    exact Ev.succ (g := fun _ => some _) (fun k => by rw [vetchref01_Has.l0, if_neg (by omega), Int.pow_zero, Int.ediv_one]) (Ev.const _)
  | succ n ih =>
    intro c v i h0 hn
    have := ih c (v / 2) (i + 1) (by omega) (by omega)
    rw [Int.ediv_ediv_of_nonneg (by decide), show (2 : Int) * 2 ^ n = 2 ^ (n + 1) by rw [Int.pow_succ, Int.mul_comm]] at this
    exact Ev.succ (fun k => by rw [vetchref01_Has.l0, if_pos (by omega)]) this
theorem has_ev (s : S54) (hs : Ok54 s) (c : Int) (h0 : 0 ≤ c) (h1 : c ≤ 255) :
    ∃ b, byteset_Has.f s.f0 s.f1 s.f2 s.f3 c = some b ∧ Ev (fun k => vetchref01_Has.f k s.f0 s.f1 s.f2 s.f3 c) b := by
  obtain ⟨w0, w1, w2, w3⟩ := hs
  simp [Lit.wf, IntKind.min, IntKind.max, IntKind.signed, IntKind.bits] at w0 w1 w2 w3
  have hv : 0 ≤ arr4 s.f0 s.f1 s.f2 s.f3 (c / 64) ∧ arr4 s.f0 s.f1 s.f2 s.f3 (c / 64) ≤ 18446744073709551615 := by unfold arr4; repeat' split <;> omega
  generalize hvv : arr4 s.f0 s.f1 s.f2 s.f3 (c / 64) = v at hv
  have hl := has_l0 (c % 64).toNat c v 0 (by omega) (by omega)
  refine ⟨_, by unfold byteset_Has.f; rw [if_pos h0, if_pos h1, hvv], ?_⟩
  have e : (bits .and .u64 (v / 2 ^ (c % 64).toNat) 1 == 1) = (v / 2 ^ (c % 64).toNat % 2 == 1) := by
    have hp : (0 : Int) < 2 ^ (c % 64).toNat := Int.pow_pos (by decide)
    have h2 : 0 ≤ v / 2 ^ (c % 64).toNat := Int.ediv_nonneg hv.1 (by omega)
    have h3 : v / 2 ^ (c % 64).toNat ≤ v := Int.ediv_le_self _ hv.1
    generalize v / 2 ^ (c % 64).toNat = y at h2 h3
    obtain ⟨m, rfl⟩ := Int.eq_ofNat_of_zero_le h2
    have := bits_and_u64_nat m 1 (by omega) (by decide)
    rw [show ((1 : Nat) : Int) = 1 from rfl] at this
    rw [this, Nat.and_one_is_mod, Int.natCast_emod]
    rfl
  rw [e]
  exact Ev.congr (fun k => by unfold vetchref01_Has.f; rw [if_pos h0, if_pos h1, if_pos ⟨⟨w0.1, w0.2⟩, ⟨w1.1, w1.2⟩, ⟨w2.1, w2.2⟩, ⟨w3.1, w3.2⟩⟩, hvv]) hl
end Go.Proofs.Ythgedejnpgcacaa.V
