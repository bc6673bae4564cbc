/- The law NaiveCosts returns true whatever comes in, and leaves its arguments as they were. No condition. -/
import Derived.Test.YthgedejnpgcacaaKNc3
import Derived.OpenShut
import Derived.Carry
import Derived.Deep.Slices
import Derived.DataElems
namespace Go.Proofs.Ythgedejnpgcacaa.V
open Go.RowKit Go.Proofs.YthgedejnpgcacaaW.PrintWords Go.Proofs.YthgedejnpgcacaaW.PrintLast Go.Proofs.YthgedejnpgcacaaW.PrintMore
set_option linter.unusedVariables false
set_option linter.unusedSimpArgs false
set_option maxHeartbeats 4000000 in
set_option maxRecDepth 100000 in
theorem vetchref18_Node.calls_sf (k : Nat) (ih : ∀ (A0_0 : Option Addr) (c0_0 : Nat) (l0_0 : List S51) (A0_1 : Option Addr) (c0_1 : Nat) (l0_1 : List S56) (a1 : Int) (a2 : ByteArray) (a3 a4 : Int) (r1 : Bool) (r2 r3 : Int) (w : World)
    (hr0_0 : Kd.C k51 w A0_0 l0_0.length l0_0) (hc0_0 : l0_0.length ≤ c0_0) (hr0_1 : Kd.C k56 w A0_1 l0_1.length l0_1) (hc0_1 : l0_1.length ≤ c0_1) (h : vetchref18_Node.f k l0_0 l0_1 a1 a2 a3 a4 = some (r1, r2, r3)), Calls Try.prog 12 #[.agg #[.slice A0_0 l0_0.length c0_0, .slice A0_1 l0_1.length c0_1], .int .i64 a1, .string a2, .int .i64 a3, .int .i64 a4] w fun e w' => e = .returned (.agg #[.bool r1, .int .i64 r2, .int .i64 r3]) ∧ Below w.heap.size w w')
    (A0_0 : Option Addr) (c0_0 : Nat) (l0_0 : List S51) (A0_1 : Option Addr) (c0_1 : Nat) (l0_1 : List S56) (a1 : Int) (a2 : ByteArray) (a3 a4 : Int) (r1 : Bool) (r2 r3 : Int) (w : World)
    (hr0_0 : Kd.C k51 w A0_0 l0_0.length l0_0) (hc0_0 : l0_0.length ≤ c0_0) (hr0_1 : Kd.C k56 w A0_1 l0_1.length l0_1) (hc0_1 : l0_1.length ≤ c0_1) (hs : Aside0 (a4 < 1)) (h : vetchref18_Node.f (k + 1) l0_0 l0_1 a1 a2 a3 a4 = some (r1, r2, r3)) :
    Calls Try.prog 12 #[.agg #[.slice A0_0 l0_0.length c0_0, .slice A0_1 l0_1.length c0_1], .int .i64 a1, .string a2, .int .i64 a3, .int .i64 a4] w fun e w' => e = .returned (.agg #[.bool r1, .int .i64 r2, .int .i64 r3]) ∧ Below w.heap.size w w' := by
  rw [vetchref18_Node.f] at h
  have IH := Aside0.mk ih
  clear ih
  have hu25 := Try.underlying25
  have hu31 := Try.underlying31
  have hu56 := Try.underlying56
  have hu51 := Try.underlying51
  have hu54 := Try.underlying54
  have HB := Aside0.mk (below_alloc (below_alloc (Below.refl w.heap.size w) (.cells #[.slice A0_0 l0_0.length c0_0, .slice A0_1 l0_1.length c0_1] 25)) (.cells #[.bool false, .int .i64 0, .int .i64 0] 31))
  have HG := Aside0.mk (blk_alloc (blk_new w (.cells #[.slice A0_0 l0_0.length c0_0, .slice A0_1 l0_1.length c0_1] 25)) (.cells #[.bool false, .int .i64 0, .int .i64 0] 31))
  have HR := Aside0.mk (blk_new (w.alloc (.cells #[.slice A0_0 l0_0.length c0_0, .slice A0_1 l0_1.length c0_1] 25)) (.cells #[.bool false, .int .i64 0, .int .i64 0] 31))
  have hsz : ((w.alloc (.cells #[.slice A0_0 l0_0.length c0_0, .slice A0_1 l0_1.length c0_1] 25)).alloc (.cells #[.bool false, .int .i64 0, .int .i64 0] 31)).heap.size = w.heap.size + 1 + 1 := by rw [h18_size, h18_size]
  rw [h18_size] at HR
  have HC0 := Aside0.mk (Kd.C_below hr0_0 HB.out)
  have HC1 := Aside0.mk (Kd.C_below hr0_1 HB.out)
  have HW := Aside0.mk hsz
  clear hr0_0 hr0_1 hsz
  rw [if_pos hs.out] at h
  simp only [Option.some.injEq, Prod.mk.injEq] at h
  obtain ⟨rfl, rfl, rfl⟩ := h
  have c4b : decide (a4 < 1) = true := decide_eq_true hs.out
  go_enter Try.func12, Try.ntmps12
  go_upto_region 1 with (fail)
  generalize ((w.alloc (.cells #[.slice A0_0 l0_0.length c0_0, .slice A0_1 l0_1.length c0_1] 25)).alloc (.cells #[.bool false, .int .i64 0, .int .i64 0] 31)) = W1 at HB HG HR HC0 HC1 HW ⊢
  obtain ⟨gb, hgb⟩ : ∃ gb, gb = w.heap.size := ⟨_, rfl⟩
  obtain ⟨gr, hgr⟩ : ∃ gr, gr = gb + 1 := ⟨_, rfl⟩
  rw [← hgb] at HW HG HR ⊢
  rw [← hgr] at HR ⊢
  have HGB := Aside0.mk hgb
  have HGR := Aside0.mk hgr
  clear hgb hgr
  have rr0 : W1.cell? ⟨gr, 0, none⟩ = some (.bool false) := (blk_cell HR.out 0).trans rfl
  have z0 : W1.frozen? ⟨gr, 0, none⟩ = false := blk_frozen HR.out 0
  have rr1 : W1.cell? ⟨gr, 1, none⟩ = some (.int .i64 0) := (blk_cell HR.out 1).trans rfl
  have z1 : W1.frozen? ⟨gr, 1, none⟩ = false := blk_frozen HR.out 1
  have rr2 : W1.cell? ⟨gr, 2, none⟩ = some (.int .i64 0) := (blk_cell HR.out 2).trans rfl
  have z2 : W1.frozen? ⟨gr, 2, none⟩ = false := blk_frozen HR.out 2
  go_wp2
  refine bodyPost_ret (results_cell_row rfl _ _ gr 31 #[.bool false, .int .i64 0, .int .i64 0] (0, 0) _ rfl (h18_blk3 HR.out _ _ _) Try.underlying31 rfl (by kernel_rfl)) rfl ⟨rfl, h18_below3 HB.out (by have := HGB.out; have := HGR.out; omega) _ _ _⟩
end Go.Proofs.Ythgedejnpgcacaa.V
namespace Go.Proofs.Ythgedejnpgcacaa.V
open Go.RowKit Go.Proofs.YthgedejnpgcacaaW.PrintWords Go.Proofs.YthgedejnpgcacaaW.PrintLast Go.Proofs.YthgedejnpgcacaaW.PrintMore
set_option linter.unusedVariables false
set_option linter.unusedSimpArgs false
set_option maxHeartbeats 4000000 in
set_option maxRecDepth 100000 in
theorem vetchref18_Node.calls_s0 (k : Nat) (ih : ∀ (A0_0 : Option Addr) (c0_0 : Nat) (l0_0 : List S51) (A0_1 : Option Addr) (c0_1 : Nat) (l0_1 : List S56) (a1 : Int) (a2 : ByteArray) (a3 a4 : Int) (r1 : Bool) (r2 r3 : Int) (w : World)
    (hr0_0 : Kd.C k51 w A0_0 l0_0.length l0_0) (hc0_0 : l0_0.length ≤ c0_0) (hr0_1 : Kd.C k56 w A0_1 l0_1.length l0_1) (hc0_1 : l0_1.length ≤ c0_1) (h : vetchref18_Node.f k l0_0 l0_1 a1 a2 a3 a4 = some (r1, r2, r3)), Calls Try.prog 12 #[.agg #[.slice A0_0 l0_0.length c0_0, .slice A0_1 l0_1.length c0_1], .int .i64 a1, .string a2, .int .i64 a3, .int .i64 a4] w fun e w' => e = .returned (.agg #[.bool r1, .int .i64 r2, .int .i64 r3]) ∧ Below w.heap.size w w')
    (A0_0 : Option Addr) (c0_0 : Nat) (l0_0 : List S51) (A0_1 : Option Addr) (c0_1 : Nat) (l0_1 : List S56) (a1 : Int) (a2 : ByteArray) (a3 a4 : Int) (r1 : Bool) (r2 r3 : Int) (w : World)
    (hr0_0 : Kd.C k51 w A0_0 l0_0.length l0_0) (hc0_0 : l0_0.length ≤ c0_0) (hr0_1 : Kd.C k56 w A0_1 l0_1.length l0_1) (hc0_1 : l0_1.length ≤ c0_1) (hs : Aside0 (¬ a4 < 1 ∧ (0 ≤ a1 ∧ a1 < (l0_1.length : Int)) ∧ (rd_T56 l0_1 a1).f0 = 0)) (h : vetchref18_Node.f (k + 1) l0_0 l0_1 a1 a2 a3 a4 = some (r1, r2, r3)) :
    Calls Try.prog 12 #[.agg #[.slice A0_0 l0_0.length c0_0, .slice A0_1 l0_1.length c0_1], .int .i64 a1, .string a2, .int .i64 a3, .int .i64 a4] w fun e w' => e = .returned (.agg #[.bool r1, .int .i64 r2, .int .i64 r3]) ∧ Below w.heap.size w w' := by
  rw [vetchref18_Node.f] at h
  have IH := Aside0.mk ih
  clear ih
  have hu25 := Try.underlying25
  have hu31 := Try.underlying31
  have hu56 := Try.underlying56
  have hu51 := Try.underlying51
  have hu54 := Try.underlying54
  have HB := Aside0.mk (below_alloc (below_alloc (Below.refl w.heap.size w) (.cells #[.slice A0_0 l0_0.length c0_0, .slice A0_1 l0_1.length c0_1] 25)) (.cells #[.bool false, .int .i64 0, .int .i64 0] 31))
  have HG := Aside0.mk (blk_alloc (blk_new w (.cells #[.slice A0_0 l0_0.length c0_0, .slice A0_1 l0_1.length c0_1] 25)) (.cells #[.bool false, .int .i64 0, .int .i64 0] 31))
  have HR := Aside0.mk (blk_new (w.alloc (.cells #[.slice A0_0 l0_0.length c0_0, .slice A0_1 l0_1.length c0_1] 25)) (.cells #[.bool false, .int .i64 0, .int .i64 0] 31))
  have hsz : ((w.alloc (.cells #[.slice A0_0 l0_0.length c0_0, .slice A0_1 l0_1.length c0_1] 25)).alloc (.cells #[.bool false, .int .i64 0, .int .i64 0] 31)).heap.size = w.heap.size + 1 + 1 := by rw [h18_size, h18_size]
  rw [h18_size] at HR
  have HC0 := Aside0.mk (Kd.C_below hr0_0 HB.out)
  have HC1 := Aside0.mk (Kd.C_below hr0_1 HB.out)
  have HW := Aside0.mk hsz
  clear hr0_0 hr0_1 hsz
  rw [if_neg hs.out.1, if_pos hs.out.2.1] at h
  have c4b : decide (a4 < 1) = false := decide_eq_false hs.out.1
  have H := Aside0.mk h
  clear h
  go_enter Try.func12, Try.ntmps12
  go_upto_region 1 with (fail)
  generalize ((w.alloc (.cells #[.slice A0_0 l0_0.length c0_0, .slice A0_1 l0_1.length c0_1] 25)).alloc (.cells #[.bool false, .int .i64 0, .int .i64 0] 31)) = W1 at HB HG HR HC0 HC1 HW ⊢
  obtain ⟨gb, hgb⟩ : ∃ gb, gb = w.heap.size := ⟨_, rfl⟩
  obtain ⟨gr, hgr⟩ : ∃ gr, gr = gb + 1 := ⟨_, rfl⟩
  rw [← hgb] at HW HG HR ⊢
  rw [← hgr] at HR ⊢
  have HGB := Aside0.mk hgb
  have HGR := Aside0.mk hgr
  clear hgb hgr
  go_upto_region 4 with (fail)
  clear c4b
  have g1 : W1.cell? ⟨gb, 1, none⟩ = some (.slice A0_1 l0_1.length c0_1) := (blk_cell HG.out 1).trans rfl
  have p2 := hs.out.2.1.1
  have p3 := hs.out.2.1.2
  obtain ⟨ad, Ak, ck, e, k0, k1, k2, k3, k4, k5, k6, hlk, hCk⟩ := at_T56 HC1.out a1 p2 p3
  cases e
  have HCk := Aside0.mk hCk
  have HLk := Aside0.mk hlk
  clear hCk hlk
  replace p2 := eq_true p2
  replace p3 := eq_true p3
  go_upto_region 5 with (fail)
  have HS := Aside0.mk hs.out.2.2
  clear hs
  generalize rd_T56 l0_1 a1 = nd at *
  obtain ⟨gx, hgx⟩ : ∃ gx, gx = W1.heap.size := ⟨_, rfl⟩
  have E2 : Aside0 (Env18 W1 gx #[.int .i64 nd.f0, .slice Ak nd.f1.length ck, .int .i64 nd.f2, .int .u64 nd.f3.f0, .int .u64 nd.f3.f1, .int .u64 nd.f3.f2, .int .u64 nd.f3.f3] (W1.alloc (.cells #[.int .i64 nd.f0, .slice Ak nd.f1.length ck, .int .i64 nd.f2, .int .u64 nd.f3.f0, .int .u64 nd.f3.f1, .int .u64 nd.f3.f2, .int .u64 nd.f3.f3] 56))) := ⟨by rw [hgx]; exact blk_new W1 (.cells #[.int .i64 nd.f0, .slice Ak nd.f1.length ck, .int .i64 nd.f2, .int .u64 nd.f3.f0, .int .u64 nd.f3.f1, .int .u64 nd.f3.f2, .int .u64 nd.f3.f3] 56), below_alloc (Below.refl _ _) _⟩
  have HGX := Aside0.mk hgx
  rw [← hgx]
  generalize W1.alloc (.cells #[.int .i64 nd.f0, .slice Ak nd.f1.length ck, .int .i64 nd.f2, .int .u64 nd.f3.f0, .int .u64 nd.f3.f1, .int .u64 nd.f3.f2, .int .u64 nd.f3.f3] 56) = W2 at E2 ⊢
  clear k0 k1 k2 k3 k4 k5 k6 g1 hgx p2 p3
  have h := H.out
  clear H
  have hnd : Aside0 (gb < W1.heap.size ∧ gr < W1.heap.size) := ⟨by have := HW.out; have := HGR.out; omega⟩
  generalize wrap64 (a4 - 1) = u at *
  have x0 : W2.cell? ⟨gx, 0, none⟩ = some (.int .i64 nd.f0) := (blk_cell E2.out.x 0).trans rfl
  go_upto_region 6 with (fail)
  clear x0
  have c0 : nd.f0 = 0 := HS.out
  rw [if_pos c0] at h
  have b0 : (nd.f0 == 0) = true := beq_iff_eq.2 c0
  clear c0
  simp only [Option.some.injEq, Prod.mk.injEq] at h
  obtain ⟨rfl, rfl, rfl⟩ := h
  have rr0 : W2.cell? ⟨gr, 0, none⟩ = some (.bool false) := (blk_cell (blk_below HR.out E2.out.b) 0).trans rfl
  have z0 : W2.frozen? ⟨gr, 0, none⟩ = false := blk_frozen (blk_below HR.out E2.out.b) 0
  have rr1 : W2.cell? ⟨gr, 1, none⟩ = some (.int .i64 0) := (blk_cell (blk_below HR.out E2.out.b) 1).trans rfl
  have z1 : W2.frozen? ⟨gr, 1, none⟩ = false := blk_frozen (blk_below HR.out E2.out.b) 1
  have rr2 : W2.cell? ⟨gr, 2, none⟩ = some (.int .i64 0) := (blk_cell (blk_below HR.out E2.out.b) 2).trans rfl
  have z2 : W2.frozen? ⟨gr, 2, none⟩ = false := blk_frozen (blk_below HR.out E2.out.b) 2
  go_wp2
  refine bodyPost_ret (results_cell_row rfl _ _ gr 31 #[.bool true, .int .i64 a3, .int .i64 u] (0, 0) _ rfl (h18_blk3 (blk_below HR.out E2.out.b) _ _ _) Try.underlying31 rfl (by kernel_rfl)) rfl ⟨rfl, h18_below3 (below_step HB.out E2.out.b) (by have := HGB.out; have := HGR.out; omega) _ _ _⟩
end Go.Proofs.Ythgedejnpgcacaa.V
namespace Go.Proofs.Ythgedejnpgcacaa.V
open Go.RowKit Go.Proofs.YthgedejnpgcacaaW.PrintWords Go.Proofs.YthgedejnpgcacaaW.PrintLast Go.Proofs.YthgedejnpgcacaaW.PrintMore
set_option linter.unusedVariables false
set_option linter.unusedSimpArgs false
set_option maxHeartbeats 4000000 in
set_option maxRecDepth 100000 in
theorem vetchref18_Node.calls_s1 (k : Nat) (ih : ∀ (A0_0 : Option Addr) (c0_0 : Nat) (l0_0 : List S51) (A0_1 : Option Addr) (c0_1 : Nat) (l0_1 : List S56) (a1 : Int) (a2 : ByteArray) (a3 a4 : Int) (r1 : Bool) (r2 r3 : Int) (w : World)
    (hr0_0 : Kd.C k51 w A0_0 l0_0.length l0_0) (hc0_0 : l0_0.length ≤ c0_0) (hr0_1 : Kd.C k56 w A0_1 l0_1.length l0_1) (hc0_1 : l0_1.length ≤ c0_1) (h : vetchref18_Node.f k l0_0 l0_1 a1 a2 a3 a4 = some (r1, r2, r3)), Calls Try.prog 12 #[.agg #[.slice A0_0 l0_0.length c0_0, .slice A0_1 l0_1.length c0_1], .int .i64 a1, .string a2, .int .i64 a3, .int .i64 a4] w fun e w' => e = .returned (.agg #[.bool r1, .int .i64 r2, .int .i64 r3]) ∧ Below w.heap.size w w')
    (A0_0 : Option Addr) (c0_0 : Nat) (l0_0 : List S51) (A0_1 : Option Addr) (c0_1 : Nat) (l0_1 : List S56) (a1 : Int) (a2 : ByteArray) (a3 a4 : Int) (r1 : Bool) (r2 r3 : Int) (w : World)
    (hr0_0 : Kd.C k51 w A0_0 l0_0.length l0_0) (hc0_0 : l0_0.length ≤ c0_0) (hr0_1 : Kd.C k56 w A0_1 l0_1.length l0_1) (hc0_1 : l0_1.length ≤ c0_1) (hs : Aside0 (¬ a4 < 1 ∧ (0 ≤ a1 ∧ a1 < (l0_1.length : Int)) ∧ (rd_T56 l0_1 a1).f0 = 1)) (h : vetchref18_Node.f (k + 1) l0_0 l0_1 a1 a2 a3 a4 = some (r1, r2, r3)) :
    Calls Try.prog 12 #[.agg #[.slice A0_0 l0_0.length c0_0, .slice A0_1 l0_1.length c0_1], .int .i64 a1, .string a2, .int .i64 a3, .int .i64 a4] w fun e w' => e = .returned (.agg #[.bool r1, .int .i64 r2, .int .i64 r3]) ∧ Below w.heap.size w w' := by
  rw [vetchref18_Node.f] at h
  have IH := Aside0.mk ih
  clear ih
  have hu25 := Try.underlying25
  have hu31 := Try.underlying31
  have hu56 := Try.underlying56
  have hu51 := Try.underlying51
  have hu54 := Try.underlying54
  have HB := Aside0.mk (below_alloc (below_alloc (Below.refl w.heap.size w) (.cells #[.slice A0_0 l0_0.length c0_0, .slice A0_1 l0_1.length c0_1] 25)) (.cells #[.bool false, .int .i64 0, .int .i64 0] 31))
  have HG := Aside0.mk (blk_alloc (blk_new w (.cells #[.slice A0_0 l0_0.length c0_0, .slice A0_1 l0_1.length c0_1] 25)) (.cells #[.bool false, .int .i64 0, .int .i64 0] 31))
  have HR := Aside0.mk (blk_new (w.alloc (.cells #[.slice A0_0 l0_0.length c0_0, .slice A0_1 l0_1.length c0_1] 25)) (.cells #[.bool false, .int .i64 0, .int .i64 0] 31))
  have hsz : ((w.alloc (.cells #[.slice A0_0 l0_0.length c0_0, .slice A0_1 l0_1.length c0_1] 25)).alloc (.cells #[.bool false, .int .i64 0, .int .i64 0] 31)).heap.size = w.heap.size + 1 + 1 := by rw [h18_size, h18_size]
  rw [h18_size] at HR
  have HC0 := Aside0.mk (Kd.C_below hr0_0 HB.out)
  have HC1 := Aside0.mk (Kd.C_below hr0_1 HB.out)
  have HW := Aside0.mk hsz
  clear hr0_0 hr0_1 hsz
  rw [if_neg hs.out.1, if_pos hs.out.2.1] at h
  have c4b : decide (a4 < 1) = false := decide_eq_false hs.out.1
  have H := Aside0.mk h
  clear h
  go_enter Try.func12, Try.ntmps12
  go_upto_region 1 with (fail)
  generalize ((w.alloc (.cells #[.slice A0_0 l0_0.length c0_0, .slice A0_1 l0_1.length c0_1] 25)).alloc (.cells #[.bool false, .int .i64 0, .int .i64 0] 31)) = W1 at HB HG HR HC0 HC1 HW ⊢
  obtain ⟨gb, hgb⟩ : ∃ gb, gb = w.heap.size := ⟨_, rfl⟩
  obtain ⟨gr, hgr⟩ : ∃ gr, gr = gb + 1 := ⟨_, rfl⟩
  rw [← hgb] at HW HG HR ⊢
  rw [← hgr] at HR ⊢
  have HGB := Aside0.mk hgb
  have HGR := Aside0.mk hgr
  clear hgb hgr
  go_upto_region 4 with (fail)
  clear c4b
  have g1 : W1.cell? ⟨gb, 1, none⟩ = some (.slice A0_1 l0_1.length c0_1) := (blk_cell HG.out 1).trans rfl
  have p2 := hs.out.2.1.1
  have p3 := hs.out.2.1.2
  obtain ⟨ad, Ak, ck, e, k0, k1, k2, k3, k4, k5, k6, hlk, hCk⟩ := at_T56 HC1.out a1 p2 p3
  cases e
  have HCk := Aside0.mk hCk
  have HLk := Aside0.mk hlk
  clear hCk hlk
  replace p2 := eq_true p2
  replace p3 := eq_true p3
  go_upto_region 5 with (fail)
  have HS := Aside0.mk hs.out.2.2
  clear hs
  generalize rd_T56 l0_1 a1 = nd at *
  obtain ⟨gx, hgx⟩ : ∃ gx, gx = W1.heap.size := ⟨_, rfl⟩
  have E2 : Aside0 (Env18 W1 gx #[.int .i64 nd.f0, .slice Ak nd.f1.length ck, .int .i64 nd.f2, .int .u64 nd.f3.f0, .int .u64 nd.f3.f1, .int .u64 nd.f3.f2, .int .u64 nd.f3.f3] (W1.alloc (.cells #[.int .i64 nd.f0, .slice Ak nd.f1.length ck, .int .i64 nd.f2, .int .u64 nd.f3.f0, .int .u64 nd.f3.f1, .int .u64 nd.f3.f2, .int .u64 nd.f3.f3] 56))) := ⟨by rw [hgx]; exact blk_new W1 (.cells #[.int .i64 nd.f0, .slice Ak nd.f1.length ck, .int .i64 nd.f2, .int .u64 nd.f3.f0, .int .u64 nd.f3.f1, .int .u64 nd.f3.f2, .int .u64 nd.f3.f3] 56), below_alloc (Below.refl _ _) _⟩
  have HGX := Aside0.mk hgx
  rw [← hgx]
  generalize W1.alloc (.cells #[.int .i64 nd.f0, .slice Ak nd.f1.length ck, .int .i64 nd.f2, .int .u64 nd.f3.f0, .int .u64 nd.f3.f1, .int .u64 nd.f3.f2, .int .u64 nd.f3.f3] 56) = W2 at E2 ⊢
  clear k0 k1 k2 k3 k4 k5 k6 g1 hgx p2 p3
  have h := H.out
  clear H
  have hnd : Aside0 (gb < W1.heap.size ∧ gr < W1.heap.size) := ⟨by have := HW.out; have := HGR.out; omega⟩
  generalize wrap64 (a4 - 1) = u at *
  have x0 : W2.cell? ⟨gx, 0, none⟩ = some (.int .i64 nd.f0) := (blk_cell E2.out.x 0).trans rfl
  go_upto_region 6 with (fail)
  clear x0
  have c0 : ¬ nd.f0 = 0 := by have := HS.out; omega
  rw [if_neg c0] at h
  have b0 : (nd.f0 == 0) = false := beq_eq_false_iff_ne.2 c0
  clear c0
  go_upto_region 8 with (fail)
  clear b0
  have c1 : nd.f0 = 1 := HS.out
  rw [if_pos c1] at h
  have b1 : (nd.f0 == 1) = true := beq_iff_eq.2 c1
  clear c1
  by_cases c4 : a3 < (a2.size : Int)
  · rw [if_pos c4] at h
    by_cases c5 : 0 ≤ a3
    · rw [if_pos c5] at h
      obtain ⟨t, ht, h⟩ := Option.bind_eq_some_iff.1 h
      have HT := Aside0.mk ht
      clear ht
      have hbt := bt_at a2 a3
      have c4b : decide (a3 < (a2.size : Int)) = true := decide_eq_true c4
      replace c4 := eq_true c4
      replace c5 := eq_true c5
      have x3 : W2.cell? ⟨gx, 3, none⟩ = some (.int .u64 nd.f3.f0) := (blk_cell E2.out.x 3).trans rfl
      have x4 : W2.cell? ⟨gx, 4, none⟩ = some (.int .u64 nd.f3.f1) := (blk_cell E2.out.x 4).trans rfl
      have x5 : W2.cell? ⟨gx, 5, none⟩ = some (.int .u64 nd.f3.f2) := (blk_cell E2.out.x 5).trans rfl
      have x6 : W2.cell? ⟨gx, 6, none⟩ = some (.int .u64 nd.f3.f3) := (blk_cell E2.out.x 6).trans rfl
      go_upto_region 9 with (fail)
      go_still_tail 10, (by kernel_rfl)
      change wpList _ _ _ _ _ W2.drew
      cases t with
      | true =>
        rw [if_pos rfl] at h
        simp only [Option.some.injEq, Prod.mk.injEq] at h
        obtain ⟨rfl, rfl, rfl⟩ := h
        go_wp2_with (
          go_at_call 21
          refine (vetchref01_Has.calls k nd.f3.f0 nd.f3.f1 nd.f3.f2 nd.f3.f3 (bt a2 a3) true _ HT.out).mono ?_
          rintro e_ W3 ⟨rfl, hb_⟩
          have E3 := Aside0.mk (E2.out.drew.below hb_)
          have rr0 : W3.cell? ⟨gr, 0, none⟩ = some (.bool false) := (blk_cell (blk_below HR.out E3.out.b) 0).trans rfl
          have z0 : W3.frozen? ⟨gr, 0, none⟩ = false := blk_frozen (blk_below HR.out E3.out.b) 0
          have rr1 : W3.cell? ⟨gr, 1, none⟩ = some (.int .i64 0) := (blk_cell (blk_below HR.out E3.out.b) 1).trans rfl
          have z1 : W3.frozen? ⟨gr, 1, none⟩ = false := blk_frozen (blk_below HR.out E3.out.b) 1
          have rr2 : W3.cell? ⟨gr, 2, none⟩ = some (.int .i64 0) := (blk_cell (blk_below HR.out E3.out.b) 2).trans rfl
          have z2 : W3.frozen? ⟨gr, 2, none⟩ = false := blk_frozen (blk_below HR.out E3.out.b) 2)
        refine bodyPost_ret (results_cell_row rfl _ _ gr 31 #[.bool true, .int .i64 (wrap64 (a3 + 1)), .int .i64 u] (0, 0) _ rfl (h18_blk3 (blk_below HR.out E3.out.b) _ _ _) Try.underlying31 rfl (by kernel_rfl)) rfl ⟨rfl, h18_below3 (below_step HB.out E3.out.b) (by have := HGB.out; have := HGR.out; omega) _ _ _⟩
      | false =>
        rw [if_neg (by decide)] at h
        simp only [Option.some.injEq, Prod.mk.injEq] at h
        obtain ⟨rfl, rfl, rfl⟩ := h
        go_wp2_with (
          go_at_call 21
          refine (vetchref01_Has.calls k nd.f3.f0 nd.f3.f1 nd.f3.f2 nd.f3.f3 (bt a2 a3) false _ HT.out).mono ?_
          rintro e_ W3 ⟨rfl, hb_⟩
          have E3 := Aside0.mk (E2.out.drew.below hb_)
          have rr0 : W3.cell? ⟨gr, 0, none⟩ = some (.bool false) := (blk_cell (blk_below HR.out E3.out.b) 0).trans rfl
          have z0 : W3.frozen? ⟨gr, 0, none⟩ = false := blk_frozen (blk_below HR.out E3.out.b) 0
          have rr1 : W3.cell? ⟨gr, 1, none⟩ = some (.int .i64 0) := (blk_cell (blk_below HR.out E3.out.b) 1).trans rfl
          have z1 : W3.frozen? ⟨gr, 1, none⟩ = false := blk_frozen (blk_below HR.out E3.out.b) 1
          have rr2 : W3.cell? ⟨gr, 2, none⟩ = some (.int .i64 0) := (blk_cell (blk_below HR.out E3.out.b) 2).trans rfl
          have z2 : W3.frozen? ⟨gr, 2, none⟩ = false := blk_frozen (blk_below HR.out E3.out.b) 2)
        refine bodyPost_ret (results_cell_row rfl _ _ gr 31 #[.bool true, .int .i64 (-1), .int .i64 u] (0, 0) _ rfl (h18_blk3 (blk_below HR.out E3.out.b) _ _ _) Try.underlying31 rfl (by kernel_rfl)) rfl ⟨rfl, h18_below3 (below_step HB.out E3.out.b) (by have := HGB.out; have := HGR.out; omega) _ _ _⟩
    · rw [if_neg c5] at h
      exact absurd h (by simp)
  · rw [if_neg c4] at h
    simp only [Option.some.injEq, Prod.mk.injEq] at h
    obtain ⟨rfl, rfl, rfl⟩ := h
    have c4b : decide (a3 < (a2.size : Int)) = false := decide_eq_false c4
    clear c4
    have x3 : W2.cell? ⟨gx, 3, none⟩ = some (.int .u64 nd.f3.f0) := (blk_cell E2.out.x 3).trans rfl
    have x4 : W2.cell? ⟨gx, 4, none⟩ = some (.int .u64 nd.f3.f1) := (blk_cell E2.out.x 4).trans rfl
    have x5 : W2.cell? ⟨gx, 5, none⟩ = some (.int .u64 nd.f3.f2) := (blk_cell E2.out.x 5).trans rfl
    have x6 : W2.cell? ⟨gx, 6, none⟩ = some (.int .u64 nd.f3.f3) := (blk_cell E2.out.x 6).trans rfl
    go_upto_region 9 with (fail)
    go_quiet (fail)
    have E3 := Aside0.mk (E2.out.drewN nq)
    have rr0 : W2.cell? ⟨gr, 0, none⟩ = some (.bool false) := (blk_cell (blk_below HR.out E2.out.b) 0).trans rfl
    have z0 : W2.frozen? ⟨gr, 0, none⟩ = false := blk_frozen (blk_below HR.out E2.out.b) 0
    have rr1 : W2.cell? ⟨gr, 1, none⟩ = some (.int .i64 0) := (blk_cell (blk_below HR.out E2.out.b) 1).trans rfl
    have z1 : W2.frozen? ⟨gr, 1, none⟩ = false := blk_frozen (blk_below HR.out E2.out.b) 1
    have rr2 : W2.cell? ⟨gr, 2, none⟩ = some (.int .i64 0) := (blk_cell (blk_below HR.out E2.out.b) 2).trans rfl
    have z2 : W2.frozen? ⟨gr, 2, none⟩ = false := blk_frozen (blk_below HR.out E2.out.b) 2
    go_wp2
    refine bodyPost_ret (results_cell_row rfl _ _ gr 31 #[.bool true, .int .i64 (-1), .int .i64 u] (0, 0) _ rfl (h18_blk3 (blk_below HR.out E3.out.b) _ _ _) Try.underlying31 rfl (by kernel_rfl)) rfl ⟨rfl, h18_below3 (below_step HB.out E3.out.b) (by have := HGB.out; have := HGR.out; omega) _ _ _⟩
end Go.Proofs.Ythgedejnpgcacaa.V
namespace Go.Proofs.Ythgedejnpgcacaa.V
open Go.RowKit Go.Proofs.YthgedejnpgcacaaW.PrintWords Go.Proofs.YthgedejnpgcacaaW.PrintLast Go.Proofs.YthgedejnpgcacaaW.PrintMore
set_option linter.unusedVariables false
set_option linter.unusedSimpArgs false
set_option maxHeartbeats 4000000 in
set_option maxRecDepth 100000 in
theorem vetchref18_Node.calls_s2 (k : Nat) (ih : ∀ (A0_0 : Option Addr) (c0_0 : Nat) (l0_0 : List S51) (A0_1 : Option Addr) (c0_1 : Nat) (l0_1 : List S56) (a1 : Int) (a2 : ByteArray) (a3 a4 : Int) (r1 : Bool) (r2 r3 : Int) (w : World)
    (hr0_0 : Kd.C k51 w A0_0 l0_0.length l0_0) (hc0_0 : l0_0.length ≤ c0_0) (hr0_1 : Kd.C k56 w A0_1 l0_1.length l0_1) (hc0_1 : l0_1.length ≤ c0_1) (h : vetchref18_Node.f k l0_0 l0_1 a1 a2 a3 a4 = some (r1, r2, r3)), Calls Try.prog 12 #[.agg #[.slice A0_0 l0_0.length c0_0, .slice A0_1 l0_1.length c0_1], .int .i64 a1, .string a2, .int .i64 a3, .int .i64 a4] w fun e w' => e = .returned (.agg #[.bool r1, .int .i64 r2, .int .i64 r3]) ∧ Below w.heap.size w w')
    (A0_0 : Option Addr) (c0_0 : Nat) (l0_0 : List S51) (A0_1 : Option Addr) (c0_1 : Nat) (l0_1 : List S56) (a1 : Int) (a2 : ByteArray) (a3 a4 : Int) (r1 : Bool) (r2 r3 : Int) (w : World)
    (hr0_0 : Kd.C k51 w A0_0 l0_0.length l0_0) (hc0_0 : l0_0.length ≤ c0_0) (hr0_1 : Kd.C k56 w A0_1 l0_1.length l0_1) (hc0_1 : l0_1.length ≤ c0_1) (hs : Aside0 (¬ a4 < 1 ∧ (0 ≤ a1 ∧ a1 < (l0_1.length : Int)) ∧ (rd_T56 l0_1 a1).f0 = 2)) (h : vetchref18_Node.f (k + 1) l0_0 l0_1 a1 a2 a3 a4 = some (r1, r2, r3)) :
    Calls Try.prog 12 #[.agg #[.slice A0_0 l0_0.length c0_0, .slice A0_1 l0_1.length c0_1], .int .i64 a1, .string a2, .int .i64 a3, .int .i64 a4] w fun e w' => e = .returned (.agg #[.bool r1, .int .i64 r2, .int .i64 r3]) ∧ Below w.heap.size w w' := by
  rw [vetchref18_Node.f] at h
  have IH := Aside0.mk ih
  clear ih
  have hu25 := Try.underlying25
  have hu31 := Try.underlying31
  have hu56 := Try.underlying56
  have hu51 := Try.underlying51
  have hu54 := Try.underlying54
  have HB := Aside0.mk (below_alloc (below_alloc (Below.refl w.heap.size w) (.cells #[.slice A0_0 l0_0.length c0_0, .slice A0_1 l0_1.length c0_1] 25)) (.cells #[.bool false, .int .i64 0, .int .i64 0] 31))
  have HG := Aside0.mk (blk_alloc (blk_new w (.cells #[.slice A0_0 l0_0.length c0_0, .slice A0_1 l0_1.length c0_1] 25)) (.cells #[.bool false, .int .i64 0, .int .i64 0] 31))
  have HR := Aside0.mk (blk_new (w.alloc (.cells #[.slice A0_0 l0_0.length c0_0, .slice A0_1 l0_1.length c0_1] 25)) (.cells #[.bool false, .int .i64 0, .int .i64 0] 31))
  have hsz : ((w.alloc (.cells #[.slice A0_0 l0_0.length c0_0, .slice A0_1 l0_1.length c0_1] 25)).alloc (.cells #[.bool false, .int .i64 0, .int .i64 0] 31)).heap.size = w.heap.size + 1 + 1 := by rw [h18_size, h18_size]
  rw [h18_size] at HR
  have HC0 := Aside0.mk (Kd.C_below hr0_0 HB.out)
  have HC1 := Aside0.mk (Kd.C_below hr0_1 HB.out)
  have HW := Aside0.mk hsz
  clear hr0_0 hr0_1 hsz
  rw [if_neg hs.out.1, if_pos hs.out.2.1] at h
  have c4b : decide (a4 < 1) = false := decide_eq_false hs.out.1
  have H := Aside0.mk h
  clear h
  go_enter Try.func12, Try.ntmps12
  go_upto_region 1 with (fail)
  generalize ((w.alloc (.cells #[.slice A0_0 l0_0.length c0_0, .slice A0_1 l0_1.length c0_1] 25)).alloc (.cells #[.bool false, .int .i64 0, .int .i64 0] 31)) = W1 at HB HG HR HC0 HC1 HW ⊢
  obtain ⟨gb, hgb⟩ : ∃ gb, gb = w.heap.size := ⟨_, rfl⟩
  obtain ⟨gr, hgr⟩ : ∃ gr, gr = gb + 1 := ⟨_, rfl⟩
  rw [← hgb] at HW HG HR ⊢
  rw [← hgr] at HR ⊢
  have HGB := Aside0.mk hgb
  have HGR := Aside0.mk hgr
  clear hgb hgr
  go_upto_region 4 with (fail)
  clear c4b
  have g1 : W1.cell? ⟨gb, 1, none⟩ = some (.slice A0_1 l0_1.length c0_1) := (blk_cell HG.out 1).trans rfl
  have p2 := hs.out.2.1.1
  have p3 := hs.out.2.1.2
  obtain ⟨ad, Ak, ck, e, k0, k1, k2, k3, k4, k5, k6, hlk, hCk⟩ := at_T56 HC1.out a1 p2 p3
  cases e
  have HCk := Aside0.mk hCk
  have HLk := Aside0.mk hlk
  clear hCk hlk
  replace p2 := eq_true p2
  replace p3 := eq_true p3
  go_upto_region 5 with (fail)
  have HS := Aside0.mk hs.out.2.2
  clear hs
  generalize rd_T56 l0_1 a1 = nd at *
  obtain ⟨gx, hgx⟩ : ∃ gx, gx = W1.heap.size := ⟨_, rfl⟩
  have E2 : Aside0 (Env18 W1 gx #[.int .i64 nd.f0, .slice Ak nd.f1.length ck, .int .i64 nd.f2, .int .u64 nd.f3.f0, .int .u64 nd.f3.f1, .int .u64 nd.f3.f2, .int .u64 nd.f3.f3] (W1.alloc (.cells #[.int .i64 nd.f0, .slice Ak nd.f1.length ck, .int .i64 nd.f2, .int .u64 nd.f3.f0, .int .u64 nd.f3.f1, .int .u64 nd.f3.f2, .int .u64 nd.f3.f3] 56))) := ⟨by rw [hgx]; exact blk_new W1 (.cells #[.int .i64 nd.f0, .slice Ak nd.f1.length ck, .int .i64 nd.f2, .int .u64 nd.f3.f0, .int .u64 nd.f3.f1, .int .u64 nd.f3.f2, .int .u64 nd.f3.f3] 56), below_alloc (Below.refl _ _) _⟩
  have HGX := Aside0.mk hgx
  rw [← hgx]
  generalize W1.alloc (.cells #[.int .i64 nd.f0, .slice Ak nd.f1.length ck, .int .i64 nd.f2, .int .u64 nd.f3.f0, .int .u64 nd.f3.f1, .int .u64 nd.f3.f2, .int .u64 nd.f3.f3] 56) = W2 at E2 ⊢
  clear k0 k1 k2 k3 k4 k5 k6 g1 hgx p2 p3
  have h := H.out
  clear H
  have hnd : Aside0 (gb < W1.heap.size ∧ gr < W1.heap.size) := ⟨by have := HW.out; have := HGR.out; omega⟩
  generalize wrap64 (a4 - 1) = u at *
  have x0 : W2.cell? ⟨gx, 0, none⟩ = some (.int .i64 nd.f0) := (blk_cell E2.out.x 0).trans rfl
  go_upto_region 6 with (fail)
  clear x0
  have c0 : ¬ nd.f0 = 0 := by have := HS.out; omega
  rw [if_neg c0] at h
  have b0 : (nd.f0 == 0) = false := beq_eq_false_iff_ne.2 c0
  clear c0
  go_upto_region 8 with (fail)
  clear b0
  have c1 : ¬ nd.f0 = 1 := by have := HS.out; omega
  rw [if_neg c1] at h
  have b1 : (nd.f0 == 1) = false := beq_eq_false_iff_ne.2 c1
  clear c1
  go_upto_region 12 with (fail)
  clear b1
  have c2 : nd.f0 = 2 := HS.out
  rw [if_pos c2] at h
  have b2 : (nd.f0 == 2) = true := beq_iff_eq.2 c2
  clear c2
  by_cases c4 : 0 ≤ nd.f2 ∧ nd.f2 < (l0_0.length : Int)
  · rw [if_pos c4] at h
    have HT := Aside0.mk h
    clear h
    have g0 : W2.cell? ⟨gb, 0, none⟩ = some (.slice A0_0 l0_0.length c0_0) := (blk_cell (blk_below HG.out E2.out.b) 0).trans rfl
    have g1 : W2.cell? ⟨gb, 1, none⟩ = some (.slice (some ad) l0_1.length c0_1) := (blk_cell (blk_below HG.out E2.out.b) 1).trans rfl
    have x2 : W2.cell? ⟨gx, 2, none⟩ = some (.int .i64 nd.f2) := (blk_cell E2.out.x 2).trans rfl
    obtain ⟨ad2, e2, y0, y1⟩ := at_T51 (Kd.C_below HC0.out E2.out.b) nd.f2 c4.1 c4.2
    cases e2
    have q0 := eq_true c4.1
    have q1 := eq_true c4.2
    clear c4
    go_upto_region 13 with (fail)
    go_still_tail 11, (by kernel_rfl)
    change wpList _ _ _ _ _ W2.drew
    go_wp2_with (
      go_at_call 12
      refine (IH.out _ _ l0_0 _ _ l0_1 ((rd_T51 l0_0 nd.f2).f1) a2 (a3) (u) r1 r2 r3 _ (Kd.C_below HC0.out E2.out.drew.b) hc0_0 (Kd.C_below HC1.out E2.out.drew.b) hc0_1 HT.out).mono ?_
      rintro e_ W3 ⟨rfl, hb_⟩
      have E3 := Aside0.mk (E2.out.drew.below hb_)
      have rr0 : W3.cell? ⟨gr, 0, none⟩ = some (.bool false) := (blk_cell (blk_below HR.out E3.out.b) 0).trans rfl
      have z0 : W3.frozen? ⟨gr, 0, none⟩ = false := blk_frozen (blk_below HR.out E3.out.b) 0
      have rr1 : W3.cell? ⟨gr, 1, none⟩ = some (.int .i64 0) := (blk_cell (blk_below HR.out E3.out.b) 1).trans rfl
      have z1 : W3.frozen? ⟨gr, 1, none⟩ = false := blk_frozen (blk_below HR.out E3.out.b) 1
      have rr2 : W3.cell? ⟨gr, 2, none⟩ = some (.int .i64 0) := (blk_cell (blk_below HR.out E3.out.b) 2).trans rfl
      have z2 : W3.frozen? ⟨gr, 2, none⟩ = false := blk_frozen (blk_below HR.out E3.out.b) 2)
    refine bodyPost_ret (results_cell_row rfl _ _ gr 31 #[.bool r1, .int .i64 r2, .int .i64 r3] (0, 0) _ rfl (h18_blk3 (blk_below HR.out E3.out.b) _ _ _) Try.underlying31 rfl (by kernel_rfl)) rfl ⟨rfl, h18_below3 (below_step HB.out E3.out.b) (by have := HGB.out; have := HGR.out; omega) _ _ _⟩
  · rw [if_neg c4] at h
    exact absurd h (by simp)
end Go.Proofs.Ythgedejnpgcacaa.V
namespace Go.Proofs.Ythgedejnpgcacaa.V
open Go.RowKit Go.Proofs.YthgedejnpgcacaaW.PrintWords Go.Proofs.YthgedejnpgcacaaW.PrintLast Go.Proofs.YthgedejnpgcacaaW.PrintMore
set_option linter.unusedVariables false
set_option linter.unusedSimpArgs false
set_option maxHeartbeats 4000000 in
set_option maxRecDepth 100000 in
theorem vetchref18_Node.calls_s3 (k : Nat) (ih : ∀ (A0_0 : Option Addr) (c0_0 : Nat) (l0_0 : List S51) (A0_1 : Option Addr) (c0_1 : Nat) (l0_1 : List S56) (a1 : Int) (a2 : ByteArray) (a3 a4 : Int) (r1 : Bool) (r2 r3 : Int) (w : World)
    (hr0_0 : Kd.C k51 w A0_0 l0_0.length l0_0) (hc0_0 : l0_0.length ≤ c0_0) (hr0_1 : Kd.C k56 w A0_1 l0_1.length l0_1) (hc0_1 : l0_1.length ≤ c0_1) (h : vetchref18_Node.f k l0_0 l0_1 a1 a2 a3 a4 = some (r1, r2, r3)), Calls Try.prog 12 #[.agg #[.slice A0_0 l0_0.length c0_0, .slice A0_1 l0_1.length c0_1], .int .i64 a1, .string a2, .int .i64 a3, .int .i64 a4] w fun e w' => e = .returned (.agg #[.bool r1, .int .i64 r2, .int .i64 r3]) ∧ Below w.heap.size w w')
    (A0_0 : Option Addr) (c0_0 : Nat) (l0_0 : List S51) (A0_1 : Option Addr) (c0_1 : Nat) (l0_1 : List S56) (a1 : Int) (a2 : ByteArray) (a3 a4 : Int) (r1 : Bool) (r2 r3 : Int) (w : World)
    (hr0_0 : Kd.C k51 w A0_0 l0_0.length l0_0) (hc0_0 : l0_0.length ≤ c0_0) (hr0_1 : Kd.C k56 w A0_1 l0_1.length l0_1) (hc0_1 : l0_1.length ≤ c0_1) (hs : Aside0 (¬ a4 < 1 ∧ (0 ≤ a1 ∧ a1 < (l0_1.length : Int)) ∧ (rd_T56 l0_1 a1).f0 = 3)) (h : vetchref18_Node.f (k + 1) l0_0 l0_1 a1 a2 a3 a4 = some (r1, r2, r3)) :
    Calls Try.prog 12 #[.agg #[.slice A0_0 l0_0.length c0_0, .slice A0_1 l0_1.length c0_1], .int .i64 a1, .string a2, .int .i64 a3, .int .i64 a4] w fun e w' => e = .returned (.agg #[.bool r1, .int .i64 r2, .int .i64 r3]) ∧ Below w.heap.size w w' := by
  rw [vetchref18_Node.f] at h
  have IH := Aside0.mk ih
  clear ih
  have hu25 := Try.underlying25
  have hu31 := Try.underlying31
  have hu56 := Try.underlying56
  have hu51 := Try.underlying51
  have hu54 := Try.underlying54
  have HB := Aside0.mk (below_alloc (below_alloc (Below.refl w.heap.size w) (.cells #[.slice A0_0 l0_0.length c0_0, .slice A0_1 l0_1.length c0_1] 25)) (.cells #[.bool false, .int .i64 0, .int .i64 0] 31))
  have HG := Aside0.mk (blk_alloc (blk_new w (.cells #[.slice A0_0 l0_0.length c0_0, .slice A0_1 l0_1.length c0_1] 25)) (.cells #[.bool false, .int .i64 0, .int .i64 0] 31))
  have HR := Aside0.mk (blk_new (w.alloc (.cells #[.slice A0_0 l0_0.length c0_0, .slice A0_1 l0_1.length c0_1] 25)) (.cells #[.bool false, .int .i64 0, .int .i64 0] 31))
  have hsz : ((w.alloc (.cells #[.slice A0_0 l0_0.length c0_0, .slice A0_1 l0_1.length c0_1] 25)).alloc (.cells #[.bool false, .int .i64 0, .int .i64 0] 31)).heap.size = w.heap.size + 1 + 1 := by rw [h18_size, h18_size]
  rw [h18_size] at HR
  have HC0 := Aside0.mk (Kd.C_below hr0_0 HB.out)
  have HC1 := Aside0.mk (Kd.C_below hr0_1 HB.out)
  have HW := Aside0.mk hsz
  clear hr0_0 hr0_1 hsz
  rw [if_neg hs.out.1, if_pos hs.out.2.1] at h
  have c4b : decide (a4 < 1) = false := decide_eq_false hs.out.1
  have H := Aside0.mk h
  clear h
  go_enter Try.func12, Try.ntmps12
  go_upto_region 1 with (fail)
  generalize ((w.alloc (.cells #[.slice A0_0 l0_0.length c0_0, .slice A0_1 l0_1.length c0_1] 25)).alloc (.cells #[.bool false, .int .i64 0, .int .i64 0] 31)) = W1 at HB HG HR HC0 HC1 HW ⊢
  obtain ⟨gb, hgb⟩ : ∃ gb, gb = w.heap.size := ⟨_, rfl⟩
  obtain ⟨gr, hgr⟩ : ∃ gr, gr = gb + 1 := ⟨_, rfl⟩
  rw [← hgb] at HW HG HR ⊢
  rw [← hgr] at HR ⊢
  have HGB := Aside0.mk hgb
  have HGR := Aside0.mk hgr
  clear hgb hgr
  go_upto_region 4 with (fail)
  clear c4b
  have g1 : W1.cell? ⟨gb, 1, none⟩ = some (.slice A0_1 l0_1.length c0_1) := (blk_cell HG.out 1).trans rfl
  have p2 := hs.out.2.1.1
  have p3 := hs.out.2.1.2
  obtain ⟨ad, Ak, ck, e, k0, k1, k2, k3, k4, k5, k6, hlk, hCk⟩ := at_T56 HC1.out a1 p2 p3
  cases e
  have HCk := Aside0.mk hCk
  have HLk := Aside0.mk hlk
  clear hCk hlk
  replace p2 := eq_true p2
  replace p3 := eq_true p3
  go_upto_region 5 with (fail)
  have HS := Aside0.mk hs.out.2.2
  clear hs
  generalize rd_T56 l0_1 a1 = nd at *
  obtain ⟨gx, hgx⟩ : ∃ gx, gx = W1.heap.size := ⟨_, rfl⟩
  have E2 : Aside0 (Env18 W1 gx #[.int .i64 nd.f0, .slice Ak nd.f1.length ck, .int .i64 nd.f2, .int .u64 nd.f3.f0, .int .u64 nd.f3.f1, .int .u64 nd.f3.f2, .int .u64 nd.f3.f3] (W1.alloc (.cells #[.int .i64 nd.f0, .slice Ak nd.f1.length ck, .int .i64 nd.f2, .int .u64 nd.f3.f0, .int .u64 nd.f3.f1, .int .u64 nd.f3.f2, .int .u64 nd.f3.f3] 56))) := ⟨by rw [hgx]; exact blk_new W1 (.cells #[.int .i64 nd.f0, .slice Ak nd.f1.length ck, .int .i64 nd.f2, .int .u64 nd.f3.f0, .int .u64 nd.f3.f1, .int .u64 nd.f3.f2, .int .u64 nd.f3.f3] 56), below_alloc (Below.refl _ _) _⟩
  have HGX := Aside0.mk hgx
  rw [← hgx]
  generalize W1.alloc (.cells #[.int .i64 nd.f0, .slice Ak nd.f1.length ck, .int .i64 nd.f2, .int .u64 nd.f3.f0, .int .u64 nd.f3.f1, .int .u64 nd.f3.f2, .int .u64 nd.f3.f3] 56) = W2 at E2 ⊢
  clear k0 k1 k2 k3 k4 k5 k6 g1 hgx p2 p3
  have h := H.out
  clear H
  have hnd : Aside0 (gb < W1.heap.size ∧ gr < W1.heap.size) := ⟨by have := HW.out; have := HGR.out; omega⟩
  generalize wrap64 (a4 - 1) = u at *
  have x0 : W2.cell? ⟨gx, 0, none⟩ = some (.int .i64 nd.f0) := (blk_cell E2.out.x 0).trans rfl
  go_upto_region 6 with (fail)
  clear x0
  have c0 : ¬ nd.f0 = 0 := by have := HS.out; omega
  rw [if_neg c0] at h
  have b0 : (nd.f0 == 0) = false := beq_eq_false_iff_ne.2 c0
  clear c0
  go_upto_region 8 with (fail)
  clear b0
  have c1 : ¬ nd.f0 = 1 := by have := HS.out; omega
  rw [if_neg c1] at h
  have b1 : (nd.f0 == 1) = false := beq_eq_false_iff_ne.2 c1
  clear c1
  go_upto_region 12 with (fail)
  clear b1
  have c2 : ¬ nd.f0 = 2 := by have := HS.out; omega
  rw [if_neg c2] at h
  have b2 : (nd.f0 == 2) = false := beq_eq_false_iff_ne.2 c2
  clear c2
  go_upto_region 14 with (fail)
  clear b2
  have c3 : nd.f0 = 3 := HS.out
  rw [if_pos c3] at h
  have b3 : (nd.f0 == 3) = true := beq_iff_eq.2 c3
  clear c3
  have HMX := Aside0.mk HCk.out.2.1
  go_upto_block 1 with fail
  obtain ⟨gv, hgv⟩ : ∃ gv, gv = W2.heap.size := ⟨_, rfl⟩
  have EV := Aside0.mk (E2.out.below (below_alloc (Below.refl _ _) (.cells #[.bool true, .int .i64 a3, .int .i64 u] 31)))
  have BV := Aside0.mk (blk_new W2 (.cells #[.bool true, .int .i64 a3, .int .i64 u] 31))
  rw [← hgv] at BV ⊢
  have HV : Aside0 (gx ≠ gv ∧ W1.heap.size ≤ gv ∧ gr ≠ gv) := ⟨by have := blk_lt E2.out.x; have := E2.out.b.size; have := hnd.out; omega⟩
  generalize W2.alloc (.cells #[.bool true, .int .i64 a3, .int .i64 u] 31) = V0 at EV BV ⊢
  clear hgv
  go_wp2
  go_loopg [13] nd.f1.length (fun kq v13 w' => ∃ (e q : Int) (j : Int), v13 = .int .i64 j ∧ Aside0 (0 ≤ j ∧ j ≤ (nd.f1.length : Int) ∧ kq + j.toNat = nd.f1.length) ∧ Aside0 (vetchref18_Node.seqF (fun c a u => vetchref18_Node.f k l0_0 l0_1 c a2 a u) (nd.f1.drop j.toNat) e q = some (r1, r2, r3)) ∧ Aside0 (Env18 W1 gx #[.int .i64 nd.f0, .slice Ak nd.f1.length ck, .int .i64 nd.f2, .int .u64 nd.f3.f0, .int .u64 nd.f3.f1, .int .u64 nd.f3.f2, .int .u64 nd.f3.f3] w') ∧ Aside0 (w'.heap[gv]? = some (.cells #[.bool true, .int .i64 e, .int .i64 q] 31 (0, 0))))
  case atStart => exact ⟨a3, u, 0, rfl, ⟨by omega⟩, ⟨h⟩, EV, BV⟩
  case round =>
   clear h EV BV E2
   obtain ⟨e, q, j, rfl, HJ, HA, E, BV⟩ := hrel
   have h := HA.out
   clear HA
   by_cases cj : j < (nd.f1.length : Int)
   ·
    have jp : 0 ≤ j := by have := HJ.out; omega
    rw [h18_drop nd.f1 j jp cj] at h
    rw [vetchref18_Node.seqF] at h
    obtain ⟨⟨t1, t2, t3⟩, ht, h⟩ := Option.bind_eq_some_iff.1 h
    dsimp only at ht h
    have HT := Aside0.mk ht
    have HA := Aside0.mk h
    have HJP := Aside0.mk jp
    have HCJ := Aside0.mk cj
    clear ht h
    have cjb : decide (j < (nd.f1.length : Int)) = true := decide_eq_true cj
    obtain ⟨ad1, he1, kc⟩ := Kd.at_int (Kd.C_below HCk.out E.out.b) j jp cj
    have x1 : wr.cell? ⟨gx, 1, none⟩ = some (.slice (some ad1) nd.f1.length ck) := by rw [← he1]; exact (blk_cell E.out.x 1).trans rfl
    clear he1
    have v0 : wr.cell? ⟨gv, 0, none⟩ = some (.bool true) := (blk_cell BV.out 0).trans rfl
    have v1 : wr.cell? ⟨gv, 1, none⟩ = some (.int .i64 e) := (blk_cell BV.out 1).trans rfl
    have v2 : wr.cell? ⟨gv, 2, none⟩ = some (.int .i64 q) := (blk_cell BV.out 2).trans rfl
    have g0 : wr.cell? ⟨gb, 0, none⟩ = some (.slice A0_0 l0_0.length c0_0) := (blk_cell (blk_below HG.out E.out.b) 0).trans rfl
    have g1 : wr.cell? ⟨gb, 1, none⟩ = some (.slice (some ad) l0_1.length c0_1) := (blk_cell (blk_below HG.out E.out.b) 1).trans rfl
    replace jp := eq_true jp
    replace cj := eq_true cj
    go_upto_region 19 with (fail)
    go_still_tail 11, (by kernel_rfl)
    change wpList _ _ _ _ _ wr.drew
    go_upto_region 20 with (
      go_at_call 12
      refine (IH.out _ _ l0_0 _ _ l0_1 (rd nd.f1 j) a2 (e) (q) t1 t2 t3 _ (Kd.C_below HC0.out E.out.drew.b) hc0_0 (Kd.C_below HC1.out E.out.drew.b) hc0_1 HT.out).mono ?_
      rintro e_ W3 ⟨rfl, hb_⟩
      have E3 := Aside0.mk (E.out.drew.below hb_)
      have BV3 := Aside0.mk (blk_below (blk_drew BV.out) hb_)
      clear hb_ kc x1 v0 v1 v2 g0 g1 cjb jp cj
      have v0 : W3.cell? ⟨gv, 0, none⟩ = some (.bool true) := (blk_cell BV3.out 0).trans rfl
      have y0 : W3.frozen? ⟨gv, 0, none⟩ = false := blk_frozen BV3.out 0
      have v1 : W3.cell? ⟨gv, 1, none⟩ = some (.int .i64 e) := (blk_cell BV3.out 1).trans rfl
      have y1 : W3.frozen? ⟨gv, 1, none⟩ = false := blk_frozen BV3.out 1
      have v2 : W3.cell? ⟨gv, 2, none⟩ = some (.int .i64 q) := (blk_cell BV3.out 2).trans rfl
      have y2 : W3.frozen? ⟨gv, 2, none⟩ = false := blk_frozen BV3.out 2)
    have E4 := Aside0.mk (E3.out.put3 HV.out.2.1 HV.out.1 (.bool t1) (.int .i64 t2) (.int .i64 t3))
    have BV4 := Aside0.mk (h18_blk3 BV3.out (.bool t1) (.int .i64 t2) (.int .i64 t3))
    generalize (((W3.setCell ⟨gv, 0, none⟩ (.bool t1)).setCell ⟨gv, 1, none⟩ (.int .i64 t2)).setCell ⟨gv, 2, none⟩ (.int .i64 t3)) = V3 at E4 BV4 ⊢
    clear v0 v1 v2 y0 y1 y2 E BV E3 BV3
    have h := HA.out
    clear HA
    cases t1 with
    | false =>
      rw [if_neg (by simp)] at h
      simp only [Option.some.injEq, Prod.mk.injEq] at h
      obtain ⟨rfl, rfl, rfl⟩ := h
      have v0 : V3.cell? ⟨gv, 0, none⟩ = some (.bool false) := (blk_cell BV4.out 0).trans rfl
      have v1 : V3.cell? ⟨gv, 1, none⟩ = some (.int .i64 t2) := (blk_cell BV4.out 1).trans rfl
      have v2 : V3.cell? ⟨gv, 2, none⟩ = some (.int .i64 t3) := (blk_cell BV4.out 2).trans rfl
      have rr0 : V3.cell? ⟨gr, 0, none⟩ = some (.bool false) := (blk_cell (blk_below HR.out E4.out.b) 0).trans rfl
      have z0 : V3.frozen? ⟨gr, 0, none⟩ = false := blk_frozen (blk_below HR.out E4.out.b) 0
      have rr1 : V3.cell? ⟨gr, 1, none⟩ = some (.int .i64 0) := (blk_cell (blk_below HR.out E4.out.b) 1).trans rfl
      have z1 : V3.frozen? ⟨gr, 1, none⟩ = false := blk_frozen (blk_below HR.out E4.out.b) 1
      have rr2 : V3.cell? ⟨gr, 2, none⟩ = some (.int .i64 0) := (blk_cell (blk_below HR.out E4.out.b) 2).trans rfl
      have z2 : V3.frozen? ⟨gr, 2, none⟩ = false := blk_frozen (blk_below HR.out E4.out.b) 2
      go_wp2
      refine bodyPost_ret (results_cell_row rfl _ _ gr 31 #[.bool false, .int .i64 t2, .int .i64 t3] (0, 0) _ rfl (h18_blk3 (blk_below HR.out E4.out.b) _ _ _) Try.underlying31 rfl (by kernel_rfl)) rfl ⟨rfl, h18_below3 (below_step HB.out E4.out.b) (by have := HGB.out; have := HGR.out; omega) _ _ _⟩
    | true =>
      by_cases ct : 0 ≤ t2
      · rw [if_pos ⟨rfl, ct⟩] at h
        have ctb : decide (t2 < 0) = false := decide_eq_false (by omega)
        clear ct
        have v0 : V3.cell? ⟨gv, 0, none⟩ = some (.bool true) := (blk_cell BV4.out 0).trans rfl
        have v1 : V3.cell? ⟨gv, 1, none⟩ = some (.int .i64 t2) := (blk_cell BV4.out 1).trans rfl
        have v2 : V3.cell? ⟨gv, 2, none⟩ = some (.int .i64 t3) := (blk_cell BV4.out 2).trans rfl
        have hw := h18_next j nd.f1.length HJP.out HCJ.out HMX.out
        have HWj := Aside0.mk hw
        clear hw
        go_wp2
        go_roundg (gk - 1)
        case measure => have := HJ.out; have := HCJ.out; omega
        case rel => exact ⟨t2, t3, wrap64 (j + 1), rfl, ⟨by rw [HWj.out]; have := HJ.out; have := HCJ.out; omega⟩, ⟨by rw [HWj.out]; exact h⟩, E4, BV4⟩
      · rw [if_neg (fun x => ct x.2)] at h
        simp only [Option.some.injEq, Prod.mk.injEq] at h
        obtain ⟨rfl, rfl, rfl⟩ := h
        have ctb : decide (t2 < 0) = true := decide_eq_true (by omega)
        clear ct
        have v0 : V3.cell? ⟨gv, 0, none⟩ = some (.bool true) := (blk_cell BV4.out 0).trans rfl
        have v1 : V3.cell? ⟨gv, 1, none⟩ = some (.int .i64 t2) := (blk_cell BV4.out 1).trans rfl
        have v2 : V3.cell? ⟨gv, 2, none⟩ = some (.int .i64 t3) := (blk_cell BV4.out 2).trans rfl
        have rr0 : V3.cell? ⟨gr, 0, none⟩ = some (.bool false) := (blk_cell (blk_below HR.out E4.out.b) 0).trans rfl
        have z0 : V3.frozen? ⟨gr, 0, none⟩ = false := blk_frozen (blk_below HR.out E4.out.b) 0
        have rr1 : V3.cell? ⟨gr, 1, none⟩ = some (.int .i64 0) := (blk_cell (blk_below HR.out E4.out.b) 1).trans rfl
        have z1 : V3.frozen? ⟨gr, 1, none⟩ = false := blk_frozen (blk_below HR.out E4.out.b) 1
        have rr2 : V3.cell? ⟨gr, 2, none⟩ = some (.int .i64 0) := (blk_cell (blk_below HR.out E4.out.b) 2).trans rfl
        have z2 : V3.frozen? ⟨gr, 2, none⟩ = false := blk_frozen (blk_below HR.out E4.out.b) 2
        go_wp2
        refine bodyPost_ret (results_cell_row rfl _ _ gr 31 #[.bool true, .int .i64 t2, .int .i64 t3] (0, 0) _ rfl (h18_blk3 (blk_below HR.out E4.out.b) _ _ _) Try.underlying31 rfl (by kernel_rfl)) rfl ⟨rfl, h18_below3 (below_step HB.out E4.out.b) (by have := HGB.out; have := HGR.out; omega) _ _ _⟩
   ·
    have cjb : decide (j < (nd.f1.length : Int)) = false := decide_eq_false cj
    rw [h18_end nd.f1 j cj] at h
    rw [vetchref18_Node.seqF] at h
    clear cj
    simp only [Option.some.injEq, Prod.mk.injEq] at h
    obtain ⟨rfl, rfl, rfl⟩ := h
    have x1 := (blk_cell E.out.x 1).trans rfl
    have v0 : wr.cell? ⟨gv, 0, none⟩ = some (.bool true) := (blk_cell BV.out 0).trans rfl
    have v1 : wr.cell? ⟨gv, 1, none⟩ = some (.int .i64 e) := (blk_cell BV.out 1).trans rfl
    have v2 : wr.cell? ⟨gv, 2, none⟩ = some (.int .i64 q) := (blk_cell BV.out 2).trans rfl
    have rr0 : wr.cell? ⟨gr, 0, none⟩ = some (.bool false) := (blk_cell (blk_below HR.out E.out.b) 0).trans rfl
    have z0 : wr.frozen? ⟨gr, 0, none⟩ = false := blk_frozen (blk_below HR.out E.out.b) 0
    have rr1 : wr.cell? ⟨gr, 1, none⟩ = some (.int .i64 0) := (blk_cell (blk_below HR.out E.out.b) 1).trans rfl
    have z1 : wr.frozen? ⟨gr, 1, none⟩ = false := blk_frozen (blk_below HR.out E.out.b) 1
    have rr2 : wr.cell? ⟨gr, 2, none⟩ = some (.int .i64 0) := (blk_cell (blk_below HR.out E.out.b) 2).trans rfl
    have z2 : wr.frozen? ⟨gr, 2, none⟩ = false := blk_frozen (blk_below HR.out E.out.b) 2
    go_wp2
    refine bodyPost_ret (results_cell_row rfl _ _ gr 31 #[.bool true, .int .i64 e, .int .i64 q] (0, 0) _ rfl (h18_blk3 (blk_below HR.out E.out.b) _ _ _) Try.underlying31 rfl (by kernel_rfl)) rfl ⟨rfl, h18_below3 (below_step HB.out E.out.b) (by have := HGB.out; have := HGR.out; omega) _ _ _⟩
end Go.Proofs.Ythgedejnpgcacaa.V
namespace Go.Proofs.Ythgedejnpgcacaa.V
open Go.RowKit Go.Proofs.YthgedejnpgcacaaW.PrintWords Go.Proofs.YthgedejnpgcacaaW.PrintLast Go.Proofs.YthgedejnpgcacaaW.PrintMore
set_option linter.unusedVariables false
set_option linter.unusedSimpArgs false
set_option maxHeartbeats 4000000 in
set_option maxRecDepth 100000 in
theorem vetchref18_Node.calls_s4 (k : Nat) (ih : ∀ (A0_0 : Option Addr) (c0_0 : Nat) (l0_0 : List S51) (A0_1 : Option Addr) (c0_1 : Nat) (l0_1 : List S56) (a1 : Int) (a2 : ByteArray) (a3 a4 : Int) (r1 : Bool) (r2 r3 : Int) (w : World)
    (hr0_0 : Kd.C k51 w A0_0 l0_0.length l0_0) (hc0_0 : l0_0.length ≤ c0_0) (hr0_1 : Kd.C k56 w A0_1 l0_1.length l0_1) (hc0_1 : l0_1.length ≤ c0_1) (h : vetchref18_Node.f k l0_0 l0_1 a1 a2 a3 a4 = some (r1, r2, r3)), Calls Try.prog 12 #[.agg #[.slice A0_0 l0_0.length c0_0, .slice A0_1 l0_1.length c0_1], .int .i64 a1, .string a2, .int .i64 a3, .int .i64 a4] w fun e w' => e = .returned (.agg #[.bool r1, .int .i64 r2, .int .i64 r3]) ∧ Below w.heap.size w w')
    (A0_0 : Option Addr) (c0_0 : Nat) (l0_0 : List S51) (A0_1 : Option Addr) (c0_1 : Nat) (l0_1 : List S56) (a1 : Int) (a2 : ByteArray) (a3 a4 : Int) (r1 : Bool) (r2 r3 : Int) (w : World)
    (hr0_0 : Kd.C k51 w A0_0 l0_0.length l0_0) (hc0_0 : l0_0.length ≤ c0_0) (hr0_1 : Kd.C k56 w A0_1 l0_1.length l0_1) (hc0_1 : l0_1.length ≤ c0_1) (hs : Aside0 (¬ a4 < 1 ∧ (0 ≤ a1 ∧ a1 < (l0_1.length : Int)) ∧ (rd_T56 l0_1 a1).f0 = 4)) (h : vetchref18_Node.f (k + 1) l0_0 l0_1 a1 a2 a3 a4 = some (r1, r2, r3)) :
    Calls Try.prog 12 #[.agg #[.slice A0_0 l0_0.length c0_0, .slice A0_1 l0_1.length c0_1], .int .i64 a1, .string a2, .int .i64 a3, .int .i64 a4] w fun e w' => e = .returned (.agg #[.bool r1, .int .i64 r2, .int .i64 r3]) ∧ Below w.heap.size w w' := by
  rw [vetchref18_Node.f] at h
  have IH := Aside0.mk ih
  clear ih
  have hu25 := Try.underlying25
  have hu31 := Try.underlying31
  have hu56 := Try.underlying56
  have hu51 := Try.underlying51
  have hu54 := Try.underlying54
  have HB := Aside0.mk (below_alloc (below_alloc (Below.refl w.heap.size w) (.cells #[.slice A0_0 l0_0.length c0_0, .slice A0_1 l0_1.length c0_1] 25)) (.cells #[.bool false, .int .i64 0, .int .i64 0] 31))
  have HG := Aside0.mk (blk_alloc (blk_new w (.cells #[.slice A0_0 l0_0.length c0_0, .slice A0_1 l0_1.length c0_1] 25)) (.cells #[.bool false, .int .i64 0, .int .i64 0] 31))
  have HR := Aside0.mk (blk_new (w.alloc (.cells #[.slice A0_0 l0_0.length c0_0, .slice A0_1 l0_1.length c0_1] 25)) (.cells #[.bool false, .int .i64 0, .int .i64 0] 31))
  have hsz : ((w.alloc (.cells #[.slice A0_0 l0_0.length c0_0, .slice A0_1 l0_1.length c0_1] 25)).alloc (.cells #[.bool false, .int .i64 0, .int .i64 0] 31)).heap.size = w.heap.size + 1 + 1 := by rw [h18_size, h18_size]
  rw [h18_size] at HR
  have HC0 := Aside0.mk (Kd.C_below hr0_0 HB.out)
  have HC1 := Aside0.mk (Kd.C_below hr0_1 HB.out)
  have HW := Aside0.mk hsz
  clear hr0_0 hr0_1 hsz
  rw [if_neg hs.out.1, if_pos hs.out.2.1] at h
  have c4b : decide (a4 < 1) = false := decide_eq_false hs.out.1
  have H := Aside0.mk h
  clear h
  go_enter Try.func12, Try.ntmps12
  go_upto_region 1 with (fail)
  generalize ((w.alloc (.cells #[.slice A0_0 l0_0.length c0_0, .slice A0_1 l0_1.length c0_1] 25)).alloc (.cells #[.bool false, .int .i64 0, .int .i64 0] 31)) = W1 at HB HG HR HC0 HC1 HW ⊢
  obtain ⟨gb, hgb⟩ : ∃ gb, gb = w.heap.size := ⟨_, rfl⟩
  obtain ⟨gr, hgr⟩ : ∃ gr, gr = gb + 1 := ⟨_, rfl⟩
  rw [← hgb] at HW HG HR ⊢
  rw [← hgr] at HR ⊢
  have HGB := Aside0.mk hgb
  have HGR := Aside0.mk hgr
  clear hgb hgr
  go_upto_region 4 with (fail)
  clear c4b
  have g1 : W1.cell? ⟨gb, 1, none⟩ = some (.slice A0_1 l0_1.length c0_1) := (blk_cell HG.out 1).trans rfl
  have p2 := hs.out.2.1.1
  have p3 := hs.out.2.1.2
  obtain ⟨ad, Ak, ck, e, k0, k1, k2, k3, k4, k5, k6, hlk, hCk⟩ := at_T56 HC1.out a1 p2 p3
  cases e
  have HCk := Aside0.mk hCk
  have HLk := Aside0.mk hlk
  clear hCk hlk
  replace p2 := eq_true p2
  replace p3 := eq_true p3
  go_upto_region 5 with (fail)
  have HS := Aside0.mk hs.out.2.2
  clear hs
  generalize rd_T56 l0_1 a1 = nd at *
  obtain ⟨gx, hgx⟩ : ∃ gx, gx = W1.heap.size := ⟨_, rfl⟩
  have E2 : Aside0 (Env18 W1 gx #[.int .i64 nd.f0, .slice Ak nd.f1.length ck, .int .i64 nd.f2, .int .u64 nd.f3.f0, .int .u64 nd.f3.f1, .int .u64 nd.f3.f2, .int .u64 nd.f3.f3] (W1.alloc (.cells #[.int .i64 nd.f0, .slice Ak nd.f1.length ck, .int .i64 nd.f2, .int .u64 nd.f3.f0, .int .u64 nd.f3.f1, .int .u64 nd.f3.f2, .int .u64 nd.f3.f3] 56))) := ⟨by rw [hgx]; exact blk_new W1 (.cells #[.int .i64 nd.f0, .slice Ak nd.f1.length ck, .int .i64 nd.f2, .int .u64 nd.f3.f0, .int .u64 nd.f3.f1, .int .u64 nd.f3.f2, .int .u64 nd.f3.f3] 56), below_alloc (Below.refl _ _) _⟩
  have HGX := Aside0.mk hgx
  rw [← hgx]
  generalize W1.alloc (.cells #[.int .i64 nd.f0, .slice Ak nd.f1.length ck, .int .i64 nd.f2, .int .u64 nd.f3.f0, .int .u64 nd.f3.f1, .int .u64 nd.f3.f2, .int .u64 nd.f3.f3] 56) = W2 at E2 ⊢
  clear k0 k1 k2 k3 k4 k5 k6 g1 hgx p2 p3
  have h := H.out
  clear H
  have hnd : Aside0 (gb < W1.heap.size ∧ gr < W1.heap.size) := ⟨by have := HW.out; have := HGR.out; omega⟩
  generalize wrap64 (a4 - 1) = u at *
  have x0 : W2.cell? ⟨gx, 0, none⟩ = some (.int .i64 nd.f0) := (blk_cell E2.out.x 0).trans rfl
  go_upto_region 6 with (fail)
  clear x0
  have c0 : ¬ nd.f0 = 0 := by have := HS.out; omega
  rw [if_neg c0] at h
  have b0 : (nd.f0 == 0) = false := beq_eq_false_iff_ne.2 c0
  clear c0
  go_upto_region 8 with (fail)
  clear b0
  have c1 : ¬ nd.f0 = 1 := by have := HS.out; omega
  rw [if_neg c1] at h
  have b1 : (nd.f0 == 1) = false := beq_eq_false_iff_ne.2 c1
  clear c1
  go_upto_region 12 with (fail)
  clear b1
  have c2 : ¬ nd.f0 = 2 := by have := HS.out; omega
  rw [if_neg c2] at h
  have b2 : (nd.f0 == 2) = false := beq_eq_false_iff_ne.2 c2
  clear c2
  go_upto_region 14 with (fail)
  clear b2
  have c3 : ¬ nd.f0 = 3 := by have := HS.out; omega
  rw [if_neg c3] at h
  have b3 : (nd.f0 == 3) = false := beq_eq_false_iff_ne.2 c3
  clear c3
  go_upto_region 23 with (fail)
  clear b3
  have c4 : nd.f0 = 4 := HS.out
  rw [if_pos c4] at h
  have b4 : (nd.f0 == 4) = true := beq_iff_eq.2 c4
  clear c4
  have HMX := Aside0.mk HCk.out.2.1
  go_upto_block 3 with fail
  obtain ⟨gv, hgv⟩ : ∃ gv, gv = W2.heap.size := ⟨_, rfl⟩
  have EV := Aside0.mk (E2.out.below (below_alloc (Below.refl _ _) (.cells #[.bool true, .int .i64 (-1), .int .i64 u] 31)))
  have BV := Aside0.mk (blk_new W2 (.cells #[.bool true, .int .i64 (-1), .int .i64 u] 31))
  rw [← hgv] at BV ⊢
  have HV : Aside0 (gx ≠ gv ∧ W1.heap.size ≤ gv ∧ gr ≠ gv) := ⟨by have := blk_lt E2.out.x; have := E2.out.b.size; have := hnd.out; omega⟩
  generalize W2.alloc (.cells #[.bool true, .int .i64 (-1), .int .i64 u] 31) = V0 at EV BV ⊢
  clear hgv
  go_wp2
  go_loopg [15] nd.f1.length (fun kq v15 w' => ∃ (e q : Int) (j : Int), v15 = .int .i64 j ∧ Aside0 (0 ≤ j ∧ j ≤ (nd.f1.length : Int) ∧ kq + j.toNat = nd.f1.length) ∧ Aside0 (vetchref18_Node.choF (fun c u => vetchref18_Node.f k l0_0 l0_1 c a2 a3 u) (nd.f1.drop j.toNat) e q = some (r1, r2, r3)) ∧ Aside0 (Env18 W1 gx #[.int .i64 nd.f0, .slice Ak nd.f1.length ck, .int .i64 nd.f2, .int .u64 nd.f3.f0, .int .u64 nd.f3.f1, .int .u64 nd.f3.f2, .int .u64 nd.f3.f3] w') ∧ Aside0 (w'.heap[gv]? = some (.cells #[.bool true, .int .i64 e, .int .i64 q] 31 (0, 0))))
  case atStart => exact ⟨(-1), u, 0, rfl, ⟨by omega⟩, ⟨h⟩, EV, BV⟩
  case round =>
   clear h EV BV E2
   obtain ⟨e, q, j, rfl, HJ, HA, E, BV⟩ := hrel
   have h := HA.out
   clear HA
   by_cases cj : j < (nd.f1.length : Int)
   ·
    have jp : 0 ≤ j := by have := HJ.out; omega
    rw [h18_drop nd.f1 j jp cj] at h
    rw [vetchref18_Node.choF] at h
    obtain ⟨⟨t1, t2, t3⟩, ht, h⟩ := Option.bind_eq_some_iff.1 h
    dsimp only at ht h
    have HT := Aside0.mk ht
    have HA := Aside0.mk h
    have HJP := Aside0.mk jp
    have HCJ := Aside0.mk cj
    clear ht h
    have cjb : decide (j < (nd.f1.length : Int)) = true := decide_eq_true cj
    obtain ⟨ad1, he1, kc⟩ := Kd.at_int (Kd.C_below HCk.out E.out.b) j jp cj
    have x1 : wr.cell? ⟨gx, 1, none⟩ = some (.slice (some ad1) nd.f1.length ck) := by rw [← he1]; exact (blk_cell E.out.x 1).trans rfl
    clear he1
    have v0 : wr.cell? ⟨gv, 0, none⟩ = some (.bool true) := (blk_cell BV.out 0).trans rfl
    have v1 : wr.cell? ⟨gv, 1, none⟩ = some (.int .i64 e) := (blk_cell BV.out 1).trans rfl
    have v2 : wr.cell? ⟨gv, 2, none⟩ = some (.int .i64 q) := (blk_cell BV.out 2).trans rfl
    have g0 : wr.cell? ⟨gb, 0, none⟩ = some (.slice A0_0 l0_0.length c0_0) := (blk_cell (blk_below HG.out E.out.b) 0).trans rfl
    have g1 : wr.cell? ⟨gb, 1, none⟩ = some (.slice (some ad) l0_1.length c0_1) := (blk_cell (blk_below HG.out E.out.b) 1).trans rfl
    replace jp := eq_true jp
    replace cj := eq_true cj
    go_upto_region 28 with (fail)
    go_still_tail 10, (by kernel_rfl)
    change wpList _ _ _ _ _ wr.drew
    go_upto_region 29 with (
      go_at_call 12
      refine (IH.out _ _ l0_0 _ _ l0_1 (rd nd.f1 j) a2 (a3) (q) t1 t2 t3 _ (Kd.C_below HC0.out E.out.drew.b) hc0_0 (Kd.C_below HC1.out E.out.drew.b) hc0_1 HT.out).mono ?_
      rintro e_ W3 ⟨rfl, hb_⟩
      have E3 := Aside0.mk (E.out.drew.below hb_)
      have BV3 := Aside0.mk (blk_below (blk_drew BV.out) hb_)
      clear hb_ kc x1 v0 v1 v2 g0 g1 cjb jp cj
      have v0 : W3.cell? ⟨gv, 0, none⟩ = some (.bool true) := (blk_cell BV3.out 0).trans rfl
      have y0 : W3.frozen? ⟨gv, 0, none⟩ = false := blk_frozen BV3.out 0
      have v1 : W3.cell? ⟨gv, 1, none⟩ = some (.int .i64 e) := (blk_cell BV3.out 1).trans rfl
      have y1 : W3.frozen? ⟨gv, 1, none⟩ = false := blk_frozen BV3.out 1
      have v2 : W3.cell? ⟨gv, 2, none⟩ = some (.int .i64 q) := (blk_cell BV3.out 2).trans rfl
      have y2 : W3.frozen? ⟨gv, 2, none⟩ = false := blk_frozen BV3.out 2)
    have E4 := Aside0.mk (E3.out.put3 HV.out.2.1 HV.out.1 (.bool t1) (.int .i64 t2) (.int .i64 t3))
    have BV4 := Aside0.mk (h18_blk3 BV3.out (.bool t1) (.int .i64 t2) (.int .i64 t3))
    generalize (((W3.setCell ⟨gv, 0, none⟩ (.bool t1)).setCell ⟨gv, 1, none⟩ (.int .i64 t2)).setCell ⟨gv, 2, none⟩ (.int .i64 t3)) = V3 at E4 BV4 ⊢
    clear v0 v1 v2 y0 y1 y2 E BV E3 BV3
    have h := HA.out
    clear HA
    cases t1 with
    | false =>
      rw [if_neg (by simp)] at h
      simp only [Option.some.injEq, Prod.mk.injEq] at h
      obtain ⟨rfl, rfl, rfl⟩ := h
      have v0 : V3.cell? ⟨gv, 0, none⟩ = some (.bool false) := (blk_cell BV4.out 0).trans rfl
      have v1 : V3.cell? ⟨gv, 1, none⟩ = some (.int .i64 t2) := (blk_cell BV4.out 1).trans rfl
      have v2 : V3.cell? ⟨gv, 2, none⟩ = some (.int .i64 t3) := (blk_cell BV4.out 2).trans rfl
      have rr0 : V3.cell? ⟨gr, 0, none⟩ = some (.bool false) := (blk_cell (blk_below HR.out E4.out.b) 0).trans rfl
      have z0 : V3.frozen? ⟨gr, 0, none⟩ = false := blk_frozen (blk_below HR.out E4.out.b) 0
      have rr1 : V3.cell? ⟨gr, 1, none⟩ = some (.int .i64 0) := (blk_cell (blk_below HR.out E4.out.b) 1).trans rfl
      have z1 : V3.frozen? ⟨gr, 1, none⟩ = false := blk_frozen (blk_below HR.out E4.out.b) 1
      have rr2 : V3.cell? ⟨gr, 2, none⟩ = some (.int .i64 0) := (blk_cell (blk_below HR.out E4.out.b) 2).trans rfl
      have z2 : V3.frozen? ⟨gr, 2, none⟩ = false := blk_frozen (blk_below HR.out E4.out.b) 2
      go_wp2
      refine bodyPost_ret (results_cell_row rfl _ _ gr 31 #[.bool false, .int .i64 t2, .int .i64 t3] (0, 0) _ rfl (h18_blk3 (blk_below HR.out E4.out.b) _ _ _) Try.underlying31 rfl (by kernel_rfl)) rfl ⟨rfl, h18_below3 (below_step HB.out E4.out.b) (by have := HGB.out; have := HGR.out; omega) _ _ _⟩
    | true =>
      by_cases ct : t2 < 0
      · rw [if_pos ⟨rfl, ct⟩] at h
        have ctb : decide (t2 ≥ 0) = false := decide_eq_false (by omega)
        clear ct
        have v0 : V3.cell? ⟨gv, 0, none⟩ = some (.bool true) := (blk_cell BV4.out 0).trans rfl
        have v1 : V3.cell? ⟨gv, 1, none⟩ = some (.int .i64 t2) := (blk_cell BV4.out 1).trans rfl
        have v2 : V3.cell? ⟨gv, 2, none⟩ = some (.int .i64 t3) := (blk_cell BV4.out 2).trans rfl
        have hw := h18_next j nd.f1.length HJP.out HCJ.out HMX.out
        have HWj := Aside0.mk hw
        clear hw
        go_wp2
        go_roundg (gk - 1)
        case measure => have := HJ.out; have := HCJ.out; omega
        case rel => exact ⟨t2, t3, wrap64 (j + 1), rfl, ⟨by rw [HWj.out]; have := HJ.out; have := HCJ.out; omega⟩, ⟨by rw [HWj.out]; exact h⟩, E4, BV4⟩
      · rw [if_neg (fun x => ct x.2)] at h
        simp only [Option.some.injEq, Prod.mk.injEq] at h
        obtain ⟨rfl, rfl, rfl⟩ := h
        have ctb : decide (t2 ≥ 0) = true := decide_eq_true (by omega)
        clear ct
        have v0 : V3.cell? ⟨gv, 0, none⟩ = some (.bool true) := (blk_cell BV4.out 0).trans rfl
        have v1 : V3.cell? ⟨gv, 1, none⟩ = some (.int .i64 t2) := (blk_cell BV4.out 1).trans rfl
        have v2 : V3.cell? ⟨gv, 2, none⟩ = some (.int .i64 t3) := (blk_cell BV4.out 2).trans rfl
        have rr0 : V3.cell? ⟨gr, 0, none⟩ = some (.bool false) := (blk_cell (blk_below HR.out E4.out.b) 0).trans rfl
        have z0 : V3.frozen? ⟨gr, 0, none⟩ = false := blk_frozen (blk_below HR.out E4.out.b) 0
        have rr1 : V3.cell? ⟨gr, 1, none⟩ = some (.int .i64 0) := (blk_cell (blk_below HR.out E4.out.b) 1).trans rfl
        have z1 : V3.frozen? ⟨gr, 1, none⟩ = false := blk_frozen (blk_below HR.out E4.out.b) 1
        have rr2 : V3.cell? ⟨gr, 2, none⟩ = some (.int .i64 0) := (blk_cell (blk_below HR.out E4.out.b) 2).trans rfl
        have z2 : V3.frozen? ⟨gr, 2, none⟩ = false := blk_frozen (blk_below HR.out E4.out.b) 2
        go_wp2
        refine bodyPost_ret (results_cell_row rfl _ _ gr 31 #[.bool true, .int .i64 t2, .int .i64 t3] (0, 0) _ rfl (h18_blk3 (blk_below HR.out E4.out.b) _ _ _) Try.underlying31 rfl (by kernel_rfl)) rfl ⟨rfl, h18_below3 (below_step HB.out E4.out.b) (by have := HGB.out; have := HGR.out; omega) _ _ _⟩
   ·
    have cjb : decide (j < (nd.f1.length : Int)) = false := decide_eq_false cj
    rw [h18_end nd.f1 j cj] at h
    rw [vetchref18_Node.choF] at h
    clear cj
    simp only [Option.some.injEq, Prod.mk.injEq] at h
    obtain ⟨rfl, rfl, rfl⟩ := h
    have x1 := (blk_cell E.out.x 1).trans rfl
    have v0 : wr.cell? ⟨gv, 0, none⟩ = some (.bool true) := (blk_cell BV.out 0).trans rfl
    have v1 : wr.cell? ⟨gv, 1, none⟩ = some (.int .i64 e) := (blk_cell BV.out 1).trans rfl
    have v2 : wr.cell? ⟨gv, 2, none⟩ = some (.int .i64 q) := (blk_cell BV.out 2).trans rfl
    have rr0 : wr.cell? ⟨gr, 0, none⟩ = some (.bool false) := (blk_cell (blk_below HR.out E.out.b) 0).trans rfl
    have z0 : wr.frozen? ⟨gr, 0, none⟩ = false := blk_frozen (blk_below HR.out E.out.b) 0
    have rr1 : wr.cell? ⟨gr, 1, none⟩ = some (.int .i64 0) := (blk_cell (blk_below HR.out E.out.b) 1).trans rfl
    have z1 : wr.frozen? ⟨gr, 1, none⟩ = false := blk_frozen (blk_below HR.out E.out.b) 1
    have rr2 : wr.cell? ⟨gr, 2, none⟩ = some (.int .i64 0) := (blk_cell (blk_below HR.out E.out.b) 2).trans rfl
    have z2 : wr.frozen? ⟨gr, 2, none⟩ = false := blk_frozen (blk_below HR.out E.out.b) 2
    go_wp2
    refine bodyPost_ret (results_cell_row rfl _ _ gr 31 #[.bool true, .int .i64 e, .int .i64 q] (0, 0) _ rfl (h18_blk3 (blk_below HR.out E.out.b) _ _ _) Try.underlying31 rfl (by kernel_rfl)) rfl ⟨rfl, h18_below3 (below_step HB.out E.out.b) (by have := HGB.out; have := HGR.out; omega) _ _ _⟩
end Go.Proofs.Ythgedejnpgcacaa.V
namespace Go.Proofs.Ythgedejnpgcacaa.V
open Go.RowKit Go.Proofs.YthgedejnpgcacaaW.PrintWords Go.Proofs.YthgedejnpgcacaaW.PrintLast Go.Proofs.YthgedejnpgcacaaW.PrintMore
set_option linter.unusedVariables false
set_option linter.unusedSimpArgs false
set_option maxHeartbeats 4000000 in
set_option maxRecDepth 100000 in
theorem vetchref18_Node.calls_s5 (k : Nat) (ih : ∀ (A0_0 : Option Addr) (c0_0 : Nat) (l0_0 : List S51) (A0_1 : Option Addr) (c0_1 : Nat) (l0_1 : List S56) (a1 : Int) (a2 : ByteArray) (a3 a4 : Int) (r1 : Bool) (r2 r3 : Int) (w : World)
    (hr0_0 : Kd.C k51 w A0_0 l0_0.length l0_0) (hc0_0 : l0_0.length ≤ c0_0) (hr0_1 : Kd.C k56 w A0_1 l0_1.length l0_1) (hc0_1 : l0_1.length ≤ c0_1) (h : vetchref18_Node.f k l0_0 l0_1 a1 a2 a3 a4 = some (r1, r2, r3)), Calls Try.prog 12 #[.agg #[.slice A0_0 l0_0.length c0_0, .slice A0_1 l0_1.length c0_1], .int .i64 a1, .string a2, .int .i64 a3, .int .i64 a4] w fun e w' => e = .returned (.agg #[.bool r1, .int .i64 r2, .int .i64 r3]) ∧ Below w.heap.size w w')
    (A0_0 : Option Addr) (c0_0 : Nat) (l0_0 : List S51) (A0_1 : Option Addr) (c0_1 : Nat) (l0_1 : List S56) (a1 : Int) (a2 : ByteArray) (a3 a4 : Int) (r1 : Bool) (r2 r3 : Int) (w : World)
    (hr0_0 : Kd.C k51 w A0_0 l0_0.length l0_0) (hc0_0 : l0_0.length ≤ c0_0) (hr0_1 : Kd.C k56 w A0_1 l0_1.length l0_1) (hc0_1 : l0_1.length ≤ c0_1) (hs : Aside0 (¬ a4 < 1 ∧ (0 ≤ a1 ∧ a1 < (l0_1.length : Int)) ∧ (rd_T56 l0_1 a1).f0 ≠ 0 ∧ (rd_T56 l0_1 a1).f0 ≠ 1 ∧ (rd_T56 l0_1 a1).f0 ≠ 2 ∧ (rd_T56 l0_1 a1).f0 ≠ 3 ∧ (rd_T56 l0_1 a1).f0 ≠ 4 ∧ (rd_T56 l0_1 a1).f0 ≠ 7 ∧ (rd_T56 l0_1 a1).f0 ≠ 8 ∧ (rd_T56 l0_1 a1).f0 ≠ 9)) (h : vetchref18_Node.f (k + 1) l0_0 l0_1 a1 a2 a3 a4 = some (r1, r2, r3)) :
    Calls Try.prog 12 #[.agg #[.slice A0_0 l0_0.length c0_0, .slice A0_1 l0_1.length c0_1], .int .i64 a1, .string a2, .int .i64 a3, .int .i64 a4] w fun e w' => e = .returned (.agg #[.bool r1, .int .i64 r2, .int .i64 r3]) ∧ Below w.heap.size w w' := by
  rw [vetchref18_Node.f] at h
  have IH := Aside0.mk ih
  clear ih
  have hu25 := Try.underlying25
  have hu31 := Try.underlying31
  have hu56 := Try.underlying56
  have hu51 := Try.underlying51
  have hu54 := Try.underlying54
  have HB := Aside0.mk (below_alloc (below_alloc (Below.refl w.heap.size w) (.cells #[.slice A0_0 l0_0.length c0_0, .slice A0_1 l0_1.length c0_1] 25)) (.cells #[.bool false, .int .i64 0, .int .i64 0] 31))
  have HG := Aside0.mk (blk_alloc (blk_new w (.cells #[.slice A0_0 l0_0.length c0_0, .slice A0_1 l0_1.length c0_1] 25)) (.cells #[.bool false, .int .i64 0, .int .i64 0] 31))
  have HR := Aside0.mk (blk_new (w.alloc (.cells #[.slice A0_0 l0_0.length c0_0, .slice A0_1 l0_1.length c0_1] 25)) (.cells #[.bool false, .int .i64 0, .int .i64 0] 31))
  have hsz : ((w.alloc (.cells #[.slice A0_0 l0_0.length c0_0, .slice A0_1 l0_1.length c0_1] 25)).alloc (.cells #[.bool false, .int .i64 0, .int .i64 0] 31)).heap.size = w.heap.size + 1 + 1 := by rw [h18_size, h18_size]
  rw [h18_size] at HR
  have HC0 := Aside0.mk (Kd.C_below hr0_0 HB.out)
  have HC1 := Aside0.mk (Kd.C_below hr0_1 HB.out)
  have HW := Aside0.mk hsz
  clear hr0_0 hr0_1 hsz
  rw [if_neg hs.out.1, if_pos hs.out.2.1] at h
  have c4b : decide (a4 < 1) = false := decide_eq_false hs.out.1
  have H := Aside0.mk h
  clear h
  go_enter Try.func12, Try.ntmps12
  go_upto_region 1 with (fail)
  generalize ((w.alloc (.cells #[.slice A0_0 l0_0.length c0_0, .slice A0_1 l0_1.length c0_1] 25)).alloc (.cells #[.bool false, .int .i64 0, .int .i64 0] 31)) = W1 at HB HG HR HC0 HC1 HW ⊢
  obtain ⟨gb, hgb⟩ : ∃ gb, gb = w.heap.size := ⟨_, rfl⟩
  obtain ⟨gr, hgr⟩ : ∃ gr, gr = gb + 1 := ⟨_, rfl⟩
  rw [← hgb] at HW HG HR ⊢
  rw [← hgr] at HR ⊢
  have HGB := Aside0.mk hgb
  have HGR := Aside0.mk hgr
  clear hgb hgr
  go_upto_region 4 with (fail)
  clear c4b
  have g1 : W1.cell? ⟨gb, 1, none⟩ = some (.slice A0_1 l0_1.length c0_1) := (blk_cell HG.out 1).trans rfl
  have p2 := hs.out.2.1.1
  have p3 := hs.out.2.1.2
  obtain ⟨ad, Ak, ck, e, k0, k1, k2, k3, k4, k5, k6, hlk, hCk⟩ := at_T56 HC1.out a1 p2 p3
  cases e
  have HCk := Aside0.mk hCk
  have HLk := Aside0.mk hlk
  clear hCk hlk
  replace p2 := eq_true p2
  replace p3 := eq_true p3
  go_upto_region 5 with (fail)
  have HS := Aside0.mk hs.out.2.2
  clear hs
  generalize rd_T56 l0_1 a1 = nd at *
  obtain ⟨gx, hgx⟩ : ∃ gx, gx = W1.heap.size := ⟨_, rfl⟩
  have E2 : Aside0 (Env18 W1 gx #[.int .i64 nd.f0, .slice Ak nd.f1.length ck, .int .i64 nd.f2, .int .u64 nd.f3.f0, .int .u64 nd.f3.f1, .int .u64 nd.f3.f2, .int .u64 nd.f3.f3] (W1.alloc (.cells #[.int .i64 nd.f0, .slice Ak nd.f1.length ck, .int .i64 nd.f2, .int .u64 nd.f3.f0, .int .u64 nd.f3.f1, .int .u64 nd.f3.f2, .int .u64 nd.f3.f3] 56))) := ⟨by rw [hgx]; exact blk_new W1 (.cells #[.int .i64 nd.f0, .slice Ak nd.f1.length ck, .int .i64 nd.f2, .int .u64 nd.f3.f0, .int .u64 nd.f3.f1, .int .u64 nd.f3.f2, .int .u64 nd.f3.f3] 56), below_alloc (Below.refl _ _) _⟩
  have HGX := Aside0.mk hgx
  rw [← hgx]
  generalize W1.alloc (.cells #[.int .i64 nd.f0, .slice Ak nd.f1.length ck, .int .i64 nd.f2, .int .u64 nd.f3.f0, .int .u64 nd.f3.f1, .int .u64 nd.f3.f2, .int .u64 nd.f3.f3] 56) = W2 at E2 ⊢
  clear k0 k1 k2 k3 k4 k5 k6 g1 hgx p2 p3
  have h := H.out
  clear H
  have hnd : Aside0 (gb < W1.heap.size ∧ gr < W1.heap.size) := ⟨by have := HW.out; have := HGR.out; omega⟩
  generalize wrap64 (a4 - 1) = u at *
  have x0 : W2.cell? ⟨gx, 0, none⟩ = some (.int .i64 nd.f0) := (blk_cell E2.out.x 0).trans rfl
  go_upto_region 6 with (fail)
  clear x0
  have c0 : ¬ nd.f0 = 0 := by have := HS.out; omega
  rw [if_neg c0] at h
  have b0 : (nd.f0 == 0) = false := beq_eq_false_iff_ne.2 c0
  clear c0
  go_upto_region 8 with (fail)
  clear b0
  have c1 : ¬ nd.f0 = 1 := by have := HS.out; omega
  rw [if_neg c1] at h
  have b1 : (nd.f0 == 1) = false := beq_eq_false_iff_ne.2 c1
  clear c1
  go_upto_region 12 with (fail)
  clear b1
  have c2 : ¬ nd.f0 = 2 := by have := HS.out; omega
  rw [if_neg c2] at h
  have b2 : (nd.f0 == 2) = false := beq_eq_false_iff_ne.2 c2
  clear c2
  go_upto_region 14 with (fail)
  clear b2
  have c3 : ¬ nd.f0 = 3 := by have := HS.out; omega
  rw [if_neg c3] at h
  have b3 : (nd.f0 == 3) = false := beq_eq_false_iff_ne.2 c3
  clear c3
  go_upto_region 23 with (fail)
  clear b3
  have c4 : ¬ nd.f0 = 4 := by have := HS.out; omega
  rw [if_neg c4] at h
  have b4 : (nd.f0 == 4) = false := beq_eq_false_iff_ne.2 c4
  clear c4
  by_cases ck0 : nd.f1 = []
  · rw [if_pos ck0] at h
    exact absurd h (by simp)
  rw [if_neg ck0] at h
  have q9 := h18_mem nd.f1 ck0
  have HQ9 := Aside0.mk q9
  clear ck0
  obtain ⟨⟨t1, t2, t3⟩, ht, h⟩ := Option.bind_eq_some_iff.1 h
  dsimp only at ht h
  have HT := Aside0.mk ht
  have HA := Aside0.mk h
  clear ht h
  obtain ⟨ad1, he1, kc⟩ := Kd.at_int HCk.out 0 (Int.le_refl 0) HQ9.out
  cases he1
  replace kc : W1.cell? ad1 = some (.int .i64 (rd nd.f1 0)) := by simpa [Addr.add] using kc
  have HKC := Aside0.mk kc
  clear kc q9
  have kc := (E2.out.b.cell (World.block_lt_of_cell? W1 _ HKC.out)).trans HKC.out
  have x1 : W2.cell? ⟨gx, 1, none⟩ = some (.slice (some ad1) nd.f1.length ck) := (blk_cell E2.out.x 1).trans rfl
  have g0 : W2.cell? ⟨gb, 0, none⟩ = some (.slice A0_0 l0_0.length c0_0) := (blk_cell (blk_below HG.out E2.out.b) 0).trans rfl
  have g1 : W2.cell? ⟨gb, 1, none⟩ = some (.slice (some ad) l0_1.length c0_1) := (blk_cell (blk_below HG.out E2.out.b) 1).trans rfl
  have q9i := eq_true HQ9.out
  have q9n : (0 < nd.f1.length) = True := eq_true (by have := HQ9.out; omega)
  go_upto_region 32 with (fail)
  clear b4
  have EW := Aside0.mk E2.out.drew
  clear kc x1 g0 g1
  refine start_ (n := 11) (S := fun w' => w'.cell? ⟨gb, 0, none⟩ = some (.slice A0_0 l0_0.length c0_0) ∧ w'.cell? ⟨gb, 1, none⟩ = some (.slice (some ad) l0_1.length c0_1) ∧ w'.cell? ⟨gx, 1, none⟩ = some (.slice (some ad1) nd.f1.length ck) ∧ w'.cell? ad1 = some (.int .i64 (rd nd.f1 0))) (ds := []) #[false, false, false, false, false, false, false, false, false, false, false] (by kernel_rfl) rfl rfl ⟨(blk_cell (blk_below HG.out EW.out.b) 0).trans rfl, (blk_cell (blk_below HG.out EW.out.b) 1).trans rfl, (blk_cell EW.out.x 1).trans rfl, (EW.out.b.cell (World.block_lt_of_cell? W1 _ HKC.out)).trans HKC.out⟩ (fun hHeld => ?_); refine with_tabW h18_tab32 h18_bits32 (fun HT_ HW_ => ?_)
  generalize W2.drew = W3 at EW hHeld ⊢
  refine pure_ (i := 1) (N := some 136) (v := ?_) (a' := ?_) #[false, true, false, false, false, false, false, false, false, false, false] rfl rfl (any_of HT_.out (by kernel_rfl)) (fun _ _ _ h => h) (Or.inl ⟨by rfl, ?_⟩) ?_ ?_
  rotate_left
  ·
   intro w'
   go_simp
   with_reducible rfl
  rotate_left
  ·
   simp only [Act.put, List.setIfInBounds_toArray, List.set_cons_zero, List.set_cons_succ, i64_w, i32_w]
   rfl
  refine pure_ (i := 5) (N := some 140) (v := ?_) (a' := ?_) #[false, true, false, false, false, true, false, false, false, false, false] rfl rfl (any_of HT_.out (by kernel_rfl)) (fun _ _ _ h => h) (Or.inl ⟨by rfl, ?_⟩) ?_ ?_
  rotate_left
  ·
   intro w'
   go_simp
   with_reducible rfl
  rotate_left
  ·
   simp only [Act.put, List.setIfInBounds_toArray, List.set_cons_zero, List.set_cons_succ, i64_w, i32_w]
   rfl
  refine pure_ (i := 6) (N := some 141) (v := ?_) (a' := ?_) #[false, true, false, false, false, true, true, false, false, false, false] rfl rfl (any_of HT_.out (by kernel_rfl)) (fun _ _ _ h => h) (Or.inl ⟨by rfl, ?_⟩) ?_ ?_
  rotate_left
  ·
   intro w'
   go_simp
   with_reducible rfl
  rotate_left
  ·
   simp only [Act.put, List.setIfInBounds_toArray, List.set_cons_zero, List.set_cons_succ, i64_w, i32_w]
   rfl
  refine pure_ (i := 7) (N := some 142) (v := ?_) (a' := ?_) #[false, true, false, false, false, true, true, true, false, false, false] rfl rfl (any_of HT_.out (by kernel_rfl)) (fun _ _ _ h => h) (Or.inl ⟨by rfl, ?_⟩) ?_ ?_
  rotate_left
  ·
   intro w'
   go_simp
   with_reducible rfl
  rotate_left
  ·
   simp only [Act.put, List.setIfInBounds_toArray, List.set_cons_zero, List.set_cons_succ, i64_w, i32_w]
   rfl
  refine take_ (i := 0) (N := some 135) (v := ?_) (a' := ?_) #[true, true, false, false, false, true, true, true, false, false, false] rfl rfl (take_ofW HT_.out HW_.out (by kernel_rfl)) (fun _ _ _ h => h) (Or.inl ⟨by rfl, ?_⟩) hHeld ?_ ?_
  rotate_left
  ·
   rintro w' ⟨s0, s1, s2, s3⟩
   go_simp
   with_reducible rfl
  rotate_left
  ·
   simp only [Act.put, List.setIfInBounds_toArray, List.set_cons_zero, List.set_cons_succ, i64_w, i32_w]
   rfl
  refine take_ (i := 2) (N := some 137) (v := ?_) (a' := ?_) #[true, true, true, false, false, true, true, true, false, false, false] rfl rfl (take_ofW HT_.out HW_.out (by kernel_rfl)) (fun _ _ _ h => h) (Or.inl ⟨by rfl, ?_⟩) hHeld ?_ ?_
  rotate_left
  ·
   rintro w' ⟨s0, s1, s2, s3⟩
   go_simp
   with_reducible rfl
  rotate_left
  ·
   simp only [Act.put, List.setIfInBounds_toArray, List.set_cons_zero, List.set_cons_succ, i64_w, i32_w]
   rfl
  refine pure_ (i := 3) (N := some 138) (v := ?_) (a' := ?_) #[true, true, true, true, false, true, true, true, false, false, false] rfl rfl (any_of HT_.out (by kernel_rfl)) (fun _ _ _ h => h) (Or.inl ⟨by rfl, ?_⟩) ?_ ?_
  rotate_left
  ·
   intro w'
   go_simp
   with_reducible rfl
  rotate_left
  ·
   simp only [Act.put, List.setIfInBounds_toArray, List.set_cons_zero, List.set_cons_succ, i64_w, i32_w]
   rfl
  refine take_ (i := 4) (N := some 139) (v := ?_) (a' := ?_) #[true, true, true, true, true, true, true, true, false, false, false] rfl rfl (take_ofW HT_.out HW_.out (by kernel_rfl)) (fun _ _ _ h => h) (Or.inl ⟨by rfl, ?_⟩) hHeld ?_ ?_
  rotate_left
  ·
   rintro w' ⟨s0, s1, s2, s3⟩
   go_simp
   with_reducible rfl
  rotate_left
  ·
   simp only [Act.put, List.setIfInBounds_toArray, List.set_cons_zero, List.set_cons_succ, i64_w, i32_w]
   rfl
  refine join_ (σ := Nat) 1 #[true, true, true, true, true, true, true, true, true, true, false] (fun s_ => [(143, .agg #[.bool t1, .int .i64 t2, .int .i64 t3]), (16, .pointer (some ⟨s_, 0, none⟩))]) (fun s_ w' => (w'.cell? ⟨gb, 0, none⟩ = some (.slice A0_0 l0_0.length c0_0) ∧ w'.cell? ⟨gb, 1, none⟩ = some (.slice (some ad) l0_1.length c0_1) ∧ w'.cell? ⟨gx, 1, none⟩ = some (.slice (some ad1) nd.f1.length ck) ∧ w'.cell? ad1 = some (.int .i64 (rd nd.f1 0))) ∧ Env18 W1 gx #[.int .i64 nd.f0, .slice (some ad1) nd.f1.length ck, .int .i64 nd.f2, .int .u64 nd.f3.f0, .int .u64 nd.f3.f1, .int .u64 nd.f3.f2, .int .u64 nd.f3.f3] w' ∧ w'.heap[s_]? = some (.cells #[.bool false, .int .i64 0, .int .i64 0] 31 (0, 0)) ∧ gx ≠ s_ ∧ W1.heap.size ≤ s_) ?_ ?_
  rotate_left
  ·
   intro hCont
   refine two_ (i := 8) (j := 9) (Ni := some 143) (Nj := some 16) #[true, true, true, true, true, true, true, true, true, false, false] #[true, true, true, true, true, true, true, true, false, true, false] rfl rfl rfl rfl (two_of HT_.out (by kernel_rfl)) (by decide) (by decide) (fun K hK => ?_) (fun K hK => ?_)
   ·
    refine goes_ Try.func12 (by kernel_rfl) rfl #[.agg #[.slice A0_0 l0_0.length c0_0, .slice (some ad) l0_1.length c0_1], .int .i64 (rd nd.f1 0), .string a2, .int .i64 a3, .int .i64 u] (by rfl) rfl rfl (by (try simp only [List.map_toArray, List.map_cons, List.map_nil]); first | done | rfl) ?_
    refine (IH.out _ _ l0_0 _ _ l0_1 (rd nd.f1 0) a2 a3 u t1 t2 t3 _ (Kd.C_below HC0.out EW.out.b) hc0_0 (Kd.C_below HC1.out EW.out.b) hc0_1 HT.out).mono ?_
    rintro e_ V1 ⟨rfl, hb⟩
    refine ⟨_, rfl, ?_⟩
    have EV1 := Aside0.mk (EW.out.below hb)
    refine hK.out _ _ ⟨(blk_cell (blk_below HG.out EV1.out.b) 0).trans rfl, (blk_cell (blk_below HG.out EV1.out.b) 1).trans rfl, (blk_cell EV1.out.x 1).trans rfl, (EV1.out.b.cell (World.block_lt_of_cell? W1 _ HKC.out)).trans HKC.out⟩ (fun hHeld => ?_)
    clear hK K
    refine norm_ (a' := ?_) ?_ ?_
    rotate_left
    ·
     show Act.put _ (some 143) _ = _
     simp only [Act.put, List.setIfInBounds_toArray, List.set_cons_zero, List.set_cons_succ, i64_w, i32_w]
     rfl
    refine one_ (i := 9) (N := some 16) #[true, true, true, true, true, true, true, true, true, true, false] rfl rfl (one_of HT_.out (by kernel_rfl)) (by decide) (fun K hK => ?_)
    clear hb
    refine box_step ?hg (N := 16) ?hd (cs := #[.bool false, .int .i64 0, .int .i64 0]) (t := 31) ?hr ?_; (case hd => rfl); (case hg => rfl); (case hr => first | (go_simp; done) | (go_simp; rfl))
    intro gv hg V2 hbox hb
    have HBX : gx ≠ gv ∧ W1.heap.size ≤ gv := by rw [hg]; have := blk_lt EV1.out.x; have := EV1.out.b.size; omega
    have EV2 := Aside0.mk (EV1.out.below hb)
    refine hK.out _ _ ⟨(blk_cell (blk_below HG.out EV2.out.b) 0).trans rfl, (blk_cell (blk_below HG.out EV2.out.b) 1).trans rfl, (blk_cell EV2.out.x 1).trans rfl, (EV2.out.b.cell (World.block_lt_of_cell? W1 _ HKC.out)).trans HKC.out⟩ (fun hHeld => ?_)
    clear hK K
    refine norm_ (a' := ?_) ?_ ?_
    rotate_left
    ·
     show Act.put _ (some 16) _ = _
     simp only [Act.put, List.setIfInBounds_toArray, List.set_cons_zero, List.set_cons_succ, i64_w, i32_w]
     rfl
    exact norm_ (by simp only [putAll, Act.put, List.setIfInBounds_toArray, List.set_cons_zero, List.set_cons_succ]) (hCont gv _ ⟨hHeld, EV2.out, hbox, HBX.1, HBX.2⟩)
   ·
    refine box_step ?hg (N := 16) ?hd (cs := #[.bool false, .int .i64 0, .int .i64 0]) (t := 31) ?hr ?_; (case hd => rfl); (case hg => rfl); (case hr => first | (go_simp; done) | (go_simp; rfl))
    intro gv hg V1 hbox hb
    have HBX : gx ≠ gv ∧ W1.heap.size ≤ gv := by rw [hg]; have := blk_lt EW.out.x; have := EW.out.b.size; omega
    have EV1 := Aside0.mk (EW.out.below hb)
    have BX := Aside0.mk hbox
    have HBX := Aside0.mk HBX
    clear hbox hb hg
    refine hK.out _ _ ⟨(blk_cell (blk_below HG.out EV1.out.b) 0).trans rfl, (blk_cell (blk_below HG.out EV1.out.b) 1).trans rfl, (blk_cell EV1.out.x 1).trans rfl, (EV1.out.b.cell (World.block_lt_of_cell? W1 _ HKC.out)).trans HKC.out⟩ (fun hHeld => ?_)
    clear hK K
    refine norm_ (a' := ?_) ?_ ?_
    rotate_left
    ·
     show Act.put _ (some 16) _ = _
     simp only [Act.put, List.setIfInBounds_toArray, List.set_cons_zero, List.set_cons_succ, i64_w, i32_w]
     rfl
    refine one_ (i := 8) (N := some 143) #[true, true, true, true, true, true, true, true, true, true, false] rfl rfl (one_of HT_.out (by kernel_rfl)) (by decide) (fun K hK => ?_)
    refine goes_ Try.func12 (by kernel_rfl) rfl #[.agg #[.slice A0_0 l0_0.length c0_0, .slice (some ad) l0_1.length c0_1], .int .i64 (rd nd.f1 0), .string a2, .int .i64 a3, .int .i64 u] (by rfl) rfl rfl (by (try simp only [List.map_toArray, List.map_cons, List.map_nil]); first | done | rfl) ?_
    refine (IH.out _ _ l0_0 _ _ l0_1 (rd nd.f1 0) a2 a3 u t1 t2 t3 _ (Kd.C_below HC0.out EV1.out.b) hc0_0 (Kd.C_below HC1.out EV1.out.b) hc0_1 HT.out).mono ?_
    rintro e_ V2 ⟨rfl, hb⟩
    refine ⟨_, rfl, ?_⟩
    have EV2 := Aside0.mk (EV1.out.below hb)
    refine hK.out _ _ ⟨(blk_cell (blk_below HG.out EV2.out.b) 0).trans rfl, (blk_cell (blk_below HG.out EV2.out.b) 1).trans rfl, (blk_cell EV2.out.x 1).trans rfl, (EV2.out.b.cell (World.block_lt_of_cell? W1 _ HKC.out)).trans HKC.out⟩ (fun hHeld => ?_)
    clear hK K
    refine norm_ (a' := ?_) ?_ ?_
    rotate_left
    ·
     show Act.put _ (some 143) _ = _
     simp only [Act.put, List.setIfInBounds_toArray, List.set_cons_zero, List.set_cons_succ, i64_w, i32_w]
     rfl
    exact norm_ (by simp only [putAll, Act.put, List.setIfInBounds_toArray, List.set_cons_zero, List.set_cons_succ]) (hCont gv _ ⟨hHeld, EV2.out, blk_below BX.out hb, HBX.out.1, HBX.out.2⟩)
  rintro gv V3 ⟨hHeld, hE_, hB_, hn_, hg_⟩
  have EV3 := Aside0.mk hE_
  have BV3 := Aside0.mk hB_
  have HV : Aside0 (gx ≠ gv ∧ W1.heap.size ≤ gv ∧ gr ≠ gv) := ⟨hn_, hg_, by have := hnd.out; omega⟩
  clear hE_ hB_ hn_ hg_
  refine norm_ (a' := ?_) ?_ ?_
  rotate_left
  ·
   simp only [putAll, Act.put, List.setIfInBounds_toArray, List.set_cons_zero, List.set_cons_succ]
   rfl
  refine one_ (i := 10) (N := none) #[true, true, true, true, true, true, true, true, true, true, true] rfl rfl (one_of HT_.out (by kernel_rfl)) (by decide) (fun K hK => ?_)
  have v0 : V3.cell? ⟨gv, 0, none⟩ = some (.bool false) := (blk_cell BV3.out 0).trans rfl
  have y0 : V3.frozen? ⟨gv, 0, none⟩ = false := blk_frozen BV3.out 0
  have v1 : V3.cell? ⟨gv, 1, none⟩ = some (.int .i64 0) := (blk_cell BV3.out 1).trans rfl
  have y1 : V3.frozen? ⟨gv, 1, none⟩ = false := blk_frozen BV3.out 1
  have v2 : V3.cell? ⟨gv, 2, none⟩ = some (.int .i64 0) := (blk_cell BV3.out 2).trans rfl
  have y2 : V3.frozen? ⟨gv, 2, none⟩ = false := blk_frozen BV3.out 2
  refine skip_ (w1 := ?_) (by rfl) rfl ?_ ?_
  rotate_left
  ·
   go_simp
   rfl
  have EV := Aside0.mk (EV3.out.put3 HV.out.2.1 HV.out.1 (.bool t1) (.int .i64 t2) (.int .i64 t3))
  have BV := Aside0.mk (h18_blk3 BV3.out (.bool t1) (.int .i64 t2) (.int .i64 t3))
  refine hK.out _ _ ⟨(blk_cell (blk_below HG.out EV.out.b) 0).trans rfl, (blk_cell (blk_below HG.out EV.out.b) 1).trans rfl, (blk_cell EV.out.x 1).trans rfl, (EV.out.b.cell (World.block_lt_of_cell? W1 _ HKC.out)).trans HKC.out⟩ (fun hHeld => ?_)
  clear hK K
  refine done_ (done_of HT_.out (by kernel_rfl)) ?_
  clear hHeld v0 v1 v2 y0 y1 y2
  generalize (((V3.setCell ⟨gv, 0, none⟩ (.bool t1)).setCell ⟨gv, 1, none⟩ (.int .i64 t2)).setCell ⟨gv, 2, none⟩ (.int .i64 t3)) = V0 at EV BV ⊢
  clear EV3 BV3
  have v0 : V0.cell? ⟨gv, 0, none⟩ = some (.bool t1) := (blk_cell BV.out 0).trans rfl
  have v1 : V0.cell? ⟨gv, 1, none⟩ = some (.int .i64 t2) := (blk_cell BV.out 1).trans rfl
  have v2 : V0.cell? ⟨gv, 2, none⟩ = some (.int .i64 t3) := (blk_cell BV.out 2).trans rfl
  go_upto_region 33 with (fail)
  clear v0 v1 v2
  have h := HA.out
  clear HA
  cases t1 with
  | false =>
    rw [if_pos rfl] at h
    simp only [Option.some.injEq, Prod.mk.injEq] at h
    obtain ⟨rfl, rfl, rfl⟩ := h
    have v0 : V0.cell? ⟨gv, 0, none⟩ = some (.bool false) := (blk_cell BV.out 0).trans rfl
    have v1 : V0.cell? ⟨gv, 1, none⟩ = some (.int .i64 t2) := (blk_cell BV.out 1).trans rfl
    have v2 : V0.cell? ⟨gv, 2, none⟩ = some (.int .i64 t3) := (blk_cell BV.out 2).trans rfl
    have rr0 : V0.cell? ⟨gr, 0, none⟩ = some (.bool false) := (blk_cell (blk_below HR.out EV.out.b) 0).trans rfl
    have z0 : V0.frozen? ⟨gr, 0, none⟩ = false := blk_frozen (blk_below HR.out EV.out.b) 0
    have rr1 : V0.cell? ⟨gr, 1, none⟩ = some (.int .i64 0) := (blk_cell (blk_below HR.out EV.out.b) 1).trans rfl
    have z1 : V0.frozen? ⟨gr, 1, none⟩ = false := blk_frozen (blk_below HR.out EV.out.b) 1
    have rr2 : V0.cell? ⟨gr, 2, none⟩ = some (.int .i64 0) := (blk_cell (blk_below HR.out EV.out.b) 2).trans rfl
    have z2 : V0.frozen? ⟨gr, 2, none⟩ = false := blk_frozen (blk_below HR.out EV.out.b) 2
    go_wp2
    refine bodyPost_ret (results_cell_row rfl _ _ gr 31 #[.bool false, .int .i64 t2, .int .i64 t3] (0, 0) _ rfl (h18_blk3 (blk_below HR.out EV.out.b) _ _ _) Try.underlying31 rfl (by kernel_rfl)) rfl ⟨rfl, h18_below3 (below_step HB.out EV.out.b) (by have := HGB.out; have := HGR.out; omega) _ _ _⟩
  | true =>
    rw [if_neg (by decide)] at h
    have v0 : V0.cell? ⟨gv, 0, none⟩ = some (.bool true) := (blk_cell BV.out 0).trans rfl
    have v1 : V0.cell? ⟨gv, 1, none⟩ = some (.int .i64 t2) := (blk_cell BV.out 1).trans rfl
    have v2 : V0.cell? ⟨gv, 2, none⟩ = some (.int .i64 t3) := (blk_cell BV.out 2).trans rfl
    have x0 : V0.cell? ⟨gx, 0, none⟩ = some (.int .i64 nd.f0) := (blk_cell EV.out.x 0).trans rfl
    go_upto_region 36 with (fail)
    have c7 : ¬ nd.f0 = 7 := by have := HS.out; omega
    rw [if_neg c7] at h
    have b7 : (nd.f0 == 7) = false := beq_eq_false_iff_ne.2 c7
    clear c7
    go_upto_region 40 with (fail)
    clear b7
    have c8 : ¬ nd.f0 = 8 := by have := HS.out; omega
    rw [if_neg c8] at h
    have b8 : (nd.f0 == 8) = false := beq_eq_false_iff_ne.2 c8
    clear c8
    go_upto_region 44 with (fail)
    clear b8
    have c9 : ¬ nd.f0 = 9 := by have := HS.out; omega
    rw [if_neg c9] at h
    have b9 : (nd.f0 == 9) = false := beq_eq_false_iff_ne.2 c9
    clear c9
    go_upto_region 48 with (fail)
    clear b9
    by_cases c6 : t2 < 0 ∧ nd.f0 = 6
    · rw [if_pos c6] at h
      simp only [Option.some.injEq, Prod.mk.injEq] at h
      obtain ⟨rfl, rfl, rfl⟩ := h
      have ctb : decide (t2 < 0) = true := decide_eq_true c6.1
      have b6 : (nd.f0 == 6) = true := beq_iff_eq.2 c6.2
      clear c6
      have rr0 : V0.cell? ⟨gr, 0, none⟩ = some (.bool false) := (blk_cell (blk_below HR.out EV.out.b) 0).trans rfl
      have z0 : V0.frozen? ⟨gr, 0, none⟩ = false := blk_frozen (blk_below HR.out EV.out.b) 0
      have rr1 : V0.cell? ⟨gr, 1, none⟩ = some (.int .i64 0) := (blk_cell (blk_below HR.out EV.out.b) 1).trans rfl
      have z1 : V0.frozen? ⟨gr, 1, none⟩ = false := blk_frozen (blk_below HR.out EV.out.b) 1
      have rr2 : V0.cell? ⟨gr, 2, none⟩ = some (.int .i64 0) := (blk_cell (blk_below HR.out EV.out.b) 2).trans rfl
      have z2 : V0.frozen? ⟨gr, 2, none⟩ = false := blk_frozen (blk_below HR.out EV.out.b) 2
      go_wp2
      refine bodyPost_ret (results_cell_row rfl _ _ gr 31 #[.bool true, .int .i64 t2, .int .i64 t3] (0, 0) _ rfl (h18_blk3 (blk_below HR.out EV.out.b) _ _ _) Try.underlying31 rfl (by kernel_rfl)) rfl ⟨rfl, h18_below3 (below_step HB.out EV.out.b) (by have := HGB.out; have := HGR.out; omega) _ _ _⟩
    rw [if_neg c6] at h
    go_cut [189] (fun v189 wc => v189 = .bool false ∧ Aside0 (Env18 W1 gx #[.int .i64 nd.f0, .slice (some ad1) nd.f1.length ck, .int .i64 nd.f2, .int .u64 nd.f3.f0, .int .u64 nd.f3.f1, .int .u64 nd.f3.f2, .int .u64 nd.f3.f3] wc) ∧ Aside0 (wc.heap[gv]? = some (.cells #[.bool true, .int .i64 t2, .int .i64 t3] 31 (0, 0))))
    case first =>
     by_cases ct : t2 < 0
     · have ctb : decide (t2 < 0) = true := decide_eq_true ct
       have b6 : (nd.f0 == 6) = false := beq_eq_false_iff_ne.2 (fun x => c6 ⟨ct, x⟩)
       clear ct c6
       go_wp2
       go_meet
       exact ⟨rfl, EV, BV⟩
     · have ctb : decide (t2 < 0) = false := decide_eq_false ct
       clear ct c6
       go_wp2
       go_meet
       exact ⟨rfl, EV, BV⟩
    case rest =>
     clear EV BV v0 v1 v2 x0 c6
     obtain ⟨rfl, EV, BV⟩ := hcut
     go_upto_block 6 with fail
     go_wp2
     go_loopg [17] k (fun kq v17 w' => ∃ (la : Int) (q1 : Bool) (q2 q3 : Int), v17 = .int .i64 la ∧ Aside0 (vetchref18_Node.repF (fun a u => vetchref18_Node.f k l0_0 l0_1 (rd nd.f1 0) a2 a u) kq la (q1, q2, q3) = some (r1, r2, r3)) ∧ Aside0 (Env18 W1 gx #[.int .i64 nd.f0, .slice (some ad1) nd.f1.length ck, .int .i64 nd.f2, .int .u64 nd.f3.f0, .int .u64 nd.f3.f1, .int .u64 nd.f3.f2, .int .u64 nd.f3.f3] w') ∧ Aside0 (w'.heap[gv]? = some (.cells #[.bool q1, .int .i64 q2, .int .i64 q3] 31 (0, 0))))
     case atStart => exact ⟨a3, true, t2, t3, rfl, ⟨h⟩, EV, BV⟩
     case round =>
      clear h EV BV E2 HT
      obtain ⟨la, q1, q2, q3, rfl, HA, E, BV⟩ := hrel
      have h := HA.out
      clear HA
      cases gk with
      | zero => exact absurd h (by simp [vetchref18_Node.repF])
      | succ k1 =>
       rw [vetchref18_Node.repF] at h
       have v0 : wr.cell? ⟨gv, 0, none⟩ = some (.bool q1) := (blk_cell BV.out 0).trans rfl
       have v1 : wr.cell? ⟨gv, 1, none⟩ = some (.int .i64 q2) := (blk_cell BV.out 1).trans rfl
       have v2 : wr.cell? ⟨gv, 2, none⟩ = some (.int .i64 q3) := (blk_cell BV.out 2).trans rfl
       cases q1 with
       | false =>
         rw [if_neg (by simp), if_neg (by simp)] at h
         simp only [Option.some.injEq, Prod.mk.injEq] at h
         obtain ⟨rfl, rfl, rfl⟩ := h
         have rr0 : wr.cell? ⟨gr, 0, none⟩ = some (.bool false) := (blk_cell (blk_below HR.out E.out.b) 0).trans rfl
         have z0 : wr.frozen? ⟨gr, 0, none⟩ = false := blk_frozen (blk_below HR.out E.out.b) 0
         have rr1 : wr.cell? ⟨gr, 1, none⟩ = some (.int .i64 0) := (blk_cell (blk_below HR.out E.out.b) 1).trans rfl
         have z1 : wr.frozen? ⟨gr, 1, none⟩ = false := blk_frozen (blk_below HR.out E.out.b) 1
         have rr2 : wr.cell? ⟨gr, 2, none⟩ = some (.int .i64 0) := (blk_cell (blk_below HR.out E.out.b) 2).trans rfl
         have z2 : wr.frozen? ⟨gr, 2, none⟩ = false := blk_frozen (blk_below HR.out E.out.b) 2
         go_wp2
         refine bodyPost_ret (results_cell_row rfl _ _ gr 31 #[.bool false, .int .i64 q2, .int .i64 q3] (0, 0) _ rfl (h18_blk3 (blk_below HR.out E.out.b) _ _ _) Try.underlying31 rfl (by kernel_rfl)) rfl ⟨rfl, h18_below3 (below_step HB.out E.out.b) (by have := HGB.out; have := HGR.out; omega) _ _ _⟩
       | true =>
         by_cases cq : 0 ≤ q2
         · rw [if_pos ⟨rfl, cq⟩] at h
           obtain ⟨⟨t1, t2, t3⟩, ht, h⟩ := Option.bind_eq_some_iff.1 h
           dsimp only at ht h
           have HT := Aside0.mk ht
           have HA := Aside0.mk h
           clear ht h
           have cqb : decide (q2 ≥ 0) = true := decide_eq_true cq
           clear cq
           have kc := (E.out.b.cell (World.block_lt_of_cell? W1 _ HKC.out)).trans HKC.out
           have x1 : wr.cell? ⟨gx, 1, none⟩ = some (.slice (some ad1) nd.f1.length ck) := (blk_cell E.out.x 1).trans rfl
           have g0 : wr.cell? ⟨gb, 0, none⟩ = some (.slice A0_0 l0_0.length c0_0) := (blk_cell (blk_below HG.out E.out.b) 0).trans rfl
           have g1 : wr.cell? ⟨gb, 1, none⟩ = some (.slice (some ad) l0_1.length c0_1) := (blk_cell (blk_below HG.out E.out.b) 1).trans rfl
           have q9i := eq_true HQ9.out
           have q9n : (0 < nd.f1.length) = True := eq_true (by have := HQ9.out; omega)
           go_upto_region 53 with (fail)
           go_still_tail 9, (by kernel_rfl)
           change wpList _ _ _ _ _ wr.drew
           go_wp2_with (
             go_at_call 12
             refine (IH.out _ _ l0_0 _ _ l0_1 (rd nd.f1 0) a2 (q2) (q3) t1 t2 t3 _ (Kd.C_below HC0.out E.out.drew.b) hc0_0 (Kd.C_below HC1.out E.out.drew.b) hc0_1 HT.out).mono ?_
             rintro e_ W3 ⟨rfl, hb_⟩
             have E3 := Aside0.mk (E.out.drew.below hb_)
             have BV3 := Aside0.mk (blk_below (blk_drew BV.out) hb_)
             clear hb_ kc x1 v0 v1 v2 g0 g1 cqb q9i q9n
             have v0 : W3.cell? ⟨gv, 0, none⟩ = some (.bool true) := (blk_cell BV3.out 0).trans rfl
             have y0 : W3.frozen? ⟨gv, 0, none⟩ = false := blk_frozen BV3.out 0
             have v1 : W3.cell? ⟨gv, 1, none⟩ = some (.int .i64 q2) := (blk_cell BV3.out 1).trans rfl
             have y1 : W3.frozen? ⟨gv, 1, none⟩ = false := blk_frozen BV3.out 1
             have v2 : W3.cell? ⟨gv, 2, none⟩ = some (.int .i64 q3) := (blk_cell BV3.out 2).trans rfl
             have y2 : W3.frozen? ⟨gv, 2, none⟩ = false := blk_frozen BV3.out 2)
           go_roundg k1
           case measure => omega
           case rel => exact ⟨q2, t1, t2, t3, rfl, HA, ⟨E3.out.put3 HV.out.2.1 HV.out.1 _ _ _⟩, ⟨h18_blk3 BV3.out _ _ _⟩⟩
         · rw [if_neg (fun x => cq x.2), if_pos rfl] at h
           simp only [Option.some.injEq, Prod.mk.injEq] at h
           obtain ⟨rfl, rfl, rfl⟩ := h
           have cqb : decide (q2 ≥ 0) = false := decide_eq_false cq
           clear cq
           have rr0 : wr.cell? ⟨gr, 0, none⟩ = some (.bool false) := (blk_cell (blk_below HR.out E.out.b) 0).trans rfl
           have z0 : wr.frozen? ⟨gr, 0, none⟩ = false := blk_frozen (blk_below HR.out E.out.b) 0
           have rr1 : wr.cell? ⟨gr, 1, none⟩ = some (.int .i64 0) := (blk_cell (blk_below HR.out E.out.b) 1).trans rfl
           have z1 : wr.frozen? ⟨gr, 1, none⟩ = false := blk_frozen (blk_below HR.out E.out.b) 1
           have rr2 : wr.cell? ⟨gr, 2, none⟩ = some (.int .i64 0) := (blk_cell (blk_below HR.out E.out.b) 2).trans rfl
           have z2 : wr.frozen? ⟨gr, 2, none⟩ = false := blk_frozen (blk_below HR.out E.out.b) 2
           go_wp2
           refine bodyPost_ret (results_cell_row rfl _ _ gr 31 #[.bool true, .int .i64 la, .int .i64 q3] (0, 0) _ rfl (h18_blk3 (blk_below HR.out E.out.b) _ _ _) Try.underlying31 rfl (by kernel_rfl)) rfl ⟨rfl, h18_below3 (below_step HB.out E.out.b) (by have := HGB.out; have := HGR.out; omega) _ _ _⟩
end Go.Proofs.Ythgedejnpgcacaa.V
namespace Go.Proofs.Ythgedejnpgcacaa.V
open Go.RowKit Go.Proofs.YthgedejnpgcacaaW.PrintWords Go.Proofs.YthgedejnpgcacaaW.PrintLast Go.Proofs.YthgedejnpgcacaaW.PrintMore
set_option linter.unusedVariables false
set_option linter.unusedSimpArgs false
set_option maxHeartbeats 4000000 in
set_option maxRecDepth 100000 in
theorem vetchref18_Node.calls_s7 (k : Nat) (ih : ∀ (A0_0 : Option Addr) (c0_0 : Nat) (l0_0 : List S51) (A0_1 : Option Addr) (c0_1 : Nat) (l0_1 : List S56) (a1 : Int) (a2 : ByteArray) (a3 a4 : Int) (r1 : Bool) (r2 r3 : Int) (w : World)
    (hr0_0 : Kd.C k51 w A0_0 l0_0.length l0_0) (hc0_0 : l0_0.length ≤ c0_0) (hr0_1 : Kd.C k56 w A0_1 l0_1.length l0_1) (hc0_1 : l0_1.length ≤ c0_1) (h : vetchref18_Node.f k l0_0 l0_1 a1 a2 a3 a4 = some (r1, r2, r3)), Calls Try.prog 12 #[.agg #[.slice A0_0 l0_0.length c0_0, .slice A0_1 l0_1.length c0_1], .int .i64 a1, .string a2, .int .i64 a3, .int .i64 a4] w fun e w' => e = .returned (.agg #[.bool r1, .int .i64 r2, .int .i64 r3]) ∧ Below w.heap.size w w')
    (A0_0 : Option Addr) (c0_0 : Nat) (l0_0 : List S51) (A0_1 : Option Addr) (c0_1 : Nat) (l0_1 : List S56) (a1 : Int) (a2 : ByteArray) (a3 a4 : Int) (r1 : Bool) (r2 r3 : Int) (w : World)
    (hr0_0 : Kd.C k51 w A0_0 l0_0.length l0_0) (hc0_0 : l0_0.length ≤ c0_0) (hr0_1 : Kd.C k56 w A0_1 l0_1.length l0_1) (hc0_1 : l0_1.length ≤ c0_1) (hs : Aside0 (¬ a4 < 1 ∧ (0 ≤ a1 ∧ a1 < (l0_1.length : Int)) ∧ (rd_T56 l0_1 a1).f0 = 7)) (h : vetchref18_Node.f (k + 1) l0_0 l0_1 a1 a2 a3 a4 = some (r1, r2, r3)) :
    Calls Try.prog 12 #[.agg #[.slice A0_0 l0_0.length c0_0, .slice A0_1 l0_1.length c0_1], .int .i64 a1, .string a2, .int .i64 a3, .int .i64 a4] w fun e w' => e = .returned (.agg #[.bool r1, .int .i64 r2, .int .i64 r3]) ∧ Below w.heap.size w w' := by
  rw [vetchref18_Node.f] at h
  have IH := Aside0.mk ih
  clear ih
  have hu25 := Try.underlying25
  have hu31 := Try.underlying31
  have hu56 := Try.underlying56
  have hu51 := Try.underlying51
  have hu54 := Try.underlying54
  have HB := Aside0.mk (below_alloc (below_alloc (Below.refl w.heap.size w) (.cells #[.slice A0_0 l0_0.length c0_0, .slice A0_1 l0_1.length c0_1] 25)) (.cells #[.bool false, .int .i64 0, .int .i64 0] 31))
  have HG := Aside0.mk (blk_alloc (blk_new w (.cells #[.slice A0_0 l0_0.length c0_0, .slice A0_1 l0_1.length c0_1] 25)) (.cells #[.bool false, .int .i64 0, .int .i64 0] 31))
  have HR := Aside0.mk (blk_new (w.alloc (.cells #[.slice A0_0 l0_0.length c0_0, .slice A0_1 l0_1.length c0_1] 25)) (.cells #[.bool false, .int .i64 0, .int .i64 0] 31))
  have hsz : ((w.alloc (.cells #[.slice A0_0 l0_0.length c0_0, .slice A0_1 l0_1.length c0_1] 25)).alloc (.cells #[.bool false, .int .i64 0, .int .i64 0] 31)).heap.size = w.heap.size + 1 + 1 := by rw [h18_size, h18_size]
  rw [h18_size] at HR
  have HC0 := Aside0.mk (Kd.C_below hr0_0 HB.out)
  have HC1 := Aside0.mk (Kd.C_below hr0_1 HB.out)
  have HW := Aside0.mk hsz
  clear hr0_0 hr0_1 hsz
  rw [if_neg hs.out.1, if_pos hs.out.2.1] at h
  have c4b : decide (a4 < 1) = false := decide_eq_false hs.out.1
  have H := Aside0.mk h
  clear h
  go_enter Try.func12, Try.ntmps12
  go_upto_region 1 with (fail)
  generalize ((w.alloc (.cells #[.slice A0_0 l0_0.length c0_0, .slice A0_1 l0_1.length c0_1] 25)).alloc (.cells #[.bool false, .int .i64 0, .int .i64 0] 31)) = W1 at HB HG HR HC0 HC1 HW ⊢
  obtain ⟨gb, hgb⟩ : ∃ gb, gb = w.heap.size := ⟨_, rfl⟩
  obtain ⟨gr, hgr⟩ : ∃ gr, gr = gb + 1 := ⟨_, rfl⟩
  rw [← hgb] at HW HG HR ⊢
  rw [← hgr] at HR ⊢
  have HGB := Aside0.mk hgb
  have HGR := Aside0.mk hgr
  clear hgb hgr
  go_upto_region 4 with (fail)
  clear c4b
  have g1 : W1.cell? ⟨gb, 1, none⟩ = some (.slice A0_1 l0_1.length c0_1) := (blk_cell HG.out 1).trans rfl
  have p2 := hs.out.2.1.1
  have p3 := hs.out.2.1.2
  obtain ⟨ad, Ak, ck, e, k0, k1, k2, k3, k4, k5, k6, hlk, hCk⟩ := at_T56 HC1.out a1 p2 p3
  cases e
  have HCk := Aside0.mk hCk
  have HLk := Aside0.mk hlk
  clear hCk hlk
  replace p2 := eq_true p2
  replace p3 := eq_true p3
  go_upto_region 5 with (fail)
  have HS := Aside0.mk hs.out.2.2
  clear hs
  generalize rd_T56 l0_1 a1 = nd at *
  obtain ⟨gx, hgx⟩ : ∃ gx, gx = W1.heap.size := ⟨_, rfl⟩
  have E2 : Aside0 (Env18 W1 gx #[.int .i64 nd.f0, .slice Ak nd.f1.length ck, .int .i64 nd.f2, .int .u64 nd.f3.f0, .int .u64 nd.f3.f1, .int .u64 nd.f3.f2, .int .u64 nd.f3.f3] (W1.alloc (.cells #[.int .i64 nd.f0, .slice Ak nd.f1.length ck, .int .i64 nd.f2, .int .u64 nd.f3.f0, .int .u64 nd.f3.f1, .int .u64 nd.f3.f2, .int .u64 nd.f3.f3] 56))) := ⟨by rw [hgx]; exact blk_new W1 (.cells #[.int .i64 nd.f0, .slice Ak nd.f1.length ck, .int .i64 nd.f2, .int .u64 nd.f3.f0, .int .u64 nd.f3.f1, .int .u64 nd.f3.f2, .int .u64 nd.f3.f3] 56), below_alloc (Below.refl _ _) _⟩
  have HGX := Aside0.mk hgx
  rw [← hgx]
  generalize W1.alloc (.cells #[.int .i64 nd.f0, .slice Ak nd.f1.length ck, .int .i64 nd.f2, .int .u64 nd.f3.f0, .int .u64 nd.f3.f1, .int .u64 nd.f3.f2, .int .u64 nd.f3.f3] 56) = W2 at E2 ⊢
  clear k0 k1 k2 k3 k4 k5 k6 g1 hgx p2 p3
  have h := H.out
  clear H
  have hnd : Aside0 (gb < W1.heap.size ∧ gr < W1.heap.size) := ⟨by have := HW.out; have := HGR.out; omega⟩
  generalize wrap64 (a4 - 1) = u at *
  have x0 : W2.cell? ⟨gx, 0, none⟩ = some (.int .i64 nd.f0) := (blk_cell E2.out.x 0).trans rfl
  go_upto_region 6 with (fail)
  clear x0
  have c0 : ¬ nd.f0 = 0 := by have := HS.out; omega
  rw [if_neg c0] at h
  have b0 : (nd.f0 == 0) = false := beq_eq_false_iff_ne.2 c0
  clear c0
  go_upto_region 8 with (fail)
  clear b0
  have c1 : ¬ nd.f0 = 1 := by have := HS.out; omega
  rw [if_neg c1] at h
  have b1 : (nd.f0 == 1) = false := beq_eq_false_iff_ne.2 c1
  clear c1
  go_upto_region 12 with (fail)
  clear b1
  have c2 : ¬ nd.f0 = 2 := by have := HS.out; omega
  rw [if_neg c2] at h
  have b2 : (nd.f0 == 2) = false := beq_eq_false_iff_ne.2 c2
  clear c2
  go_upto_region 14 with (fail)
  clear b2
  have c3 : ¬ nd.f0 = 3 := by have := HS.out; omega
  rw [if_neg c3] at h
  have b3 : (nd.f0 == 3) = false := beq_eq_false_iff_ne.2 c3
  clear c3
  go_upto_region 23 with (fail)
  clear b3
  have c4 : ¬ nd.f0 = 4 := by have := HS.out; omega
  rw [if_neg c4] at h
  have b4 : (nd.f0 == 4) = false := beq_eq_false_iff_ne.2 c4
  clear c4
  by_cases ck0 : nd.f1 = []
  · rw [if_pos ck0] at h
    exact absurd h (by simp)
  rw [if_neg ck0] at h
  have q9 := h18_mem nd.f1 ck0
  have HQ9 := Aside0.mk q9
  clear ck0
  obtain ⟨⟨t1, t2, t3⟩, ht, h⟩ := Option.bind_eq_some_iff.1 h
  dsimp only at ht h
  have HT := Aside0.mk ht
  have HA := Aside0.mk h
  clear ht h
  obtain ⟨ad1, he1, kc⟩ := Kd.at_int HCk.out 0 (Int.le_refl 0) HQ9.out
  cases he1
  replace kc : W1.cell? ad1 = some (.int .i64 (rd nd.f1 0)) := by simpa [Addr.add] using kc
  have HKC := Aside0.mk kc
  clear kc q9
  have kc := (E2.out.b.cell (World.block_lt_of_cell? W1 _ HKC.out)).trans HKC.out
  have x1 : W2.cell? ⟨gx, 1, none⟩ = some (.slice (some ad1) nd.f1.length ck) := (blk_cell E2.out.x 1).trans rfl
  have g0 : W2.cell? ⟨gb, 0, none⟩ = some (.slice A0_0 l0_0.length c0_0) := (blk_cell (blk_below HG.out E2.out.b) 0).trans rfl
  have g1 : W2.cell? ⟨gb, 1, none⟩ = some (.slice (some ad) l0_1.length c0_1) := (blk_cell (blk_below HG.out E2.out.b) 1).trans rfl
  have q9i := eq_true HQ9.out
  have q9n : (0 < nd.f1.length) = True := eq_true (by have := HQ9.out; omega)
  go_upto_region 32 with (fail)
  clear b4
  have EW := Aside0.mk E2.out.drew
  clear kc x1 g0 g1
  refine start_ (n := 11) (S := fun w' => w'.cell? ⟨gb, 0, none⟩ = some (.slice A0_0 l0_0.length c0_0) ∧ w'.cell? ⟨gb, 1, none⟩ = some (.slice (some ad) l0_1.length c0_1) ∧ w'.cell? ⟨gx, 1, none⟩ = some (.slice (some ad1) nd.f1.length ck) ∧ w'.cell? ad1 = some (.int .i64 (rd nd.f1 0))) (ds := []) #[false, false, false, false, false, false, false, false, false, false, false] (by kernel_rfl) rfl rfl ⟨(blk_cell (blk_below HG.out EW.out.b) 0).trans rfl, (blk_cell (blk_below HG.out EW.out.b) 1).trans rfl, (blk_cell EW.out.x 1).trans rfl, (EW.out.b.cell (World.block_lt_of_cell? W1 _ HKC.out)).trans HKC.out⟩ (fun hHeld => ?_); refine with_tabW h18_tab32 h18_bits32 (fun HT_ HW_ => ?_)
  generalize W2.drew = W3 at EW hHeld ⊢
  refine pure_ (i := 1) (N := some 136) (v := ?_) (a' := ?_) #[false, true, false, false, false, false, false, false, false, false, false] rfl rfl (any_of HT_.out (by kernel_rfl)) (fun _ _ _ h => h) (Or.inl ⟨by rfl, ?_⟩) ?_ ?_
  rotate_left
  ·
   intro w'
   go_simp
   with_reducible rfl
  rotate_left
  ·
   simp only [Act.put, List.setIfInBounds_toArray, List.set_cons_zero, List.set_cons_succ, i64_w, i32_w]
   rfl
  refine pure_ (i := 5) (N := some 140) (v := ?_) (a' := ?_) #[false, true, false, false, false, true, false, false, false, false, false] rfl rfl (any_of HT_.out (by kernel_rfl)) (fun _ _ _ h => h) (Or.inl ⟨by rfl, ?_⟩) ?_ ?_
  rotate_left
  ·
   intro w'
   go_simp
   with_reducible rfl
  rotate_left
  ·
   simp only [Act.put, List.setIfInBounds_toArray, List.set_cons_zero, List.set_cons_succ, i64_w, i32_w]
   rfl
  refine pure_ (i := 6) (N := some 141) (v := ?_) (a' := ?_) #[false, true, false, false, false, true, true, false, false, false, false] rfl rfl (any_of HT_.out (by kernel_rfl)) (fun _ _ _ h => h) (Or.inl ⟨by rfl, ?_⟩) ?_ ?_
  rotate_left
  ·
   intro w'
   go_simp
   with_reducible rfl
  rotate_left
  ·
   simp only [Act.put, List.setIfInBounds_toArray, List.set_cons_zero, List.set_cons_succ, i64_w, i32_w]
   rfl
  refine pure_ (i := 7) (N := some 142) (v := ?_) (a' := ?_) #[false, true, false, false, false, true, true, true, false, false, false] rfl rfl (any_of HT_.out (by kernel_rfl)) (fun _ _ _ h => h) (Or.inl ⟨by rfl, ?_⟩) ?_ ?_
  rotate_left
  ·
   intro w'
   go_simp
   with_reducible rfl
  rotate_left
  ·
   simp only [Act.put, List.setIfInBounds_toArray, List.set_cons_zero, List.set_cons_succ, i64_w, i32_w]
   rfl
  refine take_ (i := 0) (N := some 135) (v := ?_) (a' := ?_) #[true, true, false, false, false, true, true, true, false, false, false] rfl rfl (take_ofW HT_.out HW_.out (by kernel_rfl)) (fun _ _ _ h => h) (Or.inl ⟨by rfl, ?_⟩) hHeld ?_ ?_
  rotate_left
  ·
   rintro w' ⟨s0, s1, s2, s3⟩
   go_simp
   with_reducible rfl
  rotate_left
  ·
   simp only [Act.put, List.setIfInBounds_toArray, List.set_cons_zero, List.set_cons_succ, i64_w, i32_w]
   rfl
  refine take_ (i := 2) (N := some 137) (v := ?_) (a' := ?_) #[true, true, true, false, false, true, true, true, false, false, false] rfl rfl (take_ofW HT_.out HW_.out (by kernel_rfl)) (fun _ _ _ h => h) (Or.inl ⟨by rfl, ?_⟩) hHeld ?_ ?_
  rotate_left
  ·
   rintro w' ⟨s0, s1, s2, s3⟩
   go_simp
   with_reducible rfl
  rotate_left
  ·
   simp only [Act.put, List.setIfInBounds_toArray, List.set_cons_zero, List.set_cons_succ, i64_w, i32_w]
   rfl
  refine pure_ (i := 3) (N := some 138) (v := ?_) (a' := ?_) #[true, true, true, true, false, true, true, true, false, false, false] rfl rfl (any_of HT_.out (by kernel_rfl)) (fun _ _ _ h => h) (Or.inl ⟨by rfl, ?_⟩) ?_ ?_
  rotate_left
  ·
   intro w'
   go_simp
   with_reducible rfl
  rotate_left
  ·
   simp only [Act.put, List.setIfInBounds_toArray, List.set_cons_zero, List.set_cons_succ, i64_w, i32_w]
   rfl
  refine take_ (i := 4) (N := some 139) (v := ?_) (a' := ?_) #[true, true, true, true, true, true, true, true, false, false, false] rfl rfl (take_ofW HT_.out HW_.out (by kernel_rfl)) (fun _ _ _ h => h) (Or.inl ⟨by rfl, ?_⟩) hHeld ?_ ?_
  rotate_left
  ·
   rintro w' ⟨s0, s1, s2, s3⟩
   go_simp
   with_reducible rfl
  rotate_left
  ·
   simp only [Act.put, List.setIfInBounds_toArray, List.set_cons_zero, List.set_cons_succ, i64_w, i32_w]
   rfl
  refine join_ (σ := Nat) 1 #[true, true, true, true, true, true, true, true, true, true, false] (fun s_ => [(143, .agg #[.bool t1, .int .i64 t2, .int .i64 t3]), (16, .pointer (some ⟨s_, 0, none⟩))]) (fun s_ w' => (w'.cell? ⟨gb, 0, none⟩ = some (.slice A0_0 l0_0.length c0_0) ∧ w'.cell? ⟨gb, 1, none⟩ = some (.slice (some ad) l0_1.length c0_1) ∧ w'.cell? ⟨gx, 1, none⟩ = some (.slice (some ad1) nd.f1.length ck) ∧ w'.cell? ad1 = some (.int .i64 (rd nd.f1 0))) ∧ Env18 W1 gx #[.int .i64 nd.f0, .slice (some ad1) nd.f1.length ck, .int .i64 nd.f2, .int .u64 nd.f3.f0, .int .u64 nd.f3.f1, .int .u64 nd.f3.f2, .int .u64 nd.f3.f3] w' ∧ w'.heap[s_]? = some (.cells #[.bool false, .int .i64 0, .int .i64 0] 31 (0, 0)) ∧ gx ≠ s_ ∧ W1.heap.size ≤ s_) ?_ ?_
  rotate_left
  ·
   intro hCont
   refine two_ (i := 8) (j := 9) (Ni := some 143) (Nj := some 16) #[true, true, true, true, true, true, true, true, true, false, false] #[true, true, true, true, true, true, true, true, false, true, false] rfl rfl rfl rfl (two_of HT_.out (by kernel_rfl)) (by decide) (by decide) (fun K hK => ?_) (fun K hK => ?_)
   ·
    refine goes_ Try.func12 (by kernel_rfl) rfl #[.agg #[.slice A0_0 l0_0.length c0_0, .slice (some ad) l0_1.length c0_1], .int .i64 (rd nd.f1 0), .string a2, .int .i64 a3, .int .i64 u] (by rfl) rfl rfl (by (try simp only [List.map_toArray, List.map_cons, List.map_nil]); first | done | rfl) ?_
    refine (IH.out _ _ l0_0 _ _ l0_1 (rd nd.f1 0) a2 a3 u t1 t2 t3 _ (Kd.C_below HC0.out EW.out.b) hc0_0 (Kd.C_below HC1.out EW.out.b) hc0_1 HT.out).mono ?_
    rintro e_ V1 ⟨rfl, hb⟩
    refine ⟨_, rfl, ?_⟩
    have EV1 := Aside0.mk (EW.out.below hb)
    refine hK.out _ _ ⟨(blk_cell (blk_below HG.out EV1.out.b) 0).trans rfl, (blk_cell (blk_below HG.out EV1.out.b) 1).trans rfl, (blk_cell EV1.out.x 1).trans rfl, (EV1.out.b.cell (World.block_lt_of_cell? W1 _ HKC.out)).trans HKC.out⟩ (fun hHeld => ?_)
    clear hK K
    refine norm_ (a' := ?_) ?_ ?_
    rotate_left
    ·
     show Act.put _ (some 143) _ = _
     simp only [Act.put, List.setIfInBounds_toArray, List.set_cons_zero, List.set_cons_succ, i64_w, i32_w]
     rfl
    refine one_ (i := 9) (N := some 16) #[true, true, true, true, true, true, true, true, true, true, false] rfl rfl (one_of HT_.out (by kernel_rfl)) (by decide) (fun K hK => ?_)
    clear hb
    refine box_step ?hg (N := 16) ?hd (cs := #[.bool false, .int .i64 0, .int .i64 0]) (t := 31) ?hr ?_; (case hd => rfl); (case hg => rfl); (case hr => first | (go_simp; done) | (go_simp; rfl))
    intro gv hg V2 hbox hb
    have HBX : gx ≠ gv ∧ W1.heap.size ≤ gv := by rw [hg]; have := blk_lt EV1.out.x; have := EV1.out.b.size; omega
    have EV2 := Aside0.mk (EV1.out.below hb)
    refine hK.out _ _ ⟨(blk_cell (blk_below HG.out EV2.out.b) 0).trans rfl, (blk_cell (blk_below HG.out EV2.out.b) 1).trans rfl, (blk_cell EV2.out.x 1).trans rfl, (EV2.out.b.cell (World.block_lt_of_cell? W1 _ HKC.out)).trans HKC.out⟩ (fun hHeld => ?_)
    clear hK K
    refine norm_ (a' := ?_) ?_ ?_
    rotate_left
    ·
     show Act.put _ (some 16) _ = _
     simp only [Act.put, List.setIfInBounds_toArray, List.set_cons_zero, List.set_cons_succ, i64_w, i32_w]
     rfl
    exact norm_ (by simp only [putAll, Act.put, List.setIfInBounds_toArray, List.set_cons_zero, List.set_cons_succ]) (hCont gv _ ⟨hHeld, EV2.out, hbox, HBX.1, HBX.2⟩)
   ·
    refine box_step ?hg (N := 16) ?hd (cs := #[.bool false, .int .i64 0, .int .i64 0]) (t := 31) ?hr ?_; (case hd => rfl); (case hg => rfl); (case hr => first | (go_simp; done) | (go_simp; rfl))
    intro gv hg V1 hbox hb
    have HBX : gx ≠ gv ∧ W1.heap.size ≤ gv := by rw [hg]; have := blk_lt EW.out.x; have := EW.out.b.size; omega
    have EV1 := Aside0.mk (EW.out.below hb)
    have BX := Aside0.mk hbox
    have HBX := Aside0.mk HBX
    clear hbox hb hg
    refine hK.out _ _ ⟨(blk_cell (blk_below HG.out EV1.out.b) 0).trans rfl, (blk_cell (blk_below HG.out EV1.out.b) 1).trans rfl, (blk_cell EV1.out.x 1).trans rfl, (EV1.out.b.cell (World.block_lt_of_cell? W1 _ HKC.out)).trans HKC.out⟩ (fun hHeld => ?_)
    clear hK K
    refine norm_ (a' := ?_) ?_ ?_
    rotate_left
    ·
     show Act.put _ (some 16) _ = _
     simp only [Act.put, List.setIfInBounds_toArray, List.set_cons_zero, List.set_cons_succ, i64_w, i32_w]
     rfl
    refine one_ (i := 8) (N := some 143) #[true, true, true, true, true, true, true, true, true, true, false] rfl rfl (one_of HT_.out (by kernel_rfl)) (by decide) (fun K hK => ?_)
    refine goes_ Try.func12 (by kernel_rfl) rfl #[.agg #[.slice A0_0 l0_0.length c0_0, .slice (some ad) l0_1.length c0_1], .int .i64 (rd nd.f1 0), .string a2, .int .i64 a3, .int .i64 u] (by rfl) rfl rfl (by (try simp only [List.map_toArray, List.map_cons, List.map_nil]); first | done | rfl) ?_
    refine (IH.out _ _ l0_0 _ _ l0_1 (rd nd.f1 0) a2 a3 u t1 t2 t3 _ (Kd.C_below HC0.out EV1.out.b) hc0_0 (Kd.C_below HC1.out EV1.out.b) hc0_1 HT.out).mono ?_
    rintro e_ V2 ⟨rfl, hb⟩
    refine ⟨_, rfl, ?_⟩
    have EV2 := Aside0.mk (EV1.out.below hb)
    refine hK.out _ _ ⟨(blk_cell (blk_below HG.out EV2.out.b) 0).trans rfl, (blk_cell (blk_below HG.out EV2.out.b) 1).trans rfl, (blk_cell EV2.out.x 1).trans rfl, (EV2.out.b.cell (World.block_lt_of_cell? W1 _ HKC.out)).trans HKC.out⟩ (fun hHeld => ?_)
    clear hK K
    refine norm_ (a' := ?_) ?_ ?_
    rotate_left
    ·
     show Act.put _ (some 143) _ = _
     simp only [Act.put, List.setIfInBounds_toArray, List.set_cons_zero, List.set_cons_succ, i64_w, i32_w]
     rfl
    exact norm_ (by simp only [putAll, Act.put, List.setIfInBounds_toArray, List.set_cons_zero, List.set_cons_succ]) (hCont gv _ ⟨hHeld, EV2.out, blk_below BX.out hb, HBX.out.1, HBX.out.2⟩)
  rintro gv V3 ⟨hHeld, hE_, hB_, hn_, hg_⟩
  have EV3 := Aside0.mk hE_
  have BV3 := Aside0.mk hB_
  have HV : Aside0 (gx ≠ gv ∧ W1.heap.size ≤ gv ∧ gr ≠ gv) := ⟨hn_, hg_, by have := hnd.out; omega⟩
  clear hE_ hB_ hn_ hg_
  refine norm_ (a' := ?_) ?_ ?_
  rotate_left
  ·
   simp only [putAll, Act.put, List.setIfInBounds_toArray, List.set_cons_zero, List.set_cons_succ]
   rfl
  refine one_ (i := 10) (N := none) #[true, true, true, true, true, true, true, true, true, true, true] rfl rfl (one_of HT_.out (by kernel_rfl)) (by decide) (fun K hK => ?_)
  have v0 : V3.cell? ⟨gv, 0, none⟩ = some (.bool false) := (blk_cell BV3.out 0).trans rfl
  have y0 : V3.frozen? ⟨gv, 0, none⟩ = false := blk_frozen BV3.out 0
  have v1 : V3.cell? ⟨gv, 1, none⟩ = some (.int .i64 0) := (blk_cell BV3.out 1).trans rfl
  have y1 : V3.frozen? ⟨gv, 1, none⟩ = false := blk_frozen BV3.out 1
  have v2 : V3.cell? ⟨gv, 2, none⟩ = some (.int .i64 0) := (blk_cell BV3.out 2).trans rfl
  have y2 : V3.frozen? ⟨gv, 2, none⟩ = false := blk_frozen BV3.out 2
  refine skip_ (w1 := ?_) (by rfl) rfl ?_ ?_
  rotate_left
  ·
   go_simp
   rfl
  have EV := Aside0.mk (EV3.out.put3 HV.out.2.1 HV.out.1 (.bool t1) (.int .i64 t2) (.int .i64 t3))
  have BV := Aside0.mk (h18_blk3 BV3.out (.bool t1) (.int .i64 t2) (.int .i64 t3))
  refine hK.out _ _ ⟨(blk_cell (blk_below HG.out EV.out.b) 0).trans rfl, (blk_cell (blk_below HG.out EV.out.b) 1).trans rfl, (blk_cell EV.out.x 1).trans rfl, (EV.out.b.cell (World.block_lt_of_cell? W1 _ HKC.out)).trans HKC.out⟩ (fun hHeld => ?_)
  clear hK K
  refine done_ (done_of HT_.out (by kernel_rfl)) ?_
  clear hHeld v0 v1 v2 y0 y1 y2
  generalize (((V3.setCell ⟨gv, 0, none⟩ (.bool t1)).setCell ⟨gv, 1, none⟩ (.int .i64 t2)).setCell ⟨gv, 2, none⟩ (.int .i64 t3)) = V0 at EV BV ⊢
  clear EV3 BV3
  have v0 : V0.cell? ⟨gv, 0, none⟩ = some (.bool t1) := (blk_cell BV.out 0).trans rfl
  have v1 : V0.cell? ⟨gv, 1, none⟩ = some (.int .i64 t2) := (blk_cell BV.out 1).trans rfl
  have v2 : V0.cell? ⟨gv, 2, none⟩ = some (.int .i64 t3) := (blk_cell BV.out 2).trans rfl
  go_upto_region 33 with (fail)
  clear v0 v1 v2
  have h := HA.out
  clear HA
  cases t1 with
  | false =>
    rw [if_pos rfl] at h
    simp only [Option.some.injEq, Prod.mk.injEq] at h
    obtain ⟨rfl, rfl, rfl⟩ := h
    have v0 : V0.cell? ⟨gv, 0, none⟩ = some (.bool false) := (blk_cell BV.out 0).trans rfl
    have v1 : V0.cell? ⟨gv, 1, none⟩ = some (.int .i64 t2) := (blk_cell BV.out 1).trans rfl
    have v2 : V0.cell? ⟨gv, 2, none⟩ = some (.int .i64 t3) := (blk_cell BV.out 2).trans rfl
    have rr0 : V0.cell? ⟨gr, 0, none⟩ = some (.bool false) := (blk_cell (blk_below HR.out EV.out.b) 0).trans rfl
    have z0 : V0.frozen? ⟨gr, 0, none⟩ = false := blk_frozen (blk_below HR.out EV.out.b) 0
    have rr1 : V0.cell? ⟨gr, 1, none⟩ = some (.int .i64 0) := (blk_cell (blk_below HR.out EV.out.b) 1).trans rfl
    have z1 : V0.frozen? ⟨gr, 1, none⟩ = false := blk_frozen (blk_below HR.out EV.out.b) 1
    have rr2 : V0.cell? ⟨gr, 2, none⟩ = some (.int .i64 0) := (blk_cell (blk_below HR.out EV.out.b) 2).trans rfl
    have z2 : V0.frozen? ⟨gr, 2, none⟩ = false := blk_frozen (blk_below HR.out EV.out.b) 2
    go_wp2
    refine bodyPost_ret (results_cell_row rfl _ _ gr 31 #[.bool false, .int .i64 t2, .int .i64 t3] (0, 0) _ rfl (h18_blk3 (blk_below HR.out EV.out.b) _ _ _) Try.underlying31 rfl (by kernel_rfl)) rfl ⟨rfl, h18_below3 (below_step HB.out EV.out.b) (by have := HGB.out; have := HGR.out; omega) _ _ _⟩
  | true =>
    rw [if_neg (by decide)] at h
    have v0 : V0.cell? ⟨gv, 0, none⟩ = some (.bool true) := (blk_cell BV.out 0).trans rfl
    have v1 : V0.cell? ⟨gv, 1, none⟩ = some (.int .i64 t2) := (blk_cell BV.out 1).trans rfl
    have v2 : V0.cell? ⟨gv, 2, none⟩ = some (.int .i64 t3) := (blk_cell BV.out 2).trans rfl
    have x0 : V0.cell? ⟨gx, 0, none⟩ = some (.int .i64 nd.f0) := (blk_cell EV.out.x 0).trans rfl
    go_upto_region 36 with (fail)
    have c7 : nd.f0 = 7 := HS.out
    rw [if_pos c7] at h
    have b7 : (nd.f0 == 7) = true := beq_iff_eq.2 c7
    clear c7
    by_cases ct : t2 < 0
    · rw [if_pos ct] at h
      have ctb : decide (t2 < 0) = true := decide_eq_true ct
      clear ct
      simp only [Option.some.injEq, Prod.mk.injEq] at h
      obtain ⟨rfl, rfl, rfl⟩ := h
      have rr0 : V0.cell? ⟨gr, 0, none⟩ = some (.bool false) := (blk_cell (blk_below HR.out EV.out.b) 0).trans rfl
      have z0 : V0.frozen? ⟨gr, 0, none⟩ = false := blk_frozen (blk_below HR.out EV.out.b) 0
      have rr1 : V0.cell? ⟨gr, 1, none⟩ = some (.int .i64 0) := (blk_cell (blk_below HR.out EV.out.b) 1).trans rfl
      have z1 : V0.frozen? ⟨gr, 1, none⟩ = false := blk_frozen (blk_below HR.out EV.out.b) 1
      have rr2 : V0.cell? ⟨gr, 2, none⟩ = some (.int .i64 0) := (blk_cell (blk_below HR.out EV.out.b) 2).trans rfl
      have z2 : V0.frozen? ⟨gr, 2, none⟩ = false := blk_frozen (blk_below HR.out EV.out.b) 2
      go_wp2
      refine bodyPost_ret (results_cell_row rfl _ _ gr 31 #[.bool true, .int .i64 a3, .int .i64 t3] (0, 0) _ rfl (h18_blk3 (blk_below HR.out EV.out.b) _ _ _) Try.underlying31 rfl (by kernel_rfl)) rfl ⟨rfl, h18_below3 (below_step HB.out EV.out.b) (by have := HGB.out; have := HGR.out; omega) _ _ _⟩
    · rw [if_neg ct] at h
      have ctb : decide (t2 < 0) = false := decide_eq_false ct
      clear ct
      simp only [Option.some.injEq, Prod.mk.injEq] at h
      obtain ⟨rfl, rfl, rfl⟩ := h
      have rr0 : V0.cell? ⟨gr, 0, none⟩ = some (.bool false) := (blk_cell (blk_below HR.out EV.out.b) 0).trans rfl
      have z0 : V0.frozen? ⟨gr, 0, none⟩ = false := blk_frozen (blk_below HR.out EV.out.b) 0
      have rr1 : V0.cell? ⟨gr, 1, none⟩ = some (.int .i64 0) := (blk_cell (blk_below HR.out EV.out.b) 1).trans rfl
      have z1 : V0.frozen? ⟨gr, 1, none⟩ = false := blk_frozen (blk_below HR.out EV.out.b) 1
      have rr2 : V0.cell? ⟨gr, 2, none⟩ = some (.int .i64 0) := (blk_cell (blk_below HR.out EV.out.b) 2).trans rfl
      have z2 : V0.frozen? ⟨gr, 2, none⟩ = false := blk_frozen (blk_below HR.out EV.out.b) 2
      go_wp2
      refine bodyPost_ret (results_cell_row rfl _ _ gr 31 #[.bool true, .int .i64 t2, .int .i64 t3] (0, 0) _ rfl (h18_blk3 (blk_below HR.out EV.out.b) _ _ _) Try.underlying31 rfl (by kernel_rfl)) rfl ⟨rfl, h18_below3 (below_step HB.out EV.out.b) (by have := HGB.out; have := HGR.out; omega) _ _ _⟩
end Go.Proofs.Ythgedejnpgcacaa.V
namespace Go.Proofs.Ythgedejnpgcacaa.V
open Go.RowKit Go.Proofs.YthgedejnpgcacaaW.PrintWords Go.Proofs.YthgedejnpgcacaaW.PrintLast Go.Proofs.YthgedejnpgcacaaW.PrintMore
set_option linter.unusedVariables false
set_option linter.unusedSimpArgs false
set_option maxHeartbeats 4000000 in
set_option maxRecDepth 100000 in
theorem vetchref18_Node.calls_s8 (k : Nat) (ih : ∀ (A0_0 : Option Addr) (c0_0 : Nat) (l0_0 : List S51) (A0_1 : Option Addr) (c0_1 : Nat) (l0_1 : List S56) (a1 : Int) (a2 : ByteArray) (a3 a4 : Int) (r1 : Bool) (r2 r3 : Int) (w : World)
    (hr0_0 : Kd.C k51 w A0_0 l0_0.length l0_0) (hc0_0 : l0_0.length ≤ c0_0) (hr0_1 : Kd.C k56 w A0_1 l0_1.length l0_1) (hc0_1 : l0_1.length ≤ c0_1) (h : vetchref18_Node.f k l0_0 l0_1 a1 a2 a3 a4 = some (r1, r2, r3)), Calls Try.prog 12 #[.agg #[.slice A0_0 l0_0.length c0_0, .slice A0_1 l0_1.length c0_1], .int .i64 a1, .string a2, .int .i64 a3, .int .i64 a4] w fun e w' => e = .returned (.agg #[.bool r1, .int .i64 r2, .int .i64 r3]) ∧ Below w.heap.size w w')
    (A0_0 : Option Addr) (c0_0 : Nat) (l0_0 : List S51) (A0_1 : Option Addr) (c0_1 : Nat) (l0_1 : List S56) (a1 : Int) (a2 : ByteArray) (a3 a4 : Int) (r1 : Bool) (r2 r3 : Int) (w : World)
    (hr0_0 : Kd.C k51 w A0_0 l0_0.length l0_0) (hc0_0 : l0_0.length ≤ c0_0) (hr0_1 : Kd.C k56 w A0_1 l0_1.length l0_1) (hc0_1 : l0_1.length ≤ c0_1) (hs : Aside0 (¬ a4 < 1 ∧ (0 ≤ a1 ∧ a1 < (l0_1.length : Int)) ∧ (rd_T56 l0_1 a1).f0 = 8)) (h : vetchref18_Node.f (k + 1) l0_0 l0_1 a1 a2 a3 a4 = some (r1, r2, r3)) :
    Calls Try.prog 12 #[.agg #[.slice A0_0 l0_0.length c0_0, .slice A0_1 l0_1.length c0_1], .int .i64 a1, .string a2, .int .i64 a3, .int .i64 a4] w fun e w' => e = .returned (.agg #[.bool r1, .int .i64 r2, .int .i64 r3]) ∧ Below w.heap.size w w' := by
  rw [vetchref18_Node.f] at h
  have IH := Aside0.mk ih
  clear ih
  have hu25 := Try.underlying25
  have hu31 := Try.underlying31
  have hu56 := Try.underlying56
  have hu51 := Try.underlying51
  have hu54 := Try.underlying54
  have HB := Aside0.mk (below_alloc (below_alloc (Below.refl w.heap.size w) (.cells #[.slice A0_0 l0_0.length c0_0, .slice A0_1 l0_1.length c0_1] 25)) (.cells #[.bool false, .int .i64 0, .int .i64 0] 31))
  have HG := Aside0.mk (blk_alloc (blk_new w (.cells #[.slice A0_0 l0_0.length c0_0, .slice A0_1 l0_1.length c0_1] 25)) (.cells #[.bool false, .int .i64 0, .int .i64 0] 31))
  have HR := Aside0.mk (blk_new (w.alloc (.cells #[.slice A0_0 l0_0.length c0_0, .slice A0_1 l0_1.length c0_1] 25)) (.cells #[.bool false, .int .i64 0, .int .i64 0] 31))
  have hsz : ((w.alloc (.cells #[.slice A0_0 l0_0.length c0_0, .slice A0_1 l0_1.length c0_1] 25)).alloc (.cells #[.bool false, .int .i64 0, .int .i64 0] 31)).heap.size = w.heap.size + 1 + 1 := by rw [h18_size, h18_size]
  rw [h18_size] at HR
  have HC0 := Aside0.mk (Kd.C_below hr0_0 HB.out)
  have HC1 := Aside0.mk (Kd.C_below hr0_1 HB.out)
  have HW := Aside0.mk hsz
  clear hr0_0 hr0_1 hsz
  rw [if_neg hs.out.1, if_pos hs.out.2.1] at h
  have c4b : decide (a4 < 1) = false := decide_eq_false hs.out.1
  have H := Aside0.mk h
  clear h
  go_enter Try.func12, Try.ntmps12
  go_upto_region 1 with (fail)
  generalize ((w.alloc (.cells #[.slice A0_0 l0_0.length c0_0, .slice A0_1 l0_1.length c0_1] 25)).alloc (.cells #[.bool false, .int .i64 0, .int .i64 0] 31)) = W1 at HB HG HR HC0 HC1 HW ⊢
  obtain ⟨gb, hgb⟩ : ∃ gb, gb = w.heap.size := ⟨_, rfl⟩
  obtain ⟨gr, hgr⟩ : ∃ gr, gr = gb + 1 := ⟨_, rfl⟩
  rw [← hgb] at HW HG HR ⊢
  rw [← hgr] at HR ⊢
  have HGB := Aside0.mk hgb
  have HGR := Aside0.mk hgr
  clear hgb hgr
  go_upto_region 4 with (fail)
  clear c4b
  have g1 : W1.cell? ⟨gb, 1, none⟩ = some (.slice A0_1 l0_1.length c0_1) := (blk_cell HG.out 1).trans rfl
  have p2 := hs.out.2.1.1
  have p3 := hs.out.2.1.2
  obtain ⟨ad, Ak, ck, e, k0, k1, k2, k3, k4, k5, k6, hlk, hCk⟩ := at_T56 HC1.out a1 p2 p3
  cases e
  have HCk := Aside0.mk hCk
  have HLk := Aside0.mk hlk
  clear hCk hlk
  replace p2 := eq_true p2
  replace p3 := eq_true p3
  go_upto_region 5 with (fail)
  have HS := Aside0.mk hs.out.2.2
  clear hs
  generalize rd_T56 l0_1 a1 = nd at *
  obtain ⟨gx, hgx⟩ : ∃ gx, gx = W1.heap.size := ⟨_, rfl⟩
  have E2 : Aside0 (Env18 W1 gx #[.int .i64 nd.f0, .slice Ak nd.f1.length ck, .int .i64 nd.f2, .int .u64 nd.f3.f0, .int .u64 nd.f3.f1, .int .u64 nd.f3.f2, .int .u64 nd.f3.f3] (W1.alloc (.cells #[.int .i64 nd.f0, .slice Ak nd.f1.length ck, .int .i64 nd.f2, .int .u64 nd.f3.f0, .int .u64 nd.f3.f1, .int .u64 nd.f3.f2, .int .u64 nd.f3.f3] 56))) := ⟨by rw [hgx]; exact blk_new W1 (.cells #[.int .i64 nd.f0, .slice Ak nd.f1.length ck, .int .i64 nd.f2, .int .u64 nd.f3.f0, .int .u64 nd.f3.f1, .int .u64 nd.f3.f2, .int .u64 nd.f3.f3] 56), below_alloc (Below.refl _ _) _⟩
  have HGX := Aside0.mk hgx
  rw [← hgx]
  generalize W1.alloc (.cells #[.int .i64 nd.f0, .slice Ak nd.f1.length ck, .int .i64 nd.f2, .int .u64 nd.f3.f0, .int .u64 nd.f3.f1, .int .u64 nd.f3.f2, .int .u64 nd.f3.f3] 56) = W2 at E2 ⊢
  clear k0 k1 k2 k3 k4 k5 k6 g1 hgx p2 p3
  have h := H.out
  clear H
  have hnd : Aside0 (gb < W1.heap.size ∧ gr < W1.heap.size) := ⟨by have := HW.out; have := HGR.out; omega⟩
  generalize wrap64 (a4 - 1) = u at *
  have x0 : W2.cell? ⟨gx, 0, none⟩ = some (.int .i64 nd.f0) := (blk_cell E2.out.x 0).trans rfl
  go_upto_region 6 with (fail)
  clear x0
  have c0 : ¬ nd.f0 = 0 := by have := HS.out; omega
  rw [if_neg c0] at h
  have b0 : (nd.f0 == 0) = false := beq_eq_false_iff_ne.2 c0
  clear c0
  go_upto_region 8 with (fail)
  clear b0
  have c1 : ¬ nd.f0 = 1 := by have := HS.out; omega
  rw [if_neg c1] at h
  have b1 : (nd.f0 == 1) = false := beq_eq_false_iff_ne.2 c1
  clear c1
  go_upto_region 12 with (fail)
  clear b1
  have c2 : ¬ nd.f0 = 2 := by have := HS.out; omega
  rw [if_neg c2] at h
  have b2 : (nd.f0 == 2) = false := beq_eq_false_iff_ne.2 c2
  clear c2
  go_upto_region 14 with (fail)
  clear b2
  have c3 : ¬ nd.f0 = 3 := by have := HS.out; omega
  rw [if_neg c3] at h
  have b3 : (nd.f0 == 3) = false := beq_eq_false_iff_ne.2 c3
  clear c3
  go_upto_region 23 with (fail)
  clear b3
  have c4 : ¬ nd.f0 = 4 := by have := HS.out; omega
  rw [if_neg c4] at h
  have b4 : (nd.f0 == 4) = false := beq_eq_false_iff_ne.2 c4
  clear c4
  by_cases ck0 : nd.f1 = []
  · rw [if_pos ck0] at h
    exact absurd h (by simp)
  rw [if_neg ck0] at h
  have q9 := h18_mem nd.f1 ck0
  have HQ9 := Aside0.mk q9
  clear ck0
  obtain ⟨⟨t1, t2, t3⟩, ht, h⟩ := Option.bind_eq_some_iff.1 h
  dsimp only at ht h
  have HT := Aside0.mk ht
  have HA := Aside0.mk h
  clear ht h
  obtain ⟨ad1, he1, kc⟩ := Kd.at_int HCk.out 0 (Int.le_refl 0) HQ9.out
  cases he1
  replace kc : W1.cell? ad1 = some (.int .i64 (rd nd.f1 0)) := by simpa [Addr.add] using kc
  have HKC := Aside0.mk kc
  clear kc q9
  have kc := (E2.out.b.cell (World.block_lt_of_cell? W1 _ HKC.out)).trans HKC.out
  have x1 : W2.cell? ⟨gx, 1, none⟩ = some (.slice (some ad1) nd.f1.length ck) := (blk_cell E2.out.x 1).trans rfl
  have g0 : W2.cell? ⟨gb, 0, none⟩ = some (.slice A0_0 l0_0.length c0_0) := (blk_cell (blk_below HG.out E2.out.b) 0).trans rfl
  have g1 : W2.cell? ⟨gb, 1, none⟩ = some (.slice (some ad) l0_1.length c0_1) := (blk_cell (blk_below HG.out E2.out.b) 1).trans rfl
  have q9i := eq_true HQ9.out
  have q9n : (0 < nd.f1.length) = True := eq_true (by have := HQ9.out; omega)
  go_upto_region 32 with (fail)
  clear b4
  have EW := Aside0.mk E2.out.drew
  clear kc x1 g0 g1
  refine start_ (n := 11) (S := fun w' => w'.cell? ⟨gb, 0, none⟩ = some (.slice A0_0 l0_0.length c0_0) ∧ w'.cell? ⟨gb, 1, none⟩ = some (.slice (some ad) l0_1.length c0_1) ∧ w'.cell? ⟨gx, 1, none⟩ = some (.slice (some ad1) nd.f1.length ck) ∧ w'.cell? ad1 = some (.int .i64 (rd nd.f1 0))) (ds := []) #[false, false, false, false, false, false, false, false, false, false, false] (by kernel_rfl) rfl rfl ⟨(blk_cell (blk_below HG.out EW.out.b) 0).trans rfl, (blk_cell (blk_below HG.out EW.out.b) 1).trans rfl, (blk_cell EW.out.x 1).trans rfl, (EW.out.b.cell (World.block_lt_of_cell? W1 _ HKC.out)).trans HKC.out⟩ (fun hHeld => ?_); refine with_tabW h18_tab32 h18_bits32 (fun HT_ HW_ => ?_)
  generalize W2.drew = W3 at EW hHeld ⊢
  refine pure_ (i := 1) (N := some 136) (v := ?_) (a' := ?_) #[false, true, false, false, false, false, false, false, false, false, false] rfl rfl (any_of HT_.out (by kernel_rfl)) (fun _ _ _ h => h) (Or.inl ⟨by rfl, ?_⟩) ?_ ?_
  rotate_left
  ·
   intro w'
   go_simp
   with_reducible rfl
  rotate_left
  ·
   simp only [Act.put, List.setIfInBounds_toArray, List.set_cons_zero, List.set_cons_succ, i64_w, i32_w]
   rfl
  refine pure_ (i := 5) (N := some 140) (v := ?_) (a' := ?_) #[false, true, false, false, false, true, false, false, false, false, false] rfl rfl (any_of HT_.out (by kernel_rfl)) (fun _ _ _ h => h) (Or.inl ⟨by rfl, ?_⟩) ?_ ?_
  rotate_left
  ·
   intro w'
   go_simp
   with_reducible rfl
  rotate_left
  ·
   simp only [Act.put, List.setIfInBounds_toArray, List.set_cons_zero, List.set_cons_succ, i64_w, i32_w]
   rfl
  refine pure_ (i := 6) (N := some 141) (v := ?_) (a' := ?_) #[false, true, false, false, false, true, true, false, false, false, false] rfl rfl (any_of HT_.out (by kernel_rfl)) (fun _ _ _ h => h) (Or.inl ⟨by rfl, ?_⟩) ?_ ?_
  rotate_left
  ·
   intro w'
   go_simp
   with_reducible rfl
  rotate_left
  ·
   simp only [Act.put, List.setIfInBounds_toArray, List.set_cons_zero, List.set_cons_succ, i64_w, i32_w]
   rfl
  refine pure_ (i := 7) (N := some 142) (v := ?_) (a' := ?_) #[false, true, false, false, false, true, true, true, false, false, false] rfl rfl (any_of HT_.out (by kernel_rfl)) (fun _ _ _ h => h) (Or.inl ⟨by rfl, ?_⟩) ?_ ?_
  rotate_left
  ·
   intro w'
   go_simp
   with_reducible rfl
  rotate_left
  ·
   simp only [Act.put, List.setIfInBounds_toArray, List.set_cons_zero, List.set_cons_succ, i64_w, i32_w]
   rfl
  refine take_ (i := 0) (N := some 135) (v := ?_) (a' := ?_) #[true, true, false, false, false, true, true, true, false, false, false] rfl rfl (take_ofW HT_.out HW_.out (by kernel_rfl)) (fun _ _ _ h => h) (Or.inl ⟨by rfl, ?_⟩) hHeld ?_ ?_
  rotate_left
  ·
   rintro w' ⟨s0, s1, s2, s3⟩
   go_simp
   with_reducible rfl
  rotate_left
  ·
   simp only [Act.put, List.setIfInBounds_toArray, List.set_cons_zero, List.set_cons_succ, i64_w, i32_w]
   rfl
  refine take_ (i := 2) (N := some 137) (v := ?_) (a' := ?_) #[true, true, true, false, false, true, true, true, false, false, false] rfl rfl (take_ofW HT_.out HW_.out (by kernel_rfl)) (fun _ _ _ h => h) (Or.inl ⟨by rfl, ?_⟩) hHeld ?_ ?_
  rotate_left
  ·
   rintro w' ⟨s0, s1, s2, s3⟩
   go_simp
   with_reducible rfl
  rotate_left
  ·
   simp only [Act.put, List.setIfInBounds_toArray, List.set_cons_zero, List.set_cons_succ, i64_w, i32_w]
   rfl
  refine pure_ (i := 3) (N := some 138) (v := ?_) (a' := ?_) #[true, true, true, true, false, true, true, true, false, false, false] rfl rfl (any_of HT_.out (by kernel_rfl)) (fun _ _ _ h => h) (Or.inl ⟨by rfl, ?_⟩) ?_ ?_
  rotate_left
  ·
   intro w'
   go_simp
   with_reducible rfl
  rotate_left
  ·
   simp only [Act.put, List.setIfInBounds_toArray, List.set_cons_zero, List.set_cons_succ, i64_w, i32_w]
   rfl
  refine take_ (i := 4) (N := some 139) (v := ?_) (a' := ?_) #[true, true, true, true, true, true, true, true, false, false, false] rfl rfl (take_ofW HT_.out HW_.out (by kernel_rfl)) (fun _ _ _ h => h) (Or.inl ⟨by rfl, ?_⟩) hHeld ?_ ?_
  rotate_left
  ·
   rintro w' ⟨s0, s1, s2, s3⟩
   go_simp
   with_reducible rfl
  rotate_left
  ·
   simp only [Act.put, List.setIfInBounds_toArray, List.set_cons_zero, List.set_cons_succ, i64_w, i32_w]
   rfl
  refine join_ (σ := Nat) 1 #[true, true, true, true, true, true, true, true, true, true, false] (fun s_ => [(143, .agg #[.bool t1, .int .i64 t2, .int .i64 t3]), (16, .pointer (some ⟨s_, 0, none⟩))]) (fun s_ w' => (w'.cell? ⟨gb, 0, none⟩ = some (.slice A0_0 l0_0.length c0_0) ∧ w'.cell? ⟨gb, 1, none⟩ = some (.slice (some ad) l0_1.length c0_1) ∧ w'.cell? ⟨gx, 1, none⟩ = some (.slice (some ad1) nd.f1.length ck) ∧ w'.cell? ad1 = some (.int .i64 (rd nd.f1 0))) ∧ Env18 W1 gx #[.int .i64 nd.f0, .slice (some ad1) nd.f1.length ck, .int .i64 nd.f2, .int .u64 nd.f3.f0, .int .u64 nd.f3.f1, .int .u64 nd.f3.f2, .int .u64 nd.f3.f3] w' ∧ w'.heap[s_]? = some (.cells #[.bool false, .int .i64 0, .int .i64 0] 31 (0, 0)) ∧ gx ≠ s_ ∧ W1.heap.size ≤ s_) ?_ ?_
  rotate_left
  ·
   intro hCont
   refine two_ (i := 8) (j := 9) (Ni := some 143) (Nj := some 16) #[true, true, true, true, true, true, true, true, true, false, false] #[true, true, true, true, true, true, true, true, false, true, false] rfl rfl rfl rfl (two_of HT_.out (by kernel_rfl)) (by decide) (by decide) (fun K hK => ?_) (fun K hK => ?_)
   ·
    refine goes_ Try.func12 (by kernel_rfl) rfl #[.agg #[.slice A0_0 l0_0.length c0_0, .slice (some ad) l0_1.length c0_1], .int .i64 (rd nd.f1 0), .string a2, .int .i64 a3, .int .i64 u] (by rfl) rfl rfl (by (try simp only [List.map_toArray, List.map_cons, List.map_nil]); first | done | rfl) ?_
    refine (IH.out _ _ l0_0 _ _ l0_1 (rd nd.f1 0) a2 a3 u t1 t2 t3 _ (Kd.C_below HC0.out EW.out.b) hc0_0 (Kd.C_below HC1.out EW.out.b) hc0_1 HT.out).mono ?_
    rintro e_ V1 ⟨rfl, hb⟩
    refine ⟨_, rfl, ?_⟩
    have EV1 := Aside0.mk (EW.out.below hb)
    refine hK.out _ _ ⟨(blk_cell (blk_below HG.out EV1.out.b) 0).trans rfl, (blk_cell (blk_below HG.out EV1.out.b) 1).trans rfl, (blk_cell EV1.out.x 1).trans rfl, (EV1.out.b.cell (World.block_lt_of_cell? W1 _ HKC.out)).trans HKC.out⟩ (fun hHeld => ?_)
    clear hK K
    refine norm_ (a' := ?_) ?_ ?_
    rotate_left
    ·
     show Act.put _ (some 143) _ = _
     simp only [Act.put, List.setIfInBounds_toArray, List.set_cons_zero, List.set_cons_succ, i64_w, i32_w]
     rfl
    refine one_ (i := 9) (N := some 16) #[true, true, true, true, true, true, true, true, true, true, false] rfl rfl (one_of HT_.out (by kernel_rfl)) (by decide) (fun K hK => ?_)
    clear hb
    refine box_step ?hg (N := 16) ?hd (cs := #[.bool false, .int .i64 0, .int .i64 0]) (t := 31) ?hr ?_; (case hd => rfl); (case hg => rfl); (case hr => first | (go_simp; done) | (go_simp; rfl))
    intro gv hg V2 hbox hb
    have HBX : gx ≠ gv ∧ W1.heap.size ≤ gv := by rw [hg]; have := blk_lt EV1.out.x; have := EV1.out.b.size; omega
    have EV2 := Aside0.mk (EV1.out.below hb)
    refine hK.out _ _ ⟨(blk_cell (blk_below HG.out EV2.out.b) 0).trans rfl, (blk_cell (blk_below HG.out EV2.out.b) 1).trans rfl, (blk_cell EV2.out.x 1).trans rfl, (EV2.out.b.cell (World.block_lt_of_cell? W1 _ HKC.out)).trans HKC.out⟩ (fun hHeld => ?_)
    clear hK K
    refine norm_ (a' := ?_) ?_ ?_
    rotate_left
    ·
     show Act.put _ (some 16) _ = _
     simp only [Act.put, List.setIfInBounds_toArray, List.set_cons_zero, List.set_cons_succ, i64_w, i32_w]
     rfl
    exact norm_ (by simp only [putAll, Act.put, List.setIfInBounds_toArray, List.set_cons_zero, List.set_cons_succ]) (hCont gv _ ⟨hHeld, EV2.out, hbox, HBX.1, HBX.2⟩)
   ·
    refine box_step ?hg (N := 16) ?hd (cs := #[.bool false, .int .i64 0, .int .i64 0]) (t := 31) ?hr ?_; (case hd => rfl); (case hg => rfl); (case hr => first | (go_simp; done) | (go_simp; rfl))
    intro gv hg V1 hbox hb
    have HBX : gx ≠ gv ∧ W1.heap.size ≤ gv := by rw [hg]; have := blk_lt EW.out.x; have := EW.out.b.size; omega
    have EV1 := Aside0.mk (EW.out.below hb)
    have BX := Aside0.mk hbox
    have HBX := Aside0.mk HBX
    clear hbox hb hg
    refine hK.out _ _ ⟨(blk_cell (blk_below HG.out EV1.out.b) 0).trans rfl, (blk_cell (blk_below HG.out EV1.out.b) 1).trans rfl, (blk_cell EV1.out.x 1).trans rfl, (EV1.out.b.cell (World.block_lt_of_cell? W1 _ HKC.out)).trans HKC.out⟩ (fun hHeld => ?_)
    clear hK K
    refine norm_ (a' := ?_) ?_ ?_
    rotate_left
    ·
     show Act.put _ (some 16) _ = _
     simp only [Act.put, List.setIfInBounds_toArray, List.set_cons_zero, List.set_cons_succ, i64_w, i32_w]
     rfl
    refine one_ (i := 8) (N := some 143) #[true, true, true, true, true, true, true, true, true, true, false] rfl rfl (one_of HT_.out (by kernel_rfl)) (by decide) (fun K hK => ?_)
    refine goes_ Try.func12 (by kernel_rfl) rfl #[.agg #[.slice A0_0 l0_0.length c0_0, .slice (some ad) l0_1.length c0_1], .int .i64 (rd nd.f1 0), .string a2, .int .i64 a3, .int .i64 u] (by rfl) rfl rfl (by (try simp only [List.map_toArray, List.map_cons, List.map_nil]); first | done | rfl) ?_
    refine (IH.out _ _ l0_0 _ _ l0_1 (rd nd.f1 0) a2 a3 u t1 t2 t3 _ (Kd.C_below HC0.out EV1.out.b) hc0_0 (Kd.C_below HC1.out EV1.out.b) hc0_1 HT.out).mono ?_
    rintro e_ V2 ⟨rfl, hb⟩
    refine ⟨_, rfl, ?_⟩
    have EV2 := Aside0.mk (EV1.out.below hb)
    refine hK.out _ _ ⟨(blk_cell (blk_below HG.out EV2.out.b) 0).trans rfl, (blk_cell (blk_below HG.out EV2.out.b) 1).trans rfl, (blk_cell EV2.out.x 1).trans rfl, (EV2.out.b.cell (World.block_lt_of_cell? W1 _ HKC.out)).trans HKC.out⟩ (fun hHeld => ?_)
    clear hK K
    refine norm_ (a' := ?_) ?_ ?_
    rotate_left
    ·
     show Act.put _ (some 143) _ = _
     simp only [Act.put, List.setIfInBounds_toArray, List.set_cons_zero, List.set_cons_succ, i64_w, i32_w]
     rfl
    exact norm_ (by simp only [putAll, Act.put, List.setIfInBounds_toArray, List.set_cons_zero, List.set_cons_succ]) (hCont gv _ ⟨hHeld, EV2.out, blk_below BX.out hb, HBX.out.1, HBX.out.2⟩)
  rintro gv V3 ⟨hHeld, hE_, hB_, hn_, hg_⟩
  have EV3 := Aside0.mk hE_
  have BV3 := Aside0.mk hB_
  have HV : Aside0 (gx ≠ gv ∧ W1.heap.size ≤ gv ∧ gr ≠ gv) := ⟨hn_, hg_, by have := hnd.out; omega⟩
  clear hE_ hB_ hn_ hg_
  refine norm_ (a' := ?_) ?_ ?_
  rotate_left
  ·
   simp only [putAll, Act.put, List.setIfInBounds_toArray, List.set_cons_zero, List.set_cons_succ]
   rfl
  refine one_ (i := 10) (N := none) #[true, true, true, true, true, true, true, true, true, true, true] rfl rfl (one_of HT_.out (by kernel_rfl)) (by decide) (fun K hK => ?_)
  have v0 : V3.cell? ⟨gv, 0, none⟩ = some (.bool false) := (blk_cell BV3.out 0).trans rfl
  have y0 : V3.frozen? ⟨gv, 0, none⟩ = false := blk_frozen BV3.out 0
  have v1 : V3.cell? ⟨gv, 1, none⟩ = some (.int .i64 0) := (blk_cell BV3.out 1).trans rfl
  have y1 : V3.frozen? ⟨gv, 1, none⟩ = false := blk_frozen BV3.out 1
  have v2 : V3.cell? ⟨gv, 2, none⟩ = some (.int .i64 0) := (blk_cell BV3.out 2).trans rfl
  have y2 : V3.frozen? ⟨gv, 2, none⟩ = false := blk_frozen BV3.out 2
  refine skip_ (w1 := ?_) (by rfl) rfl ?_ ?_
  rotate_left
  ·
   go_simp
   rfl
  have EV := Aside0.mk (EV3.out.put3 HV.out.2.1 HV.out.1 (.bool t1) (.int .i64 t2) (.int .i64 t3))
  have BV := Aside0.mk (h18_blk3 BV3.out (.bool t1) (.int .i64 t2) (.int .i64 t3))
  refine hK.out _ _ ⟨(blk_cell (blk_below HG.out EV.out.b) 0).trans rfl, (blk_cell (blk_below HG.out EV.out.b) 1).trans rfl, (blk_cell EV.out.x 1).trans rfl, (EV.out.b.cell (World.block_lt_of_cell? W1 _ HKC.out)).trans HKC.out⟩ (fun hHeld => ?_)
  clear hK K
  refine done_ (done_of HT_.out (by kernel_rfl)) ?_
  clear hHeld v0 v1 v2 y0 y1 y2
  generalize (((V3.setCell ⟨gv, 0, none⟩ (.bool t1)).setCell ⟨gv, 1, none⟩ (.int .i64 t2)).setCell ⟨gv, 2, none⟩ (.int .i64 t3)) = V0 at EV BV ⊢
  clear EV3 BV3
  have v0 : V0.cell? ⟨gv, 0, none⟩ = some (.bool t1) := (blk_cell BV.out 0).trans rfl
  have v1 : V0.cell? ⟨gv, 1, none⟩ = some (.int .i64 t2) := (blk_cell BV.out 1).trans rfl
  have v2 : V0.cell? ⟨gv, 2, none⟩ = some (.int .i64 t3) := (blk_cell BV.out 2).trans rfl
  go_upto_region 33 with (fail)
  clear v0 v1 v2
  have h := HA.out
  clear HA
  cases t1 with
  | false =>
    rw [if_pos rfl] at h
    simp only [Option.some.injEq, Prod.mk.injEq] at h
    obtain ⟨rfl, rfl, rfl⟩ := h
    have v0 : V0.cell? ⟨gv, 0, none⟩ = some (.bool false) := (blk_cell BV.out 0).trans rfl
    have v1 : V0.cell? ⟨gv, 1, none⟩ = some (.int .i64 t2) := (blk_cell BV.out 1).trans rfl
    have v2 : V0.cell? ⟨gv, 2, none⟩ = some (.int .i64 t3) := (blk_cell BV.out 2).trans rfl
    have rr0 : V0.cell? ⟨gr, 0, none⟩ = some (.bool false) := (blk_cell (blk_below HR.out EV.out.b) 0).trans rfl
    have z0 : V0.frozen? ⟨gr, 0, none⟩ = false := blk_frozen (blk_below HR.out EV.out.b) 0
    have rr1 : V0.cell? ⟨gr, 1, none⟩ = some (.int .i64 0) := (blk_cell (blk_below HR.out EV.out.b) 1).trans rfl
    have z1 : V0.frozen? ⟨gr, 1, none⟩ = false := blk_frozen (blk_below HR.out EV.out.b) 1
    have rr2 : V0.cell? ⟨gr, 2, none⟩ = some (.int .i64 0) := (blk_cell (blk_below HR.out EV.out.b) 2).trans rfl
    have z2 : V0.frozen? ⟨gr, 2, none⟩ = false := blk_frozen (blk_below HR.out EV.out.b) 2
    go_wp2
    refine bodyPost_ret (results_cell_row rfl _ _ gr 31 #[.bool false, .int .i64 t2, .int .i64 t3] (0, 0) _ rfl (h18_blk3 (blk_below HR.out EV.out.b) _ _ _) Try.underlying31 rfl (by kernel_rfl)) rfl ⟨rfl, h18_below3 (below_step HB.out EV.out.b) (by have := HGB.out; have := HGR.out; omega) _ _ _⟩
  | true =>
    rw [if_neg (by decide)] at h
    have v0 : V0.cell? ⟨gv, 0, none⟩ = some (.bool true) := (blk_cell BV.out 0).trans rfl
    have v1 : V0.cell? ⟨gv, 1, none⟩ = some (.int .i64 t2) := (blk_cell BV.out 1).trans rfl
    have v2 : V0.cell? ⟨gv, 2, none⟩ = some (.int .i64 t3) := (blk_cell BV.out 2).trans rfl
    have x0 : V0.cell? ⟨gx, 0, none⟩ = some (.int .i64 nd.f0) := (blk_cell EV.out.x 0).trans rfl
    go_upto_region 36 with (fail)
    have c7 : ¬ nd.f0 = 7 := by have := HS.out; omega
    rw [if_neg c7] at h
    have b7 : (nd.f0 == 7) = false := beq_eq_false_iff_ne.2 c7
    clear c7
    go_upto_region 40 with (fail)
    clear b7
    have c8 : nd.f0 = 8 := HS.out
    rw [if_pos c8] at h
    have b8 : (nd.f0 == 8) = true := beq_iff_eq.2 c8
    clear c8
    by_cases ct : t2 < 0
    · rw [if_pos ct] at h
      have ctb : decide (t2 < 0) = true := decide_eq_true ct
      clear ct
      simp only [Option.some.injEq, Prod.mk.injEq] at h
      obtain ⟨rfl, rfl, rfl⟩ := h
      have rr0 : V0.cell? ⟨gr, 0, none⟩ = some (.bool false) := (blk_cell (blk_below HR.out EV.out.b) 0).trans rfl
      have z0 : V0.frozen? ⟨gr, 0, none⟩ = false := blk_frozen (blk_below HR.out EV.out.b) 0
      have rr1 : V0.cell? ⟨gr, 1, none⟩ = some (.int .i64 0) := (blk_cell (blk_below HR.out EV.out.b) 1).trans rfl
      have z1 : V0.frozen? ⟨gr, 1, none⟩ = false := blk_frozen (blk_below HR.out EV.out.b) 1
      have rr2 : V0.cell? ⟨gr, 2, none⟩ = some (.int .i64 0) := (blk_cell (blk_below HR.out EV.out.b) 2).trans rfl
      have z2 : V0.frozen? ⟨gr, 2, none⟩ = false := blk_frozen (blk_below HR.out EV.out.b) 2
      go_wp2
      refine bodyPost_ret (results_cell_row rfl _ _ gr 31 #[.bool true, .int .i64 t2, .int .i64 t3] (0, 0) _ rfl (h18_blk3 (blk_below HR.out EV.out.b) _ _ _) Try.underlying31 rfl (by kernel_rfl)) rfl ⟨rfl, h18_below3 (below_step HB.out EV.out.b) (by have := HGB.out; have := HGR.out; omega) _ _ _⟩
    · rw [if_neg ct] at h
      have ctb : decide (t2 < 0) = false := decide_eq_false ct
      clear ct
      simp only [Option.some.injEq, Prod.mk.injEq] at h
      obtain ⟨rfl, rfl, rfl⟩ := h
      have rr0 : V0.cell? ⟨gr, 0, none⟩ = some (.bool false) := (blk_cell (blk_below HR.out EV.out.b) 0).trans rfl
      have z0 : V0.frozen? ⟨gr, 0, none⟩ = false := blk_frozen (blk_below HR.out EV.out.b) 0
      have rr1 : V0.cell? ⟨gr, 1, none⟩ = some (.int .i64 0) := (blk_cell (blk_below HR.out EV.out.b) 1).trans rfl
      have z1 : V0.frozen? ⟨gr, 1, none⟩ = false := blk_frozen (blk_below HR.out EV.out.b) 1
      have rr2 : V0.cell? ⟨gr, 2, none⟩ = some (.int .i64 0) := (blk_cell (blk_below HR.out EV.out.b) 2).trans rfl
      have z2 : V0.frozen? ⟨gr, 2, none⟩ = false := blk_frozen (blk_below HR.out EV.out.b) 2
      go_wp2
      refine bodyPost_ret (results_cell_row rfl _ _ gr 31 #[.bool true, .int .i64 a3, .int .i64 t3] (0, 0) _ rfl (h18_blk3 (blk_below HR.out EV.out.b) _ _ _) Try.underlying31 rfl (by kernel_rfl)) rfl ⟨rfl, h18_below3 (below_step HB.out EV.out.b) (by have := HGB.out; have := HGR.out; omega) _ _ _⟩
end Go.Proofs.Ythgedejnpgcacaa.V
namespace Go.Proofs.Ythgedejnpgcacaa.V
open Go.RowKit Go.Proofs.YthgedejnpgcacaaW.PrintWords Go.Proofs.YthgedejnpgcacaaW.PrintLast Go.Proofs.YthgedejnpgcacaaW.PrintMore
set_option linter.unusedVariables false
set_option linter.unusedSimpArgs false
set_option maxHeartbeats 4000000 in
set_option maxRecDepth 100000 in
theorem vetchref18_Node.calls_s9 (k : Nat) (ih : ∀ (A0_0 : Option Addr) (c0_0 : Nat) (l0_0 : List S51) (A0_1 : Option Addr) (c0_1 : Nat) (l0_1 : List S56) (a1 : Int) (a2 : ByteArray) (a3 a4 : Int) (r1 : Bool) (r2 r3 : Int) (w : World)
    (hr0_0 : Kd.C k51 w A0_0 l0_0.length l0_0) (hc0_0 : l0_0.length ≤ c0_0) (hr0_1 : Kd.C k56 w A0_1 l0_1.length l0_1) (hc0_1 : l0_1.length ≤ c0_1) (h : vetchref18_Node.f k l0_0 l0_1 a1 a2 a3 a4 = some (r1, r2, r3)), Calls Try.prog 12 #[.agg #[.slice A0_0 l0_0.length c0_0, .slice A0_1 l0_1.length c0_1], .int .i64 a1, .string a2, .int .i64 a3, .int .i64 a4] w fun e w' => e = .returned (.agg #[.bool r1, .int .i64 r2, .int .i64 r3]) ∧ Below w.heap.size w w')
    (A0_0 : Option Addr) (c0_0 : Nat) (l0_0 : List S51) (A0_1 : Option Addr) (c0_1 : Nat) (l0_1 : List S56) (a1 : Int) (a2 : ByteArray) (a3 a4 : Int) (r1 : Bool) (r2 r3 : Int) (w : World)
    (hr0_0 : Kd.C k51 w A0_0 l0_0.length l0_0) (hc0_0 : l0_0.length ≤ c0_0) (hr0_1 : Kd.C k56 w A0_1 l0_1.length l0_1) (hc0_1 : l0_1.length ≤ c0_1) (hs : Aside0 (¬ a4 < 1 ∧ (0 ≤ a1 ∧ a1 < (l0_1.length : Int)) ∧ (rd_T56 l0_1 a1).f0 = 9)) (h : vetchref18_Node.f (k + 1) l0_0 l0_1 a1 a2 a3 a4 = some (r1, r2, r3)) :
    Calls Try.prog 12 #[.agg #[.slice A0_0 l0_0.length c0_0, .slice A0_1 l0_1.length c0_1], .int .i64 a1, .string a2, .int .i64 a3, .int .i64 a4] w fun e w' => e = .returned (.agg #[.bool r1, .int .i64 r2, .int .i64 r3]) ∧ Below w.heap.size w w' := by
  rw [vetchref18_Node.f] at h
  have IH := Aside0.mk ih
  clear ih
  have hu25 := Try.underlying25
  have hu31 := Try.underlying31
  have hu56 := Try.underlying56
  have hu51 := Try.underlying51
  have hu54 := Try.underlying54
  have HB := Aside0.mk (below_alloc (below_alloc (Below.refl w.heap.size w) (.cells #[.slice A0_0 l0_0.length c0_0, .slice A0_1 l0_1.length c0_1] 25)) (.cells #[.bool false, .int .i64 0, .int .i64 0] 31))
  have HG := Aside0.mk (blk_alloc (blk_new w (.cells #[.slice A0_0 l0_0.length c0_0, .slice A0_1 l0_1.length c0_1] 25)) (.cells #[.bool false, .int .i64 0, .int .i64 0] 31))
  have HR := Aside0.mk (blk_new (w.alloc (.cells #[.slice A0_0 l0_0.length c0_0, .slice A0_1 l0_1.length c0_1] 25)) (.cells #[.bool false, .int .i64 0, .int .i64 0] 31))
  have hsz : ((w.alloc (.cells #[.slice A0_0 l0_0.length c0_0, .slice A0_1 l0_1.length c0_1] 25)).alloc (.cells #[.bool false, .int .i64 0, .int .i64 0] 31)).heap.size = w.heap.size + 1 + 1 := by rw [h18_size, h18_size]
  rw [h18_size] at HR
  have HC0 := Aside0.mk (Kd.C_below hr0_0 HB.out)
  have HC1 := Aside0.mk (Kd.C_below hr0_1 HB.out)
  have HW := Aside0.mk hsz
  clear hr0_0 hr0_1 hsz
  rw [if_neg hs.out.1, if_pos hs.out.2.1] at h
  have c4b : decide (a4 < 1) = false := decide_eq_false hs.out.1
  have H := Aside0.mk h
  clear h
  go_enter Try.func12, Try.ntmps12
  go_upto_region 1 with (fail)
  generalize ((w.alloc (.cells #[.slice A0_0 l0_0.length c0_0, .slice A0_1 l0_1.length c0_1] 25)).alloc (.cells #[.bool false, .int .i64 0, .int .i64 0] 31)) = W1 at HB HG HR HC0 HC1 HW ⊢
  obtain ⟨gb, hgb⟩ : ∃ gb, gb = w.heap.size := ⟨_, rfl⟩
  obtain ⟨gr, hgr⟩ : ∃ gr, gr = gb + 1 := ⟨_, rfl⟩
  rw [← hgb] at HW HG HR ⊢
  rw [← hgr] at HR ⊢
  have HGB := Aside0.mk hgb
  have HGR := Aside0.mk hgr
  clear hgb hgr
  go_upto_region 4 with (fail)
  clear c4b
  have g1 : W1.cell? ⟨gb, 1, none⟩ = some (.slice A0_1 l0_1.length c0_1) := (blk_cell HG.out 1).trans rfl
  have p2 := hs.out.2.1.1
  have p3 := hs.out.2.1.2
  obtain ⟨ad, Ak, ck, e, k0, k1, k2, k3, k4, k5, k6, hlk, hCk⟩ := at_T56 HC1.out a1 p2 p3
  cases e
  have HCk := Aside0.mk hCk
  have HLk := Aside0.mk hlk
  clear hCk hlk
  replace p2 := eq_true p2
  replace p3 := eq_true p3
  go_upto_region 5 with (fail)
  have HS := Aside0.mk hs.out.2.2
  clear hs
  generalize rd_T56 l0_1 a1 = nd at *
  obtain ⟨gx, hgx⟩ : ∃ gx, gx = W1.heap.size := ⟨_, rfl⟩
  have E2 : Aside0 (Env18 W1 gx #[.int .i64 nd.f0, .slice Ak nd.f1.length ck, .int .i64 nd.f2, .int .u64 nd.f3.f0, .int .u64 nd.f3.f1, .int .u64 nd.f3.f2, .int .u64 nd.f3.f3] (W1.alloc (.cells #[.int .i64 nd.f0, .slice Ak nd.f1.length ck, .int .i64 nd.f2, .int .u64 nd.f3.f0, .int .u64 nd.f3.f1, .int .u64 nd.f3.f2, .int .u64 nd.f3.f3] 56))) := ⟨by rw [hgx]; exact blk_new W1 (.cells #[.int .i64 nd.f0, .slice Ak nd.f1.length ck, .int .i64 nd.f2, .int .u64 nd.f3.f0, .int .u64 nd.f3.f1, .int .u64 nd.f3.f2, .int .u64 nd.f3.f3] 56), below_alloc (Below.refl _ _) _⟩
  have HGX := Aside0.mk hgx
  rw [← hgx]
  generalize W1.alloc (.cells #[.int .i64 nd.f0, .slice Ak nd.f1.length ck, .int .i64 nd.f2, .int .u64 nd.f3.f0, .int .u64 nd.f3.f1, .int .u64 nd.f3.f2, .int .u64 nd.f3.f3] 56) = W2 at E2 ⊢
  clear k0 k1 k2 k3 k4 k5 k6 g1 hgx p2 p3
  have h := H.out
  clear H
  have hnd : Aside0 (gb < W1.heap.size ∧ gr < W1.heap.size) := ⟨by have := HW.out; have := HGR.out; omega⟩
  generalize wrap64 (a4 - 1) = u at *
  have x0 : W2.cell? ⟨gx, 0, none⟩ = some (.int .i64 nd.f0) := (blk_cell E2.out.x 0).trans rfl
  go_upto_region 6 with (fail)
  clear x0
  have c0 : ¬ nd.f0 = 0 := by have := HS.out; omega
  rw [if_neg c0] at h
  have b0 : (nd.f0 == 0) = false := beq_eq_false_iff_ne.2 c0
  clear c0
  go_upto_region 8 with (fail)
  clear b0
  have c1 : ¬ nd.f0 = 1 := by have := HS.out; omega
  rw [if_neg c1] at h
  have b1 : (nd.f0 == 1) = false := beq_eq_false_iff_ne.2 c1
  clear c1
  go_upto_region 12 with (fail)
  clear b1
  have c2 : ¬ nd.f0 = 2 := by have := HS.out; omega
  rw [if_neg c2] at h
  have b2 : (nd.f0 == 2) = false := beq_eq_false_iff_ne.2 c2
  clear c2
  go_upto_region 14 with (fail)
  clear b2
  have c3 : ¬ nd.f0 = 3 := by have := HS.out; omega
  rw [if_neg c3] at h
  have b3 : (nd.f0 == 3) = false := beq_eq_false_iff_ne.2 c3
  clear c3
  go_upto_region 23 with (fail)
  clear b3
  have c4 : ¬ nd.f0 = 4 := by have := HS.out; omega
  rw [if_neg c4] at h
  have b4 : (nd.f0 == 4) = false := beq_eq_false_iff_ne.2 c4
  clear c4
  by_cases ck0 : nd.f1 = []
  · rw [if_pos ck0] at h
    exact absurd h (by simp)
  rw [if_neg ck0] at h
  have q9 := h18_mem nd.f1 ck0
  have HQ9 := Aside0.mk q9
  clear ck0
  obtain ⟨⟨t1, t2, t3⟩, ht, h⟩ := Option.bind_eq_some_iff.1 h
  dsimp only at ht h
  have HT := Aside0.mk ht
  have HA := Aside0.mk h
  clear ht h
  obtain ⟨ad1, he1, kc⟩ := Kd.at_int HCk.out 0 (Int.le_refl 0) HQ9.out
  cases he1
  replace kc : W1.cell? ad1 = some (.int .i64 (rd nd.f1 0)) := by simpa [Addr.add] using kc
  have HKC := Aside0.mk kc
  clear kc q9
  have kc := (E2.out.b.cell (World.block_lt_of_cell? W1 _ HKC.out)).trans HKC.out
  have x1 : W2.cell? ⟨gx, 1, none⟩ = some (.slice (some ad1) nd.f1.length ck) := (blk_cell E2.out.x 1).trans rfl
  have g0 : W2.cell? ⟨gb, 0, none⟩ = some (.slice A0_0 l0_0.length c0_0) := (blk_cell (blk_below HG.out E2.out.b) 0).trans rfl
  have g1 : W2.cell? ⟨gb, 1, none⟩ = some (.slice (some ad) l0_1.length c0_1) := (blk_cell (blk_below HG.out E2.out.b) 1).trans rfl
  have q9i := eq_true HQ9.out
  have q9n : (0 < nd.f1.length) = True := eq_true (by have := HQ9.out; omega)
  go_upto_region 32 with (fail)
  clear b4
  have EW := Aside0.mk E2.out.drew
  clear kc x1 g0 g1
  refine start_ (n := 11) (S := fun w' => w'.cell? ⟨gb, 0, none⟩ = some (.slice A0_0 l0_0.length c0_0) ∧ w'.cell? ⟨gb, 1, none⟩ = some (.slice (some ad) l0_1.length c0_1) ∧ w'.cell? ⟨gx, 1, none⟩ = some (.slice (some ad1) nd.f1.length ck) ∧ w'.cell? ad1 = some (.int .i64 (rd nd.f1 0))) (ds := []) #[false, false, false, false, false, false, false, false, false, false, false] (by kernel_rfl) rfl rfl ⟨(blk_cell (blk_below HG.out EW.out.b) 0).trans rfl, (blk_cell (blk_below HG.out EW.out.b) 1).trans rfl, (blk_cell EW.out.x 1).trans rfl, (EW.out.b.cell (World.block_lt_of_cell? W1 _ HKC.out)).trans HKC.out⟩ (fun hHeld => ?_); refine with_tabW h18_tab32 h18_bits32 (fun HT_ HW_ => ?_)
  generalize W2.drew = W3 at EW hHeld ⊢
  refine pure_ (i := 1) (N := some 136) (v := ?_) (a' := ?_) #[false, true, false, false, false, false, false, false, false, false, false] rfl rfl (any_of HT_.out (by kernel_rfl)) (fun _ _ _ h => h) (Or.inl ⟨by rfl, ?_⟩) ?_ ?_
  rotate_left
  ·
   intro w'
   go_simp
   with_reducible rfl
  rotate_left
  ·
   simp only [Act.put, List.setIfInBounds_toArray, List.set_cons_zero, List.set_cons_succ, i64_w, i32_w]
   rfl
  refine pure_ (i := 5) (N := some 140) (v := ?_) (a' := ?_) #[false, true, false, false, false, true, false, false, false, false, false] rfl rfl (any_of HT_.out (by kernel_rfl)) (fun _ _ _ h => h) (Or.inl ⟨by rfl, ?_⟩) ?_ ?_
  rotate_left
  ·
   intro w'
   go_simp
   with_reducible rfl
  rotate_left
  ·
   simp only [Act.put, List.setIfInBounds_toArray, List.set_cons_zero, List.set_cons_succ, i64_w, i32_w]
   rfl
  refine pure_ (i := 6) (N := some 141) (v := ?_) (a' := ?_) #[false, true, false, false, false, true, true, false, false, false, false] rfl rfl (any_of HT_.out (by kernel_rfl)) (fun _ _ _ h => h) (Or.inl ⟨by rfl, ?_⟩) ?_ ?_
  rotate_left
  ·
   intro w'
   go_simp
   with_reducible rfl
  rotate_left
  ·
   simp only [Act.put, List.setIfInBounds_toArray, List.set_cons_zero, List.set_cons_succ, i64_w, i32_w]
   rfl
  refine pure_ (i := 7) (N := some 142) (v := ?_) (a' := ?_) #[false, true, false, false, false, true, true, true, false, false, false] rfl rfl (any_of HT_.out (by kernel_rfl)) (fun _ _ _ h => h) (Or.inl ⟨by rfl, ?_⟩) ?_ ?_
  rotate_left
  ·
   intro w'
   go_simp
   with_reducible rfl
  rotate_left
  ·
   simp only [Act.put, List.setIfInBounds_toArray, List.set_cons_zero, List.set_cons_succ, i64_w, i32_w]
   rfl
  refine take_ (i := 0) (N := some 135) (v := ?_) (a' := ?_) #[true, true, false, false, false, true, true, true, false, false, false] rfl rfl (take_ofW HT_.out HW_.out (by kernel_rfl)) (fun _ _ _ h => h) (Or.inl ⟨by rfl, ?_⟩) hHeld ?_ ?_
  rotate_left
  ·
   rintro w' ⟨s0, s1, s2, s3⟩
   go_simp
   with_reducible rfl
  rotate_left
  ·
   simp only [Act.put, List.setIfInBounds_toArray, List.set_cons_zero, List.set_cons_succ, i64_w, i32_w]
   rfl
  refine take_ (i := 2) (N := some 137) (v := ?_) (a' := ?_) #[true, true, true, false, false, true, true, true, false, false, false] rfl rfl (take_ofW HT_.out HW_.out (by kernel_rfl)) (fun _ _ _ h => h) (Or.inl ⟨by rfl, ?_⟩) hHeld ?_ ?_
  rotate_left
  ·
   rintro w' ⟨s0, s1, s2, s3⟩
   go_simp
   with_reducible rfl
  rotate_left
  ·
   simp only [Act.put, List.setIfInBounds_toArray, List.set_cons_zero, List.set_cons_succ, i64_w, i32_w]
   rfl
  refine pure_ (i := 3) (N := some 138) (v := ?_) (a' := ?_) #[true, true, true, true, false, true, true, true, false, false, false] rfl rfl (any_of HT_.out (by kernel_rfl)) (fun _ _ _ h => h) (Or.inl ⟨by rfl, ?_⟩) ?_ ?_
  rotate_left
  ·
   intro w'
   go_simp
   with_reducible rfl
  rotate_left
  ·
   simp only [Act.put, List.setIfInBounds_toArray, List.set_cons_zero, List.set_cons_succ, i64_w, i32_w]
   rfl
  refine take_ (i := 4) (N := some 139) (v := ?_) (a' := ?_) #[true, true, true, true, true, true, true, true, false, false, false] rfl rfl (take_ofW HT_.out HW_.out (by kernel_rfl)) (fun _ _ _ h => h) (Or.inl ⟨by rfl, ?_⟩) hHeld ?_ ?_
  rotate_left
  ·
   rintro w' ⟨s0, s1, s2, s3⟩
   go_simp
   with_reducible rfl
  rotate_left
  ·
   simp only [Act.put, List.setIfInBounds_toArray, List.set_cons_zero, List.set_cons_succ, i64_w, i32_w]
   rfl
  refine join_ (σ := Nat) 1 #[true, true, true, true, true, true, true, true, true, true, false] (fun s_ => [(143, .agg #[.bool t1, .int .i64 t2, .int .i64 t3]), (16, .pointer (some ⟨s_, 0, none⟩))]) (fun s_ w' => (w'.cell? ⟨gb, 0, none⟩ = some (.slice A0_0 l0_0.length c0_0) ∧ w'.cell? ⟨gb, 1, none⟩ = some (.slice (some ad) l0_1.length c0_1) ∧ w'.cell? ⟨gx, 1, none⟩ = some (.slice (some ad1) nd.f1.length ck) ∧ w'.cell? ad1 = some (.int .i64 (rd nd.f1 0))) ∧ Env18 W1 gx #[.int .i64 nd.f0, .slice (some ad1) nd.f1.length ck, .int .i64 nd.f2, .int .u64 nd.f3.f0, .int .u64 nd.f3.f1, .int .u64 nd.f3.f2, .int .u64 nd.f3.f3] w' ∧ w'.heap[s_]? = some (.cells #[.bool false, .int .i64 0, .int .i64 0] 31 (0, 0)) ∧ gx ≠ s_ ∧ W1.heap.size ≤ s_) ?_ ?_
  rotate_left
  ·
   intro hCont
   refine two_ (i := 8) (j := 9) (Ni := some 143) (Nj := some 16) #[true, true, true, true, true, true, true, true, true, false, false] #[true, true, true, true, true, true, true, true, false, true, false] rfl rfl rfl rfl (two_of HT_.out (by kernel_rfl)) (by decide) (by decide) (fun K hK => ?_) (fun K hK => ?_)
   ·
    refine goes_ Try.func12 (by kernel_rfl) rfl #[.agg #[.slice A0_0 l0_0.length c0_0, .slice (some ad) l0_1.length c0_1], .int .i64 (rd nd.f1 0), .string a2, .int .i64 a3, .int .i64 u] (by rfl) rfl rfl (by (try simp only [List.map_toArray, List.map_cons, List.map_nil]); first | done | rfl) ?_
    refine (IH.out _ _ l0_0 _ _ l0_1 (rd nd.f1 0) a2 a3 u t1 t2 t3 _ (Kd.C_below HC0.out EW.out.b) hc0_0 (Kd.C_below HC1.out EW.out.b) hc0_1 HT.out).mono ?_
    rintro e_ V1 ⟨rfl, hb⟩
    refine ⟨_, rfl, ?_⟩
    have EV1 := Aside0.mk (EW.out.below hb)
    refine hK.out _ _ ⟨(blk_cell (blk_below HG.out EV1.out.b) 0).trans rfl, (blk_cell (blk_below HG.out EV1.out.b) 1).trans rfl, (blk_cell EV1.out.x 1).trans rfl, (EV1.out.b.cell (World.block_lt_of_cell? W1 _ HKC.out)).trans HKC.out⟩ (fun hHeld => ?_)
    clear hK K
    refine norm_ (a' := ?_) ?_ ?_
    rotate_left
    ·
     show Act.put _ (some 143) _ = _
     simp only [Act.put, List.setIfInBounds_toArray, List.set_cons_zero, List.set_cons_succ, i64_w, i32_w]
     rfl
    refine one_ (i := 9) (N := some 16) #[true, true, true, true, true, true, true, true, true, true, false] rfl rfl (one_of HT_.out (by kernel_rfl)) (by decide) (fun K hK => ?_)
    clear hb
    refine box_step ?hg (N := 16) ?hd (cs := #[.bool false, .int .i64 0, .int .i64 0]) (t := 31) ?hr ?_; (case hd => rfl); (case hg => rfl); (case hr => first | (go_simp; done) | (go_simp; rfl))
    intro gv hg V2 hbox hb
    have HBX : gx ≠ gv ∧ W1.heap.size ≤ gv := by rw [hg]; have := blk_lt EV1.out.x; have := EV1.out.b.size; omega
    have EV2 := Aside0.mk (EV1.out.below hb)
    refine hK.out _ _ ⟨(blk_cell (blk_below HG.out EV2.out.b) 0).trans rfl, (blk_cell (blk_below HG.out EV2.out.b) 1).trans rfl, (blk_cell EV2.out.x 1).trans rfl, (EV2.out.b.cell (World.block_lt_of_cell? W1 _ HKC.out)).trans HKC.out⟩ (fun hHeld => ?_)
    clear hK K
    refine norm_ (a' := ?_) ?_ ?_
    rotate_left
    ·
     show Act.put _ (some 16) _ = _
     simp only [Act.put, List.setIfInBounds_toArray, List.set_cons_zero, List.set_cons_succ, i64_w, i32_w]
     rfl
    exact norm_ (by simp only [putAll, Act.put, List.setIfInBounds_toArray, List.set_cons_zero, List.set_cons_succ]) (hCont gv _ ⟨hHeld, EV2.out, hbox, HBX.1, HBX.2⟩)
   ·
    refine box_step ?hg (N := 16) ?hd (cs := #[.bool false, .int .i64 0, .int .i64 0]) (t := 31) ?hr ?_; (case hd => rfl); (case hg => rfl); (case hr => first | (go_simp; done) | (go_simp; rfl))
    intro gv hg V1 hbox hb
    have HBX : gx ≠ gv ∧ W1.heap.size ≤ gv := by rw [hg]; have := blk_lt EW.out.x; have := EW.out.b.size; omega
    have EV1 := Aside0.mk (EW.out.below hb)
    have BX := Aside0.mk hbox
    have HBX := Aside0.mk HBX
    clear hbox hb hg
    refine hK.out _ _ ⟨(blk_cell (blk_below HG.out EV1.out.b) 0).trans rfl, (blk_cell (blk_below HG.out EV1.out.b) 1).trans rfl, (blk_cell EV1.out.x 1).trans rfl, (EV1.out.b.cell (World.block_lt_of_cell? W1 _ HKC.out)).trans HKC.out⟩ (fun hHeld => ?_)
    clear hK K
    refine norm_ (a' := ?_) ?_ ?_
    rotate_left
    ·
     show Act.put _ (some 16) _ = _
     simp only [Act.put, List.setIfInBounds_toArray, List.set_cons_zero, List.set_cons_succ, i64_w, i32_w]
     rfl
    refine one_ (i := 8) (N := some 143) #[true, true, true, true, true, true, true, true, true, true, false] rfl rfl (one_of HT_.out (by kernel_rfl)) (by decide) (fun K hK => ?_)
    refine goes_ Try.func12 (by kernel_rfl) rfl #[.agg #[.slice A0_0 l0_0.length c0_0, .slice (some ad) l0_1.length c0_1], .int .i64 (rd nd.f1 0), .string a2, .int .i64 a3, .int .i64 u] (by rfl) rfl rfl (by (try simp only [List.map_toArray, List.map_cons, List.map_nil]); first | done | rfl) ?_
    refine (IH.out _ _ l0_0 _ _ l0_1 (rd nd.f1 0) a2 a3 u t1 t2 t3 _ (Kd.C_below HC0.out EV1.out.b) hc0_0 (Kd.C_below HC1.out EV1.out.b) hc0_1 HT.out).mono ?_
    rintro e_ V2 ⟨rfl, hb⟩
    refine ⟨_, rfl, ?_⟩
    have EV2 := Aside0.mk (EV1.out.below hb)
    refine hK.out _ _ ⟨(blk_cell (blk_below HG.out EV2.out.b) 0).trans rfl, (blk_cell (blk_below HG.out EV2.out.b) 1).trans rfl, (blk_cell EV2.out.x 1).trans rfl, (EV2.out.b.cell (World.block_lt_of_cell? W1 _ HKC.out)).trans HKC.out⟩ (fun hHeld => ?_)
    clear hK K
    refine norm_ (a' := ?_) ?_ ?_
    rotate_left
    ·
     show Act.put _ (some 143) _ = _
     simp only [Act.put, List.setIfInBounds_toArray, List.set_cons_zero, List.set_cons_succ, i64_w, i32_w]
     rfl
    exact norm_ (by simp only [putAll, Act.put, List.setIfInBounds_toArray, List.set_cons_zero, List.set_cons_succ]) (hCont gv _ ⟨hHeld, EV2.out, blk_below BX.out hb, HBX.out.1, HBX.out.2⟩)
  rintro gv V3 ⟨hHeld, hE_, hB_, hn_, hg_⟩
  have EV3 := Aside0.mk hE_
  have BV3 := Aside0.mk hB_
  have HV : Aside0 (gx ≠ gv ∧ W1.heap.size ≤ gv ∧ gr ≠ gv) := ⟨hn_, hg_, by have := hnd.out; omega⟩
  clear hE_ hB_ hn_ hg_
  refine norm_ (a' := ?_) ?_ ?_
  rotate_left
  ·
   simp only [putAll, Act.put, List.setIfInBounds_toArray, List.set_cons_zero, List.set_cons_succ]
   rfl
  refine one_ (i := 10) (N := none) #[true, true, true, true, true, true, true, true, true, true, true] rfl rfl (one_of HT_.out (by kernel_rfl)) (by decide) (fun K hK => ?_)
  have v0 : V3.cell? ⟨gv, 0, none⟩ = some (.bool false) := (blk_cell BV3.out 0).trans rfl
  have y0 : V3.frozen? ⟨gv, 0, none⟩ = false := blk_frozen BV3.out 0
  have v1 : V3.cell? ⟨gv, 1, none⟩ = some (.int .i64 0) := (blk_cell BV3.out 1).trans rfl
  have y1 : V3.frozen? ⟨gv, 1, none⟩ = false := blk_frozen BV3.out 1
  have v2 : V3.cell? ⟨gv, 2, none⟩ = some (.int .i64 0) := (blk_cell BV3.out 2).trans rfl
  have y2 : V3.frozen? ⟨gv, 2, none⟩ = false := blk_frozen BV3.out 2
  refine skip_ (w1 := ?_) (by rfl) rfl ?_ ?_
  rotate_left
  ·
   go_simp
   rfl
  have EV := Aside0.mk (EV3.out.put3 HV.out.2.1 HV.out.1 (.bool t1) (.int .i64 t2) (.int .i64 t3))
  have BV := Aside0.mk (h18_blk3 BV3.out (.bool t1) (.int .i64 t2) (.int .i64 t3))
  refine hK.out _ _ ⟨(blk_cell (blk_below HG.out EV.out.b) 0).trans rfl, (blk_cell (blk_below HG.out EV.out.b) 1).trans rfl, (blk_cell EV.out.x 1).trans rfl, (EV.out.b.cell (World.block_lt_of_cell? W1 _ HKC.out)).trans HKC.out⟩ (fun hHeld => ?_)
  clear hK K
  refine done_ (done_of HT_.out (by kernel_rfl)) ?_
  clear hHeld v0 v1 v2 y0 y1 y2
  generalize (((V3.setCell ⟨gv, 0, none⟩ (.bool t1)).setCell ⟨gv, 1, none⟩ (.int .i64 t2)).setCell ⟨gv, 2, none⟩ (.int .i64 t3)) = V0 at EV BV ⊢
  clear EV3 BV3
  have v0 : V0.cell? ⟨gv, 0, none⟩ = some (.bool t1) := (blk_cell BV.out 0).trans rfl
  have v1 : V0.cell? ⟨gv, 1, none⟩ = some (.int .i64 t2) := (blk_cell BV.out 1).trans rfl
  have v2 : V0.cell? ⟨gv, 2, none⟩ = some (.int .i64 t3) := (blk_cell BV.out 2).trans rfl
  go_upto_region 33 with (fail)
  clear v0 v1 v2
  have h := HA.out
  clear HA
  cases t1 with
  | false =>
    rw [if_pos rfl] at h
    simp only [Option.some.injEq, Prod.mk.injEq] at h
    obtain ⟨rfl, rfl, rfl⟩ := h
    have v0 : V0.cell? ⟨gv, 0, none⟩ = some (.bool false) := (blk_cell BV.out 0).trans rfl
    have v1 : V0.cell? ⟨gv, 1, none⟩ = some (.int .i64 t2) := (blk_cell BV.out 1).trans rfl
    have v2 : V0.cell? ⟨gv, 2, none⟩ = some (.int .i64 t3) := (blk_cell BV.out 2).trans rfl
    have rr0 : V0.cell? ⟨gr, 0, none⟩ = some (.bool false) := (blk_cell (blk_below HR.out EV.out.b) 0).trans rfl
    have z0 : V0.frozen? ⟨gr, 0, none⟩ = false := blk_frozen (blk_below HR.out EV.out.b) 0
    have rr1 : V0.cell? ⟨gr, 1, none⟩ = some (.int .i64 0) := (blk_cell (blk_below HR.out EV.out.b) 1).trans rfl
    have z1 : V0.frozen? ⟨gr, 1, none⟩ = false := blk_frozen (blk_below HR.out EV.out.b) 1
    have rr2 : V0.cell? ⟨gr, 2, none⟩ = some (.int .i64 0) := (blk_cell (blk_below HR.out EV.out.b) 2).trans rfl
    have z2 : V0.frozen? ⟨gr, 2, none⟩ = false := blk_frozen (blk_below HR.out EV.out.b) 2
    go_wp2
    refine bodyPost_ret (results_cell_row rfl _ _ gr 31 #[.bool false, .int .i64 t2, .int .i64 t3] (0, 0) _ rfl (h18_blk3 (blk_below HR.out EV.out.b) _ _ _) Try.underlying31 rfl (by kernel_rfl)) rfl ⟨rfl, h18_below3 (below_step HB.out EV.out.b) (by have := HGB.out; have := HGR.out; omega) _ _ _⟩
  | true =>
    rw [if_neg (by decide)] at h
    have v0 : V0.cell? ⟨gv, 0, none⟩ = some (.bool true) := (blk_cell BV.out 0).trans rfl
    have v1 : V0.cell? ⟨gv, 1, none⟩ = some (.int .i64 t2) := (blk_cell BV.out 1).trans rfl
    have v2 : V0.cell? ⟨gv, 2, none⟩ = some (.int .i64 t3) := (blk_cell BV.out 2).trans rfl
    have x0 : V0.cell? ⟨gx, 0, none⟩ = some (.int .i64 nd.f0) := (blk_cell EV.out.x 0).trans rfl
    go_upto_region 36 with (fail)
    have c7 : ¬ nd.f0 = 7 := by have := HS.out; omega
    rw [if_neg c7] at h
    have b7 : (nd.f0 == 7) = false := beq_eq_false_iff_ne.2 c7
    clear c7
    go_upto_region 40 with (fail)
    clear b7
    have c8 : ¬ nd.f0 = 8 := by have := HS.out; omega
    rw [if_neg c8] at h
    have b8 : (nd.f0 == 8) = false := beq_eq_false_iff_ne.2 c8
    clear c8
    go_upto_region 44 with (fail)
    clear b8
    have c9 : nd.f0 = 9 := HS.out
    rw [if_pos c9] at h
    have b9 : (nd.f0 == 9) = true := beq_iff_eq.2 c9
    clear c9
    by_cases ct : t2 < 0
    · rw [if_pos ct] at h
      have ctb : decide (t2 < 0) = true := decide_eq_true ct
      clear ct
      simp only [Option.some.injEq, Prod.mk.injEq] at h
      obtain ⟨rfl, rfl, rfl⟩ := h
      have rr0 : V0.cell? ⟨gr, 0, none⟩ = some (.bool false) := (blk_cell (blk_below HR.out EV.out.b) 0).trans rfl
      have z0 : V0.frozen? ⟨gr, 0, none⟩ = false := blk_frozen (blk_below HR.out EV.out.b) 0
      have rr1 : V0.cell? ⟨gr, 1, none⟩ = some (.int .i64 0) := (blk_cell (blk_below HR.out EV.out.b) 1).trans rfl
      have z1 : V0.frozen? ⟨gr, 1, none⟩ = false := blk_frozen (blk_below HR.out EV.out.b) 1
      have rr2 : V0.cell? ⟨gr, 2, none⟩ = some (.int .i64 0) := (blk_cell (blk_below HR.out EV.out.b) 2).trans rfl
      have z2 : V0.frozen? ⟨gr, 2, none⟩ = false := blk_frozen (blk_below HR.out EV.out.b) 2
      go_wp2
      refine bodyPost_ret (results_cell_row rfl _ _ gr 31 #[.bool true, .int .i64 a3, .int .i64 t3] (0, 0) _ rfl (h18_blk3 (blk_below HR.out EV.out.b) _ _ _) Try.underlying31 rfl (by kernel_rfl)) rfl ⟨rfl, h18_below3 (below_step HB.out EV.out.b) (by have := HGB.out; have := HGR.out; omega) _ _ _⟩
    · rw [if_neg ct] at h
      have ctb : decide (t2 < 0) = false := decide_eq_false ct
      clear ct
      simp only [Option.some.injEq, Prod.mk.injEq] at h
      obtain ⟨rfl, rfl, rfl⟩ := h
      have rr0 : V0.cell? ⟨gr, 0, none⟩ = some (.bool false) := (blk_cell (blk_below HR.out EV.out.b) 0).trans rfl
      have z0 : V0.frozen? ⟨gr, 0, none⟩ = false := blk_frozen (blk_below HR.out EV.out.b) 0
      have rr1 : V0.cell? ⟨gr, 1, none⟩ = some (.int .i64 0) := (blk_cell (blk_below HR.out EV.out.b) 1).trans rfl
      have z1 : V0.frozen? ⟨gr, 1, none⟩ = false := blk_frozen (blk_below HR.out EV.out.b) 1
      have rr2 : V0.cell? ⟨gr, 2, none⟩ = some (.int .i64 0) := (blk_cell (blk_below HR.out EV.out.b) 2).trans rfl
      have z2 : V0.frozen? ⟨gr, 2, none⟩ = false := blk_frozen (blk_below HR.out EV.out.b) 2
      go_wp2
      refine bodyPost_ret (results_cell_row rfl _ _ gr 31 #[.bool true, .int .i64 (-1), .int .i64 t3] (0, 0) _ rfl (h18_blk3 (blk_below HR.out EV.out.b) _ _ _) Try.underlying31 rfl (by kernel_rfl)) rfl ⟨rfl, h18_below3 (below_step HB.out EV.out.b) (by have := HGB.out; have := HGR.out; omega) _ _ _⟩
end Go.Proofs.Ythgedejnpgcacaa.V
namespace Go.Proofs.Ythgedejnpgcacaa.V
open Go.RowKit Go.Proofs.YthgedejnpgcacaaW.PrintWords
set_option linter.unusedVariables false
theorem vetchref18_Node.calls (k : Nat) : ∀ (A0_0 : Option Addr) (c0_0 : Nat) (l0_0 : List S51) (A0_1 : Option Addr) (c0_1 : Nat) (l0_1 : List S56) (a1 : Int) (a2 : ByteArray) (a3 a4 : Int) (r1 : Bool) (r2 r3 : Int) (w : World)
    (hr0_0 : Kd.C k51 w A0_0 l0_0.length l0_0) (hc0_0 : l0_0.length ≤ c0_0) (hr0_1 : Kd.C k56 w A0_1 l0_1.length l0_1) (hc0_1 : l0_1.length ≤ c0_1) (h : vetchref18_Node.f k l0_0 l0_1 a1 a2 a3 a4 = some (r1, r2, r3)),
    Calls Try.prog 12 #[.agg #[.slice A0_0 l0_0.length c0_0, .slice A0_1 l0_1.length c0_1], .int .i64 a1, .string a2, .int .i64 a3, .int .i64 a4] w fun e w' => e = .returned (.agg #[.bool r1, .int .i64 r2, .int .i64 r3]) ∧ Below w.heap.size w w' := by
  induction k with
  | zero => intro A0_0 c0_0 l0_0 A0_1 c0_1 l0_1 a1 a2 a3 a4 r1 r2 r3 w hr0_0 hc0_0 hr0_1 hc0_1 h; exact absurd h (by simp [vetchref18_Node.f])
  | succ k ih =>
  intro A0_0 c0_0 l0_0 A0_1 c0_1 l0_1 a1 a2 a3 a4 r1 r2 r3 w hr0_0 hc0_0 hr0_1 hc0_1 h
  by_cases cf : a4 < 1
  · exact vetchref18_Node.calls_sf k ih A0_0 c0_0 l0_0 A0_1 c0_1 l0_1 a1 a2 a3 a4 r1 r2 r3 w hr0_0 hc0_0 hr0_1 hc0_1 ⟨cf⟩ h
  by_cases ci : 0 ≤ a1 ∧ a1 < (l0_1.length : Int)
  · by_cases d0 : (rd_T56 l0_1 a1).f0 = 0
    · exact vetchref18_Node.calls_s0 k ih A0_0 c0_0 l0_0 A0_1 c0_1 l0_1 a1 a2 a3 a4 r1 r2 r3 w hr0_0 hc0_0 hr0_1 hc0_1 ⟨cf, ci, d0⟩ h
    by_cases d1 : (rd_T56 l0_1 a1).f0 = 1
    · exact vetchref18_Node.calls_s1 k ih A0_0 c0_0 l0_0 A0_1 c0_1 l0_1 a1 a2 a3 a4 r1 r2 r3 w hr0_0 hc0_0 hr0_1 hc0_1 ⟨cf, ci, d1⟩ h
    by_cases d2 : (rd_T56 l0_1 a1).f0 = 2
    · exact vetchref18_Node.calls_s2 k ih A0_0 c0_0 l0_0 A0_1 c0_1 l0_1 a1 a2 a3 a4 r1 r2 r3 w hr0_0 hc0_0 hr0_1 hc0_1 ⟨cf, ci, d2⟩ h
    by_cases d3 : (rd_T56 l0_1 a1).f0 = 3
    · exact vetchref18_Node.calls_s3 k ih A0_0 c0_0 l0_0 A0_1 c0_1 l0_1 a1 a2 a3 a4 r1 r2 r3 w hr0_0 hc0_0 hr0_1 hc0_1 ⟨cf, ci, d3⟩ h
    by_cases d4 : (rd_T56 l0_1 a1).f0 = 4
    · exact vetchref18_Node.calls_s4 k ih A0_0 c0_0 l0_0 A0_1 c0_1 l0_1 a1 a2 a3 a4 r1 r2 r3 w hr0_0 hc0_0 hr0_1 hc0_1 ⟨cf, ci, d4⟩ h
    by_cases d7 : (rd_T56 l0_1 a1).f0 = 7
    · exact vetchref18_Node.calls_s7 k ih A0_0 c0_0 l0_0 A0_1 c0_1 l0_1 a1 a2 a3 a4 r1 r2 r3 w hr0_0 hc0_0 hr0_1 hc0_1 ⟨cf, ci, d7⟩ h
    by_cases d8 : (rd_T56 l0_1 a1).f0 = 8
    · exact vetchref18_Node.calls_s8 k ih A0_0 c0_0 l0_0 A0_1 c0_1 l0_1 a1 a2 a3 a4 r1 r2 r3 w hr0_0 hc0_0 hr0_1 hc0_1 ⟨cf, ci, d8⟩ h
    by_cases d9 : (rd_T56 l0_1 a1).f0 = 9
    · exact vetchref18_Node.calls_s9 k ih A0_0 c0_0 l0_0 A0_1 c0_1 l0_1 a1 a2 a3 a4 r1 r2 r3 w hr0_0 hc0_0 hr0_1 hc0_1 ⟨cf, ci, d9⟩ h
    exact vetchref18_Node.calls_s5 k ih A0_0 c0_0 l0_0 A0_1 c0_1 l0_1 a1 a2 a3 a4 r1 r2 r3 w hr0_0 hc0_0 hr0_1 hc0_1 ⟨cf, ci, d0, d1, d2, d3, d4, d7, d8, d9⟩ h
  · rw [vetchref18_Node.f, if_neg cf, if_neg ci] at h
    exact absurd h (by simp)
end Go.Proofs.Ythgedejnpgcacaa.V
namespace Go.Proofs.Ythgedejnpgcacaa.V
open Go.RowKit Go.Proofs.YthgedejnpgcacaaW.PrintWords Go.Proofs.YthgedejnpgcacaaW.PrintLast Go.Proofs.YthgedejnpgcacaaW.PrintMore
attribute [local go_sem] max2_int min2_int max_two min_two max_three min_three max_four min_four tdiv_most
set_option linter.unusedVariables false
set_option linter.unusedSimpArgs false
def vetchref18_Run.f (k : Nat) (l0_0 : List (S51)) (l0_1 : List (S56)) (a1 : ByteArray) (a2 : Int) : Option (Bool × Int × Int) := if 0 < (l0_0.length : Int) then ((vetchref18_Node.f k l0_0 l0_1 ((rd_T51 l0_0 0).f1) a1 0 a2).bind fun bt231 => (some (bt231.1, bt231.2.1, bt231.2.2))) else (none)
theorem vetchref18_Run.mono : ∀ a0 a1 a2 a3 k, LeO (vetchref18_Run.f k a0 a1 a2 a3) (vetchref18_Run.f (k + 1) a0 a1 a2 a3) := by
 intro a0 a1 a2 a3 k
 unfold vetchref18_Run.f
 repeat' first
  | (with_reducible exact vetchref18_Node.mono _ _ _ _ _ _ _)
  | (with_reducible exact LeO.refl _)
  | (with_reducible exact LeO.none _)
  | (with_reducible refine LeO.ite ?_ ?_)
  | (with_reducible refine LeO.bind ?_ (fun _ => ?_))
  | exact vetchref18_Node.mono _ _ _ _ _ _ _
  | exact LeO.none _
  | refine LeO.ite ?_ ?_
  | refine LeO.bind ?_ (fun _ => ?_)
def vetchref18_Run.T1 : Bool × List (List Nat × List Nat) := (true, [([], []), ([], []), ([1], [1]), ([2], [2]), ([3], [3]), ([4], [4]), ([], []), ([], []), ([0, 5, 6, 7], [0, 5, 6, 7]), ([8, 8, 0, 1, 2, 3, 4, 5, 6, 7, 8], [8])])
def vetchref18_Run.B1 : List Nat := [0, 0, 2, 6, 14, 30, 0, 0, 255, 511]
theorem vetchref18_Run.tab1 : rtab .any (opsOf Try.f14 1) = vetchref18_Run.T1 := by kernel_rfl
theorem vetchref18_Run.bits1 : waitsOk vetchref18_Run.T1.2 vetchref18_Run.B1 = true := by kernel_rfl
set_option maxHeartbeats 8000000 in
set_option maxRecDepth 100000 in
theorem vetchref18_Run.calls (k : Nat) (A0_0 : Option Addr) (c0_0 : Nat) (l0_0 : List (S51)) (A0_1 : Option Addr) (c0_1 : Nat) (l0_1 : List (S56)) (a1 : ByteArray) (a2 : Int) (r1 : Bool) (r2 : Int) (r3 : Int) (w : World) (hr0_0 : Kd.C k51 w A0_0 l0_0.length l0_0) (hc0_0 : l0_0.length ≤ c0_0) (hr0_1 : Kd.C k56 w A0_1 l0_1.length l0_1) (hc0_1 : l0_1.length ≤ c0_1) (h : vetchref18_Run.f k l0_0 l0_1 a1 a2 = some (r1, r2, r3)) :
 Calls Try.prog 14 #[.agg #[.slice A0_0 l0_0.length c0_0, .slice A0_1 l0_1.length c0_1], .string a1, .int .i64 a2] w fun e w' => e = .returned (.agg #[.bool r1, .int .i64 r2, .int .i64 r3]) ∧ Below w.heap.size w w' := by
 have hu25 := Try.underlying25
 have hu31 := Try.underlying31
 have HR0_0 := Aside0.mk hr0_0
 have HC0_0 := Aside0.mk hc0_0
 clear hr0_0 hc0_0
 have HR0_1 := Aside0.mk hr0_1
 have HC0_1 := Aside0.mk hc0_1
 clear hr0_1 hc0_1
 have HB := Aside0.mk (Below.refl w.heap.size w)
 have H : (if 0 < (l0_0.length : Int) then ((vetchref18_Node.f k l0_0 l0_1 ((rd_T51 l0_0 0).f1) a1 0 a2).bind fun bt231 => (some (bt231.1, bt231.2.1, bt231.2.2))) else (none)) = some (r1, r2, r3) := h
 clear h
 by_cases c4 : 0 < (l0_0.length : Int)
 ·
  rw [if_pos c4] at H
  have c4b0 : decide (0 < (l0_0.length : Int)) = true := decide_eq_true c4
  have c4b1 : decide (0 < l0_0.length) = true := decide_eq_true (by omega)
  clear c4
  replace H := Option.bind_eq_some_iff.mp H
  obtain ⟨⟨t231, t232, t233⟩, A50, H⟩ := H
  replace H : (some (t231, t232, t233)) = some (r1, r2, r3) := H
  have A5 := Aside0.mk A50
  clear A50
  simp only [Option.some.injEq, Prod.mk.injEq] at H
  obtain ⟨rfl, rfl, rfl⟩ := H
  go_enter Try.func14, Try.ntmps14
  try go_wp2_with (first | ((with_reducible refine gate_dst (N := 3) rfl ?_); refine box_event ?hg (N := 3) ?hd (cs := #[.slice A0_0 l0_0.length c0_0, .slice A0_1 l0_1.length c0_1]) (t := 25) ?hr ?_; (case hd => rfl); (case hg => rfl); (case hr => first | (go_simp; done) | (go_simp; rfl)); intro gb228 hg w6 hbox hb; have n0_ := Aside0.mk (below_step (by repeat (first | (with_reducible first | exact HB.out | apply below_alloc | apply pw_below_drewN | apply below_drew1) | exact HB.out)) hb); have n1_ := Aside0.mk (hbox); have n2_ := Aside0.mk ((by rw [hg]; exact (below_size (by repeat (first | (with_reducible first | exact HB.out | apply below_alloc | apply pw_below_drewN | apply below_drew1) | exact HB.out))) : w.heap.size ≤ gb228)); have n3_ := Aside0.mk ((by rw [hg]; exact (below_size (by repeat (first | (with_reducible first | exact HB.out | apply below_alloc | apply pw_below_drewN | apply below_drew1) | exact HB.out))) : w.heap.size ≤ gb228)); clear HB; have HB := n0_; have BK228 := n1_; have GW228 := n2_; have GE228 := n3_; clear n0_ n1_ n2_ n3_; clear hb hbox hg) | ((with_reducible refine gate_dst (N := 6) rfl ?_); refine box_event ?hg (N := 6) ?hd (cs := #[.bool false, .int .i64 0, .int .i64 0]) (t := 31) ?hr ?_; (case hd => rfl); (case hg => rfl); (case hr => first | (go_simp; done) | (go_simp; rfl)); intro gb229 hg w7 hbox hb; have n0_ := Aside0.mk (blk_below (g := gb228) (o := .cells #[.slice A0_0 l0_0.length c0_0, .slice A0_1 l0_1.length c0_1] 25 (0, 0)) (by (with_reducible repeat (first | refine blk_drewN ?_ _ | refine blk_drew ?_ | refine blk_alloc ?_ _)); exact BK228.out) hb); have n1_ := Aside0.mk (below_step (by repeat (first | (with_reducible first | exact HB.out | apply below_alloc | apply pw_below_drewN | apply below_drew1 | refine below_set ?_ GE228.out) | exact HB.out)) hb); have n2_ := Aside0.mk (hbox); have n3_ := Aside0.mk ((by rw [hg]; exact (below_size (by repeat (first | (with_reducible first | exact HB.out | apply below_alloc | apply pw_below_drewN | apply below_drew1 | refine below_set ?_ GE228.out) | exact HB.out))) : w.heap.size ≤ gb229)); have n4_ := Aside0.mk ((by rw [hg]; exact (below_size (by repeat (first | (with_reducible first | exact HB.out | apply below_alloc | apply pw_below_drewN | apply below_drew1 | refine below_set ?_ GE228.out) | exact HB.out))) : w.heap.size ≤ gb229)); have n5_ := Aside0.mk ((by rw [hg]; exact Nat.ne_of_lt (blk_lt (g := gb228) (o := .cells #[.slice A0_0 l0_0.length c0_0, .slice A0_1 l0_1.length c0_1] 25 (0, 0)) (by (with_reducible repeat (first | refine blk_drewN ?_ _ | refine blk_drew ?_ | refine blk_alloc ?_ _)); exact BK228.out)) : gb228 ≠ gb229)); have n6_ := Aside0.mk ((by rw [hg]; exact Nat.ne_of_gt (blk_lt (g := gb228) (o := .cells #[.slice A0_0 l0_0.length c0_0, .slice A0_1 l0_1.length c0_1] 25 (0, 0)) (by (with_reducible repeat (first | refine blk_drewN ?_ _ | refine blk_drew ?_ | refine blk_alloc ?_ _)); exact BK228.out)) : gb229 ≠ gb228)); clear BK228; clear HB; have BK228 := n0_; have HB := n1_; have BK229 := n2_; have GW229 := n3_; have GE229 := n4_; have NB228_229 := n5_; have NB229_228 := n6_; clear n0_ n1_ n2_ n3_ n4_ n5_ n6_; clear hb hbox hg))
  have n0_ := Aside0.mk (blk_drew BK228.out)
  have n1_ := Aside0.mk (blk_drew BK229.out)
  have n2_ := Aside0.mk (below_drew1 HB.out)
  clear BK228
  clear BK229
  clear HB
  have BK228 := n0_
  have BK229 := n1_
  have HB := n2_
  clear n0_ n1_ n2_
  have p230 : 0 ≤ (0 : Int) := (by omega)
  have q230 : 0 < (l0_0.length : Int) := of_decide_eq_true (by first | (with_reducible assumption) | assumption)
  obtain ⟨ad230, e230, hx230_0, hx230_1⟩ := at_T51 HR0_0.out 0 p230 q230
  have hw230_1 := hx230_1
  (try rw [show ((0 : Int)).toNat = 0 from rfl] at hw230_1)
  (try rw [show 0 * 2 = 0 from rfl] at hw230_1)
  (try rw [Addr.add_zero'] at hw230_1)
  have hw230_0 := hx230_0
  (try rw [show ((0 : Int)).toNat = 0 from rfl] at hw230_0)
  (try rw [show 0 * 2 = 0 from rfl] at hw230_0)
  (try rw [Addr.add_zero'] at hw230_0)
  cases e230
  have qi230 : (0 < l0_0.length) = True := eq_true (by omega)
  (try rw [show ((0 : Int)).toNat = 0 from rfl] at hx230_0)
  (try rw [show 0 * 2 = 0 from rfl] at hx230_0)
  (try rw [Addr.add_zero'] at hx230_0)
  (try rw [show ((0 : Int)).toNat = 0 from rfl] at hx230_1)
  (try rw [show 0 * 2 = 0 from rfl] at hx230_1)
  (try rw [Addr.add_zero'] at hx230_1)
  replace hx230_0 := (HB.out.cell (World.block_lt_of_cell? w _ hx230_0)).trans hx230_0
  replace hx230_1 := (HB.out.cell (World.block_lt_of_cell? w _ hx230_1)).trans hx230_1
  replace p230 := eq_true p230
  replace q230 := eq_true q230
  refine start_ (n := 10) (S := fun w' => w'.cell? ⟨gb228, 0, none⟩ = some (.slice (some ad230) l0_0.length c0_0) ∧ w'.cell? ⟨gb228, 1, none⟩ = some (.slice A0_1 l0_1.length c0_1) ∧ w'.cell? ad230 = some (.string ((rd_T51 l0_0 0).f0)) ∧ w'.cell? ⟨ad230.block, ad230.off + 1, none⟩ = some (.int .i64 ((rd_T51 l0_0 0).f1))) (ds := []) #[false, false, false, false, false, false, false, false, false, false] (by kernel_rfl) rfl rfl ⟨(blk_cell BK228.out 0).trans rfl, (blk_cell BK228.out 1).trans rfl, ((HB.out.cell (World.block_lt_of_cell? w _ hw230_0)).trans hw230_0), ((HB.out.cell (World.block_lt_of_cell? w _ hw230_1)).trans hw230_1)⟩ (fun hHeld => ?_); refine with_tabW vetchref18_Run.tab1 vetchref18_Run.bits1 (fun HT_ HW_ => ?_)
  generalize w7.drew = w8 at BK228 BK229 HB hx230_0 hx230_1 hHeld ⊢
  refine pure_ (i := 1) (N := some 8) (v := ?_) (a' := ?_) #[false, true, false, false, false, false, false, false, false, false] rfl rfl (any_of HT_.out (by kernel_rfl)) (fun _ _ _ h => h) (Or.inl ⟨by rfl, ?_⟩) ?_ ?_
  rotate_left
  ·
   intro w'
   go_simp
   with_reducible rfl
  rotate_left
  ·
   simp only [Act.put, List.setIfInBounds_toArray, List.set_cons_zero, List.set_cons_succ, i64_w, i32_w]
   rfl
  refine pure_ (i := 6) (N := some 13) (v := ?_) (a' := ?_) #[false, true, false, false, false, false, true, false, false, false] rfl rfl (any_of HT_.out (by kernel_rfl)) (fun _ _ _ h => h) (Or.inl ⟨by rfl, ?_⟩) ?_ ?_
  rotate_left
  ·
   intro w'
   go_simp
   with_reducible rfl
  rotate_left
  ·
   simp only [Act.put, List.setIfInBounds_toArray, List.set_cons_zero, List.set_cons_succ, i64_w, i32_w]
   rfl
  refine pure_ (i := 7) (N := some 14) (v := ?_) (a' := ?_) #[false, true, false, false, false, false, true, true, false, false] rfl rfl (any_of HT_.out (by kernel_rfl)) (fun _ _ _ h => h) (Or.inl ⟨by rfl, ?_⟩) ?_ ?_
  rotate_left
  ·
   intro w'
   go_simp
   with_reducible rfl
  rotate_left
  ·
   simp only [Act.put, List.setIfInBounds_toArray, List.set_cons_zero, List.set_cons_succ, i64_w, i32_w]
   rfl
  refine take_ (i := 0) (N := some 7) (v := ?_) (a' := ?_) #[true, true, false, false, false, false, true, true, false, false] rfl rfl (take_ofW HT_.out HW_.out (by kernel_rfl)) (fun _ _ _ h => h) (Or.inl ⟨by rfl, ?_⟩) hHeld ?_ ?_
  rotate_left
  ·
   rintro w' ⟨s0, s1, s2, s3⟩
   go_simp
   with_reducible rfl
  rotate_left
  ·
   simp only [Act.put, List.setIfInBounds_toArray, List.set_cons_zero, List.set_cons_succ, i64_w, i32_w]
   rfl
  refine take_ (i := 2) (N := some 9) (v := ?_) (a' := ?_) #[true, true, true, false, false, false, true, true, false, false] rfl rfl (take_ofW HT_.out HW_.out (by kernel_rfl)) (fun _ _ _ h => h) (Or.inl ⟨by rfl, ?_⟩) hHeld ?_ ?_
  rotate_left
  ·
   rintro w' ⟨s0, s1, s2, s3⟩
   go_simp
   with_reducible rfl
  rotate_left
  ·
   simp only [Act.put, List.setIfInBounds_toArray, List.set_cons_zero, List.set_cons_succ, i64_w, i32_w]
   rfl
  refine pure_ (i := 3) (N := some 10) (v := ?_) (a' := ?_) #[true, true, true, true, false, false, true, true, false, false] rfl rfl (any_of HT_.out (by kernel_rfl)) (fun _ _ _ h => h) (Or.inl ⟨by rfl, ?_⟩) ?_ ?_
  rotate_left
  ·
   intro w'
   go_simp
   with_reducible rfl
  rotate_left
  ·
   simp only [Act.put, List.setIfInBounds_toArray, List.set_cons_zero, List.set_cons_succ, i64_w, i32_w]
   rfl
  refine pure_ (i := 4) (N := some 11) (v := ?_) (a' := ?_) #[true, true, true, true, true, false, true, true, false, false] rfl rfl (any_of HT_.out (by kernel_rfl)) (fun _ _ _ h => h) (Or.inl ⟨by rfl, ?_⟩) ?_ ?_
  rotate_left
  ·
   intro w'
   go_simp
   with_reducible rfl
  rotate_left
  ·
   simp only [Act.put, List.setIfInBounds_toArray, List.set_cons_zero, List.set_cons_succ, i64_w, i32_w]
   rfl
  refine take_ (i := 5) (N := some 12) (v := ?_) (a' := ?_) #[true, true, true, true, true, true, true, true, false, false] rfl rfl (take_ofW HT_.out HW_.out (by kernel_rfl)) (fun _ _ _ h => h) (Or.inl ⟨by rfl, ?_⟩) hHeld ?_ ?_
  rotate_left
  ·
   rintro w' ⟨s0, s1, s2, s3⟩
   go_simp
   with_reducible rfl
  rotate_left
  ·
   simp only [Act.put, List.setIfInBounds_toArray, List.set_cons_zero, List.set_cons_succ, i64_w, i32_w]
   rfl
  refine one_ (i := 8) (N := some 15) #[true, true, true, true, true, true, true, true, true, false] rfl rfl (one_of HT_.out (by kernel_rfl)) (by decide) (fun K hK => ?_)
  refine goes_ Try.func12 (by kernel_rfl) rfl #[.agg #[.slice (some ad230) l0_0.length c0_0, .slice A0_1 l0_1.length c0_1], .int .i64 ((rd_T51 l0_0 0).f1), .string a1, .int .i64 0, .int .i64 a2] (by rfl) rfl rfl (by (try simp only [List.map_toArray, List.map_cons, List.map_nil]); first | done | rfl | (simp only [List.length_drop, List.length_take]; rfl)) ?_
  with_reducible refine (vetchref18_Node.calls k _ _ l0_0 _ _ l0_1 ((rd_T51 l0_0 0).f1) a1 0 a2 t231 t232 t233 _ ?side1 ?side2 ?side3 ?side4 A5.out).mono ?_
  (case side1 => repeat (first | exact (Kd.C_below HR0_0.out HB.out) | (with_reducible refine Kd.C_alloc ?_ _) | (with_reducible refine Kd.C_drewN ?_ _) | (with_reducible refine Kd.C_drew ?_)))
  (case side2 => exact HC0_0.out)
  (case side3 => repeat (first | exact (Kd.C_below HR0_1.out HB.out) | (with_reducible refine Kd.C_alloc ?_ _) | (with_reducible refine Kd.C_drewN ?_ _) | (with_reducible refine Kd.C_drew ?_)))
  (case side4 => exact HC0_1.out)
  rintro e w9 ⟨rfl, hb⟩
  refine ⟨_, rfl, ?_⟩
  have n0_ := Aside0.mk (blk_below (g := gb228) (o := .cells #[.slice (some ad230) l0_0.length c0_0, .slice A0_1 l0_1.length c0_1] 25 (0, 0)) (by (with_reducible repeat (first | refine blk_drewN ?_ _ | refine blk_drew ?_ | refine blk_alloc ?_ _)); exact BK228.out) hb)
  have n1_ := Aside0.mk (blk_below (g := gb229) (o := .cells #[.bool false, .int .i64 0, .int .i64 0] 31 (0, 0)) (by (with_reducible repeat (first | refine blk_drewN ?_ _ | refine blk_drew ?_ | refine blk_alloc ?_ _)); exact BK229.out) hb)
  have n2_ := Aside0.mk (below_step (by repeat (first | (with_reducible first | exact HB.out | apply below_alloc | apply pw_below_drewN | apply below_drew1 | refine below_set ?_ GE228.out | refine below_set ?_ GE229.out) | exact HB.out)) hb)
  clear BK228
  clear BK229
  clear HB
  have BK228 := n0_
  have BK229 := n1_
  have HB := n2_
  clear n0_ n1_ n2_
  (try clear hb)
  (try clear hb2)
  (try clear hk)
  (try clear hi)
  refine hK.out _ _ ⟨(blk_cell BK228.out 0).trans rfl, (blk_cell BK228.out 1).trans rfl, ((HB.out.cell (World.block_lt_of_cell? w _ hw230_0)).trans hw230_0), ((HB.out.cell (World.block_lt_of_cell? w _ hw230_1)).trans hw230_1)⟩ (fun hHeld => ?_)
  clear hK K
  refine norm_ (a' := ?_) ?_ ?_
  rotate_left
  ·
   show Act.put _ (some 15) _ = _
   simp only [Act.put, List.setIfInBounds_toArray, List.set_cons_zero, List.set_cons_succ, i64_w, i32_w]
   rfl
  refine one_ (i := 9) (N := none) #[true, true, true, true, true, true, true, true, true, true] rfl rfl (one_of HT_.out (by kernel_rfl)) (by decide) (fun K hK => ?_)
  have hs10 : w9.cell? ⟨gb229, 0, none⟩ = some (.bool false) := (blk_cell BK229.out 0).trans rfl
  have hfs10 := blk_frozen BK229.out 0
  have hns10_0 := NB228_229.out
  have hms10_0 := NB229_228.out
  have hs11 : w9.cell? ⟨gb229, 1, none⟩ = some (.int .i64 0) := (blk_cell BK229.out 1).trans rfl
  have hfs11 := blk_frozen BK229.out 1
  have hns11_0 := NB228_229.out
  have hms11_0 := NB229_228.out
  have hs12 : w9.cell? ⟨gb229, 2, none⟩ = some (.int .i64 0) := (blk_cell BK229.out 2).trans rfl
  have hfs12 := blk_frozen BK229.out 2
  have hns12_0 := NB228_229.out
  have hms12_0 := NB229_228.out
  refine skip_ (w1 := ?_) (by rfl) rfl ?_ ?_
  rotate_left
  ·
   go_simp
   rfl
  refine hK.out _ _ ⟨((cell_far (p := ⟨gb229, _, none⟩) NB228_229.out _).trans (((cell_far (p := ⟨gb229, _, none⟩) NB228_229.out _).trans (((cell_far (p := ⟨gb229, _, none⟩) NB228_229.out _).trans (hHeld.1)))))), ((cell_far (p := ⟨gb229, _, none⟩) NB228_229.out _).trans (((cell_far (p := ⟨gb229, _, none⟩) NB228_229.out _).trans (((cell_far (p := ⟨gb229, _, none⟩) NB228_229.out _).trans (hHeld.2.1)))))), ((cell_far (p := ⟨gb229, _, none⟩) (by first | exact Nat.ne_of_lt (Nat.lt_of_lt_of_le (by have := World.block_lt_of_cell? _ _ hw230_0; first | rwa [add_block] at this | exact this) GW229.out) | (rw [add_block]; exact Nat.ne_of_lt (Nat.lt_of_lt_of_le (by have := World.block_lt_of_cell? _ _ hw230_0; first | rwa [add_block] at this | exact this) GW229.out)) | (show (Addr.add _ _).block ≠ _; rw [add_block]; exact Nat.ne_of_lt (Nat.lt_of_lt_of_le (by have := World.block_lt_of_cell? _ _ hw230_0; first | rwa [add_block] at this | exact this) GW229.out)) | (dsimp only; exact Nat.ne_of_lt (Nat.lt_of_lt_of_le (by have := World.block_lt_of_cell? _ _ hw230_0; first | rwa [add_block] at this | exact this) GW229.out))) _).trans (((cell_far (p := ⟨gb229, _, none⟩) (by first | exact Nat.ne_of_lt (Nat.lt_of_lt_of_le (by have := World.block_lt_of_cell? _ _ hw230_0; first | rwa [add_block] at this | exact this) GW229.out) | (rw [add_block]; exact Nat.ne_of_lt (Nat.lt_of_lt_of_le (by have := World.block_lt_of_cell? _ _ hw230_0; first | rwa [add_block] at this | exact this) GW229.out)) | (show (Addr.add _ _).block ≠ _; rw [add_block]; exact Nat.ne_of_lt (Nat.lt_of_lt_of_le (by have := World.block_lt_of_cell? _ _ hw230_0; first | rwa [add_block] at this | exact this) GW229.out)) | (dsimp only; exact Nat.ne_of_lt (Nat.lt_of_lt_of_le (by have := World.block_lt_of_cell? _ _ hw230_0; first | rwa [add_block] at this | exact this) GW229.out))) _).trans (((cell_far (p := ⟨gb229, _, none⟩) (by first | exact Nat.ne_of_lt (Nat.lt_of_lt_of_le (by have := World.block_lt_of_cell? _ _ hw230_0; first | rwa [add_block] at this | exact this) GW229.out) | (rw [add_block]; exact Nat.ne_of_lt (Nat.lt_of_lt_of_le (by have := World.block_lt_of_cell? _ _ hw230_0; first | rwa [add_block] at this | exact this) GW229.out)) | (show (Addr.add _ _).block ≠ _; rw [add_block]; exact Nat.ne_of_lt (Nat.lt_of_lt_of_le (by have := World.block_lt_of_cell? _ _ hw230_0; first | rwa [add_block] at this | exact this) GW229.out)) | (dsimp only; exact Nat.ne_of_lt (Nat.lt_of_lt_of_le (by have := World.block_lt_of_cell? _ _ hw230_0; first | rwa [add_block] at this | exact this) GW229.out))) _).trans (hHeld.2.2.1)))))), ((cell_far (p := ⟨gb229, _, none⟩) (by first | exact Nat.ne_of_lt (Nat.lt_of_lt_of_le (by have := World.block_lt_of_cell? _ _ hw230_1; first | rwa [add_block] at this | exact this) GW229.out) | (rw [add_block]; exact Nat.ne_of_lt (Nat.lt_of_lt_of_le (by have := World.block_lt_of_cell? _ _ hw230_1; first | rwa [add_block] at this | exact this) GW229.out)) | (show (Addr.add _ _).block ≠ _; rw [add_block]; exact Nat.ne_of_lt (Nat.lt_of_lt_of_le (by have := World.block_lt_of_cell? _ _ hw230_1; first | rwa [add_block] at this | exact this) GW229.out)) | (dsimp only; exact Nat.ne_of_lt (Nat.lt_of_lt_of_le (by have := World.block_lt_of_cell? _ _ hw230_1; first | rwa [add_block] at this | exact this) GW229.out))) _).trans (((cell_far (p := ⟨gb229, _, none⟩) (by first | exact Nat.ne_of_lt (Nat.lt_of_lt_of_le (by have := World.block_lt_of_cell? _ _ hw230_1; first | rwa [add_block] at this | exact this) GW229.out) | (rw [add_block]; exact Nat.ne_of_lt (Nat.lt_of_lt_of_le (by have := World.block_lt_of_cell? _ _ hw230_1; first | rwa [add_block] at this | exact this) GW229.out)) | (show (Addr.add _ _).block ≠ _; rw [add_block]; exact Nat.ne_of_lt (Nat.lt_of_lt_of_le (by have := World.block_lt_of_cell? _ _ hw230_1; first | rwa [add_block] at this | exact this) GW229.out)) | (dsimp only; exact Nat.ne_of_lt (Nat.lt_of_lt_of_le (by have := World.block_lt_of_cell? _ _ hw230_1; first | rwa [add_block] at this | exact this) GW229.out))) _).trans (((cell_far (p := ⟨gb229, _, none⟩) (by first | exact Nat.ne_of_lt (Nat.lt_of_lt_of_le (by have := World.block_lt_of_cell? _ _ hw230_1; first | rwa [add_block] at this | exact this) GW229.out) | (rw [add_block]; exact Nat.ne_of_lt (Nat.lt_of_lt_of_le (by have := World.block_lt_of_cell? _ _ hw230_1; first | rwa [add_block] at this | exact this) GW229.out)) | (show (Addr.add _ _).block ≠ _; rw [add_block]; exact Nat.ne_of_lt (Nat.lt_of_lt_of_le (by have := World.block_lt_of_cell? _ _ hw230_1; first | rwa [add_block] at this | exact this) GW229.out)) | (dsimp only; exact Nat.ne_of_lt (Nat.lt_of_lt_of_le (by have := World.block_lt_of_cell? _ _ hw230_1; first | rwa [add_block] at this | exact this) GW229.out))) _).trans (hHeld.2.2.2))))))⟩ (fun hHeld => ?_)
  clear hK K
  refine done_ (done_of HT_.out (by kernel_rfl)) ?_
  try go_wp2
  refine bodyPost_ret (results_cell_row rfl _ _ gb229 31 #[.bool t231, .int .i64 t232, .int .i64 t233] (0, 0) _ rfl (by (with_reducible repeat (first | refine blk_drewN ?_ _ | refine blk_drew ?_ | refine blk_alloc ?_ _)); refine blk_put (cs := #[.bool t231, .int .i64 t232, .int .i64 0]) ?_ 2 _ rfl; (with_reducible repeat (first | refine blk_drewN ?_ _ | refine blk_drew ?_ | refine blk_alloc ?_ _)); refine blk_put (cs := #[.bool t231, .int .i64 0, .int .i64 0]) ?_ 1 _ rfl; (with_reducible repeat (first | refine blk_drewN ?_ _ | refine blk_drew ?_ | refine blk_alloc ?_ _)); refine blk_put (cs := #[.bool false, .int .i64 0, .int .i64 0]) ?_ 0 _ rfl; (with_reducible repeat (first | refine blk_drewN ?_ _ | refine blk_drew ?_ | refine blk_alloc ?_ _)); exact BK229.out) Try.underlying31 rfl (by kernel_rfl)) rfl ?_
  exact ⟨by first | rfl | (simp [errW_none, errW_some] <;> rfl) | (simp [*, errW_none, errW_some] <;> rfl), by repeat (first | (with_reducible first | exact HB.out | apply below_alloc | apply pw_below_drewN | apply below_drew1 | refine below_set ?_ GE228.out | refine below_set ?_ GE229.out) | exact HB.out)⟩
 ·
  rw [if_neg c4] at H
  exact absurd H (by simp)
end Go.Proofs.Ythgedejnpgcacaa.V
namespace Go.Proofs.Ythgedejnpgcacaa.V
open Go.RowKit Go.Proofs.YthgedejnpgcacaaW.PrintWords Go.Proofs.YthgedejnpgcacaaW.PrintLast Go.Proofs.YthgedejnpgcacaaW.PrintMore
attribute [local go_sem] max2_int min2_int max_two min_two max_three min_three max_four min_four tdiv_most
set_option linter.unusedVariables false
set_option linter.unusedSimpArgs false
def vetchlaw18_NaiveCosts.j0 : Nat → ByteArray → Int → Bool → List (S51) → List (S56) → Option (Bool)
 | 0, _, _, _, _, _ => none
 | k + 1, x1, x2, x19, x264000, x264001 => if x19 = true then ((vetchlaw18_awake.f k).bind fun t266 => (some t266)) else ((naive_Cost.f k x264000 x264001 x1 x2).bind fun bt267 => ((vetchref18_Run.f k x264000 x264001 x1 x2).bind fun bt269 => (if bt267.2 = true then ((naive_Run.f k x264000 x264001 x1 bt267.1).bind fun bt273 => (if bt269.1 = true then (if bt267.1 = (wrap64 (x2 - bt269.2.2)) then (if bt273.1 = true then (if bt273.2.2 = 0 then (if bt273.2.1 = bt269.2.1 then ((naive_Run.f k x264000 x264001 x1 (wrap64 (bt267.1 - 1))).bind fun bt277 => (some (!bt277.1))) else (some false)) else (some false)) else (some false)) else (some false)) else (some false))) else (if bt267.1 = 0 then (some (!bt269.1)) else (some false)))))
def vetchlaw18_NaiveCosts.f (k : Nat) (l0_0 : List (S51)) (l0_1 : List (S56)) (a1 : ByteArray) (a2 : Int) : Option (Bool) := (vetchlaw18_awake.f k).bind fun t264 => (if t264 = true then ((vetchlaw18_fits.f k l0_0 l0_1 a1 a2).bind fun t265 => (vetchlaw18_NaiveCosts.j0 k a1 a2 (!t265) l0_0 l0_1)) else (vetchlaw18_NaiveCosts.j0 k a1 a2 true l0_0 l0_1))
theorem vetchlaw18_NaiveCosts.mono_l : ∀ k, (∀ y0 y1 y2 y3 y4, LeO (vetchlaw18_NaiveCosts.j0 k y0 y1 y2 y3 y4) (vetchlaw18_NaiveCosts.j0 (k + 1) y0 y1 y2 y3 y4))
 | 0 => fun _ _ _ _ _ r h => by simp [vetchlaw18_NaiveCosts.j0] at h
 | k + 1 => by
  have ih0 := vetchlaw18_NaiveCosts.mono_l k
  ·
   intro y0 y1 y2 y3 y4
   unfold vetchlaw18_NaiveCosts.j0
   repeat' first
   | (with_reducible exact ih0 _ _ _ _ _)
   | (with_reducible exact naive_Cost.mono _ _ _ _ _)
   | (with_reducible exact naive_Run.mono _ _ _ _ _)
   | (with_reducible exact vetchlaw18_awake.mono _)
   | (with_reducible exact vetchlaw18_fits.mono _ _ _ _ _)
   | (with_reducible exact vetchref18_Run.mono _ _ _ _ _)
   | (with_reducible exact LeO.refl _)
   | (with_reducible exact LeO.none _)
   | (with_reducible refine LeO.ite ?_ ?_)
   | (with_reducible refine LeO.bind ?_ (fun _ => ?_))
   | exact ih0 _ _ _ _ _
   | exact naive_Cost.mono _ _ _ _ _
   | exact naive_Run.mono _ _ _ _ _
   | exact vetchlaw18_awake.mono _
   | exact vetchlaw18_fits.mono _ _ _ _ _
   | exact vetchref18_Run.mono _ _ _ _ _
   | exact LeO.none _
   | refine LeO.ite ?_ ?_
   | refine LeO.bind ?_ (fun _ => ?_)
theorem vetchlaw18_NaiveCosts.mono : ∀ a0 a1 a2 a3 k, LeO (vetchlaw18_NaiveCosts.f k a0 a1 a2 a3) (vetchlaw18_NaiveCosts.f (k + 1) a0 a1 a2 a3) := by
 intro a0 a1 a2 a3 k
 have ih0 := vetchlaw18_NaiveCosts.mono_l k
 unfold vetchlaw18_NaiveCosts.f
 repeat' first
  | (with_reducible exact ih0 _ _ _ _ _)
  | (with_reducible exact naive_Cost.mono _ _ _ _ _)
  | (with_reducible exact naive_Run.mono _ _ _ _ _)
  | (with_reducible exact vetchlaw18_awake.mono _)
  | (with_reducible exact vetchlaw18_fits.mono _ _ _ _ _)
  | (with_reducible exact vetchref18_Run.mono _ _ _ _ _)
  | (with_reducible exact LeO.refl _)
  | (with_reducible exact LeO.none _)
  | (with_reducible refine LeO.ite ?_ ?_)
  | (with_reducible refine LeO.bind ?_ (fun _ => ?_))
  | exact ih0 _ _ _ _ _
  | exact naive_Cost.mono _ _ _ _ _
  | exact naive_Run.mono _ _ _ _ _
  | exact vetchlaw18_awake.mono _
  | exact vetchlaw18_fits.mono _ _ _ _ _
  | exact vetchref18_Run.mono _ _ _ _ _
  | exact LeO.none _
  | refine LeO.ite ?_ ?_
  | refine LeO.bind ?_ (fun _ => ?_)
set_option maxHeartbeats 8000000 in
set_option maxRecDepth 100000 in
theorem vetchlaw18_NaiveCosts.calls (k : Nat) (A0_0 : Option Addr) (c0_0 : Nat) (l0_0 : List (S51)) (A0_1 : Option Addr) (c0_1 : Nat) (l0_1 : List (S56)) (a1 : ByteArray) (a2 : Int) (r : Bool) (w : World) (hr0_0 : Kd.C k51 w A0_0 l0_0.length l0_0) (hc0_0 : l0_0.length ≤ c0_0) (hr0_1 : Kd.C k56 w A0_1 l0_1.length l0_1) (hc0_1 : l0_1.length ≤ c0_1) (h : vetchlaw18_NaiveCosts.f k l0_0 l0_1 a1 a2 = some r) :
 Calls Try.prog 5 #[.agg #[.slice A0_0 l0_0.length c0_0, .slice A0_1 l0_1.length c0_1], .string a1, .int .i64 a2] w fun e w' => e = .returned (.bool r) ∧ Below w.heap.size w w' := by
 have hu25 := Try.underlying25
 have hu31 := Try.underlying31
 have hu32 := Try.underlying32
 have hfd32_0 : ∀ (q0 : Bool) (q1 : Int) (q2 : Int) (W : World), (Instr.field 32 (.agg #[.bool q0, .int .i64 q1, .int .i64 q2]) 0).run Try.prog W = .ok (.bool q0) W := by intros; kernel_rfl
 have HR0_0 := Aside0.mk hr0_0
 have HC0_0 := Aside0.mk hc0_0
 clear hr0_0 hc0_0
 have HR0_1 := Aside0.mk hr0_1
 have HC0_1 := Aside0.mk hc0_1
 clear hr0_1 hc0_1
 have HB := Aside0.mk (Below.refl w.heap.size w)
 have H : ((vetchlaw18_awake.f k).bind fun t264 => (if t264 = true then ((vetchlaw18_fits.f k l0_0 l0_1 a1 a2).bind fun t265 => (vetchlaw18_NaiveCosts.j0 k a1 a2 (!t265) l0_0 l0_1)) else (vetchlaw18_NaiveCosts.j0 k a1 a2 true l0_0 l0_1))) = some r := h
 clear h
 have HC4 := Aside0.mk H
 clear H
 go_enter Try.func5, Try.ntmps5
 go_upto_region 1 with (first | ((with_reducible refine gate_dst (N := 3) rfl ?_); refine box_event ?hg (N := 3) ?hd (cs := #[.slice A0_0 l0_0.length c0_0, .slice A0_1 l0_1.length c0_1]) (t := 25) ?hr ?_; (case hd => rfl); (case hg => rfl); (case hr => first | (go_simp; done) | (go_simp; rfl)); intro gb263 hg w5 hbox hb; have n0_ := Aside0.mk (below_step (by repeat (first | (with_reducible first | exact HB.out | apply below_alloc | apply pw_below_drewN | apply below_drew1) | exact HB.out)) hb); have n1_ := Aside0.mk (hbox); have n2_ := Aside0.mk ((by rw [hg]; exact (below_size (by repeat (first | (with_reducible first | exact HB.out | apply below_alloc | apply pw_below_drewN | apply below_drew1) | exact HB.out))) : w.heap.size ≤ gb263)); have n3_ := Aside0.mk ((by rw [hg]; exact (below_size (by repeat (first | (with_reducible first | exact HB.out | apply below_alloc | apply pw_below_drewN | apply below_drew1) | exact HB.out))) : w.heap.size ≤ gb263)); clear HB; have HB := n0_; have BK263 := n1_; have GW263 := n2_; have GE263 := n3_; clear n0_ n1_ n2_ n3_; clear hb hbox hg))
 (try simp only [Act.put, List.setIfInBounds_toArray, List.set_cons_zero, List.set_cons_succ])
 go_cut [19] (fun v19 wc => ∃ (kq : Nat) (x19_3 : Bool), v19 = .bool x19_3 ∧ Aside0 (vetchlaw18_NaiveCosts.j0 kq a1 a2 x19_3 l0_0 l0_1 = some r) ∧ Aside0 (kq ≤ k) ∧ Aside0 (wc.heap[gb263]? = some (.cells #[(.slice A0_0 l0_0.length c0_0), (.slice A0_1 l0_1.length c0_1)] 25 (0, 0))) ∧ Aside0 (Below w.heap.size w wc))
 case first =>
  have H := HC4.out
  clear HC4
  replace H := Option.bind_eq_some_iff.mp H
  obtain ⟨t264, A60, H⟩ := H
  replace H : (if t264 = true then ((vetchlaw18_fits.f k l0_0 l0_1 a1 a2).bind fun t265 => (vetchlaw18_NaiveCosts.j0 k a1 a2 (!t265) l0_0 l0_1)) else (vetchlaw18_NaiveCosts.j0 k a1 a2 true l0_0 l0_1)) = some r := H
  have A6 := Aside0.mk A60
  clear A60
  by_cases c7 : t264 = true
  ·
   subst c7
   have H1 : ((vetchlaw18_fits.f k l0_0 l0_1 a1 a2).bind fun t265 => (vetchlaw18_NaiveCosts.j0 k a1 a2 (!t265) l0_0 l0_1)) = some r := by rw [if_pos rfl] at H; exact H
   clear H
   have H := H1
   clear H1
   replace H := Option.bind_eq_some_iff.mp H
   obtain ⟨t265, A80, H⟩ := H
   replace H : (vetchlaw18_NaiveCosts.j0 k a1 a2 (!t265) l0_0 l0_1) = some r := H
   have A8 := Aside0.mk A80
   clear A80
   have H' := Aside0.mk H
   clear H
   go_wp2_with (first | ((with_reducible refine gate_callee (f := 9) rfl ?_); refine goesL_ (some 11) rfl rfl Try.func9 (by kernel_rfl) rfl #[] rfl (by (try simp only [List.map_toArray, List.map_cons, List.map_nil]); first | done | rfl | (simp only [List.length_drop, List.length_take]; rfl)) ?_; (with_reducible refine (vetchlaw18_awake.calls k  true _ A6.out).mono ?_); rintro e w9 ⟨rfl, hb⟩; refine ⟨_, rfl, ?_⟩; have n0_ := Aside0.mk (blk_below (g := gb263) (o := .cells #[.slice A0_0 l0_0.length c0_0, .slice A0_1 l0_1.length c0_1] 25 (0, 0)) (by (with_reducible repeat (first | refine blk_drewN ?_ _ | refine blk_drew ?_ | refine blk_alloc ?_ _)); exact BK263.out) hb); have n1_ := Aside0.mk (below_step (by repeat (first | (with_reducible first | exact HB.out | apply below_alloc | apply pw_below_drewN | apply below_drew1 | refine below_set ?_ GE263.out) | exact HB.out)) hb); clear BK263; clear HB; have BK263 := n0_; have HB := n1_; clear n0_ n1_; (try clear hb); (try clear hb2); (try clear hk); (try clear hi); have hcz10_0 : w9.cell? ⟨gb263, 0, none⟩ = some (.slice A0_0 l0_0.length c0_0) := (blk_cell BK263.out 0).trans rfl; have hcz10_1 : w9.cell? ⟨gb263, 1, none⟩ = some (.slice A0_1 l0_1.length c0_1) := (blk_cell BK263.out 1).trans rfl; have hfz10_0 := blk_frozen BK263.out 0; have hfz10_1 := blk_frozen BK263.out 1) | (go_at_call 10; (with_reducible refine (vetchlaw18_fits.calls k _ _ l0_0 _ _ l0_1 a1 a2 t265 _ ?side1 ?side2 ?side3 ?side4 A8.out).mono ?_); (case side1 => repeat (first | exact (Kd.C_below HR0_0.out HB.out) | (with_reducible refine Kd.C_alloc ?_ _) | (with_reducible refine Kd.C_drewN ?_ _) | (with_reducible refine Kd.C_drew ?_))); (case side2 => exact HC0_0.out); (case side3 => repeat (first | exact (Kd.C_below HR0_1.out HB.out) | (with_reducible refine Kd.C_alloc ?_ _) | (with_reducible refine Kd.C_drewN ?_ _) | (with_reducible refine Kd.C_drew ?_))); (case side4 => exact HC0_1.out); rintro e w11 ⟨rfl, hb⟩; have n0_ := Aside0.mk (blk_below (g := gb263) (o := .cells #[.slice A0_0 l0_0.length c0_0, .slice A0_1 l0_1.length c0_1] 25 (0, 0)) (by (with_reducible repeat (first | refine blk_drewN ?_ _ | refine blk_drew ?_ | refine blk_alloc ?_ _)); exact BK263.out) hb); have n1_ := Aside0.mk (below_step (by repeat (first | (with_reducible first | exact HB.out | apply below_alloc | apply pw_below_drewN | apply below_drew1 | refine below_set ?_ GE263.out) | exact HB.out)) hb); clear BK263; clear HB; have BK263 := n0_; have HB := n1_; clear n0_ n1_; (try clear hb); (try clear hb2); (try clear hk); (try clear hi)))
   go_meet
   case rel => exact ⟨_, (!t265), (by first | rfl | (simp; done) | (simp [*]; done)), H', ⟨by first | omega | exact Nat.le_refl _⟩, ⟨by (with_reducible repeat (first | refine blk_drewN ?_ _ | refine blk_drew ?_ | refine blk_alloc ?_ _)); exact BK263.out⟩, ⟨by repeat (first | (with_reducible first | exact HB.out | apply below_alloc | apply pw_below_drewN | apply below_drew1 | refine below_set ?_ GE263.out) | exact HB.out)⟩⟩
  ·
   replace c7 := Bool.eq_false_iff.mpr c7
   subst c7
   have H1 : (vetchlaw18_NaiveCosts.j0 k a1 a2 true l0_0 l0_1) = some r := by rw [if_neg (show ¬ (false = true) by decide)] at H; exact H
   clear H
   have H := H1
   clear H1
   have H' := Aside0.mk H
   clear H
   go_wp2_with (first | ((with_reducible refine gate_callee (f := 9) rfl ?_); refine goesL_ (some 11) rfl rfl Try.func9 (by kernel_rfl) rfl #[] rfl (by (try simp only [List.map_toArray, List.map_cons, List.map_nil]); first | done | rfl | (simp only [List.length_drop, List.length_take]; rfl)) ?_; (with_reducible refine (vetchlaw18_awake.calls k  false _ A6.out).mono ?_); rintro e w12 ⟨rfl, hb⟩; refine ⟨_, rfl, ?_⟩; have n0_ := Aside0.mk (blk_below (g := gb263) (o := .cells #[.slice A0_0 l0_0.length c0_0, .slice A0_1 l0_1.length c0_1] 25 (0, 0)) (by (with_reducible repeat (first | refine blk_drewN ?_ _ | refine blk_drew ?_ | refine blk_alloc ?_ _)); exact BK263.out) hb); have n1_ := Aside0.mk (below_step (by repeat (first | (with_reducible first | exact HB.out | apply below_alloc | apply pw_below_drewN | apply below_drew1 | refine below_set ?_ GE263.out) | exact HB.out)) hb); clear BK263; clear HB; have BK263 := n0_; have HB := n1_; clear n0_ n1_; (try clear hb); (try clear hb2); (try clear hk); (try clear hi)))
   go_meet
   case rel => exact ⟨_, (true), (by first | rfl | (simp; done) | (simp [*]; done)), H', ⟨by first | omega | exact Nat.le_refl _⟩, ⟨by (with_reducible repeat (first | refine blk_drewN ?_ _ | refine blk_drew ?_ | refine blk_alloc ?_ _)); exact BK263.out⟩, ⟨by repeat (first | (with_reducible first | exact HB.out | apply below_alloc | apply pw_below_drewN | apply below_drew1 | refine below_set ?_ GE263.out) | exact HB.out)⟩⟩
 case rest =>
  clear HC4
  try clear p2
  try clear c5
  try clear c7
  try clear c9
  try clear hcz10_0
  try clear hcz10_1
  try clear hfz10_0
  try clear hfz10_1
  obtain ⟨kq, x19_3, rfl, HA, HJ3, BK263, HB⟩ := hcut
  cases kq with
  | zero => exact absurd HA.out (by simp [vetchlaw18_NaiveCosts.j0])
  | succ kj3 =>
   have H := HA.out
   clear HA
   simp only [vetchlaw18_NaiveCosts.j0] at H
   by_cases c13 : x19_3 = true
   ·
    subst c13
    have H1 : ((vetchlaw18_awake.f kj3).bind fun t266 => (some t266)) = some r := by rw [if_pos rfl] at H; exact H
    clear H
    have H := H1
    clear H1
    replace H := Option.bind_eq_some_iff.mp H
    obtain ⟨t266, A140, H⟩ := H
    replace H : (some t266) = some r := H
    have A14 := Aside0.mk A140
    clear A140
    obtain rfl := Option.some.inj H
    go_wp2_with (first | ((with_reducible refine gate_callee (f := 9) rfl ?_); refine goesL_ (some 20) rfl rfl Try.func9 (by kernel_rfl) rfl #[] rfl (by (try simp only [List.map_toArray, List.map_cons, List.map_nil]); first | done | rfl | (simp only [List.length_drop, List.length_take]; rfl)) ?_; (with_reducible refine (vetchlaw18_awake.calls kj3  t266 _ A14.out).mono ?_); rintro e w15 ⟨rfl, hb⟩; refine ⟨_, rfl, ?_⟩; have n0_ := Aside0.mk (blk_below (g := gb263) (o := .cells #[.slice A0_0 l0_0.length c0_0, .slice A0_1 l0_1.length c0_1] 25 (0, 0)) (by (with_reducible repeat (first | refine blk_drewN ?_ _ | refine blk_drew ?_ | refine blk_alloc ?_ _)); exact BK263.out) hb); have n1_ := Aside0.mk (below_step (by repeat (first | (with_reducible first | exact HB.out | apply below_alloc | apply pw_below_drewN | apply below_drew1 | refine below_set ?_ GE263.out) | exact HB.out)) hb); clear BK263; clear HB; have BK263 := n0_; have HB := n1_; clear n0_ n1_; (try clear hb); (try clear hb2); (try clear hk); (try clear hi)))
    go_ret
    exact ⟨by first | rfl | (simp [errW_none, errW_some] <;> rfl) | (simp [*, errW_none, errW_some] <;> rfl), by repeat (first | (with_reducible first | exact HB.out | apply below_alloc | apply pw_below_drewN | apply below_drew1 | refine below_set ?_ GE263.out) | exact HB.out)⟩
   ·
    replace c13 := Bool.eq_false_iff.mpr c13
    subst c13
    have H1 : ((naive_Cost.f kj3 l0_0 l0_1 a1 a2).bind fun bt267 => ((vetchref18_Run.f kj3 l0_0 l0_1 a1 a2).bind fun bt269 => (if bt267.2 = true then ((naive_Run.f kj3 l0_0 l0_1 a1 bt267.1).bind fun bt273 => (if bt269.1 = true then (if bt267.1 = (wrap64 (a2 - bt269.2.2)) then (if bt273.1 = true then (if bt273.2.2 = 0 then (if bt273.2.1 = bt269.2.1 then ((naive_Run.f kj3 l0_0 l0_1 a1 (wrap64 (bt267.1 - 1))).bind fun bt277 => (some (!bt277.1))) else (some false)) else (some false)) else (some false)) else (some false)) else (some false))) else (if bt267.1 = 0 then (some (!bt269.1)) else (some false))))) = some r := by rw [if_neg (show ¬ (false = true) by decide)] at H; exact H
    clear H
    have H := H1
    clear H1
    replace H := Option.bind_eq_some_iff.mp H
    obtain ⟨⟨t267, t268⟩, A160, H⟩ := H
    replace H : ((vetchref18_Run.f kj3 l0_0 l0_1 a1 a2).bind fun bt269 => (if t268 = true then ((naive_Run.f kj3 l0_0 l0_1 a1 t267).bind fun bt273 => (if bt269.1 = true then (if t267 = (wrap64 (a2 - bt269.2.2)) then (if bt273.1 = true then (if bt273.2.2 = 0 then (if bt273.2.1 = bt269.2.1 then ((naive_Run.f kj3 l0_0 l0_1 a1 (wrap64 (t267 - 1))).bind fun bt277 => (some (!bt277.1))) else (some false)) else (some false)) else (some false)) else (some false)) else (some false))) else (if t267 = 0 then (some (!bt269.1)) else (some false)))) = some r := H
    have A16 := Aside0.mk A160
    clear A160
    replace H := Option.bind_eq_some_iff.mp H
    obtain ⟨⟨t269, t270, t271⟩, A170, H⟩ := H
    replace H : (if t268 = true then ((naive_Run.f kj3 l0_0 l0_1 a1 t267).bind fun bt273 => (if t269 = true then (if t267 = (wrap64 (a2 - t271)) then (if bt273.1 = true then (if bt273.2.2 = 0 then (if bt273.2.1 = t270 then ((naive_Run.f kj3 l0_0 l0_1 a1 (wrap64 (t267 - 1))).bind fun bt277 => (some (!bt277.1))) else (some false)) else (some false)) else (some false)) else (some false)) else (some false))) else (if t267 = 0 then (some (!t269)) else (some false))) = some r := H
    have A17 := Aside0.mk A170
    clear A170
    have HC18 := Aside0.mk H
    clear H
    have hcz19_0 : wc.cell? ⟨gb263, 0, none⟩ = some (.slice A0_0 l0_0.length c0_0) := (blk_cell BK263.out 0).trans rfl
    have hcz19_1 : wc.cell? ⟨gb263, 1, none⟩ = some (.slice A0_1 l0_1.length c0_1) := (blk_cell BK263.out 1).trans rfl
    have hfz19_0 := blk_frozen BK263.out 0
    have hfz19_1 := blk_frozen BK263.out 1
    go_upto_if 33 with (first | ((with_reducible refine gate_callee (f := 15) rfl ?_); refine goesL_ (some 25) rfl rfl Try.func15 (by kernel_rfl) rfl #[.agg #[.slice A0_0 l0_0.length c0_0, .slice A0_1 l0_1.length c0_1], .string a1, .int .i64 a2] rfl (by (try simp only [List.map_toArray, List.map_cons, List.map_nil]); first | done | rfl | (simp only [List.length_drop, List.length_take]; rfl)) ?_; (with_reducible refine (naive_Cost.calls kj3 _ _ l0_0 _ _ l0_1 a1 a2 t267 t268 _ ?side1 ?side2 ?side3 ?side4 A16.out).mono ?_); (case side1 => repeat (first | exact (Kd.C_below HR0_0.out HB.out) | (with_reducible refine Kd.C_alloc ?_ _) | (with_reducible refine Kd.C_drewN ?_ _) | (with_reducible refine Kd.C_drew ?_))); (case side2 => exact HC0_0.out); (case side3 => repeat (first | exact (Kd.C_below HR0_1.out HB.out) | (with_reducible refine Kd.C_alloc ?_ _) | (with_reducible refine Kd.C_drewN ?_ _) | (with_reducible refine Kd.C_drew ?_))); (case side4 => exact HC0_1.out); rintro e w20 ⟨rfl, hb⟩; refine ⟨_, rfl, ?_⟩; have n0_ := Aside0.mk (blk_below (g := gb263) (o := .cells #[.slice A0_0 l0_0.length c0_0, .slice A0_1 l0_1.length c0_1] 25 (0, 0)) (by (with_reducible repeat (first | refine blk_drewN ?_ _ | refine blk_drew ?_ | refine blk_alloc ?_ _)); exact BK263.out) hb); have n1_ := Aside0.mk (below_step (by repeat (first | (with_reducible first | exact HB.out | apply below_alloc | apply pw_below_drewN | apply below_drew1 | refine below_set ?_ GE263.out) | exact HB.out)) hb); clear BK263; clear HB; have BK263 := n0_; have HB := n1_; clear n0_ n1_; (try clear hb); (try clear hb2); (try clear hk); (try clear hi); have hcz21_0 : w20.cell? ⟨gb263, 0, none⟩ = some (.slice A0_0 l0_0.length c0_0) := (blk_cell BK263.out 0).trans rfl; have hcz21_1 : w20.cell? ⟨gb263, 1, none⟩ = some (.slice A0_1 l0_1.length c0_1) := (blk_cell BK263.out 1).trans rfl; have hfz21_0 := blk_frozen BK263.out 0; have hfz21_1 := blk_frozen BK263.out 1) | ((with_reducible refine gate_callee (f := 14) rfl ?_); refine goesL_ (some 31) rfl rfl Try.func14 (by kernel_rfl) rfl #[.agg #[.slice A0_0 l0_0.length c0_0, .slice A0_1 l0_1.length c0_1], .string a1, .int .i64 a2] rfl (by (try simp only [List.map_toArray, List.map_cons, List.map_nil]); first | done | rfl | (simp only [List.length_drop, List.length_take]; rfl)) ?_; (with_reducible refine (vetchref18_Run.calls kj3 _ _ l0_0 _ _ l0_1 a1 a2 t269 t270 t271 _ ?side1 ?side2 ?side3 ?side4 A17.out).mono ?_); (case side1 => repeat (first | exact (Kd.C_below HR0_0.out HB.out) | (with_reducible refine Kd.C_alloc ?_ _) | (with_reducible refine Kd.C_drewN ?_ _) | (with_reducible refine Kd.C_drew ?_))); (case side2 => exact HC0_0.out); (case side3 => repeat (first | exact (Kd.C_below HR0_1.out HB.out) | (with_reducible refine Kd.C_alloc ?_ _) | (with_reducible refine Kd.C_drewN ?_ _) | (with_reducible refine Kd.C_drew ?_))); (case side4 => exact HC0_1.out); rintro e w22 ⟨rfl, hb⟩; refine ⟨_, rfl, ?_⟩; have n0_ := Aside0.mk (blk_below (g := gb263) (o := .cells #[.slice A0_0 l0_0.length c0_0, .slice A0_1 l0_1.length c0_1] 25 (0, 0)) (by (with_reducible repeat (first | refine blk_drewN ?_ _ | refine blk_drew ?_ | refine blk_alloc ?_ _)); exact BK263.out) hb); have n1_ := Aside0.mk (below_step (by repeat (first | (with_reducible first | exact HB.out | apply below_alloc | apply pw_below_drewN | apply below_drew1 | refine below_set ?_ GE263.out) | exact HB.out)) hb); clear BK263; clear HB; have BK263 := n0_; have HB := n1_; clear n0_ n1_; (try clear hb); (try clear hb2); (try clear hk); (try clear hi)) | ((with_reducible refine gate_dst (N := 9) rfl ?_); refine box_event ?hg (N := 9) ?hd (cs := #[.bool false, .int .i64 0, .int .i64 0]) (t := 31) ?hr ?_; (case hd => rfl); (case hg => rfl); (case hr => first | (go_simp; done) | (go_simp; rfl)); intro gb272 hg w23 hbox hb; have n0_ := Aside0.mk (blk_below (g := gb263) (o := .cells #[.slice A0_0 l0_0.length c0_0, .slice A0_1 l0_1.length c0_1] 25 (0, 0)) (by (with_reducible repeat (first | refine blk_drewN ?_ _ | refine blk_drew ?_ | refine blk_alloc ?_ _)); exact BK263.out) hb); have n1_ := Aside0.mk (below_step (by repeat (first | (with_reducible first | exact HB.out | apply below_alloc | apply pw_below_drewN | apply below_drew1 | refine below_set ?_ GE263.out) | exact HB.out)) hb); have n2_ := Aside0.mk (hbox); have n3_ := Aside0.mk ((by rw [hg]; exact (below_size (by repeat (first | (with_reducible first | exact HB.out | apply below_alloc | apply pw_below_drewN | apply below_drew1 | refine below_set ?_ GE263.out) | exact HB.out))) : w.heap.size ≤ gb272)); have n4_ := Aside0.mk ((by rw [hg]; exact (below_size (by repeat (first | (with_reducible first | exact HB.out | apply below_alloc | apply pw_below_drewN | apply below_drew1 | refine below_set ?_ GE263.out) | exact HB.out))) : w.heap.size ≤ gb272)); have n5_ := Aside0.mk ((by rw [hg]; exact Nat.ne_of_lt (blk_lt (g := gb263) (o := .cells #[.slice A0_0 l0_0.length c0_0, .slice A0_1 l0_1.length c0_1] 25 (0, 0)) (by (with_reducible repeat (first | refine blk_drewN ?_ _ | refine blk_drew ?_ | refine blk_alloc ?_ _)); exact BK263.out)) : gb263 ≠ gb272)); have n6_ := Aside0.mk ((by rw [hg]; exact Nat.ne_of_gt (blk_lt (g := gb263) (o := .cells #[.slice A0_0 l0_0.length c0_0, .slice A0_1 l0_1.length c0_1] 25 (0, 0)) (by (with_reducible repeat (first | refine blk_drewN ?_ _ | refine blk_drew ?_ | refine blk_alloc ?_ _)); exact BK263.out)) : gb272 ≠ gb263)); clear BK263; clear HB; have BK263 := n0_; have HB := n1_; have BK272 := n2_; have GW272 := n3_; have GE272 := n4_; have NB263_272 := n5_; have NB272_263 := n6_; clear n0_ n1_ n2_ n3_ n4_ n5_ n6_; clear hb hbox hg; have hnb24 := NB272_263.out; have hnc24 := NB263_272.out; have hcz25_0 : w23.cell? ⟨gb272, 0, none⟩ = some (.bool false) := (blk_cell BK272.out 0).trans rfl; have hcz25_1 : w23.cell? ⟨gb272, 1, none⟩ = some (.int .i64 0) := (blk_cell BK272.out 1).trans rfl; have hcz25_2 : w23.cell? ⟨gb272, 2, none⟩ = some (.int .i64 0) := (blk_cell BK272.out 2).trans rfl; have hfz25_0 := blk_frozen BK272.out 0; have hfz25_1 := blk_frozen BK272.out 1; have hfz25_2 := blk_frozen BK272.out 2))
    (try simp only [Act.put, List.setIfInBounds_toArray, List.set_cons_zero, List.set_cons_succ])
    have H := HC18.out
    clear HC18
    by_cases c26 : t268 = true
    ·
     subst c26
     have H1 : ((naive_Run.f kj3 l0_0 l0_1 a1 t267).bind fun bt273 => (if t269 = true then (if t267 = (wrap64 (a2 - t271)) then (if bt273.1 = true then (if bt273.2.2 = 0 then (if bt273.2.1 = t270 then ((naive_Run.f kj3 l0_0 l0_1 a1 (wrap64 (t267 - 1))).bind fun bt277 => (some (!bt277.1))) else (some false)) else (some false)) else (some false)) else (some false)) else (some false))) = some r := by rw [if_pos rfl] at H; exact H
     clear H
     have H := H1
     clear H1
     replace H := Option.bind_eq_some_iff.mp H
     obtain ⟨⟨t273, t274, t275⟩, A270, H⟩ := H
     replace H : (if t269 = true then (if t267 = (wrap64 (a2 - t271)) then (if t273 = true then (if t275 = 0 then (if t274 = t270 then ((naive_Run.f kj3 l0_0 l0_1 a1 (wrap64 (t267 - 1))).bind fun bt277 => (some (!bt277.1))) else (some false)) else (some false)) else (some false)) else (some false)) else (some false)) = some r := H
     have A27 := Aside0.mk A270
     clear A270
     by_cases c28 : t269 = true
     ·
      subst c28
      have H1 : (if t267 = (wrap64 (a2 - t271)) then (if t273 = true then (if t275 = 0 then (if t274 = t270 then ((naive_Run.f kj3 l0_0 l0_1 a1 (wrap64 (t267 - 1))).bind fun bt277 => (some (!bt277.1))) else (some false)) else (some false)) else (some false)) else (some false)) = some r := by rw [if_pos rfl] at H; exact H
      clear H
      have H := H1
      clear H1
      by_cases c29 : t267 = (wrap64 (a2 - t271))
      ·
       rw [if_pos c29] at H
       have c29b0 : (t267 == (wrap64 (a2 - t271))) = true := beq_iff_eq.mpr c29
       have c29b1 : (t267 != (wrap64 (a2 - t271))) = false := bne_eq_false_iff_eq.mpr c29
       clear c29
       (first | rw [c29b0] | (simp only [i64_w, i32_w]; rw [c29b0]) | skip)
       by_cases c30 : t273 = true
       ·
        subst c30
        have H1 : (if t275 = 0 then (if t274 = t270 then ((naive_Run.f kj3 l0_0 l0_1 a1 (wrap64 (t267 - 1))).bind fun bt277 => (some (!bt277.1))) else (some false)) else (some false)) = some r := by rw [if_pos rfl] at H; exact H
        clear H
        have H := H1
        clear H1
        by_cases c31 : t275 = 0
        ·
         rw [if_pos c31] at H
         have c31b0 : (t275 == 0) = true := beq_iff_eq.mpr c31
         have c31b1 : (t275 != 0) = false := bne_eq_false_iff_eq.mpr c31
         clear c31
         by_cases c32 : t274 = t270
         ·
          rw [if_pos c32] at H
          have c32b0 : (t274 == t270) = true := beq_iff_eq.mpr c32
          have c32b1 : (t274 != t270) = false := bne_eq_false_iff_eq.mpr c32
          clear c32
          replace H := Option.bind_eq_some_iff.mp H
          obtain ⟨⟨t277, t278, t279⟩, A330, H⟩ := H
          replace H : (some (!t277)) = some r := H
          have A33 := Aside0.mk A330
          clear A330
          obtain rfl := Option.some.inj H
          have hnb34 := NB263_272.out
          have hnc34 := NB272_263.out
          have hcz35_0 : w23.cell? ⟨gb263, 0, none⟩ = some (.slice A0_0 l0_0.length c0_0) := (blk_cell BK263.out 0).trans rfl
          have hcz35_1 : w23.cell? ⟨gb263, 1, none⟩ = some (.slice A0_1 l0_1.length c0_1) := (blk_cell BK263.out 1).trans rfl
          have hfz35_0 := blk_frozen BK263.out 0
          have hfz35_1 := blk_frozen BK263.out 1
          go_wp2_with (first | ((with_reducible refine gate_callee (f := 13) rfl ?_); refine goesL_ (some 44) rfl rfl Try.func13 (by kernel_rfl) rfl #[.agg #[.slice A0_0 l0_0.length c0_0, .slice A0_1 l0_1.length c0_1], .string a1, .int .i64 t267] rfl (by (try simp only [List.map_toArray, List.map_cons, List.map_nil]); first | done | rfl | (simp only [List.length_drop, List.length_take]; rfl)) ?_; (with_reducible refine (naive_Run.calls kj3 _ _ l0_0 _ _ l0_1 a1 t267 true t274 t275 _ ?side1 ?side2 ?side3 ?side4 A27.out).mono ?_); (case side1 => exact Kd.C_below HR0_0.out (by repeat (first | (with_reducible first | exact HB.out | apply below_alloc | apply pw_below_drewN | apply below_drew1 | refine below_set ?_ GE263.out | refine below_set ?_ GE272.out) | exact HB.out))); (case side2 => exact HC0_0.out); (case side3 => exact Kd.C_below HR0_1.out (by repeat (first | (with_reducible first | exact HB.out | apply below_alloc | apply pw_below_drewN | apply below_drew1 | refine below_set ?_ GE263.out | refine below_set ?_ GE272.out) | exact HB.out))); (case side4 => exact HC0_1.out); rintro e w36 ⟨rfl, hb⟩; refine ⟨_, rfl, ?_⟩; have n0_ := Aside0.mk (blk_below (g := gb263) (o := .cells #[.slice A0_0 l0_0.length c0_0, .slice A0_1 l0_1.length c0_1] 25 (0, 0)) (by (with_reducible repeat (first | refine blk_drewN ?_ _ | refine blk_drew ?_ | refine blk_alloc ?_ _)); refine blk_far ?_ NB263_272.out _; (with_reducible repeat (first | refine blk_drewN ?_ _ | refine blk_drew ?_ | refine blk_alloc ?_ _)); refine blk_far ?_ NB263_272.out _; (with_reducible repeat (first | refine blk_drewN ?_ _ | refine blk_drew ?_ | refine blk_alloc ?_ _)); refine blk_far ?_ NB263_272.out _; (with_reducible repeat (first | refine blk_drewN ?_ _ | refine blk_drew ?_ | refine blk_alloc ?_ _)); exact BK263.out) hb); have n1_ := Aside0.mk (blk_below (g := gb272) (o := .cells #[.bool true, .int .i64 t270, .int .i64 t271] 31 (0, 0)) (by (with_reducible repeat (first | refine blk_drewN ?_ _ | refine blk_drew ?_ | refine blk_alloc ?_ _)); refine blk_put (cs := #[.bool true, .int .i64 t270, .int .i64 0]) ?_ 2 _ rfl; (with_reducible repeat (first | refine blk_drewN ?_ _ | refine blk_drew ?_ | refine blk_alloc ?_ _)); refine blk_put (cs := #[.bool true, .int .i64 0, .int .i64 0]) ?_ 1 _ rfl; (with_reducible repeat (first | refine blk_drewN ?_ _ | refine blk_drew ?_ | refine blk_alloc ?_ _)); refine blk_put (cs := #[.bool false, .int .i64 0, .int .i64 0]) ?_ 0 _ rfl; (with_reducible repeat (first | refine blk_drewN ?_ _ | refine blk_drew ?_ | refine blk_alloc ?_ _)); exact BK272.out) hb); have n2_ := Aside0.mk (below_step (by repeat (first | (with_reducible first | exact HB.out | apply below_alloc | apply pw_below_drewN | apply below_drew1 | refine below_set ?_ GE263.out | refine below_set ?_ GE272.out) | exact HB.out)) hb); clear BK263; clear BK272; clear HB; have BK263 := n0_; have BK272 := n1_; have HB := n2_; clear n0_ n1_ n2_; (try clear hb); (try clear hb2); (try clear hk); (try clear hi)) | ((with_reducible refine gate_dst (N := 10) rfl ?_); refine box_event ?hg (N := 10) ?hd (cs := #[.bool false, .int .i64 0, .int .i64 0]) (t := 32) ?hr ?_; (case hd => rfl); (case hg => rfl); (case hr => first | (go_simp; done) | (go_simp; rfl)); intro gb276 hg w37 hbox hb; have n0_ := Aside0.mk (blk_below (g := gb263) (o := .cells #[.slice A0_0 l0_0.length c0_0, .slice A0_1 l0_1.length c0_1] 25 (0, 0)) (by (with_reducible repeat (first | refine blk_drewN ?_ _ | refine blk_drew ?_ | refine blk_alloc ?_ _)); exact BK263.out) hb); have n1_ := Aside0.mk (blk_below (g := gb272) (o := .cells #[.bool true, .int .i64 t270, .int .i64 t271] 31 (0, 0)) (by (with_reducible repeat (first | refine blk_drewN ?_ _ | refine blk_drew ?_ | refine blk_alloc ?_ _)); exact BK272.out) hb); have n2_ := Aside0.mk (below_step (by repeat (first | (with_reducible first | exact HB.out | apply below_alloc | apply pw_below_drewN | apply below_drew1 | refine below_set ?_ GE263.out | refine below_set ?_ GE272.out) | exact HB.out)) hb); have n3_ := Aside0.mk (hbox); have n4_ := Aside0.mk ((by rw [hg]; exact (below_size (by repeat (first | (with_reducible first | exact HB.out | apply below_alloc | apply pw_below_drewN | apply below_drew1 | refine below_set ?_ GE263.out | refine below_set ?_ GE272.out) | exact HB.out))) : w.heap.size ≤ gb276)); have n5_ := Aside0.mk ((by rw [hg]; exact (below_size (by repeat (first | (with_reducible first | exact HB.out | apply below_alloc | apply pw_below_drewN | apply below_drew1 | refine below_set ?_ GE263.out | refine below_set ?_ GE272.out) | exact HB.out))) : w.heap.size ≤ gb276)); have n6_ := Aside0.mk ((by rw [hg]; exact Nat.ne_of_lt (blk_lt (g := gb263) (o := .cells #[.slice A0_0 l0_0.length c0_0, .slice A0_1 l0_1.length c0_1] 25 (0, 0)) (by (with_reducible repeat (first | refine blk_drewN ?_ _ | refine blk_drew ?_ | refine blk_alloc ?_ _)); exact BK263.out)) : gb263 ≠ gb276)); have n7_ := Aside0.mk ((by rw [hg]; exact Nat.ne_of_gt (blk_lt (g := gb263) (o := .cells #[.slice A0_0 l0_0.length c0_0, .slice A0_1 l0_1.length c0_1] 25 (0, 0)) (by (with_reducible repeat (first | refine blk_drewN ?_ _ | refine blk_drew ?_ | refine blk_alloc ?_ _)); exact BK263.out)) : gb276 ≠ gb263)); have n8_ := Aside0.mk ((by rw [hg]; exact Nat.ne_of_lt (blk_lt (g := gb272) (o := .cells #[.bool true, .int .i64 t270, .int .i64 t271] 31 (0, 0)) (by (with_reducible repeat (first | refine blk_drewN ?_ _ | refine blk_drew ?_ | refine blk_alloc ?_ _)); exact BK272.out)) : gb272 ≠ gb276)); have n9_ := Aside0.mk ((by rw [hg]; exact Nat.ne_of_gt (blk_lt (g := gb272) (o := .cells #[.bool true, .int .i64 t270, .int .i64 t271] 31 (0, 0)) (by (with_reducible repeat (first | refine blk_drewN ?_ _ | refine blk_drew ?_ | refine blk_alloc ?_ _)); exact BK272.out)) : gb276 ≠ gb272)); clear BK263; clear BK272; clear HB; have BK263 := n0_; have BK272 := n1_; have HB := n2_; have BK276 := n3_; have GW276 := n4_; have GE276 := n5_; have NB263_276 := n6_; have NB276_263 := n7_; have NB272_276 := n8_; have NB276_272 := n9_; clear n0_ n1_ n2_ n3_ n4_ n5_ n6_ n7_ n8_ n9_; clear hb hbox hg; have hnb38 := NB276_263.out; have hnc38 := NB263_276.out; have hnb39 := NB276_272.out; have hnc39 := NB272_276.out; have hcz40_0 : w37.cell? ⟨gb276, 0, none⟩ = some (.bool false) := (blk_cell BK276.out 0).trans rfl; have hcz40_1 : w37.cell? ⟨gb276, 1, none⟩ = some (.int .i64 0) := (blk_cell BK276.out 1).trans rfl; have hcz40_2 : w37.cell? ⟨gb276, 2, none⟩ = some (.int .i64 0) := (blk_cell BK276.out 2).trans rfl; have hfz40_0 := blk_frozen BK276.out 0; have hfz40_1 := blk_frozen BK276.out 1; have hfz40_2 := blk_frozen BK276.out 2; have hcz41_0 : w37.cell? ⟨gb272, 0, none⟩ = some (.bool true) := (blk_cell BK272.out 0).trans rfl; have hcz41_1 : w37.cell? ⟨gb272, 1, none⟩ = some (.int .i64 t270) := (blk_cell BK272.out 1).trans rfl; have hcz41_2 : w37.cell? ⟨gb272, 2, none⟩ = some (.int .i64 t271) := (blk_cell BK272.out 2).trans rfl; have hfz41_0 := blk_frozen BK272.out 0; have hfz41_1 := blk_frozen BK272.out 1; have hfz41_2 := blk_frozen BK272.out 2; have hcz42_0 : w37.cell? ⟨gb263, 0, none⟩ = some (.slice A0_0 l0_0.length c0_0) := (blk_cell BK263.out 0).trans rfl; have hcz42_1 : w37.cell? ⟨gb263, 1, none⟩ = some (.slice A0_1 l0_1.length c0_1) := (blk_cell BK263.out 1).trans rfl; have hfz42_0 := blk_frozen BK263.out 0; have hfz42_1 := blk_frozen BK263.out 1) | (go_at_call 13; (with_reducible refine (naive_Run.calls kj3 _ _ l0_0 _ _ l0_1 a1 (wrap64 (t267 - 1)) t277 t278 t279 _ ?side1 ?side2 ?side3 ?side4 A33.out).mono ?_); (case side1 => exact Kd.C_below HR0_0.out (by repeat (first | (with_reducible first | exact HB.out | apply below_alloc | apply pw_below_drewN | apply below_drew1 | refine below_set ?_ GE263.out | refine below_set ?_ GE272.out | refine below_set ?_ GE276.out) | exact HB.out))); (case side2 => exact HC0_0.out); (case side3 => exact Kd.C_below HR0_1.out (by repeat (first | (with_reducible first | exact HB.out | apply below_alloc | apply pw_below_drewN | apply below_drew1 | refine below_set ?_ GE263.out | refine below_set ?_ GE272.out | refine below_set ?_ GE276.out) | exact HB.out))); (case side4 => exact HC0_1.out); rintro e w43 ⟨rfl, hb⟩; have n0_ := Aside0.mk (blk_below (g := gb263) (o := .cells #[.slice A0_0 l0_0.length c0_0, .slice A0_1 l0_1.length c0_1] 25 (0, 0)) (by (with_reducible repeat (first | refine blk_drewN ?_ _ | refine blk_drew ?_ | refine blk_alloc ?_ _)); refine blk_far ?_ NB263_276.out _; (with_reducible repeat (first | refine blk_drewN ?_ _ | refine blk_drew ?_ | refine blk_alloc ?_ _)); refine blk_far ?_ NB263_276.out _; (with_reducible repeat (first | refine blk_drewN ?_ _ | refine blk_drew ?_ | refine blk_alloc ?_ _)); refine blk_far ?_ NB263_276.out _; (with_reducible repeat (first | refine blk_drewN ?_ _ | refine blk_drew ?_ | refine blk_alloc ?_ _)); exact BK263.out) hb); have n1_ := Aside0.mk (blk_below (g := gb272) (o := .cells #[.bool true, .int .i64 t270, .int .i64 t271] 31 (0, 0)) (by (with_reducible repeat (first | refine blk_drewN ?_ _ | refine blk_drew ?_ | refine blk_alloc ?_ _)); refine blk_far ?_ NB272_276.out _; (with_reducible repeat (first | refine blk_drewN ?_ _ | refine blk_drew ?_ | refine blk_alloc ?_ _)); refine blk_far ?_ NB272_276.out _; (with_reducible repeat (first | refine blk_drewN ?_ _ | refine blk_drew ?_ | refine blk_alloc ?_ _)); refine blk_far ?_ NB272_276.out _; (with_reducible repeat (first | refine blk_drewN ?_ _ | refine blk_drew ?_ | refine blk_alloc ?_ _)); exact BK272.out) hb); have n2_ := Aside0.mk (blk_below (g := gb276) (o := .cells #[.bool true, .int .i64 t274, .int .i64 t275] 32 (0, 0)) (by (with_reducible repeat (first | refine blk_drewN ?_ _ | refine blk_drew ?_ | refine blk_alloc ?_ _)); refine blk_put (cs := #[.bool true, .int .i64 t274, .int .i64 0]) ?_ 2 _ rfl; (with_reducible repeat (first | refine blk_drewN ?_ _ | refine blk_drew ?_ | refine blk_alloc ?_ _)); refine blk_put (cs := #[.bool true, .int .i64 0, .int .i64 0]) ?_ 1 _ rfl; (with_reducible repeat (first | refine blk_drewN ?_ _ | refine blk_drew ?_ | refine blk_alloc ?_ _)); refine blk_put (cs := #[.bool false, .int .i64 0, .int .i64 0]) ?_ 0 _ rfl; (with_reducible repeat (first | refine blk_drewN ?_ _ | refine blk_drew ?_ | refine blk_alloc ?_ _)); exact BK276.out) hb); have n3_ := Aside0.mk (below_step (by repeat (first | (with_reducible first | exact HB.out | apply below_alloc | apply pw_below_drewN | apply below_drew1 | refine below_set ?_ GE263.out | refine below_set ?_ GE272.out | refine below_set ?_ GE276.out) | exact HB.out)) hb); clear BK263; clear BK272; clear BK276; clear HB; have BK263 := n0_; have BK272 := n1_; have BK276 := n2_; have HB := n3_; clear n0_ n1_ n2_ n3_; (try clear hb); (try clear hb2); (try clear hk); (try clear hi)))
          go_ret
          exact ⟨by first | rfl | (simp [errW_none, errW_some] <;> rfl) | (simp [*, errW_none, errW_some] <;> rfl), by repeat (first | (with_reducible first | exact HB.out | apply below_alloc | apply pw_below_drewN | apply below_drew1 | refine below_set ?_ GE263.out | refine below_set ?_ GE272.out | refine below_set ?_ GE276.out) | exact HB.out)⟩
         ·
          rw [if_neg c32] at H
          have c32b0 : (t274 == t270) = false := beq_eq_false_iff_ne.mpr c32
          have c32b1 : (t274 != t270) = true := bne_iff_ne.mpr c32
          obtain rfl := Option.some.inj H
          have hnb44 := NB263_272.out
          have hnc44 := NB272_263.out
          have hcz45_0 : w23.cell? ⟨gb263, 0, none⟩ = some (.slice A0_0 l0_0.length c0_0) := (blk_cell BK263.out 0).trans rfl
          have hcz45_1 : w23.cell? ⟨gb263, 1, none⟩ = some (.slice A0_1 l0_1.length c0_1) := (blk_cell BK263.out 1).trans rfl
          have hfz45_0 := blk_frozen BK263.out 0
          have hfz45_1 := blk_frozen BK263.out 1
          go_wp2_with (first | ((with_reducible refine gate_callee (f := 13) rfl ?_); refine goesL_ (some 44) rfl rfl Try.func13 (by kernel_rfl) rfl #[.agg #[.slice A0_0 l0_0.length c0_0, .slice A0_1 l0_1.length c0_1], .string a1, .int .i64 t267] rfl (by (try simp only [List.map_toArray, List.map_cons, List.map_nil]); first | done | rfl | (simp only [List.length_drop, List.length_take]; rfl)) ?_; (with_reducible refine (naive_Run.calls kj3 _ _ l0_0 _ _ l0_1 a1 t267 true t274 t275 _ ?side1 ?side2 ?side3 ?side4 A27.out).mono ?_); (case side1 => exact Kd.C_below HR0_0.out (by repeat (first | (with_reducible first | exact HB.out | apply below_alloc | apply pw_below_drewN | apply below_drew1 | refine below_set ?_ GE263.out | refine below_set ?_ GE272.out) | exact HB.out))); (case side2 => exact HC0_0.out); (case side3 => exact Kd.C_below HR0_1.out (by repeat (first | (with_reducible first | exact HB.out | apply below_alloc | apply pw_below_drewN | apply below_drew1 | refine below_set ?_ GE263.out | refine below_set ?_ GE272.out) | exact HB.out))); (case side4 => exact HC0_1.out); rintro e w46 ⟨rfl, hb⟩; refine ⟨_, rfl, ?_⟩; have n0_ := Aside0.mk (blk_below (g := gb263) (o := .cells #[.slice A0_0 l0_0.length c0_0, .slice A0_1 l0_1.length c0_1] 25 (0, 0)) (by (with_reducible repeat (first | refine blk_drewN ?_ _ | refine blk_drew ?_ | refine blk_alloc ?_ _)); refine blk_far ?_ NB263_272.out _; (with_reducible repeat (first | refine blk_drewN ?_ _ | refine blk_drew ?_ | refine blk_alloc ?_ _)); refine blk_far ?_ NB263_272.out _; (with_reducible repeat (first | refine blk_drewN ?_ _ | refine blk_drew ?_ | refine blk_alloc ?_ _)); refine blk_far ?_ NB263_272.out _; (with_reducible repeat (first | refine blk_drewN ?_ _ | refine blk_drew ?_ | refine blk_alloc ?_ _)); exact BK263.out) hb); have n1_ := Aside0.mk (blk_below (g := gb272) (o := .cells #[.bool true, .int .i64 t270, .int .i64 t271] 31 (0, 0)) (by (with_reducible repeat (first | refine blk_drewN ?_ _ | refine blk_drew ?_ | refine blk_alloc ?_ _)); refine blk_put (cs := #[.bool true, .int .i64 t270, .int .i64 0]) ?_ 2 _ rfl; (with_reducible repeat (first | refine blk_drewN ?_ _ | refine blk_drew ?_ | refine blk_alloc ?_ _)); refine blk_put (cs := #[.bool true, .int .i64 0, .int .i64 0]) ?_ 1 _ rfl; (with_reducible repeat (first | refine blk_drewN ?_ _ | refine blk_drew ?_ | refine blk_alloc ?_ _)); refine blk_put (cs := #[.bool false, .int .i64 0, .int .i64 0]) ?_ 0 _ rfl; (with_reducible repeat (first | refine blk_drewN ?_ _ | refine blk_drew ?_ | refine blk_alloc ?_ _)); exact BK272.out) hb); have n2_ := Aside0.mk (below_step (by repeat (first | (with_reducible first | exact HB.out | apply below_alloc | apply pw_below_drewN | apply below_drew1 | refine below_set ?_ GE263.out | refine below_set ?_ GE272.out) | exact HB.out)) hb); clear BK263; clear BK272; clear HB; have BK263 := n0_; have BK272 := n1_; have HB := n2_; clear n0_ n1_ n2_; (try clear hb); (try clear hb2); (try clear hk); (try clear hi)) | ((with_reducible refine gate_dst (N := 10) rfl ?_); refine box_event ?hg (N := 10) ?hd (cs := #[.bool false, .int .i64 0, .int .i64 0]) (t := 32) ?hr ?_; (case hd => rfl); (case hg => rfl); (case hr => first | (go_simp; done) | (go_simp; rfl)); intro gb276 hg w47 hbox hb; have n0_ := Aside0.mk (blk_below (g := gb263) (o := .cells #[.slice A0_0 l0_0.length c0_0, .slice A0_1 l0_1.length c0_1] 25 (0, 0)) (by (with_reducible repeat (first | refine blk_drewN ?_ _ | refine blk_drew ?_ | refine blk_alloc ?_ _)); exact BK263.out) hb); have n1_ := Aside0.mk (blk_below (g := gb272) (o := .cells #[.bool true, .int .i64 t270, .int .i64 t271] 31 (0, 0)) (by (with_reducible repeat (first | refine blk_drewN ?_ _ | refine blk_drew ?_ | refine blk_alloc ?_ _)); exact BK272.out) hb); have n2_ := Aside0.mk (below_step (by repeat (first | (with_reducible first | exact HB.out | apply below_alloc | apply pw_below_drewN | apply below_drew1 | refine below_set ?_ GE263.out | refine below_set ?_ GE272.out) | exact HB.out)) hb); have n3_ := Aside0.mk (hbox); have n4_ := Aside0.mk ((by rw [hg]; exact (below_size (by repeat (first | (with_reducible first | exact HB.out | apply below_alloc | apply pw_below_drewN | apply below_drew1 | refine below_set ?_ GE263.out | refine below_set ?_ GE272.out) | exact HB.out))) : w.heap.size ≤ gb276)); have n5_ := Aside0.mk ((by rw [hg]; exact (below_size (by repeat (first | (with_reducible first | exact HB.out | apply below_alloc | apply pw_below_drewN | apply below_drew1 | refine below_set ?_ GE263.out | refine below_set ?_ GE272.out) | exact HB.out))) : w.heap.size ≤ gb276)); have n6_ := Aside0.mk ((by rw [hg]; exact Nat.ne_of_lt (blk_lt (g := gb263) (o := .cells #[.slice A0_0 l0_0.length c0_0, .slice A0_1 l0_1.length c0_1] 25 (0, 0)) (by (with_reducible repeat (first | refine blk_drewN ?_ _ | refine blk_drew ?_ | refine blk_alloc ?_ _)); exact BK263.out)) : gb263 ≠ gb276)); have n7_ := Aside0.mk ((by rw [hg]; exact Nat.ne_of_gt (blk_lt (g := gb263) (o := .cells #[.slice A0_0 l0_0.length c0_0, .slice A0_1 l0_1.length c0_1] 25 (0, 0)) (by (with_reducible repeat (first | refine blk_drewN ?_ _ | refine blk_drew ?_ | refine blk_alloc ?_ _)); exact BK263.out)) : gb276 ≠ gb263)); have n8_ := Aside0.mk ((by rw [hg]; exact Nat.ne_of_lt (blk_lt (g := gb272) (o := .cells #[.bool true, .int .i64 t270, .int .i64 t271] 31 (0, 0)) (by (with_reducible repeat (first | refine blk_drewN ?_ _ | refine blk_drew ?_ | refine blk_alloc ?_ _)); exact BK272.out)) : gb272 ≠ gb276)); have n9_ := Aside0.mk ((by rw [hg]; exact Nat.ne_of_gt (blk_lt (g := gb272) (o := .cells #[.bool true, .int .i64 t270, .int .i64 t271] 31 (0, 0)) (by (with_reducible repeat (first | refine blk_drewN ?_ _ | refine blk_drew ?_ | refine blk_alloc ?_ _)); exact BK272.out)) : gb276 ≠ gb272)); clear BK263; clear BK272; clear HB; have BK263 := n0_; have BK272 := n1_; have HB := n2_; have BK276 := n3_; have GW276 := n4_; have GE276 := n5_; have NB263_276 := n6_; have NB276_263 := n7_; have NB272_276 := n8_; have NB276_272 := n9_; clear n0_ n1_ n2_ n3_ n4_ n5_ n6_ n7_ n8_ n9_; clear hb hbox hg; have hnb48 := NB276_263.out; have hnc48 := NB263_276.out; have hnb49 := NB276_272.out; have hnc49 := NB272_276.out; have hcz50_0 : w47.cell? ⟨gb276, 0, none⟩ = some (.bool false) := (blk_cell BK276.out 0).trans rfl; have hcz50_1 : w47.cell? ⟨gb276, 1, none⟩ = some (.int .i64 0) := (blk_cell BK276.out 1).trans rfl; have hcz50_2 : w47.cell? ⟨gb276, 2, none⟩ = some (.int .i64 0) := (blk_cell BK276.out 2).trans rfl; have hfz50_0 := blk_frozen BK276.out 0; have hfz50_1 := blk_frozen BK276.out 1; have hfz50_2 := blk_frozen BK276.out 2; have hcz51_0 : w47.cell? ⟨gb272, 0, none⟩ = some (.bool true) := (blk_cell BK272.out 0).trans rfl; have hcz51_1 : w47.cell? ⟨gb272, 1, none⟩ = some (.int .i64 t270) := (blk_cell BK272.out 1).trans rfl; have hcz51_2 : w47.cell? ⟨gb272, 2, none⟩ = some (.int .i64 t271) := (blk_cell BK272.out 2).trans rfl; have hfz51_0 := blk_frozen BK272.out 0; have hfz51_1 := blk_frozen BK272.out 1; have hfz51_2 := blk_frozen BK272.out 2))
          go_ret
          exact ⟨by first | rfl | (simp [errW_none, errW_some] <;> rfl) | (simp [*, errW_none, errW_some] <;> rfl), by repeat (first | (with_reducible first | exact HB.out | apply below_alloc | apply pw_below_drewN | apply below_drew1 | refine below_set ?_ GE263.out | refine below_set ?_ GE272.out | refine below_set ?_ GE276.out) | exact HB.out)⟩
        ·
         rw [if_neg c31] at H
         have c31b0 : (t275 == 0) = false := beq_eq_false_iff_ne.mpr c31
         have c31b1 : (t275 != 0) = true := bne_iff_ne.mpr c31
         obtain rfl := Option.some.inj H
         have hnb52 := NB263_272.out
         have hnc52 := NB272_263.out
         have hcz53_0 : w23.cell? ⟨gb263, 0, none⟩ = some (.slice A0_0 l0_0.length c0_0) := (blk_cell BK263.out 0).trans rfl
         have hcz53_1 : w23.cell? ⟨gb263, 1, none⟩ = some (.slice A0_1 l0_1.length c0_1) := (blk_cell BK263.out 1).trans rfl
         have hfz53_0 := blk_frozen BK263.out 0
         have hfz53_1 := blk_frozen BK263.out 1
         go_wp2_with (first | ((with_reducible refine gate_callee (f := 13) rfl ?_); refine goesL_ (some 44) rfl rfl Try.func13 (by kernel_rfl) rfl #[.agg #[.slice A0_0 l0_0.length c0_0, .slice A0_1 l0_1.length c0_1], .string a1, .int .i64 t267] rfl (by (try simp only [List.map_toArray, List.map_cons, List.map_nil]); first | done | rfl | (simp only [List.length_drop, List.length_take]; rfl)) ?_; (with_reducible refine (naive_Run.calls kj3 _ _ l0_0 _ _ l0_1 a1 t267 true t274 t275 _ ?side1 ?side2 ?side3 ?side4 A27.out).mono ?_); (case side1 => exact Kd.C_below HR0_0.out (by repeat (first | (with_reducible first | exact HB.out | apply below_alloc | apply pw_below_drewN | apply below_drew1 | refine below_set ?_ GE263.out | refine below_set ?_ GE272.out) | exact HB.out))); (case side2 => exact HC0_0.out); (case side3 => exact Kd.C_below HR0_1.out (by repeat (first | (with_reducible first | exact HB.out | apply below_alloc | apply pw_below_drewN | apply below_drew1 | refine below_set ?_ GE263.out | refine below_set ?_ GE272.out) | exact HB.out))); (case side4 => exact HC0_1.out); rintro e w54 ⟨rfl, hb⟩; refine ⟨_, rfl, ?_⟩; have n0_ := Aside0.mk (blk_below (g := gb263) (o := .cells #[.slice A0_0 l0_0.length c0_0, .slice A0_1 l0_1.length c0_1] 25 (0, 0)) (by (with_reducible repeat (first | refine blk_drewN ?_ _ | refine blk_drew ?_ | refine blk_alloc ?_ _)); refine blk_far ?_ NB263_272.out _; (with_reducible repeat (first | refine blk_drewN ?_ _ | refine blk_drew ?_ | refine blk_alloc ?_ _)); refine blk_far ?_ NB263_272.out _; (with_reducible repeat (first | refine blk_drewN ?_ _ | refine blk_drew ?_ | refine blk_alloc ?_ _)); refine blk_far ?_ NB263_272.out _; (with_reducible repeat (first | refine blk_drewN ?_ _ | refine blk_drew ?_ | refine blk_alloc ?_ _)); exact BK263.out) hb); have n1_ := Aside0.mk (blk_below (g := gb272) (o := .cells #[.bool true, .int .i64 t270, .int .i64 t271] 31 (0, 0)) (by (with_reducible repeat (first | refine blk_drewN ?_ _ | refine blk_drew ?_ | refine blk_alloc ?_ _)); refine blk_put (cs := #[.bool true, .int .i64 t270, .int .i64 0]) ?_ 2 _ rfl; (with_reducible repeat (first | refine blk_drewN ?_ _ | refine blk_drew ?_ | refine blk_alloc ?_ _)); refine blk_put (cs := #[.bool true, .int .i64 0, .int .i64 0]) ?_ 1 _ rfl; (with_reducible repeat (first | refine blk_drewN ?_ _ | refine blk_drew ?_ | refine blk_alloc ?_ _)); refine blk_put (cs := #[.bool false, .int .i64 0, .int .i64 0]) ?_ 0 _ rfl; (with_reducible repeat (first | refine blk_drewN ?_ _ | refine blk_drew ?_ | refine blk_alloc ?_ _)); exact BK272.out) hb); have n2_ := Aside0.mk (below_step (by repeat (first | (with_reducible first | exact HB.out | apply below_alloc | apply pw_below_drewN | apply below_drew1 | refine below_set ?_ GE263.out | refine below_set ?_ GE272.out) | exact HB.out)) hb); clear BK263; clear BK272; clear HB; have BK263 := n0_; have BK272 := n1_; have HB := n2_; clear n0_ n1_ n2_; (try clear hb); (try clear hb2); (try clear hk); (try clear hi)) | ((with_reducible refine gate_dst (N := 10) rfl ?_); refine box_event ?hg (N := 10) ?hd (cs := #[.bool false, .int .i64 0, .int .i64 0]) (t := 32) ?hr ?_; (case hd => rfl); (case hg => rfl); (case hr => first | (go_simp; done) | (go_simp; rfl)); intro gb276 hg w55 hbox hb; have n0_ := Aside0.mk (blk_below (g := gb263) (o := .cells #[.slice A0_0 l0_0.length c0_0, .slice A0_1 l0_1.length c0_1] 25 (0, 0)) (by (with_reducible repeat (first | refine blk_drewN ?_ _ | refine blk_drew ?_ | refine blk_alloc ?_ _)); exact BK263.out) hb); have n1_ := Aside0.mk (blk_below (g := gb272) (o := .cells #[.bool true, .int .i64 t270, .int .i64 t271] 31 (0, 0)) (by (with_reducible repeat (first | refine blk_drewN ?_ _ | refine blk_drew ?_ | refine blk_alloc ?_ _)); exact BK272.out) hb); have n2_ := Aside0.mk (below_step (by repeat (first | (with_reducible first | exact HB.out | apply below_alloc | apply pw_below_drewN | apply below_drew1 | refine below_set ?_ GE263.out | refine below_set ?_ GE272.out) | exact HB.out)) hb); have n3_ := Aside0.mk (hbox); have n4_ := Aside0.mk ((by rw [hg]; exact (below_size (by repeat (first | (with_reducible first | exact HB.out | apply below_alloc | apply pw_below_drewN | apply below_drew1 | refine below_set ?_ GE263.out | refine below_set ?_ GE272.out) | exact HB.out))) : w.heap.size ≤ gb276)); have n5_ := Aside0.mk ((by rw [hg]; exact (below_size (by repeat (first | (with_reducible first | exact HB.out | apply below_alloc | apply pw_below_drewN | apply below_drew1 | refine below_set ?_ GE263.out | refine below_set ?_ GE272.out) | exact HB.out))) : w.heap.size ≤ gb276)); have n6_ := Aside0.mk ((by rw [hg]; exact Nat.ne_of_lt (blk_lt (g := gb263) (o := .cells #[.slice A0_0 l0_0.length c0_0, .slice A0_1 l0_1.length c0_1] 25 (0, 0)) (by (with_reducible repeat (first | refine blk_drewN ?_ _ | refine blk_drew ?_ | refine blk_alloc ?_ _)); exact BK263.out)) : gb263 ≠ gb276)); have n7_ := Aside0.mk ((by rw [hg]; exact Nat.ne_of_gt (blk_lt (g := gb263) (o := .cells #[.slice A0_0 l0_0.length c0_0, .slice A0_1 l0_1.length c0_1] 25 (0, 0)) (by (with_reducible repeat (first | refine blk_drewN ?_ _ | refine blk_drew ?_ | refine blk_alloc ?_ _)); exact BK263.out)) : gb276 ≠ gb263)); have n8_ := Aside0.mk ((by rw [hg]; exact Nat.ne_of_lt (blk_lt (g := gb272) (o := .cells #[.bool true, .int .i64 t270, .int .i64 t271] 31 (0, 0)) (by (with_reducible repeat (first | refine blk_drewN ?_ _ | refine blk_drew ?_ | refine blk_alloc ?_ _)); exact BK272.out)) : gb272 ≠ gb276)); have n9_ := Aside0.mk ((by rw [hg]; exact Nat.ne_of_gt (blk_lt (g := gb272) (o := .cells #[.bool true, .int .i64 t270, .int .i64 t271] 31 (0, 0)) (by (with_reducible repeat (first | refine blk_drewN ?_ _ | refine blk_drew ?_ | refine blk_alloc ?_ _)); exact BK272.out)) : gb276 ≠ gb272)); clear BK263; clear BK272; clear HB; have BK263 := n0_; have BK272 := n1_; have HB := n2_; have BK276 := n3_; have GW276 := n4_; have GE276 := n5_; have NB263_276 := n6_; have NB276_263 := n7_; have NB272_276 := n8_; have NB276_272 := n9_; clear n0_ n1_ n2_ n3_ n4_ n5_ n6_ n7_ n8_ n9_; clear hb hbox hg; have hnb56 := NB276_263.out; have hnc56 := NB263_276.out; have hnb57 := NB276_272.out; have hnc57 := NB272_276.out; have hcz58_0 : w55.cell? ⟨gb276, 0, none⟩ = some (.bool false) := (blk_cell BK276.out 0).trans rfl; have hcz58_1 : w55.cell? ⟨gb276, 1, none⟩ = some (.int .i64 0) := (blk_cell BK276.out 1).trans rfl; have hcz58_2 : w55.cell? ⟨gb276, 2, none⟩ = some (.int .i64 0) := (blk_cell BK276.out 2).trans rfl; have hfz58_0 := blk_frozen BK276.out 0; have hfz58_1 := blk_frozen BK276.out 1; have hfz58_2 := blk_frozen BK276.out 2; have hcz59_0 : w55.cell? ⟨gb272, 0, none⟩ = some (.bool true) := (blk_cell BK272.out 0).trans rfl; have hcz59_1 : w55.cell? ⟨gb272, 1, none⟩ = some (.int .i64 t270) := (blk_cell BK272.out 1).trans rfl; have hcz59_2 : w55.cell? ⟨gb272, 2, none⟩ = some (.int .i64 t271) := (blk_cell BK272.out 2).trans rfl; have hfz59_0 := blk_frozen BK272.out 0; have hfz59_1 := blk_frozen BK272.out 1; have hfz59_2 := blk_frozen BK272.out 2))
         go_ret
         exact ⟨by first | rfl | (simp [errW_none, errW_some] <;> rfl) | (simp [*, errW_none, errW_some] <;> rfl), by repeat (first | (with_reducible first | exact HB.out | apply below_alloc | apply pw_below_drewN | apply below_drew1 | refine below_set ?_ GE263.out | refine below_set ?_ GE272.out | refine below_set ?_ GE276.out) | exact HB.out)⟩
       ·
        replace c30 := Bool.eq_false_iff.mpr c30
        subst c30
        have H1 : (some false) = some r := by rw [if_neg (show ¬ (false = true) by decide)] at H; exact H
        clear H
        have H := H1
        clear H1
        obtain rfl := Option.some.inj H
        have hnb60 := NB263_272.out
        have hnc60 := NB272_263.out
        have hcz61_0 : w23.cell? ⟨gb263, 0, none⟩ = some (.slice A0_0 l0_0.length c0_0) := (blk_cell BK263.out 0).trans rfl
        have hcz61_1 : w23.cell? ⟨gb263, 1, none⟩ = some (.slice A0_1 l0_1.length c0_1) := (blk_cell BK263.out 1).trans rfl
        have hfz61_0 := blk_frozen BK263.out 0
        have hfz61_1 := blk_frozen BK263.out 1
        go_wp2_with (first | ((with_reducible refine gate_callee (f := 13) rfl ?_); refine goesL_ (some 44) rfl rfl Try.func13 (by kernel_rfl) rfl #[.agg #[.slice A0_0 l0_0.length c0_0, .slice A0_1 l0_1.length c0_1], .string a1, .int .i64 t267] rfl (by (try simp only [List.map_toArray, List.map_cons, List.map_nil]); first | done | rfl | (simp only [List.length_drop, List.length_take]; rfl)) ?_; (with_reducible refine (naive_Run.calls kj3 _ _ l0_0 _ _ l0_1 a1 t267 false t274 t275 _ ?side1 ?side2 ?side3 ?side4 A27.out).mono ?_); (case side1 => exact Kd.C_below HR0_0.out (by repeat (first | (with_reducible first | exact HB.out | apply below_alloc | apply pw_below_drewN | apply below_drew1 | refine below_set ?_ GE263.out | refine below_set ?_ GE272.out) | exact HB.out))); (case side2 => exact HC0_0.out); (case side3 => exact Kd.C_below HR0_1.out (by repeat (first | (with_reducible first | exact HB.out | apply below_alloc | apply pw_below_drewN | apply below_drew1 | refine below_set ?_ GE263.out | refine below_set ?_ GE272.out) | exact HB.out))); (case side4 => exact HC0_1.out); rintro e w62 ⟨rfl, hb⟩; refine ⟨_, rfl, ?_⟩; have n0_ := Aside0.mk (blk_below (g := gb263) (o := .cells #[.slice A0_0 l0_0.length c0_0, .slice A0_1 l0_1.length c0_1] 25 (0, 0)) (by (with_reducible repeat (first | refine blk_drewN ?_ _ | refine blk_drew ?_ | refine blk_alloc ?_ _)); refine blk_far ?_ NB263_272.out _; (with_reducible repeat (first | refine blk_drewN ?_ _ | refine blk_drew ?_ | refine blk_alloc ?_ _)); refine blk_far ?_ NB263_272.out _; (with_reducible repeat (first | refine blk_drewN ?_ _ | refine blk_drew ?_ | refine blk_alloc ?_ _)); refine blk_far ?_ NB263_272.out _; (with_reducible repeat (first | refine blk_drewN ?_ _ | refine blk_drew ?_ | refine blk_alloc ?_ _)); exact BK263.out) hb); have n1_ := Aside0.mk (blk_below (g := gb272) (o := .cells #[.bool true, .int .i64 t270, .int .i64 t271] 31 (0, 0)) (by (with_reducible repeat (first | refine blk_drewN ?_ _ | refine blk_drew ?_ | refine blk_alloc ?_ _)); refine blk_put (cs := #[.bool true, .int .i64 t270, .int .i64 0]) ?_ 2 _ rfl; (with_reducible repeat (first | refine blk_drewN ?_ _ | refine blk_drew ?_ | refine blk_alloc ?_ _)); refine blk_put (cs := #[.bool true, .int .i64 0, .int .i64 0]) ?_ 1 _ rfl; (with_reducible repeat (first | refine blk_drewN ?_ _ | refine blk_drew ?_ | refine blk_alloc ?_ _)); refine blk_put (cs := #[.bool false, .int .i64 0, .int .i64 0]) ?_ 0 _ rfl; (with_reducible repeat (first | refine blk_drewN ?_ _ | refine blk_drew ?_ | refine blk_alloc ?_ _)); exact BK272.out) hb); have n2_ := Aside0.mk (below_step (by repeat (first | (with_reducible first | exact HB.out | apply below_alloc | apply pw_below_drewN | apply below_drew1 | refine below_set ?_ GE263.out | refine below_set ?_ GE272.out) | exact HB.out)) hb); clear BK263; clear BK272; clear HB; have BK263 := n0_; have BK272 := n1_; have HB := n2_; clear n0_ n1_ n2_; (try clear hb); (try clear hb2); (try clear hk); (try clear hi)) | ((with_reducible refine gate_dst (N := 10) rfl ?_); refine box_event ?hg (N := 10) ?hd (cs := #[.bool false, .int .i64 0, .int .i64 0]) (t := 32) ?hr ?_; (case hd => rfl); (case hg => rfl); (case hr => first | (go_simp; done) | (go_simp; rfl)); intro gb276 hg w63 hbox hb; have n0_ := Aside0.mk (blk_below (g := gb263) (o := .cells #[.slice A0_0 l0_0.length c0_0, .slice A0_1 l0_1.length c0_1] 25 (0, 0)) (by (with_reducible repeat (first | refine blk_drewN ?_ _ | refine blk_drew ?_ | refine blk_alloc ?_ _)); exact BK263.out) hb); have n1_ := Aside0.mk (blk_below (g := gb272) (o := .cells #[.bool true, .int .i64 t270, .int .i64 t271] 31 (0, 0)) (by (with_reducible repeat (first | refine blk_drewN ?_ _ | refine blk_drew ?_ | refine blk_alloc ?_ _)); exact BK272.out) hb); have n2_ := Aside0.mk (below_step (by repeat (first | (with_reducible first | exact HB.out | apply below_alloc | apply pw_below_drewN | apply below_drew1 | refine below_set ?_ GE263.out | refine below_set ?_ GE272.out) | exact HB.out)) hb); have n3_ := Aside0.mk (hbox); have n4_ := Aside0.mk ((by rw [hg]; exact (below_size (by repeat (first | (with_reducible first | exact HB.out | apply below_alloc | apply pw_below_drewN | apply below_drew1 | refine below_set ?_ GE263.out | refine below_set ?_ GE272.out) | exact HB.out))) : w.heap.size ≤ gb276)); have n5_ := Aside0.mk ((by rw [hg]; exact (below_size (by repeat (first | (with_reducible first | exact HB.out | apply below_alloc | apply pw_below_drewN | apply below_drew1 | refine below_set ?_ GE263.out | refine below_set ?_ GE272.out) | exact HB.out))) : w.heap.size ≤ gb276)); have n6_ := Aside0.mk ((by rw [hg]; exact Nat.ne_of_lt (blk_lt (g := gb263) (o := .cells #[.slice A0_0 l0_0.length c0_0, .slice A0_1 l0_1.length c0_1] 25 (0, 0)) (by (with_reducible repeat (first | refine blk_drewN ?_ _ | refine blk_drew ?_ | refine blk_alloc ?_ _)); exact BK263.out)) : gb263 ≠ gb276)); have n7_ := Aside0.mk ((by rw [hg]; exact Nat.ne_of_gt (blk_lt (g := gb263) (o := .cells #[.slice A0_0 l0_0.length c0_0, .slice A0_1 l0_1.length c0_1] 25 (0, 0)) (by (with_reducible repeat (first | refine blk_drewN ?_ _ | refine blk_drew ?_ | refine blk_alloc ?_ _)); exact BK263.out)) : gb276 ≠ gb263)); have n8_ := Aside0.mk ((by rw [hg]; exact Nat.ne_of_lt (blk_lt (g := gb272) (o := .cells #[.bool true, .int .i64 t270, .int .i64 t271] 31 (0, 0)) (by (with_reducible repeat (first | refine blk_drewN ?_ _ | refine blk_drew ?_ | refine blk_alloc ?_ _)); exact BK272.out)) : gb272 ≠ gb276)); have n9_ := Aside0.mk ((by rw [hg]; exact Nat.ne_of_gt (blk_lt (g := gb272) (o := .cells #[.bool true, .int .i64 t270, .int .i64 t271] 31 (0, 0)) (by (with_reducible repeat (first | refine blk_drewN ?_ _ | refine blk_drew ?_ | refine blk_alloc ?_ _)); exact BK272.out)) : gb276 ≠ gb272)); clear BK263; clear BK272; clear HB; have BK263 := n0_; have BK272 := n1_; have HB := n2_; have BK276 := n3_; have GW276 := n4_; have GE276 := n5_; have NB263_276 := n6_; have NB276_263 := n7_; have NB272_276 := n8_; have NB276_272 := n9_; clear n0_ n1_ n2_ n3_ n4_ n5_ n6_ n7_ n8_ n9_; clear hb hbox hg; have hnb64 := NB276_263.out; have hnc64 := NB263_276.out; have hnb65 := NB276_272.out; have hnc65 := NB272_276.out; have hcz66_0 : w63.cell? ⟨gb276, 0, none⟩ = some (.bool false) := (blk_cell BK276.out 0).trans rfl; have hcz66_1 : w63.cell? ⟨gb276, 1, none⟩ = some (.int .i64 0) := (blk_cell BK276.out 1).trans rfl; have hcz66_2 : w63.cell? ⟨gb276, 2, none⟩ = some (.int .i64 0) := (blk_cell BK276.out 2).trans rfl; have hfz66_0 := blk_frozen BK276.out 0; have hfz66_1 := blk_frozen BK276.out 1; have hfz66_2 := blk_frozen BK276.out 2; have hcz67_0 : w63.cell? ⟨gb272, 0, none⟩ = some (.bool true) := (blk_cell BK272.out 0).trans rfl; have hcz67_1 : w63.cell? ⟨gb272, 1, none⟩ = some (.int .i64 t270) := (blk_cell BK272.out 1).trans rfl; have hcz67_2 : w63.cell? ⟨gb272, 2, none⟩ = some (.int .i64 t271) := (blk_cell BK272.out 2).trans rfl; have hfz67_0 := blk_frozen BK272.out 0; have hfz67_1 := blk_frozen BK272.out 1; have hfz67_2 := blk_frozen BK272.out 2))
        go_ret
        exact ⟨by first | rfl | (simp [errW_none, errW_some] <;> rfl) | (simp [*, errW_none, errW_some] <;> rfl), by repeat (first | (with_reducible first | exact HB.out | apply below_alloc | apply pw_below_drewN | apply below_drew1 | refine below_set ?_ GE263.out | refine below_set ?_ GE272.out | refine below_set ?_ GE276.out) | exact HB.out)⟩
      ·
       rw [if_neg c29] at H
       have c29b0 : (t267 == (wrap64 (a2 - t271))) = false := beq_eq_false_iff_ne.mpr c29
       have c29b1 : (t267 != (wrap64 (a2 - t271))) = true := bne_iff_ne.mpr c29
       (first | rw [c29b0] | (simp only [i64_w, i32_w]; rw [c29b0]) | skip)
       obtain rfl := Option.some.inj H
       have hnb68 := NB263_272.out
       have hnc68 := NB272_263.out
       have hcz69_0 : w23.cell? ⟨gb263, 0, none⟩ = some (.slice A0_0 l0_0.length c0_0) := (blk_cell BK263.out 0).trans rfl
       have hcz69_1 : w23.cell? ⟨gb263, 1, none⟩ = some (.slice A0_1 l0_1.length c0_1) := (blk_cell BK263.out 1).trans rfl
       have hfz69_0 := blk_frozen BK263.out 0
       have hfz69_1 := blk_frozen BK263.out 1
       go_wp2_with (first | ((with_reducible refine gate_callee (f := 13) rfl ?_); refine goesL_ (some 44) rfl rfl Try.func13 (by kernel_rfl) rfl #[.agg #[.slice A0_0 l0_0.length c0_0, .slice A0_1 l0_1.length c0_1], .string a1, .int .i64 t267] rfl (by (try simp only [List.map_toArray, List.map_cons, List.map_nil]); first | done | rfl | (simp only [List.length_drop, List.length_take]; rfl)) ?_; (with_reducible refine (naive_Run.calls kj3 _ _ l0_0 _ _ l0_1 a1 t267 t273 t274 t275 _ ?side1 ?side2 ?side3 ?side4 A27.out).mono ?_); (case side1 => exact Kd.C_below HR0_0.out (by repeat (first | (with_reducible first | exact HB.out | apply below_alloc | apply pw_below_drewN | apply below_drew1 | refine below_set ?_ GE263.out | refine below_set ?_ GE272.out) | exact HB.out))); (case side2 => exact HC0_0.out); (case side3 => exact Kd.C_below HR0_1.out (by repeat (first | (with_reducible first | exact HB.out | apply below_alloc | apply pw_below_drewN | apply below_drew1 | refine below_set ?_ GE263.out | refine below_set ?_ GE272.out) | exact HB.out))); (case side4 => exact HC0_1.out); rintro e w70 ⟨rfl, hb⟩; refine ⟨_, rfl, ?_⟩; have n0_ := Aside0.mk (blk_below (g := gb263) (o := .cells #[.slice A0_0 l0_0.length c0_0, .slice A0_1 l0_1.length c0_1] 25 (0, 0)) (by (with_reducible repeat (first | refine blk_drewN ?_ _ | refine blk_drew ?_ | refine blk_alloc ?_ _)); refine blk_far ?_ NB263_272.out _; (with_reducible repeat (first | refine blk_drewN ?_ _ | refine blk_drew ?_ | refine blk_alloc ?_ _)); refine blk_far ?_ NB263_272.out _; (with_reducible repeat (first | refine blk_drewN ?_ _ | refine blk_drew ?_ | refine blk_alloc ?_ _)); refine blk_far ?_ NB263_272.out _; (with_reducible repeat (first | refine blk_drewN ?_ _ | refine blk_drew ?_ | refine blk_alloc ?_ _)); exact BK263.out) hb); have n1_ := Aside0.mk (blk_below (g := gb272) (o := .cells #[.bool true, .int .i64 t270, .int .i64 t271] 31 (0, 0)) (by (with_reducible repeat (first | refine blk_drewN ?_ _ | refine blk_drew ?_ | refine blk_alloc ?_ _)); refine blk_put (cs := #[.bool true, .int .i64 t270, .int .i64 0]) ?_ 2 _ rfl; (with_reducible repeat (first | refine blk_drewN ?_ _ | refine blk_drew ?_ | refine blk_alloc ?_ _)); refine blk_put (cs := #[.bool true, .int .i64 0, .int .i64 0]) ?_ 1 _ rfl; (with_reducible repeat (first | refine blk_drewN ?_ _ | refine blk_drew ?_ | refine blk_alloc ?_ _)); refine blk_put (cs := #[.bool false, .int .i64 0, .int .i64 0]) ?_ 0 _ rfl; (with_reducible repeat (first | refine blk_drewN ?_ _ | refine blk_drew ?_ | refine blk_alloc ?_ _)); exact BK272.out) hb); have n2_ := Aside0.mk (below_step (by repeat (first | (with_reducible first | exact HB.out | apply below_alloc | apply pw_below_drewN | apply below_drew1 | refine below_set ?_ GE263.out | refine below_set ?_ GE272.out) | exact HB.out)) hb); clear BK263; clear BK272; clear HB; have BK263 := n0_; have BK272 := n1_; have HB := n2_; clear n0_ n1_ n2_; (try clear hb); (try clear hb2); (try clear hk); (try clear hi)) | ((with_reducible refine gate_dst (N := 10) rfl ?_); refine box_event ?hg (N := 10) ?hd (cs := #[.bool false, .int .i64 0, .int .i64 0]) (t := 32) ?hr ?_; (case hd => rfl); (case hg => rfl); (case hr => first | (go_simp; done) | (go_simp; rfl)); intro gb276 hg w71 hbox hb; have n0_ := Aside0.mk (blk_below (g := gb263) (o := .cells #[.slice A0_0 l0_0.length c0_0, .slice A0_1 l0_1.length c0_1] 25 (0, 0)) (by (with_reducible repeat (first | refine blk_drewN ?_ _ | refine blk_drew ?_ | refine blk_alloc ?_ _)); exact BK263.out) hb); have n1_ := Aside0.mk (blk_below (g := gb272) (o := .cells #[.bool true, .int .i64 t270, .int .i64 t271] 31 (0, 0)) (by (with_reducible repeat (first | refine blk_drewN ?_ _ | refine blk_drew ?_ | refine blk_alloc ?_ _)); exact BK272.out) hb); have n2_ := Aside0.mk (below_step (by repeat (first | (with_reducible first | exact HB.out | apply below_alloc | apply pw_below_drewN | apply below_drew1 | refine below_set ?_ GE263.out | refine below_set ?_ GE272.out) | exact HB.out)) hb); have n3_ := Aside0.mk (hbox); have n4_ := Aside0.mk ((by rw [hg]; exact (below_size (by repeat (first | (with_reducible first | exact HB.out | apply below_alloc | apply pw_below_drewN | apply below_drew1 | refine below_set ?_ GE263.out | refine below_set ?_ GE272.out) | exact HB.out))) : w.heap.size ≤ gb276)); have n5_ := Aside0.mk ((by rw [hg]; exact (below_size (by repeat (first | (with_reducible first | exact HB.out | apply below_alloc | apply pw_below_drewN | apply below_drew1 | refine below_set ?_ GE263.out | refine below_set ?_ GE272.out) | exact HB.out))) : w.heap.size ≤ gb276)); have n6_ := Aside0.mk ((by rw [hg]; exact Nat.ne_of_lt (blk_lt (g := gb263) (o := .cells #[.slice A0_0 l0_0.length c0_0, .slice A0_1 l0_1.length c0_1] 25 (0, 0)) (by (with_reducible repeat (first | refine blk_drewN ?_ _ | refine blk_drew ?_ | refine blk_alloc ?_ _)); exact BK263.out)) : gb263 ≠ gb276)); have n7_ := Aside0.mk ((by rw [hg]; exact Nat.ne_of_gt (blk_lt (g := gb263) (o := .cells #[.slice A0_0 l0_0.length c0_0, .slice A0_1 l0_1.length c0_1] 25 (0, 0)) (by (with_reducible repeat (first | refine blk_drewN ?_ _ | refine blk_drew ?_ | refine blk_alloc ?_ _)); exact BK263.out)) : gb276 ≠ gb263)); have n8_ := Aside0.mk ((by rw [hg]; exact Nat.ne_of_lt (blk_lt (g := gb272) (o := .cells #[.bool true, .int .i64 t270, .int .i64 t271] 31 (0, 0)) (by (with_reducible repeat (first | refine blk_drewN ?_ _ | refine blk_drew ?_ | refine blk_alloc ?_ _)); exact BK272.out)) : gb272 ≠ gb276)); have n9_ := Aside0.mk ((by rw [hg]; exact Nat.ne_of_gt (blk_lt (g := gb272) (o := .cells #[.bool true, .int .i64 t270, .int .i64 t271] 31 (0, 0)) (by (with_reducible repeat (first | refine blk_drewN ?_ _ | refine blk_drew ?_ | refine blk_alloc ?_ _)); exact BK272.out)) : gb276 ≠ gb272)); clear BK263; clear BK272; clear HB; have BK263 := n0_; have BK272 := n1_; have HB := n2_; have BK276 := n3_; have GW276 := n4_; have GE276 := n5_; have NB263_276 := n6_; have NB276_263 := n7_; have NB272_276 := n8_; have NB276_272 := n9_; clear n0_ n1_ n2_ n3_ n4_ n5_ n6_ n7_ n8_ n9_; clear hb hbox hg; have hnb72 := NB276_263.out; have hnc72 := NB263_276.out; have hnb73 := NB276_272.out; have hnc73 := NB272_276.out; have hcz74_0 : w71.cell? ⟨gb276, 0, none⟩ = some (.bool false) := (blk_cell BK276.out 0).trans rfl; have hcz74_1 : w71.cell? ⟨gb276, 1, none⟩ = some (.int .i64 0) := (blk_cell BK276.out 1).trans rfl; have hcz74_2 : w71.cell? ⟨gb276, 2, none⟩ = some (.int .i64 0) := (blk_cell BK276.out 2).trans rfl; have hfz74_0 := blk_frozen BK276.out 0; have hfz74_1 := blk_frozen BK276.out 1; have hfz74_2 := blk_frozen BK276.out 2; have hcz75_0 : w71.cell? ⟨gb272, 0, none⟩ = some (.bool true) := (blk_cell BK272.out 0).trans rfl; have hcz75_1 : w71.cell? ⟨gb272, 1, none⟩ = some (.int .i64 t270) := (blk_cell BK272.out 1).trans rfl; have hcz75_2 : w71.cell? ⟨gb272, 2, none⟩ = some (.int .i64 t271) := (blk_cell BK272.out 2).trans rfl; have hfz75_0 := blk_frozen BK272.out 0; have hfz75_1 := blk_frozen BK272.out 1; have hfz75_2 := blk_frozen BK272.out 2))
       go_ret
       exact ⟨by first | rfl | (simp [errW_none, errW_some] <;> rfl) | (simp [*, errW_none, errW_some] <;> rfl), by repeat (first | (with_reducible first | exact HB.out | apply below_alloc | apply pw_below_drewN | apply below_drew1 | refine below_set ?_ GE263.out | refine below_set ?_ GE272.out | refine below_set ?_ GE276.out) | exact HB.out)⟩
     ·
      replace c28 := Bool.eq_false_iff.mpr c28
      subst c28
      have H1 : (some false) = some r := by rw [if_neg (show ¬ (false = true) by decide)] at H; exact H
      clear H
      have H := H1
      clear H1
      obtain rfl := Option.some.inj H
      have hnb76 := NB263_272.out
      have hnc76 := NB272_263.out
      have hcz77_0 : w23.cell? ⟨gb263, 0, none⟩ = some (.slice A0_0 l0_0.length c0_0) := (blk_cell BK263.out 0).trans rfl
      have hcz77_1 : w23.cell? ⟨gb263, 1, none⟩ = some (.slice A0_1 l0_1.length c0_1) := (blk_cell BK263.out 1).trans rfl
      have hfz77_0 := blk_frozen BK263.out 0
      have hfz77_1 := blk_frozen BK263.out 1
      go_wp2_with (first | ((with_reducible refine gate_callee (f := 13) rfl ?_); refine goesL_ (some 44) rfl rfl Try.func13 (by kernel_rfl) rfl #[.agg #[.slice A0_0 l0_0.length c0_0, .slice A0_1 l0_1.length c0_1], .string a1, .int .i64 t267] rfl (by (try simp only [List.map_toArray, List.map_cons, List.map_nil]); first | done | rfl | (simp only [List.length_drop, List.length_take]; rfl)) ?_; (with_reducible refine (naive_Run.calls kj3 _ _ l0_0 _ _ l0_1 a1 t267 t273 t274 t275 _ ?side1 ?side2 ?side3 ?side4 A27.out).mono ?_); (case side1 => exact Kd.C_below HR0_0.out (by repeat (first | (with_reducible first | exact HB.out | apply below_alloc | apply pw_below_drewN | apply below_drew1 | refine below_set ?_ GE263.out | refine below_set ?_ GE272.out) | exact HB.out))); (case side2 => exact HC0_0.out); (case side3 => exact Kd.C_below HR0_1.out (by repeat (first | (with_reducible first | exact HB.out | apply below_alloc | apply pw_below_drewN | apply below_drew1 | refine below_set ?_ GE263.out | refine below_set ?_ GE272.out) | exact HB.out))); (case side4 => exact HC0_1.out); rintro e w78 ⟨rfl, hb⟩; refine ⟨_, rfl, ?_⟩; have n0_ := Aside0.mk (blk_below (g := gb263) (o := .cells #[.slice A0_0 l0_0.length c0_0, .slice A0_1 l0_1.length c0_1] 25 (0, 0)) (by (with_reducible repeat (first | refine blk_drewN ?_ _ | refine blk_drew ?_ | refine blk_alloc ?_ _)); refine blk_far ?_ NB263_272.out _; (with_reducible repeat (first | refine blk_drewN ?_ _ | refine blk_drew ?_ | refine blk_alloc ?_ _)); refine blk_far ?_ NB263_272.out _; (with_reducible repeat (first | refine blk_drewN ?_ _ | refine blk_drew ?_ | refine blk_alloc ?_ _)); refine blk_far ?_ NB263_272.out _; (with_reducible repeat (first | refine blk_drewN ?_ _ | refine blk_drew ?_ | refine blk_alloc ?_ _)); exact BK263.out) hb); have n1_ := Aside0.mk (blk_below (g := gb272) (o := .cells #[.bool false, .int .i64 t270, .int .i64 t271] 31 (0, 0)) (by (with_reducible repeat (first | refine blk_drewN ?_ _ | refine blk_drew ?_ | refine blk_alloc ?_ _)); refine blk_put (cs := #[.bool false, .int .i64 t270, .int .i64 0]) ?_ 2 _ rfl; (with_reducible repeat (first | refine blk_drewN ?_ _ | refine blk_drew ?_ | refine blk_alloc ?_ _)); refine blk_put (cs := #[.bool false, .int .i64 0, .int .i64 0]) ?_ 1 _ rfl; (with_reducible repeat (first | refine blk_drewN ?_ _ | refine blk_drew ?_ | refine blk_alloc ?_ _)); refine blk_put (cs := #[.bool false, .int .i64 0, .int .i64 0]) ?_ 0 _ rfl; (with_reducible repeat (first | refine blk_drewN ?_ _ | refine blk_drew ?_ | refine blk_alloc ?_ _)); exact BK272.out) hb); have n2_ := Aside0.mk (below_step (by repeat (first | (with_reducible first | exact HB.out | apply below_alloc | apply pw_below_drewN | apply below_drew1 | refine below_set ?_ GE263.out | refine below_set ?_ GE272.out) | exact HB.out)) hb); clear BK263; clear BK272; clear HB; have BK263 := n0_; have BK272 := n1_; have HB := n2_; clear n0_ n1_ n2_; (try clear hb); (try clear hb2); (try clear hk); (try clear hi)) | ((with_reducible refine gate_dst (N := 10) rfl ?_); refine box_event ?hg (N := 10) ?hd (cs := #[.bool false, .int .i64 0, .int .i64 0]) (t := 32) ?hr ?_; (case hd => rfl); (case hg => rfl); (case hr => first | (go_simp; done) | (go_simp; rfl)); intro gb276 hg w79 hbox hb; have n0_ := Aside0.mk (blk_below (g := gb263) (o := .cells #[.slice A0_0 l0_0.length c0_0, .slice A0_1 l0_1.length c0_1] 25 (0, 0)) (by (with_reducible repeat (first | refine blk_drewN ?_ _ | refine blk_drew ?_ | refine blk_alloc ?_ _)); exact BK263.out) hb); have n1_ := Aside0.mk (blk_below (g := gb272) (o := .cells #[.bool false, .int .i64 t270, .int .i64 t271] 31 (0, 0)) (by (with_reducible repeat (first | refine blk_drewN ?_ _ | refine blk_drew ?_ | refine blk_alloc ?_ _)); exact BK272.out) hb); have n2_ := Aside0.mk (below_step (by repeat (first | (with_reducible first | exact HB.out | apply below_alloc | apply pw_below_drewN | apply below_drew1 | refine below_set ?_ GE263.out | refine below_set ?_ GE272.out) | exact HB.out)) hb); have n3_ := Aside0.mk (hbox); have n4_ := Aside0.mk ((by rw [hg]; exact (below_size (by repeat (first | (with_reducible first | exact HB.out | apply below_alloc | apply pw_below_drewN | apply below_drew1 | refine below_set ?_ GE263.out | refine below_set ?_ GE272.out) | exact HB.out))) : w.heap.size ≤ gb276)); have n5_ := Aside0.mk ((by rw [hg]; exact (below_size (by repeat (first | (with_reducible first | exact HB.out | apply below_alloc | apply pw_below_drewN | apply below_drew1 | refine below_set ?_ GE263.out | refine below_set ?_ GE272.out) | exact HB.out))) : w.heap.size ≤ gb276)); have n6_ := Aside0.mk ((by rw [hg]; exact Nat.ne_of_lt (blk_lt (g := gb263) (o := .cells #[.slice A0_0 l0_0.length c0_0, .slice A0_1 l0_1.length c0_1] 25 (0, 0)) (by (with_reducible repeat (first | refine blk_drewN ?_ _ | refine blk_drew ?_ | refine blk_alloc ?_ _)); exact BK263.out)) : gb263 ≠ gb276)); have n7_ := Aside0.mk ((by rw [hg]; exact Nat.ne_of_gt (blk_lt (g := gb263) (o := .cells #[.slice A0_0 l0_0.length c0_0, .slice A0_1 l0_1.length c0_1] 25 (0, 0)) (by (with_reducible repeat (first | refine blk_drewN ?_ _ | refine blk_drew ?_ | refine blk_alloc ?_ _)); exact BK263.out)) : gb276 ≠ gb263)); have n8_ := Aside0.mk ((by rw [hg]; exact Nat.ne_of_lt (blk_lt (g := gb272) (o := .cells #[.bool false, .int .i64 t270, .int .i64 t271] 31 (0, 0)) (by (with_reducible repeat (first | refine blk_drewN ?_ _ | refine blk_drew ?_ | refine blk_alloc ?_ _)); exact BK272.out)) : gb272 ≠ gb276)); have n9_ := Aside0.mk ((by rw [hg]; exact Nat.ne_of_gt (blk_lt (g := gb272) (o := .cells #[.bool false, .int .i64 t270, .int .i64 t271] 31 (0, 0)) (by (with_reducible repeat (first | refine blk_drewN ?_ _ | refine blk_drew ?_ | refine blk_alloc ?_ _)); exact BK272.out)) : gb276 ≠ gb272)); clear BK263; clear BK272; clear HB; have BK263 := n0_; have BK272 := n1_; have HB := n2_; have BK276 := n3_; have GW276 := n4_; have GE276 := n5_; have NB263_276 := n6_; have NB276_263 := n7_; have NB272_276 := n8_; have NB276_272 := n9_; clear n0_ n1_ n2_ n3_ n4_ n5_ n6_ n7_ n8_ n9_; clear hb hbox hg; have hnb80 := NB276_263.out; have hnc80 := NB263_276.out; have hnb81 := NB276_272.out; have hnc81 := NB272_276.out; have hcz82_0 : w79.cell? ⟨gb276, 0, none⟩ = some (.bool false) := (blk_cell BK276.out 0).trans rfl; have hcz82_1 : w79.cell? ⟨gb276, 1, none⟩ = some (.int .i64 0) := (blk_cell BK276.out 1).trans rfl; have hcz82_2 : w79.cell? ⟨gb276, 2, none⟩ = some (.int .i64 0) := (blk_cell BK276.out 2).trans rfl; have hfz82_0 := blk_frozen BK276.out 0; have hfz82_1 := blk_frozen BK276.out 1; have hfz82_2 := blk_frozen BK276.out 2; have hcz83_0 : w79.cell? ⟨gb272, 0, none⟩ = some (.bool false) := (blk_cell BK272.out 0).trans rfl; have hcz83_1 : w79.cell? ⟨gb272, 1, none⟩ = some (.int .i64 t270) := (blk_cell BK272.out 1).trans rfl; have hcz83_2 : w79.cell? ⟨gb272, 2, none⟩ = some (.int .i64 t271) := (blk_cell BK272.out 2).trans rfl; have hfz83_0 := blk_frozen BK272.out 0; have hfz83_1 := blk_frozen BK272.out 1; have hfz83_2 := blk_frozen BK272.out 2))
      go_ret
      exact ⟨by first | rfl | (simp [errW_none, errW_some] <;> rfl) | (simp [*, errW_none, errW_some] <;> rfl), by repeat (first | (with_reducible first | exact HB.out | apply below_alloc | apply pw_below_drewN | apply below_drew1 | refine below_set ?_ GE263.out | refine below_set ?_ GE272.out | refine below_set ?_ GE276.out) | exact HB.out)⟩
    ·
     replace c26 := Bool.eq_false_iff.mpr c26
     subst c26
     have H1 : (if t267 = 0 then (some (!t269)) else (some false)) = some r := by rw [if_neg (show ¬ (false = true) by decide)] at H; exact H
     clear H
     have H := H1
     clear H1
     by_cases c84 : t267 = 0
     ·
      rw [if_pos c84] at H
      have c84b0 : (t267 == 0) = true := beq_iff_eq.mpr c84
      have c84b1 : (t267 != 0) = false := bne_eq_false_iff_eq.mpr c84
      clear c84
      obtain rfl := Option.some.inj H
      have hnb85 := NB272_263.out
      have hnc85 := NB263_272.out
      have hcz86_0 : w23.cell? ⟨gb272, 0, none⟩ = some (.bool false) := (blk_cell BK272.out 0).trans rfl
      have hcz86_1 : w23.cell? ⟨gb272, 1, none⟩ = some (.int .i64 0) := (blk_cell BK272.out 1).trans rfl
      have hcz86_2 : w23.cell? ⟨gb272, 2, none⟩ = some (.int .i64 0) := (blk_cell BK272.out 2).trans rfl
      have hfz86_0 := blk_frozen BK272.out 0
      have hfz86_1 := blk_frozen BK272.out 1
      have hfz86_2 := blk_frozen BK272.out 2
      go_wp2
      go_ret
      exact ⟨by first | rfl | (simp [errW_none, errW_some] <;> rfl) | (simp [*, errW_none, errW_some] <;> rfl), by repeat (first | (with_reducible first | exact HB.out | apply below_alloc | apply pw_below_drewN | apply below_drew1 | refine below_set ?_ GE263.out | refine below_set ?_ GE272.out) | exact HB.out)⟩
     ·
      rw [if_neg c84] at H
      have c84b0 : (t267 == 0) = false := beq_eq_false_iff_ne.mpr c84
      have c84b1 : (t267 != 0) = true := bne_iff_ne.mpr c84
      obtain rfl := Option.some.inj H
      go_wp2
      go_ret
      exact ⟨by first | rfl | (simp [errW_none, errW_some] <;> rfl) | (simp [*, errW_none, errW_some] <;> rfl), by repeat (first | (with_reducible first | exact HB.out | apply below_alloc | apply pw_below_drewN | apply below_drew1 | refine below_set ?_ GE263.out | refine below_set ?_ GE272.out) | exact HB.out)⟩
end Go.Proofs.Ythgedejnpgcacaa.V
namespace Go.Proofs.Ythgedejnpgcacaa.V
open Go.RowKit Go.Proofs.YthgedejnpgcacaaW.PrintWords
set_option linter.unusedVariables false
def Ev {α : Type} (f : Nat → Option α) (v : α) : Prop := ∃ k, ∀ j, k ≤ j → f j = some v
section
variable {α β : Type}
theorem Ev.const (v : α) : Ev (fun _ => some v) v := ⟨0, fun _ _ => rfl⟩
theorem Ev.congr {f g : Nat → Option α} {v : α} (h : ∀ k, f k = g k) (hg : Ev g v) : Ev f v := by
  obtain ⟨k, hk⟩ := hg
  exact ⟨k, fun j hj => (h j).trans (hk j hj)⟩
theorem Ev.of_eq {f : Nat → Option α} {v : α} (h : ∀ k, f k = some v) : Ev f v := ⟨0, fun j _ => h j⟩
theorem Ev.succ {f g : Nat → Option α} {v : α} (h : ∀ k, f (k + 1) = g k) (hg : Ev g v) : Ev f v := by
  obtain ⟨k, hk⟩ := hg
  refine ⟨k + 1, fun j hj => ?_⟩
  cases j with
  | zero => omega
  | succ j => exact (h j).trans (hk j (by omega))
theorem Ev.bind {f : Nat → Option α} {g : Nat → α → Option β} {v : α} {u : β} (hf : Ev f v) (hg : Ev (fun k => g k v) u) : Ev (fun k => (f k).bind (g k)) u := by
  obtain ⟨k, hk⟩ := hf
  obtain ⟨m, hm⟩ := hg
  refine ⟨k + m, fun j hj => ?_⟩
  simp only [hk j (by omega), Option.bind_some]
  exact hm j (by omega)
theorem Ev.map {f : Nat → Option α} {g : α → Option β} {v : α} {u : β} (hf : Ev f v) (hg : g v = some u) : Ev (fun k => (f k).bind g) u := Ev.bind (g := fun _ => g) hf (Ev.of_eq fun _ => hg)
theorem Ev.shift {f : Nat → Option α} {v : α} (b : Nat) (h : Ev f v) : Ev (fun k => f (k + b)) v := by
  obtain ⟨k, hk⟩ := h
  exact ⟨k, fun j hj => hk (j + b) (by omega)⟩
theorem Ev.uniq {f : Nat → Option α} {v u : α} (h : Ev f v) (h' : Ev f u) : v = u := by
  obtain ⟨k, hk⟩ := h
  obtain ⟨m, hm⟩ := h'
  exact Option.some.inj ((hk (k + m) (by omega)).symm.trans (hm (k + m) (by omega)))
theorem Ev.out {f : Nat → Option α} {v : α} (h : Ev f v) : ∃ k, f k = some v := ⟨h.choose, h.choose_spec _ (Nat.le_refl _)⟩
theorem Ev.of_mono {f : Nat → Option α} {v : α} {k : Nat} (hm : ∀ k, LeO (f k) (f (k + 1))) (h : f k = some v) : Ev f v := by
  refine ⟨k, fun j hj => ?_⟩
  induction j with
  | zero => obtain rfl : k = 0 := by omega
            exact h
  | succ j ih =>
    rcases Nat.lt_or_ge j k with hlt | hge
    · obtain rfl : k = j + 1 := by omega
      exact h
    · exact hm j v (ih hge)
end
theorem w64p (n : Int) (h : -9223372036854775808 ≤ n ∧ n ≤ 9223372036854775807) : wrap64 n = n := by unfold wrap64; omega
end Go.Proofs.Ythgedejnpgcacaa.V
namespace Go.Proofs.Ythgedejnpgcacaa.Opens
open Go.RowKit Go.Proofs.YthgedejnpgcacaaW.PrintWords
set_option linter.unusedVariables false
def Opn {α : Type} (P : Program) (W : World) (d : Kd α) (t : TypeId) (ok : α → Prop) : Prop :=
  ∀ (H : Type) (enc : TypeId × Value → H) (fuel : Nat) (cs : List Value) (x : DataW H × List MemPlace), DataW.trod enc P W 0 (fun _ => true) true fuel t cs = some x → ∃ a, d.K W a cs ∧ ok a
section
variable {P : Program} {W : World} {t : TypeId}
theorem Opn.int {k : IntKind} (ht : P.underlying t = some (.int k)) : Opn P W (Kd.int k) t (fun n => (Lit.int k n).wf = true) := fun H enc fuel cs x h => by
  obtain ⟨n, rfl, _, hw⟩ := DataW.trod_int ht h
  exact ⟨n, rfl, hw⟩
theorem Opn.bool (ht : P.underlying t = some .bool) : Opn P W Kd.bool t (fun _ => True) := fun H enc fuel cs x h => by
  obtain ⟨n, rfl, _⟩ := DataW.trod_bool ht h
  exact ⟨n, rfl, trivial⟩
theorem Opn.string (ht : P.underlying t = some .string) : Opn P W Kd.string t (fun s => s.size ≤ maxLen) := fun H enc fuel cs x h => by
  obtain ⟨n, rfl, _, hw⟩ := DataW.trod_string ht h
  exact ⟨n, rfl, hw⟩
theorem Opn.iso {α β : Type} {d : Kd α} {ok : α → Prop} (f : β → α) (g : α → β) (hfg : ∀ a, f (g a) = a) (h : Opn P W d t ok) : Opn P W (Kd.iso d f) t (fun b => ok (f b)) := fun H enc fuel cs x hx => by
  obtain ⟨a, hk, ho⟩ := h H enc fuel cs x hx
  exact ⟨g a, show d.K W (f (g a)) cs by rw [hfg]; exact hk, show ok (f (g a)) by rw [hfg]; exact ho⟩
theorem Opn.imp {α : Type} {d : Kd α} {ok ok' : α → Prop} (h : Opn P W d t ok) (hi : ∀ a, ok a → ok' a) : Opn P W d t ok' := fun H enc fuel cs x hx => by
  obtain ⟨a, hk, ho⟩ := h H enc fuel cs x hx
  exact ⟨a, hk, hi a ho⟩
theorem lists_of {α : Type} (n : Nat) (R : Nat → α → Prop) (h : ∀ i, i < n → ∃ a, R i a) : ∃ l : List α, l.length = n ∧ ∀ i a, l[i]? = some a → R i a := by
  induction n with
  | zero => exact ⟨[], rfl, fun i a h => by simp at h⟩
  | succ n ih =>
    obtain ⟨l, hl, hr⟩ := ih (fun i hi => h i (by omega))
    obtain ⟨a, ha⟩ := h n (by omega)
    refine ⟨l ++ [a], by simp [hl], fun i b hb => ?_⟩
    by_cases hi : i < n
    · exact hr i b (by rwa [List.getElem?_append_left (by omega)] at hb)
    · have : i = n := by
        have := (List.getElem?_eq_some_iff.1 hb).1
        simp at this
        omega
      subst this
      rw [List.getElem?_append_right (by omega)] at hb
      simp [hl] at hb
      exact hb ▸ ha
theorem Opn.slice {α : Type} {e : TypeId} {d : Kd α} {ok : α → Prop} (e' : Nat) (ht : P.underlying t = some (.slice e)) (hc : P.cellsOf e = d.sz) (h : Opn P W d e ok) :
    Opn P W (Kd.slice e' d) t (fun l => l.length ≤ maxLen ∧ ∀ x ∈ l, ok x) := fun H enc fuel cs x hx => by
  rcases DataW.trod_slice ht hx with ⟨rfl, _⟩ | ⟨a, len, cap, elems, rest, n, _, rfl, _, _, hl, hm, hlen, hel, _, _⟩
  · exact ⟨[], ⟨none, 0, rfl, Nat.le_refl _, rfl, Nat.zero_le _, fun h => absurd h (by simp)⟩, Nat.zero_le _, fun x h => by simp at h⟩
  · have hm' : len ≤ maxLen := Nat.le_trans hl hm
    obtain ⟨l, hll, hlr⟩ := lists_of len (fun i b => ∃ cs', W.cells? 0 (a.add (i * P.cellsOf e)) (P.cellsOf e) = some cs' ∧ d.K W b cs' ∧ ok b) (fun i hi => by
      have h1 := hel i hi
      have h2 : i < elems.length := by omega
      rw [List.getElem?_eq_getElem h2, Option.bind_eq_some_iff] at h1
      obtain ⟨cs', h3, h4⟩ := h1
      obtain ⟨b, h5, h6⟩ := h H enc n cs' _ h4
      exact ⟨b, cs', h3, h5, h6⟩)
    subst hll
    refine ⟨l, ⟨some a, cap, rfl, hl, rfl, hm', fun _ => ⟨a, rfl, fun j p hp => ?_⟩⟩, hm', fun y hy => ?_⟩
    · obtain ⟨cs', h1, h2, _⟩ := hlr j p hp
      obtain ⟨_, hlen', hget⟩ := World.cells?_some h1
      rw [hc] at hlen' hget
      exact ⟨cs', hlen', h2, fun i u hu => by
        have := hget i (by have := (List.getElem?_eq_some_iff.1 hu).1; omega)
        rw [← hu, ← this]
        congr 1
        exact (Addr.add_add _ _ _).symm⟩
    · obtain ⟨i, hi⟩ := List.getElem?_of_mem hy
      exact (hlr i y hi).choose_spec.2.2
def Pieces {H : Type} (enc : TypeId × Value → H) (P : Program) (W : World) (n : Nat) : List TypeId → List Value → Prop
  | [], cs => cs = []
  | t :: ts, cs => ∃ c1 c2 x, cs = c1 ++ c2 ∧ DataW.trod enc P W 0 (fun _ => true) true n t c1 = some x ∧ Pieces enc P W n ts c2
def OpnS {α : Type} (P : Program) (W : World) (d : Kd α) (ts : List TypeId) (ok : α → Prop) : Prop :=
  ∀ (H : Type) (enc : TypeId × Value → H) (n : Nat) (cs : List Value), Pieces enc P W n ts cs → ∃ a, d.K W a cs ∧ ok a
theorem OpnS.one {α : Type} {d : Kd α} {ok : α → Prop} (h : Opn P W d t ok) : OpnS P W d [t] ok := fun H enc n cs hp => by
  obtain ⟨c1, c2, x, rfl, hx, rfl⟩ := hp
  rw [List.append_nil]
  exact h H enc n c1 x hx
theorem OpnS.cons {α β : Type} {d : Kd α} {e : Kd β} {ok : α → Prop} {ok' : β → Prop} {ts : List TypeId} (h : Opn P W d t ok) (hs : OpnS P W e ts ok') : OpnS P W (Kd.pair d e) (t :: ts) (fun x => ok x.1 ∧ ok' x.2) := fun H enc n cs hp => by
  obtain ⟨c1, c2, x, rfl, hx, hp⟩ := hp
  obtain ⟨a, ha, hoa⟩ := h H enc n c1 x hx
  obtain ⟨b, hb, hob⟩ := hs H enc n c2 hp
  exact ⟨(a, b), ⟨c1, c2, rfl, ha, hb⟩, hoa, hob⟩
def offsB (P : Program) (total : Nat) : Nat → List Field → Bool
  | o, [] => o == total
  | o, f :: r => f.offset == o && offsB P total (o + P.cellsOf f.type) r
theorem pieces_of {H : Type} {enc : TypeId × Value → H} {n total : Nat} {cs : List Value} (hl : cs.length = total) :
    ∀ (fs : List Field) (o : Nat), offsB P total o fs = true → (∀ f ∈ fs, ∃ x, DataW.trod enc P W 0 (fun _ => true) true n f.type ((cs.drop f.offset).take (P.cellsOf f.type)) = some x) → Pieces enc P W n (fs.map (·.type)) (cs.drop o)
  | [], o, ho, _ => by
    simp [offsB] at ho
    simp [Pieces, ho, hl]
  | f :: r, o, ho, hf => by
    simp [offsB] at ho
    obtain ⟨x, hx⟩ := hf f (by simp)
    refine ⟨(cs.drop o).take (P.cellsOf f.type), cs.drop (o + P.cellsOf f.type), x, ?_, by rw [← ho.1]; exact hx, pieces_of hl r _ ho.2 (fun g hg => hf g (List.mem_cons_of_mem _ hg))⟩
    rw [← List.drop_drop, List.take_append_drop]
theorem Opn.struct {α : Type} {d : Kd α} {ok : α → Prop} {fs : Array Field} {ts : List TypeId} (ht : P.underlying t = some (.struct fs)) (hts : fs.toList.map (·.type) = ts) (ho : offsB P (P.cellsOf t) 0 fs.toList = true) (h : OpnS P W d ts ok) : Opn P W d t ok := fun H enc fuel cs x hx => by
  obtain ⟨xs, n, _, _, hl, hxs, hf⟩ := DataW.trod_struct ht hx
  refine h H enc n cs (hts ▸ ?_)
  have := pieces_of (enc := enc) (W := W) (n := n) hl fs.toList 0 ho (fun f hm => by
    obtain ⟨i, hi⟩ := List.getElem?_of_mem hm
    have hi' : fs[i]? = some f := by simpa using hi
    have h1 := hf i f hi'
    have h2 : i < xs.length := by rw [hxs]; exact (Array.getElem?_eq_some_iff.1 hi').1
    exact ⟨xs[i], by rw [h1]; simp⟩)
  simpa using this
theorem pieces_same {H : Type} {enc : TypeId × Value → H} {n k s : Nat} {e : TypeId} {cs : List Value} (hs : P.cellsOf e = s) (hl : cs.length = k * s) :
    ∀ (m i : Nat), i + m = k → (∀ j, j < k → ∃ x, DataW.trod enc P W 0 (fun _ => true) true n e ((cs.drop (j * s)).take s) = some x) → Pieces enc P W n (List.replicate m e) (cs.drop (i * s))
  | 0, i, hi, _ => by
    have : i = k := by omega
    subst this
    simp [Pieces, hl]
  | m + 1, i, hi, hf => by
    obtain ⟨x, hx⟩ := hf i (by omega)
    refine ⟨(cs.drop (i * s)).take s, cs.drop ((i + 1) * s), x, ?_, hx, pieces_same hs hl m (i + 1) (by omega) hf⟩
    rw [Nat.succ_mul, ← List.drop_drop, List.take_append_drop]
theorem Opn.array {α : Type} {d : Kd α} {ok : α → Prop} {n : Nat} {e : TypeId} (ht : P.underlying t = some (.array n e)) (hc : P.cellsOf t = n * P.cellsOf e) (h : OpnS P W d (List.replicate n e) ok) : Opn P W d t ok := fun H enc fuel cs x hx => by
  obtain ⟨xs, m, _, _, hl, hxs, hf⟩ := DataW.trod_array ht hx
  refine h H enc m cs ?_
  have := pieces_same (enc := enc) (W := W) (n := m) (k := n) (e := e) rfl (hl.trans hc) n 0 (by omega) (fun j hj => by
    have h2 : j < xs.length := by omega
    exact ⟨xs[j], by rw [hf j hj]; simp⟩)
  simpa using this
theorem Opn.arg {α : Type} {d : Kd α} {ok : α → Prop} {H : Type} {enc : TypeId × Value → H} {v : Value} {x : DataW H} {ps : List MemPlace} (h : Opn P W d t ok) (hd : DataW.Trod enc P W 0 (fun _ => true) true t v x ps) : ∃ a, d.K W a v.cells.toList ∧ ok a := by
  obtain ⟨fuel, hf⟩ := hd
  exact h H enc fuel _ _ hf
theorem trod_lts {H : Type} {enc : TypeId × Value → H} {v : Value} {x : DataW H} {ps : List MemPlace} (hd : DataW.Trod enc P W 0 (fun _ => true) true t v x ps) : ∀ q ∈ ps, q.block < W.heap.size := by
  obtain ⟨m, hm⟩ := hd
  exact DataW.trod_lt m _ _ _ hm
end
end Go.Proofs.Ythgedejnpgcacaa.Opens
namespace Go.Proofs.Ythgedejnpgcacaa.V
open Go.RowKit Go.Proofs.Ythgedejnpgcacaa.Opens Go.Proofs.YthgedejnpgcacaaW.PrintWords
set_option linter.unusedVariables false
def Ok54 (x : S54) : Prop := (Lit.int .u64 x.f0).wf = true ∧ (Lit.int .u64 x.f1).wf = true ∧ (Lit.int .u64 x.f2).wf = true ∧ (Lit.int .u64 x.f3).wf = true
theorem opn54 (W : World) : Opn Try.prog W k54 54 Ok54 := (Opn.iso (fun x : S54 => (x.f0, x.f1, x.f2, x.f3)) (fun a => ⟨a.1, a.2.1, a.2.2.1, a.2.2.2⟩) (fun _ => rfl) (Opn.array Try.underlying54 (by kernel_rfl) (OpnS.cons (Opn.int Try.underlying52) (OpnS.cons (Opn.int Try.underlying52) (OpnS.cons (Opn.int Try.underlying52) (OpnS.one (Opn.int Try.underlying52))))))).imp (fun _ h => h)
def Ok56 (x : S56) : Prop := (Lit.int .i64 x.f0).wf = true ∧ (x.f1.length ≤ maxLen ∧ ∀ y ∈ x.f1, (Lit.int .i64 y).wf = true) ∧ (Lit.int .i64 x.f2).wf = true ∧ Ok54 x.f3
theorem opn56 (W : World) : Opn Try.prog W k56 56 Ok56 := (Opn.iso (fun x : S56 => (x.f0, x.f1, x.f2, x.f3)) (fun a => ⟨a.1, a.2.1, a.2.2.1, a.2.2.2⟩) (fun _ => rfl) (Opn.struct Try.underlying56 rfl (by kernel_rfl) (OpnS.cons (Opn.int Try.underlying3) (OpnS.cons (Opn.slice 3 Try.underlying41 (by kernel_rfl) (Opn.int Try.underlying3)) (OpnS.cons (Opn.int Try.underlying3) (OpnS.one (opn54 W))))))).imp (fun _ h => h)
def Ok51 (x : S51) : Prop := x.f0.size ≤ maxLen ∧ (Lit.int .i64 x.f1).wf = true
theorem opn51 (W : World) : Opn Try.prog W k51 51 Ok51 := (Opn.iso (fun x : S51 => (x.f0, x.f1)) (fun a => ⟨a.1, a.2⟩) (fun _ => rfl) (Opn.struct Try.underlying51 rfl (by kernel_rfl) (OpnS.cons (Opn.string Try.underlying9) (OpnS.one (Opn.int Try.underlying3))))).imp (fun _ h => h)
theorem opn25 (W : World) : Opn Try.prog W (Kd.pair (Kd.slice 51 k51) (Kd.slice 56 k56)) 25 (fun x => ((x.1.length ≤ maxLen ∧ ∀ y ∈ x.1, Ok51 y) ∧ (x.2.length ≤ maxLen ∧ ∀ y ∈ x.2, Ok56 y))) := (Opn.struct Try.underlying25 rfl (by kernel_rfl) (OpnS.cons (Opn.slice 51 Try.underlying22 (by kernel_rfl) (opn51 W)) (OpnS.one (Opn.slice 56 Try.underlying23 (by kernel_rfl) (opn56 W))))).imp (fun _ h => h)
end Go.Proofs.Ythgedejnpgcacaa.V
