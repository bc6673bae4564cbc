/- The law NaiveFacts returns true whatever comes in, and leaves its arguments as they were. No condition. -/
import Derived.Test.YthgedejnpgcacaaKNa4
import Derived.OpenShut
import Derived.Carry
import Derived.Deep.Slices
import Derived.DataElems
import Derived.Laws.Bits64b
import Derived.Test.YthgedejnpgcacaaRows
import Derived.WalkKit
import Derived.ProofKit
import Derived.ShutString
import Derived.ChangeOld
import Derived.Below
import Derived.SizedLaws
namespace Go.Proofs.Ythgedejnpgcacaa.V
open Go.RowKit Go.Proofs.YthgedejnpgcacaaW.PrintWords Go.Proofs.YthgedejnpgcacaaW.PrintLast Go.Proofs.YthgedejnpgcacaaW.PrintMore
set_option linter.unusedVariables false
set_option linter.unusedSimpArgs false
set_option maxHeartbeats 4000000 in
set_option maxRecDepth 100000 in
theorem Qp.calls_s1 (k : Nat) (ih : ∀ (A0_0 : Option Addr) (c0_0 : Nat) (l0_0 : List S51) (A0_1 : Option Addr) (c0_1 : Nat) (l0_1 : List S56) (a1 : Int) (a2 : ByteArray) (a3 a4 : Int) (r1 : Bool) (r2 r3 : Int) (w : World)
    (hr0_0 : Kd.C k51 w A0_0 l0_0.length l0_0) (hc0_0 : l0_0.length ≤ c0_0) (hr0_1 : Kd.C k56 w A0_1 l0_1.length l0_1) (hc0_1 : l0_1.length ≤ c0_1) (h : Qp.f k l0_0 l0_1 a1 a2 a3 a4 = some (r1, r2, r3)), Calls Try.prog 12 #[.agg #[.slice A0_0 l0_0.length c0_0, .slice A0_1 l0_1.length c0_1], .int .i64 a1, .string a2, .int .i64 a3, .int .i64 a4] w fun e w' => e = .returned (.agg #[.bool r1, .int .i64 r2, .int .i64 r3]) ∧ Below w.heap.size w w')
    (A0_0 : Option Addr) (c0_0 : Nat) (l0_0 : List S51) (A0_1 : Option Addr) (c0_1 : Nat) (l0_1 : List S56) (a1 : Int) (a2 : ByteArray) (a3 a4 : Int) (r1 : Bool) (r2 r3 : Int) (w : World)
    (hr0_0 : Kd.C k51 w A0_0 l0_0.length l0_0) (hc0_0 : l0_0.length ≤ c0_0) (hr0_1 : Kd.C k56 w A0_1 l0_1.length l0_1) (hc0_1 : l0_1.length ≤ c0_1) (hs : Qa (¬ a4 < 1 ∧ (0 ≤ a1 ∧ a1 < (l0_1.length : Int)) ∧ (Ql l0_1 a1).f0 = 1)) (h : Qp.f (k + 1) l0_0 l0_1 a1 a2 a3 a4 = some (r1, r2, r3)) :
    Calls Try.prog 12 #[.agg #[.slice A0_0 l0_0.length c0_0, .slice A0_1 l0_1.length c0_1], .int .i64 a1, .string a2, .int .i64 a3, .int .i64 a4] w fun e w' => e = .returned (.agg #[.bool r1, .int .i64 r2, .int .i64 r3]) ∧ Below w.heap.size w w' := by
  rw [Qp.f] at h
  have IH := Qa.mk ih
  clear ih
  have hu25 := Try.underlying25
  have hu31 := Try.underlying31
  have hu56 := Try.underlying56
  have hu51 := Try.underlying51
  have hu54 := Try.underlying54
  have HB := Qa.mk (Qd (Qd (Below.refl w.heap.size w) (.cells #[.slice A0_0 l0_0.length c0_0, .slice A0_1 l0_1.length c0_1] 25)) (.cells #[.bool false, .int .i64 0, .int .i64 0] 31))
  have HG := Qa.mk (Qi (Qf1 w (.cells #[.slice A0_0 l0_0.length c0_0, .slice A0_1 l0_1.length c0_1] 25)) (.cells #[.bool false, .int .i64 0, .int .i64 0] 31))
  have HR := Qa.mk (Qf1 (w.alloc (.cells #[.slice A0_0 l0_0.length c0_0, .slice A0_1 l0_1.length c0_1] 25)) (.cells #[.bool false, .int .i64 0, .int .i64 0] 31))
  have hsz : ((w.alloc (.cells #[.slice A0_0 l0_0.length c0_0, .slice A0_1 l0_1.length c0_1] 25)).alloc (.cells #[.bool false, .int .i64 0, .int .i64 0] 31)).heap.size = w.heap.size + 1 + 1 := by rw [h18_size, h18_size]
  rw [h18_size] at HR
  have HC0 := Qa.mk (Kd.Qn hr0_0 HB.out)
  have HC1 := Qa.mk (Kd.Qn hr0_1 HB.out)
  have HW := Qa.mk hsz
  clear hr0_0 hr0_1 hsz
  rw [if_neg hs.out.1, if_pos hs.out.2.1] at h
  have c4b : decide (a4 < 1) = false := decide_eq_false hs.out.1
  have H := Qa.mk h
  clear h
  go_enter Try.func12, Try.ntmps12
  go_upto_region 1 with (fail)
  generalize ((w.alloc (.cells #[.slice A0_0 l0_0.length c0_0, .slice A0_1 l0_1.length c0_1] 25)).alloc (.cells #[.bool false, .int .i64 0, .int .i64 0] 31)) = W1 at HB HG HR HC0 HC1 HW ⊢
  obtain ⟨gb, hgb⟩ : ∃ gb, gb = w.heap.size := ⟨_, rfl⟩
  obtain ⟨gr, hgr⟩ : ∃ gr, gr = gb + 1 := ⟨_, rfl⟩
  rw [← hgb] at HW HG HR ⊢
  rw [← hgr] at HR ⊢
  have HGB := Qa.mk hgb
  have HGR := Qa.mk hgr
  clear hgb hgr
  go_upto_region 4 with (fail)
  clear c4b
  have g1 : W1.cell? ⟨gb, 1, none⟩ = some (.slice A0_1 l0_1.length c0_1) := (Qb HG.out 1).trans rfl
  have p2 := hs.out.2.1.1
  have p3 := hs.out.2.1.2
  obtain ⟨ad, Ak, ck, e, k0, k1, k2, k3, k4, k5, k6, hlk, hCk⟩ := at_T56 HC1.out a1 p2 p3
  cases e
  have HCk := Qa.mk hCk
  have HLk := Qa.mk hlk
  clear hCk hlk
  replace p2 := eq_true p2
  replace p3 := eq_true p3
  go_upto_region 5 with (fail)
  have HS := Qa.mk hs.out.2.2
  clear hs
  generalize Ql l0_1 a1 = nd at *
  obtain ⟨gx, hgx⟩ : ∃ gx, gx = W1.heap.size := ⟨_, rfl⟩
  have E2 : Qa (Env18 W1 gx #[.int .i64 nd.f0, .slice Ak nd.f1.length ck, .int .i64 nd.f2, .int .u64 nd.f3.f0, .int .u64 nd.f3.f1, .int .u64 nd.f3.f2, .int .u64 nd.f3.f3] (W1.alloc (.cells #[.int .i64 nd.f0, .slice Ak nd.f1.length ck, .int .i64 nd.f2, .int .u64 nd.f3.f0, .int .u64 nd.f3.f1, .int .u64 nd.f3.f2, .int .u64 nd.f3.f3] 56))) := ⟨by rw [hgx]; exact Qf1 W1 (.cells #[.int .i64 nd.f0, .slice Ak nd.f1.length ck, .int .i64 nd.f2, .int .u64 nd.f3.f0, .int .u64 nd.f3.f1, .int .u64 nd.f3.f2, .int .u64 nd.f3.f3] 56), Qd (Below.refl _ _) _⟩
  have HGX := Qa.mk hgx
  rw [← hgx]
  generalize W1.alloc (.cells #[.int .i64 nd.f0, .slice Ak nd.f1.length ck, .int .i64 nd.f2, .int .u64 nd.f3.f0, .int .u64 nd.f3.f1, .int .u64 nd.f3.f2, .int .u64 nd.f3.f3] 56) = W2 at E2 ⊢
  clear k0 k1 k2 k3 k4 k5 k6 g1 hgx p2 p3
  have h := H.out
  clear H
  have hnd : Qa (gb < W1.heap.size ∧ gr < W1.heap.size) := ⟨by have := HW.out; have := HGR.out; omega⟩
  generalize wrap64 (a4 - 1) = u at *
  have x0 : W2.cell? ⟨gx, 0, none⟩ = some (.int .i64 nd.f0) := (Qb E2.out.x 0).trans rfl
  go_upto_region 6 with (fail)
  clear x0
  have c0 : ¬ nd.f0 = 0 := by have := HS.out; omega
  rw [if_neg c0] at h
  have b0 : (nd.f0 == 0) = false := beq_eq_false_iff_ne.2 c0
  clear c0
  go_upto_region 8 with (fail)
  clear b0
  have c1 : nd.f0 = 1 := HS.out
  rw [if_pos c1] at h
  have b1 : (nd.f0 == 1) = true := beq_iff_eq.2 c1
  clear c1
  by_cases c4 : a3 < (a2.size : Int)
  · rw [if_pos c4] at h
    by_cases c5 : 0 ≤ a3
    · rw [if_pos c5] at h
      obtain ⟨t, ht, h⟩ := Option.bind_eq_some_iff.1 h
      have HT := Qa.mk ht
      clear ht
      have hbt := bt_at a2 a3
      have c4b : decide (a3 < (a2.size : Int)) = true := decide_eq_true c4
      replace c4 := eq_true c4
      replace c5 := eq_true c5
      have x3 : W2.cell? ⟨gx, 3, none⟩ = some (.int .u64 nd.f3.f0) := (Qb E2.out.x 3).trans rfl
      have x4 : W2.cell? ⟨gx, 4, none⟩ = some (.int .u64 nd.f3.f1) := (Qb E2.out.x 4).trans rfl
      have x5 : W2.cell? ⟨gx, 5, none⟩ = some (.int .u64 nd.f3.f2) := (Qb E2.out.x 5).trans rfl
      have x6 : W2.cell? ⟨gx, 6, none⟩ = some (.int .u64 nd.f3.f3) := (Qb E2.out.x 6).trans rfl
      go_upto_region 9 with (fail)
      go_still_tail 10, (by kernel_rfl)
      change wpList _ _ _ _ _ W2.drew
      cases t with
      | true =>
        rw [if_pos rfl] at h
        simp only [Option.some.injEq, Prod.mk.injEq] at h
        obtain ⟨rfl, rfl, rfl⟩ := h
        go_wp2_with (
          go_at_call 21
          refine (Qc2.calls k nd.f3.f0 nd.f3.f1 nd.f3.f2 nd.f3.f3 (bt a2 a3) true _ HT.out).mono ?_
          rintro e_ W3 ⟨rfl, hb_⟩
          have E3 := Qa.mk (E2.out.drew.below hb_)
          have rr0 : W3.cell? ⟨gr, 0, none⟩ = some (.bool false) := (Qb (Qh HR.out E3.out.b) 0).trans rfl
          have z0 : W3.frozen? ⟨gr, 0, none⟩ = false := Qc (Qh HR.out E3.out.b) 0
          have rr1 : W3.cell? ⟨gr, 1, none⟩ = some (.int .i64 0) := (Qb (Qh HR.out E3.out.b) 1).trans rfl
          have z1 : W3.frozen? ⟨gr, 1, none⟩ = false := Qc (Qh HR.out E3.out.b) 1
          have rr2 : W3.cell? ⟨gr, 2, none⟩ = some (.int .i64 0) := (Qb (Qh HR.out E3.out.b) 2).trans rfl
          have z2 : W3.frozen? ⟨gr, 2, none⟩ = false := Qc (Qh HR.out E3.out.b) 2)
        refine bodyPost_ret (results_cell_row rfl _ _ gr 31 #[.bool true, .int .i64 (wrap64 (a3 + 1)), .int .i64 u] (0, 0) _ rfl (h18_blk3 (Qh HR.out E3.out.b) _ _ _) Try.underlying31 rfl (by kernel_rfl)) rfl ⟨rfl, h18_below3 (Qm HB.out E3.out.b) (by have := HGB.out; have := HGR.out; omega) _ _ _⟩
      | false =>
        rw [if_neg (by decide)] at h
        simp only [Option.some.injEq, Prod.mk.injEq] at h
        obtain ⟨rfl, rfl, rfl⟩ := h
        go_wp2_with (
          go_at_call 21
          refine (Qc2.calls k nd.f3.f0 nd.f3.f1 nd.f3.f2 nd.f3.f3 (bt a2 a3) false _ HT.out).mono ?_
          rintro e_ W3 ⟨rfl, hb_⟩
          have E3 := Qa.mk (E2.out.drew.below hb_)
          have rr0 : W3.cell? ⟨gr, 0, none⟩ = some (.bool false) := (Qb (Qh HR.out E3.out.b) 0).trans rfl
          have z0 : W3.frozen? ⟨gr, 0, none⟩ = false := Qc (Qh HR.out E3.out.b) 0
          have rr1 : W3.cell? ⟨gr, 1, none⟩ = some (.int .i64 0) := (Qb (Qh HR.out E3.out.b) 1).trans rfl
          have z1 : W3.frozen? ⟨gr, 1, none⟩ = false := Qc (Qh HR.out E3.out.b) 1
          have rr2 : W3.cell? ⟨gr, 2, none⟩ = some (.int .i64 0) := (Qb (Qh HR.out E3.out.b) 2).trans rfl
          have z2 : W3.frozen? ⟨gr, 2, none⟩ = false := Qc (Qh HR.out E3.out.b) 2)
        refine bodyPost_ret (results_cell_row rfl _ _ gr 31 #[.bool true, .int .i64 (-1), .int .i64 u] (0, 0) _ rfl (h18_blk3 (Qh HR.out E3.out.b) _ _ _) Try.underlying31 rfl (by kernel_rfl)) rfl ⟨rfl, h18_below3 (Qm HB.out E3.out.b) (by have := HGB.out; have := HGR.out; omega) _ _ _⟩
    · rw [if_neg c5] at h
      exact absurd h (by simp)
  · rw [if_neg c4] at h
    simp only [Option.some.injEq, Prod.mk.injEq] at h
    obtain ⟨rfl, rfl, rfl⟩ := h
    have c4b : decide (a3 < (a2.size : Int)) = false := decide_eq_false c4
    clear c4
    have x3 : W2.cell? ⟨gx, 3, none⟩ = some (.int .u64 nd.f3.f0) := (Qb E2.out.x 3).trans rfl
    have x4 : W2.cell? ⟨gx, 4, none⟩ = some (.int .u64 nd.f3.f1) := (Qb E2.out.x 4).trans rfl
    have x5 : W2.cell? ⟨gx, 5, none⟩ = some (.int .u64 nd.f3.f2) := (Qb E2.out.x 5).trans rfl
    have x6 : W2.cell? ⟨gx, 6, none⟩ = some (.int .u64 nd.f3.f3) := (Qb E2.out.x 6).trans rfl
    go_upto_region 9 with (fail)
    go_quiet (fail)
    have E3 := Qa.mk (E2.out.drewN nq)
    have rr0 : W2.cell? ⟨gr, 0, none⟩ = some (.bool false) := (Qb (Qh HR.out E2.out.b) 0).trans rfl
    have z0 : W2.frozen? ⟨gr, 0, none⟩ = false := Qc (Qh HR.out E2.out.b) 0
    have rr1 : W2.cell? ⟨gr, 1, none⟩ = some (.int .i64 0) := (Qb (Qh HR.out E2.out.b) 1).trans rfl
    have z1 : W2.frozen? ⟨gr, 1, none⟩ = false := Qc (Qh HR.out E2.out.b) 1
    have rr2 : W2.cell? ⟨gr, 2, none⟩ = some (.int .i64 0) := (Qb (Qh HR.out E2.out.b) 2).trans rfl
    have z2 : W2.frozen? ⟨gr, 2, none⟩ = false := Qc (Qh HR.out E2.out.b) 2
    go_wp2
    refine bodyPost_ret (results_cell_row rfl _ _ gr 31 #[.bool true, .int .i64 (-1), .int .i64 u] (0, 0) _ rfl (h18_blk3 (Qh HR.out E3.out.b) _ _ _) Try.underlying31 rfl (by kernel_rfl)) rfl ⟨rfl, h18_below3 (Qm HB.out E3.out.b) (by have := HGB.out; have := HGR.out; omega) _ _ _⟩
end Go.Proofs.Ythgedejnpgcacaa.V
namespace Go.Proofs.Ythgedejnpgcacaa.V
open Go.RowKit Go.Proofs.YthgedejnpgcacaaW.PrintWords Go.Proofs.YthgedejnpgcacaaW.PrintLast Go.Proofs.YthgedejnpgcacaaW.PrintMore
set_option linter.unusedVariables false
set_option linter.unusedSimpArgs false
set_option maxHeartbeats 4000000 in
set_option maxRecDepth 100000 in
theorem Qp.calls_s2 (k : Nat) (ih : ∀ (A0_0 : Option Addr) (c0_0 : Nat) (l0_0 : List S51) (A0_1 : Option Addr) (c0_1 : Nat) (l0_1 : List S56) (a1 : Int) (a2 : ByteArray) (a3 a4 : Int) (r1 : Bool) (r2 r3 : Int) (w : World)
    (hr0_0 : Kd.C k51 w A0_0 l0_0.length l0_0) (hc0_0 : l0_0.length ≤ c0_0) (hr0_1 : Kd.C k56 w A0_1 l0_1.length l0_1) (hc0_1 : l0_1.length ≤ c0_1) (h : Qp.f k l0_0 l0_1 a1 a2 a3 a4 = some (r1, r2, r3)), Calls Try.prog 12 #[.agg #[.slice A0_0 l0_0.length c0_0, .slice A0_1 l0_1.length c0_1], .int .i64 a1, .string a2, .int .i64 a3, .int .i64 a4] w fun e w' => e = .returned (.agg #[.bool r1, .int .i64 r2, .int .i64 r3]) ∧ Below w.heap.size w w')
    (A0_0 : Option Addr) (c0_0 : Nat) (l0_0 : List S51) (A0_1 : Option Addr) (c0_1 : Nat) (l0_1 : List S56) (a1 : Int) (a2 : ByteArray) (a3 a4 : Int) (r1 : Bool) (r2 r3 : Int) (w : World)
    (hr0_0 : Kd.C k51 w A0_0 l0_0.length l0_0) (hc0_0 : l0_0.length ≤ c0_0) (hr0_1 : Kd.C k56 w A0_1 l0_1.length l0_1) (hc0_1 : l0_1.length ≤ c0_1) (hs : Qa (¬ a4 < 1 ∧ (0 ≤ a1 ∧ a1 < (l0_1.length : Int)) ∧ (Ql l0_1 a1).f0 = 2)) (h : Qp.f (k + 1) l0_0 l0_1 a1 a2 a3 a4 = some (r1, r2, r3)) :
    Calls Try.prog 12 #[.agg #[.slice A0_0 l0_0.length c0_0, .slice A0_1 l0_1.length c0_1], .int .i64 a1, .string a2, .int .i64 a3, .int .i64 a4] w fun e w' => e = .returned (.agg #[.bool r1, .int .i64 r2, .int .i64 r3]) ∧ Below w.heap.size w w' := by
  rw [Qp.f] at h
  have IH := Qa.mk ih
  clear ih
  have hu25 := Try.underlying25
  have hu31 := Try.underlying31
  have hu56 := Try.underlying56
  have hu51 := Try.underlying51
  have hu54 := Try.underlying54
  have HB := Qa.mk (Qd (Qd (Below.refl w.heap.size w) (.cells #[.slice A0_0 l0_0.length c0_0, .slice A0_1 l0_1.length c0_1] 25)) (.cells #[.bool false, .int .i64 0, .int .i64 0] 31))
  have HG := Qa.mk (Qi (Qf1 w (.cells #[.slice A0_0 l0_0.length c0_0, .slice A0_1 l0_1.length c0_1] 25)) (.cells #[.bool false, .int .i64 0, .int .i64 0] 31))
  have HR := Qa.mk (Qf1 (w.alloc (.cells #[.slice A0_0 l0_0.length c0_0, .slice A0_1 l0_1.length c0_1] 25)) (.cells #[.bool false, .int .i64 0, .int .i64 0] 31))
  have hsz : ((w.alloc (.cells #[.slice A0_0 l0_0.length c0_0, .slice A0_1 l0_1.length c0_1] 25)).alloc (.cells #[.bool false, .int .i64 0, .int .i64 0] 31)).heap.size = w.heap.size + 1 + 1 := by rw [h18_size, h18_size]
  rw [h18_size] at HR
  have HC0 := Qa.mk (Kd.Qn hr0_0 HB.out)
  have HC1 := Qa.mk (Kd.Qn hr0_1 HB.out)
  have HW := Qa.mk hsz
  clear hr0_0 hr0_1 hsz
  rw [if_neg hs.out.1, if_pos hs.out.2.1] at h
  have c4b : decide (a4 < 1) = false := decide_eq_false hs.out.1
  have H := Qa.mk h
  clear h
  go_enter Try.func12, Try.ntmps12
  go_upto_region 1 with (fail)
  generalize ((w.alloc (.cells #[.slice A0_0 l0_0.length c0_0, .slice A0_1 l0_1.length c0_1] 25)).alloc (.cells #[.bool false, .int .i64 0, .int .i64 0] 31)) = W1 at HB HG HR HC0 HC1 HW ⊢
  obtain ⟨gb, hgb⟩ : ∃ gb, gb = w.heap.size := ⟨_, rfl⟩
  obtain ⟨gr, hgr⟩ : ∃ gr, gr = gb + 1 := ⟨_, rfl⟩
  rw [← hgb] at HW HG HR ⊢
  rw [← hgr] at HR ⊢
  have HGB := Qa.mk hgb
  have HGR := Qa.mk hgr
  clear hgb hgr
  go_upto_region 4 with (fail)
  clear c4b
  have g1 : W1.cell? ⟨gb, 1, none⟩ = some (.slice A0_1 l0_1.length c0_1) := (Qb HG.out 1).trans rfl
  have p2 := hs.out.2.1.1
  have p3 := hs.out.2.1.2
  obtain ⟨ad, Ak, ck, e, k0, k1, k2, k3, k4, k5, k6, hlk, hCk⟩ := at_T56 HC1.out a1 p2 p3
  cases e
  have HCk := Qa.mk hCk
  have HLk := Qa.mk hlk
  clear hCk hlk
  replace p2 := eq_true p2
  replace p3 := eq_true p3
  go_upto_region 5 with (fail)
  have HS := Qa.mk hs.out.2.2
  clear hs
  generalize Ql l0_1 a1 = nd at *
  obtain ⟨gx, hgx⟩ : ∃ gx, gx = W1.heap.size := ⟨_, rfl⟩
  have E2 : Qa (Env18 W1 gx #[.int .i64 nd.f0, .slice Ak nd.f1.length ck, .int .i64 nd.f2, .int .u64 nd.f3.f0, .int .u64 nd.f3.f1, .int .u64 nd.f3.f2, .int .u64 nd.f3.f3] (W1.alloc (.cells #[.int .i64 nd.f0, .slice Ak nd.f1.length ck, .int .i64 nd.f2, .int .u64 nd.f3.f0, .int .u64 nd.f3.f1, .int .u64 nd.f3.f2, .int .u64 nd.f3.f3] 56))) := ⟨by rw [hgx]; exact Qf1 W1 (.cells #[.int .i64 nd.f0, .slice Ak nd.f1.length ck, .int .i64 nd.f2, .int .u64 nd.f3.f0, .int .u64 nd.f3.f1, .int .u64 nd.f3.f2, .int .u64 nd.f3.f3] 56), Qd (Below.refl _ _) _⟩
  have HGX := Qa.mk hgx
  rw [← hgx]
  generalize W1.alloc (.cells #[.int .i64 nd.f0, .slice Ak nd.f1.length ck, .int .i64 nd.f2, .int .u64 nd.f3.f0, .int .u64 nd.f3.f1, .int .u64 nd.f3.f2, .int .u64 nd.f3.f3] 56) = W2 at E2 ⊢
  clear k0 k1 k2 k3 k4 k5 k6 g1 hgx p2 p3
  have h := H.out
  clear H
  have hnd : Qa (gb < W1.heap.size ∧ gr < W1.heap.size) := ⟨by have := HW.out; have := HGR.out; omega⟩
  generalize wrap64 (a4 - 1) = u at *
  have x0 : W2.cell? ⟨gx, 0, none⟩ = some (.int .i64 nd.f0) := (Qb E2.out.x 0).trans rfl
  go_upto_region 6 with (fail)
  clear x0
  have c0 : ¬ nd.f0 = 0 := by have := HS.out; omega
  rw [if_neg c0] at h
  have b0 : (nd.f0 == 0) = false := beq_eq_false_iff_ne.2 c0
  clear c0
  go_upto_region 8 with (fail)
  clear b0
  have c1 : ¬ nd.f0 = 1 := by have := HS.out; omega
  rw [if_neg c1] at h
  have b1 : (nd.f0 == 1) = false := beq_eq_false_iff_ne.2 c1
  clear c1
  go_upto_region 12 with (fail)
  clear b1
  have c2 : nd.f0 = 2 := HS.out
  rw [if_pos c2] at h
  have b2 : (nd.f0 == 2) = true := beq_iff_eq.2 c2
  clear c2
  by_cases c4 : 0 ≤ nd.f2 ∧ nd.f2 < (l0_0.length : Int)
  · rw [if_pos c4] at h
    have HT := Qa.mk h
    clear h
    have g0 : W2.cell? ⟨gb, 0, none⟩ = some (.slice A0_0 l0_0.length c0_0) := (Qb (Qh HG.out E2.out.b) 0).trans rfl
    have g1 : W2.cell? ⟨gb, 1, none⟩ = some (.slice (some ad) l0_1.length c0_1) := (Qb (Qh HG.out E2.out.b) 1).trans rfl
    have x2 : W2.cell? ⟨gx, 2, none⟩ = some (.int .i64 nd.f2) := (Qb E2.out.x 2).trans rfl
    obtain ⟨ad2, e2, y0, y1⟩ := at_T51 (Kd.Qn HC0.out E2.out.b) nd.f2 c4.1 c4.2
    cases e2
    have q0 := eq_true c4.1
    have q1 := eq_true c4.2
    clear c4
    go_upto_region 13 with (fail)
    go_still_tail 11, (by kernel_rfl)
    change wpList _ _ _ _ _ W2.drew
    go_wp2_with (
      go_at_call 12
      refine (IH.out _ _ l0_0 _ _ l0_1 ((rd_T51 l0_0 nd.f2).f1) a2 (a3) (u) r1 r2 r3 _ (Kd.Qn HC0.out E2.out.drew.b) hc0_0 (Kd.Qn HC1.out E2.out.drew.b) hc0_1 HT.out).mono ?_
      rintro e_ W3 ⟨rfl, hb_⟩
      have E3 := Qa.mk (E2.out.drew.below hb_)
      have rr0 : W3.cell? ⟨gr, 0, none⟩ = some (.bool false) := (Qb (Qh HR.out E3.out.b) 0).trans rfl
      have z0 : W3.frozen? ⟨gr, 0, none⟩ = false := Qc (Qh HR.out E3.out.b) 0
      have rr1 : W3.cell? ⟨gr, 1, none⟩ = some (.int .i64 0) := (Qb (Qh HR.out E3.out.b) 1).trans rfl
      have z1 : W3.frozen? ⟨gr, 1, none⟩ = false := Qc (Qh HR.out E3.out.b) 1
      have rr2 : W3.cell? ⟨gr, 2, none⟩ = some (.int .i64 0) := (Qb (Qh HR.out E3.out.b) 2).trans rfl
      have z2 : W3.frozen? ⟨gr, 2, none⟩ = false := Qc (Qh HR.out E3.out.b) 2)
    refine bodyPost_ret (results_cell_row rfl _ _ gr 31 #[.bool r1, .int .i64 r2, .int .i64 r3] (0, 0) _ rfl (h18_blk3 (Qh HR.out E3.out.b) _ _ _) Try.underlying31 rfl (by kernel_rfl)) rfl ⟨rfl, h18_below3 (Qm HB.out E3.out.b) (by have := HGB.out; have := HGR.out; omega) _ _ _⟩
  · rw [if_neg c4] at h
    exact absurd h (by simp)
end Go.Proofs.Ythgedejnpgcacaa.V
namespace Go.Proofs.Ythgedejnpgcacaa.V
open Go.RowKit Go.Proofs.YthgedejnpgcacaaW.PrintWords Go.Proofs.YthgedejnpgcacaaW.PrintLast Go.Proofs.YthgedejnpgcacaaW.PrintMore
set_option linter.unusedVariables false
set_option linter.unusedSimpArgs false
set_option maxHeartbeats 4000000 in
set_option maxRecDepth 100000 in
theorem Qp.calls_s3 (k : Nat) (ih : ∀ (A0_0 : Option Addr) (c0_0 : Nat) (l0_0 : List S51) (A0_1 : Option Addr) (c0_1 : Nat) (l0_1 : List S56) (a1 : Int) (a2 : ByteArray) (a3 a4 : Int) (r1 : Bool) (r2 r3 : Int) (w : World)
    (hr0_0 : Kd.C k51 w A0_0 l0_0.length l0_0) (hc0_0 : l0_0.length ≤ c0_0) (hr0_1 : Kd.C k56 w A0_1 l0_1.length l0_1) (hc0_1 : l0_1.length ≤ c0_1) (h : Qp.f k l0_0 l0_1 a1 a2 a3 a4 = some (r1, r2, r3)), Calls Try.prog 12 #[.agg #[.slice A0_0 l0_0.length c0_0, .slice A0_1 l0_1.length c0_1], .int .i64 a1, .string a2, .int .i64 a3, .int .i64 a4] w fun e w' => e = .returned (.agg #[.bool r1, .int .i64 r2, .int .i64 r3]) ∧ Below w.heap.size w w')
    (A0_0 : Option Addr) (c0_0 : Nat) (l0_0 : List S51) (A0_1 : Option Addr) (c0_1 : Nat) (l0_1 : List S56) (a1 : Int) (a2 : ByteArray) (a3 a4 : Int) (r1 : Bool) (r2 r3 : Int) (w : World)
    (hr0_0 : Kd.C k51 w A0_0 l0_0.length l0_0) (hc0_0 : l0_0.length ≤ c0_0) (hr0_1 : Kd.C k56 w A0_1 l0_1.length l0_1) (hc0_1 : l0_1.length ≤ c0_1) (hs : Qa (¬ a4 < 1 ∧ (0 ≤ a1 ∧ a1 < (l0_1.length : Int)) ∧ (Ql l0_1 a1).f0 = 3)) (h : Qp.f (k + 1) l0_0 l0_1 a1 a2 a3 a4 = some (r1, r2, r3)) :
    Calls Try.prog 12 #[.agg #[.slice A0_0 l0_0.length c0_0, .slice A0_1 l0_1.length c0_1], .int .i64 a1, .string a2, .int .i64 a3, .int .i64 a4] w fun e w' => e = .returned (.agg #[.bool r1, .int .i64 r2, .int .i64 r3]) ∧ Below w.heap.size w w' := by
  rw [Qp.f] at h
  have IH := Qa.mk ih
  clear ih
  have hu25 := Try.underlying25
  have hu31 := Try.underlying31
  have hu56 := Try.underlying56
  have hu51 := Try.underlying51
  have hu54 := Try.underlying54
  have HB := Qa.mk (Qd (Qd (Below.refl w.heap.size w) (.cells #[.slice A0_0 l0_0.length c0_0, .slice A0_1 l0_1.length c0_1] 25)) (.cells #[.bool false, .int .i64 0, .int .i64 0] 31))
  have HG := Qa.mk (Qi (Qf1 w (.cells #[.slice A0_0 l0_0.length c0_0, .slice A0_1 l0_1.length c0_1] 25)) (.cells #[.bool false, .int .i64 0, .int .i64 0] 31))
  have HR := Qa.mk (Qf1 (w.alloc (.cells #[.slice A0_0 l0_0.length c0_0, .slice A0_1 l0_1.length c0_1] 25)) (.cells #[.bool false, .int .i64 0, .int .i64 0] 31))
  have hsz : ((w.alloc (.cells #[.slice A0_0 l0_0.length c0_0, .slice A0_1 l0_1.length c0_1] 25)).alloc (.cells #[.bool false, .int .i64 0, .int .i64 0] 31)).heap.size = w.heap.size + 1 + 1 := by rw [h18_size, h18_size]
  rw [h18_size] at HR
  have HC0 := Qa.mk (Kd.Qn hr0_0 HB.out)
  have HC1 := Qa.mk (Kd.Qn hr0_1 HB.out)
  have HW := Qa.mk hsz
  clear hr0_0 hr0_1 hsz
  rw [if_neg hs.out.1, if_pos hs.out.2.1] at h
  have c4b : decide (a4 < 1) = false := decide_eq_false hs.out.1
  have H := Qa.mk h
  clear h
  go_enter Try.func12, Try.ntmps12
  go_upto_region 1 with (fail)
  generalize ((w.alloc (.cells #[.slice A0_0 l0_0.length c0_0, .slice A0_1 l0_1.length c0_1] 25)).alloc (.cells #[.bool false, .int .i64 0, .int .i64 0] 31)) = W1 at HB HG HR HC0 HC1 HW ⊢
  obtain ⟨gb, hgb⟩ : ∃ gb, gb = w.heap.size := ⟨_, rfl⟩
  obtain ⟨gr, hgr⟩ : ∃ gr, gr = gb + 1 := ⟨_, rfl⟩
  rw [← hgb] at HW HG HR ⊢
  rw [← hgr] at HR ⊢
  have HGB := Qa.mk hgb
  have HGR := Qa.mk hgr
  clear hgb hgr
  go_upto_region 4 with (fail)
  clear c4b
  have g1 : W1.cell? ⟨gb, 1, none⟩ = some (.slice A0_1 l0_1.length c0_1) := (Qb HG.out 1).trans rfl
  have p2 := hs.out.2.1.1
  have p3 := hs.out.2.1.2
  obtain ⟨ad, Ak, ck, e, k0, k1, k2, k3, k4, k5, k6, hlk, hCk⟩ := at_T56 HC1.out a1 p2 p3
  cases e
  have HCk := Qa.mk hCk
  have HLk := Qa.mk hlk
  clear hCk hlk
  replace p2 := eq_true p2
  replace p3 := eq_true p3
  go_upto_region 5 with (fail)
  have HS := Qa.mk hs.out.2.2
  clear hs
  generalize Ql l0_1 a1 = nd at *
  obtain ⟨gx, hgx⟩ : ∃ gx, gx = W1.heap.size := ⟨_, rfl⟩
  have E2 : Qa (Env18 W1 gx #[.int .i64 nd.f0, .slice Ak nd.f1.length ck, .int .i64 nd.f2, .int .u64 nd.f3.f0, .int .u64 nd.f3.f1, .int .u64 nd.f3.f2, .int .u64 nd.f3.f3] (W1.alloc (.cells #[.int .i64 nd.f0, .slice Ak nd.f1.length ck, .int .i64 nd.f2, .int .u64 nd.f3.f0, .int .u64 nd.f3.f1, .int .u64 nd.f3.f2, .int .u64 nd.f3.f3] 56))) := ⟨by rw [hgx]; exact Qf1 W1 (.cells #[.int .i64 nd.f0, .slice Ak nd.f1.length ck, .int .i64 nd.f2, .int .u64 nd.f3.f0, .int .u64 nd.f3.f1, .int .u64 nd.f3.f2, .int .u64 nd.f3.f3] 56), Qd (Below.refl _ _) _⟩
  have HGX := Qa.mk hgx
  rw [← hgx]
  generalize W1.alloc (.cells #[.int .i64 nd.f0, .slice Ak nd.f1.length ck, .int .i64 nd.f2, .int .u64 nd.f3.f0, .int .u64 nd.f3.f1, .int .u64 nd.f3.f2, .int .u64 nd.f3.f3] 56) = W2 at E2 ⊢
  clear k0 k1 k2 k3 k4 k5 k6 g1 hgx p2 p3
  have h := H.out
  clear H
  have hnd : Qa (gb < W1.heap.size ∧ gr < W1.heap.size) := ⟨by have := HW.out; have := HGR.out; omega⟩
  generalize wrap64 (a4 - 1) = u at *
  have x0 : W2.cell? ⟨gx, 0, none⟩ = some (.int .i64 nd.f0) := (Qb E2.out.x 0).trans rfl
  go_upto_region 6 with (fail)
  clear x0
  have c0 : ¬ nd.f0 = 0 := by have := HS.out; omega
  rw [if_neg c0] at h
  have b0 : (nd.f0 == 0) = false := beq_eq_false_iff_ne.2 c0
  clear c0
  go_upto_region 8 with (fail)
  clear b0
  have c1 : ¬ nd.f0 = 1 := by have := HS.out; omega
  rw [if_neg c1] at h
  have b1 : (nd.f0 == 1) = false := beq_eq_false_iff_ne.2 c1
  clear c1
  go_upto_region 12 with (fail)
  clear b1
  have c2 : ¬ nd.f0 = 2 := by have := HS.out; omega
  rw [if_neg c2] at h
  have b2 : (nd.f0 == 2) = false := beq_eq_false_iff_ne.2 c2
  clear c2
  go_upto_region 14 with (fail)
  clear b2
  have c3 : nd.f0 = 3 := HS.out
  rw [if_pos c3] at h
  have b3 : (nd.f0 == 3) = true := beq_iff_eq.2 c3
  clear c3
  have HMX := Qa.mk HCk.out.2.1
  go_upto_block 1 with fail
  obtain ⟨gv, hgv⟩ : ∃ gv, gv = W2.heap.size := ⟨_, rfl⟩
  have EV := Qa.mk (E2.out.below (Qd (Below.refl _ _) (.cells #[.bool true, .int .i64 a3, .int .i64 u] 31)))
  have BV := Qa.mk (Qf1 W2 (.cells #[.bool true, .int .i64 a3, .int .i64 u] 31))
  rw [← hgv] at BV ⊢
  have HV : Qa (gx ≠ gv ∧ W1.heap.size ≤ gv ∧ gr ≠ gv) := ⟨by have := blk_lt E2.out.x; have := E2.out.b.size; have := hnd.out; omega⟩
  generalize W2.alloc (.cells #[.bool true, .int .i64 a3, .int .i64 u] 31) = V0 at EV BV ⊢
  clear hgv
  go_wp2
  go_loopg [13] nd.f1.length (fun kq v13 w' => ∃ (e q : Int) (j : Int), v13 = .int .i64 j ∧ Qa (0 ≤ j ∧ j ≤ (nd.f1.length : Int) ∧ kq + j.toNat = nd.f1.length) ∧ Qa (Qp.seqF (fun c a u => Qp.f k l0_0 l0_1 c a2 a u) (nd.f1.drop j.toNat) e q = some (r1, r2, r3)) ∧ Qa (Env18 W1 gx #[.int .i64 nd.f0, .slice Ak nd.f1.length ck, .int .i64 nd.f2, .int .u64 nd.f3.f0, .int .u64 nd.f3.f1, .int .u64 nd.f3.f2, .int .u64 nd.f3.f3] w') ∧ Qa (w'.heap[gv]? = some (.cells #[.bool true, .int .i64 e, .int .i64 q] 31 (0, 0))))
  case atStart => exact ⟨a3, u, 0, rfl, ⟨by omega⟩, ⟨h⟩, EV, BV⟩
  case round =>
   clear h EV BV E2
   obtain ⟨e, q, j, rfl, HJ, HA, E, BV⟩ := hrel
   have h := HA.out
   clear HA
   by_cases cj : j < (nd.f1.length : Int)
   ·
    have jp : 0 ≤ j := by have := HJ.out; omega
    rw [h18_drop nd.f1 j jp cj] at h
    rw [Qp.seqF] at h
    obtain ⟨⟨t1, t2, t3⟩, ht, h⟩ := Option.bind_eq_some_iff.1 h
    dsimp only at ht h
    have HT := Qa.mk ht
    have HA := Qa.mk h
    have HJP := Qa.mk jp
    have HCJ := Qa.mk cj
    clear ht h
    have cjb : decide (j < (nd.f1.length : Int)) = true := decide_eq_true cj
    obtain ⟨ad1, he1, kc⟩ := Kd.at_int (Kd.Qn HCk.out E.out.b) j jp cj
    have x1 : wr.cell? ⟨gx, 1, none⟩ = some (.slice (some ad1) nd.f1.length ck) := by rw [← he1]; exact (Qb E.out.x 1).trans rfl
    clear he1
    have v0 : wr.cell? ⟨gv, 0, none⟩ = some (.bool true) := (Qb BV.out 0).trans rfl
    have v1 : wr.cell? ⟨gv, 1, none⟩ = some (.int .i64 e) := (Qb BV.out 1).trans rfl
    have v2 : wr.cell? ⟨gv, 2, none⟩ = some (.int .i64 q) := (Qb BV.out 2).trans rfl
    have g0 : wr.cell? ⟨gb, 0, none⟩ = some (.slice A0_0 l0_0.length c0_0) := (Qb (Qh HG.out E.out.b) 0).trans rfl
    have g1 : wr.cell? ⟨gb, 1, none⟩ = some (.slice (some ad) l0_1.length c0_1) := (Qb (Qh HG.out E.out.b) 1).trans rfl
    replace jp := eq_true jp
    replace cj := eq_true cj
    go_upto_region 19 with (fail)
    go_still_tail 11, (by kernel_rfl)
    change wpList _ _ _ _ _ wr.drew
    go_upto_region 20 with (
      go_at_call 12
      refine (IH.out _ _ l0_0 _ _ l0_1 (rd nd.f1 j) a2 (e) (q) t1 t2 t3 _ (Kd.Qn HC0.out E.out.drew.b) hc0_0 (Kd.Qn HC1.out E.out.drew.b) hc0_1 HT.out).mono ?_
      rintro e_ W3 ⟨rfl, hb_⟩
      have E3 := Qa.mk (E.out.drew.below hb_)
      have BV3 := Qa.mk (Qh (Qj BV.out) hb_)
      clear hb_ kc x1 v0 v1 v2 g0 g1 cjb jp cj
      have v0 : W3.cell? ⟨gv, 0, none⟩ = some (.bool true) := (Qb BV3.out 0).trans rfl
      have y0 : W3.frozen? ⟨gv, 0, none⟩ = false := Qc BV3.out 0
      have v1 : W3.cell? ⟨gv, 1, none⟩ = some (.int .i64 e) := (Qb BV3.out 1).trans rfl
      have y1 : W3.frozen? ⟨gv, 1, none⟩ = false := Qc BV3.out 1
      have v2 : W3.cell? ⟨gv, 2, none⟩ = some (.int .i64 q) := (Qb BV3.out 2).trans rfl
      have y2 : W3.frozen? ⟨gv, 2, none⟩ = false := Qc BV3.out 2)
    have E4 := Qa.mk (E3.out.put3 HV.out.2.1 HV.out.1 (.bool t1) (.int .i64 t2) (.int .i64 t3))
    have BV4 := Qa.mk (h18_blk3 BV3.out (.bool t1) (.int .i64 t2) (.int .i64 t3))
    generalize (((W3.setCell ⟨gv, 0, none⟩ (.bool t1)).setCell ⟨gv, 1, none⟩ (.int .i64 t2)).setCell ⟨gv, 2, none⟩ (.int .i64 t3)) = V3 at E4 BV4 ⊢
    clear v0 v1 v2 y0 y1 y2 E BV E3 BV3
    have h := HA.out
    clear HA
    cases t1 with
    | false =>
      rw [if_neg (by simp)] at h
      simp only [Option.some.injEq, Prod.mk.injEq] at h
      obtain ⟨rfl, rfl, rfl⟩ := h
      have v0 : V3.cell? ⟨gv, 0, none⟩ = some (.bool false) := (Qb BV4.out 0).trans rfl
      have v1 : V3.cell? ⟨gv, 1, none⟩ = some (.int .i64 t2) := (Qb BV4.out 1).trans rfl
      have v2 : V3.cell? ⟨gv, 2, none⟩ = some (.int .i64 t3) := (Qb BV4.out 2).trans rfl
      have rr0 : V3.cell? ⟨gr, 0, none⟩ = some (.bool false) := (Qb (Qh HR.out E4.out.b) 0).trans rfl
      have z0 : V3.frozen? ⟨gr, 0, none⟩ = false := Qc (Qh HR.out E4.out.b) 0
      have rr1 : V3.cell? ⟨gr, 1, none⟩ = some (.int .i64 0) := (Qb (Qh HR.out E4.out.b) 1).trans rfl
      have z1 : V3.frozen? ⟨gr, 1, none⟩ = false := Qc (Qh HR.out E4.out.b) 1
      have rr2 : V3.cell? ⟨gr, 2, none⟩ = some (.int .i64 0) := (Qb (Qh HR.out E4.out.b) 2).trans rfl
      have z2 : V3.frozen? ⟨gr, 2, none⟩ = false := Qc (Qh HR.out E4.out.b) 2
      go_wp2
      refine bodyPost_ret (results_cell_row rfl _ _ gr 31 #[.bool false, .int .i64 t2, .int .i64 t3] (0, 0) _ rfl (h18_blk3 (Qh HR.out E4.out.b) _ _ _) Try.underlying31 rfl (by kernel_rfl)) rfl ⟨rfl, h18_below3 (Qm HB.out E4.out.b) (by have := HGB.out; have := HGR.out; omega) _ _ _⟩
    | true =>
      by_cases ct : 0 ≤ t2
      · rw [if_pos ⟨rfl, ct⟩] at h
        have ctb : decide (t2 < 0) = false := decide_eq_false (by omega)
        clear ct
        have v0 : V3.cell? ⟨gv, 0, none⟩ = some (.bool true) := (Qb BV4.out 0).trans rfl
        have v1 : V3.cell? ⟨gv, 1, none⟩ = some (.int .i64 t2) := (Qb BV4.out 1).trans rfl
        have v2 : V3.cell? ⟨gv, 2, none⟩ = some (.int .i64 t3) := (Qb BV4.out 2).trans rfl
        have hw := h18_next j nd.f1.length HJP.out HCJ.out HMX.out
        have HWj := Qa.mk hw
        clear hw
        go_wp2
        go_roundg (gk - 1)
        case measure => have := HJ.out; have := HCJ.out; omega
        case rel => exact ⟨t2, t3, wrap64 (j + 1), rfl, ⟨by rw [HWj.out]; have := HJ.out; have := HCJ.out; omega⟩, ⟨by rw [HWj.out]; exact h⟩, E4, BV4⟩
      · rw [if_neg (fun x => ct x.2)] at h
        simp only [Option.some.injEq, Prod.mk.injEq] at h
        obtain ⟨rfl, rfl, rfl⟩ := h
        have ctb : decide (t2 < 0) = true := decide_eq_true (by omega)
        clear ct
        have v0 : V3.cell? ⟨gv, 0, none⟩ = some (.bool true) := (Qb BV4.out 0).trans rfl
        have v1 : V3.cell? ⟨gv, 1, none⟩ = some (.int .i64 t2) := (Qb BV4.out 1).trans rfl
        have v2 : V3.cell? ⟨gv, 2, none⟩ = some (.int .i64 t3) := (Qb BV4.out 2).trans rfl
        have rr0 : V3.cell? ⟨gr, 0, none⟩ = some (.bool false) := (Qb (Qh HR.out E4.out.b) 0).trans rfl
        have z0 : V3.frozen? ⟨gr, 0, none⟩ = false := Qc (Qh HR.out E4.out.b) 0
        have rr1 : V3.cell? ⟨gr, 1, none⟩ = some (.int .i64 0) := (Qb (Qh HR.out E4.out.b) 1).trans rfl
        have z1 : V3.frozen? ⟨gr, 1, none⟩ = false := Qc (Qh HR.out E4.out.b) 1
        have rr2 : V3.cell? ⟨gr, 2, none⟩ = some (.int .i64 0) := (Qb (Qh HR.out E4.out.b) 2).trans rfl
        have z2 : V3.frozen? ⟨gr, 2, none⟩ = false := Qc (Qh HR.out E4.out.b) 2
        go_wp2
        refine bodyPost_ret (results_cell_row rfl _ _ gr 31 #[.bool true, .int .i64 t2, .int .i64 t3] (0, 0) _ rfl (h18_blk3 (Qh HR.out E4.out.b) _ _ _) Try.underlying31 rfl (by kernel_rfl)) rfl ⟨rfl, h18_below3 (Qm HB.out E4.out.b) (by have := HGB.out; have := HGR.out; omega) _ _ _⟩
   ·
    have cjb : decide (j < (nd.f1.length : Int)) = false := decide_eq_false cj
    rw [h18_end nd.f1 j cj] at h
    rw [Qp.seqF] at h
    clear cj
    simp only [Option.some.injEq, Prod.mk.injEq] at h
    obtain ⟨rfl, rfl, rfl⟩ := h
    have x1 := (Qb E.out.x 1).trans rfl
    have v0 : wr.cell? ⟨gv, 0, none⟩ = some (.bool true) := (Qb BV.out 0).trans rfl
    have v1 : wr.cell? ⟨gv, 1, none⟩ = some (.int .i64 e) := (Qb BV.out 1).trans rfl
    have v2 : wr.cell? ⟨gv, 2, none⟩ = some (.int .i64 q) := (Qb BV.out 2).trans rfl
    have rr0 : wr.cell? ⟨gr, 0, none⟩ = some (.bool false) := (Qb (Qh HR.out E.out.b) 0).trans rfl
    have z0 : wr.frozen? ⟨gr, 0, none⟩ = false := Qc (Qh HR.out E.out.b) 0
    have rr1 : wr.cell? ⟨gr, 1, none⟩ = some (.int .i64 0) := (Qb (Qh HR.out E.out.b) 1).trans rfl
    have z1 : wr.frozen? ⟨gr, 1, none⟩ = false := Qc (Qh HR.out E.out.b) 1
    have rr2 : wr.cell? ⟨gr, 2, none⟩ = some (.int .i64 0) := (Qb (Qh HR.out E.out.b) 2).trans rfl
    have z2 : wr.frozen? ⟨gr, 2, none⟩ = false := Qc (Qh HR.out E.out.b) 2
    go_wp2
    refine bodyPost_ret (results_cell_row rfl _ _ gr 31 #[.bool true, .int .i64 e, .int .i64 q] (0, 0) _ rfl (h18_blk3 (Qh HR.out E.out.b) _ _ _) Try.underlying31 rfl (by kernel_rfl)) rfl ⟨rfl, h18_below3 (Qm HB.out E.out.b) (by have := HGB.out; have := HGR.out; omega) _ _ _⟩
end Go.Proofs.Ythgedejnpgcacaa.V
namespace Go.Proofs.Ythgedejnpgcacaa.V
open Go.RowKit Go.Proofs.YthgedejnpgcacaaW.PrintWords Go.Proofs.YthgedejnpgcacaaW.PrintLast Go.Proofs.YthgedejnpgcacaaW.PrintMore
set_option linter.unusedVariables false
set_option linter.unusedSimpArgs false
set_option maxHeartbeats 4000000 in
set_option maxRecDepth 100000 in
theorem Qp.calls_s4 (k : Nat) (ih : ∀ (A0_0 : Option Addr) (c0_0 : Nat) (l0_0 : List S51) (A0_1 : Option Addr) (c0_1 : Nat) (l0_1 : List S56) (a1 : Int) (a2 : ByteArray) (a3 a4 : Int) (r1 : Bool) (r2 r3 : Int) (w : World)
    (hr0_0 : Kd.C k51 w A0_0 l0_0.length l0_0) (hc0_0 : l0_0.length ≤ c0_0) (hr0_1 : Kd.C k56 w A0_1 l0_1.length l0_1) (hc0_1 : l0_1.length ≤ c0_1) (h : Qp.f k l0_0 l0_1 a1 a2 a3 a4 = some (r1, r2, r3)), Calls Try.prog 12 #[.agg #[.slice A0_0 l0_0.length c0_0, .slice A0_1 l0_1.length c0_1], .int .i64 a1, .string a2, .int .i64 a3, .int .i64 a4] w fun e w' => e = .returned (.agg #[.bool r1, .int .i64 r2, .int .i64 r3]) ∧ Below w.heap.size w w')
    (A0_0 : Option Addr) (c0_0 : Nat) (l0_0 : List S51) (A0_1 : Option Addr) (c0_1 : Nat) (l0_1 : List S56) (a1 : Int) (a2 : ByteArray) (a3 a4 : Int) (r1 : Bool) (r2 r3 : Int) (w : World)
    (hr0_0 : Kd.C k51 w A0_0 l0_0.length l0_0) (hc0_0 : l0_0.length ≤ c0_0) (hr0_1 : Kd.C k56 w A0_1 l0_1.length l0_1) (hc0_1 : l0_1.length ≤ c0_1) (hs : Qa (¬ a4 < 1 ∧ (0 ≤ a1 ∧ a1 < (l0_1.length : Int)) ∧ (Ql l0_1 a1).f0 = 4)) (h : Qp.f (k + 1) l0_0 l0_1 a1 a2 a3 a4 = some (r1, r2, r3)) :
    Calls Try.prog 12 #[.agg #[.slice A0_0 l0_0.length c0_0, .slice A0_1 l0_1.length c0_1], .int .i64 a1, .string a2, .int .i64 a3, .int .i64 a4] w fun e w' => e = .returned (.agg #[.bool r1, .int .i64 r2, .int .i64 r3]) ∧ Below w.heap.size w w' := by
  rw [Qp.f] at h
  have IH := Qa.mk ih
  clear ih
  have hu25 := Try.underlying25
  have hu31 := Try.underlying31
  have hu56 := Try.underlying56
  have hu51 := Try.underlying51
  have hu54 := Try.underlying54
  have HB := Qa.mk (Qd (Qd (Below.refl w.heap.size w) (.cells #[.slice A0_0 l0_0.length c0_0, .slice A0_1 l0_1.length c0_1] 25)) (.cells #[.bool false, .int .i64 0, .int .i64 0] 31))
  have HG := Qa.mk (Qi (Qf1 w (.cells #[.slice A0_0 l0_0.length c0_0, .slice A0_1 l0_1.length c0_1] 25)) (.cells #[.bool false, .int .i64 0, .int .i64 0] 31))
  have HR := Qa.mk (Qf1 (w.alloc (.cells #[.slice A0_0 l0_0.length c0_0, .slice A0_1 l0_1.length c0_1] 25)) (.cells #[.bool false, .int .i64 0, .int .i64 0] 31))
  have hsz : ((w.alloc (.cells #[.slice A0_0 l0_0.length c0_0, .slice A0_1 l0_1.length c0_1] 25)).alloc (.cells #[.bool false, .int .i64 0, .int .i64 0] 31)).heap.size = w.heap.size + 1 + 1 := by rw [h18_size, h18_size]
  rw [h18_size] at HR
  have HC0 := Qa.mk (Kd.Qn hr0_0 HB.out)
  have HC1 := Qa.mk (Kd.Qn hr0_1 HB.out)
  have HW := Qa.mk hsz
  clear hr0_0 hr0_1 hsz
  rw [if_neg hs.out.1, if_pos hs.out.2.1] at h
  have c4b : decide (a4 < 1) = false := decide_eq_false hs.out.1
  have H := Qa.mk h
  clear h
  go_enter Try.func12, Try.ntmps12
  go_upto_region 1 with (fail)
  generalize ((w.alloc (.cells #[.slice A0_0 l0_0.length c0_0, .slice A0_1 l0_1.length c0_1] 25)).alloc (.cells #[.bool false, .int .i64 0, .int .i64 0] 31)) = W1 at HB HG HR HC0 HC1 HW ⊢
  obtain ⟨gb, hgb⟩ : ∃ gb, gb = w.heap.size := ⟨_, rfl⟩
  obtain ⟨gr, hgr⟩ : ∃ gr, gr = gb + 1 := ⟨_, rfl⟩
  rw [← hgb] at HW HG HR ⊢
  rw [← hgr] at HR ⊢
  have HGB := Qa.mk hgb
  have HGR := Qa.mk hgr
  clear hgb hgr
  go_upto_region 4 with (fail)
  clear c4b
  have g1 : W1.cell? ⟨gb, 1, none⟩ = some (.slice A0_1 l0_1.length c0_1) := (Qb HG.out 1).trans rfl
  have p2 := hs.out.2.1.1
  have p3 := hs.out.2.1.2
  obtain ⟨ad, Ak, ck, e, k0, k1, k2, k3, k4, k5, k6, hlk, hCk⟩ := at_T56 HC1.out a1 p2 p3
  cases e
  have HCk := Qa.mk hCk
  have HLk := Qa.mk hlk
  clear hCk hlk
  replace p2 := eq_true p2
  replace p3 := eq_true p3
  go_upto_region 5 with (fail)
  have HS := Qa.mk hs.out.2.2
  clear hs
  generalize Ql l0_1 a1 = nd at *
  obtain ⟨gx, hgx⟩ : ∃ gx, gx = W1.heap.size := ⟨_, rfl⟩
  have E2 : Qa (Env18 W1 gx #[.int .i64 nd.f0, .slice Ak nd.f1.length ck, .int .i64 nd.f2, .int .u64 nd.f3.f0, .int .u64 nd.f3.f1, .int .u64 nd.f3.f2, .int .u64 nd.f3.f3] (W1.alloc (.cells #[.int .i64 nd.f0, .slice Ak nd.f1.length ck, .int .i64 nd.f2, .int .u64 nd.f3.f0, .int .u64 nd.f3.f1, .int .u64 nd.f3.f2, .int .u64 nd.f3.f3] 56))) := ⟨by rw [hgx]; exact Qf1 W1 (.cells #[.int .i64 nd.f0, .slice Ak nd.f1.length ck, .int .i64 nd.f2, .int .u64 nd.f3.f0, .int .u64 nd.f3.f1, .int .u64 nd.f3.f2, .int .u64 nd.f3.f3] 56), Qd (Below.refl _ _) _⟩
  have HGX := Qa.mk hgx
  rw [← hgx]
  generalize W1.alloc (.cells #[.int .i64 nd.f0, .slice Ak nd.f1.length ck, .int .i64 nd.f2, .int .u64 nd.f3.f0, .int .u64 nd.f3.f1, .int .u64 nd.f3.f2, .int .u64 nd.f3.f3] 56) = W2 at E2 ⊢
  clear k0 k1 k2 k3 k4 k5 k6 g1 hgx p2 p3
  have h := H.out
  clear H
  have hnd : Qa (gb < W1.heap.size ∧ gr < W1.heap.size) := ⟨by have := HW.out; have := HGR.out; omega⟩
  generalize wrap64 (a4 - 1) = u at *
  have x0 : W2.cell? ⟨gx, 0, none⟩ = some (.int .i64 nd.f0) := (Qb E2.out.x 0).trans rfl
  go_upto_region 6 with (fail)
  clear x0
  have c0 : ¬ nd.f0 = 0 := by have := HS.out; omega
  rw [if_neg c0] at h
  have b0 : (nd.f0 == 0) = false := beq_eq_false_iff_ne.2 c0
  clear c0
  go_upto_region 8 with (fail)
  clear b0
  have c1 : ¬ nd.f0 = 1 := by have := HS.out; omega
  rw [if_neg c1] at h
  have b1 : (nd.f0 == 1) = false := beq_eq_false_iff_ne.2 c1
  clear c1
  go_upto_region 12 with (fail)
  clear b1
  have c2 : ¬ nd.f0 = 2 := by have := HS.out; omega
  rw [if_neg c2] at h
  have b2 : (nd.f0 == 2) = false := beq_eq_false_iff_ne.2 c2
  clear c2
  go_upto_region 14 with (fail)
  clear b2
  have c3 : ¬ nd.f0 = 3 := by have := HS.out; omega
  rw [if_neg c3] at h
  have b3 : (nd.f0 == 3) = false := beq_eq_false_iff_ne.2 c3
  clear c3
  go_upto_region 23 with (fail)
  clear b3
  have c4 : nd.f0 = 4 := HS.out
  rw [if_pos c4] at h
  have b4 : (nd.f0 == 4) = true := beq_iff_eq.2 c4
  clear c4
  have HMX := Qa.mk HCk.out.2.1
  go_upto_block 3 with fail
  obtain ⟨gv, hgv⟩ : ∃ gv, gv = W2.heap.size := ⟨_, rfl⟩
  have EV := Qa.mk (E2.out.below (Qd (Below.refl _ _) (.cells #[.bool true, .int .i64 (-1), .int .i64 u] 31)))
  have BV := Qa.mk (Qf1 W2 (.cells #[.bool true, .int .i64 (-1), .int .i64 u] 31))
  rw [← hgv] at BV ⊢
  have HV : Qa (gx ≠ gv ∧ W1.heap.size ≤ gv ∧ gr ≠ gv) := ⟨by have := blk_lt E2.out.x; have := E2.out.b.size; have := hnd.out; omega⟩
  generalize W2.alloc (.cells #[.bool true, .int .i64 (-1), .int .i64 u] 31) = V0 at EV BV ⊢
  clear hgv
  go_wp2
  go_loopg [15] nd.f1.length (fun kq v15 w' => ∃ (e q : Int) (j : Int), v15 = .int .i64 j ∧ Qa (0 ≤ j ∧ j ≤ (nd.f1.length : Int) ∧ kq + j.toNat = nd.f1.length) ∧ Qa (Qp.choF (fun c u => Qp.f k l0_0 l0_1 c a2 a3 u) (nd.f1.drop j.toNat) e q = some (r1, r2, r3)) ∧ Qa (Env18 W1 gx #[.int .i64 nd.f0, .slice Ak nd.f1.length ck, .int .i64 nd.f2, .int .u64 nd.f3.f0, .int .u64 nd.f3.f1, .int .u64 nd.f3.f2, .int .u64 nd.f3.f3] w') ∧ Qa (w'.heap[gv]? = some (.cells #[.bool true, .int .i64 e, .int .i64 q] 31 (0, 0))))
  case atStart => exact ⟨(-1), u, 0, rfl, ⟨by omega⟩, ⟨h⟩, EV, BV⟩
  case round =>
   clear h EV BV E2
   obtain ⟨e, q, j, rfl, HJ, HA, E, BV⟩ := hrel
   have h := HA.out
   clear HA
   by_cases cj : j < (nd.f1.length : Int)
   ·
    have jp : 0 ≤ j := by have := HJ.out; omega
    rw [h18_drop nd.f1 j jp cj] at h
    rw [Qp.choF] at h
    obtain ⟨⟨t1, t2, t3⟩, ht, h⟩ := Option.bind_eq_some_iff.1 h
    dsimp only at ht h
    have HT := Qa.mk ht
    have HA := Qa.mk h
    have HJP := Qa.mk jp
    have HCJ := Qa.mk cj
    clear ht h
    have cjb : decide (j < (nd.f1.length : Int)) = true := decide_eq_true cj
    obtain ⟨ad1, he1, kc⟩ := Kd.at_int (Kd.Qn HCk.out E.out.b) j jp cj
    have x1 : wr.cell? ⟨gx, 1, none⟩ = some (.slice (some ad1) nd.f1.length ck) := by rw [← he1]; exact (Qb E.out.x 1).trans rfl
    clear he1
    have v0 : wr.cell? ⟨gv, 0, none⟩ = some (.bool true) := (Qb BV.out 0).trans rfl
    have v1 : wr.cell? ⟨gv, 1, none⟩ = some (.int .i64 e) := (Qb BV.out 1).trans rfl
    have v2 : wr.cell? ⟨gv, 2, none⟩ = some (.int .i64 q) := (Qb BV.out 2).trans rfl
    have g0 : wr.cell? ⟨gb, 0, none⟩ = some (.slice A0_0 l0_0.length c0_0) := (Qb (Qh HG.out E.out.b) 0).trans rfl
    have g1 : wr.cell? ⟨gb, 1, none⟩ = some (.slice (some ad) l0_1.length c0_1) := (Qb (Qh HG.out E.out.b) 1).trans rfl
    replace jp := eq_true jp
    replace cj := eq_true cj
    go_upto_region 28 with (fail)
    go_still_tail 10, (by kernel_rfl)
    change wpList _ _ _ _ _ wr.drew
    go_upto_region 29 with (
      go_at_call 12
      refine (IH.out _ _ l0_0 _ _ l0_1 (rd nd.f1 j) a2 (a3) (q) t1 t2 t3 _ (Kd.Qn HC0.out E.out.drew.b) hc0_0 (Kd.Qn HC1.out E.out.drew.b) hc0_1 HT.out).mono ?_
      rintro e_ W3 ⟨rfl, hb_⟩
      have E3 := Qa.mk (E.out.drew.below hb_)
      have BV3 := Qa.mk (Qh (Qj BV.out) hb_)
      clear hb_ kc x1 v0 v1 v2 g0 g1 cjb jp cj
      have v0 : W3.cell? ⟨gv, 0, none⟩ = some (.bool true) := (Qb BV3.out 0).trans rfl
      have y0 : W3.frozen? ⟨gv, 0, none⟩ = false := Qc BV3.out 0
      have v1 : W3.cell? ⟨gv, 1, none⟩ = some (.int .i64 e) := (Qb BV3.out 1).trans rfl
      have y1 : W3.frozen? ⟨gv, 1, none⟩ = false := Qc BV3.out 1
      have v2 : W3.cell? ⟨gv, 2, none⟩ = some (.int .i64 q) := (Qb BV3.out 2).trans rfl
      have y2 : W3.frozen? ⟨gv, 2, none⟩ = false := Qc BV3.out 2)
    have E4 := Qa.mk (E3.out.put3 HV.out.2.1 HV.out.1 (.bool t1) (.int .i64 t2) (.int .i64 t3))
    have BV4 := Qa.mk (h18_blk3 BV3.out (.bool t1) (.int .i64 t2) (.int .i64 t3))
    generalize (((W3.setCell ⟨gv, 0, none⟩ (.bool t1)).setCell ⟨gv, 1, none⟩ (.int .i64 t2)).setCell ⟨gv, 2, none⟩ (.int .i64 t3)) = V3 at E4 BV4 ⊢
    clear v0 v1 v2 y0 y1 y2 E BV E3 BV3
    have h := HA.out
    clear HA
    cases t1 with
    | false =>
      rw [if_neg (by simp)] at h
      simp only [Option.some.injEq, Prod.mk.injEq] at h
      obtain ⟨rfl, rfl, rfl⟩ := h
      have v0 : V3.cell? ⟨gv, 0, none⟩ = some (.bool false) := (Qb BV4.out 0).trans rfl
      have v1 : V3.cell? ⟨gv, 1, none⟩ = some (.int .i64 t2) := (Qb BV4.out 1).trans rfl
      have v2 : V3.cell? ⟨gv, 2, none⟩ = some (.int .i64 t3) := (Qb BV4.out 2).trans rfl
      have rr0 : V3.cell? ⟨gr, 0, none⟩ = some (.bool false) := (Qb (Qh HR.out E4.out.b) 0).trans rfl
      have z0 : V3.frozen? ⟨gr, 0, none⟩ = false := Qc (Qh HR.out E4.out.b) 0
      have rr1 : V3.cell? ⟨gr, 1, none⟩ = some (.int .i64 0) := (Qb (Qh HR.out E4.out.b) 1).trans rfl
      have z1 : V3.frozen? ⟨gr, 1, none⟩ = false := Qc (Qh HR.out E4.out.b) 1
      have rr2 : V3.cell? ⟨gr, 2, none⟩ = some (.int .i64 0) := (Qb (Qh HR.out E4.out.b) 2).trans rfl
      have z2 : V3.frozen? ⟨gr, 2, none⟩ = false := Qc (Qh HR.out E4.out.b) 2
      go_wp2
      refine bodyPost_ret (results_cell_row rfl _ _ gr 31 #[.bool false, .int .i64 t2, .int .i64 t3] (0, 0) _ rfl (h18_blk3 (Qh HR.out E4.out.b) _ _ _) Try.underlying31 rfl (by kernel_rfl)) rfl ⟨rfl, h18_below3 (Qm HB.out E4.out.b) (by have := HGB.out; have := HGR.out; omega) _ _ _⟩
    | true =>
      by_cases ct : t2 < 0
      · rw [if_pos ⟨rfl, ct⟩] at h
        have ctb : decide (t2 ≥ 0) = false := decide_eq_false (by omega)
        clear ct
        have v0 : V3.cell? ⟨gv, 0, none⟩ = some (.bool true) := (Qb BV4.out 0).trans rfl
        have v1 : V3.cell? ⟨gv, 1, none⟩ = some (.int .i64 t2) := (Qb BV4.out 1).trans rfl
        have v2 : V3.cell? ⟨gv, 2, none⟩ = some (.int .i64 t3) := (Qb BV4.out 2).trans rfl
        have hw := h18_next j nd.f1.length HJP.out HCJ.out HMX.out
        have HWj := Qa.mk hw
        clear hw
        go_wp2
        go_roundg (gk - 1)
        case measure => have := HJ.out; have := HCJ.out; omega
        case rel => exact ⟨t2, t3, wrap64 (j + 1), rfl, ⟨by rw [HWj.out]; have := HJ.out; have := HCJ.out; omega⟩, ⟨by rw [HWj.out]; exact h⟩, E4, BV4⟩
      · rw [if_neg (fun x => ct x.2)] at h
        simp only [Option.some.injEq, Prod.mk.injEq] at h
        obtain ⟨rfl, rfl, rfl⟩ := h
        have ctb : decide (t2 ≥ 0) = true := decide_eq_true (by omega)
        clear ct
        have v0 : V3.cell? ⟨gv, 0, none⟩ = some (.bool true) := (Qb BV4.out 0).trans rfl
        have v1 : V3.cell? ⟨gv, 1, none⟩ = some (.int .i64 t2) := (Qb BV4.out 1).trans rfl
        have v2 : V3.cell? ⟨gv, 2, none⟩ = some (.int .i64 t3) := (Qb BV4.out 2).trans rfl
        have rr0 : V3.cell? ⟨gr, 0, none⟩ = some (.bool false) := (Qb (Qh HR.out E4.out.b) 0).trans rfl
        have z0 : V3.frozen? ⟨gr, 0, none⟩ = false := Qc (Qh HR.out E4.out.b) 0
        have rr1 : V3.cell? ⟨gr, 1, none⟩ = some (.int .i64 0) := (Qb (Qh HR.out E4.out.b) 1).trans rfl
        have z1 : V3.frozen? ⟨gr, 1, none⟩ = false := Qc (Qh HR.out E4.out.b) 1
        have rr2 : V3.cell? ⟨gr, 2, none⟩ = some (.int .i64 0) := (Qb (Qh HR.out E4.out.b) 2).trans rfl
        have z2 : V3.frozen? ⟨gr, 2, none⟩ = false := Qc (Qh HR.out E4.out.b) 2
        go_wp2
        refine bodyPost_ret (results_cell_row rfl _ _ gr 31 #[.bool true, .int .i64 t2, .int .i64 t3] (0, 0) _ rfl (h18_blk3 (Qh HR.out E4.out.b) _ _ _) Try.underlying31 rfl (by kernel_rfl)) rfl ⟨rfl, h18_below3 (Qm HB.out E4.out.b) (by have := HGB.out; have := HGR.out; omega) _ _ _⟩
   ·
    have cjb : decide (j < (nd.f1.length : Int)) = false := decide_eq_false cj
    rw [h18_end nd.f1 j cj] at h
    rw [Qp.choF] at h
    clear cj
    simp only [Option.some.injEq, Prod.mk.injEq] at h
    obtain ⟨rfl, rfl, rfl⟩ := h
    have x1 := (Qb E.out.x 1).trans rfl
    have v0 : wr.cell? ⟨gv, 0, none⟩ = some (.bool true) := (Qb BV.out 0).trans rfl
    have v1 : wr.cell? ⟨gv, 1, none⟩ = some (.int .i64 e) := (Qb BV.out 1).trans rfl
    have v2 : wr.cell? ⟨gv, 2, none⟩ = some (.int .i64 q) := (Qb BV.out 2).trans rfl
    have rr0 : wr.cell? ⟨gr, 0, none⟩ = some (.bool false) := (Qb (Qh HR.out E.out.b) 0).trans rfl
    have z0 : wr.frozen? ⟨gr, 0, none⟩ = false := Qc (Qh HR.out E.out.b) 0
    have rr1 : wr.cell? ⟨gr, 1, none⟩ = some (.int .i64 0) := (Qb (Qh HR.out E.out.b) 1).trans rfl
    have z1 : wr.frozen? ⟨gr, 1, none⟩ = false := Qc (Qh HR.out E.out.b) 1
    have rr2 : wr.cell? ⟨gr, 2, none⟩ = some (.int .i64 0) := (Qb (Qh HR.out E.out.b) 2).trans rfl
    have z2 : wr.frozen? ⟨gr, 2, none⟩ = false := Qc (Qh HR.out E.out.b) 2
    go_wp2
    refine bodyPost_ret (results_cell_row rfl _ _ gr 31 #[.bool true, .int .i64 e, .int .i64 q] (0, 0) _ rfl (h18_blk3 (Qh HR.out E.out.b) _ _ _) Try.underlying31 rfl (by kernel_rfl)) rfl ⟨rfl, h18_below3 (Qm HB.out E.out.b) (by have := HGB.out; have := HGR.out; omega) _ _ _⟩
end Go.Proofs.Ythgedejnpgcacaa.V
namespace Go.Proofs.Ythgedejnpgcacaa.V
open Go.RowKit Go.Proofs.YthgedejnpgcacaaW.PrintWords Go.Proofs.YthgedejnpgcacaaW.PrintLast Go.Proofs.YthgedejnpgcacaaW.PrintMore
set_option linter.unusedVariables false
set_option linter.unusedSimpArgs false
set_option maxHeartbeats 4000000 in
set_option maxRecDepth 100000 in
theorem Qp.calls_s5 (k : Nat) (ih : ∀ (A0_0 : Option Addr) (c0_0 : Nat) (l0_0 : List S51) (A0_1 : Option Addr) (c0_1 : Nat) (l0_1 : List S56) (a1 : Int) (a2 : ByteArray) (a3 a4 : Int) (r1 : Bool) (r2 r3 : Int) (w : World)
    (hr0_0 : Kd.C k51 w A0_0 l0_0.length l0_0) (hc0_0 : l0_0.length ≤ c0_0) (hr0_1 : Kd.C k56 w A0_1 l0_1.length l0_1) (hc0_1 : l0_1.length ≤ c0_1) (h : Qp.f k l0_0 l0_1 a1 a2 a3 a4 = some (r1, r2, r3)), Calls Try.prog 12 #[.agg #[.slice A0_0 l0_0.length c0_0, .slice A0_1 l0_1.length c0_1], .int .i64 a1, .string a2, .int .i64 a3, .int .i64 a4] w fun e w' => e = .returned (.agg #[.bool r1, .int .i64 r2, .int .i64 r3]) ∧ Below w.heap.size w w')
    (A0_0 : Option Addr) (c0_0 : Nat) (l0_0 : List S51) (A0_1 : Option Addr) (c0_1 : Nat) (l0_1 : List S56) (a1 : Int) (a2 : ByteArray) (a3 a4 : Int) (r1 : Bool) (r2 r3 : Int) (w : World)
    (hr0_0 : Kd.C k51 w A0_0 l0_0.length l0_0) (hc0_0 : l0_0.length ≤ c0_0) (hr0_1 : Kd.C k56 w A0_1 l0_1.length l0_1) (hc0_1 : l0_1.length ≤ c0_1) (hs : Qa (¬ a4 < 1 ∧ (0 ≤ a1 ∧ a1 < (l0_1.length : Int)) ∧ (Ql l0_1 a1).f0 ≠ 0 ∧ (Ql l0_1 a1).f0 ≠ 1 ∧ (Ql l0_1 a1).f0 ≠ 2 ∧ (Ql l0_1 a1).f0 ≠ 3 ∧ (Ql l0_1 a1).f0 ≠ 4 ∧ (Ql l0_1 a1).f0 ≠ 7 ∧ (Ql l0_1 a1).f0 ≠ 8 ∧ (Ql l0_1 a1).f0 ≠ 9)) (h : Qp.f (k + 1) l0_0 l0_1 a1 a2 a3 a4 = some (r1, r2, r3)) :
    Calls Try.prog 12 #[.agg #[.slice A0_0 l0_0.length c0_0, .slice A0_1 l0_1.length c0_1], .int .i64 a1, .string a2, .int .i64 a3, .int .i64 a4] w fun e w' => e = .returned (.agg #[.bool r1, .int .i64 r2, .int .i64 r3]) ∧ Below w.heap.size w w' := by
  rw [Qp.f] at h
  have IH := Qa.mk ih
  clear ih
  have hu25 := Try.underlying25
  have hu31 := Try.underlying31
  have hu56 := Try.underlying56
  have hu51 := Try.underlying51
  have hu54 := Try.underlying54
  have HB := Qa.mk (Qd (Qd (Below.refl w.heap.size w) (.cells #[.slice A0_0 l0_0.length c0_0, .slice A0_1 l0_1.length c0_1] 25)) (.cells #[.bool false, .int .i64 0, .int .i64 0] 31))
  have HG := Qa.mk (Qi (Qf1 w (.cells #[.slice A0_0 l0_0.length c0_0, .slice A0_1 l0_1.length c0_1] 25)) (.cells #[.bool false, .int .i64 0, .int .i64 0] 31))
  have HR := Qa.mk (Qf1 (w.alloc (.cells #[.slice A0_0 l0_0.length c0_0, .slice A0_1 l0_1.length c0_1] 25)) (.cells #[.bool false, .int .i64 0, .int .i64 0] 31))
  have hsz : ((w.alloc (.cells #[.slice A0_0 l0_0.length c0_0, .slice A0_1 l0_1.length c0_1] 25)).alloc (.cells #[.bool false, .int .i64 0, .int .i64 0] 31)).heap.size = w.heap.size + 1 + 1 := by rw [h18_size, h18_size]
  rw [h18_size] at HR
  have HC0 := Qa.mk (Kd.Qn hr0_0 HB.out)
  have HC1 := Qa.mk (Kd.Qn hr0_1 HB.out)
  have HW := Qa.mk hsz
  clear hr0_0 hr0_1 hsz
  rw [if_neg hs.out.1, if_pos hs.out.2.1] at h
  have c4b : decide (a4 < 1) = false := decide_eq_false hs.out.1
  have H := Qa.mk h
  clear h
  go_enter Try.func12, Try.ntmps12
  go_upto_region 1 with (fail)
  generalize ((w.alloc (.cells #[.slice A0_0 l0_0.length c0_0, .slice A0_1 l0_1.length c0_1] 25)).alloc (.cells #[.bool false, .int .i64 0, .int .i64 0] 31)) = W1 at HB HG HR HC0 HC1 HW ⊢
  obtain ⟨gb, hgb⟩ : ∃ gb, gb = w.heap.size := ⟨_, rfl⟩
  obtain ⟨gr, hgr⟩ : ∃ gr, gr = gb + 1 := ⟨_, rfl⟩
  rw [← hgb] at HW HG HR ⊢
  rw [← hgr] at HR ⊢
  have HGB := Qa.mk hgb
  have HGR := Qa.mk hgr
  clear hgb hgr
  go_upto_region 4 with (fail)
  clear c4b
  have g1 : W1.cell? ⟨gb, 1, none⟩ = some (.slice A0_1 l0_1.length c0_1) := (Qb HG.out 1).trans rfl
  have p2 := hs.out.2.1.1
  have p3 := hs.out.2.1.2
  obtain ⟨ad, Ak, ck, e, k0, k1, k2, k3, k4, k5, k6, hlk, hCk⟩ := at_T56 HC1.out a1 p2 p3
  cases e
  have HCk := Qa.mk hCk
  have HLk := Qa.mk hlk
  clear hCk hlk
  replace p2 := eq_true p2
  replace p3 := eq_true p3
  go_upto_region 5 with (fail)
  have HS := Qa.mk hs.out.2.2
  clear hs
  generalize Ql l0_1 a1 = nd at *
  obtain ⟨gx, hgx⟩ : ∃ gx, gx = W1.heap.size := ⟨_, rfl⟩
  have E2 : Qa (Env18 W1 gx #[.int .i64 nd.f0, .slice Ak nd.f1.length ck, .int .i64 nd.f2, .int .u64 nd.f3.f0, .int .u64 nd.f3.f1, .int .u64 nd.f3.f2, .int .u64 nd.f3.f3] (W1.alloc (.cells #[.int .i64 nd.f0, .slice Ak nd.f1.length ck, .int .i64 nd.f2, .int .u64 nd.f3.f0, .int .u64 nd.f3.f1, .int .u64 nd.f3.f2, .int .u64 nd.f3.f3] 56))) := ⟨by rw [hgx]; exact Qf1 W1 (.cells #[.int .i64 nd.f0, .slice Ak nd.f1.length ck, .int .i64 nd.f2, .int .u64 nd.f3.f0, .int .u64 nd.f3.f1, .int .u64 nd.f3.f2, .int .u64 nd.f3.f3] 56), Qd (Below.refl _ _) _⟩
  have HGX := Qa.mk hgx
  rw [← hgx]
  generalize W1.alloc (.cells #[.int .i64 nd.f0, .slice Ak nd.f1.length ck, .int .i64 nd.f2, .int .u64 nd.f3.f0, .int .u64 nd.f3.f1, .int .u64 nd.f3.f2, .int .u64 nd.f3.f3] 56) = W2 at E2 ⊢
  clear k0 k1 k2 k3 k4 k5 k6 g1 hgx p2 p3
  have h := H.out
  clear H
  have hnd : Qa (gb < W1.heap.size ∧ gr < W1.heap.size) := ⟨by have := HW.out; have := HGR.out; omega⟩
  generalize wrap64 (a4 - 1) = u at *
  have x0 : W2.cell? ⟨gx, 0, none⟩ = some (.int .i64 nd.f0) := (Qb E2.out.x 0).trans rfl
  go_upto_region 6 with (fail)
  clear x0
  have c0 : ¬ nd.f0 = 0 := by have := HS.out; omega
  rw [if_neg c0] at h
  have b0 : (nd.f0 == 0) = false := beq_eq_false_iff_ne.2 c0
  clear c0
  go_upto_region 8 with (fail)
  clear b0
  have c1 : ¬ nd.f0 = 1 := by have := HS.out; omega
  rw [if_neg c1] at h
  have b1 : (nd.f0 == 1) = false := beq_eq_false_iff_ne.2 c1
  clear c1
  go_upto_region 12 with (fail)
  clear b1
  have c2 : ¬ nd.f0 = 2 := by have := HS.out; omega
  rw [if_neg c2] at h
  have b2 : (nd.f0 == 2) = false := beq_eq_false_iff_ne.2 c2
  clear c2
  go_upto_region 14 with (fail)
  clear b2
  have c3 : ¬ nd.f0 = 3 := by have := HS.out; omega
  rw [if_neg c3] at h
  have b3 : (nd.f0 == 3) = false := beq_eq_false_iff_ne.2 c3
  clear c3
  go_upto_region 23 with (fail)
  clear b3
  have c4 : ¬ nd.f0 = 4 := by have := HS.out; omega
  rw [if_neg c4] at h
  have b4 : (nd.f0 == 4) = false := beq_eq_false_iff_ne.2 c4
  clear c4
  by_cases ck0 : nd.f1 = []
  · rw [if_pos ck0] at h
    exact absurd h (by simp)
  rw [if_neg ck0] at h
  have q9 := h18_mem nd.f1 ck0
  have HQ9 := Qa.mk q9
  clear ck0
  obtain ⟨⟨t1, t2, t3⟩, ht, h⟩ := Option.bind_eq_some_iff.1 h
  dsimp only at ht h
  have HT := Qa.mk ht
  have HA := Qa.mk h
  clear ht h
  obtain ⟨ad1, he1, kc⟩ := Kd.at_int HCk.out 0 (Int.le_refl 0) HQ9.out
  cases he1
  replace kc : W1.cell? ad1 = some (.int .i64 (rd nd.f1 0)) := by simpa [Addr.add] using kc
  have HKC := Qa.mk kc
  clear kc q9
  have kc := (E2.out.b.cell (World.block_lt_of_cell? W1 _ HKC.out)).trans HKC.out
  have x1 : W2.cell? ⟨gx, 1, none⟩ = some (.slice (some ad1) nd.f1.length ck) := (Qb E2.out.x 1).trans rfl
  have g0 : W2.cell? ⟨gb, 0, none⟩ = some (.slice A0_0 l0_0.length c0_0) := (Qb (Qh HG.out E2.out.b) 0).trans rfl
  have g1 : W2.cell? ⟨gb, 1, none⟩ = some (.slice (some ad) l0_1.length c0_1) := (Qb (Qh HG.out E2.out.b) 1).trans rfl
  have q9i := eq_true HQ9.out
  have q9n : (0 < nd.f1.length) = True := eq_true (by have := HQ9.out; omega)
  go_upto_region 32 with (fail)
  clear b4
  have EW := Qa.mk E2.out.drew
  clear kc x1 g0 g1
  refine start_ (n := 11) (S := fun w' => w'.cell? ⟨gb, 0, none⟩ = some (.slice A0_0 l0_0.length c0_0) ∧ w'.cell? ⟨gb, 1, none⟩ = some (.slice (some ad) l0_1.length c0_1) ∧ w'.cell? ⟨gx, 1, none⟩ = some (.slice (some ad1) nd.f1.length ck) ∧ w'.cell? ad1 = some (.int .i64 (rd nd.f1 0))) (ds := []) #[false, false, false, false, false, false, false, false, false, false, false] (by kernel_rfl) rfl rfl ⟨(Qb (Qh HG.out EW.out.b) 0).trans rfl, (Qb (Qh HG.out EW.out.b) 1).trans rfl, (Qb EW.out.x 1).trans rfl, (EW.out.b.cell (World.block_lt_of_cell? W1 _ HKC.out)).trans HKC.out⟩ (fun hHeld => ?_); refine with_tabW h18_tab32 h18_bits32 (fun HT_ HW_ => ?_)
  generalize W2.drew = W3 at EW hHeld ⊢
  refine pure_ (i := 1) (N := some 136) (v := ?_) (a' := ?_) #[false, true, false, false, false, false, false, false, false, false, false] rfl rfl (any_of HT_.out (by kernel_rfl)) (fun _ _ _ h => h) (Or.inl ⟨by rfl, ?_⟩) ?_ ?_
  rotate_left
  ·
   intro w'
   go_simp
   with_reducible rfl
  rotate_left
  ·
   simp only [Act.put, List.setIfInBounds_toArray, List.set_cons_zero, List.set_cons_succ, i64_w, i32_w]
   rfl
  refine pure_ (i := 5) (N := some 140) (v := ?_) (a' := ?_) #[false, true, false, false, false, true, false, false, false, false, false] rfl rfl (any_of HT_.out (by kernel_rfl)) (fun _ _ _ h => h) (Or.inl ⟨by rfl, ?_⟩) ?_ ?_
  rotate_left
  ·
   intro w'
   go_simp
   with_reducible rfl
  rotate_left
  ·
   simp only [Act.put, List.setIfInBounds_toArray, List.set_cons_zero, List.set_cons_succ, i64_w, i32_w]
   rfl
  refine pure_ (i := 6) (N := some 141) (v := ?_) (a' := ?_) #[false, true, false, false, false, true, true, false, false, false, false] rfl rfl (any_of HT_.out (by kernel_rfl)) (fun _ _ _ h => h) (Or.inl ⟨by rfl, ?_⟩) ?_ ?_
  rotate_left
  ·
   intro w'
   go_simp
   with_reducible rfl
  rotate_left
  ·
   simp only [Act.put, List.setIfInBounds_toArray, List.set_cons_zero, List.set_cons_succ, i64_w, i32_w]
   rfl
  refine pure_ (i := 7) (N := some 142) (v := ?_) (a' := ?_) #[false, true, false, false, false, true, true, true, false, false, false] rfl rfl (any_of HT_.out (by kernel_rfl)) (fun _ _ _ h => h) (Or.inl ⟨by rfl, ?_⟩) ?_ ?_
  rotate_left
  ·
   intro w'
   go_simp
   with_reducible rfl
  rotate_left
  ·
   simp only [Act.put, List.setIfInBounds_toArray, List.set_cons_zero, List.set_cons_succ, i64_w, i32_w]
   rfl
  refine take_ (i := 0) (N := some 135) (v := ?_) (a' := ?_) #[true, true, false, false, false, true, true, true, false, false, false] rfl rfl (take_ofW HT_.out HW_.out (by kernel_rfl)) (fun _ _ _ h => h) (Or.inl ⟨by rfl, ?_⟩) hHeld ?_ ?_
  rotate_left
  ·
   rintro w' ⟨s0, s1, s2, s3⟩
   go_simp
   with_reducible rfl
  rotate_left
  ·
   simp only [Act.put, List.setIfInBounds_toArray, List.set_cons_zero, List.set_cons_succ, i64_w, i32_w]
   rfl
  refine take_ (i := 2) (N := some 137) (v := ?_) (a' := ?_) #[true, true, true, false, false, true, true, true, false, false, false] rfl rfl (take_ofW HT_.out HW_.out (by kernel_rfl)) (fun _ _ _ h => h) (Or.inl ⟨by rfl, ?_⟩) hHeld ?_ ?_
  rotate_left
  ·
   rintro w' ⟨s0, s1, s2, s3⟩
   go_simp
   with_reducible rfl
  rotate_left
  ·
   simp only [Act.put, List.setIfInBounds_toArray, List.set_cons_zero, List.set_cons_succ, i64_w, i32_w]
   rfl
  refine pure_ (i := 3) (N := some 138) (v := ?_) (a' := ?_) #[true, true, true, true, false, true, true, true, false, false, false] rfl rfl (any_of HT_.out (by kernel_rfl)) (fun _ _ _ h => h) (Or.inl ⟨by rfl, ?_⟩) ?_ ?_
  rotate_left
  ·
   intro w'
   go_simp
   with_reducible rfl
  rotate_left
  ·
   simp only [Act.put, List.setIfInBounds_toArray, List.set_cons_zero, List.set_cons_succ, i64_w, i32_w]
   rfl
  refine take_ (i := 4) (N := some 139) (v := ?_) (a' := ?_) #[true, true, true, true, true, true, true, true, false, false, false] rfl rfl (take_ofW HT_.out HW_.out (by kernel_rfl)) (fun _ _ _ h => h) (Or.inl ⟨by rfl, ?_⟩) hHeld ?_ ?_
  rotate_left
  ·
   rintro w' ⟨s0, s1, s2, s3⟩
   go_simp
   with_reducible rfl
  rotate_left
  ·
   simp only [Act.put, List.setIfInBounds_toArray, List.set_cons_zero, List.set_cons_succ, i64_w, i32_w]
   rfl
  refine join_ (σ := Nat) 1 #[true, true, true, true, true, true, true, true, true, true, false] (fun s_ => [(143, .agg #[.bool t1, .int .i64 t2, .int .i64 t3]), (16, .pointer (some ⟨s_, 0, none⟩))]) (fun s_ w' => (w'.cell? ⟨gb, 0, none⟩ = some (.slice A0_0 l0_0.length c0_0) ∧ w'.cell? ⟨gb, 1, none⟩ = some (.slice (some ad) l0_1.length c0_1) ∧ w'.cell? ⟨gx, 1, none⟩ = some (.slice (some ad1) nd.f1.length ck) ∧ w'.cell? ad1 = some (.int .i64 (rd nd.f1 0))) ∧ Env18 W1 gx #[.int .i64 nd.f0, .slice (some ad1) nd.f1.length ck, .int .i64 nd.f2, .int .u64 nd.f3.f0, .int .u64 nd.f3.f1, .int .u64 nd.f3.f2, .int .u64 nd.f3.f3] w' ∧ w'.heap[s_]? = some (.cells #[.bool false, .int .i64 0, .int .i64 0] 31 (0, 0)) ∧ gx ≠ s_ ∧ W1.heap.size ≤ s_) ?_ ?_
  rotate_left
  ·
   intro hCont
   refine two_ (i := 8) (j := 9) (Ni := some 143) (Nj := some 16) #[true, true, true, true, true, true, true, true, true, false, false] #[true, true, true, true, true, true, true, true, false, true, false] rfl rfl rfl rfl (two_of HT_.out (by kernel_rfl)) (by decide) (by decide) (fun K hK => ?_) (fun K hK => ?_)
   ·
    refine goes_ Try.func12 (by kernel_rfl) rfl #[.agg #[.slice A0_0 l0_0.length c0_0, .slice (some ad) l0_1.length c0_1], .int .i64 (rd nd.f1 0), .string a2, .int .i64 a3, .int .i64 u] (by rfl) rfl rfl (by (try simp only [List.map_toArray, List.map_cons, List.map_nil]); first | done | rfl) ?_
    refine (IH.out _ _ l0_0 _ _ l0_1 (rd nd.f1 0) a2 a3 u t1 t2 t3 _ (Kd.Qn HC0.out EW.out.b) hc0_0 (Kd.Qn HC1.out EW.out.b) hc0_1 HT.out).mono ?_
    rintro e_ V1 ⟨rfl, hb⟩
    refine ⟨_, rfl, ?_⟩
    have EV1 := Qa.mk (EW.out.below hb)
    refine hK.out _ _ ⟨(Qb (Qh HG.out EV1.out.b) 0).trans rfl, (Qb (Qh HG.out EV1.out.b) 1).trans rfl, (Qb EV1.out.x 1).trans rfl, (EV1.out.b.cell (World.block_lt_of_cell? W1 _ HKC.out)).trans HKC.out⟩ (fun hHeld => ?_)
    clear hK K
    refine norm_ (a' := ?_) ?_ ?_
    rotate_left
    ·
     show Act.put _ (some 143) _ = _
     simp only [Act.put, List.setIfInBounds_toArray, List.set_cons_zero, List.set_cons_succ, i64_w, i32_w]
     rfl
    refine one_ (i := 9) (N := some 16) #[true, true, true, true, true, true, true, true, true, true, false] rfl rfl (one_of HT_.out (by kernel_rfl)) (by decide) (fun K hK => ?_)
    clear hb
    refine box_step ?hg (N := 16) ?hd (cs := #[.bool false, .int .i64 0, .int .i64 0]) (t := 31) ?hr ?_; (case hd => rfl); (case hg => rfl); (case hr => first | (go_simp; done) | (go_simp; rfl))
    intro gv hg V2 hbox hb
    have HBX : gx ≠ gv ∧ W1.heap.size ≤ gv := by rw [hg]; have := blk_lt EV1.out.x; have := EV1.out.b.size; omega
    have EV2 := Qa.mk (EV1.out.below hb)
    refine hK.out _ _ ⟨(Qb (Qh HG.out EV2.out.b) 0).trans rfl, (Qb (Qh HG.out EV2.out.b) 1).trans rfl, (Qb EV2.out.x 1).trans rfl, (EV2.out.b.cell (World.block_lt_of_cell? W1 _ HKC.out)).trans HKC.out⟩ (fun hHeld => ?_)
    clear hK K
    refine norm_ (a' := ?_) ?_ ?_
    rotate_left
    ·
     show Act.put _ (some 16) _ = _
     simp only [Act.put, List.setIfInBounds_toArray, List.set_cons_zero, List.set_cons_succ, i64_w, i32_w]
     rfl
    exact norm_ (by simp only [putAll, Act.put, List.setIfInBounds_toArray, List.set_cons_zero, List.set_cons_succ]) (hCont gv _ ⟨hHeld, EV2.out, hbox, HBX.1, HBX.2⟩)
   ·
    refine box_step ?hg (N := 16) ?hd (cs := #[.bool false, .int .i64 0, .int .i64 0]) (t := 31) ?hr ?_; (case hd => rfl); (case hg => rfl); (case hr => first | (go_simp; done) | (go_simp; rfl))
    intro gv hg V1 hbox hb
    have HBX : gx ≠ gv ∧ W1.heap.size ≤ gv := by rw [hg]; have := blk_lt EW.out.x; have := EW.out.b.size; omega
    have EV1 := Qa.mk (EW.out.below hb)
    have BX := Qa.mk hbox
    have HBX := Qa.mk HBX
    clear hbox hb hg
    refine hK.out _ _ ⟨(Qb (Qh HG.out EV1.out.b) 0).trans rfl, (Qb (Qh HG.out EV1.out.b) 1).trans rfl, (Qb EV1.out.x 1).trans rfl, (EV1.out.b.cell (World.block_lt_of_cell? W1 _ HKC.out)).trans HKC.out⟩ (fun hHeld => ?_)
    clear hK K
    refine norm_ (a' := ?_) ?_ ?_
    rotate_left
    ·
     show Act.put _ (some 16) _ = _
     simp only [Act.put, List.setIfInBounds_toArray, List.set_cons_zero, List.set_cons_succ, i64_w, i32_w]
     rfl
    refine one_ (i := 8) (N := some 143) #[true, true, true, true, true, true, true, true, true, true, false] rfl rfl (one_of HT_.out (by kernel_rfl)) (by decide) (fun K hK => ?_)
    refine goes_ Try.func12 (by kernel_rfl) rfl #[.agg #[.slice A0_0 l0_0.length c0_0, .slice (some ad) l0_1.length c0_1], .int .i64 (rd nd.f1 0), .string a2, .int .i64 a3, .int .i64 u] (by rfl) rfl rfl (by (try simp only [List.map_toArray, List.map_cons, List.map_nil]); first | done | rfl) ?_
    refine (IH.out _ _ l0_0 _ _ l0_1 (rd nd.f1 0) a2 a3 u t1 t2 t3 _ (Kd.Qn HC0.out EV1.out.b) hc0_0 (Kd.Qn HC1.out EV1.out.b) hc0_1 HT.out).mono ?_
    rintro e_ V2 ⟨rfl, hb⟩
    refine ⟨_, rfl, ?_⟩
    have EV2 := Qa.mk (EV1.out.below hb)
    refine hK.out _ _ ⟨(Qb (Qh HG.out EV2.out.b) 0).trans rfl, (Qb (Qh HG.out EV2.out.b) 1).trans rfl, (Qb EV2.out.x 1).trans rfl, (EV2.out.b.cell (World.block_lt_of_cell? W1 _ HKC.out)).trans HKC.out⟩ (fun hHeld => ?_)
    clear hK K
    refine norm_ (a' := ?_) ?_ ?_
    rotate_left
    ·
     show Act.put _ (some 143) _ = _
     simp only [Act.put, List.setIfInBounds_toArray, List.set_cons_zero, List.set_cons_succ, i64_w, i32_w]
     rfl
    exact norm_ (by simp only [putAll, Act.put, List.setIfInBounds_toArray, List.set_cons_zero, List.set_cons_succ]) (hCont gv _ ⟨hHeld, EV2.out, Qh BX.out hb, HBX.out.1, HBX.out.2⟩)
  rintro gv V3 ⟨hHeld, hE_, hB_, hn_, hg_⟩
  have EV3 := Qa.mk hE_
  have BV3 := Qa.mk hB_
  have HV : Qa (gx ≠ gv ∧ W1.heap.size ≤ gv ∧ gr ≠ gv) := ⟨hn_, hg_, by have := hnd.out; omega⟩
  clear hE_ hB_ hn_ hg_
  refine norm_ (a' := ?_) ?_ ?_
  rotate_left
  ·
   simp only [putAll, Act.put, List.setIfInBounds_toArray, List.set_cons_zero, List.set_cons_succ]
   rfl
  refine one_ (i := 10) (N := none) #[true, true, true, true, true, true, true, true, true, true, true] rfl rfl (one_of HT_.out (by kernel_rfl)) (by decide) (fun K hK => ?_)
  have v0 : V3.cell? ⟨gv, 0, none⟩ = some (.bool false) := (Qb BV3.out 0).trans rfl
  have y0 : V3.frozen? ⟨gv, 0, none⟩ = false := Qc BV3.out 0
  have v1 : V3.cell? ⟨gv, 1, none⟩ = some (.int .i64 0) := (Qb BV3.out 1).trans rfl
  have y1 : V3.frozen? ⟨gv, 1, none⟩ = false := Qc BV3.out 1
  have v2 : V3.cell? ⟨gv, 2, none⟩ = some (.int .i64 0) := (Qb BV3.out 2).trans rfl
  have y2 : V3.frozen? ⟨gv, 2, none⟩ = false := Qc BV3.out 2
  refine skip_ (w1 := ?_) (by rfl) rfl ?_ ?_
  rotate_left
  ·
   go_simp
   rfl
  have EV := Qa.mk (EV3.out.put3 HV.out.2.1 HV.out.1 (.bool t1) (.int .i64 t2) (.int .i64 t3))
  have BV := Qa.mk (h18_blk3 BV3.out (.bool t1) (.int .i64 t2) (.int .i64 t3))
  refine hK.out _ _ ⟨(Qb (Qh HG.out EV.out.b) 0).trans rfl, (Qb (Qh HG.out EV.out.b) 1).trans rfl, (Qb EV.out.x 1).trans rfl, (EV.out.b.cell (World.block_lt_of_cell? W1 _ HKC.out)).trans HKC.out⟩ (fun hHeld => ?_)
  clear hK K
  refine done_ (done_of HT_.out (by kernel_rfl)) ?_
  clear hHeld v0 v1 v2 y0 y1 y2
  generalize (((V3.setCell ⟨gv, 0, none⟩ (.bool t1)).setCell ⟨gv, 1, none⟩ (.int .i64 t2)).setCell ⟨gv, 2, none⟩ (.int .i64 t3)) = V0 at EV BV ⊢
  clear EV3 BV3
  have v0 : V0.cell? ⟨gv, 0, none⟩ = some (.bool t1) := (Qb BV.out 0).trans rfl
  have v1 : V0.cell? ⟨gv, 1, none⟩ = some (.int .i64 t2) := (Qb BV.out 1).trans rfl
  have v2 : V0.cell? ⟨gv, 2, none⟩ = some (.int .i64 t3) := (Qb BV.out 2).trans rfl
  go_upto_region 33 with (fail)
  clear v0 v1 v2
  have h := HA.out
  clear HA
  cases t1 with
  | false =>
    rw [if_pos rfl] at h
    simp only [Option.some.injEq, Prod.mk.injEq] at h
    obtain ⟨rfl, rfl, rfl⟩ := h
    have v0 : V0.cell? ⟨gv, 0, none⟩ = some (.bool false) := (Qb BV.out 0).trans rfl
    have v1 : V0.cell? ⟨gv, 1, none⟩ = some (.int .i64 t2) := (Qb BV.out 1).trans rfl
    have v2 : V0.cell? ⟨gv, 2, none⟩ = some (.int .i64 t3) := (Qb BV.out 2).trans rfl
    have rr0 : V0.cell? ⟨gr, 0, none⟩ = some (.bool false) := (Qb (Qh HR.out EV.out.b) 0).trans rfl
    have z0 : V0.frozen? ⟨gr, 0, none⟩ = false := Qc (Qh HR.out EV.out.b) 0
    have rr1 : V0.cell? ⟨gr, 1, none⟩ = some (.int .i64 0) := (Qb (Qh HR.out EV.out.b) 1).trans rfl
    have z1 : V0.frozen? ⟨gr, 1, none⟩ = false := Qc (Qh HR.out EV.out.b) 1
    have rr2 : V0.cell? ⟨gr, 2, none⟩ = some (.int .i64 0) := (Qb (Qh HR.out EV.out.b) 2).trans rfl
    have z2 : V0.frozen? ⟨gr, 2, none⟩ = false := Qc (Qh HR.out EV.out.b) 2
    go_wp2
    refine bodyPost_ret (results_cell_row rfl _ _ gr 31 #[.bool false, .int .i64 t2, .int .i64 t3] (0, 0) _ rfl (h18_blk3 (Qh HR.out EV.out.b) _ _ _) Try.underlying31 rfl (by kernel_rfl)) rfl ⟨rfl, h18_below3 (Qm HB.out EV.out.b) (by have := HGB.out; have := HGR.out; omega) _ _ _⟩
  | true =>
    rw [if_neg (by decide)] at h
    have v0 : V0.cell? ⟨gv, 0, none⟩ = some (.bool true) := (Qb BV.out 0).trans rfl
    have v1 : V0.cell? ⟨gv, 1, none⟩ = some (.int .i64 t2) := (Qb BV.out 1).trans rfl
    have v2 : V0.cell? ⟨gv, 2, none⟩ = some (.int .i64 t3) := (Qb BV.out 2).trans rfl
    have x0 : V0.cell? ⟨gx, 0, none⟩ = some (.int .i64 nd.f0) := (Qb EV.out.x 0).trans rfl
    go_upto_region 36 with (fail)
    have c7 : ¬ nd.f0 = 7 := by have := HS.out; omega
    rw [if_neg c7] at h
    have b7 : (nd.f0 == 7) = false := beq_eq_false_iff_ne.2 c7
    clear c7
    go_upto_region 40 with (fail)
    clear b7
    have c8 : ¬ nd.f0 = 8 := by have := HS.out; omega
    rw [if_neg c8] at h
    have b8 : (nd.f0 == 8) = false := beq_eq_false_iff_ne.2 c8
    clear c8
    go_upto_region 44 with (fail)
    clear b8
    have c9 : ¬ nd.f0 = 9 := by have := HS.out; omega
    rw [if_neg c9] at h
    have b9 : (nd.f0 == 9) = false := beq_eq_false_iff_ne.2 c9
    clear c9
    go_upto_region 48 with (fail)
    clear b9
    by_cases c6 : t2 < 0 ∧ nd.f0 = 6
    · rw [if_pos c6] at h
      simp only [Option.some.injEq, Prod.mk.injEq] at h
      obtain ⟨rfl, rfl, rfl⟩ := h
      have ctb : decide (t2 < 0) = true := decide_eq_true c6.1
      have b6 : (nd.f0 == 6) = true := beq_iff_eq.2 c6.2
      clear c6
      have rr0 : V0.cell? ⟨gr, 0, none⟩ = some (.bool false) := (Qb (Qh HR.out EV.out.b) 0).trans rfl
      have z0 : V0.frozen? ⟨gr, 0, none⟩ = false := Qc (Qh HR.out EV.out.b) 0
      have rr1 : V0.cell? ⟨gr, 1, none⟩ = some (.int .i64 0) := (Qb (Qh HR.out EV.out.b) 1).trans rfl
      have z1 : V0.frozen? ⟨gr, 1, none⟩ = false := Qc (Qh HR.out EV.out.b) 1
      have rr2 : V0.cell? ⟨gr, 2, none⟩ = some (.int .i64 0) := (Qb (Qh HR.out EV.out.b) 2).trans rfl
      have z2 : V0.frozen? ⟨gr, 2, none⟩ = false := Qc (Qh HR.out EV.out.b) 2
      go_wp2
      refine bodyPost_ret (results_cell_row rfl _ _ gr 31 #[.bool true, .int .i64 t2, .int .i64 t3] (0, 0) _ rfl (h18_blk3 (Qh HR.out EV.out.b) _ _ _) Try.underlying31 rfl (by kernel_rfl)) rfl ⟨rfl, h18_below3 (Qm HB.out EV.out.b) (by have := HGB.out; have := HGR.out; omega) _ _ _⟩
    rw [if_neg c6] at h
    go_cut [189] (fun v189 wc => v189 = .bool false ∧ Qa (Env18 W1 gx #[.int .i64 nd.f0, .slice (some ad1) nd.f1.length ck, .int .i64 nd.f2, .int .u64 nd.f3.f0, .int .u64 nd.f3.f1, .int .u64 nd.f3.f2, .int .u64 nd.f3.f3] wc) ∧ Qa (wc.heap[gv]? = some (.cells #[.bool true, .int .i64 t2, .int .i64 t3] 31 (0, 0))))
    case first =>
     by_cases ct : t2 < 0
     · have ctb : decide (t2 < 0) = true := decide_eq_true ct
       have b6 : (nd.f0 == 6) = false := beq_eq_false_iff_ne.2 (fun x => c6 ⟨ct, x⟩)
       clear ct c6
       go_wp2
       go_meet
       exact ⟨rfl, EV, BV⟩
     · have ctb : decide (t2 < 0) = false := decide_eq_false ct
       clear ct c6
       go_wp2
       go_meet
       exact ⟨rfl, EV, BV⟩
    case rest =>
     clear EV BV v0 v1 v2 x0 c6
     obtain ⟨rfl, EV, BV⟩ := hcut
     go_upto_block 6 with fail
     go_wp2
     go_loopg [17] k (fun kq v17 w' => ∃ (la : Int) (q1 : Bool) (q2 q3 : Int), v17 = .int .i64 la ∧ Qa (Qp.repF (fun a u => Qp.f k l0_0 l0_1 (rd nd.f1 0) a2 a u) kq la (q1, q2, q3) = some (r1, r2, r3)) ∧ Qa (Env18 W1 gx #[.int .i64 nd.f0, .slice (some ad1) nd.f1.length ck, .int .i64 nd.f2, .int .u64 nd.f3.f0, .int .u64 nd.f3.f1, .int .u64 nd.f3.f2, .int .u64 nd.f3.f3] w') ∧ Qa (w'.heap[gv]? = some (.cells #[.bool q1, .int .i64 q2, .int .i64 q3] 31 (0, 0))))
     case atStart => exact ⟨a3, true, t2, t3, rfl, ⟨h⟩, EV, BV⟩
     case round =>
      clear h EV BV E2 HT
      obtain ⟨la, q1, q2, q3, rfl, HA, E, BV⟩ := hrel
      have h := HA.out
      clear HA
      cases gk with
      | zero => exact absurd h (by simp [Qp.repF])
      | succ k1 =>
       rw [Qp.repF] at h
       have v0 : wr.cell? ⟨gv, 0, none⟩ = some (.bool q1) := (Qb BV.out 0).trans rfl
       have v1 : wr.cell? ⟨gv, 1, none⟩ = some (.int .i64 q2) := (Qb BV.out 1).trans rfl
       have v2 : wr.cell? ⟨gv, 2, none⟩ = some (.int .i64 q3) := (Qb BV.out 2).trans rfl
       cases q1 with
       | false =>
         rw [if_neg (by simp), if_neg (by simp)] at h
         simp only [Option.some.injEq, Prod.mk.injEq] at h
         obtain ⟨rfl, rfl, rfl⟩ := h
         have rr0 : wr.cell? ⟨gr, 0, none⟩ = some (.bool false) := (Qb (Qh HR.out E.out.b) 0).trans rfl
         have z0 : wr.frozen? ⟨gr, 0, none⟩ = false := Qc (Qh HR.out E.out.b) 0
         have rr1 : wr.cell? ⟨gr, 1, none⟩ = some (.int .i64 0) := (Qb (Qh HR.out E.out.b) 1).trans rfl
         have z1 : wr.frozen? ⟨gr, 1, none⟩ = false := Qc (Qh HR.out E.out.b) 1
         have rr2 : wr.cell? ⟨gr, 2, none⟩ = some (.int .i64 0) := (Qb (Qh HR.out E.out.b) 2).trans rfl
         have z2 : wr.frozen? ⟨gr, 2, none⟩ = false := Qc (Qh HR.out E.out.b) 2
         go_wp2
         refine bodyPost_ret (results_cell_row rfl _ _ gr 31 #[.bool false, .int .i64 q2, .int .i64 q3] (0, 0) _ rfl (h18_blk3 (Qh HR.out E.out.b) _ _ _) Try.underlying31 rfl (by kernel_rfl)) rfl ⟨rfl, h18_below3 (Qm HB.out E.out.b) (by have := HGB.out; have := HGR.out; omega) _ _ _⟩
       | true =>
         by_cases cq : 0 ≤ q2
         · rw [if_pos ⟨rfl, cq⟩] at h
           obtain ⟨⟨t1, t2, t3⟩, ht, h⟩ := Option.bind_eq_some_iff.1 h
           dsimp only at ht h
           have HT := Qa.mk ht
           have HA := Qa.mk h
           clear ht h
           have cqb : decide (q2 ≥ 0) = true := decide_eq_true cq
           clear cq
           have kc := (E.out.b.cell (World.block_lt_of_cell? W1 _ HKC.out)).trans HKC.out
           have x1 : wr.cell? ⟨gx, 1, none⟩ = some (.slice (some ad1) nd.f1.length ck) := (Qb E.out.x 1).trans rfl
           have g0 : wr.cell? ⟨gb, 0, none⟩ = some (.slice A0_0 l0_0.length c0_0) := (Qb (Qh HG.out E.out.b) 0).trans rfl
           have g1 : wr.cell? ⟨gb, 1, none⟩ = some (.slice (some ad) l0_1.length c0_1) := (Qb (Qh HG.out E.out.b) 1).trans rfl
           have q9i := eq_true HQ9.out
           have q9n : (0 < nd.f1.length) = True := eq_true (by have := HQ9.out; omega)
           go_upto_region 53 with (fail)
           go_still_tail 9, (by kernel_rfl)
           change wpList _ _ _ _ _ wr.drew
           go_wp2_with (
             go_at_call 12
             refine (IH.out _ _ l0_0 _ _ l0_1 (rd nd.f1 0) a2 (q2) (q3) t1 t2 t3 _ (Kd.Qn HC0.out E.out.drew.b) hc0_0 (Kd.Qn HC1.out E.out.drew.b) hc0_1 HT.out).mono ?_
             rintro e_ W3 ⟨rfl, hb_⟩
             have E3 := Qa.mk (E.out.drew.below hb_)
             have BV3 := Qa.mk (Qh (Qj BV.out) hb_)
             clear hb_ kc x1 v0 v1 v2 g0 g1 cqb q9i q9n
             have v0 : W3.cell? ⟨gv, 0, none⟩ = some (.bool true) := (Qb BV3.out 0).trans rfl
             have y0 : W3.frozen? ⟨gv, 0, none⟩ = false := Qc BV3.out 0
             have v1 : W3.cell? ⟨gv, 1, none⟩ = some (.int .i64 q2) := (Qb BV3.out 1).trans rfl
             have y1 : W3.frozen? ⟨gv, 1, none⟩ = false := Qc BV3.out 1
             have v2 : W3.cell? ⟨gv, 2, none⟩ = some (.int .i64 q3) := (Qb BV3.out 2).trans rfl
             have y2 : W3.frozen? ⟨gv, 2, none⟩ = false := Qc BV3.out 2)
           go_roundg k1
           case measure => omega
           case rel => exact ⟨q2, t1, t2, t3, rfl, HA, ⟨E3.out.put3 HV.out.2.1 HV.out.1 _ _ _⟩, ⟨h18_blk3 BV3.out _ _ _⟩⟩
         · rw [if_neg (fun x => cq x.2), if_pos rfl] at h
           simp only [Option.some.injEq, Prod.mk.injEq] at h
           obtain ⟨rfl, rfl, rfl⟩ := h
           have cqb : decide (q2 ≥ 0) = false := decide_eq_false cq
           clear cq
           have rr0 : wr.cell? ⟨gr, 0, none⟩ = some (.bool false) := (Qb (Qh HR.out E.out.b) 0).trans rfl
           have z0 : wr.frozen? ⟨gr, 0, none⟩ = false := Qc (Qh HR.out E.out.b) 0
           have rr1 : wr.cell? ⟨gr, 1, none⟩ = some (.int .i64 0) := (Qb (Qh HR.out E.out.b) 1).trans rfl
           have z1 : wr.frozen? ⟨gr, 1, none⟩ = false := Qc (Qh HR.out E.out.b) 1
           have rr2 : wr.cell? ⟨gr, 2, none⟩ = some (.int .i64 0) := (Qb (Qh HR.out E.out.b) 2).trans rfl
           have z2 : wr.frozen? ⟨gr, 2, none⟩ = false := Qc (Qh HR.out E.out.b) 2
           go_wp2
           refine bodyPost_ret (results_cell_row rfl _ _ gr 31 #[.bool true, .int .i64 la, .int .i64 q3] (0, 0) _ rfl (h18_blk3 (Qh HR.out E.out.b) _ _ _) Try.underlying31 rfl (by kernel_rfl)) rfl ⟨rfl, h18_below3 (Qm HB.out E.out.b) (by have := HGB.out; have := HGR.out; omega) _ _ _⟩
end Go.Proofs.Ythgedejnpgcacaa.V
namespace Go.Proofs.Ythgedejnpgcacaa.V
open Go.RowKit Go.Proofs.YthgedejnpgcacaaW.PrintWords Go.Proofs.YthgedejnpgcacaaW.PrintLast Go.Proofs.YthgedejnpgcacaaW.PrintMore
set_option linter.unusedVariables false
set_option linter.unusedSimpArgs false
set_option maxHeartbeats 4000000 in
set_option maxRecDepth 100000 in
theorem Qp.calls_s7 (k : Nat) (ih : ∀ (A0_0 : Option Addr) (c0_0 : Nat) (l0_0 : List S51) (A0_1 : Option Addr) (c0_1 : Nat) (l0_1 : List S56) (a1 : Int) (a2 : ByteArray) (a3 a4 : Int) (r1 : Bool) (r2 r3 : Int) (w : World)
    (hr0_0 : Kd.C k51 w A0_0 l0_0.length l0_0) (hc0_0 : l0_0.length ≤ c0_0) (hr0_1 : Kd.C k56 w A0_1 l0_1.length l0_1) (hc0_1 : l0_1.length ≤ c0_1) (h : Qp.f k l0_0 l0_1 a1 a2 a3 a4 = some (r1, r2, r3)), Calls Try.prog 12 #[.agg #[.slice A0_0 l0_0.length c0_0, .slice A0_1 l0_1.length c0_1], .int .i64 a1, .string a2, .int .i64 a3, .int .i64 a4] w fun e w' => e = .returned (.agg #[.bool r1, .int .i64 r2, .int .i64 r3]) ∧ Below w.heap.size w w')
    (A0_0 : Option Addr) (c0_0 : Nat) (l0_0 : List S51) (A0_1 : Option Addr) (c0_1 : Nat) (l0_1 : List S56) (a1 : Int) (a2 : ByteArray) (a3 a4 : Int) (r1 : Bool) (r2 r3 : Int) (w : World)
    (hr0_0 : Kd.C k51 w A0_0 l0_0.length l0_0) (hc0_0 : l0_0.length ≤ c0_0) (hr0_1 : Kd.C k56 w A0_1 l0_1.length l0_1) (hc0_1 : l0_1.length ≤ c0_1) (hs : Qa (¬ a4 < 1 ∧ (0 ≤ a1 ∧ a1 < (l0_1.length : Int)) ∧ (Ql l0_1 a1).f0 = 7)) (h : Qp.f (k + 1) l0_0 l0_1 a1 a2 a3 a4 = some (r1, r2, r3)) :
    Calls Try.prog 12 #[.agg #[.slice A0_0 l0_0.length c0_0, .slice A0_1 l0_1.length c0_1], .int .i64 a1, .string a2, .int .i64 a3, .int .i64 a4] w fun e w' => e = .returned (.agg #[.bool r1, .int .i64 r2, .int .i64 r3]) ∧ Below w.heap.size w w' := by
  rw [Qp.f] at h
  have IH := Qa.mk ih
  clear ih
  have hu25 := Try.underlying25
  have hu31 := Try.underlying31
  have hu56 := Try.underlying56
  have hu51 := Try.underlying51
  have hu54 := Try.underlying54
  have HB := Qa.mk (Qd (Qd (Below.refl w.heap.size w) (.cells #[.slice A0_0 l0_0.length c0_0, .slice A0_1 l0_1.length c0_1] 25)) (.cells #[.bool false, .int .i64 0, .int .i64 0] 31))
  have HG := Qa.mk (Qi (Qf1 w (.cells #[.slice A0_0 l0_0.length c0_0, .slice A0_1 l0_1.length c0_1] 25)) (.cells #[.bool false, .int .i64 0, .int .i64 0] 31))
  have HR := Qa.mk (Qf1 (w.alloc (.cells #[.slice A0_0 l0_0.length c0_0, .slice A0_1 l0_1.length c0_1] 25)) (.cells #[.bool false, .int .i64 0, .int .i64 0] 31))
  have hsz : ((w.alloc (.cells #[.slice A0_0 l0_0.length c0_0, .slice A0_1 l0_1.length c0_1] 25)).alloc (.cells #[.bool false, .int .i64 0, .int .i64 0] 31)).heap.size = w.heap.size + 1 + 1 := by rw [h18_size, h18_size]
  rw [h18_size] at HR
  have HC0 := Qa.mk (Kd.Qn hr0_0 HB.out)
  have HC1 := Qa.mk (Kd.Qn hr0_1 HB.out)
  have HW := Qa.mk hsz
  clear hr0_0 hr0_1 hsz
  rw [if_neg hs.out.1, if_pos hs.out.2.1] at h
  have c4b : decide (a4 < 1) = false := decide_eq_false hs.out.1
  have H := Qa.mk h
  clear h
  go_enter Try.func12, Try.ntmps12
  go_upto_region 1 with (fail)
  generalize ((w.alloc (.cells #[.slice A0_0 l0_0.length c0_0, .slice A0_1 l0_1.length c0_1] 25)).alloc (.cells #[.bool false, .int .i64 0, .int .i64 0] 31)) = W1 at HB HG HR HC0 HC1 HW ⊢
  obtain ⟨gb, hgb⟩ : ∃ gb, gb = w.heap.size := ⟨_, rfl⟩
  obtain ⟨gr, hgr⟩ : ∃ gr, gr = gb + 1 := ⟨_, rfl⟩
  rw [← hgb] at HW HG HR ⊢
  rw [← hgr] at HR ⊢
  have HGB := Qa.mk hgb
  have HGR := Qa.mk hgr
  clear hgb hgr
  go_upto_region 4 with (fail)
  clear c4b
  have g1 : W1.cell? ⟨gb, 1, none⟩ = some (.slice A0_1 l0_1.length c0_1) := (Qb HG.out 1).trans rfl
  have p2 := hs.out.2.1.1
  have p3 := hs.out.2.1.2
  obtain ⟨ad, Ak, ck, e, k0, k1, k2, k3, k4, k5, k6, hlk, hCk⟩ := at_T56 HC1.out a1 p2 p3
  cases e
  have HCk := Qa.mk hCk
  have HLk := Qa.mk hlk
  clear hCk hlk
  replace p2 := eq_true p2
  replace p3 := eq_true p3
  go_upto_region 5 with (fail)
  have HS := Qa.mk hs.out.2.2
  clear hs
  generalize Ql l0_1 a1 = nd at *
  obtain ⟨gx, hgx⟩ : ∃ gx, gx = W1.heap.size := ⟨_, rfl⟩
  have E2 : Qa (Env18 W1 gx #[.int .i64 nd.f0, .slice Ak nd.f1.length ck, .int .i64 nd.f2, .int .u64 nd.f3.f0, .int .u64 nd.f3.f1, .int .u64 nd.f3.f2, .int .u64 nd.f3.f3] (W1.alloc (.cells #[.int .i64 nd.f0, .slice Ak nd.f1.length ck, .int .i64 nd.f2, .int .u64 nd.f3.f0, .int .u64 nd.f3.f1, .int .u64 nd.f3.f2, .int .u64 nd.f3.f3] 56))) := ⟨by rw [hgx]; exact Qf1 W1 (.cells #[.int .i64 nd.f0, .slice Ak nd.f1.length ck, .int .i64 nd.f2, .int .u64 nd.f3.f0, .int .u64 nd.f3.f1, .int .u64 nd.f3.f2, .int .u64 nd.f3.f3] 56), Qd (Below.refl _ _) _⟩
  have HGX := Qa.mk hgx
  rw [← hgx]
  generalize W1.alloc (.cells #[.int .i64 nd.f0, .slice Ak nd.f1.length ck, .int .i64 nd.f2, .int .u64 nd.f3.f0, .int .u64 nd.f3.f1, .int .u64 nd.f3.f2, .int .u64 nd.f3.f3] 56) = W2 at E2 ⊢
  clear k0 k1 k2 k3 k4 k5 k6 g1 hgx p2 p3
  have h := H.out
  clear H
  have hnd : Qa (gb < W1.heap.size ∧ gr < W1.heap.size) := ⟨by have := HW.out; have := HGR.out; omega⟩
  generalize wrap64 (a4 - 1) = u at *
  have x0 : W2.cell? ⟨gx, 0, none⟩ = some (.int .i64 nd.f0) := (Qb E2.out.x 0).trans rfl
  go_upto_region 6 with (fail)
  clear x0
  have c0 : ¬ nd.f0 = 0 := by have := HS.out; omega
  rw [if_neg c0] at h
  have b0 : (nd.f0 == 0) = false := beq_eq_false_iff_ne.2 c0
  clear c0
  go_upto_region 8 with (fail)
  clear b0
  have c1 : ¬ nd.f0 = 1 := by have := HS.out; omega
  rw [if_neg c1] at h
  have b1 : (nd.f0 == 1) = false := beq_eq_false_iff_ne.2 c1
  clear c1
  go_upto_region 12 with (fail)
  clear b1
  have c2 : ¬ nd.f0 = 2 := by have := HS.out; omega
  rw [if_neg c2] at h
  have b2 : (nd.f0 == 2) = false := beq_eq_false_iff_ne.2 c2
  clear c2
  go_upto_region 14 with (fail)
  clear b2
  have c3 : ¬ nd.f0 = 3 := by have := HS.out; omega
  rw [if_neg c3] at h
  have b3 : (nd.f0 == 3) = false := beq_eq_false_iff_ne.2 c3
  clear c3
  go_upto_region 23 with (fail)
  clear b3
  have c4 : ¬ nd.f0 = 4 := by have := HS.out; omega
  rw [if_neg c4] at h
  have b4 : (nd.f0 == 4) = false := beq_eq_false_iff_ne.2 c4
  clear c4
  by_cases ck0 : nd.f1 = []
  · rw [if_pos ck0] at h
    exact absurd h (by simp)
  rw [if_neg ck0] at h
  have q9 := h18_mem nd.f1 ck0
  have HQ9 := Qa.mk q9
  clear ck0
  obtain ⟨⟨t1, t2, t3⟩, ht, h⟩ := Option.bind_eq_some_iff.1 h
  dsimp only at ht h
  have HT := Qa.mk ht
  have HA := Qa.mk h
  clear ht h
  obtain ⟨ad1, he1, kc⟩ := Kd.at_int HCk.out 0 (Int.le_refl 0) HQ9.out
  cases he1
  replace kc : W1.cell? ad1 = some (.int .i64 (rd nd.f1 0)) := by simpa [Addr.add] using kc
  have HKC := Qa.mk kc
  clear kc q9
  have kc := (E2.out.b.cell (World.block_lt_of_cell? W1 _ HKC.out)).trans HKC.out
  have x1 : W2.cell? ⟨gx, 1, none⟩ = some (.slice (some ad1) nd.f1.length ck) := (Qb E2.out.x 1).trans rfl
  have g0 : W2.cell? ⟨gb, 0, none⟩ = some (.slice A0_0 l0_0.length c0_0) := (Qb (Qh HG.out E2.out.b) 0).trans rfl
  have g1 : W2.cell? ⟨gb, 1, none⟩ = some (.slice (some ad) l0_1.length c0_1) := (Qb (Qh HG.out E2.out.b) 1).trans rfl
  have q9i := eq_true HQ9.out
  have q9n : (0 < nd.f1.length) = True := eq_true (by have := HQ9.out; omega)
  go_upto_region 32 with (fail)
  clear b4
  have EW := Qa.mk E2.out.drew
  clear kc x1 g0 g1
  refine start_ (n := 11) (S := fun w' => w'.cell? ⟨gb, 0, none⟩ = some (.slice A0_0 l0_0.length c0_0) ∧ w'.cell? ⟨gb, 1, none⟩ = some (.slice (some ad) l0_1.length c0_1) ∧ w'.cell? ⟨gx, 1, none⟩ = some (.slice (some ad1) nd.f1.length ck) ∧ w'.cell? ad1 = some (.int .i64 (rd nd.f1 0))) (ds := []) #[false, false, false, false, false, false, false, false, false, false, false] (by kernel_rfl) rfl rfl ⟨(Qb (Qh HG.out EW.out.b) 0).trans rfl, (Qb (Qh HG.out EW.out.b) 1).trans rfl, (Qb EW.out.x 1).trans rfl, (EW.out.b.cell (World.block_lt_of_cell? W1 _ HKC.out)).trans HKC.out⟩ (fun hHeld => ?_); refine with_tabW h18_tab32 h18_bits32 (fun HT_ HW_ => ?_)
  generalize W2.drew = W3 at EW hHeld ⊢
  refine pure_ (i := 1) (N := some 136) (v := ?_) (a' := ?_) #[false, true, false, false, false, false, false, false, false, false, false] rfl rfl (any_of HT_.out (by kernel_rfl)) (fun _ _ _ h => h) (Or.inl ⟨by rfl, ?_⟩) ?_ ?_
  rotate_left
  ·
   intro w'
   go_simp
   with_reducible rfl
  rotate_left
  ·
   simp only [Act.put, List.setIfInBounds_toArray, List.set_cons_zero, List.set_cons_succ, i64_w, i32_w]
   rfl
  refine pure_ (i := 5) (N := some 140) (v := ?_) (a' := ?_) #[false, true, false, false, false, true, false, false, false, false, false] rfl rfl (any_of HT_.out (by kernel_rfl)) (fun _ _ _ h => h) (Or.inl ⟨by rfl, ?_⟩) ?_ ?_
  rotate_left
  ·
   intro w'
   go_simp
   with_reducible rfl
  rotate_left
  ·
   simp only [Act.put, List.setIfInBounds_toArray, List.set_cons_zero, List.set_cons_succ, i64_w, i32_w]
   rfl
  refine pure_ (i := 6) (N := some 141) (v := ?_) (a' := ?_) #[false, true, false, false, false, true, true, false, false, false, false] rfl rfl (any_of HT_.out (by kernel_rfl)) (fun _ _ _ h => h) (Or.inl ⟨by rfl, ?_⟩) ?_ ?_
  rotate_left
  ·
   intro w'
   go_simp
   with_reducible rfl
  rotate_left
  ·
   simp only [Act.put, List.setIfInBounds_toArray, List.set_cons_zero, List.set_cons_succ, i64_w, i32_w]
   rfl
  refine pure_ (i := 7) (N := some 142) (v := ?_) (a' := ?_) #[false, true, false, false, false, true, true, true, false, false, false] rfl rfl (any_of HT_.out (by kernel_rfl)) (fun _ _ _ h => h) (Or.inl ⟨by rfl, ?_⟩) ?_ ?_
  rotate_left
  ·
   intro w'
   go_simp
   with_reducible rfl
  rotate_left
  ·
   simp only [Act.put, List.setIfInBounds_toArray, List.set_cons_zero, List.set_cons_succ, i64_w, i32_w]
   rfl
  refine take_ (i := 0) (N := some 135) (v := ?_) (a' := ?_) #[true, true, false, false, false, true, true, true, false, false, false] rfl rfl (take_ofW HT_.out HW_.out (by kernel_rfl)) (fun _ _ _ h => h) (Or.inl ⟨by rfl, ?_⟩) hHeld ?_ ?_
  rotate_left
  ·
   rintro w' ⟨s0, s1, s2, s3⟩
   go_simp
   with_reducible rfl
  rotate_left
  ·
   simp only [Act.put, List.setIfInBounds_toArray, List.set_cons_zero, List.set_cons_succ, i64_w, i32_w]
   rfl
  refine take_ (i := 2) (N := some 137) (v := ?_) (a' := ?_) #[true, true, true, false, false, true, true, true, false, false, false] rfl rfl (take_ofW HT_.out HW_.out (by kernel_rfl)) (fun _ _ _ h => h) (Or.inl ⟨by rfl, ?_⟩) hHeld ?_ ?_
  rotate_left
  ·
   rintro w' ⟨s0, s1, s2, s3⟩
   go_simp
   with_reducible rfl
  rotate_left
  ·
   simp only [Act.put, List.setIfInBounds_toArray, List.set_cons_zero, List.set_cons_succ, i64_w, i32_w]
   rfl
  refine pure_ (i := 3) (N := some 138) (v := ?_) (a' := ?_) #[true, true, true, true, false, true, true, true, false, false, false] rfl rfl (any_of HT_.out (by kernel_rfl)) (fun _ _ _ h => h) (Or.inl ⟨by rfl, ?_⟩) ?_ ?_
  rotate_left
  ·
   intro w'
   go_simp
   with_reducible rfl
  rotate_left
  ·
   simp only [Act.put, List.setIfInBounds_toArray, List.set_cons_zero, List.set_cons_succ, i64_w, i32_w]
   rfl
  refine take_ (i := 4) (N := some 139) (v := ?_) (a' := ?_) #[true, true, true, true, true, true, true, true, false, false, false] rfl rfl (take_ofW HT_.out HW_.out (by kernel_rfl)) (fun _ _ _ h => h) (Or.inl ⟨by rfl, ?_⟩) hHeld ?_ ?_
  rotate_left
  ·
   rintro w' ⟨s0, s1, s2, s3⟩
   go_simp
   with_reducible rfl
  rotate_left
  ·
   simp only [Act.put, List.setIfInBounds_toArray, List.set_cons_zero, List.set_cons_succ, i64_w, i32_w]
   rfl
  refine join_ (σ := Nat) 1 #[true, true, true, true, true, true, true, true, true, true, false] (fun s_ => [(143, .agg #[.bool t1, .int .i64 t2, .int .i64 t3]), (16, .pointer (some ⟨s_, 0, none⟩))]) (fun s_ w' => (w'.cell? ⟨gb, 0, none⟩ = some (.slice A0_0 l0_0.length c0_0) ∧ w'.cell? ⟨gb, 1, none⟩ = some (.slice (some ad) l0_1.length c0_1) ∧ w'.cell? ⟨gx, 1, none⟩ = some (.slice (some ad1) nd.f1.length ck) ∧ w'.cell? ad1 = some (.int .i64 (rd nd.f1 0))) ∧ Env18 W1 gx #[.int .i64 nd.f0, .slice (some ad1) nd.f1.length ck, .int .i64 nd.f2, .int .u64 nd.f3.f0, .int .u64 nd.f3.f1, .int .u64 nd.f3.f2, .int .u64 nd.f3.f3] w' ∧ w'.heap[s_]? = some (.cells #[.bool false, .int .i64 0, .int .i64 0] 31 (0, 0)) ∧ gx ≠ s_ ∧ W1.heap.size ≤ s_) ?_ ?_
  rotate_left
  ·
   intro hCont
   refine two_ (i := 8) (j := 9) (Ni := some 143) (Nj := some 16) #[true, true, true, true, true, true, true, true, true, false, false] #[true, true, true, true, true, true, true, true, false, true, false] rfl rfl rfl rfl (two_of HT_.out (by kernel_rfl)) (by decide) (by decide) (fun K hK => ?_) (fun K hK => ?_)
   ·
    refine goes_ Try.func12 (by kernel_rfl) rfl #[.agg #[.slice A0_0 l0_0.length c0_0, .slice (some ad) l0_1.length c0_1], .int .i64 (rd nd.f1 0), .string a2, .int .i64 a3, .int .i64 u] (by rfl) rfl rfl (by (try simp only [List.map_toArray, List.map_cons, List.map_nil]); first | done | rfl) ?_
    refine (IH.out _ _ l0_0 _ _ l0_1 (rd nd.f1 0) a2 a3 u t1 t2 t3 _ (Kd.Qn HC0.out EW.out.b) hc0_0 (Kd.Qn HC1.out EW.out.b) hc0_1 HT.out).mono ?_
    rintro e_ V1 ⟨rfl, hb⟩
    refine ⟨_, rfl, ?_⟩
    have EV1 := Qa.mk (EW.out.below hb)
    refine hK.out _ _ ⟨(Qb (Qh HG.out EV1.out.b) 0).trans rfl, (Qb (Qh HG.out EV1.out.b) 1).trans rfl, (Qb EV1.out.x 1).trans rfl, (EV1.out.b.cell (World.block_lt_of_cell? W1 _ HKC.out)).trans HKC.out⟩ (fun hHeld => ?_)
    clear hK K
    refine norm_ (a' := ?_) ?_ ?_
    rotate_left
    ·
     show Act.put _ (some 143) _ = _
     simp only [Act.put, List.setIfInBounds_toArray, List.set_cons_zero, List.set_cons_succ, i64_w, i32_w]
     rfl
    refine one_ (i := 9) (N := some 16) #[true, true, true, true, true, true, true, true, true, true, false] rfl rfl (one_of HT_.out (by kernel_rfl)) (by decide) (fun K hK => ?_)
    clear hb
    refine box_step ?hg (N := 16) ?hd (cs := #[.bool false, .int .i64 0, .int .i64 0]) (t := 31) ?hr ?_; (case hd => rfl); (case hg => rfl); (case hr => first | (go_simp; done) | (go_simp; rfl))
    intro gv hg V2 hbox hb
    have HBX : gx ≠ gv ∧ W1.heap.size ≤ gv := by rw [hg]; have := blk_lt EV1.out.x; have := EV1.out.b.size; omega
    have EV2 := Qa.mk (EV1.out.below hb)
    refine hK.out _ _ ⟨(Qb (Qh HG.out EV2.out.b) 0).trans rfl, (Qb (Qh HG.out EV2.out.b) 1).trans rfl, (Qb EV2.out.x 1).trans rfl, (EV2.out.b.cell (World.block_lt_of_cell? W1 _ HKC.out)).trans HKC.out⟩ (fun hHeld => ?_)
    clear hK K
    refine norm_ (a' := ?_) ?_ ?_
    rotate_left
    ·
     show Act.put _ (some 16) _ = _
     simp only [Act.put, List.setIfInBounds_toArray, List.set_cons_zero, List.set_cons_succ, i64_w, i32_w]
     rfl
    exact norm_ (by simp only [putAll, Act.put, List.setIfInBounds_toArray, List.set_cons_zero, List.set_cons_succ]) (hCont gv _ ⟨hHeld, EV2.out, hbox, HBX.1, HBX.2⟩)
   ·
    refine box_step ?hg (N := 16) ?hd (cs := #[.bool false, .int .i64 0, .int .i64 0]) (t := 31) ?hr ?_; (case hd => rfl); (case hg => rfl); (case hr => first | (go_simp; done) | (go_simp; rfl))
    intro gv hg V1 hbox hb
    have HBX : gx ≠ gv ∧ W1.heap.size ≤ gv := by rw [hg]; have := blk_lt EW.out.x; have := EW.out.b.size; omega
    have EV1 := Qa.mk (EW.out.below hb)
    have BX := Qa.mk hbox
    have HBX := Qa.mk HBX
    clear hbox hb hg
    refine hK.out _ _ ⟨(Qb (Qh HG.out EV1.out.b) 0).trans rfl, (Qb (Qh HG.out EV1.out.b) 1).trans rfl, (Qb EV1.out.x 1).trans rfl, (EV1.out.b.cell (World.block_lt_of_cell? W1 _ HKC.out)).trans HKC.out⟩ (fun hHeld => ?_)
    clear hK K
    refine norm_ (a' := ?_) ?_ ?_
    rotate_left
    ·
     show Act.put _ (some 16) _ = _
     simp only [Act.put, List.setIfInBounds_toArray, List.set_cons_zero, List.set_cons_succ, i64_w, i32_w]
     rfl
    refine one_ (i := 8) (N := some 143) #[true, true, true, true, true, true, true, true, true, true, false] rfl rfl (one_of HT_.out (by kernel_rfl)) (by decide) (fun K hK => ?_)
    refine goes_ Try.func12 (by kernel_rfl) rfl #[.agg #[.slice A0_0 l0_0.length c0_0, .slice (some ad) l0_1.length c0_1], .int .i64 (rd nd.f1 0), .string a2, .int .i64 a3, .int .i64 u] (by rfl) rfl rfl (by (try simp only [List.map_toArray, List.map_cons, List.map_nil]); first | done | rfl) ?_
    refine (IH.out _ _ l0_0 _ _ l0_1 (rd nd.f1 0) a2 a3 u t1 t2 t3 _ (Kd.Qn HC0.out EV1.out.b) hc0_0 (Kd.Qn HC1.out EV1.out.b) hc0_1 HT.out).mono ?_
    rintro e_ V2 ⟨rfl, hb⟩
    refine ⟨_, rfl, ?_⟩
    have EV2 := Qa.mk (EV1.out.below hb)
    refine hK.out _ _ ⟨(Qb (Qh HG.out EV2.out.b) 0).trans rfl, (Qb (Qh HG.out EV2.out.b) 1).trans rfl, (Qb EV2.out.x 1).trans rfl, (EV2.out.b.cell (World.block_lt_of_cell? W1 _ HKC.out)).trans HKC.out⟩ (fun hHeld => ?_)
    clear hK K
    refine norm_ (a' := ?_) ?_ ?_
    rotate_left
    ·
     show Act.put _ (some 143) _ = _
     simp only [Act.put, List.setIfInBounds_toArray, List.set_cons_zero, List.set_cons_succ, i64_w, i32_w]
     rfl
    exact norm_ (by simp only [putAll, Act.put, List.setIfInBounds_toArray, List.set_cons_zero, List.set_cons_succ]) (hCont gv _ ⟨hHeld, EV2.out, Qh BX.out hb, HBX.out.1, HBX.out.2⟩)
  rintro gv V3 ⟨hHeld, hE_, hB_, hn_, hg_⟩
  have EV3 := Qa.mk hE_
  have BV3 := Qa.mk hB_
  have HV : Qa (gx ≠ gv ∧ W1.heap.size ≤ gv ∧ gr ≠ gv) := ⟨hn_, hg_, by have := hnd.out; omega⟩
  clear hE_ hB_ hn_ hg_
  refine norm_ (a' := ?_) ?_ ?_
  rotate_left
  ·
   simp only [putAll, Act.put, List.setIfInBounds_toArray, List.set_cons_zero, List.set_cons_succ]
   rfl
  refine one_ (i := 10) (N := none) #[true, true, true, true, true, true, true, true, true, true, true] rfl rfl (one_of HT_.out (by kernel_rfl)) (by decide) (fun K hK => ?_)
  have v0 : V3.cell? ⟨gv, 0, none⟩ = some (.bool false) := (Qb BV3.out 0).trans rfl
  have y0 : V3.frozen? ⟨gv, 0, none⟩ = false := Qc BV3.out 0
  have v1 : V3.cell? ⟨gv, 1, none⟩ = some (.int .i64 0) := (Qb BV3.out 1).trans rfl
  have y1 : V3.frozen? ⟨gv, 1, none⟩ = false := Qc BV3.out 1
  have v2 : V3.cell? ⟨gv, 2, none⟩ = some (.int .i64 0) := (Qb BV3.out 2).trans rfl
  have y2 : V3.frozen? ⟨gv, 2, none⟩ = false := Qc BV3.out 2
  refine skip_ (w1 := ?_) (by rfl) rfl ?_ ?_
  rotate_left
  ·
   go_simp
   rfl
  have EV := Qa.mk (EV3.out.put3 HV.out.2.1 HV.out.1 (.bool t1) (.int .i64 t2) (.int .i64 t3))
  have BV := Qa.mk (h18_blk3 BV3.out (.bool t1) (.int .i64 t2) (.int .i64 t3))
  refine hK.out _ _ ⟨(Qb (Qh HG.out EV.out.b) 0).trans rfl, (Qb (Qh HG.out EV.out.b) 1).trans rfl, (Qb EV.out.x 1).trans rfl, (EV.out.b.cell (World.block_lt_of_cell? W1 _ HKC.out)).trans HKC.out⟩ (fun hHeld => ?_)
  clear hK K
  refine done_ (done_of HT_.out (by kernel_rfl)) ?_
  clear hHeld v0 v1 v2 y0 y1 y2
  generalize (((V3.setCell ⟨gv, 0, none⟩ (.bool t1)).setCell ⟨gv, 1, none⟩ (.int .i64 t2)).setCell ⟨gv, 2, none⟩ (.int .i64 t3)) = V0 at EV BV ⊢
  clear EV3 BV3
  have v0 : V0.cell? ⟨gv, 0, none⟩ = some (.bool t1) := (Qb BV.out 0).trans rfl
  have v1 : V0.cell? ⟨gv, 1, none⟩ = some (.int .i64 t2) := (Qb BV.out 1).trans rfl
  have v2 : V0.cell? ⟨gv, 2, none⟩ = some (.int .i64 t3) := (Qb BV.out 2).trans rfl
  go_upto_region 33 with (fail)
  clear v0 v1 v2
  have h := HA.out
  clear HA
  cases t1 with
  | false =>
    rw [if_pos rfl] at h
    simp only [Option.some.injEq, Prod.mk.injEq] at h
    obtain ⟨rfl, rfl, rfl⟩ := h
    have v0 : V0.cell? ⟨gv, 0, none⟩ = some (.bool false) := (Qb BV.out 0).trans rfl
    have v1 : V0.cell? ⟨gv, 1, none⟩ = some (.int .i64 t2) := (Qb BV.out 1).trans rfl
    have v2 : V0.cell? ⟨gv, 2, none⟩ = some (.int .i64 t3) := (Qb BV.out 2).trans rfl
    have rr0 : V0.cell? ⟨gr, 0, none⟩ = some (.bool false) := (Qb (Qh HR.out EV.out.b) 0).trans rfl
    have z0 : V0.frozen? ⟨gr, 0, none⟩ = false := Qc (Qh HR.out EV.out.b) 0
    have rr1 : V0.cell? ⟨gr, 1, none⟩ = some (.int .i64 0) := (Qb (Qh HR.out EV.out.b) 1).trans rfl
    have z1 : V0.frozen? ⟨gr, 1, none⟩ = false := Qc (Qh HR.out EV.out.b) 1
    have rr2 : V0.cell? ⟨gr, 2, none⟩ = some (.int .i64 0) := (Qb (Qh HR.out EV.out.b) 2).trans rfl
    have z2 : V0.frozen? ⟨gr, 2, none⟩ = false := Qc (Qh HR.out EV.out.b) 2
    go_wp2
    refine bodyPost_ret (results_cell_row rfl _ _ gr 31 #[.bool false, .int .i64 t2, .int .i64 t3] (0, 0) _ rfl (h18_blk3 (Qh HR.out EV.out.b) _ _ _) Try.underlying31 rfl (by kernel_rfl)) rfl ⟨rfl, h18_below3 (Qm HB.out EV.out.b) (by have := HGB.out; have := HGR.out; omega) _ _ _⟩
  | true =>
    rw [if_neg (by decide)] at h
    have v0 : V0.cell? ⟨gv, 0, none⟩ = some (.bool true) := (Qb BV.out 0).trans rfl
    have v1 : V0.cell? ⟨gv, 1, none⟩ = some (.int .i64 t2) := (Qb BV.out 1).trans rfl
    have v2 : V0.cell? ⟨gv, 2, none⟩ = some (.int .i64 t3) := (Qb BV.out 2).trans rfl
    have x0 : V0.cell? ⟨gx, 0, none⟩ = some (.int .i64 nd.f0) := (Qb EV.out.x 0).trans rfl
    go_upto_region 36 with (fail)
    have c7 : nd.f0 = 7 := HS.out
    rw [if_pos c7] at h
    have b7 : (nd.f0 == 7) = true := beq_iff_eq.2 c7
    clear c7
    by_cases ct : t2 < 0
    · rw [if_pos ct] at h
      have ctb : decide (t2 < 0) = true := decide_eq_true ct
      clear ct
      simp only [Option.some.injEq, Prod.mk.injEq] at h
      obtain ⟨rfl, rfl, rfl⟩ := h
      have rr0 : V0.cell? ⟨gr, 0, none⟩ = some (.bool false) := (Qb (Qh HR.out EV.out.b) 0).trans rfl
      have z0 : V0.frozen? ⟨gr, 0, none⟩ = false := Qc (Qh HR.out EV.out.b) 0
      have rr1 : V0.cell? ⟨gr, 1, none⟩ = some (.int .i64 0) := (Qb (Qh HR.out EV.out.b) 1).trans rfl
      have z1 : V0.frozen? ⟨gr, 1, none⟩ = false := Qc (Qh HR.out EV.out.b) 1
      have rr2 : V0.cell? ⟨gr, 2, none⟩ = some (.int .i64 0) := (Qb (Qh HR.out EV.out.b) 2).trans rfl
      have z2 : V0.frozen? ⟨gr, 2, none⟩ = false := Qc (Qh HR.out EV.out.b) 2
      go_wp2
      refine bodyPost_ret (results_cell_row rfl _ _ gr 31 #[.bool true, .int .i64 a3, .int .i64 t3] (0, 0) _ rfl (h18_blk3 (Qh HR.out EV.out.b) _ _ _) Try.underlying31 rfl (by kernel_rfl)) rfl ⟨rfl, h18_below3 (Qm HB.out EV.out.b) (by have := HGB.out; have := HGR.out; omega) _ _ _⟩
    · rw [if_neg ct] at h
      have ctb : decide (t2 < 0) = false := decide_eq_false ct
      clear ct
      simp only [Option.some.injEq, Prod.mk.injEq] at h
      obtain ⟨rfl, rfl, rfl⟩ := h
      have rr0 : V0.cell? ⟨gr, 0, none⟩ = some (.bool false) := (Qb (Qh HR.out EV.out.b) 0).trans rfl
      have z0 : V0.frozen? ⟨gr, 0, none⟩ = false := Qc (Qh HR.out EV.out.b) 0
      have rr1 : V0.cell? ⟨gr, 1, none⟩ = some (.int .i64 0) := (Qb (Qh HR.out EV.out.b) 1).trans rfl
      have z1 : V0.frozen? ⟨gr, 1, none⟩ = false := Qc (Qh HR.out EV.out.b) 1
      have rr2 : V0.cell? ⟨gr, 2, none⟩ = some (.int .i64 0) := (Qb (Qh HR.out EV.out.b) 2).trans rfl
      have z2 : V0.frozen? ⟨gr, 2, none⟩ = false := Qc (Qh HR.out EV.out.b) 2
      go_wp2
      refine bodyPost_ret (results_cell_row rfl _ _ gr 31 #[.bool true, .int .i64 t2, .int .i64 t3] (0, 0) _ rfl (h18_blk3 (Qh HR.out EV.out.b) _ _ _) Try.underlying31 rfl (by kernel_rfl)) rfl ⟨rfl, h18_below3 (Qm HB.out EV.out.b) (by have := HGB.out; have := HGR.out; omega) _ _ _⟩
end Go.Proofs.Ythgedejnpgcacaa.V
namespace Go.Proofs.Ythgedejnpgcacaa.V
open Go.RowKit Go.Proofs.YthgedejnpgcacaaW.PrintWords Go.Proofs.YthgedejnpgcacaaW.PrintLast Go.Proofs.YthgedejnpgcacaaW.PrintMore
set_option linter.unusedVariables false
set_option linter.unusedSimpArgs false
set_option maxHeartbeats 4000000 in
set_option maxRecDepth 100000 in
theorem Qp.calls_s8 (k : Nat) (ih : ∀ (A0_0 : Option Addr) (c0_0 : Nat) (l0_0 : List S51) (A0_1 : Option Addr) (c0_1 : Nat) (l0_1 : List S56) (a1 : Int) (a2 : ByteArray) (a3 a4 : Int) (r1 : Bool) (r2 r3 : Int) (w : World)
    (hr0_0 : Kd.C k51 w A0_0 l0_0.length l0_0) (hc0_0 : l0_0.length ≤ c0_0) (hr0_1 : Kd.C k56 w A0_1 l0_1.length l0_1) (hc0_1 : l0_1.length ≤ c0_1) (h : Qp.f k l0_0 l0_1 a1 a2 a3 a4 = some (r1, r2, r3)), Calls Try.prog 12 #[.agg #[.slice A0_0 l0_0.length c0_0, .slice A0_1 l0_1.length c0_1], .int .i64 a1, .string a2, .int .i64 a3, .int .i64 a4] w fun e w' => e = .returned (.agg #[.bool r1, .int .i64 r2, .int .i64 r3]) ∧ Below w.heap.size w w')
    (A0_0 : Option Addr) (c0_0 : Nat) (l0_0 : List S51) (A0_1 : Option Addr) (c0_1 : Nat) (l0_1 : List S56) (a1 : Int) (a2 : ByteArray) (a3 a4 : Int) (r1 : Bool) (r2 r3 : Int) (w : World)
    (hr0_0 : Kd.C k51 w A0_0 l0_0.length l0_0) (hc0_0 : l0_0.length ≤ c0_0) (hr0_1 : Kd.C k56 w A0_1 l0_1.length l0_1) (hc0_1 : l0_1.length ≤ c0_1) (hs : Qa (¬ a4 < 1 ∧ (0 ≤ a1 ∧ a1 < (l0_1.length : Int)) ∧ (Ql l0_1 a1).f0 = 8)) (h : Qp.f (k + 1) l0_0 l0_1 a1 a2 a3 a4 = some (r1, r2, r3)) :
    Calls Try.prog 12 #[.agg #[.slice A0_0 l0_0.length c0_0, .slice A0_1 l0_1.length c0_1], .int .i64 a1, .string a2, .int .i64 a3, .int .i64 a4] w fun e w' => e = .returned (.agg #[.bool r1, .int .i64 r2, .int .i64 r3]) ∧ Below w.heap.size w w' := by
  rw [Qp.f] at h
  have IH := Qa.mk ih
  clear ih
  have hu25 := Try.underlying25
  have hu31 := Try.underlying31
  have hu56 := Try.underlying56
  have hu51 := Try.underlying51
  have hu54 := Try.underlying54
  have HB := Qa.mk (Qd (Qd (Below.refl w.heap.size w) (.cells #[.slice A0_0 l0_0.length c0_0, .slice A0_1 l0_1.length c0_1] 25)) (.cells #[.bool false, .int .i64 0, .int .i64 0] 31))
  have HG := Qa.mk (Qi (Qf1 w (.cells #[.slice A0_0 l0_0.length c0_0, .slice A0_1 l0_1.length c0_1] 25)) (.cells #[.bool false, .int .i64 0, .int .i64 0] 31))
  have HR := Qa.mk (Qf1 (w.alloc (.cells #[.slice A0_0 l0_0.length c0_0, .slice A0_1 l0_1.length c0_1] 25)) (.cells #[.bool false, .int .i64 0, .int .i64 0] 31))
  have hsz : ((w.alloc (.cells #[.slice A0_0 l0_0.length c0_0, .slice A0_1 l0_1.length c0_1] 25)).alloc (.cells #[.bool false, .int .i64 0, .int .i64 0] 31)).heap.size = w.heap.size + 1 + 1 := by rw [h18_size, h18_size]
  rw [h18_size] at HR
  have HC0 := Qa.mk (Kd.Qn hr0_0 HB.out)
  have HC1 := Qa.mk (Kd.Qn hr0_1 HB.out)
  have HW := Qa.mk hsz
  clear hr0_0 hr0_1 hsz
  rw [if_neg hs.out.1, if_pos hs.out.2.1] at h
  have c4b : decide (a4 < 1) = false := decide_eq_false hs.out.1
  have H := Qa.mk h
  clear h
  go_enter Try.func12, Try.ntmps12
  go_upto_region 1 with (fail)
  generalize ((w.alloc (.cells #[.slice A0_0 l0_0.length c0_0, .slice A0_1 l0_1.length c0_1] 25)).alloc (.cells #[.bool false, .int .i64 0, .int .i64 0] 31)) = W1 at HB HG HR HC0 HC1 HW ⊢
  obtain ⟨gb, hgb⟩ : ∃ gb, gb = w.heap.size := ⟨_, rfl⟩
  obtain ⟨gr, hgr⟩ : ∃ gr, gr = gb + 1 := ⟨_, rfl⟩
  rw [← hgb] at HW HG HR ⊢
  rw [← hgr] at HR ⊢
  have HGB := Qa.mk hgb
  have HGR := Qa.mk hgr
  clear hgb hgr
  go_upto_region 4 with (fail)
  clear c4b
  have g1 : W1.cell? ⟨gb, 1, none⟩ = some (.slice A0_1 l0_1.length c0_1) := (Qb HG.out 1).trans rfl
  have p2 := hs.out.2.1.1
  have p3 := hs.out.2.1.2
  obtain ⟨ad, Ak, ck, e, k0, k1, k2, k3, k4, k5, k6, hlk, hCk⟩ := at_T56 HC1.out a1 p2 p3
  cases e
  have HCk := Qa.mk hCk
  have HLk := Qa.mk hlk
  clear hCk hlk
  replace p2 := eq_true p2
  replace p3 := eq_true p3
  go_upto_region 5 with (fail)
  have HS := Qa.mk hs.out.2.2
  clear hs
  generalize Ql l0_1 a1 = nd at *
  obtain ⟨gx, hgx⟩ : ∃ gx, gx = W1.heap.size := ⟨_, rfl⟩
  have E2 : Qa (Env18 W1 gx #[.int .i64 nd.f0, .slice Ak nd.f1.length ck, .int .i64 nd.f2, .int .u64 nd.f3.f0, .int .u64 nd.f3.f1, .int .u64 nd.f3.f2, .int .u64 nd.f3.f3] (W1.alloc (.cells #[.int .i64 nd.f0, .slice Ak nd.f1.length ck, .int .i64 nd.f2, .int .u64 nd.f3.f0, .int .u64 nd.f3.f1, .int .u64 nd.f3.f2, .int .u64 nd.f3.f3] 56))) := ⟨by rw [hgx]; exact Qf1 W1 (.cells #[.int .i64 nd.f0, .slice Ak nd.f1.length ck, .int .i64 nd.f2, .int .u64 nd.f3.f0, .int .u64 nd.f3.f1, .int .u64 nd.f3.f2, .int .u64 nd.f3.f3] 56), Qd (Below.refl _ _) _⟩
  have HGX := Qa.mk hgx
  rw [← hgx]
  generalize W1.alloc (.cells #[.int .i64 nd.f0, .slice Ak nd.f1.length ck, .int .i64 nd.f2, .int .u64 nd.f3.f0, .int .u64 nd.f3.f1, .int .u64 nd.f3.f2, .int .u64 nd.f3.f3] 56) = W2 at E2 ⊢
  clear k0 k1 k2 k3 k4 k5 k6 g1 hgx p2 p3
  have h := H.out
  clear H
  have hnd : Qa (gb < W1.heap.size ∧ gr < W1.heap.size) := ⟨by have := HW.out; have := HGR.out; omega⟩
  generalize wrap64 (a4 - 1) = u at *
  have x0 : W2.cell? ⟨gx, 0, none⟩ = some (.int .i64 nd.f0) := (Qb E2.out.x 0).trans rfl
  go_upto_region 6 with (fail)
  clear x0
  have c0 : ¬ nd.f0 = 0 := by have := HS.out; omega
  rw [if_neg c0] at h
  have b0 : (nd.f0 == 0) = false := beq_eq_false_iff_ne.2 c0
  clear c0
  go_upto_region 8 with (fail)
  clear b0
  have c1 : ¬ nd.f0 = 1 := by have := HS.out; omega
  rw [if_neg c1] at h
  have b1 : (nd.f0 == 1) = false := beq_eq_false_iff_ne.2 c1
  clear c1
  go_upto_region 12 with (fail)
  clear b1
  have c2 : ¬ nd.f0 = 2 := by have := HS.out; omega
  rw [if_neg c2] at h
  have b2 : (nd.f0 == 2) = false := beq_eq_false_iff_ne.2 c2
  clear c2
  go_upto_region 14 with (fail)
  clear b2
  have c3 : ¬ nd.f0 = 3 := by have := HS.out; omega
  rw [if_neg c3] at h
  have b3 : (nd.f0 == 3) = false := beq_eq_false_iff_ne.2 c3
  clear c3
  go_upto_region 23 with (fail)
  clear b3
  have c4 : ¬ nd.f0 = 4 := by have := HS.out; omega
  rw [if_neg c4] at h
  have b4 : (nd.f0 == 4) = false := beq_eq_false_iff_ne.2 c4
  clear c4
  by_cases ck0 : nd.f1 = []
  · rw [if_pos ck0] at h
    exact absurd h (by simp)
  rw [if_neg ck0] at h
  have q9 := h18_mem nd.f1 ck0
  have HQ9 := Qa.mk q9
  clear ck0
  obtain ⟨⟨t1, t2, t3⟩, ht, h⟩ := Option.bind_eq_some_iff.1 h
  dsimp only at ht h
  have HT := Qa.mk ht
  have HA := Qa.mk h
  clear ht h
  obtain ⟨ad1, he1, kc⟩ := Kd.at_int HCk.out 0 (Int.le_refl 0) HQ9.out
  cases he1
  replace kc : W1.cell? ad1 = some (.int .i64 (rd nd.f1 0)) := by simpa [Addr.add] using kc
  have HKC := Qa.mk kc
  clear kc q9
  have kc := (E2.out.b.cell (World.block_lt_of_cell? W1 _ HKC.out)).trans HKC.out
  have x1 : W2.cell? ⟨gx, 1, none⟩ = some (.slice (some ad1) nd.f1.length ck) := (Qb E2.out.x 1).trans rfl
  have g0 : W2.cell? ⟨gb, 0, none⟩ = some (.slice A0_0 l0_0.length c0_0) := (Qb (Qh HG.out E2.out.b) 0).trans rfl
  have g1 : W2.cell? ⟨gb, 1, none⟩ = some (.slice (some ad) l0_1.length c0_1) := (Qb (Qh HG.out E2.out.b) 1).trans rfl
  have q9i := eq_true HQ9.out
  have q9n : (0 < nd.f1.length) = True := eq_true (by have := HQ9.out; omega)
  go_upto_region 32 with (fail)
  clear b4
  have EW := Qa.mk E2.out.drew
  clear kc x1 g0 g1
  refine start_ (n := 11) (S := fun w' => w'.cell? ⟨gb, 0, none⟩ = some (.slice A0_0 l0_0.length c0_0) ∧ w'.cell? ⟨gb, 1, none⟩ = some (.slice (some ad) l0_1.length c0_1) ∧ w'.cell? ⟨gx, 1, none⟩ = some (.slice (some ad1) nd.f1.length ck) ∧ w'.cell? ad1 = some (.int .i64 (rd nd.f1 0))) (ds := []) #[false, false, false, false, false, false, false, false, false, false, false] (by kernel_rfl) rfl rfl ⟨(Qb (Qh HG.out EW.out.b) 0).trans rfl, (Qb (Qh HG.out EW.out.b) 1).trans rfl, (Qb EW.out.x 1).trans rfl, (EW.out.b.cell (World.block_lt_of_cell? W1 _ HKC.out)).trans HKC.out⟩ (fun hHeld => ?_); refine with_tabW h18_tab32 h18_bits32 (fun HT_ HW_ => ?_)
  generalize W2.drew = W3 at EW hHeld ⊢
  refine pure_ (i := 1) (N := some 136) (v := ?_) (a' := ?_) #[false, true, false, false, false, false, false, false, false, false, false] rfl rfl (any_of HT_.out (by kernel_rfl)) (fun _ _ _ h => h) (Or.inl ⟨by rfl, ?_⟩) ?_ ?_
  rotate_left
  ·
   intro w'
   go_simp
   with_reducible rfl
  rotate_left
  ·
   simp only [Act.put, List.setIfInBounds_toArray, List.set_cons_zero, List.set_cons_succ, i64_w, i32_w]
   rfl
  refine pure_ (i := 5) (N := some 140) (v := ?_) (a' := ?_) #[false, true, false, false, false, true, false, false, false, false, false] rfl rfl (any_of HT_.out (by kernel_rfl)) (fun _ _ _ h => h) (Or.inl ⟨by rfl, ?_⟩) ?_ ?_
  rotate_left
  ·
   intro w'
   go_simp
   with_reducible rfl
  rotate_left
  ·
   simp only [Act.put, List.setIfInBounds_toArray, List.set_cons_zero, List.set_cons_succ, i64_w, i32_w]
   rfl
  refine pure_ (i := 6) (N := some 141) (v := ?_) (a' := ?_) #[false, true, false, false, false, true, true, false, false, false, false] rfl rfl (any_of HT_.out (by kernel_rfl)) (fun _ _ _ h => h) (Or.inl ⟨by rfl, ?_⟩) ?_ ?_
  rotate_left
  ·
   intro w'
   go_simp
   with_reducible rfl
  rotate_left
  ·
   simp only [Act.put, List.setIfInBounds_toArray, List.set_cons_zero, List.set_cons_succ, i64_w, i32_w]
   rfl
  refine pure_ (i := 7) (N := some 142) (v := ?_) (a' := ?_) #[false, true, false, false, false, true, true, true, false, false, false] rfl rfl (any_of HT_.out (by kernel_rfl)) (fun _ _ _ h => h) (Or.inl ⟨by rfl, ?_⟩) ?_ ?_
  rotate_left
  ·
   intro w'
   go_simp
   with_reducible rfl
  rotate_left
  ·
   simp only [Act.put, List.setIfInBounds_toArray, List.set_cons_zero, List.set_cons_succ, i64_w, i32_w]
   rfl
  refine take_ (i := 0) (N := some 135) (v := ?_) (a' := ?_) #[true, true, false, false, false, true, true, true, false, false, false] rfl rfl (take_ofW HT_.out HW_.out (by kernel_rfl)) (fun _ _ _ h => h) (Or.inl ⟨by rfl, ?_⟩) hHeld ?_ ?_
  rotate_left
  ·
   rintro w' ⟨s0, s1, s2, s3⟩
   go_simp
   with_reducible rfl
  rotate_left
  ·
   simp only [Act.put, List.setIfInBounds_toArray, List.set_cons_zero, List.set_cons_succ, i64_w, i32_w]
   rfl
  refine take_ (i := 2) (N := some 137) (v := ?_) (a' := ?_) #[true, true, true, false, false, true, true, true, false, false, false] rfl rfl (take_ofW HT_.out HW_.out (by kernel_rfl)) (fun _ _ _ h => h) (Or.inl ⟨by rfl, ?_⟩) hHeld ?_ ?_
  rotate_left
  ·
   rintro w' ⟨s0, s1, s2, s3⟩
   go_simp
   with_reducible rfl
  rotate_left
  ·
   simp only [Act.put, List.setIfInBounds_toArray, List.set_cons_zero, List.set_cons_succ, i64_w, i32_w]
   rfl
  refine pure_ (i := 3) (N := some 138) (v := ?_) (a' := ?_) #[true, true, true, true, false, true, true, true, false, false, false] rfl rfl (any_of HT_.out (by kernel_rfl)) (fun _ _ _ h => h) (Or.inl ⟨by rfl, ?_⟩) ?_ ?_
  rotate_left
  ·
   intro w'
   go_simp
   with_reducible rfl
  rotate_left
  ·
   simp only [Act.put, List.setIfInBounds_toArray, List.set_cons_zero, List.set_cons_succ, i64_w, i32_w]
   rfl
  refine take_ (i := 4) (N := some 139) (v := ?_) (a' := ?_) #[true, true, true, true, true, true, true, true, false, false, false] rfl rfl (take_ofW HT_.out HW_.out (by kernel_rfl)) (fun _ _ _ h => h) (Or.inl ⟨by rfl, ?_⟩) hHeld ?_ ?_
  rotate_left
  ·
   rintro w' ⟨s0, s1, s2, s3⟩
   go_simp
   with_reducible rfl
  rotate_left
  ·
   simp only [Act.put, List.setIfInBounds_toArray, List.set_cons_zero, List.set_cons_succ, i64_w, i32_w]
   rfl
  refine join_ (σ := Nat) 1 #[true, true, true, true, true, true, true, true, true, true, false] (fun s_ => [(143, .agg #[.bool t1, .int .i64 t2, .int .i64 t3]), (16, .pointer (some ⟨s_, 0, none⟩))]) (fun s_ w' => (w'.cell? ⟨gb, 0, none⟩ = some (.slice A0_0 l0_0.length c0_0) ∧ w'.cell? ⟨gb, 1, none⟩ = some (.slice (some ad) l0_1.length c0_1) ∧ w'.cell? ⟨gx, 1, none⟩ = some (.slice (some ad1) nd.f1.length ck) ∧ w'.cell? ad1 = some (.int .i64 (rd nd.f1 0))) ∧ Env18 W1 gx #[.int .i64 nd.f0, .slice (some ad1) nd.f1.length ck, .int .i64 nd.f2, .int .u64 nd.f3.f0, .int .u64 nd.f3.f1, .int .u64 nd.f3.f2, .int .u64 nd.f3.f3] w' ∧ w'.heap[s_]? = some (.cells #[.bool false, .int .i64 0, .int .i64 0] 31 (0, 0)) ∧ gx ≠ s_ ∧ W1.heap.size ≤ s_) ?_ ?_
  rotate_left
  ·
   intro hCont
   refine two_ (i := 8) (j := 9) (Ni := some 143) (Nj := some 16) #[true, true, true, true, true, true, true, true, true, false, false] #[true, true, true, true, true, true, true, true, false, true, false] rfl rfl rfl rfl (two_of HT_.out (by kernel_rfl)) (by decide) (by decide) (fun K hK => ?_) (fun K hK => ?_)
   ·
    refine goes_ Try.func12 (by kernel_rfl) rfl #[.agg #[.slice A0_0 l0_0.length c0_0, .slice (some ad) l0_1.length c0_1], .int .i64 (rd nd.f1 0), .string a2, .int .i64 a3, .int .i64 u] (by rfl) rfl rfl (by (try simp only [List.map_toArray, List.map_cons, List.map_nil]); first | done | rfl) ?_
    refine (IH.out _ _ l0_0 _ _ l0_1 (rd nd.f1 0) a2 a3 u t1 t2 t3 _ (Kd.Qn HC0.out EW.out.b) hc0_0 (Kd.Qn HC1.out EW.out.b) hc0_1 HT.out).mono ?_
    rintro e_ V1 ⟨rfl, hb⟩
    refine ⟨_, rfl, ?_⟩
    have EV1 := Qa.mk (EW.out.below hb)
    refine hK.out _ _ ⟨(Qb (Qh HG.out EV1.out.b) 0).trans rfl, (Qb (Qh HG.out EV1.out.b) 1).trans rfl, (Qb EV1.out.x 1).trans rfl, (EV1.out.b.cell (World.block_lt_of_cell? W1 _ HKC.out)).trans HKC.out⟩ (fun hHeld => ?_)
    clear hK K
    refine norm_ (a' := ?_) ?_ ?_
    rotate_left
    ·
     show Act.put _ (some 143) _ = _
     simp only [Act.put, List.setIfInBounds_toArray, List.set_cons_zero, List.set_cons_succ, i64_w, i32_w]
     rfl
    refine one_ (i := 9) (N := some 16) #[true, true, true, true, true, true, true, true, true, true, false] rfl rfl (one_of HT_.out (by kernel_rfl)) (by decide) (fun K hK => ?_)
    clear hb
    refine box_step ?hg (N := 16) ?hd (cs := #[.bool false, .int .i64 0, .int .i64 0]) (t := 31) ?hr ?_; (case hd => rfl); (case hg => rfl); (case hr => first | (go_simp; done) | (go_simp; rfl))
    intro gv hg V2 hbox hb
    have HBX : gx ≠ gv ∧ W1.heap.size ≤ gv := by rw [hg]; have := blk_lt EV1.out.x; have := EV1.out.b.size; omega
    have EV2 := Qa.mk (EV1.out.below hb)
    refine hK.out _ _ ⟨(Qb (Qh HG.out EV2.out.b) 0).trans rfl, (Qb (Qh HG.out EV2.out.b) 1).trans rfl, (Qb EV2.out.x 1).trans rfl, (EV2.out.b.cell (World.block_lt_of_cell? W1 _ HKC.out)).trans HKC.out⟩ (fun hHeld => ?_)
    clear hK K
    refine norm_ (a' := ?_) ?_ ?_
    rotate_left
    ·
     show Act.put _ (some 16) _ = _
     simp only [Act.put, List.setIfInBounds_toArray, List.set_cons_zero, List.set_cons_succ, i64_w, i32_w]
     rfl
    exact norm_ (by simp only [putAll, Act.put, List.setIfInBounds_toArray, List.set_cons_zero, List.set_cons_succ]) (hCont gv _ ⟨hHeld, EV2.out, hbox, HBX.1, HBX.2⟩)
   ·
    refine box_step ?hg (N := 16) ?hd (cs := #[.bool false, .int .i64 0, .int .i64 0]) (t := 31) ?hr ?_; (case hd => rfl); (case hg => rfl); (case hr => first | (go_simp; done) | (go_simp; rfl))
    intro gv hg V1 hbox hb
    have HBX : gx ≠ gv ∧ W1.heap.size ≤ gv := by rw [hg]; have := blk_lt EW.out.x; have := EW.out.b.size; omega
    have EV1 := Qa.mk (EW.out.below hb)
    have BX := Qa.mk hbox
    have HBX := Qa.mk HBX
    clear hbox hb hg
    refine hK.out _ _ ⟨(Qb (Qh HG.out EV1.out.b) 0).trans rfl, (Qb (Qh HG.out EV1.out.b) 1).trans rfl, (Qb EV1.out.x 1).trans rfl, (EV1.out.b.cell (World.block_lt_of_cell? W1 _ HKC.out)).trans HKC.out⟩ (fun hHeld => ?_)
    clear hK K
    refine norm_ (a' := ?_) ?_ ?_
    rotate_left
    ·
     show Act.put _ (some 16) _ = _
     simp only [Act.put, List.setIfInBounds_toArray, List.set_cons_zero, List.set_cons_succ, i64_w, i32_w]
     rfl
    refine one_ (i := 8) (N := some 143) #[true, true, true, true, true, true, true, true, true, true, false] rfl rfl (one_of HT_.out (by kernel_rfl)) (by decide) (fun K hK => ?_)
    refine goes_ Try.func12 (by kernel_rfl) rfl #[.agg #[.slice A0_0 l0_0.length c0_0, .slice (some ad) l0_1.length c0_1], .int .i64 (rd nd.f1 0), .string a2, .int .i64 a3, .int .i64 u] (by rfl) rfl rfl (by (try simp only [List.map_toArray, List.map_cons, List.map_nil]); first | done | rfl) ?_
    refine (IH.out _ _ l0_0 _ _ l0_1 (rd nd.f1 0) a2 a3 u t1 t2 t3 _ (Kd.Qn HC0.out EV1.out.b) hc0_0 (Kd.Qn HC1.out EV1.out.b) hc0_1 HT.out).mono ?_
    rintro e_ V2 ⟨rfl, hb⟩
    refine ⟨_, rfl, ?_⟩
    have EV2 := Qa.mk (EV1.out.below hb)
    refine hK.out _ _ ⟨(Qb (Qh HG.out EV2.out.b) 0).trans rfl, (Qb (Qh HG.out EV2.out.b) 1).trans rfl, (Qb EV2.out.x 1).trans rfl, (EV2.out.b.cell (World.block_lt_of_cell? W1 _ HKC.out)).trans HKC.out⟩ (fun hHeld => ?_)
    clear hK K
    refine norm_ (a' := ?_) ?_ ?_
    rotate_left
    ·
     show Act.put _ (some 143) _ = _
     simp only [Act.put, List.setIfInBounds_toArray, List.set_cons_zero, List.set_cons_succ, i64_w, i32_w]
     rfl
    exact norm_ (by simp only [putAll, Act.put, List.setIfInBounds_toArray, List.set_cons_zero, List.set_cons_succ]) (hCont gv _ ⟨hHeld, EV2.out, Qh BX.out hb, HBX.out.1, HBX.out.2⟩)
  rintro gv V3 ⟨hHeld, hE_, hB_, hn_, hg_⟩
  have EV3 := Qa.mk hE_
  have BV3 := Qa.mk hB_
  have HV : Qa (gx ≠ gv ∧ W1.heap.size ≤ gv ∧ gr ≠ gv) := ⟨hn_, hg_, by have := hnd.out; omega⟩
  clear hE_ hB_ hn_ hg_
  refine norm_ (a' := ?_) ?_ ?_
  rotate_left
  ·
   simp only [putAll, Act.put, List.setIfInBounds_toArray, List.set_cons_zero, List.set_cons_succ]
   rfl
  refine one_ (i := 10) (N := none) #[true, true, true, true, true, true, true, true, true, true, true] rfl rfl (one_of HT_.out (by kernel_rfl)) (by decide) (fun K hK => ?_)
  have v0 : V3.cell? ⟨gv, 0, none⟩ = some (.bool false) := (Qb BV3.out 0).trans rfl
  have y0 : V3.frozen? ⟨gv, 0, none⟩ = false := Qc BV3.out 0
  have v1 : V3.cell? ⟨gv, 1, none⟩ = some (.int .i64 0) := (Qb BV3.out 1).trans rfl
  have y1 : V3.frozen? ⟨gv, 1, none⟩ = false := Qc BV3.out 1
  have v2 : V3.cell? ⟨gv, 2, none⟩ = some (.int .i64 0) := (Qb BV3.out 2).trans rfl
  have y2 : V3.frozen? ⟨gv, 2, none⟩ = false := Qc BV3.out 2
  refine skip_ (w1 := ?_) (by rfl) rfl ?_ ?_
  rotate_left
  ·
   go_simp
   rfl
  have EV := Qa.mk (EV3.out.put3 HV.out.2.1 HV.out.1 (.bool t1) (.int .i64 t2) (.int .i64 t3))
  have BV := Qa.mk (h18_blk3 BV3.out (.bool t1) (.int .i64 t2) (.int .i64 t3))
  refine hK.out _ _ ⟨(Qb (Qh HG.out EV.out.b) 0).trans rfl, (Qb (Qh HG.out EV.out.b) 1).trans rfl, (Qb EV.out.x 1).trans rfl, (EV.out.b.cell (World.block_lt_of_cell? W1 _ HKC.out)).trans HKC.out⟩ (fun hHeld => ?_)
  clear hK K
  refine done_ (done_of HT_.out (by kernel_rfl)) ?_
  clear hHeld v0 v1 v2 y0 y1 y2
  generalize (((V3.setCell ⟨gv, 0, none⟩ (.bool t1)).setCell ⟨gv, 1, none⟩ (.int .i64 t2)).setCell ⟨gv, 2, none⟩ (.int .i64 t3)) = V0 at EV BV ⊢
  clear EV3 BV3
  have v0 : V0.cell? ⟨gv, 0, none⟩ = some (.bool t1) := (Qb BV.out 0).trans rfl
  have v1 : V0.cell? ⟨gv, 1, none⟩ = some (.int .i64 t2) := (Qb BV.out 1).trans rfl
  have v2 : V0.cell? ⟨gv, 2, none⟩ = some (.int .i64 t3) := (Qb BV.out 2).trans rfl
  go_upto_region 33 with (fail)
  clear v0 v1 v2
  have h := HA.out
  clear HA
  cases t1 with
  | false =>
    rw [if_pos rfl] at h
    simp only [Option.some.injEq, Prod.mk.injEq] at h
    obtain ⟨rfl, rfl, rfl⟩ := h
    have v0 : V0.cell? ⟨gv, 0, none⟩ = some (.bool false) := (Qb BV.out 0).trans rfl
    have v1 : V0.cell? ⟨gv, 1, none⟩ = some (.int .i64 t2) := (Qb BV.out 1).trans rfl
    have v2 : V0.cell? ⟨gv, 2, none⟩ = some (.int .i64 t3) := (Qb BV.out 2).trans rfl
    have rr0 : V0.cell? ⟨gr, 0, none⟩ = some (.bool false) := (Qb (Qh HR.out EV.out.b) 0).trans rfl
    have z0 : V0.frozen? ⟨gr, 0, none⟩ = false := Qc (Qh HR.out EV.out.b) 0
    have rr1 : V0.cell? ⟨gr, 1, none⟩ = some (.int .i64 0) := (Qb (Qh HR.out EV.out.b) 1).trans rfl
    have z1 : V0.frozen? ⟨gr, 1, none⟩ = false := Qc (Qh HR.out EV.out.b) 1
    have rr2 : V0.cell? ⟨gr, 2, none⟩ = some (.int .i64 0) := (Qb (Qh HR.out EV.out.b) 2).trans rfl
    have z2 : V0.frozen? ⟨gr, 2, none⟩ = false := Qc (Qh HR.out EV.out.b) 2
    go_wp2
    refine bodyPost_ret (results_cell_row rfl _ _ gr 31 #[.bool false, .int .i64 t2, .int .i64 t3] (0, 0) _ rfl (h18_blk3 (Qh HR.out EV.out.b) _ _ _) Try.underlying31 rfl (by kernel_rfl)) rfl ⟨rfl, h18_below3 (Qm HB.out EV.out.b) (by have := HGB.out; have := HGR.out; omega) _ _ _⟩
  | true =>
    rw [if_neg (by decide)] at h
    have v0 : V0.cell? ⟨gv, 0, none⟩ = some (.bool true) := (Qb BV.out 0).trans rfl
    have v1 : V0.cell? ⟨gv, 1, none⟩ = some (.int .i64 t2) := (Qb BV.out 1).trans rfl
    have v2 : V0.cell? ⟨gv, 2, none⟩ = some (.int .i64 t3) := (Qb BV.out 2).trans rfl
    have x0 : V0.cell? ⟨gx, 0, none⟩ = some (.int .i64 nd.f0) := (Qb EV.out.x 0).trans rfl
    go_upto_region 36 with (fail)
    have c7 : ¬ nd.f0 = 7 := by have := HS.out; omega
    rw [if_neg c7] at h
    have b7 : (nd.f0 == 7) = false := beq_eq_false_iff_ne.2 c7
    clear c7
    go_upto_region 40 with (fail)
    clear b7
    have c8 : nd.f0 = 8 := HS.out
    rw [if_pos c8] at h
    have b8 : (nd.f0 == 8) = true := beq_iff_eq.2 c8
    clear c8
    by_cases ct : t2 < 0
    · rw [if_pos ct] at h
      have ctb : decide (t2 < 0) = true := decide_eq_true ct
      clear ct
      simp only [Option.some.injEq, Prod.mk.injEq] at h
      obtain ⟨rfl, rfl, rfl⟩ := h
      have rr0 : V0.cell? ⟨gr, 0, none⟩ = some (.bool false) := (Qb (Qh HR.out EV.out.b) 0).trans rfl
      have z0 : V0.frozen? ⟨gr, 0, none⟩ = false := Qc (Qh HR.out EV.out.b) 0
      have rr1 : V0.cell? ⟨gr, 1, none⟩ = some (.int .i64 0) := (Qb (Qh HR.out EV.out.b) 1).trans rfl
      have z1 : V0.frozen? ⟨gr, 1, none⟩ = false := Qc (Qh HR.out EV.out.b) 1
      have rr2 : V0.cell? ⟨gr, 2, none⟩ = some (.int .i64 0) := (Qb (Qh HR.out EV.out.b) 2).trans rfl
      have z2 : V0.frozen? ⟨gr, 2, none⟩ = false := Qc (Qh HR.out EV.out.b) 2
      go_wp2
      refine bodyPost_ret (results_cell_row rfl _ _ gr 31 #[.bool true, .int .i64 t2, .int .i64 t3] (0, 0) _ rfl (h18_blk3 (Qh HR.out EV.out.b) _ _ _) Try.underlying31 rfl (by kernel_rfl)) rfl ⟨rfl, h18_below3 (Qm HB.out EV.out.b) (by have := HGB.out; have := HGR.out; omega) _ _ _⟩
    · rw [if_neg ct] at h
      have ctb : decide (t2 < 0) = false := decide_eq_false ct
      clear ct
      simp only [Option.some.injEq, Prod.mk.injEq] at h
      obtain ⟨rfl, rfl, rfl⟩ := h
      have rr0 : V0.cell? ⟨gr, 0, none⟩ = some (.bool false) := (Qb (Qh HR.out EV.out.b) 0).trans rfl
      have z0 : V0.frozen? ⟨gr, 0, none⟩ = false := Qc (Qh HR.out EV.out.b) 0
      have rr1 : V0.cell? ⟨gr, 1, none⟩ = some (.int .i64 0) := (Qb (Qh HR.out EV.out.b) 1).trans rfl
      have z1 : V0.frozen? ⟨gr, 1, none⟩ = false := Qc (Qh HR.out EV.out.b) 1
      have rr2 : V0.cell? ⟨gr, 2, none⟩ = some (.int .i64 0) := (Qb (Qh HR.out EV.out.b) 2).trans rfl
      have z2 : V0.frozen? ⟨gr, 2, none⟩ = false := Qc (Qh HR.out EV.out.b) 2
      go_wp2
      refine bodyPost_ret (results_cell_row rfl _ _ gr 31 #[.bool true, .int .i64 a3, .int .i64 t3] (0, 0) _ rfl (h18_blk3 (Qh HR.out EV.out.b) _ _ _) Try.underlying31 rfl (by kernel_rfl)) rfl ⟨rfl, h18_below3 (Qm HB.out EV.out.b) (by have := HGB.out; have := HGR.out; omega) _ _ _⟩
end Go.Proofs.Ythgedejnpgcacaa.V
namespace Go.Proofs.Ythgedejnpgcacaa.V
open Go.RowKit Go.Proofs.YthgedejnpgcacaaW.PrintWords Go.Proofs.YthgedejnpgcacaaW.PrintLast Go.Proofs.YthgedejnpgcacaaW.PrintMore
set_option linter.unusedVariables false
set_option linter.unusedSimpArgs false
set_option maxHeartbeats 4000000 in
set_option maxRecDepth 100000 in
theorem Qp.calls_s9 (k : Nat) (ih : ∀ (A0_0 : Option Addr) (c0_0 : Nat) (l0_0 : List S51) (A0_1 : Option Addr) (c0_1 : Nat) (l0_1 : List S56) (a1 : Int) (a2 : ByteArray) (a3 a4 : Int) (r1 : Bool) (r2 r3 : Int) (w : World)
    (hr0_0 : Kd.C k51 w A0_0 l0_0.length l0_0) (hc0_0 : l0_0.length ≤ c0_0) (hr0_1 : Kd.C k56 w A0_1 l0_1.length l0_1) (hc0_1 : l0_1.length ≤ c0_1) (h : Qp.f k l0_0 l0_1 a1 a2 a3 a4 = some (r1, r2, r3)), Calls Try.prog 12 #[.agg #[.slice A0_0 l0_0.length c0_0, .slice A0_1 l0_1.length c0_1], .int .i64 a1, .string a2, .int .i64 a3, .int .i64 a4] w fun e w' => e = .returned (.agg #[.bool r1, .int .i64 r2, .int .i64 r3]) ∧ Below w.heap.size w w')
    (A0_0 : Option Addr) (c0_0 : Nat) (l0_0 : List S51) (A0_1 : Option Addr) (c0_1 : Nat) (l0_1 : List S56) (a1 : Int) (a2 : ByteArray) (a3 a4 : Int) (r1 : Bool) (r2 r3 : Int) (w : World)
    (hr0_0 : Kd.C k51 w A0_0 l0_0.length l0_0) (hc0_0 : l0_0.length ≤ c0_0) (hr0_1 : Kd.C k56 w A0_1 l0_1.length l0_1) (hc0_1 : l0_1.length ≤ c0_1) (hs : Qa (¬ a4 < 1 ∧ (0 ≤ a1 ∧ a1 < (l0_1.length : Int)) ∧ (Ql l0_1 a1).f0 = 9)) (h : Qp.f (k + 1) l0_0 l0_1 a1 a2 a3 a4 = some (r1, r2, r3)) :
    Calls Try.prog 12 #[.agg #[.slice A0_0 l0_0.length c0_0, .slice A0_1 l0_1.length c0_1], .int .i64 a1, .string a2, .int .i64 a3, .int .i64 a4] w fun e w' => e = .returned (.agg #[.bool r1, .int .i64 r2, .int .i64 r3]) ∧ Below w.heap.size w w' := by
  rw [Qp.f] at h
  have IH := Qa.mk ih
  clear ih
  have hu25 := Try.underlying25
  have hu31 := Try.underlying31
  have hu56 := Try.underlying56
  have hu51 := Try.underlying51
  have hu54 := Try.underlying54
  have HB := Qa.mk (Qd (Qd (Below.refl w.heap.size w) (.cells #[.slice A0_0 l0_0.length c0_0, .slice A0_1 l0_1.length c0_1] 25)) (.cells #[.bool false, .int .i64 0, .int .i64 0] 31))
  have HG := Qa.mk (Qi (Qf1 w (.cells #[.slice A0_0 l0_0.length c0_0, .slice A0_1 l0_1.length c0_1] 25)) (.cells #[.bool false, .int .i64 0, .int .i64 0] 31))
  have HR := Qa.mk (Qf1 (w.alloc (.cells #[.slice A0_0 l0_0.length c0_0, .slice A0_1 l0_1.length c0_1] 25)) (.cells #[.bool false, .int .i64 0, .int .i64 0] 31))
  have hsz : ((w.alloc (.cells #[.slice A0_0 l0_0.length c0_0, .slice A0_1 l0_1.length c0_1] 25)).alloc (.cells #[.bool false, .int .i64 0, .int .i64 0] 31)).heap.size = w.heap.size + 1 + 1 := by rw [h18_size, h18_size]
  rw [h18_size] at HR
  have HC0 := Qa.mk (Kd.Qn hr0_0 HB.out)
  have HC1 := Qa.mk (Kd.Qn hr0_1 HB.out)
  have HW := Qa.mk hsz
  clear hr0_0 hr0_1 hsz
  rw [if_neg hs.out.1, if_pos hs.out.2.1] at h
  have c4b : decide (a4 < 1) = false := decide_eq_false hs.out.1
  have H := Qa.mk h
  clear h
  go_enter Try.func12, Try.ntmps12
  go_upto_region 1 with (fail)
  generalize ((w.alloc (.cells #[.slice A0_0 l0_0.length c0_0, .slice A0_1 l0_1.length c0_1] 25)).alloc (.cells #[.bool false, .int .i64 0, .int .i64 0] 31)) = W1 at HB HG HR HC0 HC1 HW ⊢
  obtain ⟨gb, hgb⟩ : ∃ gb, gb = w.heap.size := ⟨_, rfl⟩
  obtain ⟨gr, hgr⟩ : ∃ gr, gr = gb + 1 := ⟨_, rfl⟩
  rw [← hgb] at HW HG HR ⊢
  rw [← hgr] at HR ⊢
  have HGB := Qa.mk hgb
  have HGR := Qa.mk hgr
  clear hgb hgr
  go_upto_region 4 with (fail)
  clear c4b
  have g1 : W1.cell? ⟨gb, 1, none⟩ = some (.slice A0_1 l0_1.length c0_1) := (Qb HG.out 1).trans rfl
  have p2 := hs.out.2.1.1
  have p3 := hs.out.2.1.2
  obtain ⟨ad, Ak, ck, e, k0, k1, k2, k3, k4, k5, k6, hlk, hCk⟩ := at_T56 HC1.out a1 p2 p3
  cases e
  have HCk := Qa.mk hCk
  have HLk := Qa.mk hlk
  clear hCk hlk
  replace p2 := eq_true p2
  replace p3 := eq_true p3
  go_upto_region 5 with (fail)
  have HS := Qa.mk hs.out.2.2
  clear hs
  generalize Ql l0_1 a1 = nd at *
  obtain ⟨gx, hgx⟩ : ∃ gx, gx = W1.heap.size := ⟨_, rfl⟩
  have E2 : Qa (Env18 W1 gx #[.int .i64 nd.f0, .slice Ak nd.f1.length ck, .int .i64 nd.f2, .int .u64 nd.f3.f0, .int .u64 nd.f3.f1, .int .u64 nd.f3.f2, .int .u64 nd.f3.f3] (W1.alloc (.cells #[.int .i64 nd.f0, .slice Ak nd.f1.length ck, .int .i64 nd.f2, .int .u64 nd.f3.f0, .int .u64 nd.f3.f1, .int .u64 nd.f3.f2, .int .u64 nd.f3.f3] 56))) := ⟨by rw [hgx]; exact Qf1 W1 (.cells #[.int .i64 nd.f0, .slice Ak nd.f1.length ck, .int .i64 nd.f2, .int .u64 nd.f3.f0, .int .u64 nd.f3.f1, .int .u64 nd.f3.f2, .int .u64 nd.f3.f3] 56), Qd (Below.refl _ _) _⟩
  have HGX := Qa.mk hgx
  rw [← hgx]
  generalize W1.alloc (.cells #[.int .i64 nd.f0, .slice Ak nd.f1.length ck, .int .i64 nd.f2, .int .u64 nd.f3.f0, .int .u64 nd.f3.f1, .int .u64 nd.f3.f2, .int .u64 nd.f3.f3] 56) = W2 at E2 ⊢
  clear k0 k1 k2 k3 k4 k5 k6 g1 hgx p2 p3
  have h := H.out
  clear H
  have hnd : Qa (gb < W1.heap.size ∧ gr < W1.heap.size) := ⟨by have := HW.out; have := HGR.out; omega⟩
  generalize wrap64 (a4 - 1) = u at *
  have x0 : W2.cell? ⟨gx, 0, none⟩ = some (.int .i64 nd.f0) := (Qb E2.out.x 0).trans rfl
  go_upto_region 6 with (fail)
  clear x0
  have c0 : ¬ nd.f0 = 0 := by have := HS.out; omega
  rw [if_neg c0] at h
  have b0 : (nd.f0 == 0) = false := beq_eq_false_iff_ne.2 c0
  clear c0
  go_upto_region 8 with (fail)
  clear b0
  have c1 : ¬ nd.f0 = 1 := by have := HS.out; omega
  rw [if_neg c1] at h
  have b1 : (nd.f0 == 1) = false := beq_eq_false_iff_ne.2 c1
  clear c1
  go_upto_region 12 with (fail)
  clear b1
  have c2 : ¬ nd.f0 = 2 := by have := HS.out; omega
  rw [if_neg c2] at h
  have b2 : (nd.f0 == 2) = false := beq_eq_false_iff_ne.2 c2
  clear c2
  go_upto_region 14 with (fail)
  clear b2
  have c3 : ¬ nd.f0 = 3 := by have := HS.out; omega
  rw [if_neg c3] at h
  have b3 : (nd.f0 == 3) = false := beq_eq_false_iff_ne.2 c3
  clear c3
  go_upto_region 23 with (fail)
  clear b3
  have c4 : ¬ nd.f0 = 4 := by have := HS.out; omega
  rw [if_neg c4] at h
  have b4 : (nd.f0 == 4) = false := beq_eq_false_iff_ne.2 c4
  clear c4
  by_cases ck0 : nd.f1 = []
  · rw [if_pos ck0] at h
    exact absurd h (by simp)
  rw [if_neg ck0] at h
  have q9 := h18_mem nd.f1 ck0
  have HQ9 := Qa.mk q9
  clear ck0
  obtain ⟨⟨t1, t2, t3⟩, ht, h⟩ := Option.bind_eq_some_iff.1 h
  dsimp only at ht h
  have HT := Qa.mk ht
  have HA := Qa.mk h
  clear ht h
  obtain ⟨ad1, he1, kc⟩ := Kd.at_int HCk.out 0 (Int.le_refl 0) HQ9.out
  cases he1
  replace kc : W1.cell? ad1 = some (.int .i64 (rd nd.f1 0)) := by simpa [Addr.add] using kc
  have HKC := Qa.mk kc
  clear kc q9
  have kc := (E2.out.b.cell (World.block_lt_of_cell? W1 _ HKC.out)).trans HKC.out
  have x1 : W2.cell? ⟨gx, 1, none⟩ = some (.slice (some ad1) nd.f1.length ck) := (Qb E2.out.x 1).trans rfl
  have g0 : W2.cell? ⟨gb, 0, none⟩ = some (.slice A0_0 l0_0.length c0_0) := (Qb (Qh HG.out E2.out.b) 0).trans rfl
  have g1 : W2.cell? ⟨gb, 1, none⟩ = some (.slice (some ad) l0_1.length c0_1) := (Qb (Qh HG.out E2.out.b) 1).trans rfl
  have q9i := eq_true HQ9.out
  have q9n : (0 < nd.f1.length) = True := eq_true (by have := HQ9.out; omega)
  go_upto_region 32 with (fail)
  clear b4
  have EW := Qa.mk E2.out.drew
  clear kc x1 g0 g1
  refine start_ (n := 11) (S := fun w' => w'.cell? ⟨gb, 0, none⟩ = some (.slice A0_0 l0_0.length c0_0) ∧ w'.cell? ⟨gb, 1, none⟩ = some (.slice (some ad) l0_1.length c0_1) ∧ w'.cell? ⟨gx, 1, none⟩ = some (.slice (some ad1) nd.f1.length ck) ∧ w'.cell? ad1 = some (.int .i64 (rd nd.f1 0))) (ds := []) #[false, false, false, false, false, false, false, false, false, false, false] (by kernel_rfl) rfl rfl ⟨(Qb (Qh HG.out EW.out.b) 0).trans rfl, (Qb (Qh HG.out EW.out.b) 1).trans rfl, (Qb EW.out.x 1).trans rfl, (EW.out.b.cell (World.block_lt_of_cell? W1 _ HKC.out)).trans HKC.out⟩ (fun hHeld => ?_); refine with_tabW h18_tab32 h18_bits32 (fun HT_ HW_ => ?_)
  generalize W2.drew = W3 at EW hHeld ⊢
  refine pure_ (i := 1) (N := some 136) (v := ?_) (a' := ?_) #[false, true, false, false, false, false, false, false, false, false, false] rfl rfl (any_of HT_.out (by kernel_rfl)) (fun _ _ _ h => h) (Or.inl ⟨by rfl, ?_⟩) ?_ ?_
  rotate_left
  ·
   intro w'
   go_simp
   with_reducible rfl
  rotate_left
  ·
   simp only [Act.put, List.setIfInBounds_toArray, List.set_cons_zero, List.set_cons_succ, i64_w, i32_w]
   rfl
  refine pure_ (i := 5) (N := some 140) (v := ?_) (a' := ?_) #[false, true, false, false, false, true, false, false, false, false, false] rfl rfl (any_of HT_.out (by kernel_rfl)) (fun _ _ _ h => h) (Or.inl ⟨by rfl, ?_⟩) ?_ ?_
  rotate_left
  ·
   intro w'
   go_simp
   with_reducible rfl
  rotate_left
  ·
   simp only [Act.put, List.setIfInBounds_toArray, List.set_cons_zero, List.set_cons_succ, i64_w, i32_w]
   rfl
  refine pure_ (i := 6) (N := some 141) (v := ?_) (a' := ?_) #[false, true, false, false, false, true, true, false, false, false, false] rfl rfl (any_of HT_.out (by kernel_rfl)) (fun _ _ _ h => h) (Or.inl ⟨by rfl, ?_⟩) ?_ ?_
  rotate_left
  ·
   intro w'
   go_simp
   with_reducible rfl
  rotate_left
  ·
   simp only [Act.put, List.setIfInBounds_toArray, List.set_cons_zero, List.set_cons_succ, i64_w, i32_w]
   rfl
  refine pure_ (i := 7) (N := some 142) (v := ?_) (a' := ?_) #[false, true, false, false, false, true, true, true, false, false, false] rfl rfl (any_of HT_.out (by kernel_rfl)) (fun _ _ _ h => h) (Or.inl ⟨by rfl, ?_⟩) ?_ ?_
  rotate_left
  ·
   intro w'
   go_simp
   with_reducible rfl
  rotate_left
  ·
   simp only [Act.put, List.setIfInBounds_toArray, List.set_cons_zero, List.set_cons_succ, i64_w, i32_w]
   rfl
  refine take_ (i := 0) (N := some 135) (v := ?_) (a' := ?_) #[true, true, false, false, false, true, true, true, false, false, false] rfl rfl (take_ofW HT_.out HW_.out (by kernel_rfl)) (fun _ _ _ h => h) (Or.inl ⟨by rfl, ?_⟩) hHeld ?_ ?_
  rotate_left
  ·
   rintro w' ⟨s0, s1, s2, s3⟩
   go_simp
   with_reducible rfl
  rotate_left
  ·
   simp only [Act.put, List.setIfInBounds_toArray, List.set_cons_zero, List.set_cons_succ, i64_w, i32_w]
   rfl
  refine take_ (i := 2) (N := some 137) (v := ?_) (a' := ?_) #[true, true, true, false, false, true, true, true, false, false, false] rfl rfl (take_ofW HT_.out HW_.out (by kernel_rfl)) (fun _ _ _ h => h) (Or.inl ⟨by rfl, ?_⟩) hHeld ?_ ?_
  rotate_left
  ·
   rintro w' ⟨s0, s1, s2, s3⟩
   go_simp
   with_reducible rfl
  rotate_left
  ·
   simp only [Act.put, List.setIfInBounds_toArray, List.set_cons_zero, List.set_cons_succ, i64_w, i32_w]
   rfl
  refine pure_ (i := 3) (N := some 138) (v := ?_) (a' := ?_) #[true, true, true, true, false, true, true, true, false, false, false] rfl rfl (any_of HT_.out (by kernel_rfl)) (fun _ _ _ h => h) (Or.inl ⟨by rfl, ?_⟩) ?_ ?_
  rotate_left
  ·
   intro w'
   go_simp
   with_reducible rfl
  rotate_left
  ·
   simp only [Act.put, List.setIfInBounds_toArray, List.set_cons_zero, List.set_cons_succ, i64_w, i32_w]
   rfl
  refine take_ (i := 4) (N := some 139) (v := ?_) (a' := ?_) #[true, true, true, true, true, true, true, true, false, false, false] rfl rfl (take_ofW HT_.out HW_.out (by kernel_rfl)) (fun _ _ _ h => h) (Or.inl ⟨by rfl, ?_⟩) hHeld ?_ ?_
  rotate_left
  ·
   rintro w' ⟨s0, s1, s2, s3⟩
   go_simp
   with_reducible rfl
  rotate_left
  ·
   simp only [Act.put, List.setIfInBounds_toArray, List.set_cons_zero, List.set_cons_succ, i64_w, i32_w]
   rfl
  refine join_ (σ := Nat) 1 #[true, true, true, true, true, true, true, true, true, true, false] (fun s_ => [(143, .agg #[.bool t1, .int .i64 t2, .int .i64 t3]), (16, .pointer (some ⟨s_, 0, none⟩))]) (fun s_ w' => (w'.cell? ⟨gb, 0, none⟩ = some (.slice A0_0 l0_0.length c0_0) ∧ w'.cell? ⟨gb, 1, none⟩ = some (.slice (some ad) l0_1.length c0_1) ∧ w'.cell? ⟨gx, 1, none⟩ = some (.slice (some ad1) nd.f1.length ck) ∧ w'.cell? ad1 = some (.int .i64 (rd nd.f1 0))) ∧ Env18 W1 gx #[.int .i64 nd.f0, .slice (some ad1) nd.f1.length ck, .int .i64 nd.f2, .int .u64 nd.f3.f0, .int .u64 nd.f3.f1, .int .u64 nd.f3.f2, .int .u64 nd.f3.f3] w' ∧ w'.heap[s_]? = some (.cells #[.bool false, .int .i64 0, .int .i64 0] 31 (0, 0)) ∧ gx ≠ s_ ∧ W1.heap.size ≤ s_) ?_ ?_
  rotate_left
  ·
   intro hCont
   refine two_ (i := 8) (j := 9) (Ni := some 143) (Nj := some 16) #[true, true, true, true, true, true, true, true, true, false, false] #[true, true, true, true, true, true, true, true, false, true, false] rfl rfl rfl rfl (two_of HT_.out (by kernel_rfl)) (by decide) (by decide) (fun K hK => ?_) (fun K hK => ?_)
   ·
    refine goes_ Try.func12 (by kernel_rfl) rfl #[.agg #[.slice A0_0 l0_0.length c0_0, .slice (some ad) l0_1.length c0_1], .int .i64 (rd nd.f1 0), .string a2, .int .i64 a3, .int .i64 u] (by rfl) rfl rfl (by (try simp only [List.map_toArray, List.map_cons, List.map_nil]); first | done | rfl) ?_
    refine (IH.out _ _ l0_0 _ _ l0_1 (rd nd.f1 0) a2 a3 u t1 t2 t3 _ (Kd.Qn HC0.out EW.out.b) hc0_0 (Kd.Qn HC1.out EW.out.b) hc0_1 HT.out).mono ?_
    rintro e_ V1 ⟨rfl, hb⟩
    refine ⟨_, rfl, ?_⟩
    have EV1 := Qa.mk (EW.out.below hb)
    refine hK.out _ _ ⟨(Qb (Qh HG.out EV1.out.b) 0).trans rfl, (Qb (Qh HG.out EV1.out.b) 1).trans rfl, (Qb EV1.out.x 1).trans rfl, (EV1.out.b.cell (World.block_lt_of_cell? W1 _ HKC.out)).trans HKC.out⟩ (fun hHeld => ?_)
    clear hK K
    refine norm_ (a' := ?_) ?_ ?_
    rotate_left
    ·
     show Act.put _ (some 143) _ = _
     simp only [Act.put, List.setIfInBounds_toArray, List.set_cons_zero, List.set_cons_succ, i64_w, i32_w]
     rfl
    refine one_ (i := 9) (N := some 16) #[true, true, true, true, true, true, true, true, true, true, false] rfl rfl (one_of HT_.out (by kernel_rfl)) (by decide) (fun K hK => ?_)
    clear hb
    refine box_step ?hg (N := 16) ?hd (cs := #[.bool false, .int .i64 0, .int .i64 0]) (t := 31) ?hr ?_; (case hd => rfl); (case hg => rfl); (case hr => first | (go_simp; done) | (go_simp; rfl))
    intro gv hg V2 hbox hb
    have HBX : gx ≠ gv ∧ W1.heap.size ≤ gv := by rw [hg]; have := blk_lt EV1.out.x; have := EV1.out.b.size; omega
    have EV2 := Qa.mk (EV1.out.below hb)
    refine hK.out _ _ ⟨(Qb (Qh HG.out EV2.out.b) 0).trans rfl, (Qb (Qh HG.out EV2.out.b) 1).trans rfl, (Qb EV2.out.x 1).trans rfl, (EV2.out.b.cell (World.block_lt_of_cell? W1 _ HKC.out)).trans HKC.out⟩ (fun hHeld => ?_)
    clear hK K
    refine norm_ (a' := ?_) ?_ ?_
    rotate_left
    ·
     show Act.put _ (some 16) _ = _
     simp only [Act.put, List.setIfInBounds_toArray, List.set_cons_zero, List.set_cons_succ, i64_w, i32_w]
     rfl
    exact norm_ (by simp only [putAll, Act.put, List.setIfInBounds_toArray, List.set_cons_zero, List.set_cons_succ]) (hCont gv _ ⟨hHeld, EV2.out, hbox, HBX.1, HBX.2⟩)
   ·
    refine box_step ?hg (N := 16) ?hd (cs := #[.bool false, .int .i64 0, .int .i64 0]) (t := 31) ?hr ?_; (case hd => rfl); (case hg => rfl); (case hr => first | (go_simp; done) | (go_simp; rfl))
    intro gv hg V1 hbox hb
    have HBX : gx ≠ gv ∧ W1.heap.size ≤ gv := by rw [hg]; have := blk_lt EW.out.x; have := EW.out.b.size; omega
    have EV1 := Qa.mk (EW.out.below hb)
    have BX := Qa.mk hbox
    have HBX := Qa.mk HBX
    clear hbox hb hg
    refine hK.out _ _ ⟨(Qb (Qh HG.out EV1.out.b) 0).trans rfl, (Qb (Qh HG.out EV1.out.b) 1).trans rfl, (Qb EV1.out.x 1).trans rfl, (EV1.out.b.cell (World.block_lt_of_cell? W1 _ HKC.out)).trans HKC.out⟩ (fun hHeld => ?_)
    clear hK K
    refine norm_ (a' := ?_) ?_ ?_
    rotate_left
    ·
     show Act.put _ (some 16) _ = _
     simp only [Act.put, List.setIfInBounds_toArray, List.set_cons_zero, List.set_cons_succ, i64_w, i32_w]
     rfl
    refine one_ (i := 8) (N := some 143) #[true, true, true, true, true, true, true, true, true, true, false] rfl rfl (one_of HT_.out (by kernel_rfl)) (by decide) (fun K hK => ?_)
    refine goes_ Try.func12 (by kernel_rfl) rfl #[.agg #[.slice A0_0 l0_0.length c0_0, .slice (some ad) l0_1.length c0_1], .int .i64 (rd nd.f1 0), .string a2, .int .i64 a3, .int .i64 u] (by rfl) rfl rfl (by (try simp only [List.map_toArray, List.map_cons, List.map_nil]); first | done | rfl) ?_
    refine (IH.out _ _ l0_0 _ _ l0_1 (rd nd.f1 0) a2 a3 u t1 t2 t3 _ (Kd.Qn HC0.out EV1.out.b) hc0_0 (Kd.Qn HC1.out EV1.out.b) hc0_1 HT.out).mono ?_
    rintro e_ V2 ⟨rfl, hb⟩
    refine ⟨_, rfl, ?_⟩
    have EV2 := Qa.mk (EV1.out.below hb)
    refine hK.out _ _ ⟨(Qb (Qh HG.out EV2.out.b) 0).trans rfl, (Qb (Qh HG.out EV2.out.b) 1).trans rfl, (Qb EV2.out.x 1).trans rfl, (EV2.out.b.cell (World.block_lt_of_cell? W1 _ HKC.out)).trans HKC.out⟩ (fun hHeld => ?_)
    clear hK K
    refine norm_ (a' := ?_) ?_ ?_
    rotate_left
    ·
     show Act.put _ (some 143) _ = _
     simp only [Act.put, List.setIfInBounds_toArray, List.set_cons_zero, List.set_cons_succ, i64_w, i32_w]
     rfl
    exact norm_ (by simp only [putAll, Act.put, List.setIfInBounds_toArray, List.set_cons_zero, List.set_cons_succ]) (hCont gv _ ⟨hHeld, EV2.out, Qh BX.out hb, HBX.out.1, HBX.out.2⟩)
  rintro gv V3 ⟨hHeld, hE_, hB_, hn_, hg_⟩
  have EV3 := Qa.mk hE_
  have BV3 := Qa.mk hB_
  have HV : Qa (gx ≠ gv ∧ W1.heap.size ≤ gv ∧ gr ≠ gv) := ⟨hn_, hg_, by have := hnd.out; omega⟩
  clear hE_ hB_ hn_ hg_
  refine norm_ (a' := ?_) ?_ ?_
  rotate_left
  ·
   simp only [putAll, Act.put, List.setIfInBounds_toArray, List.set_cons_zero, List.set_cons_succ]
   rfl
  refine one_ (i := 10) (N := none) #[true, true, true, true, true, true, true, true, true, true, true] rfl rfl (one_of HT_.out (by kernel_rfl)) (by decide) (fun K hK => ?_)
  have v0 : V3.cell? ⟨gv, 0, none⟩ = some (.bool false) := (Qb BV3.out 0).trans rfl
  have y0 : V3.frozen? ⟨gv, 0, none⟩ = false := Qc BV3.out 0
  have v1 : V3.cell? ⟨gv, 1, none⟩ = some (.int .i64 0) := (Qb BV3.out 1).trans rfl
  have y1 : V3.frozen? ⟨gv, 1, none⟩ = false := Qc BV3.out 1
  have v2 : V3.cell? ⟨gv, 2, none⟩ = some (.int .i64 0) := (Qb BV3.out 2).trans rfl
  have y2 : V3.frozen? ⟨gv, 2, none⟩ = false := Qc BV3.out 2
  refine skip_ (w1 := ?_) (by rfl) rfl ?_ ?_
  rotate_left
  ·
   go_simp
   rfl
  have EV := Qa.mk (EV3.out.put3 HV.out.2.1 HV.out.1 (.bool t1) (.int .i64 t2) (.int .i64 t3))
  have BV := Qa.mk (h18_blk3 BV3.out (.bool t1) (.int .i64 t2) (.int .i64 t3))
  refine hK.out _ _ ⟨(Qb (Qh HG.out EV.out.b) 0).trans rfl, (Qb (Qh HG.out EV.out.b) 1).trans rfl, (Qb EV.out.x 1).trans rfl, (EV.out.b.cell (World.block_lt_of_cell? W1 _ HKC.out)).trans HKC.out⟩ (fun hHeld => ?_)
  clear hK K
  refine done_ (done_of HT_.out (by kernel_rfl)) ?_
  clear hHeld v0 v1 v2 y0 y1 y2
  generalize (((V3.setCell ⟨gv, 0, none⟩ (.bool t1)).setCell ⟨gv, 1, none⟩ (.int .i64 t2)).setCell ⟨gv, 2, none⟩ (.int .i64 t3)) = V0 at EV BV ⊢
  clear EV3 BV3
  have v0 : V0.cell? ⟨gv, 0, none⟩ = some (.bool t1) := (Qb BV.out 0).trans rfl
  have v1 : V0.cell? ⟨gv, 1, none⟩ = some (.int .i64 t2) := (Qb BV.out 1).trans rfl
  have v2 : V0.cell? ⟨gv, 2, none⟩ = some (.int .i64 t3) := (Qb BV.out 2).trans rfl
  go_upto_region 33 with (fail)
  clear v0 v1 v2
  have h := HA.out
  clear HA
  cases t1 with
  | false =>
    rw [if_pos rfl] at h
    simp only [Option.some.injEq, Prod.mk.injEq] at h
    obtain ⟨rfl, rfl, rfl⟩ := h
    have v0 : V0.cell? ⟨gv, 0, none⟩ = some (.bool false) := (Qb BV.out 0).trans rfl
    have v1 : V0.cell? ⟨gv, 1, none⟩ = some (.int .i64 t2) := (Qb BV.out 1).trans rfl
    have v2 : V0.cell? ⟨gv, 2, none⟩ = some (.int .i64 t3) := (Qb BV.out 2).trans rfl
    have rr0 : V0.cell? ⟨gr, 0, none⟩ = some (.bool false) := (Qb (Qh HR.out EV.out.b) 0).trans rfl
    have z0 : V0.frozen? ⟨gr, 0, none⟩ = false := Qc (Qh HR.out EV.out.b) 0
    have rr1 : V0.cell? ⟨gr, 1, none⟩ = some (.int .i64 0) := (Qb (Qh HR.out EV.out.b) 1).trans rfl
    have z1 : V0.frozen? ⟨gr, 1, none⟩ = false := Qc (Qh HR.out EV.out.b) 1
    have rr2 : V0.cell? ⟨gr, 2, none⟩ = some (.int .i64 0) := (Qb (Qh HR.out EV.out.b) 2).trans rfl
    have z2 : V0.frozen? ⟨gr, 2, none⟩ = false := Qc (Qh HR.out EV.out.b) 2
    go_wp2
    refine bodyPost_ret (results_cell_row rfl _ _ gr 31 #[.bool false, .int .i64 t2, .int .i64 t3] (0, 0) _ rfl (h18_blk3 (Qh HR.out EV.out.b) _ _ _) Try.underlying31 rfl (by kernel_rfl)) rfl ⟨rfl, h18_below3 (Qm HB.out EV.out.b) (by have := HGB.out; have := HGR.out; omega) _ _ _⟩
  | true =>
    rw [if_neg (by decide)] at h
    have v0 : V0.cell? ⟨gv, 0, none⟩ = some (.bool true) := (Qb BV.out 0).trans rfl
    have v1 : V0.cell? ⟨gv, 1, none⟩ = some (.int .i64 t2) := (Qb BV.out 1).trans rfl
    have v2 : V0.cell? ⟨gv, 2, none⟩ = some (.int .i64 t3) := (Qb BV.out 2).trans rfl
    have x0 : V0.cell? ⟨gx, 0, none⟩ = some (.int .i64 nd.f0) := (Qb EV.out.x 0).trans rfl
    go_upto_region 36 with (fail)
    have c7 : ¬ nd.f0 = 7 := by have := HS.out; omega
    rw [if_neg c7] at h
    have b7 : (nd.f0 == 7) = false := beq_eq_false_iff_ne.2 c7
    clear c7
    go_upto_region 40 with (fail)
    clear b7
    have c8 : ¬ nd.f0 = 8 := by have := HS.out; omega
    rw [if_neg c8] at h
    have b8 : (nd.f0 == 8) = false := beq_eq_false_iff_ne.2 c8
    clear c8
    go_upto_region 44 with (fail)
    clear b8
    have c9 : nd.f0 = 9 := HS.out
    rw [if_pos c9] at h
    have b9 : (nd.f0 == 9) = true := beq_iff_eq.2 c9
    clear c9
    by_cases ct : t2 < 0
    · rw [if_pos ct] at h
      have ctb : decide (t2 < 0) = true := decide_eq_true ct
      clear ct
      simp only [Option.some.injEq, Prod.mk.injEq] at h
      obtain ⟨rfl, rfl, rfl⟩ := h
      have rr0 : V0.cell? ⟨gr, 0, none⟩ = some (.bool false) := (Qb (Qh HR.out EV.out.b) 0).trans rfl
      have z0 : V0.frozen? ⟨gr, 0, none⟩ = false := Qc (Qh HR.out EV.out.b) 0
      have rr1 : V0.cell? ⟨gr, 1, none⟩ = some (.int .i64 0) := (Qb (Qh HR.out EV.out.b) 1).trans rfl
      have z1 : V0.frozen? ⟨gr, 1, none⟩ = false := Qc (Qh HR.out EV.out.b) 1
      have rr2 : V0.cell? ⟨gr, 2, none⟩ = some (.int .i64 0) := (Qb (Qh HR.out EV.out.b) 2).trans rfl
      have z2 : V0.frozen? ⟨gr, 2, none⟩ = false := Qc (Qh HR.out EV.out.b) 2
      go_wp2
      refine bodyPost_ret (results_cell_row rfl _ _ gr 31 #[.bool true, .int .i64 a3, .int .i64 t3] (0, 0) _ rfl (h18_blk3 (Qh HR.out EV.out.b) _ _ _) Try.underlying31 rfl (by kernel_rfl)) rfl ⟨rfl, h18_below3 (Qm HB.out EV.out.b) (by have := HGB.out; have := HGR.out; omega) _ _ _⟩
    · rw [if_neg ct] at h
      have ctb : decide (t2 < 0) = false := decide_eq_false ct
      clear ct
      simp only [Option.some.injEq, Prod.mk.injEq] at h
      obtain ⟨rfl, rfl, rfl⟩ := h
      have rr0 : V0.cell? ⟨gr, 0, none⟩ = some (.bool false) := (Qb (Qh HR.out EV.out.b) 0).trans rfl
      have z0 : V0.frozen? ⟨gr, 0, none⟩ = false := Qc (Qh HR.out EV.out.b) 0
      have rr1 : V0.cell? ⟨gr, 1, none⟩ = some (.int .i64 0) := (Qb (Qh HR.out EV.out.b) 1).trans rfl
      have z1 : V0.frozen? ⟨gr, 1, none⟩ = false := Qc (Qh HR.out EV.out.b) 1
      have rr2 : V0.cell? ⟨gr, 2, none⟩ = some (.int .i64 0) := (Qb (Qh HR.out EV.out.b) 2).trans rfl
      have z2 : V0.frozen? ⟨gr, 2, none⟩ = false := Qc (Qh HR.out EV.out.b) 2
      go_wp2
      refine bodyPost_ret (results_cell_row rfl _ _ gr 31 #[.bool true, .int .i64 (-1), .int .i64 t3] (0, 0) _ rfl (h18_blk3 (Qh HR.out EV.out.b) _ _ _) Try.underlying31 rfl (by kernel_rfl)) rfl ⟨rfl, h18_below3 (Qm HB.out EV.out.b) (by have := HGB.out; have := HGR.out; omega) _ _ _⟩
end Go.Proofs.Ythgedejnpgcacaa.V
namespace Go.Proofs.Ythgedejnpgcacaa.V
open Go.RowKit Go.Proofs.YthgedejnpgcacaaW.PrintWords
set_option linter.unusedVariables false
theorem Qp.calls (k : Nat) : ∀ (A0_0 : Option Addr) (c0_0 : Nat) (l0_0 : List S51) (A0_1 : Option Addr) (c0_1 : Nat) (l0_1 : List S56) (a1 : Int) (a2 : ByteArray) (a3 a4 : Int) (r1 : Bool) (r2 r3 : Int) (w : World)
    (hr0_0 : Kd.C k51 w A0_0 l0_0.length l0_0) (hc0_0 : l0_0.length ≤ c0_0) (hr0_1 : Kd.C k56 w A0_1 l0_1.length l0_1) (hc0_1 : l0_1.length ≤ c0_1) (h : Qp.f k l0_0 l0_1 a1 a2 a3 a4 = some (r1, r2, r3)),
    Calls Try.prog 12 #[.agg #[.slice A0_0 l0_0.length c0_0, .slice A0_1 l0_1.length c0_1], .int .i64 a1, .string a2, .int .i64 a3, .int .i64 a4] w fun e w' => e = .returned (.agg #[.bool r1, .int .i64 r2, .int .i64 r3]) ∧ Below w.heap.size w w' := by
  induction k with
  | zero => intro A0_0 c0_0 l0_0 A0_1 c0_1 l0_1 a1 a2 a3 a4 r1 r2 r3 w hr0_0 hc0_0 hr0_1 hc0_1 h; exact absurd h (by simp [Qp.f])
  | succ k ih =>
  intro A0_0 c0_0 l0_0 A0_1 c0_1 l0_1 a1 a2 a3 a4 r1 r2 r3 w hr0_0 hc0_0 hr0_1 hc0_1 h
  by_cases cf : a4 < 1
  · exact Qp.calls_sf k ih A0_0 c0_0 l0_0 A0_1 c0_1 l0_1 a1 a2 a3 a4 r1 r2 r3 w hr0_0 hc0_0 hr0_1 hc0_1 ⟨cf⟩ h
  by_cases ci : 0 ≤ a1 ∧ a1 < (l0_1.length : Int)
  · by_cases d0 : (Ql l0_1 a1).f0 = 0
    · exact Qp.calls_s0 k ih A0_0 c0_0 l0_0 A0_1 c0_1 l0_1 a1 a2 a3 a4 r1 r2 r3 w hr0_0 hc0_0 hr0_1 hc0_1 ⟨cf, ci, d0⟩ h
    by_cases d1 : (Ql l0_1 a1).f0 = 1
    · exact Qp.calls_s1 k ih A0_0 c0_0 l0_0 A0_1 c0_1 l0_1 a1 a2 a3 a4 r1 r2 r3 w hr0_0 hc0_0 hr0_1 hc0_1 ⟨cf, ci, d1⟩ h
    by_cases d2 : (Ql l0_1 a1).f0 = 2
    · exact Qp.calls_s2 k ih A0_0 c0_0 l0_0 A0_1 c0_1 l0_1 a1 a2 a3 a4 r1 r2 r3 w hr0_0 hc0_0 hr0_1 hc0_1 ⟨cf, ci, d2⟩ h
    by_cases d3 : (Ql l0_1 a1).f0 = 3
    · exact Qp.calls_s3 k ih A0_0 c0_0 l0_0 A0_1 c0_1 l0_1 a1 a2 a3 a4 r1 r2 r3 w hr0_0 hc0_0 hr0_1 hc0_1 ⟨cf, ci, d3⟩ h
    by_cases d4 : (Ql l0_1 a1).f0 = 4
    · exact Qp.calls_s4 k ih A0_0 c0_0 l0_0 A0_1 c0_1 l0_1 a1 a2 a3 a4 r1 r2 r3 w hr0_0 hc0_0 hr0_1 hc0_1 ⟨cf, ci, d4⟩ h
    by_cases d7 : (Ql l0_1 a1).f0 = 7
    · exact Qp.calls_s7 k ih A0_0 c0_0 l0_0 A0_1 c0_1 l0_1 a1 a2 a3 a4 r1 r2 r3 w hr0_0 hc0_0 hr0_1 hc0_1 ⟨cf, ci, d7⟩ h
    by_cases d8 : (Ql l0_1 a1).f0 = 8
    · exact Qp.calls_s8 k ih A0_0 c0_0 l0_0 A0_1 c0_1 l0_1 a1 a2 a3 a4 r1 r2 r3 w hr0_0 hc0_0 hr0_1 hc0_1 ⟨cf, ci, d8⟩ h
    by_cases d9 : (Ql l0_1 a1).f0 = 9
    · exact Qp.calls_s9 k ih A0_0 c0_0 l0_0 A0_1 c0_1 l0_1 a1 a2 a3 a4 r1 r2 r3 w hr0_0 hc0_0 hr0_1 hc0_1 ⟨cf, ci, d9⟩ h
    exact Qp.calls_s5 k ih A0_0 c0_0 l0_0 A0_1 c0_1 l0_1 a1 a2 a3 a4 r1 r2 r3 w hr0_0 hc0_0 hr0_1 hc0_1 ⟨cf, ci, d0, d1, d2, d3, d4, d7, d8, d9⟩ h
  · rw [Qp.f, if_neg cf, if_neg ci] at h
    exact absurd h (by simp)
end Go.Proofs.Ythgedejnpgcacaa.V
namespace Go.Proofs.Ythgedejnpgcacaa.V
open Go.RowKit Go.Proofs.YthgedejnpgcacaaW.PrintWords
set_option linter.unusedVariables false
def Ev {α : Type} (f : Nat → Option α) (v : α) : Prop := ∃ k, ∀ j, k ≤ j → f j = some v
section
variable {α β : Type}
theorem Ev.const (v : α) : Ev (fun _ => some v) v := ⟨0, fun _ _ => rfl⟩
theorem Ev.congr {f g : Nat → Option α} {v : α} (h : ∀ k, f k = g k) (hg : Ev g v) : Ev f v := by
  obtain ⟨k, hk⟩ := hg
  exact ⟨k, fun j hj => (h j).trans (hk j hj)⟩
theorem Ev.of_eq {f : Nat → Option α} {v : α} (h : ∀ k, f k = some v) : Ev f v := ⟨0, fun j _ => h j⟩
theorem Ev.succ {f g : Nat → Option α} {v : α} (h : ∀ k, f (k + 1) = g k) (hg : Ev g v) : Ev f v := by
  obtain ⟨k, hk⟩ := hg
  refine ⟨k + 1, fun j hj => ?_⟩
  cases j with
  | zero => omega
  | succ j => exact (h j).trans (hk j (by omega))
theorem Ev.bind {f : Nat → Option α} {g : Nat → α → Option β} {v : α} {u : β} (hf : Ev f v) (hg : Ev (fun k => g k v) u) : Ev (fun k => (f k).bind (g k)) u := by
  obtain ⟨k, hk⟩ := hf
  obtain ⟨m, hm⟩ := hg
  refine ⟨k + m, fun j hj => ?_⟩
  simp only [hk j (by omega), Option.bind_some]
  exact hm j (by omega)
theorem Ev.map {f : Nat → Option α} {g : α → Option β} {v : α} {u : β} (hf : Ev f v) (hg : g v = some u) : Ev (fun k => (f k).bind g) u := Ev.bind (g := fun _ => g) hf (Ev.of_eq fun _ => hg)
theorem Ev.shift {f : Nat → Option α} {v : α} (b : Nat) (h : Ev f v) : Ev (fun k => f (k + b)) v := by
  obtain ⟨k, hk⟩ := h
  exact ⟨k, fun j hj => hk (j + b) (by omega)⟩
theorem Ev.uniq {f : Nat → Option α} {v u : α} (h : Ev f v) (h' : Ev f u) : v = u := by
  obtain ⟨k, hk⟩ := h
  obtain ⟨m, hm⟩ := h'
  exact Option.some.inj ((hk (k + m) (by omega)).symm.trans (hm (k + m) (by omega)))
theorem Ev.out {f : Nat → Option α} {v : α} (h : Ev f v) : ∃ k, f k = some v := ⟨h.choose, h.choose_spec _ (Nat.le_refl _)⟩
theorem Ev.of_mono {f : Nat → Option α} {v : α} {k : Nat} (hm : ∀ k, LeO (f k) (f (k + 1))) (h : f k = some v) : Ev f v := by
  refine ⟨k, fun j hj => ?_⟩
  induction j with
  | zero => obtain rfl : k = 0 := by omega
            exact h
  | succ j ih =>
    rcases Nat.lt_or_ge j k with hlt | hge
    · obtain rfl : k = j + 1 := by omega
      exact h
    · exact hm j v (ih hge)
end
theorem w64p (n : Int) (h : -9223372036854775808 ≤ n ∧ n ≤ 9223372036854775807) : wrap64 n = n := by unfold wrap64; omega
end Go.Proofs.Ythgedejnpgcacaa.V
namespace Go.Proofs.Ythgedejnpgcacaa.Opens
open Go.RowKit Go.Proofs.YthgedejnpgcacaaW.PrintWords
set_option linter.unusedVariables false
def Opn {α : Type} (P : Program) (W : World) (d : Kd α) (t : TypeId) (ok : α → Prop) : Prop :=
  ∀ (H : Type) (enc : TypeId × Value → H) (fuel : Nat) (cs : List Value) (x : DataW H × List MemPlace), DataW.trod enc P W 0 (fun _ => true) true fuel t cs = some x → ∃ a, d.K W a cs ∧ ok a
section
variable {P : Program} {W : World} {t : TypeId}
theorem Opn.int {k : IntKind} (ht : P.underlying t = some (.int k)) : Opn P W (Kd.int k) t (fun n => (Lit.int k n).wf = true) := fun H enc fuel cs x h => by
  obtain ⟨n, rfl, _, hw⟩ := DataW.trod_int ht h
  exact ⟨n, rfl, hw⟩
theorem Opn.bool (ht : P.underlying t = some .bool) : Opn P W Kd.bool t (fun _ => True) := fun H enc fuel cs x h => by
  obtain ⟨n, rfl, _⟩ := DataW.trod_bool ht h
  exact ⟨n, rfl, trivial⟩
theorem Opn.string (ht : P.underlying t = some .string) : Opn P W Kd.string t (fun s => s.size ≤ maxLen) := fun H enc fuel cs x h => by
  obtain ⟨n, rfl, _, hw⟩ := DataW.trod_string ht h
  exact ⟨n, rfl, hw⟩
theorem Opn.iso {α β : Type} {d : Kd α} {ok : α → Prop} (f : β → α) (g : α → β) (hfg : ∀ a, f (g a) = a) (h : Opn P W d t ok) : Opn P W (Kd.iso d f) t (fun b => ok (f b)) := fun H enc fuel cs x hx => by
  obtain ⟨a, hk, ho⟩ := h H enc fuel cs x hx
  exact ⟨g a, show d.K W (f (g a)) cs by rw [hfg]; exact hk, show ok (f (g a)) by rw [hfg]; exact ho⟩
theorem Opn.imp {α : Type} {d : Kd α} {ok ok' : α → Prop} (h : Opn P W d t ok) (hi : ∀ a, ok a → ok' a) : Opn P W d t ok' := fun H enc fuel cs x hx => by
  obtain ⟨a, hk, ho⟩ := h H enc fuel cs x hx
  exact ⟨a, hk, hi a ho⟩
theorem lists_of {α : Type} (n : Nat) (R : Nat → α → Prop) (h : ∀ i, i < n → ∃ a, R i a) : ∃ l : List α, l.length = n ∧ ∀ i a, l[i]? = some a → R i a := by
  induction n with
  | zero => exact ⟨[], rfl, fun i a h => by simp at h⟩
  | succ n ih =>
    obtain ⟨l, hl, hr⟩ := ih (fun i hi => h i (by omega))
    obtain ⟨a, ha⟩ := h n (by omega)
    refine ⟨l ++ [a], by simp [hl], fun i b hb => ?_⟩
    by_cases hi : i < n
    · exact hr i b (by rwa [List.getElem?_append_left (by omega)] at hb)
    · have : i = n := by
        have := (List.getElem?_eq_some_iff.1 hb).1
        simp at this
        omega
      subst this
      rw [List.getElem?_append_right (by omega)] at hb
      simp [hl] at hb
      exact hb ▸ ha
theorem Opn.slice {α : Type} {e : TypeId} {d : Kd α} {ok : α → Prop} (e' : Nat) (ht : P.underlying t = some (.slice e)) (hc : P.cellsOf e = d.sz) (h : Opn P W d e ok) :
    Opn P W (Kd.slice e' d) t (fun l => l.length ≤ maxLen ∧ ∀ x ∈ l, ok x) := fun H enc fuel cs x hx => by
  rcases DataW.trod_slice ht hx with ⟨rfl, _⟩ | ⟨a, len, cap, elems, rest, n, _, rfl, _, _, hl, hm, hlen, hel, _, _⟩
  · exact ⟨[], ⟨none, 0, rfl, Nat.le_refl _, rfl, Nat.zero_le _, fun h => absurd h (by simp)⟩, Nat.zero_le _, fun x h => by simp at h⟩
  · have hm' : len ≤ maxLen := Nat.le_trans hl hm
    obtain ⟨l, hll, hlr⟩ := lists_of len (fun i b => ∃ cs', W.cells? 0 (a.add (i * P.cellsOf e)) (P.cellsOf e) = some cs' ∧ d.K W b cs' ∧ ok b) (fun i hi => by
      have h1 := hel i hi
      have h2 : i < elems.length := by omega
      rw [List.getElem?_eq_getElem h2, Option.bind_eq_some_iff] at h1
      obtain ⟨cs', h3, h4⟩ := h1
      obtain ⟨b, h5, h6⟩ := h H enc n cs' _ h4
      exact ⟨b, cs', h3, h5, h6⟩)
    subst hll
    refine ⟨l, ⟨some a, cap, rfl, hl, rfl, hm', fun _ => ⟨a, rfl, fun j p hp => ?_⟩⟩, hm', fun y hy => ?_⟩
    · obtain ⟨cs', h1, h2, _⟩ := hlr j p hp
      obtain ⟨_, hlen', hget⟩ := World.cells?_some h1
      rw [hc] at hlen' hget
      exact ⟨cs', hlen', h2, fun i u hu => by
        have := hget i (by have := (List.getElem?_eq_some_iff.1 hu).1; omega)
        rw [← hu, ← this]
        congr 1
        exact (Addr.add_add _ _ _).symm⟩
    · obtain ⟨i, hi⟩ := List.getElem?_of_mem hy
      exact (hlr i y hi).choose_spec.2.2
def Pieces {H : Type} (enc : TypeId × Value → H) (P : Program) (W : World) (n : Nat) : List TypeId → List Value → Prop
  | [], cs => cs = []
  | t :: ts, cs => ∃ c1 c2 x, cs = c1 ++ c2 ∧ DataW.trod enc P W 0 (fun _ => true) true n t c1 = some x ∧ Pieces enc P W n ts c2
def OpnS {α : Type} (P : Program) (W : World) (d : Kd α) (ts : List TypeId) (ok : α → Prop) : Prop :=
  ∀ (H : Type) (enc : TypeId × Value → H) (n : Nat) (cs : List Value), Pieces enc P W n ts cs → ∃ a, d.K W a cs ∧ ok a
theorem OpnS.one {α : Type} {d : Kd α} {ok : α → Prop} (h : Opn P W d t ok) : OpnS P W d [t] ok := fun H enc n cs hp => by
  obtain ⟨c1, c2, x, rfl, hx, rfl⟩ := hp
  rw [List.append_nil]
  exact h H enc n c1 x hx
theorem OpnS.cons {α β : Type} {d : Kd α} {e : Kd β} {ok : α → Prop} {ok' : β → Prop} {ts : List TypeId} (h : Opn P W d t ok) (hs : OpnS P W e ts ok') : OpnS P W (Kd.pair d e) (t :: ts) (fun x => ok x.1 ∧ ok' x.2) := fun H enc n cs hp => by
  obtain ⟨c1, c2, x, rfl, hx, hp⟩ := hp
  obtain ⟨a, ha, hoa⟩ := h H enc n c1 x hx
  obtain ⟨b, hb, hob⟩ := hs H enc n c2 hp
  exact ⟨(a, b), ⟨c1, c2, rfl, ha, hb⟩, hoa, hob⟩
def offsB (P : Program) (total : Nat) : Nat → List Field → Bool
  | o, [] => o == total
  | o, f :: r => f.offset == o && offsB P total (o + P.cellsOf f.type) r
theorem pieces_of {H : Type} {enc : TypeId × Value → H} {n total : Nat} {cs : List Value} (hl : cs.length = total) :
    ∀ (fs : List Field) (o : Nat), offsB P total o fs = true → (∀ f ∈ fs, ∃ x, DataW.trod enc P W 0 (fun _ => true) true n f.type ((cs.drop f.offset).take (P.cellsOf f.type)) = some x) → Pieces enc P W n (fs.map (·.type)) (cs.drop o)
  | [], o, ho, _ => by
    simp [offsB] at ho
    simp [Pieces, ho, hl]
  | f :: r, o, ho, hf => by
    simp [offsB] at ho
    obtain ⟨x, hx⟩ := hf f (by simp)
    refine ⟨(cs.drop o).take (P.cellsOf f.type), cs.drop (o + P.cellsOf f.type), x, ?_, by rw [← ho.1]; exact hx, pieces_of hl r _ ho.2 (fun g hg => hf g (List.mem_cons_of_mem _ hg))⟩
    rw [← List.drop_drop, List.take_append_drop]
theorem Opn.struct {α : Type} {d : Kd α} {ok : α → Prop} {fs : Array Field} {ts : List TypeId} (ht : P.underlying t = some (.struct fs)) (hts : fs.toList.map (·.type) = ts) (ho : offsB P (P.cellsOf t) 0 fs.toList = true) (h : OpnS P W d ts ok) : Opn P W d t ok := fun H enc fuel cs x hx => by
  obtain ⟨xs, n, _, _, hl, hxs, hf⟩ := DataW.trod_struct ht hx
  refine h H enc n cs (hts ▸ ?_)
  have := pieces_of (enc := enc) (W := W) (n := n) hl fs.toList 0 ho (fun f hm => by
    obtain ⟨i, hi⟩ := List.getElem?_of_mem hm
    have hi' : fs[i]? = some f := by simpa using hi
    have h1 := hf i f hi'
    have h2 : i < xs.length := by rw [hxs]; exact (Array.getElem?_eq_some_iff.1 hi').1
    exact ⟨xs[i], by rw [h1]; simp⟩)
  simpa using this
theorem pieces_same {H : Type} {enc : TypeId × Value → H} {n k s : Nat} {e : TypeId} {cs : List Value} (hs : P.cellsOf e = s) (hl : cs.length = k * s) :
    ∀ (m i : Nat), i + m = k → (∀ j, j < k → ∃ x, DataW.trod enc P W 0 (fun _ => true) true n e ((cs.drop (j * s)).take s) = some x) → Pieces enc P W n (List.replicate m e) (cs.drop (i * s))
  | 0, i, hi, _ => by
    have : i = k := by omega
    subst this
    simp [Pieces, hl]
  | m + 1, i, hi, hf => by
    obtain ⟨x, hx⟩ := hf i (by omega)
    refine ⟨(cs.drop (i * s)).take s, cs.drop ((i + 1) * s), x, ?_, hx, pieces_same hs hl m (i + 1) (by omega) hf⟩
    rw [Nat.succ_mul, ← List.drop_drop, List.take_append_drop]
theorem Opn.array {α : Type} {d : Kd α} {ok : α → Prop} {n : Nat} {e : TypeId} (ht : P.underlying t = some (.array n e)) (hc : P.cellsOf t = n * P.cellsOf e) (h : OpnS P W d (List.replicate n e) ok) : Opn P W d t ok := fun H enc fuel cs x hx => by
  obtain ⟨xs, m, _, _, hl, hxs, hf⟩ := DataW.trod_array ht hx
  refine h H enc m cs ?_
  have := pieces_same (enc := enc) (W := W) (n := m) (k := n) (e := e) rfl (hl.trans hc) n 0 (by omega) (fun j hj => by
    have h2 : j < xs.length := by omega
    exact ⟨xs[j], by rw [hf j hj]; simp⟩)
  simpa using this
theorem okWide_array {r : Reach} {base : Nat} {v : Value} {n : Nat} {e : TypeId} (ht : P.underlying t = some (.array n e)) (h : Value.okWide P W r base t v) : ∃ cs, v = .agg cs ∧ cs.size = P.cellsOf t := by
  simp only [Value.okWide, ht] at h
  obtain ⟨cs, h1, h2, _⟩ := h
  exact ⟨cs, h1, h2⟩
theorem Opn.arg {α : Type} {d : Kd α} {ok : α → Prop} {H : Type} {enc : TypeId × Value → H} {v : Value} {x : DataW H} {ps : List MemPlace} (h : Opn P W d t ok) (hd : DataW.Trod enc P W 0 (fun _ => true) true t v x ps) : ∃ a, d.K W a v.cells.toList ∧ ok a := by
  obtain ⟨fuel, hf⟩ := hd
  exact h H enc fuel _ _ hf
theorem trod_lts {H : Type} {enc : TypeId × Value → H} {v : Value} {x : DataW H} {ps : List MemPlace} (hd : DataW.Trod enc P W 0 (fun _ => true) true t v x ps) : ∀ q ∈ ps, q.block < W.heap.size := by
  obtain ⟨m, hm⟩ := hd
  exact DataW.trod_lt m _ _ _ hm
end
end Go.Proofs.Ythgedejnpgcacaa.Opens
namespace Go.Proofs.Ythgedejnpgcacaa.V
open Go.RowKit Go.Proofs.Ythgedejnpgcacaa.Opens Go.Proofs.YthgedejnpgcacaaW.PrintWords
set_option linter.unusedVariables false
def Ok54 (x : S54) : Prop := (Lit.int .u64 x.f0).wf = true ∧ (Lit.int .u64 x.f1).wf = true ∧ (Lit.int .u64 x.f2).wf = true ∧ (Lit.int .u64 x.f3).wf = true
theorem opn54 (W : World) : Opn Try.prog W k54 54 Ok54 := (Opn.iso (fun x : S54 => (x.f0, x.f1, x.f2, x.f3)) (fun a => ⟨a.1, a.2.1, a.2.2.1, a.2.2.2⟩) (fun _ => rfl) (Opn.array Try.underlying54 (by kernel_rfl) (OpnS.cons (Opn.int Try.underlying52) (OpnS.cons (Opn.int Try.underlying52) (OpnS.cons (Opn.int Try.underlying52) (OpnS.one (Opn.int Try.underlying52))))))).imp (fun _ h => h)
def Ok56 (x : S56) : Prop := (Lit.int .i64 x.f0).wf = true ∧ (x.f1.length ≤ maxLen ∧ ∀ y ∈ x.f1, (Lit.int .i64 y).wf = true) ∧ (Lit.int .i64 x.f2).wf = true ∧ Ok54 x.f3
theorem opn56 (W : World) : Opn Try.prog W k56 56 Ok56 := (Opn.iso (fun x : S56 => (x.f0, x.f1, x.f2, x.f3)) (fun a => ⟨a.1, a.2.1, a.2.2.1, a.2.2.2⟩) (fun _ => rfl) (Opn.struct Try.underlying56 rfl (by kernel_rfl) (OpnS.cons (Opn.int Try.underlying3) (OpnS.cons (Opn.slice 3 Try.underlying41 (by kernel_rfl) (Opn.int Try.underlying3)) (OpnS.cons (Opn.int Try.underlying3) (OpnS.one (opn54 W))))))).imp (fun _ h => h)
def Ok51 (x : S51) : Prop := x.f0.size ≤ maxLen ∧ (Lit.int .i64 x.f1).wf = true
theorem opn51 (W : World) : Opn Try.prog W k51 51 Ok51 := (Opn.iso (fun x : S51 => (x.f0, x.f1)) (fun a => ⟨a.1, a.2⟩) (fun _ => rfl) (Opn.struct Try.underlying51 rfl (by kernel_rfl) (OpnS.cons (Opn.string Try.underlying9) (OpnS.one (Opn.int Try.underlying3))))).imp (fun _ h => h)
theorem opn25 (W : World) : Opn Try.prog W (Kd.pair (Kd.slice 51 k51) (Kd.slice 56 k56)) 25 (fun x => ((x.1.length ≤ maxLen ∧ ∀ y ∈ x.1, Ok51 y) ∧ (x.2.length ≤ maxLen ∧ ∀ y ∈ x.2, Ok56 y))) := (Opn.struct Try.underlying25 rfl (by kernel_rfl) (OpnS.cons (Opn.slice 51 Try.underlying22 (by kernel_rfl) (opn51 W)) (OpnS.one (Opn.slice 56 Try.underlying23 (by kernel_rfl) (opn56 W))))).imp (fun _ h => h)
theorem opn27 (W : World) : Opn Try.prog W (Kd.pair (Kd.int .u16) (Kd.int .u16)) 27 (fun x => ((Lit.int .u16 x.1).wf = true ∧ (Lit.int .u16 x.2).wf = true)) := (Opn.array Try.underlying27 (by kernel_rfl) (OpnS.cons (Opn.int Try.underlying26) (OpnS.one (Opn.int Try.underlying26)))).imp (fun _ h => h)
end Go.Proofs.Ythgedejnpgcacaa.V
namespace Go.Proofs.Ythgedejnpgcacaa.V
open Go.RowKit Go.Proofs.YthgedejnpgcacaaW.PrintWords
set_option linter.unusedVariables false
set_option linter.unusedSimpArgs false
abbrev RuleT := S51
abbrev NodeT := S56
abbrev nodeAt (G : List NodeT) (i : Int) : NodeT := Ql G i
abbrev ruleAt (R : List RuleT) (i : Int) : RuleT := rd_T51 R i
def Made (n : Int) (x : NodeT) : Prop :=
  0 ≤ x.f0 ∧ x.f0 ≤ 9 ∧ (x.f0 ≤ 2 → x.f1 = []) ∧ (x.f0 = 3 → 2 ≤ x.f1.length) ∧ (x.f0 = 4 → 2 ≤ x.f1.length) ∧ (5 ≤ x.f0 → x.f1.length = 1) ∧ (x.f0 = 2 → 0 ≤ x.f2 ∧ x.f2 < n) ∧ (x.f0 ≠ 2 → x.f2 = 0) ∧ (x.f0 ≠ 1 → x.f3.f0 = 0 ∧ x.f3.f1 = 0 ∧ x.f3.f2 = 0 ∧ x.f3.f3 = 0)
def KidsOk (G : List NodeT) (i : Int) : Prop := ∀ c ∈ (nodeAt G i).f1, 0 ≤ c ∧ c < i
structure WF (R : List RuleT) (G : List NodeT) : Prop where
  rules : 0 < R.length ∧ R.length ≤ 1000
  nodes : 0 < G.length ∧ G.length ≤ 10000
  made : ∀ i : Int, 0 ≤ i → i < (G.length : Int) → Made R.length (nodeAt G i)
  kids : ∀ i : Int, 0 ≤ i → i < (G.length : Int) → KidsOk G i
  roots : ∀ r : Int, 0 ≤ r → r < (R.length : Int) → 0 ≤ (ruleAt R r).f1 ∧ (ruleAt R r).f1 < (G.length : Int)
theorem letter_ev (c : Int) (b : Bool) : ∃ v, ∀ k : Nat, vetchref04_Letter.f c b = some v := by
  unfold vetchref04_Letter.f
  repeat' split
  all_goals exact ⟨_, fun _ => rfl⟩
theorem name_l0 (x : ByteArray) (hx : x.size ≤ maxLen) : ∀ (n : Nat) (i : Int), 0 ≤ i → i.toNat + n = x.size → ∃ v, Ev (fun k => Qu1.l0 k x i) v := by
  intro n
  induction n with
  | zero =>
    intro i h0 hn
    exact ⟨_, Ev.succ (g := fun _ => some _) (fun k => by rw [Qu1.l0, if_neg (by omega)]) (Ev.const _)⟩
  | succ n ih =>
    intro i h0 hn
    have hm : x.size ≤ 9223372036854775807 := hx
    obtain ⟨b, hb⟩ := letter_ev (bt x i) (i == 0)
    cases b with
    | true =>
      obtain ⟨v, hv⟩ := ih (wrap64 (i + 1)) (by rw [w64p _ (by omega)]; omega) (by rw [w64p _ (by omega)]; omega)
      exact ⟨v, Ev.succ (fun k => by rw [Qu1.l0, if_pos (by omega), if_pos h0, hb k, Option.bind_some, if_pos rfl]) hv⟩
    | false => exact ⟨false, Ev.succ (g := fun _ => some false) (fun k => by rw [Qu1.l0, if_pos (by omega), if_pos h0, hb k, Option.bind_some, if_neg (by decide)]) (Ev.const _)⟩
theorem name_ev (x : ByteArray) (hx : x.size ≤ maxLen) : ∃ v, Ev (fun k => Qu1.f k x) v := by
  obtain ⟨v, hv⟩ := name_l0 x hx x.size 0 (by omega) (by simp)
  exact ⟨v, hv⟩
theorem made_ev (n : Int) (x : NodeT) : ∃ v, Ev (fun k => Qe1.f k x.f0 x.f1 x.f2 x.f3.f0 x.f3.f1 x.f3.f2 x.f3.f3 n) v ∧ (v = true → Made n x) := by
  obtain ⟨op, kids, rule, s0, s1, s2, s3⟩ := x
  have hj1 : ∀ b : Bool, ∃ v, (∀ k, Qe1.j1 (k + 1) n b op kids rule s0 s1 s2 s3 = some v) ∧ (v = true → b = false ∧ (op = 2 → 0 ≤ rule ∧ rule < n) ∧ (op ≠ 2 → rule = 0) ∧ (op ≠ 1 → s0 = 0 ∧ s1 = 0 ∧ s2 = 0 ∧ s3 = 0)) := by
    intro b
    simp only [Qe1.j1]
    repeat' split
    all_goals refine ⟨_, fun _ => rfl, ?_⟩
    all_goals simp_all
    all_goals omega
  have hj0 : ∀ b : Bool, ∃ v, (∀ k, Qe1.j0 (k + 2) n b op kids rule s0 s1 s2 s3 = some v) ∧ (v = true → b = false ∧ (op ≤ 2 → kids.length = 0) ∧ (op = 3 → 2 ≤ kids.length) ∧ (op = 4 → 2 ≤ kids.length) ∧ (5 ≤ op → kids.length = 1) ∧ (op = 2 → 0 ≤ rule ∧ rule < n) ∧ (op ≠ 2 → rule = 0) ∧ (op ≠ 1 → s0 = 0 ∧ s1 = 0 ∧ s2 = 0 ∧ s3 = 0)) := by
    intro b
    simp only [Qe1.j0]
    repeat' split
    all_goals first
      | exact ⟨_, fun _ => rfl, fun h => absurd h (by decide)⟩
      | (obtain ⟨v, h1, h2⟩ := hj1 true; exact ⟨v, h1, fun h => absurd (h2 h).1 (by decide)⟩)
      | (obtain ⟨v, h1, h2⟩ := hj1 false; refine ⟨v, h1, fun h => ?_⟩; obtain ⟨_, h3, h4, h5⟩ := h2 h; refine ⟨by simp_all, by omega, by omega, by omega, by omega, h3, h4, h5⟩)
      | (obtain ⟨v, h1, h2⟩ := hj1 ((kids.length : Int) != 1); refine ⟨v, h1, fun h => ?_⟩; obtain ⟨h6, h3, h4, h5⟩ := h2 h; have h7 : (kids.length : Int) = 1 := by simpa using h6
         refine ⟨by simp_all, by omega, by omega, by omega, by omega, h3, h4, h5⟩)
  have hf : ∃ v, (∀ k, Qe1.f (k + 2) op kids rule s0 s1 s2 s3 n = some v) ∧ (v = true → 0 ≤ op ∧ op ≤ 9 ∧ (op ≤ 2 → kids.length = 0) ∧ (op = 3 → 2 ≤ kids.length) ∧ (op = 4 → 2 ≤ kids.length) ∧ (5 ≤ op → kids.length = 1) ∧ (op = 2 → 0 ≤ rule ∧ rule < n) ∧ (op ≠ 2 → rule = 0) ∧ (op ≠ 1 → s0 = 0 ∧ s1 = 0 ∧ s2 = 0 ∧ s3 = 0)) := by
    unfold Qe1.f
    split
    · obtain ⟨v, h1, h2⟩ := hj0 true
      exact ⟨v, h1, fun h => absurd (h2 h).1 (by decide)⟩
    · rename_i h0
      obtain ⟨v, h1, h2⟩ := hj0 (decide (op > 9))
      refine ⟨v, h1, fun h => ?_⟩
      obtain ⟨h3, h4⟩ := h2 h
      have h5 : ¬ op > 9 := by simpa using h3
      exact ⟨by omega, by omega, h4⟩
  obtain ⟨v, h1, h2⟩ := hf
  refine ⟨v, ⟨2, fun j hj => ?_⟩, fun h => ?_⟩
  · obtain ⟨k, rfl⟩ : ∃ k, j = k + 2 := ⟨j - 2, by omega⟩
    exact h1 k
  · obtain ⟨a, b, c, d⟩ := h2 h
    exact ⟨a, b, fun h => List.length_eq_zero_iff.1 (c h), d⟩
theorem expr_ev (R : List RuleT) (G : List NodeT) (hG : G.length ≤ maxLen) (hk : ∀ i : Int, 0 ≤ i → i < (G.length : Int) → (nodeAt G i).f1.length ≤ maxLen) :
    ∀ (n : Nat) (i : Int), i < (G.length : Int) → i < (n : Int) → ∃ v, Ev (fun k => Qp1.f k R G i) v ∧ (v = -2 ∨ (-1 ≤ v ∧ v < i ∧ ∀ j, v < j → j ≤ i → KidsOk G j)) := by
  have hG' : G.length ≤ 9223372036854775807 := hG
  have neg : ∀ i : Int, i < 0 → ∃ v, Ev (fun k => Qp1.f k R G i) v ∧ (v = -2 ∨ (-1 ≤ v ∧ v < i ∧ ∀ j, v < j → j ≤ i → KidsOk G j)) := fun i hi =>
    ⟨-2, Ev.succ (g := fun _ => some (-2)) (fun k => by rw [Qp1.f, if_pos hi]) (Ev.const _), .inl rfl⟩
  intro n
  induction n with
  | zero => exact fun i _ hi => neg i (by omega)
  | succ n ih =>
    intro i hl hi
    by_cases h0 : i < 0
    · exact neg i h0
    have hkl : (nodeAt G i).f1.length ≤ 9223372036854775807 := hk i (by omega) hl
    have loop : ∀ (m : Nat) (a : Int), m ≤ (nodeAt G i).f1.length → -1 ≤ a → a < i → (∀ j, a < j → j < i → KidsOk G j) → (∀ p : Nat, m ≤ p → p < (nodeAt G i).f1.length → a < rd (nodeAt G i).f1 p ∧ rd (nodeAt G i).f1 p < i) →
        ∃ v, Ev (fun k => Qp1.l0 k i a ((m : Int) - 1) R G) v ∧ (v = -2 ∨ (-1 ≤ v ∧ v < i ∧ (∀ j, v < j → j < i → KidsOk G j) ∧ ∀ p : Nat, p < (nodeAt G i).f1.length → v < rd (nodeAt G i).f1 p ∧ rd (nodeAt G i).f1 p < i)) := by
      intro m
      induction m with
      | zero =>
        intro a hm ha1 ha2 hn hp
        exact ⟨a, Ev.succ (g := fun _ => some a) (fun k => by rw [Qp1.l0, if_neg (by omega)]) (Ev.const _), .inr ⟨ha1, ha2, hn, fun p hp' => hp p (by omega) hp'⟩⟩
      | succ m ihm =>
        intro a hm ha1 ha2 hn hp
        by_cases hkid : rd (nodeAt G i).f1 ((m : Int) + 1 - 1) = a
        · obtain ⟨v, hv, hs⟩ := ih a (by omega) (by omega)
          have step : ∀ k, Qp1.l0 (k + 1) i a (((m + 1 : Nat) : Int) - 1) R G = (Qp1.f k R G a).bind fun t => if t = (-2) then some (-2) else Qp1.l0 k i t (wrap64 (((m + 1 : Nat) : Int) - 1 - 1)) R G := fun k => by
            rw [Qp1.l0, if_pos (by omega), if_pos (by omega), if_pos hl, if_pos (by omega), if_pos (by show _ < ((nodeAt G i).f1.length : Int); omega), if_pos (by push_cast; exact hkid)]
          rcases hs with rfl | ⟨h1, h2, h3⟩
          · exact ⟨-2, Ev.succ step (Ev.bind hv (Ev.of_eq fun _ => if_pos rfl)), .inl rfl⟩
          · obtain ⟨u, hu, hus⟩ := ihm v (by omega) h1 (by omega) (fun j hj1 hj2 => by
                by_cases hja : j ≤ a
                · exact h3 j hj1 hja
                · exact hn j (by omega) hj2) (fun p hp1 hp2 => by
                by_cases hpm : p = m
                · subst hpm
                  rw [show ((p : Nat) : Int) = (p : Int) + 1 - 1 by omega, hkid]
                  omega
                · have := hp p (by omega) hp2
                  omega)
            refine ⟨u, Ev.succ step (Ev.bind hv (Ev.congr (fun k => if_neg (by omega)) ?_)), hus⟩
            rw [w64p _ (by omega), show ((m + 1 : Nat) : Int) - 1 - 1 = (m : Int) - 1 by omega]
            exact hu
        · refine ⟨-2, Ev.succ (g := fun _ => some (-2)) (fun k => by
            rw [Qp1.l0, if_pos (by omega), if_pos (by omega), if_pos hl, if_pos (by omega), if_pos (by show _ < ((nodeAt G i).f1.length : Int); omega), if_neg (by push_cast; exact hkid)]) (Ev.const _), .inl rfl⟩
    obtain ⟨v, hv, hs⟩ := loop (nodeAt G i).f1.length (i - 1) (Nat.le_refl _) (by omega) (by omega) (fun j h1 h2 => absurd h2 (by omega)) (fun p h1 h2 => absurd h2 (by omega))
    refine ⟨v, Ev.succ (fun k => by rw [Qp1.f, if_neg h0, if_pos (by omega), if_pos hl, w64p _ (by omega), w64p _ (by show _ ≤ ((nodeAt G i).f1.length : Int) - 1 ∧ ((nodeAt G i).f1.length : Int) - 1 ≤ _; omega)]) hv, ?_⟩
    rcases hs with rfl | ⟨h1, h2, h3, h4⟩
    · exact .inl rfl
    · refine .inr ⟨h1, h2, fun j hj1 hj2 => ?_⟩
      by_cases hji : j = i
      · subst hji
        intro c hc
        obtain ⟨p, hp, rfl⟩ := List.getElem_of_mem hc
        have := h4 p hp
        have e : rd (nodeAt G j).f1 p = (nodeAt G j).f1[p] := by
          unfold rd
          rw [List.getD_eq_getElem?_getD, show (p : Int).toNat = p by omega, List.getElem?_eq_getElem hp]
          rfl
        rw [e] at this
        omega
      · exact h3 j hj1 (by omega)
theorem ordered_ev (R : List RuleT) (G : List NodeT) (hR : R.length ≤ maxLen) (hG : G.length ≤ maxLen) (hk : ∀ i : Int, 0 ≤ i → i < (G.length : Int) → (nodeAt G i).f1.length ≤ maxLen) :
    ∃ v, Ev (fun k => Qs1.f k R G) v ∧ (v = true → (∀ i : Int, 0 ≤ i → i < (G.length : Int) → KidsOk G i) ∧ ∀ r : Int, 0 ≤ r → r < (R.length : Int) → 0 ≤ (ruleAt R r).f1 ∧ (ruleAt R r).f1 < (G.length : Int)) := by
  have hG' : G.length ≤ 9223372036854775807 := hG
  have hR' : R.length ≤ 9223372036854775807 := hR
  have loop : ∀ (n : Nat) (i b : Int), 0 ≤ i → i.toNat + n = R.length → -1 ≤ b → b < (G.length : Int) → (∀ j, 0 ≤ j → j ≤ b → KidsOk G j) → (∀ r, 0 ≤ r → r < i → 0 ≤ (ruleAt R r).f1 ∧ (ruleAt R r).f1 < (G.length : Int)) →
      ∃ v, Ev (fun k => Qs1.l0 k b i R G) v ∧ (v = true → (∀ i : Int, 0 ≤ i → i < (G.length : Int) → KidsOk G i) ∧ ∀ r : Int, 0 ≤ r → r < (R.length : Int) → 0 ≤ (ruleAt R r).f1 ∧ (ruleAt R r).f1 < (G.length : Int)) := by
    intro n
    induction n with
    | zero =>
      intro i b h0 hn hb1 hb2 hj hr
      refine ⟨b == wrap64 ((G.length : Int) - 1), Ev.succ (g := fun _ => some _) (fun k => by rw [Qs1.l0, if_neg (by omega)]) (Ev.const _), fun hv => ?_⟩
      have hb : b = (G.length : Int) - 1 := by
        have := beq_iff_eq.1 hv
        rwa [w64p _ (by omega)] at this
      exact ⟨fun j h1 h2 => hj j h1 (by omega), fun r h1 h2 => hr r h1 (by omega)⟩
    | succ n ih =>
      intro i b h0 hn hb1 hb2 hj hr
      by_cases c1 : (ruleAt R i).f1 ≤ b
      · exact ⟨false, Ev.succ (g := fun _ => some false) (fun k => by rw [Qs1.l0, if_pos (by omega), if_pos h0, if_pos c1]) (Ev.const _), fun h => absurd h (by decide)⟩
      by_cases c2 : (ruleAt R i).f1 ≥ (G.length : Int)
      · exact ⟨false, Ev.succ (g := fun _ => some false) (fun k => by rw [Qs1.l0, if_pos (by omega), if_pos h0, if_neg c1, if_pos c2]) (Ev.const _), fun h => absurd h (by decide)⟩
      obtain ⟨v, hv, hs⟩ := expr_ev R G hG hk G.length (ruleAt R i).f1 (by omega) (by omega)
      have step : ∀ k, Qs1.l0 (k + 1) b i R G = (Qp1.f k R G (ruleAt R i).f1).bind fun t => if t = b then Qs1.l0 k (ruleAt R i).f1 (wrap64 (i + 1)) R G else some false := fun k => by
        rw [Qs1.l0, if_pos (by omega), if_pos h0, if_neg c1, if_neg c2]
      by_cases c3 : v = b
      · obtain ⟨u, hu, hus⟩ := ih (i + 1) (ruleAt R i).f1 (by omega) (by omega) (by omega) (by omega) (fun j h1 h2 => by
            by_cases hjb : j ≤ b
            · exact hj j h1 hjb
            · rcases hs with rfl | ⟨_, _, h5⟩
              · omega
              · exact h5 j (by omega) h2) (fun r h1 h2 => by
            by_cases hri : r = i
            · subst hri; omega
            · exact hr r h1 (by omega))
        refine ⟨u, Ev.succ step (Ev.bind hv (Ev.congr (fun k => if_pos c3) ?_)), hus⟩
        rw [w64p _ (by omega)]
        exact hu
      · exact ⟨false, Ev.succ step (Ev.bind hv (Ev.of_eq fun _ => if_neg c3)), fun h => absurd h (by decide)⟩
  obtain ⟨v, hv, hs⟩ := loop R.length 0 (-1) (by omega) (by simp) (by omega) (by omega) (fun j h1 h2 => absurd h2 (by omega)) (fun r h1 h2 => absurd h2 (by omega))
  exact ⟨v, hv, hs⟩
theorem depth_ev (R : List RuleT) (G : List NodeT) (hG : G.length ≤ maxLen) (hk : ∀ i : Int, 0 ≤ i → i < (G.length : Int) → (nodeAt G i).f1.length ≤ maxLen) (ho : ∀ i : Int, 0 ≤ i → i < (G.length : Int) → KidsOk G i) :
    ∀ (n : Nat) (i : Int), 0 ≤ i → i < (G.length : Int) → n ≤ 1000 → ∃ v, Ev (fun k => Qj1.f k R G i (n : Int)) v := by
  intro n
  induction n with
  | zero =>
    intro i h0 h1 _
    refine ⟨wrap64 (0 + 1), Ev.succ (fun k => by rw [Qj1.f]) (Ev.succ (g := fun _ => some _) (fun k => ?_) (Ev.const _))⟩
    rw [Qj1.l0, if_pos h0, if_pos h1]
    split
    · rfl
    · rfl
  | succ n ih =>
    intro i h0 h1 hn
    have hkl : (nodeAt G i).f1.length ≤ 9223372036854775807 := hk i h0 h1
    have loop : ∀ (m : Nat) (j d : Int), 0 ≤ j → j.toNat + m = (nodeAt G i).f1.length → ∃ v, Ev (fun k => Qj1.l0 k i ((n + 1 : Nat) : Int) d j R G) v := by
      intro m
      induction m with
      | zero =>
        intro j d hj hm
        exact ⟨wrap64 (d + 1), Ev.succ (g := fun _ => some _) (fun k => by rw [Qj1.l0, if_pos h0, if_pos h1, if_neg (by show ¬ _ < ((nodeAt G i).f1.length : Int); omega)]) (Ev.const _)⟩
      | succ m ihm =>
        intro j d hj hm
        have hjl : j < ((nodeAt G i).f1.length : Int) := by omega
        have hmem : rd (nodeAt G i).f1 j ∈ (nodeAt G i).f1 := by
          have h : j.toNat < (nodeAt G i).f1.length := by omega
          unfold rd
          rw [List.getD_eq_getElem?_getD, List.getElem?_eq_getElem h]
          exact List.getElem_mem h
        have hc := ho i h0 h1 _ hmem
        obtain ⟨v, hv⟩ := ih (rd (nodeAt G i).f1 j) hc.1 (by omega) (by omega)
        obtain ⟨u, hu⟩ := ihm (j + 1) (mx d v) (by omega) (by omega)
        refine ⟨u, Ev.succ (g := fun k => (Qj1.f k R G (rd (nodeAt G i).f1 j) (n : Int)).bind fun t => Qj1.l0 k i ((n + 1 : Nat) : Int) (mx d t) (j + 1) R G) (fun k => ?_) (Ev.bind hv hu)⟩
        rw [Qj1.l0, if_pos h0, if_pos h1, if_pos hjl, if_pos (by omega), if_pos hj, w64p (((n + 1 : Nat) : Int) - 1) (by omega), w64p (j + 1) (by omega), show ((n + 1 : Nat) : Int) - 1 = (n : Int) by omega]
    obtain ⟨v, hv⟩ := loop (nodeAt G i).f1.length 0 0 (by omega) (by simp)
    exact ⟨v, Ev.succ (fun k => by rw [Qj1.f]) hv⟩
theorem check_ev (R : List RuleT) (G : List NodeT) (hR : R.length ≤ maxLen ∧ ∀ y ∈ R, Ok51 y) (hG : G.length ≤ maxLen ∧ ∀ y ∈ G, Ok56 y) :
    ∃ v, Ev (fun k => Qz.f k R G) v ∧ (v.2.1 = 0 → WF R G) := by
  have hG' : G.length ≤ 9223372036854775807 := hG.1
  have hR' : R.length ≤ 9223372036854775807 := hR.1
  have memR : ∀ r : Int, 0 ≤ r → r < (R.length : Int) → ruleAt R r ∈ R := fun r h0 h1 => by
    have h : r.toNat < R.length := by omega
    show R.getD r.toNat _ ∈ R
    rw [List.getD_eq_getElem?_getD, List.getElem?_eq_getElem h]
    exact List.getElem_mem h
  have memG : ∀ r : Int, 0 ≤ r → r < (G.length : Int) → nodeAt G r ∈ G := fun r h0 h1 => by
    have h : r.toNat < G.length := by omega
    show G.getD r.toNat _ ∈ G
    rw [List.getD_eq_getElem?_getD, List.getElem?_eq_getElem h]
    exact List.getElem_mem h
  have hk : ∀ i : Int, 0 ≤ i → i < (G.length : Int) → (nodeAt G i).f1.length ≤ maxLen := fun i h0 h1 => (hG.2 _ (memG i h0 h1)).2.1.1
  have no : ∀ {f : Nat → Option (ByteArray × Int × Int)} {a : ByteArray} {c o : Int} {p : Prop}, c ≠ 0 → Ev f (a, c, o) → ∃ v, Ev f v ∧ (v.2.1 = 0 → p) := fun hc h => ⟨_, h, fun h' => absurd h' hc⟩
  have l3 : (∀ i : Int, 0 ≤ i → i < (G.length : Int) → KidsOk G i) → ∀ (n : Nat) (i : Int), 0 ≤ i → i.toNat + n = G.length → ∃ v, Ev (fun k => Qz.l3 k i R G) v ∧ (v.2.1 = 0 → True) := by
    intro ho n
    induction n with
    | zero => exact fun i h0 hn => ⟨_, Ev.succ (g := fun _ => some _) (fun k => by rw [Qz.l3, if_neg (by omega)]) (Ev.const _), fun _ => trivial⟩
    | succ n ih =>
      intro i h0 hn
      obtain ⟨d, hd⟩ := depth_ev R G hG.1 hk ho 205 i h0 (by omega) (by omega)
      have step : ∀ k, Qz.l3 (k + 1) i R G = (Qj1.f k R G i 205).bind fun t => if t > 200 then some ((⟨#[110, 111, 100, 101, 115]⟩ : ByteArray), 5, i) else Qz.l3 k (wrap64 (i + 1)) R G := fun k => by rw [Qz.l3, if_pos (by omega)]
      by_cases c : d > 200
      · exact ⟨_, Ev.succ step (Ev.bind hd (Ev.of_eq fun _ => if_pos c)), fun _ => trivial⟩
      · obtain ⟨v, hv, hs⟩ := ih (i + 1) (by omega) (by omega)
        refine ⟨v, Ev.succ step (Ev.bind hd (Ev.congr (fun k => if_neg c) ?_)), hs⟩
        rw [w64p _ (by omega)]
        exact hv
  have l2 : 0 < R.length → R.length ≤ 1000 → G.length ≤ 10000 → ∀ (n : Nat) (i : Int), 0 ≤ i → i.toNat + n = G.length → (∀ j : Int, 0 ≤ j → j < i → Made R.length (nodeAt G j)) → ∃ v, Ev (fun k => Qz.l2 k i R G) v ∧ (v.2.1 = 0 → WF R G) := by
    intro hr1 hr2 hg n
    induction n with
    | zero =>
      intro i h0 hn hm
      obtain ⟨b, hb, hbs⟩ := ordered_ev R G hR.1 hG.1 hk
      have step : ∀ k, Qz.l2 (k + 1) i R G = (Qs1.f k R G).bind fun t => if t = true then Qz.l3 k 0 R G else some ((⟨#[]⟩ : ByteArray), 10, 0) := fun k => by rw [Qz.l2, if_neg (by omega)]
      cases b with
      | false => exact no (by decide) (Ev.succ step (Ev.bind hb (Ev.of_eq fun _ => if_neg (by decide))))
      | true =>
        obtain ⟨hkids, hroots⟩ := hbs rfl
        obtain ⟨v, hv, _⟩ := l3 hkids G.length 0 (by omega) (by simp)
        refine ⟨v, Ev.succ step (Ev.bind hb (Ev.congr (fun k => if_pos rfl) hv)), fun _ => ⟨⟨hr1, hr2⟩, ⟨?_, hg⟩, fun j h1 h2 => hm j h1 (by omega), hkids, hroots⟩⟩
        have := hroots 0 (by omega) (by omega)
        omega
    | succ n ih =>
      intro i h0 hn hm
      obtain ⟨b, hb, hbs⟩ := made_ev R.length (nodeAt G i)
      have step : ∀ k, Qz.l2 (k + 1) i R G = (Qe1.f k (nodeAt G i).f0 (nodeAt G i).f1 (nodeAt G i).f2 (nodeAt G i).f3.f0 (nodeAt G i).f3.f1 (nodeAt G i).f3.f2 (nodeAt G i).f3.f3 (R.length : Int)).bind fun t => if t = true then Qz.l2 k (wrap64 (i + 1)) R G else some ((⟨#[110, 111, 100, 101, 115]⟩ : ByteArray), 10, i) := fun k => by rw [Qz.l2, if_pos (by omega), if_pos h0]
      cases b with
      | false => exact no (by decide) (Ev.succ step (Ev.bind hb (Ev.of_eq fun _ => if_neg (by decide))))
      | true =>
        obtain ⟨v, hv, hs⟩ := ih (i + 1) (by omega) (by omega) (fun j h1 h2 => by
          by_cases hji : j = i
          · subst hji; exact hbs rfl
          · exact hm j h1 (by omega))
        refine ⟨v, Ev.succ step (Ev.bind hb (Ev.congr (fun k => if_pos rfl) ?_)), hs⟩
        rw [w64p _ (by omega)]
        exact hv
  have l0 : 0 < R.length → R.length ≤ 1000 → G.length ≤ 10000 → ∀ (n : Nat) (i : Int), 0 ≤ i → i.toNat + n = R.length → ∃ v, Ev (fun k => Qz.l0 k i R G) v ∧ (v.2.1 = 0 → WF R G) := by
    intro hr1 hr2 hg n
    induction n with
    | zero =>
      intro i h0 hn
      obtain ⟨v, hv, hs⟩ := l2 hr1 hr2 hg G.length 0 (by omega) (by simp) (fun j h1 h2 => absurd h2 (by omega))
      exact ⟨v, Ev.succ (fun k => by rw [Qz.l0, if_neg (by omega)]) hv, hs⟩
    | succ n ih =>
      intro i h0 hn
      have l1 : ∀ (m : Nat) (j : Int), 0 ≤ j → j ≤ i → j.toNat + m = i.toNat → ∃ v, Ev (fun k => Qz.l1 k i j R G) v ∧ (v.2.1 = 0 → WF R G) := by
        intro m
        induction m with
        | zero =>
          intro j hj0 hj hm
          obtain ⟨v, hv, hs⟩ := ih (i + 1) (by omega) (by omega)
          refine ⟨v, Ev.succ (fun k => by rw [Qz.l1, if_neg (by omega)]) ?_, hs⟩
          rw [w64p _ (by omega)]
          exact hv
        | succ m ihm =>
          intro j hj0 hj hm
          by_cases c : ((ruleAt R j).f0).toList = ((ruleAt R i).f0).toList
          · exact no (c := 10) (by decide) (Ev.succ (g := fun _ => some ((⟨#[114, 117, 108, 101, 115]⟩ : ByteArray), 10, i)) (fun k => by rw [Qz.l1, if_pos (by omega), if_pos hj0, if_pos (by omega), if_pos h0, if_pos (by omega), if_pos c]) (Ev.const _))
          · obtain ⟨v, hv, hs⟩ := ihm (j + 1) (by omega) (by omega) (by omega)
            refine ⟨v, Ev.succ (fun k => by rw [Qz.l1, if_pos (by omega), if_pos hj0, if_pos (by omega), if_pos h0, if_pos (by omega), if_neg c]) ?_, hs⟩
            rw [w64p _ (by omega)]
            exact hv
      obtain ⟨b, hb⟩ := name_ev (ruleAt R i).f0 (hR.2 _ (memR i h0 (by omega))).1
      have step : ∀ k, Qz.l0 (k + 1) i R G = (Qu1.f k (ruleAt R i).f0).bind fun t => if t = true then Qz.l1 k i 0 R G else some ((⟨#[114, 117, 108, 101, 115]⟩ : ByteArray), 10, i) := fun k => by rw [Qz.l0, if_pos (by omega), if_pos h0]
      cases b with
      | false => exact no (by decide) (Ev.succ step (Ev.bind hb (Ev.of_eq fun _ => if_neg (by decide))))
      | true =>
        obtain ⟨v, hv, hs⟩ := l1 i.toNat 0 (by omega) h0 (by simp)
        exact ⟨v, Ev.succ step (Ev.bind hb (Ev.congr (fun k => if_pos rfl) hv)), hs⟩
  unfold Qz.f
  by_cases c1 : (R.length : Int) > 1000
  · exact no (c := 4) (by decide) (Ev.congr (fun k => if_pos c1) (Ev.succ (g := fun _ => some ((⟨#[]⟩ : ByteArray), 4, 0)) (fun k => by rw [Qz.j0, if_pos rfl]) (Ev.const _)))
  by_cases c2 : (G.length : Int) > 10000
  · exact no (c := 4) (by decide) (Ev.congr (fun k => if_neg c1) (Ev.succ (g := fun _ => some ((⟨#[]⟩ : ByteArray), 4, 0)) (fun k => by rw [Qz.j0, if_pos (by simpa using c2)]) (Ev.const _)))
  by_cases c3 : (R.length : Int) = 0
  · exact no (c := 10) (by decide) (Ev.congr (fun k => if_neg c1) (Ev.succ (g := fun _ => some ((⟨#[114, 117, 108, 101, 115]⟩ : ByteArray), 10, 0)) (fun k => by rw [Qz.j0, if_neg (by simpa using c2), if_pos c3]) (Ev.const _)))
  obtain ⟨v, hv, hs⟩ := l0 (by omega) (by omega) (by omega) R.length 0 (by omega) (by simp)
  exact ⟨v, Ev.congr (fun k => if_neg c1) (Ev.succ (fun k => by rw [Qz.j0, if_neg (by simpa using c2), if_neg c3]) hv), hs⟩
theorem valid_ev (R : List RuleT) (G : List NodeT) (hR : R.length ≤ maxLen ∧ ∀ y ∈ R, Ok51 y) (hG : G.length ≤ maxLen ∧ ∀ y ∈ G, Ok56 y) :
    ∃ v, Ev (fun k => vetchref05_Valid.f k R G) v ∧ (v = true → WF R G) := by
  obtain ⟨v, hv, hs⟩ := check_ev R G hR hG
  exact ⟨v.2.1 == 0, Ev.bind hv (Ev.const _), fun h => hs (beq_iff_eq.1 h)⟩
end Go.Proofs.Ythgedejnpgcacaa.V
namespace Go.Proofs.Ythgedejnpgcacaa.V
open Go.RowKit Go.Proofs.YthgedejnpgcacaaW.PrintWords
set_option linter.unusedVariables false
theorem has_l0 : ∀ (n : Nat) (c v i : Int), 0 ≤ i → i.toNat + n = (c % 64).toNat → Ev (fun k => Qc2.l0 k c v i) (v / 2 ^ n % 2 == 1) := by
  intro n
  induction n with
  | zero =>
    intro c v i h0 hn
    exact Ev.succ (g := fun _ => some _) (fun k => by rw [Qc2.l0, if_neg (by omega), Int.pow_zero, Int.ediv_one]) (Ev.const _)
  | succ n ih =>
    intro c v i h0 hn
    have := ih c (v / 2) (i + 1) (by omega) (by omega)
    rw [Int.ediv_ediv_of_nonneg (by decide), show (2 : Int) * 2 ^ n = 2 ^ (n + 1) by rw [Int.pow_succ, Int.mul_comm]] at this
    exact Ev.succ (fun k => by rw [Qc2.l0, if_pos (by omega)]) this
theorem has_ev (s : S54) (hs : Ok54 s) (c : Int) (h0 : 0 ≤ c) (h1 : c ≤ 255) :
    ∃ b, byteset_Has.f s.f0 s.f1 s.f2 s.f3 c = some b ∧ Ev (fun k => Qc2.f k s.f0 s.f1 s.f2 s.f3 c) b := by
  obtain ⟨w0, w1, w2, w3⟩ := hs
  simp [Lit.wf, IntKind.min, IntKind.max, IntKind.signed, IntKind.bits] at w0 w1 w2 w3
  have hv : 0 ≤ arr4 s.f0 s.f1 s.f2 s.f3 (c / 64) ∧ arr4 s.f0 s.f1 s.f2 s.f3 (c / 64) ≤ 18446744073709551615 := by unfold arr4; repeat' split <;> omega
  generalize hvv : arr4 s.f0 s.f1 s.f2 s.f3 (c / 64) = v at hv
  have hl := has_l0 (c % 64).toNat c v 0 (by omega) (by omega)
  refine ⟨_, by unfold byteset_Has.f; rw [if_pos h0, if_pos h1, hvv], ?_⟩
  have e : (bits .and .u64 (v / 2 ^ (c % 64).toNat) 1 == 1) = (v / 2 ^ (c % 64).toNat % 2 == 1) := by
    have hp : (0 : Int) < 2 ^ (c % 64).toNat := Int.pow_pos (by decide)
    have h2 : 0 ≤ v / 2 ^ (c % 64).toNat := Int.ediv_nonneg hv.1 (by omega)
    have h3 : v / 2 ^ (c % 64).toNat ≤ v := Int.ediv_le_self _ hv.1
    generalize v / 2 ^ (c % 64).toNat = y at h2 h3
    obtain ⟨m, rfl⟩ := Int.eq_ofNat_of_zero_le h2
    have := bits_and_u64_nat m 1 (by omega) (by decide)
    rw [show ((1 : Nat) : Int) = 1 from rfl] at this
    rw [this, Nat.and_one_is_mod, Int.natCast_emod]
    rfl
  rw [e]
  exact Ev.congr (fun k => by unfold Qc2.f; rw [if_pos h0, if_pos h1, if_pos ⟨⟨w0.1, w0.2⟩, ⟨w1.1, w1.2⟩, ⟨w2.1, w2.2⟩, ⟨w3.1, w3.2⟩⟩, hvv]) hl
end Go.Proofs.Ythgedejnpgcacaa.V
namespace Go.Proofs.Ythgedejnpgcacaa.V
open Go.RowKit Go.Proofs.YthgedejnpgcacaaW.PrintWords
set_option linter.unusedVariables false
set_option linter.unusedSimpArgs false
set_option linter.unusedSectionVars false
structure Good (x : ByteArray) (a u : Int) (r : Bool × Int × Int) : Prop where
  known : r.1 = true → 0 ≤ r.2.2 ∧ r.2.2 ≤ u ∧ -1 ≤ r.2.1 ∧ r.2.1 ≤ (x.size : Int) ∧ (0 ≤ r.2.1 → a ≤ r.2.1)
  unk : r.1 = false → r.2.1 = 0 ∧ r.2.2 = 0
def Sim (x : ByteArray) (r : Bool × Int × Int) (q : Int × ByteArray × Int) : Prop := q.1 = (if r.1 = true then r.2.1 else -2) ∧ q.2.1 = x ∧ (r.1 = true → q.2.2 = r.2.2)
def NodeRel (R : List RuleT) (G : List NodeT) (x : ByteArray) (i a u : Int) : Prop :=
  ∃ r q, Ev (fun k => Qp.f k R G i x a u) r ∧ Ev (fun k => Qo1.f k R G x u i a) q ∧ Sim x r q ∧ Good x a (u - 1) r
section
variable {R : List RuleT} {G : List NodeT} {x : ByteArray} (hx : x.size ≤ 1000000) (hR : R.length ≤ 1000000) (hG : G.length ≤ 1000000) (hw : WF R G) (hok : ∀ y ∈ G, Ok56 y) (hkl : ∀ i : Int, 0 ≤ i → i < (G.length : Int) → (nodeAt G i).f1.length ≤ 9223372036854775807)
include hx hG hw hok hkl
theorem rd_in (xs : List Int) (j : Int) (h0 : 0 ≤ j) (h1 : j < (xs.length : Int)) : rd xs j ∈ xs := by
  have h : j.toNat < xs.length := by omega
  unfold rd
  rw [List.getD_eq_getElem?_getD, List.getElem?_eq_getElem h]
  exact List.getElem_mem h
omit hx hG hw hok hkl in
theorem rd_mem56 (G : List NodeT) (i : Int) (h0 : 0 ≤ i) (h1 : i < (G.length : Int)) : nodeAt G i ∈ G := by
  have h : i.toNat < G.length := by omega
  show G.getD i.toNat _ ∈ G
  rw [List.getD_eq_getElem?_getD, List.getElem?_eq_getElem h]
  exact List.getElem_mem h
omit hx hG hw hok hkl in
theorem good_weaken {a a' u u' : Int} {r : Bool × Int × Int} (h : Good x a u r) (ha : a' ≤ a) (hu : u ≤ u') : Good x a' u' r :=
  ⟨fun hk => by have := h.known hk; omega, h.unk⟩
theorem seq_rel (n : Int) (hn : n ≤ 1000000000) (ih : ∀ u, u ≤ n → ∀ i a, 0 ≤ i → i < (G.length : Int) → 0 ≤ a → a ≤ (x.size : Int) → NodeRel R G x i a u) (kids : List Int) (hk : ∀ c ∈ kids, 0 ≤ c ∧ c < (G.length : Int)) (hl : kids.length ≤ 9223372036854775807) :
    ∀ (m : Nat) (j : Int), 0 ≤ j → j.toNat + m = kids.length → ∀ a u, 0 ≤ u → u ≤ n → 0 ≤ a → a ≤ (x.size : Int) →
      ∃ r q, Ev (fun k => Qp.seqF (fun c a u => Qp.f k R G c x a u) (kids.drop j.toNat) a u) r ∧ Ev (fun k => Qx1.l0 k a kids (kids.length : Int) j R G x u) q ∧ Sim x r q ∧ Good x a u r := by
  intro m
  induction m with
  | zero =>
    intro j h0 hm a u hu0 hu ha0 ha
    refine ⟨(true, a, u), (a, x, u), Ev.of_eq fun k => by rw [List.drop_eq_nil_of_le (by omega), Qp.seqF], Ev.succ (g := fun _ => some _) (fun k => by rw [Qx1.l0, if_neg (by omega)]) (Ev.const _), ⟨by simp, rfl, fun _ => rfl⟩, ⟨fun _ => ?_, fun h => absurd h (by simp)⟩⟩
    exact ⟨hu0, Int.le_refl _, by show -1 ≤ a; omega, ha, fun _ => Int.le_refl _⟩
  | succ m ihm =>
    intro j h0 hm a u hu0 hu ha0 ha
    have hj : j < (kids.length : Int) := by omega
    have hc := hk _ (rd_in hx hG hw hok hkl kids j h0 hj)
    obtain ⟨r, q, hr, hq, hs, hg⟩ := ih u hu (rd kids j) a hc.1 hc.2 ha0 ha
    obtain ⟨r1, r2, r3⟩ := r
    obtain ⟨q1, q2, q3⟩ := q
    obtain ⟨s1, s2, s3⟩ := hs
    dsimp only at s1 s2 s3
    subst s2
    have stepR : ∀ k, Qp.seqF (fun c a u => Qp.f k R G c q2 a u) (kids.drop j.toNat) a u = (Qp.f k R G (rd kids j) q2 a u).bind fun r => if r.1 = true ∧ 0 ≤ r.2.1 then Qp.seqF (fun c a u => Qp.f k R G c q2 a u) (kids.drop (j + 1).toNat) r.2.1 r.2.2 else some r := fun k => by
      rw [h18_drop kids j h0 hj, Qp.seqF]
    have stepQ : ∀ k, Qx1.l0 (k + 1) a kids (kids.length : Int) j R G q2 u = (Qo1.f k R G q2 u (rd kids j) a).bind fun t => if t.1 < 0 then some (t.1, t.2.1, t.2.2) else Qx1.l0 k t.1 kids (kids.length : Int) (j + 1) R G t.2.1 t.2.2 := fun k => by
      rw [Qx1.l0, if_pos hj, if_pos h0, if_pos hj, w64p (j + 1) (by omega)]
    by_cases hc2 : r1 = true ∧ 0 ≤ r2
    · obtain ⟨rfl, hr2⟩ := hc2
      obtain ⟨g1, g2, g3, g4, g5⟩ := hg.known rfl
      dsimp only at g1 g2 g3 g4 g5
      obtain ⟨r', q', hr', hq', hs', hg'⟩ := ihm (j + 1) (by omega) (by omega) r2 r3 g1 (by omega) hr2 g4
      have e1 : q1 = r2 := by simpa using s1
      have e3 := s3 rfl
      subst e1 e3
      exact ⟨r', q', Ev.congr stepR (Ev.bind hr (Ev.congr (fun k => if_pos ⟨rfl, hr2⟩) hr')), Ev.succ stepQ (Ev.bind hq (Ev.congr (fun k => if_neg (by show ¬ q1 < 0; omega)) hq')), hs', good_weaken hg' (g5 hr2) (by omega)⟩
    · have hq0 : q1 < 0 := by
        rw [s1]
        split
        · rename_i h; have : ¬ 0 ≤ r2 := fun h2 => hc2 ⟨h, h2⟩; omega
        · omega
      exact ⟨(r1, r2, r3), (q1, q2, q3), Ev.congr stepR (Ev.bind hr (Ev.of_eq fun _ => if_neg hc2)), Ev.succ stepQ (Ev.bind hq (Ev.of_eq fun _ => if_pos hq0)), ⟨s1, rfl, s3⟩, good_weaken hg (Int.le_refl _) (by omega)⟩
theorem cho_rel (n : Int) (hn : n ≤ 1000000000) (ih : ∀ u, u ≤ n → ∀ i a, 0 ≤ i → i < (G.length : Int) → 0 ≤ a → a ≤ (x.size : Int) → NodeRel R G x i a u) (kids : List Int) (hk : ∀ c ∈ kids, 0 ≤ c ∧ c < (G.length : Int)) (hl : kids.length ≤ 9223372036854775807) (a : Int) (ha0 : 0 ≤ a) (ha : a ≤ (x.size : Int)) :
    ∀ (m : Nat) (j : Int), 0 ≤ j → j.toNat + m = kids.length → ∀ e u, 0 ≤ u → u ≤ n → e = -1 →
      ∃ r q, Ev (fun k => Qp.choF (fun c u => Qp.f k R G c x a u) (kids.drop j.toNat) e u) r ∧ Ev (fun k => Qw1.l0 k a kids (kids.length : Int) j R G x u) q ∧ Sim x r q ∧ Good x a u r := by
  intro m
  induction m with
  | zero =>
    intro j h0 hm e u hu0 hu he
    subst he
    refine ⟨(true, -1, u), (-1, x, u), Ev.of_eq fun k => by rw [List.drop_eq_nil_of_le (by omega), Qp.choF], Ev.succ (g := fun _ => some _) (fun k => by rw [Qw1.l0, if_neg (by omega)]) (Ev.const _), ⟨by simp, rfl, fun _ => rfl⟩, ⟨fun _ => ?_, fun h => absurd h (by simp)⟩⟩
    exact ⟨hu0, Int.le_refl _, Int.le_refl _, by show (-1 : Int) ≤ _; omega, fun h => absurd h (by simp)⟩
  | succ m ihm =>
    intro j h0 hm e u hu0 hu he
    have hj : j < (kids.length : Int) := by omega
    have hc := hk _ (rd_in hx hG hw hok hkl kids j h0 hj)
    obtain ⟨r, q, hr, hq, hs, hg⟩ := ih u hu (rd kids j) a hc.1 hc.2 ha0 ha
    obtain ⟨r1, r2, r3⟩ := r
    obtain ⟨q1, q2, q3⟩ := q
    obtain ⟨s1, s2, s3⟩ := hs
    dsimp only at s1 s2 s3
    subst s2
    have stepR : ∀ k, Qp.choF (fun c u => Qp.f k R G c q2 a u) (kids.drop j.toNat) e u = (Qp.f k R G (rd kids j) q2 a u).bind fun r => if r.1 = true ∧ r.2.1 < 0 then Qp.choF (fun c u => Qp.f k R G c q2 a u) (kids.drop (j + 1).toNat) r.2.1 r.2.2 else some r := fun k => by
      rw [h18_drop kids j h0 hj, Qp.choF]
    have stepQ : ∀ k, Qw1.l0 (k + 1) a kids (kids.length : Int) j R G q2 u = (Qo1.f k R G q2 u (rd kids j) a).bind fun t => if t.1 = (-1) then Qw1.l0 k a kids (kids.length : Int) (j + 1) R G t.2.1 t.2.2 else some (t.1, t.2.1, t.2.2) := fun k => by
      rw [Qw1.l0, if_pos hj, if_pos h0, if_pos hj, w64p (j + 1) (by omega)]
    by_cases hc2 : r1 = true ∧ r2 < 0
    · obtain ⟨rfl, hr2⟩ := hc2
      obtain ⟨g1, g2, g3, g4, g5⟩ := hg.known rfl
      dsimp only at g1 g2 g3 g4 g5
      have er : r2 = -1 := by omega
      subst er
      obtain ⟨r', q', hr', hq', hs', hg'⟩ := ihm (j + 1) (by omega) (by omega) (-1) r3 g1 (by omega) rfl
      have e1 : q1 = -1 := by simpa using s1
      have e3 := s3 rfl
      subst e1 e3
      exact ⟨r', q', Ev.congr stepR (Ev.bind hr (Ev.congr (fun k => if_pos ⟨rfl, hr2⟩) hr')), Ev.succ stepQ (Ev.bind hq (Ev.congr (fun k => if_pos rfl) hq')), hs', good_weaken hg' (Int.le_refl _) (by omega)⟩
    · have hq0 : q1 ≠ -1 := by
        rw [s1]
        split
        · rename_i h; have : ¬ r2 < 0 := fun h2 => hc2 ⟨h, h2⟩; omega
        · omega
      exact ⟨(r1, r2, r3), (q1, q2, q3), Ev.congr stepR (Ev.bind hr (Ev.of_eq fun _ => if_neg hc2)), Ev.succ stepQ (Ev.bind hq (Ev.of_eq fun _ => if_neg hq0)), ⟨s1, rfl, s3⟩, good_weaken hg (Int.le_refl _) (by omega)⟩
theorem rep_rel (n : Int) (hn : n ≤ 1000000000) (ih : ∀ u, u ≤ n → ∀ i a, 0 ≤ i → i < (G.length : Int) → 0 ≤ a → a ≤ (x.size : Int) → NodeRel R G x i a u) (c : Int) (hc0 : 0 ≤ c) (hc : c < (G.length : Int)) :
    ∀ (m : Nat) (u : Int), u.toNat = m → 0 ≤ u → u ≤ n → ∀ a, 0 ≤ a → a ≤ (x.size : Int) →
      ∃ r q, (∀ b last, Ev (fun k => Qp.repF (fun a u => Qp.f (k + b) R G c x a u) k last (true, a, u)) r) ∧ Ev (fun k => Qn1.l0 k c a R G x u) q ∧ Sim x r q ∧ Good x a u r ∧ (r.1 = true → 0 ≤ r.2.1) := by
  intro m
  induction m using Nat.strongRecOn with
  | _ m ihm =>
  intro u hm hu0 hu a ha0 ha
  obtain ⟨r, q, hr, hq, hs, hg⟩ := ih u hu c a hc0 hc ha0 ha
  obtain ⟨r1, r2, r3⟩ := r
  obtain ⟨q1, q2, q3⟩ := q
  obtain ⟨s1, s2, s3⟩ := hs
  dsimp only at s1 s2 s3
  subst s2
  have stepR : ∀ b last k, Qp.repF (fun a u => Qp.f (k + 1 + b) R G c q2 a u) (k + 1) last (true, a, u) = (Qp.f (k + (b + 1)) R G c q2 a u).bind fun t => Qp.repF (fun a u => Qp.f (k + (b + 1)) R G c q2 a u) k a t := fun b last k => by
    rw [Qp.repF, if_pos ⟨rfl, ha0⟩, show k + 1 + b = k + (b + 1) by omega]
  have stepQ : ∀ k, Qn1.l0 (k + 1) c a R G q2 u = (Qo1.f k R G q2 u c a).bind fun t => if t.1 = (-1) then some (a, t.2.1, t.2.2) else if t.1 = (-2) then some ((-2), t.2.1, t.2.2) else Qn1.l0 k c t.1 R G t.2.1 t.2.2 := fun k => by
    rw [Qn1.l0]
  cases r1 with
  | false =>
    obtain ⟨u1, u2⟩ := hg.unk rfl
    dsimp only at u1 u2
    subst u1 u2
    have e1 : q1 = -2 := by simpa using s1
    subst e1
    refine ⟨(false, 0, 0), (-2, q2, q3), fun b last => Ev.succ (stepR b last) (Ev.bind (Ev.shift (b + 1) hr) ?_), Ev.succ stepQ (Ev.bind hq (Ev.of_eq fun _ => by rw [if_neg (by show ¬ (-2 : Int) = -1; decide), if_pos rfl])), ⟨by simp, rfl, fun h => absurd h (by simp)⟩, ⟨fun h => absurd h (by simp), fun _ => ⟨rfl, rfl⟩⟩, fun h => absurd h (by simp)⟩
    exact Ev.succ (g := fun _ => some (false, 0, 0)) (fun k => by rw [Qp.repF, if_neg (by simp), if_neg (by simp)]) (Ev.const _)
  | true =>
    obtain ⟨g1, g2, g3, g4, g5⟩ := hg.known rfl
    dsimp only at g1 g2 g3 g4 g5
    have e1 : q1 = r2 := by simpa using s1
    have e3 := s3 rfl
    subst e1 e3
    by_cases hr2 : 0 ≤ q1
    · obtain ⟨r', q', hr', hq', hs', hg', hp'⟩ := ihm q3.toNat (by omega) q3 rfl g1 (by omega) q1 hr2 g4
      exact ⟨r', q', fun b last => Ev.succ (stepR b last) (Ev.bind (Ev.shift (b + 1) hr) (hr' (b + 1) a)), Ev.succ stepQ (Ev.bind hq (Ev.congr (fun k => by rw [if_neg (by show ¬ q1 = -1; omega), if_neg (by show ¬ q1 = -2; omega)]) hq')), hs', good_weaken hg' (g5 hr2) (by omega), hp'⟩
    · have e : q1 = -1 := by omega
      subst e
      refine ⟨(true, a, q3), (a, q2, q3), fun b last => Ev.succ (stepR b last) (Ev.bind (Ev.shift (b + 1) hr) ?_), Ev.succ stepQ (Ev.bind hq (Ev.of_eq fun _ => if_pos rfl)), ⟨by simp, rfl, fun _ => rfl⟩, ⟨fun _ => ⟨g1, by show q3 ≤ u; omega, by show -1 ≤ a; omega, ha, fun _ => Int.le_refl _⟩, fun h => absurd h (by simp)⟩, fun _ => ha0⟩
      exact Ev.succ (g := fun _ => some (true, a, q3)) (fun k => by rw [Qp.repF, if_neg (by simp), if_pos rfl]) (Ev.const _)
theorem node_rel : ∀ (n : Nat) (u : Int), u ≤ n → u ≤ 100000000 → ∀ i a, 0 ≤ i → i < (G.length : Int) → 0 ≤ a → a ≤ (x.size : Int) → NodeRel R G x i a u := by
  intro n
  induction n with
  | zero =>
    intro u hu _ i a hi0 hi ha0 ha
    refine ⟨(false, 0, 0), (-2, x, u), Ev.succ (g := fun _ => some (false, 0, 0)) (fun k => by rw [Qp.f, if_pos (by omega)]) (Ev.const _), Ev.succ (g := fun _ => some (-2, x, u)) (fun k => by rw [Qo1.f, if_pos (by omega)]) (Ev.const _), ⟨by simp, rfl, fun h => absurd h (by simp)⟩, ⟨fun h => absurd h (by simp), fun _ => ⟨rfl, rfl⟩⟩⟩
  | succ n ih0 =>
    intro u hu hub i a hi0 hi ha0 ha
    by_cases hu1 : u < 1
    · exact ih0 u (by omega) hub i a hi0 hi ha0 ha
    have ih : ∀ u', u' ≤ u - 1 → ∀ i a, 0 ≤ i → i < (G.length : Int) → 0 ≤ a → a ≤ (x.size : Int) → NodeRel R G x i a u' := fun u' hu' => ih0 u' (by omega) (by omega)
    have hwr : wrap64 (u - 1) = u - 1 := w64p _ (by omega)
    obtain ⟨m0, m1, m2, m3, m4, m5, m6, m7, m8⟩ := hw.made i hi0 hi
    have hkids := hw.kids i hi0 hi
    have hkids' : ∀ c ∈ (nodeAt G i).f1, 0 ≤ c ∧ c < (G.length : Int) := fun c hc => by have := hkids c hc; omega
    have hl := hkl i hi0 hi
    have hn9 : u - 1 ≤ 1000000000 := by omega
    have unit : ∀ (e : Int), -1 ≤ e → e ≤ (x.size : Int) → (0 ≤ e → a ≤ e) → Sim x (true, e, u - 1) (e, x, u - 1) ∧ Good x a (u - 1) (true, e, u - 1) := fun e h1 h2 h3 =>
      ⟨⟨by simp, rfl, fun _ => rfl⟩, ⟨fun _ => ⟨by show 0 ≤ u - 1; omega, Int.le_refl _, h1, h2, h3⟩, fun h => absurd h (by simp)⟩⟩
    by_cases o0 : (nodeAt G i).f0 = 0
    · obtain ⟨h1, h2⟩ := unit a (by omega) ha (fun _ => Int.le_refl _)
      exact ⟨_, _, Ev.succ (g := fun _ => some (true, a, u - 1)) (fun k => by rw [Qp.f, if_neg hu1, if_pos ⟨hi0, hi⟩, if_pos o0, hwr]) (Ev.const _), Ev.succ (g := fun _ => some (a, x, u - 1)) (fun k => by rw [Qo1.f, if_neg hu1, if_pos hi0, if_pos hi, if_pos o0, hwr]) (Ev.const _), h1, h2⟩
    by_cases o1 : (nodeAt G i).f0 = 1
    · by_cases hlt : a < (x.size : Int)
      · have hset := (hok _ (rd_mem56 G i hi0 hi)).2.2.2
        obtain ⟨b, hb1, hb2⟩ := has_ev (nodeAt G i).f3 hset (bt x a) (bt_range x a).1 (bt_range x a).2
        have stepR : ∀ k, Qp.f (k + 1) R G i x a u = (Qc2.f k (nodeAt G i).f3.f0 (nodeAt G i).f3.f1 (nodeAt G i).f3.f2 (nodeAt G i).f3.f3 (bt x a)).bind fun b => if b = true then some (true, a + 1, u - 1) else some (true, -1, u - 1) := fun k => by
          rw [Qp.f, if_neg hu1, if_pos ⟨hi0, hi⟩, if_neg o0, if_pos o1, if_pos hlt, if_pos ha0, hwr, w64p (a + 1) (by omega)]
        have stepQ : ∀ k, Qo1.f (k + 1) R G x u i a = if b = true then some (a + 1, x, u - 1) else some (-1, x, u - 1) := fun k => by
          rw [Qo1.f, if_neg hu1, if_pos hi0, if_pos hi, if_neg o0, if_pos o1, if_pos hlt, if_pos ha0, hwr, w64p (a + 1) (by omega), hb1, Option.bind_some]
        cases b with
        | true =>
          obtain ⟨h1, h2⟩ := unit (a + 1) (by omega) (by omega) (fun _ => by omega)
          exact ⟨_, _, Ev.succ stepR (Ev.bind hb2 (Ev.of_eq fun _ => if_pos rfl)), Ev.succ stepQ (Ev.of_eq fun _ => if_pos rfl), h1, h2⟩
        | false =>
          obtain ⟨h1, h2⟩ := unit (-1) (by omega) (by omega) (fun h => absurd h (by decide))
          exact ⟨_, _, Ev.succ stepR (Ev.bind hb2 (Ev.of_eq fun _ => if_neg (by decide))), Ev.succ stepQ (Ev.of_eq fun _ => if_neg (by decide)), h1, h2⟩
      · obtain ⟨h1, h2⟩ := unit (-1) (by omega) (by omega) (fun h => absurd h (by decide))
        exact ⟨_, _, Ev.succ (g := fun _ => some (true, -1, u - 1)) (fun k => by rw [Qp.f, if_neg hu1, if_pos ⟨hi0, hi⟩, if_neg o0, if_pos o1, if_neg hlt, hwr]) (Ev.const _), Ev.succ (g := fun _ => some (-1, x, u - 1)) (fun k => by rw [Qo1.f, if_neg hu1, if_pos hi0, if_pos hi, if_neg o0, if_pos o1, if_neg hlt, hwr]) (Ev.const _), h1, h2⟩
    by_cases o2 : (nodeAt G i).f0 = 2
    · obtain ⟨p0, p1⟩ := m6 o2
      have hroot := hw.roots _ p0 p1
      obtain ⟨r, q, hr, hq, hs, hg⟩ := ih (u - 1) (Int.le_refl _) (ruleAt R (nodeAt G i).f2).f1 a hroot.1 hroot.2 ha0 ha
      exact ⟨r, q, Ev.succ (fun k => by rw [Qp.f, if_neg hu1, if_pos ⟨hi0, hi⟩, if_neg o0, if_neg o1, if_pos o2, if_pos ⟨p0, p1⟩, hwr]) hr, Ev.succ (g := fun k => (Qo1.f k R G x (u - 1) (ruleAt R (nodeAt G i).f2).f1 a).bind fun t => some (t.1, t.2.1, t.2.2)) (fun k => by rw [Qo1.f, if_neg hu1, if_pos hi0, if_pos hi, if_neg o0, if_neg o1, if_pos o2, if_pos p0, if_pos p1, hwr]) (Ev.bind hq (Ev.const _)), hs, good_weaken hg (Int.le_refl _) (by omega)⟩
    by_cases o3 : (nodeAt G i).f0 = 3
    · obtain ⟨r, q, hr, hq, hs, hg⟩ := seq_rel hx hG hw hok hkl (u - 1) hn9 ih (nodeAt G i).f1 hkids' hl (nodeAt G i).f1.length 0 (Int.le_refl _) (by simp) a (u - 1) (by omega) (Int.le_refl _) ha0 ha
      refine ⟨r, q, Ev.succ (fun k => by rw [Qp.f, if_neg hu1, if_pos ⟨hi0, hi⟩, if_neg o0, if_neg o1, if_neg o2, if_pos o3, hwr]; rfl) hr, Ev.succ (g := fun k => (Qx1.f k R G x (u - 1) (nodeAt G i).f1 a).bind fun t => some (t.1, t.2.1, t.2.2)) (fun k => by rw [Qo1.f, if_neg hu1, if_pos hi0, if_pos hi, if_neg o0, if_neg o1, if_neg o2, if_pos o3, hwr]) (Ev.bind (Ev.succ (fun k => by rw [Qx1.f]) hq) (Ev.const _)), hs, hg⟩
    by_cases o4 : (nodeAt G i).f0 = 4
    · obtain ⟨r, q, hr, hq, hs, hg⟩ := cho_rel hx hG hw hok hkl (u - 1) hn9 ih (nodeAt G i).f1 hkids' hl a ha0 ha (nodeAt G i).f1.length 0 (Int.le_refl _) (by simp) (-1) (u - 1) (by omega) (Int.le_refl _) rfl
      refine ⟨r, q, Ev.succ (fun k => by rw [Qp.f, if_neg hu1, if_pos ⟨hi0, hi⟩, if_neg o0, if_neg o1, if_neg o2, if_neg o3, if_pos o4, hwr]; rfl) hr, Ev.succ (g := fun k => (Qw1.f k R G x (u - 1) (nodeAt G i).f1 a).bind fun t => some (t.1, t.2.1, t.2.2)) (fun k => by rw [Qo1.f, if_neg hu1, if_pos hi0, if_pos hi, if_neg o0, if_neg o1, if_neg o2, if_neg o3, if_pos o4, hwr]) (Ev.bind (Ev.succ (fun k => by rw [Qw1.f]) hq) (Ev.const _)), hs, hg⟩
    have hop5 : 5 ≤ (nodeAt G i).f0 := by omega
    have hlen := m5 hop5
    have hne : (nodeAt G i).f1 ≠ [] := fun h => by rw [h] at hlen; simp at hlen
    have hl0 : (0 : Int) < ((nodeAt G i).f1.length : Int) := by omega
    have hkid := hkids' _ (rd_in hx hG hw hok hkl (nodeAt G i).f1 0 (Int.le_refl _) hl0)
    obtain ⟨r, q, hr, hq, hs, hg⟩ := ih (u - 1) (Int.le_refl _) (rd (nodeAt G i).f1 0) a hkid.1 hkid.2 ha0 ha
    obtain ⟨r1, r2, r3⟩ := r
    obtain ⟨q1, q2, q3⟩ := q
    have hsim := hs
    obtain ⟨s1, s2, s3⟩ := hs
    dsimp only at s1 s2 s3
    subst s2
    have stepR : ∀ k, Qp.f (k + 1) R G i q2 a u = (Qp.f k R G (rd (nodeAt G i).f1 0) q2 a (u - 1)).bind fun r =>
        if r.1 = false then some r else
        if (nodeAt G i).f0 = 7 then (if r.2.1 < 0 then some (true, a, r.2.2) else some r) else
        if (nodeAt G i).f0 = 8 then (if r.2.1 < 0 then some r else some (true, a, r.2.2)) else
        if (nodeAt G i).f0 = 9 then (if r.2.1 < 0 then some (true, a, r.2.2) else some (true, -1, r.2.2)) else
        if r.2.1 < 0 ∧ (nodeAt G i).f0 = 6 then some r else Qp.repF (fun a u => Qp.f k R G (rd (nodeAt G i).f1 0) q2 a u) k a r := fun k => by
      rw [Qp.f, if_neg hu1, if_pos ⟨hi0, hi⟩, if_neg o0, if_neg o1, if_neg o2, if_neg o3, if_neg o4, if_neg hne, hwr]
    have stepN : ∀ {v}, Ev (fun k => Qd2.f k R G q2 (u - 1) (nodeAt G i).f0 (nodeAt G i).f1 (nodeAt G i).f2 (nodeAt G i).f3.f0 (nodeAt G i).f3.f1 (nodeAt G i).f3.f2 (nodeAt G i).f3.f3 a) v → Ev (fun k => Qo1.f k R G q2 u i a) v := fun hv =>
      Ev.succ (g := fun k => (Qd2.f k R G q2 (u - 1) (nodeAt G i).f0 (nodeAt G i).f1 (nodeAt G i).f2 (nodeAt G i).f3.f0 (nodeAt G i).f3.f1 (nodeAt G i).f3.f2 (nodeAt G i).f3.f3 a).bind fun t => some (t.1, t.2.1, t.2.2)) (fun k => by rw [Qo1.f, if_neg hu1, if_pos hi0, if_pos hi, if_neg o0, if_neg o1, if_neg o2, if_neg o3, if_neg o4, hwr]) (Ev.bind hv (Ev.const _))
    have stepRep : ∀ k, Qn1.l0 (k + 1) (rd (nodeAt G i).f1 0) a R G q2 (u - 1) = (Qo1.f k R G q2 (u - 1) (rd (nodeAt G i).f1 0) a).bind fun t => if t.1 = (-1) then some (a, t.2.1, t.2.2) else if t.1 = (-2) then some ((-2), t.2.1, t.2.2) else Qn1.l0 k (rd (nodeAt G i).f1 0) t.1 R G t.2.1 t.2.2 := fun k => by
      rw [Qn1.l0]
    have un5 : ∀ {v}, (nodeAt G i).f0 = 5 → Ev (fun k => Qn1.l0 k (rd (nodeAt G i).f1 0) a R G q2 (u - 1)) v → Ev (fun k => Qd2.f k R G q2 (u - 1) (nodeAt G i).f0 (nodeAt G i).f1 (nodeAt G i).f2 (nodeAt G i).f3.f0 (nodeAt G i).f3.f1 (nodeAt G i).f3.f2 (nodeAt G i).f3.f3 a) v := fun o5 hv =>
      Ev.succ (g := fun k => (Qn1.f k R G q2 (u - 1) (rd (nodeAt G i).f1 0) a).bind fun t => some (t.1, t.2.1, t.2.2)) (fun k => by rw [Qd2.f, if_pos o5, if_pos hl0]) (Ev.bind (Ev.succ (fun k => by rw [Qn1.f]) hv) (Ev.const _))
    have un : (nodeAt G i).f0 ≠ 5 → ∀ k, Qd2.f (k + 1) R G q2 (u - 1) (nodeAt G i).f0 (nodeAt G i).f1 (nodeAt G i).f2 (nodeAt G i).f3.f0 (nodeAt G i).f3.f1 (nodeAt G i).f3.f2 (nodeAt G i).f3.f3 a = (Qo1.f k R G q2 (u - 1) (rd (nodeAt G i).f1 0) a).bind fun t =>
        if t.1 = (-2) then some ((-2), t.2.1, t.2.2) else if (nodeAt G i).f0 = 6 then (if t.1 = (-1) then some ((-1), t.2.1, t.2.2) else ((Qn1.f k R G t.2.1 t.2.2 (rd (nodeAt G i).f1 0) t.1).bind fun t => some (t.1, t.2.1, t.2.2))) else
        if (nodeAt G i).f0 = 7 then some (mx t.1 a, t.2.1, t.2.2) else if (nodeAt G i).f0 = 8 then (if t.1 = (-1) then some ((-1), t.2.1, t.2.2) else some (a, t.2.1, t.2.2)) else (if t.1 = (-1) then some (a, t.2.1, t.2.2) else some ((-1), t.2.1, t.2.2)) := fun h5 k => by
      rw [Qd2.f, if_neg h5, if_pos hl0]
    cases r1 with
    | false =>
      obtain ⟨u1, u2⟩ := hg.unk rfl
      dsimp only at u1 u2
      subst u1 u2
      have e1 : q1 = -2 := by simpa using s1
      subst e1
      refine ⟨(false, 0, 0), (-2, q2, q3), Ev.succ stepR (Ev.bind hr (Ev.of_eq fun _ => if_pos rfl)), stepN ?_, hsim, ⟨fun h => absurd h (by simp), fun _ => ⟨rfl, rfl⟩⟩⟩
      by_cases o5 : (nodeAt G i).f0 = 5
      · exact un5 o5 (Ev.succ stepRep (Ev.bind hq (Ev.of_eq fun _ => by rw [if_neg (by show ¬ (-2 : Int) = -1; decide), if_pos rfl])))
      · exact Ev.succ (un o5) (Ev.bind hq (Ev.of_eq fun _ => if_pos rfl))
    | true =>
      obtain ⟨g1, g2, g3, g4, g5⟩ := hg.known rfl
      dsimp only at g1 g2 g3 g4 g5
      have e1 : q1 = r2 := by simpa using s1
      have e3 := s3 rfl
      subst e1 e3
      have fin : ∀ (e : Int), -1 ≤ e → e ≤ (q2.size : Int) → (0 ≤ e → a ≤ e) → Sim q2 (true, e, q3) (e, q2, q3) ∧ Good q2 a (u - 1) (true, e, q3) := fun e h1 h2 h3 =>
        ⟨⟨by simp, rfl, fun _ => rfl⟩, ⟨fun _ => ⟨g1, by show q3 ≤ u - 1; omega, h1, h2, h3⟩, fun h => absurd h (by simp)⟩⟩
      by_cases o7 : (nodeAt G i).f0 = 7
      · have n5 : (nodeAt G i).f0 ≠ 5 := by omega
        by_cases he : q1 < 0
        · have e : q1 = -1 := by omega
          subst e
          obtain ⟨h1, h2⟩ := fin a (by omega) ha (fun _ => Int.le_refl _)
          exact ⟨_, _, Ev.succ stepR (Ev.bind hr (Ev.of_eq fun _ => by rw [if_neg (by simp), if_pos o7, if_pos he])), stepN (Ev.succ (un n5) (Ev.bind hq (Ev.of_eq fun _ => by rw [if_neg (by show ¬ (-1 : Int) = -2; decide), if_neg (by omega), if_pos o7, show mx (-1) a = a by unfold mx; split <;> omega]))), h1, h2⟩
        · obtain ⟨h1, h2⟩ := fin q1 g3 g4 g5
          exact ⟨_, _, Ev.succ stepR (Ev.bind hr (Ev.of_eq fun _ => by rw [if_neg (by simp), if_pos o7, if_neg he])), stepN (Ev.succ (un n5) (Ev.bind hq (Ev.of_eq fun _ => by rw [if_neg (by show ¬ q1 = -2; omega), if_neg (by omega), if_pos o7, show mx q1 a = q1 by have := g5 (by omega); unfold mx; split <;> omega]))), h1, h2⟩
      by_cases o8 : (nodeAt G i).f0 = 8
      · have n5 : (nodeAt G i).f0 ≠ 5 := by omega
        by_cases he : q1 < 0
        · have e : q1 = -1 := by omega
          subst e
          obtain ⟨h1, h2⟩ := fin (-1) (by omega) (by omega) (fun h => absurd h (by decide))
          exact ⟨_, _, Ev.succ stepR (Ev.bind hr (Ev.of_eq fun _ => by rw [if_neg (by simp), if_neg o7, if_pos o8, if_pos he])), stepN (Ev.succ (un n5) (Ev.bind hq (Ev.of_eq fun _ => by rw [if_neg (by show ¬ (-1 : Int) = -2; decide), if_neg (by omega), if_neg o7, if_pos o8, if_pos rfl]))), h1, h2⟩
        · obtain ⟨h1, h2⟩ := fin a (by omega) ha (fun _ => Int.le_refl _)
          exact ⟨_, _, Ev.succ stepR (Ev.bind hr (Ev.of_eq fun _ => by rw [if_neg (by simp), if_neg o7, if_pos o8, if_neg he])), stepN (Ev.succ (un n5) (Ev.bind hq (Ev.of_eq fun _ => by rw [if_neg (by show ¬ q1 = -2; omega), if_neg (by omega), if_neg o7, if_pos o8, if_neg (by show ¬ q1 = -1; omega)]))), h1, h2⟩
      by_cases o9 : (nodeAt G i).f0 = 9
      · have n5 : (nodeAt G i).f0 ≠ 5 := by omega
        by_cases he : q1 < 0
        · have e : q1 = -1 := by omega
          subst e
          obtain ⟨h1, h2⟩ := fin a (by omega) ha (fun _ => Int.le_refl _)
          exact ⟨_, _, Ev.succ stepR (Ev.bind hr (Ev.of_eq fun _ => by rw [if_neg (by simp), if_neg o7, if_neg o8, if_pos o9, if_pos he])), stepN (Ev.succ (un n5) (Ev.bind hq (Ev.of_eq fun _ => by rw [if_neg (by show ¬ (-1 : Int) = -2; decide), if_neg (by omega), if_neg o7, if_neg o8, if_pos rfl]))), h1, h2⟩
        · obtain ⟨h1, h2⟩ := fin (-1) (by omega) (by omega) (fun h => absurd h (by decide))
          exact ⟨_, _, Ev.succ stepR (Ev.bind hr (Ev.of_eq fun _ => by rw [if_neg (by simp), if_neg o7, if_neg o8, if_pos o9, if_neg he])), stepN (Ev.succ (un n5) (Ev.bind hq (Ev.of_eq fun _ => by rw [if_neg (by show ¬ q1 = -2; omega), if_neg (by omega), if_neg o7, if_neg o8, if_neg (by show ¬ q1 = -1; omega)]))), h1, h2⟩
      by_cases he : q1 < 0
      · have e : q1 = -1 := by omega
        subst e
        by_cases o5 : (nodeAt G i).f0 = 5
        · obtain ⟨h1, h2⟩ := fin a (by omega) ha (fun _ => Int.le_refl _)
          exact ⟨_, _, Ev.succ stepR (Ev.bind hr (Ev.succ (g := fun _ => some (true, a, q3)) (fun k => by rw [if_neg (by simp), if_neg o7, if_neg o8, if_neg o9, if_neg (by omega), Qp.repF, if_neg (by simp), if_pos rfl]) (Ev.const _))), stepN (un5 o5 (Ev.succ stepRep (Ev.bind hq (Ev.of_eq fun _ => if_pos rfl)))), h1, h2⟩
        · obtain ⟨h1, h2⟩ := fin (-1) (by omega) (by omega) (fun h => absurd h (by decide))
          have o6 : (nodeAt G i).f0 = 6 := by omega
          exact ⟨_, _, Ev.succ stepR (Ev.bind hr (Ev.of_eq fun _ => by rw [if_neg (by simp), if_neg o7, if_neg o8, if_neg o9, if_pos ⟨he, o6⟩])), stepN (Ev.succ (un o5) (Ev.bind hq (Ev.of_eq fun _ => by rw [if_neg (by show ¬ (-1 : Int) = -2; decide), if_pos o6, if_pos rfl]))), h1, h2⟩
      · obtain ⟨r', q', hr', hq', hs', hg', hp'⟩ := rep_rel hx hG hw hok hkl (u - 1) hn9 ih (rd (nodeAt G i).f1 0) hkid.1 hkid.2 q3.toNat q3 rfl g1 (by omega) q1 (by omega) g4
        have hgood := good_weaken hg' (g5 (by omega)) (show q3 ≤ u - 1 by omega)
        have hrr := hr' 0 a
        refine ⟨r', q', Ev.succ stepR (Ev.bind hr (Ev.congr (fun k => by rw [if_neg (by simp), if_neg o7, if_neg o8, if_neg o9, if_neg (fun h_ => he h_.1)]; rfl) hrr)), stepN ?_, hs', hgood⟩
        by_cases o5 : (nodeAt G i).f0 = 5
        · exact un5 o5 (Ev.succ stepRep (Ev.bind hq (Ev.congr (fun k => by rw [if_neg (by show ¬ q1 = -1; omega), if_neg (by show ¬ q1 = -2; omega)]) hq')))
        · have o6 : (nodeAt G i).f0 = 6 := by omega
          exact Ev.succ (un o5) (Ev.bind hq (Ev.congr (fun k => by rw [if_neg (by show ¬ q1 = -2; omega), if_pos o6, if_neg (by show ¬ q1 = -1; omega)]) (Ev.bind (Ev.succ (fun k => by rw [Qn1.f]) hq') (Ev.const _))))
end
end Go.Proofs.Ythgedejnpgcacaa.V
namespace Go.Proofs.Ythgedejnpgcacaa.V
open Go.RowKit Go.Proofs.YthgedejnpgcacaaW.PrintWords
set_option linter.unusedVariables false
set_option linter.unusedSimpArgs false
set_option linter.unusedSectionVars false
set_option maxRecDepth 100000 in
theorem awake_ev : Ev (fun k => Qe2.f k) true := Ev.of_mono (k := 40) (fun k => Qe2.mono k) (by kernel_rfl)
theorem few_ev (R : List RuleT) (G : List NodeT) (hR : R.length ≤ maxLen) (hG : G.length ≤ maxLen) : ∃ v, Ev (fun k => Qr1.f k R G) v ∧ (v = true → R.length ≤ 30 ∧ G.length ≤ 300) := by
  have hG' : G.length ≤ 9223372036854775807 := hG
  have hR' : R.length ≤ 9223372036854775807 := hR
  have l1 : ∀ (n : Nat) (i : Int), 0 ≤ i → i.toNat + n = G.length → ∃ v, Ev (fun k => Qr1.l1 k i R G) v ∧ (v = true → R.length ≤ 30 ∧ G.length ≤ 300) := by
    intro n
    induction n with
    | zero =>
      intro i h0 hn
      by_cases c : (R.length : Int) ≤ 30
      · exact ⟨_, Ev.succ (g := fun _ => some (decide ((G.length : Int) ≤ 300))) (fun k => by rw [Qr1.l1, if_neg (by omega), if_pos c]) (Ev.const _), fun h => ⟨by omega, by have := of_decide_eq_true h; omega⟩⟩
      · exact ⟨false, Ev.succ (g := fun _ => some false) (fun k => by rw [Qr1.l1, if_neg (by omega), if_neg c]) (Ev.const _), fun h => absurd h (by decide)⟩
    | succ n ih =>
      intro i h0 hn
      by_cases c : (((nodeAt G i).f1).length : Int) > 60
      · exact ⟨false, Ev.succ (g := fun _ => some false) (fun k => by rw [Qr1.l1, if_pos (by omega), if_pos h0, if_pos c]) (Ev.const _), fun h => absurd h (by decide)⟩
      · obtain ⟨v, hv, hs⟩ := ih (i + 1) (by omega) (by omega)
        refine ⟨v, Ev.succ (fun k => by rw [Qr1.l1, if_pos (by omega), if_pos h0, if_neg c]) ?_, hs⟩
        rw [w64p _ (by omega)]
        exact hv
  have l0 : ∀ (n : Nat) (i : Int), 0 ≤ i → i.toNat + n = R.length → ∃ v, Ev (fun k => Qr1.l0 k i R G) v ∧ (v = true → R.length ≤ 30 ∧ G.length ≤ 300) := by
    intro n
    induction n with
    | zero =>
      intro i h0 hn
      obtain ⟨v, hv, hs⟩ := l1 G.length 0 (Int.le_refl _) (by simp)
      exact ⟨v, Ev.succ (fun k => by rw [Qr1.l0, if_neg (by omega)]) hv, hs⟩
    | succ n ih =>
      intro i h0 hn
      by_cases c : (((ruleAt R i).f0).size : Int) > 100
      · exact ⟨false, Ev.succ (g := fun _ => some false) (fun k => by rw [Qr1.l0, if_pos (by omega), if_pos h0, if_pos c]) (Ev.const _), fun h => absurd h (by decide)⟩
      · obtain ⟨v, hv, hs⟩ := ih (i + 1) (by omega) (by omega)
        refine ⟨v, Ev.succ (fun k => by rw [Qr1.l0, if_pos (by omega), if_pos h0, if_neg c]) ?_, hs⟩
        rw [w64p _ (by omega)]
        exact hv
  obtain ⟨v, hv, hs⟩ := l0 R.length 0 (Int.le_refl _) (by simp)
  exact ⟨v, hv, hs⟩
section
variable {R : List RuleT} {G : List NodeT} (hR : R.length ≤ maxLen ∧ ∀ y ∈ R, Ok51 y) (hG : G.length ≤ maxLen ∧ ∀ y ∈ G, Ok56 y)
include hR hG
theorem small_ev : ∃ v, Ev (fun k => vetchref05_Small.f k R G) v ∧ (v = true → WF R G ∧ R.length ≤ 30 ∧ G.length ≤ 300) := by
  obtain ⟨b, hb, hbs⟩ := few_ev R G hR.1 hG.1
  cases b with
  | false => exact ⟨false, Ev.bind hb (Ev.of_eq fun _ => if_neg (by decide)), fun h => absurd h (by decide)⟩
  | true =>
    obtain ⟨v, hv, hs⟩ := valid_ev R G hR hG
    exact ⟨v, Ev.bind hb (Ev.congr (fun k => if_pos rfl) (Ev.bind hv (Ev.const _))), fun h => ⟨hs h, hbs rfl⟩⟩
theorem fits_ev (x : ByteArray) (u : Int) : ∃ v, Ev (fun k => vetchlaw18_fits.f k R G x u) v ∧ (v = true → WF R G ∧ R.length ≤ 30 ∧ G.length ≤ 300 ∧ x.size ≤ 60 ∧ u ≤ 5000) := by
  obtain ⟨b, hb, hbs⟩ := small_ev hR hG
  cases b with
  | false => exact ⟨false, Ev.bind hb (Ev.of_eq fun _ => if_neg (by decide)), fun h => absurd h (by decide)⟩
  | true =>
    obtain ⟨h1, h2, h3⟩ := hbs rfl
    by_cases c : (x.size : Int) ≤ 60
    · exact ⟨_, Ev.bind hb (Ev.of_eq (v := decide (u ≤ 5000)) fun _ => by rw [if_pos rfl, if_pos c]), fun h => ⟨h1, h2, h3, by omega, of_decide_eq_true h⟩⟩
    · exact ⟨false, Ev.bind hb (Ev.of_eq fun _ => by rw [if_pos rfl, if_neg c]), fun h => absurd h (by decide)⟩
theorem kids_le (hw : WF R G) : ∀ i : Int, 0 ≤ i → i < (G.length : Int) → (nodeAt G i).f1.length ≤ 9223372036854775807 := fun i h0 h1 => (hG.2 _ (rd_mem56 G i h0 h1)).2.1.1
theorem node_ev {x : ByteArray} (hx : x.size ≤ 1000000) (hw : WF R G) (u : Int) (hu : u ≤ 100000000) (i a : Int) (hi0 : 0 ≤ i) (hi : i < (G.length : Int)) (ha0 : 0 ≤ a) (ha : a ≤ (x.size : Int)) :
    ∃ r, Ev (fun k => Qp.f k R G i x a u) r ∧ Ev (fun k => naive_Node.f k R G i x a u) r ∧ Good x a (u - 1) r := by
  obtain ⟨r, q, hr, hq, hs, hg⟩ := node_rel hx (by have := hw.nodes; omega) hw hG.2 (kids_le hR hG hw) u.toNat u (by omega) hu i a hi0 hi ha0 ha
  refine ⟨r, hr, Ev.bind hq (Ev.of_eq fun _ => ?_), hg⟩
  obtain ⟨r1, r2, r3⟩ := r
  obtain ⟨q1, q2, q3⟩ := q
  obtain ⟨s1, s2, s3⟩ := hs
  dsimp only at s1 s2 s3 ⊢
  cases r1 with
  | false =>
    obtain ⟨u1, u2⟩ := hg.unk rfl
    dsimp only at u1 u2
    have s1' : q1 = -2 := by simpa using s1
    rw [u1, u2, s1', if_pos rfl]
  | true =>
    obtain ⟨g1, g2, g3, g4, g5⟩ := hg.known rfl
    dsimp only at g1 g2 g3 g4 g5
    have s1' : q1 = r2 := by simpa using s1
    rw [s1', if_neg (by omega), s3 rfl]
end
end Go.Proofs.Ythgedejnpgcacaa.V
namespace Go.Proofs.Ythgedejnpgcacaa.V
open Go.RowKit Go.Proofs.YthgedejnpgcacaaW.PrintWords
set_option linter.unusedVariables false
set_option linter.unusedSectionVars false
inductive Task
  | node (i : Int)
  | seq (cs : List Int)
  | cho (cs : List Int)
  | rep (c : Int)
inductive Run (R : List RuleT) (G : List NodeT) (x : ByteArray) : Task → Int → Int → Int → Int → Prop
  | empty {i a u} : (nodeAt G i).f0 = 0 → 1 ≤ u → Run R G x (.node i) a u a (u - 1)
  | hit {i a u} : (nodeAt G i).f0 = 1 → 1 ≤ u → a < (x.size : Int) → byteset_Has.f (nodeAt G i).f3.f0 (nodeAt G i).f3.f1 (nodeAt G i).f3.f2 (nodeAt G i).f3.f3 (bt x a) = some true → Run R G x (.node i) a u (a + 1) (u - 1)
  | miss {i a u} : (nodeAt G i).f0 = 1 → 1 ≤ u → (a < (x.size : Int) → byteset_Has.f (nodeAt G i).f3.f0 (nodeAt G i).f3.f1 (nodeAt G i).f3.f2 (nodeAt G i).f3.f3 (bt x a) = some false) → Run R G x (.node i) a u (-1) (u - 1)
  | call {i a u e l} : (nodeAt G i).f0 = 2 → 1 ≤ u → Run R G x (.node (ruleAt R (nodeAt G i).f2).f1) a (u - 1) e l → Run R G x (.node i) a u e l
  | seq {i a u e l} : (nodeAt G i).f0 = 3 → 1 ≤ u → Run R G x (.seq (nodeAt G i).f1) a (u - 1) e l → Run R G x (.node i) a u e l
  | cho {i a u e l} : (nodeAt G i).f0 = 4 → 1 ≤ u → Run R G x (.cho (nodeAt G i).f1) a (u - 1) e l → Run R G x (.node i) a u e l
  | star {i a u e l} : (nodeAt G i).f0 = 5 → 1 ≤ u → Run R G x (.rep (rd (nodeAt G i).f1 0)) a (u - 1) e l → Run R G x (.node i) a u e l
  | plusNo {i a u b l} : (nodeAt G i).f0 = 6 → 1 ≤ u → Run R G x (.node (rd (nodeAt G i).f1 0)) a (u - 1) b l → b < 0 → Run R G x (.node i) a u b l
  | plus {i a u b m e l} : (nodeAt G i).f0 = 6 → 1 ≤ u → Run R G x (.node (rd (nodeAt G i).f1 0)) a (u - 1) b m → 0 ≤ b → Run R G x (.rep (rd (nodeAt G i).f1 0)) b m e l → Run R G x (.node i) a u e l
  | optNo {i a u b l} : (nodeAt G i).f0 = 7 → 1 ≤ u → Run R G x (.node (rd (nodeAt G i).f1 0)) a (u - 1) b l → b < 0 → Run R G x (.node i) a u a l
  | opt {i a u b l} : (nodeAt G i).f0 = 7 → 1 ≤ u → Run R G x (.node (rd (nodeAt G i).f1 0)) a (u - 1) b l → 0 ≤ b → Run R G x (.node i) a u b l
  | andNo {i a u b l} : (nodeAt G i).f0 = 8 → 1 ≤ u → Run R G x (.node (rd (nodeAt G i).f1 0)) a (u - 1) b l → b < 0 → Run R G x (.node i) a u b l
  | and {i a u b l} : (nodeAt G i).f0 = 8 → 1 ≤ u → Run R G x (.node (rd (nodeAt G i).f1 0)) a (u - 1) b l → 0 ≤ b → Run R G x (.node i) a u a l
  | notNo {i a u b l} : (nodeAt G i).f0 = 9 → 1 ≤ u → Run R G x (.node (rd (nodeAt G i).f1 0)) a (u - 1) b l → 0 ≤ b → Run R G x (.node i) a u (-1) l
  | not {i a u b l} : (nodeAt G i).f0 = 9 → 1 ≤ u → Run R G x (.node (rd (nodeAt G i).f1 0)) a (u - 1) b l → b < 0 → Run R G x (.node i) a u a l
  | seqNil {a u} : Run R G x (.seq []) a u a u
  | seqNo {c cs a u b l} : Run R G x (.node c) a u b l → b < 0 → Run R G x (.seq (c :: cs)) a u b l
  | seqGo {c cs a u b m e l} : Run R G x (.node c) a u b m → 0 ≤ b → Run R G x (.seq cs) b m e l → Run R G x (.seq (c :: cs)) a u e l
  | choNil {a u} : Run R G x (.cho []) a u (-1) u
  | choYes {c cs a u b l} : Run R G x (.node c) a u b l → 0 ≤ b → Run R G x (.cho (c :: cs)) a u b l
  | choGo {c cs a u b m e l} : Run R G x (.node c) a u b m → b < 0 → Run R G x (.cho cs) a m e l → Run R G x (.cho (c :: cs)) a u e l
  | repEnd {c a u b l} : Run R G x (.node c) a u b l → b < 0 → Run R G x (.rep c) a u a l
  | repGo {c a u b m e l} : Run R G x (.node c) a u b m → 0 ≤ b → Run R G x (.rep c) b m e l → Run R G x (.rep c) a u e l
def RunRel (R : List RuleT) (G : List NodeT) (x : ByteArray) (i a u : Int) : Prop :=
  ∃ r, Ev (fun k => Qp.f k R G i x a u) r ∧ Good x a (u - 1) r ∧ (r.1 = true → Run R G x (.node i) a u r.2.1 r.2.2)
theorem seqF_cons (F : Int → Int → Int → Option (Bool × Int × Int)) (c : Int) (cs : List Int) (a u : Int) : Qp.seqF F (c :: cs) a u = (F c a u).bind fun r => if r.1 = true ∧ 0 ≤ r.2.1 then Qp.seqF F cs r.2.1 r.2.2 else some r := rfl
theorem choF_cons (F : Int → Int → Option (Bool × Int × Int)) (c : Int) (cs : List Int) (e u : Int) : Qp.choF F (c :: cs) e u = (F c u).bind fun r => if r.1 = true ∧ r.2.1 < 0 then Qp.choF F cs r.2.1 r.2.2 else some r := rfl
section
variable {R : List RuleT} {G : List NodeT} {x : ByteArray} (hx : x.size ≤ 1000000) (hG : G.length ≤ 1000000) (hw : WF R G) (hok : ∀ y ∈ G, Ok56 y) (hkl : ∀ i : Int, 0 ≤ i → i < (G.length : Int) → (nodeAt G i).f1.length ≤ 9223372036854775807)
include hx hG hw hok hkl
theorem seq_run (n : Int) (ih : ∀ u, u ≤ n → ∀ i a, 0 ≤ i → i < (G.length : Int) → 0 ≤ a → a ≤ (x.size : Int) → RunRel R G x i a u) :
    ∀ (kids : List Int), (∀ c ∈ kids, 0 ≤ c ∧ c < (G.length : Int)) → ∀ a u, 0 ≤ u → u ≤ n → 0 ≤ a → a ≤ (x.size : Int) →
      ∃ r, Ev (fun k => Qp.seqF (fun c a u => Qp.f k R G c x a u) kids a u) r ∧ Good x a u r ∧ (r.1 = true → Run R G x (.seq kids) a u r.2.1 r.2.2) := by
  intro kids
  induction kids with
  | nil =>
    intro hk a u hu0 hu ha0 ha
    exact ⟨(true, a, u), Ev.of_eq fun k => by rw [Qp.seqF], ⟨fun _ => ⟨hu0, Int.le_refl _, by show -1 ≤ a; omega, ha, fun _ => Int.le_refl _⟩, fun h => absurd h (by simp)⟩, fun _ => .seqNil⟩
  | cons c cs ihk =>
    intro hk a u hu0 hu ha0 ha
    have hc := hk c (by simp)
    obtain ⟨⟨r1, r2, r3⟩, hr, hg, hf⟩ := ih u hu c a hc.1 hc.2 ha0 ha
    by_cases hc2 : r1 = true ∧ 0 ≤ r2
    · obtain ⟨rfl, hr2⟩ := hc2
      obtain ⟨g1, g2, g3, g4, g5⟩ := hg.known rfl
      dsimp only at g1 g2 g3 g4 g5
      obtain ⟨r', hr', hg', hf'⟩ := ihk (fun d hd => hk d (List.mem_cons_of_mem _ hd)) r2 r3 g1 (by omega) hr2 g4
      exact ⟨r', Ev.congr (fun k => seqF_cons _ _ _ _ _) (Ev.bind hr (Ev.congr (fun k => if_pos ⟨rfl, hr2⟩) hr')), good_weaken hg' (g5 hr2) (by omega), fun h => .seqGo (hf rfl) hr2 (hf' h)⟩
    · refine ⟨(r1, r2, r3), Ev.congr (fun k => seqF_cons _ _ _ _ _) (Ev.bind hr (Ev.of_eq fun _ => if_neg hc2)), good_weaken hg (Int.le_refl _) (by omega), fun h => ?_⟩
      have h' : r1 = true := h
      subst h'
      exact .seqNo (hf rfl) (by have : ¬ 0 ≤ r2 := fun h2 => hc2 ⟨rfl, h2⟩; show r2 < 0; omega)
theorem cho_run (n : Int) (a : Int) (ha0 : 0 ≤ a) (ha : a ≤ (x.size : Int)) (ih : ∀ u, u ≤ n → ∀ i a, 0 ≤ i → i < (G.length : Int) → 0 ≤ a → a ≤ (x.size : Int) → RunRel R G x i a u) :
    ∀ (kids : List Int), (∀ c ∈ kids, 0 ≤ c ∧ c < (G.length : Int)) → ∀ e u, 0 ≤ u → u ≤ n → e = -1 →
      ∃ r, Ev (fun k => Qp.choF (fun c u => Qp.f k R G c x a u) kids e u) r ∧ Good x a u r ∧ (r.1 = true → Run R G x (.cho kids) a u r.2.1 r.2.2) := by
  intro kids
  induction kids with
  | nil =>
    intro hk e u hu0 hu he
    subst he
    exact ⟨(true, -1, u), Ev.of_eq fun k => by rw [Qp.choF], ⟨fun _ => ⟨hu0, Int.le_refl _, Int.le_refl _, by show (-1 : Int) ≤ _; omega, fun h => absurd h (by simp)⟩, fun h => absurd h (by simp)⟩, fun _ => .choNil⟩
  | cons c cs ihk =>
    intro hk e u hu0 hu he
    have hc := hk c (by simp)
    obtain ⟨⟨r1, r2, r3⟩, hr, hg, hf⟩ := ih u hu c a hc.1 hc.2 ha0 ha
    by_cases hc2 : r1 = true ∧ r2 < 0
    · obtain ⟨rfl, hr2⟩ := hc2
      obtain ⟨g1, g2, g3, g4, g5⟩ := hg.known rfl
      dsimp only at g1 g2 g3 g4 g5
      have er : r2 = -1 := by omega
      subst er
      obtain ⟨r', hr', hg', hf'⟩ := ihk (fun d hd => hk d (List.mem_cons_of_mem _ hd)) (-1) r3 g1 (by omega) rfl
      exact ⟨r', Ev.congr (fun k => choF_cons _ _ _ _ _) (Ev.bind hr (Ev.congr (fun k => if_pos ⟨rfl, hr2⟩) hr')), good_weaken hg' (Int.le_refl _) (by omega), fun h => .choGo (hf rfl) hr2 (hf' h)⟩
    · refine ⟨(r1, r2, r3), Ev.congr (fun k => choF_cons _ _ _ _ _) (Ev.bind hr (Ev.of_eq fun _ => if_neg hc2)), good_weaken hg (Int.le_refl _) (by omega), fun h => ?_⟩
      have h' : r1 = true := h
      subst h'
      exact .choYes (hf rfl) (by have : ¬ r2 < 0 := fun h2 => hc2 ⟨rfl, h2⟩; show 0 ≤ r2; omega)
theorem rep_run (n : Int) (ih : ∀ u, u ≤ n → ∀ i a, 0 ≤ i → i < (G.length : Int) → 0 ≤ a → a ≤ (x.size : Int) → RunRel R G x i a u) (c : Int) (hc0 : 0 ≤ c) (hc : c < (G.length : Int)) :
    ∀ (q : Nat) (u : Int), u.toNat = q → 0 ≤ u → u ≤ n → ∀ a, 0 ≤ a → a ≤ (x.size : Int) →
      ∃ r, (∀ b last, Ev (fun k => Qp.repF (fun a u => Qp.f (k + b) R G c x a u) k last (true, a, u)) r) ∧ Good x a u r ∧ (r.1 = true → Run R G x (.rep c) a u r.2.1 r.2.2) := by
  intro q
  induction q using Nat.strongRecOn with
  | _ q ihq =>
  intro u hq hu0 hu a ha0 ha
  obtain ⟨⟨r1, r2, r3⟩, hr, hg, hf⟩ := ih u hu c a hc0 hc ha0 ha
  have stepR : ∀ u b last k, Qp.repF (fun a u => Qp.f (k + 1 + b) R G c x a u) (k + 1) last (true, a, u) = (Qp.f (k + (b + 1)) R G c x a u).bind fun t => Qp.repF (fun a u => Qp.f (k + (b + 1)) R G c x a u) k a t := fun u b last k => by
    rw [Qp.repF, if_pos ⟨rfl, ha0⟩, show k + 1 + b = k + (b + 1) by omega]
  cases r1 with
  | false =>
    obtain ⟨u1, u2⟩ := hg.unk rfl
    dsimp only at u1 u2
    subst u1 u2
    refine ⟨(false, 0, 0), fun b last => Ev.succ (stepR u b last) (Ev.bind (Ev.shift (b + 1) hr) ?_), ⟨fun h => absurd h (by simp), fun _ => ⟨rfl, rfl⟩⟩, fun h => absurd h (by simp)⟩
    exact Ev.succ (g := fun _ => some (false, 0, 0)) (fun k => by rw [Qp.repF, if_neg (by simp), if_neg (by simp)]) (Ev.const _)
  | true =>
    obtain ⟨g1, g2, g3, g4, g5⟩ := hg.known rfl
    dsimp only at g1 g2 g3 g4 g5
    by_cases hr2 : 0 ≤ r2
    · obtain ⟨r', hr', hg', hf'⟩ := ihq r3.toNat (by omega) r3 rfl g1 (by omega) r2 hr2 g4
      exact ⟨r', fun b last => Ev.succ (stepR u b last) (Ev.bind (Ev.shift (b + 1) hr) (hr' (b + 1) a)), good_weaken hg' (g5 hr2) (by omega), fun h => .repGo (hf rfl) hr2 (hf' h)⟩
    · refine ⟨(true, a, r3), fun b last => Ev.succ (stepR u b last) (Ev.bind (Ev.shift (b + 1) hr) ?_), ⟨fun _ => ⟨g1, by show r3 ≤ u; omega, by show -1 ≤ a; omega, ha, fun _ => Int.le_refl _⟩, fun h => absurd h (by simp)⟩, fun _ => .repEnd (hf rfl) (by show r2 < 0; omega)⟩
      exact Ev.succ (g := fun _ => some (true, a, r3)) (fun k => by rw [Qp.repF, if_neg (fun h => hr2 h.2), if_pos rfl]) (Ev.const _)
theorem node_run : ∀ (n : Nat) (u : Int), u ≤ n → u ≤ 100000000 → ∀ i a, 0 ≤ i → i < (G.length : Int) → 0 ≤ a → a ≤ (x.size : Int) → RunRel R G x i a u := by
  intro n
  induction n with
  | zero =>
    intro u hu _ i a hi0 hi ha0 ha
    exact ⟨(false, 0, 0), Ev.succ (g := fun _ => some (false, 0, 0)) (fun k => by rw [Qp.f, if_pos (by omega)]) (Ev.const _), ⟨fun h => absurd h (by simp), fun _ => ⟨rfl, rfl⟩⟩, fun h => absurd h (by simp)⟩
  | succ n ih0 =>
    intro u hu hub i a hi0 hi ha0 ha
    by_cases hu1 : u < 1
    · exact ih0 u (by omega) hub i a hi0 hi ha0 ha
    have hu2 : 1 ≤ u := by omega
    have ih : ∀ u', u' ≤ u - 1 → ∀ i a, 0 ≤ i → i < (G.length : Int) → 0 ≤ a → a ≤ (x.size : Int) → RunRel R G x i a u' := fun u' hu' => ih0 u' (by omega) (by omega)
    have hwr : wrap64 (u - 1) = u - 1 := w64p _ (by omega)
    obtain ⟨m0, m1, m2, m3, m4, m5, m6, m7, m8⟩ := hw.made i hi0 hi
    have hkids := hw.kids i hi0 hi
    have hkids' : ∀ c ∈ (nodeAt G i).f1, 0 ≤ c ∧ c < (G.length : Int) := fun c hc => by have := hkids c hc; omega
    have unit : ∀ (e : Int), -1 ≤ e → e ≤ (x.size : Int) → (0 ≤ e → a ≤ e) → Good x a (u - 1) (true, e, u - 1) := fun e h1 h2 h3 =>
      ⟨fun _ => ⟨by show 0 ≤ u - 1; omega, Int.le_refl _, h1, h2, h3⟩, fun h => absurd h (by simp)⟩
    by_cases o0 : (nodeAt G i).f0 = 0
    · exact ⟨_, Ev.succ (g := fun _ => some (true, a, u - 1)) (fun k => by rw [Qp.f, if_neg hu1, if_pos ⟨hi0, hi⟩, if_pos o0, hwr]) (Ev.const _), unit a (by omega) ha (fun _ => Int.le_refl _), fun _ => .empty o0 hu2⟩
    by_cases o1 : (nodeAt G i).f0 = 1
    · by_cases hlt : a < (x.size : Int)
      · have hset := (hok _ (rd_mem56 G i hi0 hi)).2.2.2
        obtain ⟨b, hb1, hb2⟩ := has_ev (nodeAt G i).f3 hset (bt x a) (bt_range x a).1 (bt_range x a).2
        have stepR : ∀ k, Qp.f (k + 1) R G i x a u = (Qc2.f k (nodeAt G i).f3.f0 (nodeAt G i).f3.f1 (nodeAt G i).f3.f2 (nodeAt G i).f3.f3 (bt x a)).bind fun b => if b = true then some (true, a + 1, u - 1) else some (true, -1, u - 1) := fun k => by
          rw [Qp.f, if_neg hu1, if_pos ⟨hi0, hi⟩, if_neg o0, if_pos o1, if_pos hlt, if_pos ha0, hwr, w64p (a + 1) (by omega)]
        cases b with
        | true => exact ⟨_, Ev.succ stepR (Ev.bind hb2 (Ev.of_eq fun _ => if_pos rfl)), unit (a + 1) (by omega) (by omega) (fun _ => by omega), fun _ => .hit o1 hu2 hlt hb1⟩
        | false => exact ⟨_, Ev.succ stepR (Ev.bind hb2 (Ev.of_eq fun _ => if_neg (by decide))), unit (-1) (by omega) (by omega) (fun h => absurd h (by decide)), fun _ => .miss o1 hu2 (fun _ => hb1)⟩
      · exact ⟨_, Ev.succ (g := fun _ => some (true, -1, u - 1)) (fun k => by rw [Qp.f, if_neg hu1, if_pos ⟨hi0, hi⟩, if_neg o0, if_pos o1, if_neg hlt, hwr]) (Ev.const _), unit (-1) (by omega) (by omega) (fun h => absurd h (by decide)), fun _ => .miss o1 hu2 (fun h => absurd h hlt)⟩
    by_cases o2 : (nodeAt G i).f0 = 2
    · obtain ⟨p0, p1⟩ := m6 o2
      have hroot := hw.roots _ p0 p1
      obtain ⟨r, hr, hg, hf⟩ := ih (u - 1) (Int.le_refl _) (ruleAt R (nodeAt G i).f2).f1 a hroot.1 hroot.2 ha0 ha
      exact ⟨r, Ev.succ (fun k => by rw [Qp.f, if_neg hu1, if_pos ⟨hi0, hi⟩, if_neg o0, if_neg o1, if_pos o2, if_pos ⟨p0, p1⟩, hwr]) hr, good_weaken hg (Int.le_refl _) (by omega), fun h => .call o2 hu2 (hf h)⟩
    by_cases o3 : (nodeAt G i).f0 = 3
    · obtain ⟨r, hr, hg, hf⟩ := seq_run hx hG hw hok hkl (u - 1) ih (nodeAt G i).f1 hkids' a (u - 1) (by omega) (Int.le_refl _) ha0 ha
      exact ⟨r, Ev.succ (fun k => by rw [Qp.f, if_neg hu1, if_pos ⟨hi0, hi⟩, if_neg o0, if_neg o1, if_neg o2, if_pos o3, hwr]) hr, hg, fun h => .seq o3 hu2 (hf h)⟩
    by_cases o4 : (nodeAt G i).f0 = 4
    · obtain ⟨r, hr, hg, hf⟩ := cho_run hx hG hw hok hkl (u - 1) a ha0 ha ih (nodeAt G i).f1 hkids' (-1) (u - 1) (by omega) (Int.le_refl _) rfl
      exact ⟨r, Ev.succ (fun k => by rw [Qp.f, if_neg hu1, if_pos ⟨hi0, hi⟩, if_neg o0, if_neg o1, if_neg o2, if_neg o3, if_pos o4, hwr]) hr, hg, fun h => .cho o4 hu2 (hf h)⟩
    have hop5 : 5 ≤ (nodeAt G i).f0 := by omega
    have hlen := m5 hop5
    have hne : (nodeAt G i).f1 ≠ [] := fun h => by rw [h] at hlen; simp at hlen
    have hl0 : (0 : Int) < ((nodeAt G i).f1.length : Int) := by omega
    have hkid := hkids' _ (rd_in hx hG hw hok hkl (nodeAt G i).f1 0 (Int.le_refl _) hl0)
    obtain ⟨⟨r1, r2, r3⟩, hr, hg, hf⟩ := ih (u - 1) (Int.le_refl _) (rd (nodeAt G i).f1 0) a hkid.1 hkid.2 ha0 ha
    have stepR : ∀ k, Qp.f (k + 1) R G i x a u = (Qp.f k R G (rd (nodeAt G i).f1 0) x a (u - 1)).bind fun r =>
        if r.1 = false then some r else
        if (nodeAt G i).f0 = 7 then (if r.2.1 < 0 then some (true, a, r.2.2) else some r) else
        if (nodeAt G i).f0 = 8 then (if r.2.1 < 0 then some r else some (true, a, r.2.2)) else
        if (nodeAt G i).f0 = 9 then (if r.2.1 < 0 then some (true, a, r.2.2) else some (true, -1, r.2.2)) else
        if r.2.1 < 0 ∧ (nodeAt G i).f0 = 6 then some r else Qp.repF (fun a u => Qp.f k R G (rd (nodeAt G i).f1 0) x a u) k a r := fun k => by
      rw [Qp.f, if_neg hu1, if_pos ⟨hi0, hi⟩, if_neg o0, if_neg o1, if_neg o2, if_neg o3, if_neg o4, if_neg hne, hwr]
    cases r1 with
    | false =>
      obtain ⟨u1, u2⟩ := hg.unk rfl
      dsimp only at u1 u2
      subst u1 u2
      exact ⟨(false, 0, 0), Ev.succ stepR (Ev.bind hr (Ev.of_eq fun _ => if_pos rfl)), ⟨fun h => absurd h (by simp), fun _ => ⟨rfl, rfl⟩⟩, fun h => absurd h (by simp)⟩
    | true =>
      obtain ⟨g1, g2, g3, g4, g5⟩ := hg.known rfl
      dsimp only at g1 g2 g3 g4 g5
      have hf1 := hf rfl
      dsimp only at hf1
      have fin : ∀ (e : Int), -1 ≤ e → e ≤ (x.size : Int) → (0 ≤ e → a ≤ e) → Good x a (u - 1) (true, e, r3) := fun e h1 h2 h3 =>
        ⟨fun _ => ⟨g1, by show r3 ≤ u - 1; omega, h1, h2, h3⟩, fun h => absurd h (by simp)⟩
      by_cases o7 : (nodeAt G i).f0 = 7
      · by_cases he : r2 < 0
        · exact ⟨_, Ev.succ stepR (Ev.bind hr (Ev.of_eq fun _ => by rw [if_neg (by simp), if_pos o7, if_pos he])), fin a (by omega) ha (fun _ => Int.le_refl _), fun _ => .optNo o7 hu2 hf1 he⟩
        · exact ⟨_, Ev.succ stepR (Ev.bind hr (Ev.of_eq fun _ => by rw [if_neg (by simp), if_pos o7, if_neg he])), fin r2 g3 g4 g5, fun _ => .opt o7 hu2 hf1 (show 0 ≤ r2 by omega)⟩
      by_cases o8 : (nodeAt G i).f0 = 8
      · by_cases he : r2 < 0
        · exact ⟨_, Ev.succ stepR (Ev.bind hr (Ev.of_eq fun _ => by rw [if_neg (by simp), if_neg o7, if_pos o8, if_pos he])), fin r2 g3 g4 g5, fun _ => .andNo o8 hu2 hf1 he⟩
        · exact ⟨_, Ev.succ stepR (Ev.bind hr (Ev.of_eq fun _ => by rw [if_neg (by simp), if_neg o7, if_pos o8, if_neg he])), fin a (by omega) ha (fun _ => Int.le_refl _), fun _ => .and o8 hu2 hf1 (by omega)⟩
      by_cases o9 : (nodeAt G i).f0 = 9
      · by_cases he : r2 < 0
        · exact ⟨_, Ev.succ stepR (Ev.bind hr (Ev.of_eq fun _ => by rw [if_neg (by simp), if_neg o7, if_neg o8, if_pos o9, if_pos he])), fin a (by omega) ha (fun _ => Int.le_refl _), fun _ => .not o9 hu2 hf1 he⟩
        · exact ⟨_, Ev.succ stepR (Ev.bind hr (Ev.of_eq fun _ => by rw [if_neg (by simp), if_neg o7, if_neg o8, if_pos o9, if_neg he])), fin (-1) (by omega) (by omega) (fun h => absurd h (by decide)), fun _ => .notNo o9 hu2 hf1 (by omega)⟩
      by_cases h6 : r2 < 0 ∧ (nodeAt G i).f0 = 6
      · exact ⟨_, Ev.succ stepR (Ev.bind hr (Ev.of_eq fun _ => by rw [if_neg (by simp), if_neg o7, if_neg o8, if_neg o9, if_pos h6])), fin r2 g3 g4 g5, fun _ => .plusNo h6.2 hu2 hf1 h6.1⟩
      by_cases he : 0 ≤ r2
      · obtain ⟨r', hr', hg', hf'⟩ := rep_run hx hG hw hok hkl (u - 1) ih (rd (nodeAt G i).f1 0) hkid.1 hkid.2 r3.toNat r3 rfl g1 (by omega) r2 he g4
        refine ⟨r', Ev.succ stepR (Ev.bind hr (Ev.congr (fun k => by rw [if_neg (by simp), if_neg o7, if_neg o8, if_neg o9, if_neg h6]; rfl) (hr' 0 a))), good_weaken hg' (g5 he) (by omega), fun h => ?_⟩
        by_cases o5 : (nodeAt G i).f0 = 5
        · exact .star o5 hu2 (.repGo hf1 he (hf' h))
        · exact .plus (by omega) hu2 hf1 he (hf' h)
      · have o5 : (nodeAt G i).f0 = 5 := by
          have : ¬ (nodeAt G i).f0 = 6 := fun h => h6 ⟨by omega, h⟩
          omega
        exact ⟨(true, a, r3), Ev.succ stepR (Ev.bind hr (Ev.succ (g := fun _ => some (true, a, r3)) (fun k => by rw [if_neg (by simp), if_neg o7, if_neg o8, if_neg o9, if_neg h6, Qp.repF, if_neg (fun h => he h.2), if_pos rfl]) (Ev.const _))), fin a (by omega) ha (fun _ => Int.le_refl _), fun _ => .star o5 hu2 (.repEnd hf1 (by omega))⟩
end
end Go.Proofs.Ythgedejnpgcacaa.V
namespace Go.Proofs.Ythgedejnpgcacaa.V
open Go.RowKit Go.Proofs.YthgedejnpgcacaaW.PrintWords
set_option linter.unusedVariables false
set_option linter.unusedSectionVars false
abbrev FactT := S45
abbrev factAt (l : List FactT) (i : Int) : FactT := rd_T45 l i
instance decFactT : DecidableEq FactT := fun a b => if h : a.f0 = b.f0 ∧ a.f1 = b.f1 ∧ a.f2 = b.f2 then isTrue (by obtain ⟨a1, a2, a3⟩ := a; obtain ⟨b1, b2, b3⟩ := b; obtain ⟨h1, h2, h3⟩ := h; dsimp only at h1 h2 h3; subst h1 h2 h3; rfl) else isFalse (fun e => h (by subst e; exact ⟨rfl, rfl, rfl⟩))
def FLe (a b : FactT) : Prop := (a.f0 = true → b.f0 = true) ∧ (a.f1 = true → b.f1 = true) ∧ (a.f2 = true → b.f2 = true)
def LLe (a b : List FactT) : Prop := a.length = b.length ∧ ∀ i : Int, FLe (factAt a i) (factAt b i)
def mkF (t : Bool × Bool × Bool) : FactT := ⟨t.1, t.2.1, t.2.2⟩
def stepL (R : List RuleT) (G : List NodeT) (l : List FactT) : List FactT := G.map fun nd => mkF (Qa1.p R l nd)
theorem FLe.refl (a : FactT) : FLe a a := ⟨id, id, id⟩
theorem FLe.trans {a b c : FactT} (h : FLe a b) (k : FLe b c) : FLe a c := ⟨fun x => k.1 (h.1 x), fun x => k.2.1 (h.2.1 x), fun x => k.2.2 (h.2.2 x)⟩
theorem seqF_mono {l m : List FactT} (h : ∀ i, FLe (factAt l i) (factAt m i)) : ∀ (cs : List Int) (n e f al n' e' f' al' : Bool), (n = true → n' = true) → (e = true → e' = true) → (f = true → f' = true) → (al = true → al' = true) →
    FLe (mkF (Qa1.seqF l cs n e f al)) (mkF (Qa1.seqF m cs n' e' f' al')) := by
  intro cs
  induction cs with
  | nil =>
    intro n e f al n' e' f' al' h1 h2 h3 h4
    refine ⟨h1, fun hx => ?_, h3⟩
    simp only [Qa1.seqF, mkF, Bool.and_eq_true] at hx ⊢
    exact ⟨h2 hx.1, h4 hx.2⟩
  | cons c cs ih =>
    intro n e f al n' e' f' al' h1 h2 h3 h4
    obtain ⟨k1, k2, k3⟩ := h c
    refine ih _ _ _ _ _ _ _ _ ?_ ?_ ?_ ?_
    · simp only [Bool.and_eq_true]; exact fun hx => ⟨h1 hx.1, k1 hx.2⟩
    · simp only [Bool.or_eq_true]; exact fun hx => hx.imp h2 k2
    · simp only [Bool.or_eq_true, Bool.and_eq_true]; exact fun hx => hx.imp h3 (fun hy => ⟨k3 hy.1, h4 hy.2⟩)
    · simp only [Bool.or_eq_true, Bool.and_eq_true]; exact fun hx => ⟨h4 hx.1, hx.2.imp k1 k2⟩
theorem choF_mono' {l m : List FactT} (h : ∀ i, FLe (factAt l i) (factAt m i)) : ∀ (cs : List Int) (n e f n' e' f' : Bool), (n = true → n' = true) → (e = true → e' = true) → (f = true → f' = true) →
    FLe (mkF (Qa1.choF l cs n e f)) (mkF (Qa1.choF m cs n' e' f')) := by
  intro cs
  induction cs with
  | nil => exact fun n e f n' e' f' h1 h2 h3 => ⟨h1, h2, h3⟩
  | cons c cs ih =>
    intro n e f n' e' f' h1 h2 h3
    obtain ⟨k1, k2, k3⟩ := h c
    refine ih _ _ _ _ _ _ ?_ ?_ ?_
    · simp only [Bool.or_eq_true, Bool.and_eq_true]; exact fun hx => hx.imp h1 (fun hy => ⟨k1 hy.1, h3 hy.2⟩)
    · simp only [Bool.or_eq_true, Bool.and_eq_true]; exact fun hx => hx.imp h2 (fun hy => ⟨k2 hy.1, h3 hy.2⟩)
    · simp only [Bool.and_eq_true]; exact fun hx => ⟨h3 hx.1, k3 hx.2⟩
theorem p_mono (R : List RuleT) {l m : List FactT} (h : ∀ i, FLe (factAt l i) (factAt m i)) (nd : NodeT) : FLe (mkF (Qa1.p R l nd)) (mkF (Qa1.p R m nd)) := by
  have hk := h (rd nd.f1 0)
  have hr := h (rd_T51 R nd.f2).f1
  obtain ⟨k1, k2, k3⟩ := hk
  have e1 : ∀ {a b a' b' : Bool}, (a = true → a' = true) → (b = true → b' = true) → (a || b) = true → (a' || b') = true := fun ha hb hx => by rw [Bool.or_eq_true] at hx ⊢; exact hx.imp ha hb
  have e2 : ∀ {a b a' b' : Bool}, (a = true → a' = true) → (b = true → b' = true) → (a && b) = true → (a' && b') = true := fun ha hb hx => by rw [Bool.and_eq_true] at hx ⊢; exact ⟨ha hx.1, hb hx.2⟩
  unfold Qa1.p
  by_cases c0 : nd.f0 = 0
  · rw [if_pos c0, if_pos c0]; exact FLe.refl _
  rw [if_neg c0, if_neg c0]
  by_cases c1 : nd.f0 = 1
  · rw [if_pos c1, if_pos c1]; exact FLe.refl _
  rw [if_neg c1, if_neg c1]
  by_cases c2 : nd.f0 = 2
  · rw [if_pos c2, if_pos c2]; exact hr
  rw [if_neg c2, if_neg c2]
  by_cases c3 : nd.f0 = 3
  · rw [if_pos c3, if_pos c3]; exact seqF_mono h _ _ _ _ _ _ _ _ _ id id id id
  rw [if_neg c3, if_neg c3]
  by_cases c4 : nd.f0 = 4
  · rw [if_pos c4, if_pos c4]; exact choF_mono' h _ _ _ _ _ _ _ id id id
  rw [if_neg c4, if_neg c4]
  dsimp only
  by_cases c5 : nd.f0 = 5
  · rw [if_pos c5, if_pos c5]; exact ⟨k3, k2, id⟩
  rw [if_neg c5, if_neg c5]
  by_cases c6 : nd.f0 = 6
  · rw [if_pos c6, if_pos c6]; exact ⟨e2 k1 k3, k2, k3⟩
  rw [if_neg c6, if_neg c6]
  by_cases c7 : nd.f0 = 7
  · rw [if_pos c7, if_pos c7]; exact ⟨e1 k1 k3, k2, id⟩
  rw [if_neg c7, if_neg c7]
  by_cases c8 : nd.f0 = 8
  · rw [if_pos c8, if_pos c8]; exact ⟨e1 k1 k2, id, k3⟩
  rw [if_neg c8, if_neg c8]
  by_cases c9 : nd.f0 = 9
  · rw [if_pos c9, if_pos c9]; exact ⟨k3, id, e1 k1 k2⟩
  rw [if_neg c9, if_neg c9]
  exact FLe.refl _
theorem fact_out (l : List FactT) (i : Int) (h : ¬ i.toNat < l.length) : factAt l i = z45 := by
  show l.getD i.toNat _ = _
  rw [List.getD_eq_getElem?_getD, List.getElem?_eq_none (by omega)]
  rfl
theorem fact_step (R : List RuleT) (G : List NodeT) (l : List FactT) (i : Int) (h0 : 0 ≤ i) (h1 : i < (G.length : Int)) : factAt (stepL R G l) i = mkF (Qa1.p R l (nodeAt G i)) := by
  have h : i.toNat < G.length := by omega
  show (G.map _).getD i.toNat _ = mkF (Qa1.p R l (G.getD i.toNat _))
  rw [List.getD_eq_getElem?_getD, List.getD_eq_getElem?_getD, List.getElem?_map, List.getElem?_eq_getElem h]
  rfl
theorem step_length (R : List RuleT) (G : List NodeT) (l : List FactT) : (stepL R G l).length = G.length := by simp [stepL]
theorem step_mono (R : List RuleT) (G : List NodeT) {l m : List FactT} (h : ∀ i, FLe (factAt l i) (factAt m i)) (i : Int) : FLe (factAt (stepL R G l) i) (factAt (stepL R G m) i) := by
  by_cases hi : i.toNat < G.length
  · have e : factAt (stepL R G l) i = mkF (Qa1.p R l (G.getD i.toNat z56)) := by
      show (G.map _).getD i.toNat _ = _
      rw [List.getD_eq_getElem?_getD, List.getD_eq_getElem?_getD, List.getElem?_map, List.getElem?_eq_getElem hi]
      rfl
    have e' : factAt (stepL R G m) i = mkF (Qa1.p R m (G.getD i.toNat z56)) := by
      show (G.map _).getD i.toNat _ = _
      rw [List.getD_eq_getElem?_getD, List.getD_eq_getElem?_getD, List.getElem?_map, List.getElem?_eq_getElem hi]
      rfl
    rw [e, e']
    exact p_mono R h _
  · rw [fact_out _ _ (by rw [step_length]; exact hi), fact_out _ _ (by rw [step_length]; exact hi)]
    exact FLe.refl _
def cntF (a : FactT) : Nat := a.f0.toNat + a.f1.toNat + a.f2.toNat
def cnt (l : List FactT) : Nat := (l.map cntF).sum
theorem cntF_le (a : FactT) : cntF a ≤ 3 := by obtain ⟨a, b, c⟩ := a; cases a <;> cases b <;> cases c <;> decide
theorem cntF_mono {a b : FactT} (h : FLe a b) : cntF a ≤ cntF b ∧ (cntF b ≤ cntF a → a = b) := by
  obtain ⟨a1, a2, a3⟩ := a
  obtain ⟨b1, b2, b3⟩ := b
  obtain ⟨h1, h2, h3⟩ := h
  cases a1 <;> cases a2 <;> cases a3 <;> cases b1 <;> cases b2 <;> cases b3 <;> simp_all [cntF]
theorem cnt_le : ∀ l : List FactT, cnt l ≤ 3 * l.length
  | [] => by simp [cnt]
  | a :: l => by
    have := cnt_le l
    have := cntF_le a
    simp only [cnt, List.map_cons, List.sum_cons, List.length_cons] at *
    omega
theorem cnt_mono : ∀ (a b : List FactT), a.length = b.length → (∀ i : Nat, ∀ x y, a[i]? = some x → b[i]? = some y → FLe x y) → cnt a ≤ cnt b ∧ (cnt b ≤ cnt a → a = b)
  | [], [], _, _ => ⟨Nat.le_refl _, fun _ => rfl⟩
  | [], _ :: _, h, _ => by simp at h
  | _ :: _, [], h, _ => by simp at h
  | x :: a, y :: b, hl, h => by
    have h1 := cntF_mono (h 0 x y rfl rfl)
    have h2 := cnt_mono a b (by simpa using hl) (fun i u v hu hv => h (i + 1) u v (by simpa using hu) (by simpa using hv))
    simp only [cnt, List.map_cons, List.sum_cons] at *
    refine ⟨by omega, fun hc => ?_⟩
    rw [h1.2 (by omega), h2.2 (by omega)]
theorem lle_cnt {a b : List FactT} (h : LLe a b) : cnt a ≤ cnt b ∧ (cnt b ≤ cnt a → a = b) := cnt_mono a b h.1 (fun i x y hx hy => by
  have := h.2 (i : Int)
  have e : factAt a (i : Int) = x := by
    show a.getD ((i : Int).toNat) _ = x
    rw [List.getD_eq_getElem?_getD, show ((i : Int).toNat) = i by omega, hx]
    rfl
  have e' : factAt b (i : Int) = y := by
    show b.getD ((i : Int).toNat) _ = y
    rw [List.getD_eq_getElem?_getD, show ((i : Int).toNat) = i by omega, hy]
    rfl
  rwa [e, e'] at this)
section
variable {R : List RuleT} {G : List NodeT} (hw : WF R G)
include hw
theorem fit_ok (l : List FactT) (hl : l.length = G.length) (i : Int) (h0 : 0 ≤ i) (h1 : i < (G.length : Int)) : Qa1.fit R l (nodeAt G i) := by
  obtain ⟨m0, m1, m2, m3, m4, m5, m6, m7, m8⟩ := hw.made i h0 h1
  refine ⟨fun c hc => ?_, fun h5 _ he => ?_, fun h2 => ?_⟩
  · have := hw.kids i h0 h1 c hc
    omega
  · have := m5 h5
    rw [show (nodeAt G i).f1 = [] from he] at this
    simp at this
  · obtain ⟨p0, p1⟩ := m6 h2
    have := hw.roots _ p0 p1
    exact ⟨p0, p1, this.1, by have := this.2; show (ruleAt R (nodeAt G i).f2).f1 < _; omega⟩
theorem node11_ev (l : List FactT) (hl : l.length = G.length) (i : Int) (h0 : 0 ≤ i) (h1 : i < (G.length : Int)) : Qa1.f R G i l = some (Qa1.p R l (nodeAt G i)) := by
  unfold Qa1.f
  rw [if_pos ⟨h0, h1, fit_ok hw l hl i h0 h1⟩]
theorem step_ev (l : List FactT) (hl : l.length = G.length) : Ev (fun k => Qa2.f k R G l) (stepL R G l) := by
  have hn := hw.nodes
  have loop : ∀ (n j : Nat), j + n = G.length → Ev (fun k => Qa2.l0 k l ((G.take j).map fun nd => mkF (Qa1.p R l nd)) (j : Int) R G) (stepL R G l) := by
    intro n
    induction n with
    | zero =>
      intro j hj
      refine Ev.succ (g := fun _ => some (stepL R G l)) (fun k => ?_) (Ev.const _)
      rw [Qa2.l0, if_neg (by omega), List.take_of_length_le (by omega)]
      rfl
    | succ n ih =>
      intro j hj
      have h := ih (j + 1) (by omega)
      refine Ev.succ (fun k => ?_) h
      rw [Qa2.l0, if_pos (by omega), node11_ev hw l hl j (by omega) (by omega), Option.bind_some, if_pos (by rw [List.length_map, List.length_take]; omega), w64p ((j : Int) + 1) (by omega)]
      have e : G.take (j + 1) = G.take j ++ [nodeAt G j] := by
        have hj' : j < G.length := by omega
        rw [List.take_succ_eq_append_getElem hj']
        congr 2
        show _ = G.getD ((j : Int).toNat) _
        rw [List.getD_eq_getElem?_getD, show ((j : Int).toNat) = j by omega, List.getElem?_eq_getElem hj']
        rfl
      rw [e, List.map_append]
      rfl
  have := loop G.length 0 (by omega)
  exact this
omit hw in
theorem same_ev (a b : List FactT) (hl : a.length = b.length) (hb : a.length ≤ 1000000) : Ev (fun k => Qz1.f k a b) (decide (a = b)) := by
  have loop : ∀ (n j : Nat), j + n = a.length → a.take j = b.take j → Ev (fun k => Qz1.l0 k a b (j : Int)) (decide (a = b)) := by
    intro n
    induction n with
    | zero =>
      intro j hj ht
      have e : a = b := by rwa [List.take_of_length_le (by omega), List.take_of_length_le (by omega)] at ht
      rw [decide_eq_true e]
      exact Ev.succ (g := fun _ => some true) (fun k => by rw [Qz1.l0, if_neg (by omega)]) (Ev.const _)
    | succ n ih =>
      intro j hj ht
      have hja : j < a.length := by omega
      have hjb : j < b.length := by omega
      have ea : factAt a (j : Int) = a[j] := by
        show a.getD ((j : Int).toNat) _ = _
        rw [List.getD_eq_getElem?_getD, show ((j : Int).toNat) = j by omega, List.getElem?_eq_getElem hja]
        rfl
      have eb : factAt b (j : Int) = b[j] := by
        show b.getD ((j : Int).toNat) _ = _
        rw [List.getD_eq_getElem?_getD, show ((j : Int).toNat) = j by omega, List.getElem?_eq_getElem hjb]
        rfl
      by_cases c : a[j] = b[j]
      · refine Ev.succ (fun k => ?_) (ih (j + 1) (by omega) (by rw [List.take_succ_eq_append_getElem hja, List.take_succ_eq_append_getElem hjb, ht, c]))
        rw [Qz1.l0, if_pos (by omega), if_pos (by omega), if_pos (by omega), if_neg, w64p ((j : Int) + 1) (by omega)]
        · rfl
        · show ¬ (!((factAt a (j : Int)).f0 == (factAt b (j : Int)).f0) || (!((factAt a (j : Int)).f1 == (factAt b (j : Int)).f1) || !((factAt a (j : Int)).f2 == (factAt b (j : Int)).f2))) = true
          rw [ea, eb, c]
          simp
      · have hne : ¬ a = b := fun h => c (by subst h; rfl)
        rw [decide_eq_false hne]
        refine Ev.succ (g := fun _ => some false) (fun k => ?_) (Ev.const _)
        rw [Qz1.l0, if_pos (by omega), if_pos (by omega), if_pos (by omega), if_pos]
        show (!((factAt a (j : Int)).f0 == (factAt b (j : Int)).f0) || (!((factAt a (j : Int)).f1 == (factAt b (j : Int)).f1) || !((factAt a (j : Int)).f2 == (factAt b (j : Int)).f2))) = true
        rw [ea, eb]
        revert c
        generalize a[j] = p
        generalize b[j] = q
        obtain ⟨p1, p2, p3⟩ := p
        obtain ⟨q1, q2, q3⟩ := q
        intro c
        cases p1 <;> cases p2 <;> cases p3 <;> cases q1 <;> cases q2 <;> cases q3 <;> simp_all
  have := loop a.length 0 (by omega) rfl
  exact Ev.congr (fun k => by unfold Qz1.f; rw [if_pos (by omega)]; rfl) this
theorem of_ev : ∃ l, Ev (fun k => Qv1.f k R G) l ∧ l.length = G.length ∧ stepL R G l = l ∧ (∀ m : List FactT, (∀ i, FLe (factAt (stepL R G m) i) (factAt m i)) → ∀ i, FLe (factAt l i) (factAt m i)) := by
  have hn := hw.nodes
  have loop : ∀ (n : Nat) (l : List FactT), 3 * G.length - cnt l = n → l.length = G.length → (∀ i, FLe (factAt l i) (factAt (stepL R G l) i)) → (∀ m : List FactT, (∀ i, FLe (factAt (stepL R G m) i) (factAt m i)) → ∀ i, FLe (factAt l i) (factAt m i)) →
      ∃ r, Ev (fun k => Qv1.l0 k l R G) r ∧ r.length = G.length ∧ stepL R G r = r ∧ (∀ m : List FactT, (∀ i, FLe (factAt (stepL R G m) i) (factAt m i)) → ∀ i, FLe (factAt r i) (factAt m i)) := by
    intro n
    induction n using Nat.strongRecOn with
    | _ n ih =>
      intro l hc hl hle hmin
      have hs := step_ev hw l hl
      have hsame := same_ev l (stepL R G l) (by rw [step_length, hl]) (by omega)
      have stepO : ∀ k, Qv1.l0 (k + 1) l R G = (Qa2.f k R G l).bind fun t => (Qz1.f k l t).bind fun s => if s = true then some l else Qv1.l0 k t R G := fun k => by rw [Qv1.l0]
      by_cases e : l = stepL R G l
      · rw [decide_eq_true e] at hsame
        exact ⟨l, Ev.succ stepO (Ev.bind hs (Ev.bind hsame (Ev.of_eq fun _ => if_pos rfl))), hl, e.symm, hmin⟩
      · rw [decide_eq_false e] at hsame
        have hcc := lle_cnt (a := l) (b := stepL R G l) ⟨by rw [step_length, hl], hle⟩
        have hlt : cnt l < cnt (stepL R G l) := by
          rcases Nat.lt_or_ge (cnt l) (cnt (stepL R G l)) with h | h
          · exact h
          · exact absurd (hcc.2 h) e
        have hb := cnt_le (stepL R G l)
        rw [step_length] at hb
        obtain ⟨r, hr, h2⟩ := ih (3 * G.length - cnt (stepL R G l)) (by omega) (stepL R G l) rfl (step_length R G l) (step_mono R G hle) (fun m hm i => (step_mono R G (hmin m hm) i).trans (hm i))
        exact ⟨r, Ev.succ stepO (Ev.bind hs (Ev.bind hsame (Ev.congr (fun _ => if_neg (by decide)) hr))), h2⟩
  have bot : ∀ i, factAt (List.replicate G.length z45) i = z45 := fun i => by
    show (List.replicate G.length _).getD i.toNat _ = _
    rw [List.getD_eq_getElem?_getD, List.getElem?_replicate]
    split <;> rfl
  have hz : ∀ a : FactT, FLe z45 a := fun a => ⟨fun h => absurd h (by decide), fun h => absurd h (by decide), fun h => absurd h (by decide)⟩
  obtain ⟨r, hr, h2⟩ := loop _ (List.replicate G.length z45) rfl (by simp) (fun i => by rw [bot]; exact hz _) (fun m _ i => by rw [bot]; exact hz _)
  refine ⟨r, Ev.congr (fun k => ?_) hr, h2⟩
  unfold Qv1.f
  rw [if_pos (by omega), if_pos (by omega), show ((G.length : Int) : Int).toNat = G.length by omega]
end
end Go.Proofs.Ythgedejnpgcacaa.V
namespace Go.Proofs.Ythgedejnpgcacaa.V
open Go.RowKit Go.Proofs.YthgedejnpgcacaaW.PrintWords
set_option linter.unusedVariables false
theorem seqF_keeps (l : List FactT) : ∀ (cs : List Int) (n e f al : Bool), f = true → (Qa1.seqF l cs n e f al).2.2 = true
  | [], n, e, f, al, h => h
  | c :: cs, n, e, f, al, h => seqF_keeps l cs _ _ _ _ (by rw [h]; rfl)
theorem choF_keeps (l : List FactT) : ∀ (cs : List Int) (n e f : Bool), (n = true → (Qa1.choF l cs n e f).1 = true) ∧ (e = true → (Qa1.choF l cs n e f).2.1 = true)
  | [], n, e, f => ⟨id, id⟩
  | c :: cs, n, e, f => ⟨fun h => (choF_keeps l cs _ _ _).1 (by rw [h]; rfl), fun h => (choF_keeps l cs _ _ _).2 (by rw [h]; rfl)⟩
theorem has_zero (s : S54) (c : Int) (h : (!(s.f0 == 0) || (!(s.f1 == 0) || (!(s.f2 == 0) || !(s.f3 == 0)))) = false) : byteset_Has.f s.f0 s.f1 s.f2 s.f3 c ≠ some true := by
  simp only [Bool.or_eq_false_iff, Bool.not_eq_false', beq_iff_eq] at h
  obtain ⟨h0, h1, h2, h3⟩ := h
  unfold byteset_Has.f
  rw [h0, h1, h2, h3]
  have : arr4 0 0 0 0 (c / 64) = 0 := by
    unfold arr4
    by_cases q0 : c / 64 = 0
    · rw [if_pos q0]
    · rw [if_neg q0]
      by_cases q1 : c / 64 = 1
      · rw [if_pos q1]
      · rw [if_neg q1]
        by_cases q2 : c / 64 = 2
        · rw [if_pos q2]
        · rw [if_neg q2]
  rw [this, Int.zero_ediv]
  split
  · split
    · rw [show (bits .and .u64 0 1 == 1) = false by decide]; simp
    · simp
  · simp
def Says (f : FactT) (a e : Int) : Prop := (e < 0 → f.f2 = true) ∧ (0 ≤ e → a ≤ e ∧ (e = a → f.f0 = true) ∧ (a < e → f.f1 = true))
def Tells (G : List NodeT) (L : List FactT) (a e : Int) : Task → Prop
  | .node i => 0 ≤ i → i < (G.length : Int) → Says (factAt L i) a e
  | .seq cs => (∀ c ∈ cs, 0 ≤ c ∧ c < (G.length : Int)) → ∀ a0 n en f, 0 ≤ a0 → a0 ≤ a → (a = a0 → n = true) → (a0 < a → en = true) → Says (mkF (Qa1.seqF L cs n en f true)) a0 e
  | .cho cs => (∀ c ∈ cs, 0 ≤ c ∧ c < (G.length : Int)) → ∀ n en, Says (mkF (Qa1.choF L cs n en true)) a e
  | .rep c => 0 ≤ c → c < (G.length : Int) → a ≤ e ∧ (factAt L c).f2 = true ∧ (a < e → (factAt L c).f1 = true)
theorem run_tells {R : List RuleT} {G : List NodeT} (hw : WF R G) {L : List FactT} (hL : stepL R G L = L) {x : ByteArray} {t : Task} {a u e l : Int} (h : Run R G x t a u e l) : 0 ≤ a → Tells G L a e t := by
  have hf : ∀ i : Int, 0 ≤ i → i < (G.length : Int) → factAt L i = mkF (Qa1.p R L (nodeAt G i)) := fun i h0 h1 => by
    have := fact_step R G L i h0 h1
    rwa [hL] at this
  have kid : ∀ i : Int, 0 ≤ i → i < (G.length : Int) → 5 ≤ (nodeAt G i).f0 → 0 ≤ rd (nodeAt G i).f1 0 ∧ rd (nodeAt G i).f1 0 < (G.length : Int) := fun i h0 h1 h5 => by
    have hl := (hw.made i h0 h1).2.2.2.2.2.1 h5
    have hm : rd (nodeAt G i).f1 0 ∈ (nodeAt G i).f1 := by
      unfold rd
      rw [List.getD_eq_getElem?_getD, List.getElem?_eq_getElem (by simp; omega)]
      exact List.getElem_mem _
    have := hw.kids i h0 h1 _ hm
    omega
  have kids : ∀ i : Int, 0 ≤ i → i < (G.length : Int) → ∀ c ∈ (nodeAt G i).f1, 0 ≤ c ∧ c < (G.length : Int) := fun i h0 h1 c hc => by
    have := hw.kids i h0 h1 c hc
    omega
  have pk : ∀ i : Int, 0 ≤ i → i < (G.length : Int) → ((nodeAt G i).f0 = 5 → factAt L i = mkF ((factAt L (rd (nodeAt G i).f1 0)).f2, (factAt L (rd (nodeAt G i).f1 0)).f1, false)) ∧
      ((nodeAt G i).f0 = 6 → factAt L i = mkF ((factAt L (rd (nodeAt G i).f1 0)).f0 && (factAt L (rd (nodeAt G i).f1 0)).f2, (factAt L (rd (nodeAt G i).f1 0)).f1, (factAt L (rd (nodeAt G i).f1 0)).f2)) ∧
      ((nodeAt G i).f0 = 7 → factAt L i = mkF ((factAt L (rd (nodeAt G i).f1 0)).f0 || (factAt L (rd (nodeAt G i).f1 0)).f2, (factAt L (rd (nodeAt G i).f1 0)).f1, false)) ∧
      ((nodeAt G i).f0 = 8 → factAt L i = mkF ((factAt L (rd (nodeAt G i).f1 0)).f0 || (factAt L (rd (nodeAt G i).f1 0)).f1, false, (factAt L (rd (nodeAt G i).f1 0)).f2)) ∧
      ((nodeAt G i).f0 = 9 → factAt L i = mkF ((factAt L (rd (nodeAt G i).f1 0)).f2, false, (factAt L (rd (nodeAt G i).f1 0)).f0 || (factAt L (rd (nodeAt G i).f1 0)).f1)) := fun i h0 h1 => by
    rw [hf i h0 h1]
    unfold Qa1.p
    generalize (nodeAt G i).f0 = op
    refine ⟨fun h => ?_, fun h => ?_, fun h => ?_, fun h => ?_, fun h => ?_⟩ <;> subst h <;> rfl
  induction h with
  | empty o hu =>
    intro ha h0 h1
    rw [hf _ h0 h1, Qa1.p, if_pos o]
    exact ⟨fun h => absurd h (by omega), fun _ => ⟨Int.le_refl _, fun _ => rfl, fun h => absurd h (by omega)⟩⟩
  | @hit i a u o hu hlt hh =>
    intro ha h0 h1
    rw [hf _ h0 h1, Qa1.p, if_neg (by omega), if_pos o]
    refine ⟨fun h => absurd h (by omega), fun _ => ⟨by omega, fun h => absurd h (by omega), fun _ => ?_⟩⟩
    cases hb : (!((nodeAt G i).f3.f0 == 0) || (!((nodeAt G i).f3.f1 == 0) || (!((nodeAt G i).f3.f2 == 0) || !((nodeAt G i).f3.f3 == 0)))) with
    | true => rfl
    | false => exact absurd hh (has_zero _ _ hb)
  | miss o hu hm =>
    intro ha h0 h1
    rw [hf _ h0 h1, Qa1.p, if_neg (by omega), if_pos o]
    exact ⟨fun _ => rfl, fun h => absurd h (by decide)⟩
  | call o hu _ ih =>
    intro ha h0 h1
    obtain ⟨p0, p1⟩ := (hw.made _ h0 h1).2.2.2.2.2.2.1 o
    have hr := hw.roots _ p0 p1
    have := ih ha hr.1 hr.2
    rw [hf _ h0 h1, Qa1.p, if_neg (by omega), if_neg (by omega), if_pos o]
    exact this
  | seq o hu _ ih =>
    intro ha h0 h1
    have := ih ha (kids _ h0 h1) _ true false false ha (Int.le_refl _) (fun _ => rfl) (fun h => absurd h (by omega))
    rw [hf _ h0 h1, Qa1.p, if_neg (by omega), if_neg (by omega), if_neg (by omega), if_pos o]
    exact this
  | cho o hu _ ih =>
    intro ha h0 h1
    have := ih ha (kids _ h0 h1) false false
    rw [hf _ h0 h1, Qa1.p, if_neg (by omega), if_neg (by omega), if_neg (by omega), if_neg (by omega), if_pos o]
    exact this
  | star o hu _ ih =>
    intro ha h0 h1
    obtain ⟨k0, k1⟩ := kid _ h0 h1 (by omega)
    obtain ⟨g1, g2, g3⟩ := ih ha k0 k1
    rw [(pk _ h0 h1).1 o]
    exact ⟨fun h => absurd h (by omega), fun _ => ⟨g1, fun _ => g2, g3⟩⟩
  | plusNo o hu _ hb ih =>
    intro ha h0 h1
    obtain ⟨k0, k1⟩ := kid _ h0 h1 (by omega)
    have g := ih ha k0 k1
    rw [(pk _ h0 h1).2.1 o]
    exact ⟨fun _ => g.1 hb, fun h => absurd h (by omega)⟩
  | @plus i a u b m e l o hu _ hb _ ih1 ih2 =>
    intro ha h0 h1
    obtain ⟨k0, k1⟩ := kid _ h0 h1 (by omega)
    obtain ⟨g1, g2, g3⟩ := (ih1 ha k0 k1).2 hb
    obtain ⟨q1, q2, q3⟩ := ih2 hb k0 k1
    rw [(pk _ h0 h1).2.1 o]
    refine ⟨fun h => absurd h (by omega), fun _ => ⟨by omega, fun he => ?_, fun he => ?_⟩⟩
    · show (_ && _) = true
      rw [g2 (by omega), q2]; rfl
    · by_cases c : a < b
      · exact g3 c
      · exact q3 (by omega)
  | optNo o hu _ hb ih =>
    intro ha h0 h1
    obtain ⟨k0, k1⟩ := kid _ h0 h1 (by omega)
    have g := ih ha k0 k1
    rw [(pk _ h0 h1).2.2.1 o]
    refine ⟨fun h => absurd h (by omega), fun _ => ⟨Int.le_refl _, fun _ => ?_, fun h => absurd h (by omega)⟩⟩
    show (_ || _) = true
    rw [g.1 hb, Bool.or_true]
  | opt o hu _ hb ih =>
    intro ha h0 h1
    obtain ⟨k0, k1⟩ := kid _ h0 h1 (by omega)
    obtain ⟨g1, g2, g3⟩ := (ih ha k0 k1).2 hb
    rw [(pk _ h0 h1).2.2.1 o]
    refine ⟨fun h => absurd h (by omega), fun _ => ⟨g1, fun he => ?_, g3⟩⟩
    show (_ || _) = true
    rw [g2 he, Bool.true_or]
  | andNo o hu _ hb ih =>
    intro ha h0 h1
    obtain ⟨k0, k1⟩ := kid _ h0 h1 (by omega)
    have g := ih ha k0 k1
    rw [(pk _ h0 h1).2.2.2.1 o]
    exact ⟨fun _ => g.1 hb, fun h => absurd h (by omega)⟩
  | @and i a u b l o hu _ hb ih =>
    intro ha h0 h1
    obtain ⟨k0, k1⟩ := kid _ h0 h1 (by omega)
    obtain ⟨g1, g2, g3⟩ := (ih ha k0 k1).2 hb
    rw [(pk _ h0 h1).2.2.2.1 o]
    refine ⟨fun h => absurd h (by omega), fun _ => ⟨Int.le_refl _, fun _ => ?_, fun h => absurd h (by omega)⟩⟩
    show (_ || _) = true
    by_cases c : b = a
    · rw [g2 c, Bool.true_or]
    · rw [g3 (by omega), Bool.or_true]
  | @notNo i a u b l o hu _ hb ih =>
    intro ha h0 h1
    obtain ⟨k0, k1⟩ := kid _ h0 h1 (by omega)
    obtain ⟨g1, g2, g3⟩ := (ih ha k0 k1).2 hb
    rw [(pk _ h0 h1).2.2.2.2 o]
    refine ⟨fun _ => ?_, fun h => absurd h (by decide)⟩
    show (_ || _) = true
    by_cases c : b = a
    · rw [g2 c, Bool.true_or]
    · rw [g3 (by omega), Bool.or_true]
  | not o hu _ hb ih =>
    intro ha h0 h1
    obtain ⟨k0, k1⟩ := kid _ h0 h1 (by omega)
    have g := ih ha k0 k1
    rw [(pk _ h0 h1).2.2.2.2 o]
    exact ⟨fun h => absurd h (by omega), fun _ => ⟨Int.le_refl _, fun _ => g.1 hb, fun h => absurd h (by omega)⟩⟩
  | seqNil =>
    intro ha _ a0 n en f h0 h1 h2 h3
    refine ⟨fun h => absurd h (by omega), fun _ => ⟨h1, h2, fun h => ?_⟩⟩
    show (_ && true) = true
    rw [h3 h]; rfl
  | @seqNo c cs a u b l _ hb ih =>
    intro ha hk a0 n en f h0 h1 h2 h3
    have hc := hk c (by simp)
    have g := (ih ha hc.1 hc.2).1 hb
    refine ⟨fun _ => seqF_keeps L cs _ _ _ _ ?_, fun h => absurd h (by omega)⟩
    show (f || ((factAt L c).f2 && true)) = true
    rw [g]; simp
  | @seqGo c cs a u b m e l _ hb _ ih1 ih2 =>
    intro ha hk a0 n en f h0 h1 h2 h3
    have hc := hk c (by simp)
    obtain ⟨g1, g2, g3⟩ := (ih1 ha hc.1 hc.2).2 hb
    have hok : (true && ((factAt L c).f0 || (factAt L c).f1)) = true := by
      by_cases q : b = a
      · rw [g2 q]; rfl
      · rw [g3 (by omega)]; simp
    have := ih2 hb (fun d hd => hk d (List.mem_cons_of_mem _ hd)) a0 (n && (factAt L c).f0) (en || (factAt L c).f1) (f || ((factAt L c).f2 && true)) h0 (by omega) (fun q => by rw [h2 (by omega), g2 (by omega)]; rfl) (fun q => by
      by_cases q1 : a0 < a
      · rw [h3 q1]; rfl
      · rw [g3 (by omega)]; simp)
    show Says (mkF (Qa1.seqF L cs (n && (factAt L c).f0) (en || (factAt L c).f1) (f || ((factAt L c).f2 && true)) (true && ((factAt L c).f0 || (factAt L c).f1)))) a0 e
    rw [hok]
    exact this
  | choNil => exact fun ha _ n en => ⟨fun _ => rfl, fun h => absurd h (by decide)⟩
  | @choYes c cs a u b l _ hb ih =>
    intro ha hk n en
    have hc := hk c (by simp)
    obtain ⟨g1, g2, g3⟩ := (ih ha hc.1 hc.2).2 hb
    refine ⟨fun h => absurd h (by omega), fun _ => ⟨g1, fun q => (choF_keeps L cs _ _ _).1 ?_, fun q => (choF_keeps L cs _ _ _).2 ?_⟩⟩
    · show (n || ((factAt L c).f0 && true)) = true
      rw [g2 q]; simp
    · show (en || ((factAt L c).f1 && true)) = true
      rw [g3 q]; simp
  | @choGo c cs a u b m e l _ hb _ ih1 ih2 =>
    intro ha hk n en
    have hc := hk c (by simp)
    have g := (ih1 ha hc.1 hc.2).1 hb
    have := ih2 ha (fun d hd => hk d (List.mem_cons_of_mem _ hd)) (n || ((factAt L c).f0 && true)) (en || ((factAt L c).f1 && true))
    show Says (mkF (Qa1.choF L cs (n || ((factAt L c).f0 && true)) (en || ((factAt L c).f1 && true)) (true && (factAt L c).f2))) a e
    rw [g]
    exact this
  | repEnd _ hb ih => exact fun ha h0 h1 => ⟨Int.le_refl _, (ih ha h0 h1).1 hb, fun h => absurd h (by omega)⟩
  | @repGo c a u b m e l _ hb _ ih1 ih2 =>
    intro ha h0 h1
    obtain ⟨g1, g2, g3⟩ := (ih1 ha h0 h1).2 hb
    obtain ⟨q1, q2, q3⟩ := ih2 hb h0 h1
    refine ⟨by omega, q2, fun h => ?_⟩
    by_cases c : a < b
    · exact g3 c
    · exact q3 (by omega)
theorem Pure.PureNaiveFacts : ∀ (l0_0 : List RuleT) (l0_1 : List NodeT) (a1 : ByteArray) (a2_0 : Int) (a2_1 : Int) (a3 : Int), (l0_0.length ≤ maxLen ∧ ∀ y ∈ l0_0, Ok51 y) → (l0_1.length ≤ maxLen ∧ ∀ y ∈ l0_1, Ok56 y) → (a1.size ≤ maxLen) → ((Lit.int .u16 a2_0).wf = true) → ((Lit.int .u16 a2_1).wf = true) → ((Lit.int .i64 a3).wf = true) → ∃ k, Qb2.f k l0_0 l0_1 a1 a2_0 a2_1 a3 = some true := by
  intro R G x p0 p1 u hR hG hx hp0 hp1 hu
  simp [Lit.wf, IntKind.min, IntKind.max, IntKind.signed, IntKind.bits] at hp0 hp1
  obtain ⟨b, hb, hbs⟩ := fits_ev hR hG x u
  have fin : Ev (fun k => Qb2.j0 k x u (!b) R G p0 p1) true := by
    cases b with
    | false => exact Ev.succ (fun k => by rw [Qb2.j0, if_pos (by decide)]) (Ev.bind (g := fun _ t => some t) awake_ev (Ev.const _))
    | true =>
      obtain ⟨hw, h1, h2, h3, h4⟩ := hbs rfl
      have hg0 := hw.nodes.1
      have hi := Int.tmod_nonneg (G.length : Int) hp0.1
      have hi2 := Int.tmod_lt_of_pos p0 (show (0 : Int) < (G.length : Int) by omega)
      have ha := Int.tmod_nonneg ((x.size : Int) + 1) hp1.1
      have ha2 := Int.tmod_lt_of_pos p1 (show (0 : Int) < (x.size : Int) + 1 by omega)
      obtain ⟨r, e1, ⟨k2, e2⟩, _⟩ := node_ev hR hG (x := x) (by omega) hw u (by omega) (Int.tmod p0 (G.length : Int)) (Int.tmod p1 ((x.size : Int) + 1)) hi hi2 ha (by omega)
      obtain ⟨s, f1, hgood, hrun⟩ := node_run (x := x) (by omega) (by omega) hw hG.2 (kids_le hR hG hw) u.toNat u (by omega) (by omega) (Int.tmod p0 (G.length : Int)) (Int.tmod p1 ((x.size : Int) + 1)) hi hi2 ha (by omega)
      obtain rfl := Ev.uniq f1 e1
      obtain ⟨L, ⟨k3, e3⟩, hl, hfix, _⟩ := of_ev hw
      dsimp only at e2 e3
      refine ⟨k2 + k3 + 1, fun j hj => ?_⟩
      obtain ⟨k, rfl⟩ : ∃ k, j = k + 1 := ⟨j - 1, by omega⟩
      show Qb2.j0 (k + 1) x u (!true) R G p0 p1 = some true
      rw [Qb2.j0, if_neg (by decide), if_neg (by omega), w64p ((x.size : Int) + 1) (by omega), if_neg (by omega), w64p p0 (by omega), w64p p1 (by omega), e2 k (by omega), Option.bind_some, e3 k (by omega), Option.bind_some, if_pos hi, if_pos (by omega)]
      obtain ⟨r1, r2, r3⟩ := s
      cases r1 with
      | false => rfl
      | true =>
        have says := run_tells hw hfix (hrun rfl) ha hi hi2
        dsimp only at says ⊢
        rw [if_pos rfl]
        by_cases c1 : r2 < 0
        · rw [if_pos c1]
          exact congrArg some (says.1 c1)
        · rw [if_neg c1]
          obtain ⟨q1, q2, q3⟩ := says.2 (by omega)
          by_cases c2 : r2 = Int.tmod p1 ((x.size : Int) + 1)
          · rw [if_pos c2]
            exact congrArg some (q2 c2)
          · rw [if_neg c2, if_pos (q3 (by omega)), decide_eq_true (by omega)]
  exact (Ev.bind awake_ev (Ev.congr (fun k => if_pos rfl) (Ev.bind hb fin))).out
end Go.Proofs.Ythgedejnpgcacaa.V
namespace Go.Proofs.Ythgedejnpgcacaa.naiveFacts
open Go.ChangeShapes Go.WideShapes Go.ChangeAt Go.RowKit Go.Proofs.Ythgedejnpgcacaa.Opens Go.Proofs.Ythgedejnpgcacaa.V Go.Proofs.YthgedejnpgcacaaW.PrintWords
open Go.ChangeMaps (open_string shut_string)
set_option linter.unusedVariables false
theorem own : ownKnob Try.prog.godebug = none := by kernel_rfl
theorem laidOut : laidOutB Try.prog = true := by kernel_rfl
set_option maxRecDepth 100000 in
theorem lifted (os : Os) (started : os.Started) (H : Type) (enc : TypeId × Value → H) :
    ReturnsInHanded {} Try.checked os 7 .any (Rows.naiveFactsSpec.pre6 enc Try.prog Try.f7 Rows.naiveFactsRow.domain false) (Rows.naiveFactsSpec.post enc Try.prog Try.f7 false true false false) := by
  refine returnsInHanded_of_change_sized (C := Try.checked) own started (by kernel_rfl) Try.func7
    (ChangeSpec.witness6 (enc := enc) (C := Try.checked) false ⟨#[], #[.agg #[.slice none 0 0, .slice none 0 0], .string ByteArray.empty, .agg #[.int .u16 0, .int .u16 0], .int .i64 0], []⟩ 8 (by kernel_rfl) (by kernel_rfl) (by kernel_rfl) (by kernel_rfl)) ?_
  intro W base args ds gs before hval0 hW hcnd hsz0 _
  have hval : ∀ (j : Nat) t v, Try.f7.params[j]? = some t → args[j]? = some v → Value.okWide Try.prog W .any base t v := hval0
  have hW' := hW
  obtain ⟨p, q, hA0, hV, rfl, hfz, hnd⟩ := hW
  have hA : DataW.TrodAll enc Try.prog W 0 (fun _ => true) true Try.f7.params.toList args.toList ds p := hA0
  rw [Try.params7] at hA hval
  obtain ⟨v0, vs0, d0, ds0, p0, q0, hargs, rfl, rfl, h0, r0⟩ := trodAll_cons hA
  obtain ⟨v1, vs1, d1, ds1, p1, q1, rfl, rfl, rfl, h1, r1⟩ := trodAll_cons r0
  obtain ⟨v2, vs2, d2, ds2, p2, q2, rfl, rfl, rfl, h2, r2⟩ := trodAll_cons r1
  obtain ⟨v3, vs3, d3, ds3, p3, q3, rfl, rfl, rfl, h3, r3⟩ := trodAll_cons r2
  obtain ⟨rfl, rfl, rfl⟩ := trodAll_nil r3
  obtain rfl : args = #[v0, v1, v2, v3] := by cases args; simp_all
  obtain ⟨rfl, rfl⟩ := trodVars_none hV
  have lt0 := trod_lts h0
  obtain ⟨cs0, rfl, _⟩ := okWide_struct Try.underlying25 (hval 0 25 v0 rfl rfl)
  obtain ⟨b0, hK0, ok0⟩ := Opn.arg (opn25 W) h0
  obtain ⟨L0, hL0⟩ : ∃ L, L = cs0.toList := ⟨_, rfl⟩
  replace hK0 : ((Kd.pair (Kd.slice 51 k51) (Kd.slice 56 k56))).K W b0 L0 := by rw [hL0]; exact hK0
  obtain ⟨l0_0, l0_1⟩ := b0
  obtain ⟨_, _, rfl, ⟨A0_0, c0_0, rfl, lc0_0, g0_0⟩, ⟨A0_1, c0_1, rfl, lc0_1, g0_1⟩⟩ := hK0
  obtain ⟨w0_0, w0_1⟩ := ok0
  obtain rfl : cs0 = #[.slice A0_0 l0_0.length c0_0, .slice A0_1 l0_1.length c0_1] := by cases cs0; simp_all
  obtain ⟨a1, rfl, rfl, rfl, w1⟩ := open_string Try.underlying9 (hval 1 9 v1 rfl rfl) h1
  have lt2 := trod_lts h2
  obtain ⟨cs2, rfl, _⟩ := okWide_array Try.underlying27 (hval 2 27 v2 rfl rfl)
  obtain ⟨b2, hK2, ok2⟩ := Opn.arg (opn27 W) h2
  obtain ⟨L2, hL2⟩ : ∃ L, L = cs2.toList := ⟨_, rfl⟩
  replace hK2 : ((Kd.pair (Kd.int .u16) (Kd.int .u16))).K W b2 L2 := by rw [hL2]; exact hK2
  obtain ⟨a2_0, a2_1⟩ := b2
  obtain ⟨_, _, rfl, rfl, rfl⟩ := hK2
  obtain ⟨w2_0, w2_1⟩ := ok2
  obtain rfl : cs2 = #[.int .u16 a2_0, .int .u16 a2_1] := by cases cs2; simp_all
  obtain ⟨a3, rfl, rfl, rfl, w3⟩ := open_int Try.underlying3 (hval 3 3 v3 rfl rfl) h3
  clear hA0 hval0 hsz0
  obtain ⟨k, hk⟩ := Pure.PureNaiveFacts l0_0 l0_1 a1 a2_0 a2_1 a3 w0_0 w0_1 w1 w2_0 w2_1 w3
  refine (Qb2.calls k A0_0 c0_0 l0_0 A0_1 c0_1 l0_1 a1 a2_0 a2_1 a3 true W g0_0 lc0_0 g0_1 lc0_1 hk).mono fun e W' ⟨he, bel⟩ => ?_
  subst he
  exact ⟨_, rfl, _, _, _, [], _, [], hW', trodAll_mk1 (shut_bool Try.underlying4 _), (trodAll_cons_mk (Below.trod laidOut (by kernel_rfl) (of_decide_eq_true (by kernel_rfl)) h0 bel lt0) (trodAll_cons_mk (shut_string Try.underlying9 w1) (trodAll_cons_mk (Below.trod laidOut (by kernel_rfl) (of_decide_eq_true (by kernel_rfl)) h2 bel lt2) (trodAll_cons_mk (shut_int Try.underlying3 w3) trodAll_mk0)))), rfl, bel.frame _, fun h => by cases h⟩
theorem over : Rows.naiveFactsRow.holds Try.pinned (OpenSpec.ofChange Rows.naiveFactsSpec) :=
  OpenClaim.holds_of_wide 7 Try.f7 rfl rfl rfl rfl rfl rfl rfl ⟨rfl, rfl, rfl, rfl, rfl⟩ rfl rfl rfl rfl rfl (by kernel_rfl) Try.func7 (by kernel_rfl)
    (of_decide_eq_true (by kernel_rfl)) (by unfold Func.isWrapper; first | (rw [if_pos (by decide +kernel)]; kernel_rfl) | (rw [if_neg (by decide +kernel)]; exact ⟨rfl, rfl⟩))
    (fun os started H enc _ => lifted os started H enc)
end Go.Proofs.Ythgedejnpgcacaa.naiveFacts
namespace Go.Proofs.Ythgedejnpgcacaa
theorem naiveFacts_holds : Rows.NaiveFactsSaid := naiveFacts.over
#print axioms naiveFacts_holds
end Go.Proofs.Ythgedejnpgcacaa
