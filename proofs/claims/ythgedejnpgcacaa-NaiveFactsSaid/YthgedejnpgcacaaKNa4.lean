/- The law NaiveFacts returns true whatever comes in, and leaves its arguments as they were. No condition. -/
import Derived.Test.YthgedejnpgcacaaKNa3
import Derived.StillTailTactics
namespace Go.Proofs.Ythgedejnpgcacaa.V
open Go.RowKit Go.Proofs.YthgedejnpgcacaaW.PrintWords Go.Proofs.YthgedejnpgcacaaW.PrintLast Go.Proofs.YthgedejnpgcacaaW.PrintMore
set_option linter.unusedVariables false
set_option linter.unusedSimpArgs false
attribute [local go_sem high] eq54h
set_option maxHeartbeats 4000000 in
set_option maxRecDepth 100000 in
theorem Qa1.calls_s0 (A0_0 : Option Addr) (c0_0 : Nat) (l0_0 : List S51) (A0_1 : Option Addr) (c0_1 : Nat) (l0_1 : List S56) (a1 : Int) (A2 : Option Addr) (c2 : Nat) (l2 : List S45) (r1 r2 r3 : Bool) (w : World)
    (hr0_0 : Kd.C k51 w A0_0 l0_0.length l0_0) (hc0_0 : l0_0.length ≤ c0_0) (hr0_1 : Kd.C k56 w A0_1 l0_1.length l0_1) (hc0_1 : l0_1.length ≤ c0_1) (hr2 : Kd.C k45 w A2 l2.length l2) (hc2 : l2.length ≤ c2)
    (hs : Qa ((Ql l0_1 a1).f0 = 0)) (h : Qa1.f l0_0 l0_1 a1 l2 = some (r1, r2, r3)) :
    Calls Try.prog 31 #[.agg #[.slice A0_0 l0_0.length c0_0, .slice A0_1 l0_1.length c0_1], .int .i64 a1, .slice A2 l2.length c2] w fun e w' => e = .returned (.agg #[.bool r1, .bool r2, .bool r3]) ∧ Below w.heap.size w w' := by
  unfold Qa1.f at h
  split at h
  case isFalse => exact absurd h (by simp)
  case isTrue hfit =>
  obtain ⟨p2, p3, hfit⟩ := hfit
  have H : Qa (Qa1.p l0_0 l2 (Ql l0_1 a1) = (r1, r2, r3)) := ⟨Option.some.inj h⟩
  have HF := Qa.mk hfit
  clear h hfit
  have hu25 := Try.underlying25
  have hu45 := Try.underlying45
  have hu56 := Try.underlying56
  have hu51 := Try.underlying51
  have hu54 := Try.underlying54
  have HB := Qa.mk (Qd (Qd (Below.refl w.heap.size w) (.cells #[.slice A0_0 l0_0.length c0_0, .slice A0_1 l0_1.length c0_1] 25)) (.cells #[.bool false, .bool false, .bool false] 45))
  have HG := Qa.mk (Qi (Qf1 w (.cells #[.slice A0_0 l0_0.length c0_0, .slice A0_1 l0_1.length c0_1] 25)) (.cells #[.bool false, .bool false, .bool false] 45))
  have HR := Qa.mk (Qf1 (w.alloc (.cells #[.slice A0_0 l0_0.length c0_0, .slice A0_1 l0_1.length c0_1] 25)) (.cells #[.bool false, .bool false, .bool false] 45))
  have hsz : ((w.alloc (.cells #[.slice A0_0 l0_0.length c0_0, .slice A0_1 l0_1.length c0_1] 25)).alloc (.cells #[.bool false, .bool false, .bool false] 45)).heap.size = w.heap.size + 1 + 1 := by rw [Qt1, Qt1]
  rw [Qt1] at HR
  have HC0 := Qa.mk (Kd.Qn hr0_0 HB.out)
  have HC1 := Qa.mk (Kd.Qn hr0_1 HB.out)
  have HC2 := Qa.mk (Kd.Qn hr2 HB.out)
  have HW := Qa.mk hsz
  clear hr0_0 hr0_1 hr2 hsz
  go_enter Try.func31, Try.ntmps31
  go_upto_region 1 with (fail)
  generalize ((w.alloc (.cells #[.slice A0_0 l0_0.length c0_0, .slice A0_1 l0_1.length c0_1] 25)).alloc (.cells #[.bool false, .bool false, .bool false] 45)) = W1 at HB HG HR HC0 HC1 HC2 HW ⊢
  have g0 : W1.cell? ⟨w.heap.size, 0, none⟩ = some (.slice A0_0 l0_0.length c0_0) := (Qb HG.out 0).trans rfl
  have g1 : W1.cell? ⟨w.heap.size, 1, none⟩ = some (.slice A0_1 l0_1.length c0_1) := (Qb HG.out 1).trans rfl
  obtain ⟨ad, Ak, ck, e, k0, k1, k2, k3, k4, k5, k6, hlk, hCk⟩ := at_T56 HC1.out a1 p2 p3
  cases e
  have HCk := Qa.mk hCk
  have HLk := Qa.mk hlk
  clear hCk hlk HC1
  replace p2 := eq_true p2
  replace p3 := eq_true p3
  go_upto_region 3 with (fail)
  generalize Ql l0_1 a1 = nd at *
  obtain ⟨gx, hgx⟩ : ∃ gx, gx = W1.heap.size := ⟨_, rfl⟩
  obtain ⟨go, hgo⟩ : ∃ go, go = gx + 1 := ⟨_, rfl⟩
  obtain ⟨gb, hgb⟩ : ∃ gb, gb = w.heap.size := ⟨_, rfl⟩
  obtain ⟨gr, hgr⟩ : ∃ gr, gr = gb + 1 := ⟨_, rfl⟩
  rw [← hgb] at HW HG HR
  rw [← hgr] at HR
  have E2 : Qa (Env11 W1 gx go #[.int .i64 nd.f0, .slice Ak nd.f1.length ck, .int .i64 nd.f2, .int .u64 nd.f3.f0, .int .u64 nd.f3.f1, .int .u64 nd.f3.f2, .int .u64 nd.f3.f3] ((W1.alloc (.cells #[.int .i64 nd.f0, .slice Ak nd.f1.length ck, .int .i64 nd.f2, .int .u64 nd.f3.f0, .int .u64 nd.f3.f1, .int .u64 nd.f3.f2, .int .u64 nd.f3.f3] 56)).alloc (.cells #[.bool false, .bool false, .bool false] 45)) false false false) := ⟨by rw [hgx]; exact Qi (Qf1 W1 (.cells #[.int .i64 nd.f0, .slice Ak nd.f1.length ck, .int .i64 nd.f2, .int .u64 nd.f3.f0, .int .u64 nd.f3.f1, .int .u64 nd.f3.f2, .int .u64 nd.f3.f3] 56)) (.cells #[.bool false, .bool false, .bool false] 45), by rw [hgo, hgx]; have := Qf1 (W1.alloc (.cells #[.int .i64 nd.f0, .slice Ak nd.f1.length ck, .int .i64 nd.f2, .int .u64 nd.f3.f0, .int .u64 nd.f3.f1, .int .u64 nd.f3.f2, .int .u64 nd.f3.f3] 56)) (.cells #[.bool false, .bool false, .bool false] 45); rw [Qt1] at this; exact this, Qd (Qd (Below.refl _ _) _) _⟩
  have HLT := Qa.mk (show W1.heap.size ≤ go ∧ gx ≠ go ∧ gb < W1.heap.size ∧ gr < W1.heap.size ∧ gr ≠ go by have := HW.out; omega)
  have HGB := Qa.mk hgb
  have HGR := Qa.mk hgr
  rw [← hgx, ← hgb, ← hgr, ← hgo]
  generalize (W1.alloc (.cells #[.int .i64 nd.f0, .slice Ak nd.f1.length ck, .int .i64 nd.f2, .int .u64 nd.f3.f0, .int .u64 nd.f3.f1, .int .u64 nd.f3.f2, .int .u64 nd.f3.f3] 56)).alloc (.cells #[.bool false, .bool false, .bool false] 45) = W2 at E2 ⊢
  clear k0 k1 k2 k3 k4 k5 k6 g0 g1 HW hgx hgo hgb hgr
  have x0 := (Qb E2.out.x 0).trans rfl
  go_upto_block 0 with fail
  go_cut [] (fun wc => ∃ n e f, Qa ((n, e, f) = (r1, r2, r3)) ∧ Qa (Env11 W1 gx go #[.int .i64 nd.f0, .slice Ak nd.f1.length ck, .int .i64 nd.f2, .int .u64 nd.f3.f0, .int .u64 nd.f3.f1, .int .u64 nd.f3.f2, .int .u64 nd.f3.f3] wc n e f))
  case first =>
   clear x0
   have h := H.out
   clear H
   unfold Qa1.p at h
   have c0 : nd.f0 = 0 := by have := hs.out; omega
   rw [if_pos c0] at h
   have b0 : (nd.f0 == 0) = true := beq_iff_eq.2 c0
   clear c0
   have x0 : W2.cell? ⟨gx, 0, none⟩ = some (.int .i64 nd.f0) := (Qb E2.out.x 0).trans rfl
   have o0 : W2.cell? ⟨go, 0, none⟩ = some (.bool false) := (Qb E2.out.o 0).trans rfl
   have z0 : W2.frozen? ⟨go, 0, none⟩ = false := Qc E2.out.o 0
   go_wp2
   go_meet
   exact ⟨_, _, _, ⟨h⟩, ⟨(E2.out).put0 HLT.out.1 HLT.out.2.1 true⟩⟩
  case rest =>
   clear x0
   obtain ⟨n, e, f, HE, E3⟩ := hcut
   obtain ⟨rfl, rfl, rfl⟩ : n = r1 ∧ e = r2 ∧ f = r3 := by simpa using HE.out
   have o0 : wc.cell? ⟨go, 0, none⟩ = some (.bool n) := (Qb E3.out.o 0).trans rfl
   have r0 : wc.cell? ⟨gr, 0, none⟩ = some (.bool false) := (Qb (Qh HR.out E3.out.b) 0).trans rfl
   have z0 : wc.frozen? ⟨gr, 0, none⟩ = false := Qc (Qh HR.out E3.out.b) 0
   have o1 : wc.cell? ⟨go, 1, none⟩ = some (.bool e) := (Qb E3.out.o 1).trans rfl
   have r1 : wc.cell? ⟨gr, 1, none⟩ = some (.bool false) := (Qb (Qh HR.out E3.out.b) 1).trans rfl
   have z1 : wc.frozen? ⟨gr, 1, none⟩ = false := Qc (Qh HR.out E3.out.b) 1
   have o2 : wc.cell? ⟨go, 2, none⟩ = some (.bool f) := (Qb E3.out.o 2).trans rfl
   have r2 : wc.cell? ⟨gr, 2, none⟩ = some (.bool false) := (Qb (Qh HR.out E3.out.b) 2).trans rfl
   have z2 : wc.frozen? ⟨gr, 2, none⟩ = false := Qc (Qh HR.out E3.out.b) 2
   go_wp2
   refine bodyPost_ret (results_cell_row rfl _ _ gr 45 #[.bool n, .bool e, .bool f] (0, 0) _ rfl (blk3 (Qh HR.out E3.out.b) _ _ _) Try.underlying45 rfl (by kernel_rfl)) rfl ⟨rfl, ?_⟩
   exact below3 (Qm HB.out E3.out.b) (by have := HGB.out; have := HGR.out; omega) _ _ _
end Go.Proofs.Ythgedejnpgcacaa.V
namespace Go.Proofs.Ythgedejnpgcacaa.V
open Go.RowKit Go.Proofs.YthgedejnpgcacaaW.PrintWords Go.Proofs.YthgedejnpgcacaaW.PrintLast Go.Proofs.YthgedejnpgcacaaW.PrintMore
set_option linter.unusedVariables false
set_option linter.unusedSimpArgs false
attribute [local go_sem high] eq54h
set_option maxHeartbeats 4000000 in
set_option maxRecDepth 100000 in
theorem Qa1.calls_s1 (A0_0 : Option Addr) (c0_0 : Nat) (l0_0 : List S51) (A0_1 : Option Addr) (c0_1 : Nat) (l0_1 : List S56) (a1 : Int) (A2 : Option Addr) (c2 : Nat) (l2 : List S45) (r1 r2 r3 : Bool) (w : World)
    (hr0_0 : Kd.C k51 w A0_0 l0_0.length l0_0) (hc0_0 : l0_0.length ≤ c0_0) (hr0_1 : Kd.C k56 w A0_1 l0_1.length l0_1) (hc0_1 : l0_1.length ≤ c0_1) (hr2 : Kd.C k45 w A2 l2.length l2) (hc2 : l2.length ≤ c2)
    (hs : Qa ((Ql l0_1 a1).f0 = 1)) (h : Qa1.f l0_0 l0_1 a1 l2 = some (r1, r2, r3)) :
    Calls Try.prog 31 #[.agg #[.slice A0_0 l0_0.length c0_0, .slice A0_1 l0_1.length c0_1], .int .i64 a1, .slice A2 l2.length c2] w fun e w' => e = .returned (.agg #[.bool r1, .bool r2, .bool r3]) ∧ Below w.heap.size w w' := by
  unfold Qa1.f at h
  split at h
  case isFalse => exact absurd h (by simp)
  case isTrue hfit =>
  obtain ⟨p2, p3, hfit⟩ := hfit
  have H : Qa (Qa1.p l0_0 l2 (Ql l0_1 a1) = (r1, r2, r3)) := ⟨Option.some.inj h⟩
  have HF := Qa.mk hfit
  clear h hfit
  have hu25 := Try.underlying25
  have hu45 := Try.underlying45
  have hu56 := Try.underlying56
  have hu51 := Try.underlying51
  have hu54 := Try.underlying54
  have HB := Qa.mk (Qd (Qd (Below.refl w.heap.size w) (.cells #[.slice A0_0 l0_0.length c0_0, .slice A0_1 l0_1.length c0_1] 25)) (.cells #[.bool false, .bool false, .bool false] 45))
  have HG := Qa.mk (Qi (Qf1 w (.cells #[.slice A0_0 l0_0.length c0_0, .slice A0_1 l0_1.length c0_1] 25)) (.cells #[.bool false, .bool false, .bool false] 45))
  have HR := Qa.mk (Qf1 (w.alloc (.cells #[.slice A0_0 l0_0.length c0_0, .slice A0_1 l0_1.length c0_1] 25)) (.cells #[.bool false, .bool false, .bool false] 45))
  have hsz : ((w.alloc (.cells #[.slice A0_0 l0_0.length c0_0, .slice A0_1 l0_1.length c0_1] 25)).alloc (.cells #[.bool false, .bool false, .bool false] 45)).heap.size = w.heap.size + 1 + 1 := by rw [Qt1, Qt1]
  rw [Qt1] at HR
  have HC0 := Qa.mk (Kd.Qn hr0_0 HB.out)
  have HC1 := Qa.mk (Kd.Qn hr0_1 HB.out)
  have HC2 := Qa.mk (Kd.Qn hr2 HB.out)
  have HW := Qa.mk hsz
  clear hr0_0 hr0_1 hr2 hsz
  go_enter Try.func31, Try.ntmps31
  go_upto_region 1 with (fail)
  generalize ((w.alloc (.cells #[.slice A0_0 l0_0.length c0_0, .slice A0_1 l0_1.length c0_1] 25)).alloc (.cells #[.bool false, .bool false, .bool false] 45)) = W1 at HB HG HR HC0 HC1 HC2 HW ⊢
  have g0 : W1.cell? ⟨w.heap.size, 0, none⟩ = some (.slice A0_0 l0_0.length c0_0) := (Qb HG.out 0).trans rfl
  have g1 : W1.cell? ⟨w.heap.size, 1, none⟩ = some (.slice A0_1 l0_1.length c0_1) := (Qb HG.out 1).trans rfl
  obtain ⟨ad, Ak, ck, e, k0, k1, k2, k3, k4, k5, k6, hlk, hCk⟩ := at_T56 HC1.out a1 p2 p3
  cases e
  have HCk := Qa.mk hCk
  have HLk := Qa.mk hlk
  clear hCk hlk HC1
  replace p2 := eq_true p2
  replace p3 := eq_true p3
  go_upto_region 3 with (fail)
  generalize Ql l0_1 a1 = nd at *
  obtain ⟨gx, hgx⟩ : ∃ gx, gx = W1.heap.size := ⟨_, rfl⟩
  obtain ⟨go, hgo⟩ : ∃ go, go = gx + 1 := ⟨_, rfl⟩
  obtain ⟨gb, hgb⟩ : ∃ gb, gb = w.heap.size := ⟨_, rfl⟩
  obtain ⟨gr, hgr⟩ : ∃ gr, gr = gb + 1 := ⟨_, rfl⟩
  rw [← hgb] at HW HG HR
  rw [← hgr] at HR
  have E2 : Qa (Env11 W1 gx go #[.int .i64 nd.f0, .slice Ak nd.f1.length ck, .int .i64 nd.f2, .int .u64 nd.f3.f0, .int .u64 nd.f3.f1, .int .u64 nd.f3.f2, .int .u64 nd.f3.f3] ((W1.alloc (.cells #[.int .i64 nd.f0, .slice Ak nd.f1.length ck, .int .i64 nd.f2, .int .u64 nd.f3.f0, .int .u64 nd.f3.f1, .int .u64 nd.f3.f2, .int .u64 nd.f3.f3] 56)).alloc (.cells #[.bool false, .bool false, .bool false] 45)) false false false) := ⟨by rw [hgx]; exact Qi (Qf1 W1 (.cells #[.int .i64 nd.f0, .slice Ak nd.f1.length ck, .int .i64 nd.f2, .int .u64 nd.f3.f0, .int .u64 nd.f3.f1, .int .u64 nd.f3.f2, .int .u64 nd.f3.f3] 56)) (.cells #[.bool false, .bool false, .bool false] 45), by rw [hgo, hgx]; have := Qf1 (W1.alloc (.cells #[.int .i64 nd.f0, .slice Ak nd.f1.length ck, .int .i64 nd.f2, .int .u64 nd.f3.f0, .int .u64 nd.f3.f1, .int .u64 nd.f3.f2, .int .u64 nd.f3.f3] 56)) (.cells #[.bool false, .bool false, .bool false] 45); rw [Qt1] at this; exact this, Qd (Qd (Below.refl _ _) _) _⟩
  have HLT := Qa.mk (show W1.heap.size ≤ go ∧ gx ≠ go ∧ gb < W1.heap.size ∧ gr < W1.heap.size ∧ gr ≠ go by have := HW.out; omega)
  have HGB := Qa.mk hgb
  have HGR := Qa.mk hgr
  rw [← hgx, ← hgb, ← hgr, ← hgo]
  generalize (W1.alloc (.cells #[.int .i64 nd.f0, .slice Ak nd.f1.length ck, .int .i64 nd.f2, .int .u64 nd.f3.f0, .int .u64 nd.f3.f1, .int .u64 nd.f3.f2, .int .u64 nd.f3.f3] 56)).alloc (.cells #[.bool false, .bool false, .bool false] 45) = W2 at E2 ⊢
  clear k0 k1 k2 k3 k4 k5 k6 g0 g1 HW hgx hgo hgb hgr
  have x0 := (Qb E2.out.x 0).trans rfl
  go_upto_block 0 with fail
  go_cut [] (fun wc => ∃ n e f, Qa ((n, e, f) = (r1, r2, r3)) ∧ Qa (Env11 W1 gx go #[.int .i64 nd.f0, .slice Ak nd.f1.length ck, .int .i64 nd.f2, .int .u64 nd.f3.f0, .int .u64 nd.f3.f1, .int .u64 nd.f3.f2, .int .u64 nd.f3.f3] wc n e f))
  case first =>
   clear x0
   have h := H.out
   clear H
   unfold Qa1.p at h
   have c0 : ¬ nd.f0 = 0 := by have := hs.out; omega
   rw [if_neg c0] at h
   have b0 : (nd.f0 == 0) = false := beq_eq_false_iff_ne.2 c0
   go_upto_region 6 with (fail)
   clear b0
   have c1 : nd.f0 = 1 := by have := hs.out; omega
   rw [if_pos c1] at h
   have b1 : (nd.f0 == 1) = true := beq_iff_eq.2 c1
   clear c0 c1
   have x0 : W2.cell? ⟨gx, 0, none⟩ = some (.int .i64 nd.f0) := (Qb E2.out.x 0).trans rfl
   have x3 : W2.cell? ⟨gx, 3, none⟩ = some (.int .u64 nd.f3.f0) := (Qb E2.out.x 3).trans rfl
   have x4 : W2.cell? ⟨gx, 4, none⟩ = some (.int .u64 nd.f3.f1) := (Qb E2.out.x 4).trans rfl
   have x5 : W2.cell? ⟨gx, 5, none⟩ = some (.int .u64 nd.f3.f2) := (Qb E2.out.x 5).trans rfl
   have x6 : W2.cell? ⟨gx, 6, none⟩ = some (.int .u64 nd.f3.f3) := (Qb E2.out.x 6).trans rfl
   have o1 : W2.cell? ⟨go, 1, none⟩ = some (.bool false) := (Qb E2.out.o 1).trans rfl
   have z1 : W2.frozen? ⟨go, 1, none⟩ = false := Qc E2.out.o 1
   have o2 : W2.cell? ⟨go, 2, none⟩ = some (.bool false) := (Qb E2.out.o 2).trans rfl
   have z2 : W2.frozen? ⟨go, 2, none⟩ = false := Qc E2.out.o 2
   go_wp2
   go_meet
   exact ⟨_, _, _, ⟨h⟩, ⟨((E2.out).put1 HLT.out.1 HLT.out.2.1 (!(nd.f3.f0 == 0) || (!(nd.f3.f1 == 0) || (!(nd.f3.f2 == 0) || !(nd.f3.f3 == 0))))).put2 HLT.out.1 HLT.out.2.1 true⟩⟩
  case rest =>
   clear x0
   obtain ⟨n, e, f, HE, E3⟩ := hcut
   obtain ⟨rfl, rfl, rfl⟩ : n = r1 ∧ e = r2 ∧ f = r3 := by simpa using HE.out
   have o0 : wc.cell? ⟨go, 0, none⟩ = some (.bool n) := (Qb E3.out.o 0).trans rfl
   have r0 : wc.cell? ⟨gr, 0, none⟩ = some (.bool false) := (Qb (Qh HR.out E3.out.b) 0).trans rfl
   have z0 : wc.frozen? ⟨gr, 0, none⟩ = false := Qc (Qh HR.out E3.out.b) 0
   have o1 : wc.cell? ⟨go, 1, none⟩ = some (.bool e) := (Qb E3.out.o 1).trans rfl
   have r1 : wc.cell? ⟨gr, 1, none⟩ = some (.bool false) := (Qb (Qh HR.out E3.out.b) 1).trans rfl
   have z1 : wc.frozen? ⟨gr, 1, none⟩ = false := Qc (Qh HR.out E3.out.b) 1
   have o2 : wc.cell? ⟨go, 2, none⟩ = some (.bool f) := (Qb E3.out.o 2).trans rfl
   have r2 : wc.cell? ⟨gr, 2, none⟩ = some (.bool false) := (Qb (Qh HR.out E3.out.b) 2).trans rfl
   have z2 : wc.frozen? ⟨gr, 2, none⟩ = false := Qc (Qh HR.out E3.out.b) 2
   go_wp2
   refine bodyPost_ret (results_cell_row rfl _ _ gr 45 #[.bool n, .bool e, .bool f] (0, 0) _ rfl (blk3 (Qh HR.out E3.out.b) _ _ _) Try.underlying45 rfl (by kernel_rfl)) rfl ⟨rfl, ?_⟩
   exact below3 (Qm HB.out E3.out.b) (by have := HGB.out; have := HGR.out; omega) _ _ _
end Go.Proofs.Ythgedejnpgcacaa.V
namespace Go.Proofs.Ythgedejnpgcacaa.V
open Go.RowKit Go.Proofs.YthgedejnpgcacaaW.PrintWords Go.Proofs.YthgedejnpgcacaaW.PrintLast Go.Proofs.YthgedejnpgcacaaW.PrintMore
set_option linter.unusedVariables false
set_option linter.unusedSimpArgs false
attribute [local go_sem high] eq54h
set_option maxHeartbeats 4000000 in
set_option maxRecDepth 100000 in
theorem Qa1.calls_s2 (A0_0 : Option Addr) (c0_0 : Nat) (l0_0 : List S51) (A0_1 : Option Addr) (c0_1 : Nat) (l0_1 : List S56) (a1 : Int) (A2 : Option Addr) (c2 : Nat) (l2 : List S45) (r1 r2 r3 : Bool) (w : World)
    (hr0_0 : Kd.C k51 w A0_0 l0_0.length l0_0) (hc0_0 : l0_0.length ≤ c0_0) (hr0_1 : Kd.C k56 w A0_1 l0_1.length l0_1) (hc0_1 : l0_1.length ≤ c0_1) (hr2 : Kd.C k45 w A2 l2.length l2) (hc2 : l2.length ≤ c2)
    (hs : Qa ((Ql l0_1 a1).f0 = 2)) (h : Qa1.f l0_0 l0_1 a1 l2 = some (r1, r2, r3)) :
    Calls Try.prog 31 #[.agg #[.slice A0_0 l0_0.length c0_0, .slice A0_1 l0_1.length c0_1], .int .i64 a1, .slice A2 l2.length c2] w fun e w' => e = .returned (.agg #[.bool r1, .bool r2, .bool r3]) ∧ Below w.heap.size w w' := by
  unfold Qa1.f at h
  split at h
  case isFalse => exact absurd h (by simp)
  case isTrue hfit =>
  obtain ⟨p2, p3, hfit⟩ := hfit
  have H : Qa (Qa1.p l0_0 l2 (Ql l0_1 a1) = (r1, r2, r3)) := ⟨Option.some.inj h⟩
  have HF := Qa.mk hfit
  clear h hfit
  have hu25 := Try.underlying25
  have hu45 := Try.underlying45
  have hu56 := Try.underlying56
  have hu51 := Try.underlying51
  have hu54 := Try.underlying54
  have HB := Qa.mk (Qd (Qd (Below.refl w.heap.size w) (.cells #[.slice A0_0 l0_0.length c0_0, .slice A0_1 l0_1.length c0_1] 25)) (.cells #[.bool false, .bool false, .bool false] 45))
  have HG := Qa.mk (Qi (Qf1 w (.cells #[.slice A0_0 l0_0.length c0_0, .slice A0_1 l0_1.length c0_1] 25)) (.cells #[.bool false, .bool false, .bool false] 45))
  have HR := Qa.mk (Qf1 (w.alloc (.cells #[.slice A0_0 l0_0.length c0_0, .slice A0_1 l0_1.length c0_1] 25)) (.cells #[.bool false, .bool false, .bool false] 45))
  have hsz : ((w.alloc (.cells #[.slice A0_0 l0_0.length c0_0, .slice A0_1 l0_1.length c0_1] 25)).alloc (.cells #[.bool false, .bool false, .bool false] 45)).heap.size = w.heap.size + 1 + 1 := by rw [Qt1, Qt1]
  rw [Qt1] at HR
  have HC0 := Qa.mk (Kd.Qn hr0_0 HB.out)
  have HC1 := Qa.mk (Kd.Qn hr0_1 HB.out)
  have HC2 := Qa.mk (Kd.Qn hr2 HB.out)
  have HW := Qa.mk hsz
  clear hr0_0 hr0_1 hr2 hsz
  go_enter Try.func31, Try.ntmps31
  go_upto_region 1 with (fail)
  generalize ((w.alloc (.cells #[.slice A0_0 l0_0.length c0_0, .slice A0_1 l0_1.length c0_1] 25)).alloc (.cells #[.bool false, .bool false, .bool false] 45)) = W1 at HB HG HR HC0 HC1 HC2 HW ⊢
  have g0 : W1.cell? ⟨w.heap.size, 0, none⟩ = some (.slice A0_0 l0_0.length c0_0) := (Qb HG.out 0).trans rfl
  have g1 : W1.cell? ⟨w.heap.size, 1, none⟩ = some (.slice A0_1 l0_1.length c0_1) := (Qb HG.out 1).trans rfl
  obtain ⟨ad, Ak, ck, e, k0, k1, k2, k3, k4, k5, k6, hlk, hCk⟩ := at_T56 HC1.out a1 p2 p3
  cases e
  have HCk := Qa.mk hCk
  have HLk := Qa.mk hlk
  clear hCk hlk HC1
  replace p2 := eq_true p2
  replace p3 := eq_true p3
  go_upto_region 3 with (fail)
  generalize Ql l0_1 a1 = nd at *
  obtain ⟨gx, hgx⟩ : ∃ gx, gx = W1.heap.size := ⟨_, rfl⟩
  obtain ⟨go, hgo⟩ : ∃ go, go = gx + 1 := ⟨_, rfl⟩
  obtain ⟨gb, hgb⟩ : ∃ gb, gb = w.heap.size := ⟨_, rfl⟩
  obtain ⟨gr, hgr⟩ : ∃ gr, gr = gb + 1 := ⟨_, rfl⟩
  rw [← hgb] at HW HG HR
  rw [← hgr] at HR
  have E2 : Qa (Env11 W1 gx go #[.int .i64 nd.f0, .slice Ak nd.f1.length ck, .int .i64 nd.f2, .int .u64 nd.f3.f0, .int .u64 nd.f3.f1, .int .u64 nd.f3.f2, .int .u64 nd.f3.f3] ((W1.alloc (.cells #[.int .i64 nd.f0, .slice Ak nd.f1.length ck, .int .i64 nd.f2, .int .u64 nd.f3.f0, .int .u64 nd.f3.f1, .int .u64 nd.f3.f2, .int .u64 nd.f3.f3] 56)).alloc (.cells #[.bool false, .bool false, .bool false] 45)) false false false) := ⟨by rw [hgx]; exact Qi (Qf1 W1 (.cells #[.int .i64 nd.f0, .slice Ak nd.f1.length ck, .int .i64 nd.f2, .int .u64 nd.f3.f0, .int .u64 nd.f3.f1, .int .u64 nd.f3.f2, .int .u64 nd.f3.f3] 56)) (.cells #[.bool false, .bool false, .bool false] 45), by rw [hgo, hgx]; have := Qf1 (W1.alloc (.cells #[.int .i64 nd.f0, .slice Ak nd.f1.length ck, .int .i64 nd.f2, .int .u64 nd.f3.f0, .int .u64 nd.f3.f1, .int .u64 nd.f3.f2, .int .u64 nd.f3.f3] 56)) (.cells #[.bool false, .bool false, .bool false] 45); rw [Qt1] at this; exact this, Qd (Qd (Below.refl _ _) _) _⟩
  have HLT := Qa.mk (show W1.heap.size ≤ go ∧ gx ≠ go ∧ gb < W1.heap.size ∧ gr < W1.heap.size ∧ gr ≠ go by have := HW.out; omega)
  have HGB := Qa.mk hgb
  have HGR := Qa.mk hgr
  rw [← hgx, ← hgb, ← hgr, ← hgo]
  generalize (W1.alloc (.cells #[.int .i64 nd.f0, .slice Ak nd.f1.length ck, .int .i64 nd.f2, .int .u64 nd.f3.f0, .int .u64 nd.f3.f1, .int .u64 nd.f3.f2, .int .u64 nd.f3.f3] 56)).alloc (.cells #[.bool false, .bool false, .bool false] 45) = W2 at E2 ⊢
  clear k0 k1 k2 k3 k4 k5 k6 g0 g1 HW hgx hgo hgb hgr
  have x0 := (Qb E2.out.x 0).trans rfl
  go_upto_block 0 with fail
  go_cut [] (fun wc => ∃ n e f, Qa ((n, e, f) = (r1, r2, r3)) ∧ Qa (Env11 W1 gx go #[.int .i64 nd.f0, .slice Ak nd.f1.length ck, .int .i64 nd.f2, .int .u64 nd.f3.f0, .int .u64 nd.f3.f1, .int .u64 nd.f3.f2, .int .u64 nd.f3.f3] wc n e f))
  case first =>
   clear x0
   have h := H.out
   clear H
   unfold Qa1.p at h
   have c0 : ¬ nd.f0 = 0 := by have := hs.out; omega
   rw [if_neg c0] at h
   have b0 : (nd.f0 == 0) = false := beq_eq_false_iff_ne.2 c0
   go_upto_region 6 with (fail)
   clear b0
   have c1 : ¬ nd.f0 = 1 := by have := hs.out; omega
   rw [if_neg c1] at h
   have b1 : (nd.f0 == 1) = false := beq_eq_false_iff_ne.2 c1
   go_upto_region 9 with (fail)
   clear b1
   have c2 : nd.f0 = 2 := by have := hs.out; omega
   rw [if_pos c2] at h
   have b2 : (nd.f0 == 2) = true := beq_iff_eq.2 c2
   obtain ⟨q0, q1, q2, q3⟩ := HF.out.2.2 c2
   clear c0 c1 c2
   have x0 : W2.cell? ⟨gx, 0, none⟩ = some (.int .i64 nd.f0) := (Qb E2.out.x 0).trans rfl
   have x2 : W2.cell? ⟨gx, 2, none⟩ = some (.int .i64 nd.f2) := (Qb E2.out.x 2).trans rfl
   have o0 : W2.cell? ⟨go, 0, none⟩ = some (.bool false) := (Qb E2.out.o 0).trans rfl
   have z0 : W2.frozen? ⟨go, 0, none⟩ = false := Qc E2.out.o 0
   have o1 : W2.cell? ⟨go, 1, none⟩ = some (.bool false) := (Qb E2.out.o 1).trans rfl
   have z1 : W2.frozen? ⟨go, 1, none⟩ = false := Qc E2.out.o 1
   have o2 : W2.cell? ⟨go, 2, none⟩ = some (.bool false) := (Qb E2.out.o 2).trans rfl
   have z2 : W2.frozen? ⟨go, 2, none⟩ = false := Qc E2.out.o 2
   have g0 : W2.cell? ⟨gb, 0, none⟩ = some (.slice A0_0 l0_0.length c0_0) := (Qb (Qh HG.out E2.out.b) 0).trans rfl
   obtain ⟨ad1, e1, y0, y1⟩ := at_T51 (Kd.Qn HC0.out E2.out.b) nd.f2 q0 q1
   cases e1
   obtain ⟨ad2, e2, u0, u1, u2⟩ := at_T45 (Kd.Qn HC2.out E2.out.b) (rd_T51 l0_0 nd.f2).f1 q2 q3
   cases e2
   replace q0 := eq_true q0
   replace q1 := eq_true q1
   replace q2 := eq_true q2
   replace q3 := eq_true q3
   go_wp2
   go_meet
   exact ⟨_, _, _, ⟨h⟩, ⟨(((E2.out).put0 HLT.out.1 HLT.out.2.1 _).put1 HLT.out.1 HLT.out.2.1 _).put2 HLT.out.1 HLT.out.2.1 _⟩⟩
  case rest =>
   clear x0
   obtain ⟨n, e, f, HE, E3⟩ := hcut
   obtain ⟨rfl, rfl, rfl⟩ : n = r1 ∧ e = r2 ∧ f = r3 := by simpa using HE.out
   have o0 : wc.cell? ⟨go, 0, none⟩ = some (.bool n) := (Qb E3.out.o 0).trans rfl
   have r0 : wc.cell? ⟨gr, 0, none⟩ = some (.bool false) := (Qb (Qh HR.out E3.out.b) 0).trans rfl
   have z0 : wc.frozen? ⟨gr, 0, none⟩ = false := Qc (Qh HR.out E3.out.b) 0
   have o1 : wc.cell? ⟨go, 1, none⟩ = some (.bool e) := (Qb E3.out.o 1).trans rfl
   have r1 : wc.cell? ⟨gr, 1, none⟩ = some (.bool false) := (Qb (Qh HR.out E3.out.b) 1).trans rfl
   have z1 : wc.frozen? ⟨gr, 1, none⟩ = false := Qc (Qh HR.out E3.out.b) 1
   have o2 : wc.cell? ⟨go, 2, none⟩ = some (.bool f) := (Qb E3.out.o 2).trans rfl
   have r2 : wc.cell? ⟨gr, 2, none⟩ = some (.bool false) := (Qb (Qh HR.out E3.out.b) 2).trans rfl
   have z2 : wc.frozen? ⟨gr, 2, none⟩ = false := Qc (Qh HR.out E3.out.b) 2
   go_wp2
   refine bodyPost_ret (results_cell_row rfl _ _ gr 45 #[.bool n, .bool e, .bool f] (0, 0) _ rfl (blk3 (Qh HR.out E3.out.b) _ _ _) Try.underlying45 rfl (by kernel_rfl)) rfl ⟨rfl, ?_⟩
   exact below3 (Qm HB.out E3.out.b) (by have := HGB.out; have := HGR.out; omega) _ _ _
end Go.Proofs.Ythgedejnpgcacaa.V
namespace Go.Proofs.Ythgedejnpgcacaa.V
open Go.RowKit Go.Proofs.YthgedejnpgcacaaW.PrintWords Go.Proofs.YthgedejnpgcacaaW.PrintLast Go.Proofs.YthgedejnpgcacaaW.PrintMore
set_option linter.unusedVariables false
set_option linter.unusedSimpArgs false
attribute [local go_sem high] eq54h
set_option maxHeartbeats 4000000 in
set_option maxRecDepth 100000 in
theorem Qa1.calls_s3 (A0_0 : Option Addr) (c0_0 : Nat) (l0_0 : List S51) (A0_1 : Option Addr) (c0_1 : Nat) (l0_1 : List S56) (a1 : Int) (A2 : Option Addr) (c2 : Nat) (l2 : List S45) (r1 r2 r3 : Bool) (w : World)
    (hr0_0 : Kd.C k51 w A0_0 l0_0.length l0_0) (hc0_0 : l0_0.length ≤ c0_0) (hr0_1 : Kd.C k56 w A0_1 l0_1.length l0_1) (hc0_1 : l0_1.length ≤ c0_1) (hr2 : Kd.C k45 w A2 l2.length l2) (hc2 : l2.length ≤ c2)
    (hs : Qa ((Ql l0_1 a1).f0 = 3)) (h : Qa1.f l0_0 l0_1 a1 l2 = some (r1, r2, r3)) :
    Calls Try.prog 31 #[.agg #[.slice A0_0 l0_0.length c0_0, .slice A0_1 l0_1.length c0_1], .int .i64 a1, .slice A2 l2.length c2] w fun e w' => e = .returned (.agg #[.bool r1, .bool r2, .bool r3]) ∧ Below w.heap.size w w' := by
  unfold Qa1.f at h
  split at h
  case isFalse => exact absurd h (by simp)
  case isTrue hfit =>
  obtain ⟨p2, p3, hfit⟩ := hfit
  have H : Qa (Qa1.p l0_0 l2 (Ql l0_1 a1) = (r1, r2, r3)) := ⟨Option.some.inj h⟩
  have HF := Qa.mk hfit
  clear h hfit
  have hu25 := Try.underlying25
  have hu45 := Try.underlying45
  have hu56 := Try.underlying56
  have hu51 := Try.underlying51
  have hu54 := Try.underlying54
  have HB := Qa.mk (Qd (Qd (Below.refl w.heap.size w) (.cells #[.slice A0_0 l0_0.length c0_0, .slice A0_1 l0_1.length c0_1] 25)) (.cells #[.bool false, .bool false, .bool false] 45))
  have HG := Qa.mk (Qi (Qf1 w (.cells #[.slice A0_0 l0_0.length c0_0, .slice A0_1 l0_1.length c0_1] 25)) (.cells #[.bool false, .bool false, .bool false] 45))
  have HR := Qa.mk (Qf1 (w.alloc (.cells #[.slice A0_0 l0_0.length c0_0, .slice A0_1 l0_1.length c0_1] 25)) (.cells #[.bool false, .bool false, .bool false] 45))
  have hsz : ((w.alloc (.cells #[.slice A0_0 l0_0.length c0_0, .slice A0_1 l0_1.length c0_1] 25)).alloc (.cells #[.bool false, .bool false, .bool false] 45)).heap.size = w.heap.size + 1 + 1 := by rw [Qt1, Qt1]
  rw [Qt1] at HR
  have HC0 := Qa.mk (Kd.Qn hr0_0 HB.out)
  have HC1 := Qa.mk (Kd.Qn hr0_1 HB.out)
  have HC2 := Qa.mk (Kd.Qn hr2 HB.out)
  have HW := Qa.mk hsz
  clear hr0_0 hr0_1 hr2 hsz
  go_enter Try.func31, Try.ntmps31
  go_upto_region 1 with (fail)
  generalize ((w.alloc (.cells #[.slice A0_0 l0_0.length c0_0, .slice A0_1 l0_1.length c0_1] 25)).alloc (.cells #[.bool false, .bool false, .bool false] 45)) = W1 at HB HG HR HC0 HC1 HC2 HW ⊢
  have g0 : W1.cell? ⟨w.heap.size, 0, none⟩ = some (.slice A0_0 l0_0.length c0_0) := (Qb HG.out 0).trans rfl
  have g1 : W1.cell? ⟨w.heap.size, 1, none⟩ = some (.slice A0_1 l0_1.length c0_1) := (Qb HG.out 1).trans rfl
  obtain ⟨ad, Ak, ck, e, k0, k1, k2, k3, k4, k5, k6, hlk, hCk⟩ := at_T56 HC1.out a1 p2 p3
  cases e
  have HCk := Qa.mk hCk
  have HLk := Qa.mk hlk
  clear hCk hlk HC1
  replace p2 := eq_true p2
  replace p3 := eq_true p3
  go_upto_region 3 with (fail)
  generalize Ql l0_1 a1 = nd at *
  obtain ⟨gx, hgx⟩ : ∃ gx, gx = W1.heap.size := ⟨_, rfl⟩
  obtain ⟨go, hgo⟩ : ∃ go, go = gx + 1 := ⟨_, rfl⟩
  obtain ⟨gb, hgb⟩ : ∃ gb, gb = w.heap.size := ⟨_, rfl⟩
  obtain ⟨gr, hgr⟩ : ∃ gr, gr = gb + 1 := ⟨_, rfl⟩
  rw [← hgb] at HW HG HR
  rw [← hgr] at HR
  have E2 : Qa (Env11 W1 gx go #[.int .i64 nd.f0, .slice Ak nd.f1.length ck, .int .i64 nd.f2, .int .u64 nd.f3.f0, .int .u64 nd.f3.f1, .int .u64 nd.f3.f2, .int .u64 nd.f3.f3] ((W1.alloc (.cells #[.int .i64 nd.f0, .slice Ak nd.f1.length ck, .int .i64 nd.f2, .int .u64 nd.f3.f0, .int .u64 nd.f3.f1, .int .u64 nd.f3.f2, .int .u64 nd.f3.f3] 56)).alloc (.cells #[.bool false, .bool false, .bool false] 45)) false false false) := ⟨by rw [hgx]; exact Qi (Qf1 W1 (.cells #[.int .i64 nd.f0, .slice Ak nd.f1.length ck, .int .i64 nd.f2, .int .u64 nd.f3.f0, .int .u64 nd.f3.f1, .int .u64 nd.f3.f2, .int .u64 nd.f3.f3] 56)) (.cells #[.bool false, .bool false, .bool false] 45), by rw [hgo, hgx]; have := Qf1 (W1.alloc (.cells #[.int .i64 nd.f0, .slice Ak nd.f1.length ck, .int .i64 nd.f2, .int .u64 nd.f3.f0, .int .u64 nd.f3.f1, .int .u64 nd.f3.f2, .int .u64 nd.f3.f3] 56)) (.cells #[.bool false, .bool false, .bool false] 45); rw [Qt1] at this; exact this, Qd (Qd (Below.refl _ _) _) _⟩
  have HLT := Qa.mk (show W1.heap.size ≤ go ∧ gx ≠ go ∧ gb < W1.heap.size ∧ gr < W1.heap.size ∧ gr ≠ go by have := HW.out; omega)
  have HGB := Qa.mk hgb
  have HGR := Qa.mk hgr
  rw [← hgx, ← hgb, ← hgr, ← hgo]
  generalize (W1.alloc (.cells #[.int .i64 nd.f0, .slice Ak nd.f1.length ck, .int .i64 nd.f2, .int .u64 nd.f3.f0, .int .u64 nd.f3.f1, .int .u64 nd.f3.f2, .int .u64 nd.f3.f3] 56)).alloc (.cells #[.bool false, .bool false, .bool false] 45) = W2 at E2 ⊢
  clear k0 k1 k2 k3 k4 k5 k6 g0 g1 HW hgx hgo hgb hgr
  have x0 := (Qb E2.out.x 0).trans rfl
  go_upto_block 0 with fail
  go_cut [] (fun wc => ∃ n e f, Qa ((n, e, f) = (r1, r2, r3)) ∧ Qa (Env11 W1 gx go #[.int .i64 nd.f0, .slice Ak nd.f1.length ck, .int .i64 nd.f2, .int .u64 nd.f3.f0, .int .u64 nd.f3.f1, .int .u64 nd.f3.f2, .int .u64 nd.f3.f3] wc n e f))
  case first =>
   clear x0
   have h := H.out
   clear H
   unfold Qa1.p at h
   have c0 : ¬ nd.f0 = 0 := by have := hs.out; omega
   rw [if_neg c0] at h
   have b0 : (nd.f0 == 0) = false := beq_eq_false_iff_ne.2 c0
   go_upto_region 6 with (fail)
   clear b0
   have c1 : ¬ nd.f0 = 1 := by have := hs.out; omega
   rw [if_neg c1] at h
   have b1 : (nd.f0 == 1) = false := beq_eq_false_iff_ne.2 c1
   go_upto_region 9 with (fail)
   clear b1
   have c2 : ¬ nd.f0 = 2 := by have := hs.out; omega
   rw [if_neg c2] at h
   have b2 : (nd.f0 == 2) = false := beq_eq_false_iff_ne.2 c2
   go_upto_region 11 with (fail)
   clear b2
   have c3 : nd.f0 = 3 := by have := hs.out; omega
   rw [if_pos c3] at h
   have b3 : (nd.f0 == 3) = true := beq_iff_eq.2 c3
   clear c0 c1 c2 c3
   have q9 := HCk.out.2.1
   have HMX := Qa.mk q9
   clear q9
   have o0 : W2.cell? ⟨go, 0, none⟩ = some (.bool false) := (Qb E2.out.o 0).trans rfl
   have z0 : W2.frozen? ⟨go, 0, none⟩ = false := Qc E2.out.o 0
   go_upto_block 1 with fail
   have EV0 := Qa.mk ((E2.out).put0 HLT.out.1 HLT.out.2.1 true)
   generalize W2.setCell ⟨go, 0, none⟩ (.bool true) = V0 at EV0 ⊢
   clear o0 z0
   go_cut [9] (fun v9 wc => ∃ (n e f al : Bool), v9 = .bool al ∧ Qa ((n, e && al, f) = (r1, r2, r3)) ∧ Qa (Env11 W1 gx go #[.int .i64 nd.f0, .slice Ak nd.f1.length ck, .int .i64 nd.f2, .int .u64 nd.f3.f0, .int .u64 nd.f3.f1, .int .u64 nd.f3.f2, .int .u64 nd.f3.f3] wc n e f))
   case first =>
    go_wp2
    go_loopg [9, 10] nd.f1.length (fun kq v9 v10 w' => ∃ (n e f : Bool) (al : Bool) (j : Int), v9 = .bool al ∧ v10 = .int .i64 j ∧ Qa (0 ≤ j ∧ j ≤ (nd.f1.length : Int) ∧ kq + j.toNat = nd.f1.length) ∧ Qa (Qa1.seqF l2 (nd.f1.drop j.toNat) n e f al = (r1, r2, r3)) ∧ Qa (al = (nd.f1.take j.toNat).all (okk l2)) ∧ Qa (Env11 W1 gx go #[.int .i64 nd.f0, .slice Ak nd.f1.length ck, .int .i64 nd.f2, .int .u64 nd.f3.f0, .int .u64 nd.f3.f1, .int .u64 nd.f3.f2, .int .u64 nd.f3.f3] w' n e f))
    case atStart => exact ⟨_, _, _, true, 0, rfl, rfl, ⟨by omega⟩, ⟨h⟩, ⟨rfl⟩, EV0⟩
    case round =>
     clear h EV0 E2
     obtain ⟨n, e, f, al, j, rfl, rfl, HJ, HA, HBV, E⟩ := hrel
     by_cases cj : j < (nd.f1.length : Int)
     ·
      have cjb : decide (j < (nd.f1.length : Int)) = true := decide_eq_true cj
      have kap : Qa (0 ≤ j) := ⟨by (have := HJ.out; omega)⟩
      have kaq : Qa (j < (nd.f1.length : Int)) := ⟨by (have := HJ.out; omega)⟩
      have kar := Qa.mk (HF.out.1 (rd nd.f1 j) (rd_memh nd.f1 j kap.out kaq.out)).1
      have kas := Qa.mk (HF.out.1 (rd nd.f1 j) (rd_memh nd.f1 j kap.out kaq.out)).2
      have kapt := eq_true kap.out
      have kaqt := eq_true kaq.out
      have kart := eq_true kar.out
      have kast := eq_true kas.out
      have h := HA.out
      rw [drop_rd nd.f1 j kap.out kaq.out] at h
      rw [Qa1.seqF] at h
      clear HA cj
      obtain ⟨f0, f1, f2, hfx⟩ : ∃ f0 f1 f2, rd_T45 l2 (rd nd.f1 j) = ⟨f0, f1, f2⟩ := ⟨_, _, _, rfl⟩
      rw [hfx] at h
      dsimp only at h
      have HFX := Qa.mk hfx
      have HA := Qa.mk h
      clear hfx h
      obtain ⟨ad1, he1, kay⟩ := Kd.at_int (Kd.Qn HCk.out E.out.b) j kap.out kaq.out
      have x1 : wr.cell? ⟨gx, 1, none⟩ = some (.slice (some ad1) nd.f1.length ck) := by rw [← he1]; exact (Qb E.out.x 1).trans rfl
      clear he1
      obtain ⟨ad2, e2, kau0, kau1, kau2⟩ := at_T45 (Kd.Qn HC2.out E.out.b) (rd nd.f1 j) kar.out kas.out
      cases e2
      rw [HFX.out] at kau0 kau1 kau2
      dsimp only at kau0 kau1 kau2
      go_upto_region 18 with (fail)
      obtain ⟨gf, hgf⟩ : ∃ gf, gf = wr.heap.size := ⟨_, rfl⟩
      have EA := Qa.mk (E.out.below (Qd (Below.refl _ _) (.cells #[.bool f0, .bool f1, .bool f2] 45)))
      have BF := Qa.mk (Qf1 wr (.cells #[.bool f0, .bool f1, .bool f2] 45))
      rw [← hgf] at BF ⊢
      have hne : Qa (gf ≠ go) := ⟨by have := blk_lt E.out.o; omega⟩
      generalize wr.alloc (.cells #[.bool f0, .bool f1, .bool f2] 45) = V1 at EA BF ⊢
      clear hgf E x1 kay kau0 kau1 kau2 cjb
      clear kapt kaqt kart kast
      go_cut [] (fun wc => Qa (Env11 W1 gx go #[.int .i64 nd.f0, .slice Ak nd.f1.length ck, .int .i64 nd.f2, .int .u64 nd.f3.f0, .int .u64 nd.f3.f1, .int .u64 nd.f3.f2, .int .u64 nd.f3.f3] wc (n && f0) (e) (f)) ∧ Qa (wc.heap[gf]? = some (.cells #[.bool f0, .bool f1, .bool f2] 45 (0, 0))))
      case first =>
       have o0 : V1.cell? ⟨go, 0, none⟩ = some (.bool (n)) := (Qb EA.out.o 0).trans rfl
       have z0 : V1.frozen? ⟨go, 0, none⟩ = false := Qc EA.out.o 0
       have g0 : V1.cell? ⟨gf, 0, none⟩ = some (.bool f0) := (Qb BF.out 0).trans rfl
       cases n with
       | true =>
         go_wp2
         go_meet
         exact ⟨⟨EA.out.put0 HLT.out.1 HLT.out.2.1 _⟩, ⟨blk_far BF.out (p := ⟨go, 0, none⟩) hne.out _⟩⟩
       | false =>
         go_wp2
         go_meet
         exact ⟨⟨EA.out.put0 HLT.out.1 HLT.out.2.1 _⟩, ⟨blk_far BF.out (p := ⟨go, 0, none⟩) hne.out _⟩⟩
      case rest =>
       clear EA BF
       obtain ⟨E, BF⟩ := hcut
       go_upto_block 3 with fail
       go_cut [12] (fun v12 wc => v12 = .bool al ∧ Qa (Env11 W1 gx go #[.int .i64 nd.f0, .slice Ak nd.f1.length ck, .int .i64 nd.f2, .int .u64 nd.f3.f0, .int .u64 nd.f3.f1, .int .u64 nd.f3.f2, .int .u64 nd.f3.f3] wc (n && f0) (e) (f)) ∧ Qa (wc.heap[gf]? = some (.cells #[.bool f0, .bool f1, .bool f2] 45 (0, 0))))
       case first =>
        go_wp2
        go_loopg [12, 13] j.toNat (fun kq v12 v13 w' => ∃ (bf : Bool) (m : Int), v12 = .bool bf ∧ v13 = .int .i64 m ∧ Qa (0 ≤ m ∧ m ≤ j ∧ kq + m.toNat = j.toNat) ∧ Qa (bf = (nd.f1.take m.toNat).all (okk l2)) ∧ Qa (Env11 W1 gx go #[.int .i64 nd.f0, .slice Ak nd.f1.length ck, .int .i64 nd.f2, .int .u64 nd.f3.f0, .int .u64 nd.f3.f1, .int .u64 nd.f3.f2, .int .u64 nd.f3.f3] w' (n && f0) (e) (f)) ∧ Qa (w'.heap[gf]? = some (.cells #[.bool f0, .bool f1, .bool f2] 45 (0, 0))))
        case atStart => exact ⟨true, 0, rfl, rfl, ⟨by have := HJ.out; omega⟩, ⟨rfl⟩, E, BF⟩
        case round =>
         clear E BF
         obtain ⟨bf, m, rfl, rfl, HM, HBF, E, BF⟩ := hrel
         by_cases cm : m < j
         ·
          have cmb : decide (m < j) = true := decide_eq_true cm
          have kbp : Qa (0 ≤ m) := ⟨by (have := HM.out; have := HJ.out; have := kaq.out; omega)⟩
          have kbq : Qa (m < (nd.f1.length : Int)) := ⟨by (have := HM.out; have := HJ.out; have := kaq.out; omega)⟩
          have kbr := Qa.mk (HF.out.1 (rd nd.f1 m) (rd_memh nd.f1 m kbp.out kbq.out)).1
          have kbs := Qa.mk (HF.out.1 (rd nd.f1 m) (rd_memh nd.f1 m kbp.out kbq.out)).2
          have kbpt := eq_true kbp.out
          have kbqt := eq_true kbq.out
          have kbrt := eq_true kbr.out
          have kbst := eq_true kbs.out
          have hw := wrap_next m nd.f1.length kbp.out kbq.out HMX.out
          have HWm := Qa.mk hw
          have HCM := Qa.mk cm
          clear hw cm
          cases bf with
          | true =>
            obtain ⟨g0, g1, g2, hgx⟩ : ∃ g0 g1 g2, rd_T45 l2 (rd nd.f1 m) = ⟨g0, g1, g2⟩ := ⟨_, _, _, rfl⟩
            have HGX := Qa.mk hgx
            clear hgx
            obtain ⟨ad1, he1, kby⟩ := Kd.at_int (Kd.Qn HCk.out E.out.b) m kbp.out kbq.out
            have x1 : wr.cell? ⟨gx, 1, none⟩ = some (.slice (some ad1) nd.f1.length ck) := by rw [← he1]; exact (Qb E.out.x 1).trans rfl
            clear he1
            obtain ⟨ad2, e2, kbu0, kbu1, kbu2⟩ := at_T45 (Kd.Qn HC2.out E.out.b) (rd nd.f1 m) kbr.out kbs.out
            cases e2
            rw [HGX.out] at kbu0 kbu1 kbu2
            dsimp only at kbu0 kbu1 kbu2
            go_wp2_with (
              go_at_call 35
              refine (vetchref11_ok.calls g0 g1 g2 (g0 || g1) _ (by cases g0 <;> rfl)).mono ?_
              rintro e_ V2 ⟨rfl, hb_⟩
              have HB_ := Qa.mk hb_
              clear hb_)
            go_roundg (gk - 1)
            case measure => have := HM.out; have := HCM.out; omega
            case rel => exact ⟨(g0 || g1), wrap64 (m + 1), rfl, rfl, ⟨by rw [HWm.out]; have := HM.out; have := HCM.out; omega⟩, ⟨by rw [HWm.out, all_rd _ nd.f1 m kbp.out kbq.out, ← HBF.out]; simp [okk, HGX.out]⟩, ⟨E.out.below HB_.out⟩, ⟨Qh BF.out HB_.out⟩⟩
          | false =>
            go_wp2
            go_roundg (gk - 1)
            case measure => have := HM.out; have := HCM.out; omega
            case rel => exact ⟨false, wrap64 (m + 1), rfl, rfl, ⟨by rw [HWm.out]; have := HM.out; have := HCM.out; omega⟩, ⟨by rw [HWm.out, all_rd _ nd.f1 m kbp.out kbq.out, ← HBF.out]; rfl⟩, E, BF⟩
         ·
          have cmb : decide (m < j) = false := decide_eq_false cm
          have HCM := Qa.mk cm
          clear cm
          go_wp2
          go_meet
          exact ⟨by rw [HBV.out, HBF.out, show m = j by have := HM.out; have := HCM.out; omega], E, BF⟩
       case rest =>
        clear E BF
        obtain ⟨rfl, E, BF⟩ := hcut
        go_upto_region 24 with (fail)
        go_cut [] (fun wc => Qa (Env11 W1 gx go #[.int .i64 nd.f0, .slice Ak nd.f1.length ck, .int .i64 nd.f2, .int .u64 nd.f3.f0, .int .u64 nd.f3.f1, .int .u64 nd.f3.f2, .int .u64 nd.f3.f3] wc (n && f0) (e) (f || (f2 && al))) ∧ Qa (wc.heap[gf]? = some (.cells #[.bool f0, .bool f1, .bool f2] 45 (0, 0))))
        case first =>
         have o2 : wc.cell? ⟨go, 2, none⟩ = some (.bool (f)) := (Qb E.out.o 2).trans rfl
         have z2 : wc.frozen? ⟨go, 2, none⟩ = false := Qc E.out.o 2
         have g2 : wc.cell? ⟨gf, 2, none⟩ = some (.bool f2) := (Qb BF.out 2).trans rfl
         cases f with
         | true =>
           go_wp2
           go_meet
           exact ⟨⟨E.out.put2 HLT.out.1 HLT.out.2.1 _⟩, ⟨blk_far BF.out (p := ⟨go, 2, none⟩) hne.out _⟩⟩
         | false =>
           cases f2 with
           | true =>
             go_wp2
             go_meet
             exact ⟨⟨E.out.put2 HLT.out.1 HLT.out.2.1 _⟩, ⟨blk_far BF.out (p := ⟨go, 2, none⟩) hne.out _⟩⟩
           | false =>
             go_wp2
             go_meet
             exact ⟨⟨E.out.put2 HLT.out.1 HLT.out.2.1 _⟩, ⟨blk_far BF.out (p := ⟨go, 2, none⟩) hne.out _⟩⟩
        case rest =>
         clear E BF
         obtain ⟨E, BF⟩ := hcut
         go_upto_region 25 with (fail)
         go_cut [9] (fun v9 wc => v9 = .bool (al && (f0 || f1)) ∧ Qa (Env11 W1 gx go #[.int .i64 nd.f0, .slice Ak nd.f1.length ck, .int .i64 nd.f2, .int .u64 nd.f3.f0, .int .u64 nd.f3.f1, .int .u64 nd.f3.f2, .int .u64 nd.f3.f3] wc (n && f0) (e) (f || (f2 && al))) ∧ Qa (wc.heap[gf]? = some (.cells #[.bool f0, .bool f1, .bool f2] 45 (0, 0))))
         case first =>
          have g0 : wc.cell? ⟨gf, 0, none⟩ = some (.bool f0) := (Qb BF.out 0).trans rfl
          have g1 : wc.cell? ⟨gf, 1, none⟩ = some (.bool f1) := (Qb BF.out 1).trans rfl
          have g2 : wc.cell? ⟨gf, 2, none⟩ = some (.bool f2) := (Qb BF.out 2).trans rfl
          cases al with
          | true =>
            go_wp2_with (
              go_at_call 35
              refine (vetchref11_ok.calls f0 f1 f2 (f0 || f1) _ (by cases f0 <;> rfl)).mono ?_
              rintro e_ V2 ⟨rfl, hb_⟩
              have HB_ := Qa.mk hb_
              clear hb_)
            go_meet
            exact ⟨rfl, ⟨E.out.below HB_.out⟩, ⟨Qh BF.out HB_.out⟩⟩
          | false =>
            go_wp2
            go_meet
            exact ⟨rfl, E, BF⟩
         case rest =>
          clear E BF
          obtain ⟨rfl, E, BF⟩ := hcut
          have hw := wrap_next j nd.f1.length kap.out kaq.out HMX.out
          have HWj := Qa.mk hw
          clear hw
          go_upto_region 26 with (fail)
          have o1 : wc.cell? ⟨go, 1, none⟩ = some (.bool (e)) := (Qb E.out.o 1).trans rfl
          have z1 : wc.frozen? ⟨go, 1, none⟩ = false := Qc E.out.o 1
          have g1 : wc.cell? ⟨gf, 1, none⟩ = some (.bool f1) := (Qb BF.out 1).trans rfl
          cases e with
          | true =>
            go_wp2
            go_roundg (gk - 1)
            case measure => have := HJ.out; have := kaq.out; omega
            case rel => exact ⟨_, _, _, (al && (f0 || f1)), wrap64 (j + 1), rfl, rfl, ⟨by rw [HWj.out]; have := HJ.out; have := kaq.out; omega⟩, ⟨by rw [HWj.out]; exact HA.out⟩, ⟨by rw [HWj.out, all_rd _ nd.f1 j kap.out kaq.out, ← HBV.out]; simp [okk, HFX.out]⟩, ⟨E.out.put1 HLT.out.1 HLT.out.2.1 _⟩⟩
          | false =>
            go_wp2
            go_roundg (gk - 1)
            case measure => have := HJ.out; have := kaq.out; omega
            case rel => exact ⟨_, _, _, (al && (f0 || f1)), wrap64 (j + 1), rfl, rfl, ⟨by rw [HWj.out]; have := HJ.out; have := kaq.out; omega⟩, ⟨by rw [HWj.out]; exact HA.out⟩, ⟨by rw [HWj.out, all_rd _ nd.f1 j kap.out kaq.out, ← HBV.out]; simp [okk, HFX.out]⟩, ⟨E.out.put1 HLT.out.1 HLT.out.2.1 _⟩⟩
     ·
      have cjb : decide (j < (nd.f1.length : Int)) = false := decide_eq_false cj
      have h := HA.out
      rw [drop_end nd.f1 j cj] at h
      clear cj
      have x1 := (Qb E.out.x 1).trans rfl
      go_wp2
      go_meet
      exact ⟨n, e, f, al, rfl, ⟨h⟩, E⟩
   case rest =>
    clear EV0 E2 h
    obtain ⟨n, e, f, al, rfl, HE, E⟩ := hcut
    have o1 : wc.cell? ⟨go, 1, none⟩ = some (.bool e) := (Qb E.out.o 1).trans rfl
    have z1 : wc.frozen? ⟨go, 1, none⟩ = false := Qc E.out.o 1
    cases e with
    | true =>
      go_wp2
      go_meet
      exact ⟨_, _, _, HE, ⟨E.out.put1 HLT.out.1 HLT.out.2.1 _⟩⟩
    | false =>
      go_wp2
      go_meet
      exact ⟨_, _, _, HE, ⟨E.out.put1 HLT.out.1 HLT.out.2.1 _⟩⟩
  case rest =>
   clear x0
   obtain ⟨n, e, f, HE, E3⟩ := hcut
   obtain ⟨rfl, rfl, rfl⟩ : n = r1 ∧ e = r2 ∧ f = r3 := by simpa using HE.out
   have o0 : wc.cell? ⟨go, 0, none⟩ = some (.bool n) := (Qb E3.out.o 0).trans rfl
   have r0 : wc.cell? ⟨gr, 0, none⟩ = some (.bool false) := (Qb (Qh HR.out E3.out.b) 0).trans rfl
   have z0 : wc.frozen? ⟨gr, 0, none⟩ = false := Qc (Qh HR.out E3.out.b) 0
   have o1 : wc.cell? ⟨go, 1, none⟩ = some (.bool e) := (Qb E3.out.o 1).trans rfl
   have r1 : wc.cell? ⟨gr, 1, none⟩ = some (.bool false) := (Qb (Qh HR.out E3.out.b) 1).trans rfl
   have z1 : wc.frozen? ⟨gr, 1, none⟩ = false := Qc (Qh HR.out E3.out.b) 1
   have o2 : wc.cell? ⟨go, 2, none⟩ = some (.bool f) := (Qb E3.out.o 2).trans rfl
   have r2 : wc.cell? ⟨gr, 2, none⟩ = some (.bool false) := (Qb (Qh HR.out E3.out.b) 2).trans rfl
   have z2 : wc.frozen? ⟨gr, 2, none⟩ = false := Qc (Qh HR.out E3.out.b) 2
   go_wp2
   refine bodyPost_ret (results_cell_row rfl _ _ gr 45 #[.bool n, .bool e, .bool f] (0, 0) _ rfl (blk3 (Qh HR.out E3.out.b) _ _ _) Try.underlying45 rfl (by kernel_rfl)) rfl ⟨rfl, ?_⟩
   exact below3 (Qm HB.out E3.out.b) (by have := HGB.out; have := HGR.out; omega) _ _ _
end Go.Proofs.Ythgedejnpgcacaa.V
namespace Go.Proofs.Ythgedejnpgcacaa.V
open Go.RowKit Go.Proofs.YthgedejnpgcacaaW.PrintWords Go.Proofs.YthgedejnpgcacaaW.PrintLast Go.Proofs.YthgedejnpgcacaaW.PrintMore
set_option linter.unusedVariables false
set_option linter.unusedSimpArgs false
attribute [local go_sem high] eq54h
set_option maxHeartbeats 4000000 in
set_option maxRecDepth 100000 in
theorem Qa1.calls_s4 (A0_0 : Option Addr) (c0_0 : Nat) (l0_0 : List S51) (A0_1 : Option Addr) (c0_1 : Nat) (l0_1 : List S56) (a1 : Int) (A2 : Option Addr) (c2 : Nat) (l2 : List S45) (r1 r2 r3 : Bool) (w : World)
    (hr0_0 : Kd.C k51 w A0_0 l0_0.length l0_0) (hc0_0 : l0_0.length ≤ c0_0) (hr0_1 : Kd.C k56 w A0_1 l0_1.length l0_1) (hc0_1 : l0_1.length ≤ c0_1) (hr2 : Kd.C k45 w A2 l2.length l2) (hc2 : l2.length ≤ c2)
    (hs : Qa ((Ql l0_1 a1).f0 = 4)) (h : Qa1.f l0_0 l0_1 a1 l2 = some (r1, r2, r3)) :
    Calls Try.prog 31 #[.agg #[.slice A0_0 l0_0.length c0_0, .slice A0_1 l0_1.length c0_1], .int .i64 a1, .slice A2 l2.length c2] w fun e w' => e = .returned (.agg #[.bool r1, .bool r2, .bool r3]) ∧ Below w.heap.size w w' := by
  unfold Qa1.f at h
  split at h
  case isFalse => exact absurd h (by simp)
  case isTrue hfit =>
  obtain ⟨p2, p3, hfit⟩ := hfit
  have H : Qa (Qa1.p l0_0 l2 (Ql l0_1 a1) = (r1, r2, r3)) := ⟨Option.some.inj h⟩
  have HF := Qa.mk hfit
  clear h hfit
  have hu25 := Try.underlying25
  have hu45 := Try.underlying45
  have hu56 := Try.underlying56
  have hu51 := Try.underlying51
  have hu54 := Try.underlying54
  have HB := Qa.mk (Qd (Qd (Below.refl w.heap.size w) (.cells #[.slice A0_0 l0_0.length c0_0, .slice A0_1 l0_1.length c0_1] 25)) (.cells #[.bool false, .bool false, .bool false] 45))
  have HG := Qa.mk (Qi (Qf1 w (.cells #[.slice A0_0 l0_0.length c0_0, .slice A0_1 l0_1.length c0_1] 25)) (.cells #[.bool false, .bool false, .bool false] 45))
  have HR := Qa.mk (Qf1 (w.alloc (.cells #[.slice A0_0 l0_0.length c0_0, .slice A0_1 l0_1.length c0_1] 25)) (.cells #[.bool false, .bool false, .bool false] 45))
  have hsz : ((w.alloc (.cells #[.slice A0_0 l0_0.length c0_0, .slice A0_1 l0_1.length c0_1] 25)).alloc (.cells #[.bool false, .bool false, .bool false] 45)).heap.size = w.heap.size + 1 + 1 := by rw [Qt1, Qt1]
  rw [Qt1] at HR
  have HC0 := Qa.mk (Kd.Qn hr0_0 HB.out)
  have HC1 := Qa.mk (Kd.Qn hr0_1 HB.out)
  have HC2 := Qa.mk (Kd.Qn hr2 HB.out)
  have HW := Qa.mk hsz
  clear hr0_0 hr0_1 hr2 hsz
  go_enter Try.func31, Try.ntmps31
  go_upto_region 1 with (fail)
  generalize ((w.alloc (.cells #[.slice A0_0 l0_0.length c0_0, .slice A0_1 l0_1.length c0_1] 25)).alloc (.cells #[.bool false, .bool false, .bool false] 45)) = W1 at HB HG HR HC0 HC1 HC2 HW ⊢
  have g0 : W1.cell? ⟨w.heap.size, 0, none⟩ = some (.slice A0_0 l0_0.length c0_0) := (Qb HG.out 0).trans rfl
  have g1 : W1.cell? ⟨w.heap.size, 1, none⟩ = some (.slice A0_1 l0_1.length c0_1) := (Qb HG.out 1).trans rfl
  obtain ⟨ad, Ak, ck, e, k0, k1, k2, k3, k4, k5, k6, hlk, hCk⟩ := at_T56 HC1.out a1 p2 p3
  cases e
  have HCk := Qa.mk hCk
  have HLk := Qa.mk hlk
  clear hCk hlk HC1
  replace p2 := eq_true p2
  replace p3 := eq_true p3
  go_upto_region 3 with (fail)
  generalize Ql l0_1 a1 = nd at *
  obtain ⟨gx, hgx⟩ : ∃ gx, gx = W1.heap.size := ⟨_, rfl⟩
  obtain ⟨go, hgo⟩ : ∃ go, go = gx + 1 := ⟨_, rfl⟩
  obtain ⟨gb, hgb⟩ : ∃ gb, gb = w.heap.size := ⟨_, rfl⟩
  obtain ⟨gr, hgr⟩ : ∃ gr, gr = gb + 1 := ⟨_, rfl⟩
  rw [← hgb] at HW HG HR
  rw [← hgr] at HR
  have E2 : Qa (Env11 W1 gx go #[.int .i64 nd.f0, .slice Ak nd.f1.length ck, .int .i64 nd.f2, .int .u64 nd.f3.f0, .int .u64 nd.f3.f1, .int .u64 nd.f3.f2, .int .u64 nd.f3.f3] ((W1.alloc (.cells #[.int .i64 nd.f0, .slice Ak nd.f1.length ck, .int .i64 nd.f2, .int .u64 nd.f3.f0, .int .u64 nd.f3.f1, .int .u64 nd.f3.f2, .int .u64 nd.f3.f3] 56)).alloc (.cells #[.bool false, .bool false, .bool false] 45)) false false false) := ⟨by rw [hgx]; exact Qi (Qf1 W1 (.cells #[.int .i64 nd.f0, .slice Ak nd.f1.length ck, .int .i64 nd.f2, .int .u64 nd.f3.f0, .int .u64 nd.f3.f1, .int .u64 nd.f3.f2, .int .u64 nd.f3.f3] 56)) (.cells #[.bool false, .bool false, .bool false] 45), by rw [hgo, hgx]; have := Qf1 (W1.alloc (.cells #[.int .i64 nd.f0, .slice Ak nd.f1.length ck, .int .i64 nd.f2, .int .u64 nd.f3.f0, .int .u64 nd.f3.f1, .int .u64 nd.f3.f2, .int .u64 nd.f3.f3] 56)) (.cells #[.bool false, .bool false, .bool false] 45); rw [Qt1] at this; exact this, Qd (Qd (Below.refl _ _) _) _⟩
  have HLT := Qa.mk (show W1.heap.size ≤ go ∧ gx ≠ go ∧ gb < W1.heap.size ∧ gr < W1.heap.size ∧ gr ≠ go by have := HW.out; omega)
  have HGB := Qa.mk hgb
  have HGR := Qa.mk hgr
  rw [← hgx, ← hgb, ← hgr, ← hgo]
  generalize (W1.alloc (.cells #[.int .i64 nd.f0, .slice Ak nd.f1.length ck, .int .i64 nd.f2, .int .u64 nd.f3.f0, .int .u64 nd.f3.f1, .int .u64 nd.f3.f2, .int .u64 nd.f3.f3] 56)).alloc (.cells #[.bool false, .bool false, .bool false] 45) = W2 at E2 ⊢
  clear k0 k1 k2 k3 k4 k5 k6 g0 g1 HW hgx hgo hgb hgr
  have x0 := (Qb E2.out.x 0).trans rfl
  go_upto_block 0 with fail
  go_cut [] (fun wc => ∃ n e f, Qa ((n, e, f) = (r1, r2, r3)) ∧ Qa (Env11 W1 gx go #[.int .i64 nd.f0, .slice Ak nd.f1.length ck, .int .i64 nd.f2, .int .u64 nd.f3.f0, .int .u64 nd.f3.f1, .int .u64 nd.f3.f2, .int .u64 nd.f3.f3] wc n e f))
  case first =>
   clear x0
   have h := H.out
   clear H
   unfold Qa1.p at h
   have c0 : ¬ nd.f0 = 0 := by have := hs.out; omega
   rw [if_neg c0] at h
   have b0 : (nd.f0 == 0) = false := beq_eq_false_iff_ne.2 c0
   go_upto_region 6 with (fail)
   clear b0
   have c1 : ¬ nd.f0 = 1 := by have := hs.out; omega
   rw [if_neg c1] at h
   have b1 : (nd.f0 == 1) = false := beq_eq_false_iff_ne.2 c1
   go_upto_region 9 with (fail)
   clear b1
   have c2 : ¬ nd.f0 = 2 := by have := hs.out; omega
   rw [if_neg c2] at h
   have b2 : (nd.f0 == 2) = false := beq_eq_false_iff_ne.2 c2
   go_upto_region 11 with (fail)
   clear b2
   have c3 : ¬ nd.f0 = 3 := by have := hs.out; omega
   rw [if_neg c3] at h
   have b3 : (nd.f0 == 3) = false := beq_eq_false_iff_ne.2 c3
   go_upto_region 28 with (fail)
   clear b3
   have c4 : nd.f0 = 4 := by have := hs.out; omega
   rw [if_pos c4] at h
   have b4 : (nd.f0 == 4) = true := beq_iff_eq.2 c4
   clear c0 c1 c2 c3 c4
   have q9 := HCk.out.2.1
   have HMX := Qa.mk q9
   clear q9
   have o2 : W2.cell? ⟨go, 2, none⟩ = some (.bool false) := (Qb E2.out.o 2).trans rfl
   have z2 : W2.frozen? ⟨go, 2, none⟩ = false := Qc E2.out.o 2
   go_upto_block 5 with fail
   have EV0 := Qa.mk ((E2.out).put2 HLT.out.1 HLT.out.2.1 true)
   generalize W2.setCell ⟨go, 2, none⟩ (.bool true) = V0 at EV0 ⊢
   clear o2 z2
   go_wp2
   go_loopg [14] nd.f1.length (fun kq v14 w' => ∃ (n e f : Bool) (j : Int), v14 = .int .i64 j ∧ Qa (0 ≤ j ∧ j ≤ (nd.f1.length : Int) ∧ kq + j.toNat = nd.f1.length) ∧ Qa (Qa1.choF l2 (nd.f1.drop j.toNat) n e f = (r1, r2, r3)) ∧ Qa (f = (nd.f1.take j.toNat).all (fun c => (rd_T45 l2 c).f2)) ∧ Qa (Env11 W1 gx go #[.int .i64 nd.f0, .slice Ak nd.f1.length ck, .int .i64 nd.f2, .int .u64 nd.f3.f0, .int .u64 nd.f3.f1, .int .u64 nd.f3.f2, .int .u64 nd.f3.f3] w' n e f))
   case atStart => exact ⟨_, _, _, 0, rfl, ⟨by omega⟩, ⟨h⟩, ⟨rfl⟩, EV0⟩
   case round =>
    clear h EV0 E2
    obtain ⟨n, e, f, j, rfl, HJ, HA, HBV, E⟩ := hrel
    by_cases cj : j < (nd.f1.length : Int)
    ·
     have cjb : decide (j < (nd.f1.length : Int)) = true := decide_eq_true cj
     have kap : Qa (0 ≤ j) := ⟨by (have := HJ.out; omega)⟩
     have kaq : Qa (j < (nd.f1.length : Int)) := ⟨by (have := HJ.out; omega)⟩
     have kar := Qa.mk (HF.out.1 (rd nd.f1 j) (rd_memh nd.f1 j kap.out kaq.out)).1
     have kas := Qa.mk (HF.out.1 (rd nd.f1 j) (rd_memh nd.f1 j kap.out kaq.out)).2
     have kapt := eq_true kap.out
     have kaqt := eq_true kaq.out
     have kart := eq_true kar.out
     have kast := eq_true kas.out
     have h := HA.out
     rw [drop_rd nd.f1 j kap.out kaq.out] at h
     rw [Qa1.choF] at h
     clear HA cj
     obtain ⟨f0, f1, f2, hfx⟩ : ∃ f0 f1 f2, rd_T45 l2 (rd nd.f1 j) = ⟨f0, f1, f2⟩ := ⟨_, _, _, rfl⟩
     rw [hfx] at h
     dsimp only at h
     have HFX := Qa.mk hfx
     have HA := Qa.mk h
     clear hfx h
     obtain ⟨ad1, he1, kay⟩ := Kd.at_int (Kd.Qn HCk.out E.out.b) j kap.out kaq.out
     have x1 : wr.cell? ⟨gx, 1, none⟩ = some (.slice (some ad1) nd.f1.length ck) := by rw [← he1]; exact (Qb E.out.x 1).trans rfl
     clear he1
     obtain ⟨ad2, e2, kau0, kau1, kau2⟩ := at_T45 (Kd.Qn HC2.out E.out.b) (rd nd.f1 j) kar.out kas.out
     cases e2
     rw [HFX.out] at kau0 kau1 kau2
     dsimp only at kau0 kau1 kau2
     go_upto_region 34 with (fail)
     obtain ⟨gf, hgf⟩ : ∃ gf, gf = wr.heap.size := ⟨_, rfl⟩
     have EA := Qa.mk (E.out.below (Qd (Below.refl _ _) (.cells #[.bool f0, .bool f1, .bool f2] 45)))
     have BF := Qa.mk (Qf1 wr (.cells #[.bool f0, .bool f1, .bool f2] 45))
     rw [← hgf] at BF ⊢
     have hne : Qa (gf ≠ go) := ⟨by have := blk_lt E.out.o; omega⟩
     generalize wr.alloc (.cells #[.bool f0, .bool f1, .bool f2] 45) = V1 at EA BF ⊢
     clear hgf E x1 kay kau0 kau1 kau2 cjb
     clear kapt kaqt kart kast
     go_upto_block 7 with fail
     go_cut [16] (fun v16 wc => v16 = .bool f ∧ Qa (Env11 W1 gx go #[.int .i64 nd.f0, .slice Ak nd.f1.length ck, .int .i64 nd.f2, .int .u64 nd.f3.f0, .int .u64 nd.f3.f1, .int .u64 nd.f3.f2, .int .u64 nd.f3.f3] wc (n) (e) (f)) ∧ Qa (wc.heap[gf]? = some (.cells #[.bool f0, .bool f1, .bool f2] 45 (0, 0))))
     case first =>
      go_wp2
      go_loopg [16, 17] j.toNat (fun kq v16 v17 w' => ∃ (bf : Bool) (m : Int), v16 = .bool bf ∧ v17 = .int .i64 m ∧ Qa (0 ≤ m ∧ m ≤ j ∧ kq + m.toNat = j.toNat) ∧ Qa (bf = (nd.f1.take m.toNat).all (fun c => (rd_T45 l2 c).f2)) ∧ Qa (Env11 W1 gx go #[.int .i64 nd.f0, .slice Ak nd.f1.length ck, .int .i64 nd.f2, .int .u64 nd.f3.f0, .int .u64 nd.f3.f1, .int .u64 nd.f3.f2, .int .u64 nd.f3.f3] w' (n) (e) (f)) ∧ Qa (w'.heap[gf]? = some (.cells #[.bool f0, .bool f1, .bool f2] 45 (0, 0))))
      case atStart => exact ⟨true, 0, rfl, rfl, ⟨by have := HJ.out; omega⟩, ⟨rfl⟩, EA, BF⟩
      case round =>
       clear EA BF
       obtain ⟨bf, m, rfl, rfl, HM, HBF, E, BF⟩ := hrel
       by_cases cm : m < j
       ·
        have cmb : decide (m < j) = true := decide_eq_true cm
        have kbp : Qa (0 ≤ m) := ⟨by (have := HM.out; have := HJ.out; have := kaq.out; omega)⟩
        have kbq : Qa (m < (nd.f1.length : Int)) := ⟨by (have := HM.out; have := HJ.out; have := kaq.out; omega)⟩
        have kbr := Qa.mk (HF.out.1 (rd nd.f1 m) (rd_memh nd.f1 m kbp.out kbq.out)).1
        have kbs := Qa.mk (HF.out.1 (rd nd.f1 m) (rd_memh nd.f1 m kbp.out kbq.out)).2
        have kbpt := eq_true kbp.out
        have kbqt := eq_true kbq.out
        have kbrt := eq_true kbr.out
        have kbst := eq_true kbs.out
        have hw := wrap_next m nd.f1.length kbp.out kbq.out HMX.out
        have HWm := Qa.mk hw
        have HCM := Qa.mk cm
        clear hw cm
        cases bf with
        | true =>
          obtain ⟨g0, g1, g2, hgx⟩ : ∃ g0 g1 g2, rd_T45 l2 (rd nd.f1 m) = ⟨g0, g1, g2⟩ := ⟨_, _, _, rfl⟩
          have HGX := Qa.mk hgx
          clear hgx
          obtain ⟨ad1, he1, kby⟩ := Kd.at_int (Kd.Qn HCk.out E.out.b) m kbp.out kbq.out
          have x1 : wr.cell? ⟨gx, 1, none⟩ = some (.slice (some ad1) nd.f1.length ck) := by rw [← he1]; exact (Qb E.out.x 1).trans rfl
          clear he1
          obtain ⟨ad2, e2, kbu0, kbu1, kbu2⟩ := at_T45 (Kd.Qn HC2.out E.out.b) (rd nd.f1 m) kbr.out kbs.out
          cases e2
          rw [HGX.out] at kbu0 kbu1 kbu2
          dsimp only at kbu0 kbu1 kbu2
          go_wp2
          go_roundg (gk - 1)
          case measure => have := HM.out; have := HCM.out; omega
          case rel => exact ⟨g2, wrap64 (m + 1), rfl, rfl, ⟨by rw [HWm.out]; have := HM.out; have := HCM.out; omega⟩, ⟨by rw [HWm.out, all_rd _ nd.f1 m kbp.out kbq.out, ← HBF.out]; simp [HGX.out]⟩, E, BF⟩
        | false =>
          go_wp2
          go_roundg (gk - 1)
          case measure => have := HM.out; have := HCM.out; omega
          case rel => exact ⟨false, wrap64 (m + 1), rfl, rfl, ⟨by rw [HWm.out]; have := HM.out; have := HCM.out; omega⟩, ⟨by rw [HWm.out, all_rd _ nd.f1 m kbp.out kbq.out, ← HBF.out]; rfl⟩, E, BF⟩
       ·
        have cmb : decide (m < j) = false := decide_eq_false cm
        have HCM := Qa.mk cm
        clear cm
        go_wp2
        go_meet
        exact ⟨by rw [HBV.out, HBF.out, show m = j by have := HM.out; have := HCM.out; omega], E, BF⟩
     case rest =>
      clear EA BF
      obtain ⟨rfl, E, BF⟩ := hcut
      go_upto_region 39 with (fail)
      go_cut [] (fun wc => Qa (Env11 W1 gx go #[.int .i64 nd.f0, .slice Ak nd.f1.length ck, .int .i64 nd.f2, .int .u64 nd.f3.f0, .int .u64 nd.f3.f1, .int .u64 nd.f3.f2, .int .u64 nd.f3.f3] wc (n || (f0 && f)) (e) (f)) ∧ Qa (wc.heap[gf]? = some (.cells #[.bool f0, .bool f1, .bool f2] 45 (0, 0))))
      case first =>
       have o0 : wc.cell? ⟨go, 0, none⟩ = some (.bool (n)) := (Qb E.out.o 0).trans rfl
       have z0 : wc.frozen? ⟨go, 0, none⟩ = false := Qc E.out.o 0
       have g0 : wc.cell? ⟨gf, 0, none⟩ = some (.bool f0) := (Qb BF.out 0).trans rfl
       cases n with
       | true =>
         go_wp2
         go_meet
         exact ⟨⟨E.out.put0 HLT.out.1 HLT.out.2.1 _⟩, ⟨blk_far BF.out (p := ⟨go, 0, none⟩) hne.out _⟩⟩
       | false =>
         cases f0 with
         | true =>
           go_wp2
           go_meet
           exact ⟨⟨E.out.put0 HLT.out.1 HLT.out.2.1 _⟩, ⟨blk_far BF.out (p := ⟨go, 0, none⟩) hne.out _⟩⟩
         | false =>
           go_wp2
           go_meet
           exact ⟨⟨E.out.put0 HLT.out.1 HLT.out.2.1 _⟩, ⟨blk_far BF.out (p := ⟨go, 0, none⟩) hne.out _⟩⟩
      case rest =>
       clear E BF
       obtain ⟨E, BF⟩ := hcut
       go_upto_region 40 with (fail)
       go_cut [] (fun wc => Qa (Env11 W1 gx go #[.int .i64 nd.f0, .slice Ak nd.f1.length ck, .int .i64 nd.f2, .int .u64 nd.f3.f0, .int .u64 nd.f3.f1, .int .u64 nd.f3.f2, .int .u64 nd.f3.f3] wc (n || (f0 && f)) (e || (f1 && f)) (f)) ∧ Qa (wc.heap[gf]? = some (.cells #[.bool f0, .bool f1, .bool f2] 45 (0, 0))))
       case first =>
        have o1 : wc.cell? ⟨go, 1, none⟩ = some (.bool (e)) := (Qb E.out.o 1).trans rfl
        have z1 : wc.frozen? ⟨go, 1, none⟩ = false := Qc E.out.o 1
        have g1 : wc.cell? ⟨gf, 1, none⟩ = some (.bool f1) := (Qb BF.out 1).trans rfl
        cases e with
        | true =>
          go_wp2
          go_meet
          exact ⟨⟨E.out.put1 HLT.out.1 HLT.out.2.1 _⟩, ⟨blk_far BF.out (p := ⟨go, 1, none⟩) hne.out _⟩⟩
        | false =>
          cases f1 with
          | true =>
            go_wp2
            go_meet
            exact ⟨⟨E.out.put1 HLT.out.1 HLT.out.2.1 _⟩, ⟨blk_far BF.out (p := ⟨go, 1, none⟩) hne.out _⟩⟩
          | false =>
            go_wp2
            go_meet
            exact ⟨⟨E.out.put1 HLT.out.1 HLT.out.2.1 _⟩, ⟨blk_far BF.out (p := ⟨go, 1, none⟩) hne.out _⟩⟩
       case rest =>
        clear E BF
        obtain ⟨E, BF⟩ := hcut
        have hw := wrap_next j nd.f1.length kap.out kaq.out HMX.out
        have HWj := Qa.mk hw
        clear hw
        go_upto_region 41 with (fail)
        have o2 : wc.cell? ⟨go, 2, none⟩ = some (.bool (f)) := (Qb E.out.o 2).trans rfl
        have z2 : wc.frozen? ⟨go, 2, none⟩ = false := Qc E.out.o 2
        have g2 : wc.cell? ⟨gf, 2, none⟩ = some (.bool f2) := (Qb BF.out 2).trans rfl
        cases f with
        | true =>
          go_wp2
          go_roundg (gk - 1)
          case measure => have := HJ.out; have := kaq.out; omega
          case rel => exact ⟨_, _, _, wrap64 (j + 1), rfl, ⟨by rw [HWj.out]; have := HJ.out; have := kaq.out; omega⟩, ⟨by rw [HWj.out]; exact HA.out⟩, ⟨by rw [HWj.out, all_rd _ nd.f1 j kap.out kaq.out, ← HBV.out]; simp [HFX.out]⟩, ⟨E.out.put2 HLT.out.1 HLT.out.2.1 _⟩⟩
        | false =>
          go_wp2
          go_roundg (gk - 1)
          case measure => have := HJ.out; have := kaq.out; omega
          case rel => exact ⟨_, _, _, wrap64 (j + 1), rfl, ⟨by rw [HWj.out]; have := HJ.out; have := kaq.out; omega⟩, ⟨by rw [HWj.out]; exact HA.out⟩, ⟨by rw [HWj.out, all_rd _ nd.f1 j kap.out kaq.out, ← HBV.out]; simp [HFX.out]⟩, ⟨E.out.put2 HLT.out.1 HLT.out.2.1 _⟩⟩
    ·
     have cjb : decide (j < (nd.f1.length : Int)) = false := decide_eq_false cj
     have h := HA.out
     rw [drop_end nd.f1 j cj] at h
     clear cj
     have x1 := (Qb E.out.x 1).trans rfl
     go_wp2
     go_meet
     exact ⟨_, _, _, ⟨h⟩, E⟩
  case rest =>
   clear x0
   obtain ⟨n, e, f, HE, E3⟩ := hcut
   obtain ⟨rfl, rfl, rfl⟩ : n = r1 ∧ e = r2 ∧ f = r3 := by simpa using HE.out
   have o0 : wc.cell? ⟨go, 0, none⟩ = some (.bool n) := (Qb E3.out.o 0).trans rfl
   have r0 : wc.cell? ⟨gr, 0, none⟩ = some (.bool false) := (Qb (Qh HR.out E3.out.b) 0).trans rfl
   have z0 : wc.frozen? ⟨gr, 0, none⟩ = false := Qc (Qh HR.out E3.out.b) 0
   have o1 : wc.cell? ⟨go, 1, none⟩ = some (.bool e) := (Qb E3.out.o 1).trans rfl
   have r1 : wc.cell? ⟨gr, 1, none⟩ = some (.bool false) := (Qb (Qh HR.out E3.out.b) 1).trans rfl
   have z1 : wc.frozen? ⟨gr, 1, none⟩ = false := Qc (Qh HR.out E3.out.b) 1
   have o2 : wc.cell? ⟨go, 2, none⟩ = some (.bool f) := (Qb E3.out.o 2).trans rfl
   have r2 : wc.cell? ⟨gr, 2, none⟩ = some (.bool false) := (Qb (Qh HR.out E3.out.b) 2).trans rfl
   have z2 : wc.frozen? ⟨gr, 2, none⟩ = false := Qc (Qh HR.out E3.out.b) 2
   go_wp2
   refine bodyPost_ret (results_cell_row rfl _ _ gr 45 #[.bool n, .bool e, .bool f] (0, 0) _ rfl (blk3 (Qh HR.out E3.out.b) _ _ _) Try.underlying45 rfl (by kernel_rfl)) rfl ⟨rfl, ?_⟩
   exact below3 (Qm HB.out E3.out.b) (by have := HGB.out; have := HGR.out; omega) _ _ _
end Go.Proofs.Ythgedejnpgcacaa.V
namespace Go.Proofs.Ythgedejnpgcacaa.V
open Go.RowKit Go.Proofs.YthgedejnpgcacaaW.PrintWords Go.Proofs.YthgedejnpgcacaaW.PrintLast Go.Proofs.YthgedejnpgcacaaW.PrintMore
set_option linter.unusedVariables false
set_option linter.unusedSimpArgs false
attribute [local go_sem high] eq54h
set_option maxHeartbeats 4000000 in
set_option maxRecDepth 100000 in
theorem Qa1.calls_s5 (A0_0 : Option Addr) (c0_0 : Nat) (l0_0 : List S51) (A0_1 : Option Addr) (c0_1 : Nat) (l0_1 : List S56) (a1 : Int) (A2 : Option Addr) (c2 : Nat) (l2 : List S45) (r1 r2 r3 : Bool) (w : World)
    (hr0_0 : Kd.C k51 w A0_0 l0_0.length l0_0) (hc0_0 : l0_0.length ≤ c0_0) (hr0_1 : Kd.C k56 w A0_1 l0_1.length l0_1) (hc0_1 : l0_1.length ≤ c0_1) (hr2 : Kd.C k45 w A2 l2.length l2) (hc2 : l2.length ≤ c2)
    (hs : Qa ((Ql l0_1 a1).f0 = 5)) (h : Qa1.f l0_0 l0_1 a1 l2 = some (r1, r2, r3)) :
    Calls Try.prog 31 #[.agg #[.slice A0_0 l0_0.length c0_0, .slice A0_1 l0_1.length c0_1], .int .i64 a1, .slice A2 l2.length c2] w fun e w' => e = .returned (.agg #[.bool r1, .bool r2, .bool r3]) ∧ Below w.heap.size w w' := by
  unfold Qa1.f at h
  split at h
  case isFalse => exact absurd h (by simp)
  case isTrue hfit =>
  obtain ⟨p2, p3, hfit⟩ := hfit
  have H : Qa (Qa1.p l0_0 l2 (Ql l0_1 a1) = (r1, r2, r3)) := ⟨Option.some.inj h⟩
  have HF := Qa.mk hfit
  clear h hfit
  have hu25 := Try.underlying25
  have hu45 := Try.underlying45
  have hu56 := Try.underlying56
  have hu51 := Try.underlying51
  have hu54 := Try.underlying54
  have HB := Qa.mk (Qd (Qd (Below.refl w.heap.size w) (.cells #[.slice A0_0 l0_0.length c0_0, .slice A0_1 l0_1.length c0_1] 25)) (.cells #[.bool false, .bool false, .bool false] 45))
  have HG := Qa.mk (Qi (Qf1 w (.cells #[.slice A0_0 l0_0.length c0_0, .slice A0_1 l0_1.length c0_1] 25)) (.cells #[.bool false, .bool false, .bool false] 45))
  have HR := Qa.mk (Qf1 (w.alloc (.cells #[.slice A0_0 l0_0.length c0_0, .slice A0_1 l0_1.length c0_1] 25)) (.cells #[.bool false, .bool false, .bool false] 45))
  have hsz : ((w.alloc (.cells #[.slice A0_0 l0_0.length c0_0, .slice A0_1 l0_1.length c0_1] 25)).alloc (.cells #[.bool false, .bool false, .bool false] 45)).heap.size = w.heap.size + 1 + 1 := by rw [Qt1, Qt1]
  rw [Qt1] at HR
  have HC0 := Qa.mk (Kd.Qn hr0_0 HB.out)
  have HC1 := Qa.mk (Kd.Qn hr0_1 HB.out)
  have HC2 := Qa.mk (Kd.Qn hr2 HB.out)
  have HW := Qa.mk hsz
  clear hr0_0 hr0_1 hr2 hsz
  go_enter Try.func31, Try.ntmps31
  go_upto_region 1 with (fail)
  generalize ((w.alloc (.cells #[.slice A0_0 l0_0.length c0_0, .slice A0_1 l0_1.length c0_1] 25)).alloc (.cells #[.bool false, .bool false, .bool false] 45)) = W1 at HB HG HR HC0 HC1 HC2 HW ⊢
  have g0 : W1.cell? ⟨w.heap.size, 0, none⟩ = some (.slice A0_0 l0_0.length c0_0) := (Qb HG.out 0).trans rfl
  have g1 : W1.cell? ⟨w.heap.size, 1, none⟩ = some (.slice A0_1 l0_1.length c0_1) := (Qb HG.out 1).trans rfl
  obtain ⟨ad, Ak, ck, e, k0, k1, k2, k3, k4, k5, k6, hlk, hCk⟩ := at_T56 HC1.out a1 p2 p3
  cases e
  have HCk := Qa.mk hCk
  have HLk := Qa.mk hlk
  clear hCk hlk HC1
  replace p2 := eq_true p2
  replace p3 := eq_true p3
  go_upto_region 3 with (fail)
  generalize Ql l0_1 a1 = nd at *
  obtain ⟨gx, hgx⟩ : ∃ gx, gx = W1.heap.size := ⟨_, rfl⟩
  obtain ⟨go, hgo⟩ : ∃ go, go = gx + 1 := ⟨_, rfl⟩
  obtain ⟨gb, hgb⟩ : ∃ gb, gb = w.heap.size := ⟨_, rfl⟩
  obtain ⟨gr, hgr⟩ : ∃ gr, gr = gb + 1 := ⟨_, rfl⟩
  rw [← hgb] at HW HG HR
  rw [← hgr] at HR
  have E2 : Qa (Env11 W1 gx go #[.int .i64 nd.f0, .slice Ak nd.f1.length ck, .int .i64 nd.f2, .int .u64 nd.f3.f0, .int .u64 nd.f3.f1, .int .u64 nd.f3.f2, .int .u64 nd.f3.f3] ((W1.alloc (.cells #[.int .i64 nd.f0, .slice Ak nd.f1.length ck, .int .i64 nd.f2, .int .u64 nd.f3.f0, .int .u64 nd.f3.f1, .int .u64 nd.f3.f2, .int .u64 nd.f3.f3] 56)).alloc (.cells #[.bool false, .bool false, .bool false] 45)) false false false) := ⟨by rw [hgx]; exact Qi (Qf1 W1 (.cells #[.int .i64 nd.f0, .slice Ak nd.f1.length ck, .int .i64 nd.f2, .int .u64 nd.f3.f0, .int .u64 nd.f3.f1, .int .u64 nd.f3.f2, .int .u64 nd.f3.f3] 56)) (.cells #[.bool false, .bool false, .bool false] 45), by rw [hgo, hgx]; have := Qf1 (W1.alloc (.cells #[.int .i64 nd.f0, .slice Ak nd.f1.length ck, .int .i64 nd.f2, .int .u64 nd.f3.f0, .int .u64 nd.f3.f1, .int .u64 nd.f3.f2, .int .u64 nd.f3.f3] 56)) (.cells #[.bool false, .bool false, .bool false] 45); rw [Qt1] at this; exact this, Qd (Qd (Below.refl _ _) _) _⟩
  have HLT := Qa.mk (show W1.heap.size ≤ go ∧ gx ≠ go ∧ gb < W1.heap.size ∧ gr < W1.heap.size ∧ gr ≠ go by have := HW.out; omega)
  have HGB := Qa.mk hgb
  have HGR := Qa.mk hgr
  rw [← hgx, ← hgb, ← hgr, ← hgo]
  generalize (W1.alloc (.cells #[.int .i64 nd.f0, .slice Ak nd.f1.length ck, .int .i64 nd.f2, .int .u64 nd.f3.f0, .int .u64 nd.f3.f1, .int .u64 nd.f3.f2, .int .u64 nd.f3.f3] 56)).alloc (.cells #[.bool false, .bool false, .bool false] 45) = W2 at E2 ⊢
  clear k0 k1 k2 k3 k4 k5 k6 g0 g1 HW hgx hgo hgb hgr
  have x0 := (Qb E2.out.x 0).trans rfl
  go_upto_block 0 with fail
  go_cut [] (fun wc => ∃ n e f, Qa ((n, e, f) = (r1, r2, r3)) ∧ Qa (Env11 W1 gx go #[.int .i64 nd.f0, .slice Ak nd.f1.length ck, .int .i64 nd.f2, .int .u64 nd.f3.f0, .int .u64 nd.f3.f1, .int .u64 nd.f3.f2, .int .u64 nd.f3.f3] wc n e f))
  case first =>
   clear x0
   have h := H.out
   clear H
   unfold Qa1.p at h
   have c0 : ¬ nd.f0 = 0 := by have := hs.out; omega
   rw [if_neg c0] at h
   have b0 : (nd.f0 == 0) = false := beq_eq_false_iff_ne.2 c0
   go_upto_region 6 with (fail)
   clear b0
   have c1 : ¬ nd.f0 = 1 := by have := hs.out; omega
   rw [if_neg c1] at h
   have b1 : (nd.f0 == 1) = false := beq_eq_false_iff_ne.2 c1
   go_upto_region 9 with (fail)
   clear b1
   have c2 : ¬ nd.f0 = 2 := by have := hs.out; omega
   rw [if_neg c2] at h
   have b2 : (nd.f0 == 2) = false := beq_eq_false_iff_ne.2 c2
   go_upto_region 11 with (fail)
   clear b2
   have c3 : ¬ nd.f0 = 3 := by have := hs.out; omega
   rw [if_neg c3] at h
   have b3 : (nd.f0 == 3) = false := beq_eq_false_iff_ne.2 c3
   go_upto_region 28 with (fail)
   clear b3
   have c4 : ¬ nd.f0 = 4 := by have := hs.out; omega
   rw [if_neg c4] at h
   have b4 : (nd.f0 == 4) = false := beq_eq_false_iff_ne.2 c4
   go_upto_region 42 with (fail)
   clear b4
   have c5 : nd.f0 = 5 := by have := hs.out; omega
   rw [if_pos c5] at h
   have b5 : (nd.f0 == 5) = true := beq_iff_eq.2 c5
   have q9 : (0 : Int) < (nd.f1.length : Int) := by have := List.length_pos_iff.2 (HF.out.2.1 (by omega) (by omega)); omega
   obtain ⟨q2, q3⟩ := HF.out.1 (rd nd.f1 0) (rd_memh nd.f1 0 (Int.le_refl 0) q9)
   clear c0 c1 c2 c3 c4 c5
   have HQ2 := Qa.mk q2
   replace q2 := eq_true q2
   have HQ3 := Qa.mk q3
   replace q3 := eq_true q3
   have HQ9 := Qa.mk q9
   replace q9 := eq_true q9
   have q9n : (0 < nd.f1.length) = True := eq_true (by have := HQ9.out; omega)
   obtain ⟨f0, f1, f2, hfx⟩ : ∃ f0 f1 f2, rd_T45 l2 (rd nd.f1 0) = ⟨f0, f1, f2⟩ := ⟨_, _, _, rfl⟩
   rw [hfx] at h
   dsimp only at h
   have HFX := Qa.mk hfx
   clear hfx
   obtain ⟨ad1, e1, y0⟩ := Kd.at_int (Kd.Qn HCk.out E2.out.b) 0 (Int.le_refl 0) HQ9.out
   cases e1
   obtain ⟨ad2, e2, u0, u1, u2⟩ := at_T45 (Kd.Qn HC2.out E2.out.b) (rd nd.f1 0) HQ2.out HQ3.out
   cases e2
   replace y0 : W2.cell? ad1 = some (.int .i64 (rd nd.f1 0)) := by simpa [Addr.add] using y0
   rw [HFX.out] at u0 u1 u2
   dsimp only at u0 u1 u2
   have x0 : W2.cell? ⟨gx, 0, none⟩ = some (.int .i64 nd.f0) := (Qb E2.out.x 0).trans rfl
   have x1 := (Qb E2.out.x 1).trans rfl
   have o0 : W2.cell? ⟨go, 0, none⟩ = some (.bool false) := (Qb E2.out.o 0).trans rfl
   have z0 : W2.frozen? ⟨go, 0, none⟩ = false := Qc E2.out.o 0
   go_upto_region 44 with (fail)
   have EV0 := Qa.mk ((E2.out).put0 HLT.out.1 HLT.out.2.1 f2)
   generalize W2.setCell ⟨go, 0, none⟩ (.bool f2) = V0 at EV0 ⊢
   clear x0 x1 y0 u0 u1 u2 o0 z0
   obtain ⟨ad1, e1, y0⟩ := Kd.at_int (Kd.Qn HCk.out EV0.out.b) 0 (Int.le_refl 0) HQ9.out
   cases e1
   obtain ⟨ad2, e2, u0, u1, u2⟩ := at_T45 (Kd.Qn HC2.out EV0.out.b) (rd nd.f1 0) HQ2.out HQ3.out
   cases e2
   replace y0 : V0.cell? ad1 = some (.int .i64 (rd nd.f1 0)) := by simpa [Addr.add] using y0
   rw [HFX.out] at u0 u1 u2
   dsimp only at u0 u1 u2
   have x0 : V0.cell? ⟨gx, 0, none⟩ = some (.int .i64 nd.f0) := (Qb EV0.out.x 0).trans rfl
   have x1 := (Qb EV0.out.x 1).trans rfl
   have o1 : V0.cell? ⟨go, 1, none⟩ = some (.bool false) := (Qb EV0.out.o 1).trans rfl
   have z1 : V0.frozen? ⟨go, 1, none⟩ = false := Qc EV0.out.o 1
   go_wp2
   go_meet
   exact ⟨_, _, _, ⟨h⟩, ⟨(EV0.out).put1 HLT.out.1 HLT.out.2.1 f1⟩⟩
  case rest =>
   clear x0
   obtain ⟨n, e, f, HE, E3⟩ := hcut
   obtain ⟨rfl, rfl, rfl⟩ : n = r1 ∧ e = r2 ∧ f = r3 := by simpa using HE.out
   have o0 : wc.cell? ⟨go, 0, none⟩ = some (.bool n) := (Qb E3.out.o 0).trans rfl
   have r0 : wc.cell? ⟨gr, 0, none⟩ = some (.bool false) := (Qb (Qh HR.out E3.out.b) 0).trans rfl
   have z0 : wc.frozen? ⟨gr, 0, none⟩ = false := Qc (Qh HR.out E3.out.b) 0
   have o1 : wc.cell? ⟨go, 1, none⟩ = some (.bool e) := (Qb E3.out.o 1).trans rfl
   have r1 : wc.cell? ⟨gr, 1, none⟩ = some (.bool false) := (Qb (Qh HR.out E3.out.b) 1).trans rfl
   have z1 : wc.frozen? ⟨gr, 1, none⟩ = false := Qc (Qh HR.out E3.out.b) 1
   have o2 : wc.cell? ⟨go, 2, none⟩ = some (.bool f) := (Qb E3.out.o 2).trans rfl
   have r2 : wc.cell? ⟨gr, 2, none⟩ = some (.bool false) := (Qb (Qh HR.out E3.out.b) 2).trans rfl
   have z2 : wc.frozen? ⟨gr, 2, none⟩ = false := Qc (Qh HR.out E3.out.b) 2
   go_wp2
   refine bodyPost_ret (results_cell_row rfl _ _ gr 45 #[.bool n, .bool e, .bool f] (0, 0) _ rfl (blk3 (Qh HR.out E3.out.b) _ _ _) Try.underlying45 rfl (by kernel_rfl)) rfl ⟨rfl, ?_⟩
   exact below3 (Qm HB.out E3.out.b) (by have := HGB.out; have := HGR.out; omega) _ _ _
end Go.Proofs.Ythgedejnpgcacaa.V
namespace Go.Proofs.Ythgedejnpgcacaa.V
open Go.RowKit Go.Proofs.YthgedejnpgcacaaW.PrintWords Go.Proofs.YthgedejnpgcacaaW.PrintLast Go.Proofs.YthgedejnpgcacaaW.PrintMore
set_option linter.unusedVariables false
set_option linter.unusedSimpArgs false
attribute [local go_sem high] eq54h
set_option maxHeartbeats 4000000 in
set_option maxRecDepth 100000 in
theorem Qa1.calls_s6 (A0_0 : Option Addr) (c0_0 : Nat) (l0_0 : List S51) (A0_1 : Option Addr) (c0_1 : Nat) (l0_1 : List S56) (a1 : Int) (A2 : Option Addr) (c2 : Nat) (l2 : List S45) (r1 r2 r3 : Bool) (w : World)
    (hr0_0 : Kd.C k51 w A0_0 l0_0.length l0_0) (hc0_0 : l0_0.length ≤ c0_0) (hr0_1 : Kd.C k56 w A0_1 l0_1.length l0_1) (hc0_1 : l0_1.length ≤ c0_1) (hr2 : Kd.C k45 w A2 l2.length l2) (hc2 : l2.length ≤ c2)
    (hs : Qa ((Ql l0_1 a1).f0 = 6)) (h : Qa1.f l0_0 l0_1 a1 l2 = some (r1, r2, r3)) :
    Calls Try.prog 31 #[.agg #[.slice A0_0 l0_0.length c0_0, .slice A0_1 l0_1.length c0_1], .int .i64 a1, .slice A2 l2.length c2] w fun e w' => e = .returned (.agg #[.bool r1, .bool r2, .bool r3]) ∧ Below w.heap.size w w' := by
  unfold Qa1.f at h
  split at h
  case isFalse => exact absurd h (by simp)
  case isTrue hfit =>
  obtain ⟨p2, p3, hfit⟩ := hfit
  have H : Qa (Qa1.p l0_0 l2 (Ql l0_1 a1) = (r1, r2, r3)) := ⟨Option.some.inj h⟩
  have HF := Qa.mk hfit
  clear h hfit
  have hu25 := Try.underlying25
  have hu45 := Try.underlying45
  have hu56 := Try.underlying56
  have hu51 := Try.underlying51
  have hu54 := Try.underlying54
  have HB := Qa.mk (Qd (Qd (Below.refl w.heap.size w) (.cells #[.slice A0_0 l0_0.length c0_0, .slice A0_1 l0_1.length c0_1] 25)) (.cells #[.bool false, .bool false, .bool false] 45))
  have HG := Qa.mk (Qi (Qf1 w (.cells #[.slice A0_0 l0_0.length c0_0, .slice A0_1 l0_1.length c0_1] 25)) (.cells #[.bool false, .bool false, .bool false] 45))
  have HR := Qa.mk (Qf1 (w.alloc (.cells #[.slice A0_0 l0_0.length c0_0, .slice A0_1 l0_1.length c0_1] 25)) (.cells #[.bool false, .bool false, .bool false] 45))
  have hsz : ((w.alloc (.cells #[.slice A0_0 l0_0.length c0_0, .slice A0_1 l0_1.length c0_1] 25)).alloc (.cells #[.bool false, .bool false, .bool false] 45)).heap.size = w.heap.size + 1 + 1 := by rw [Qt1, Qt1]
  rw [Qt1] at HR
  have HC0 := Qa.mk (Kd.Qn hr0_0 HB.out)
  have HC1 := Qa.mk (Kd.Qn hr0_1 HB.out)
  have HC2 := Qa.mk (Kd.Qn hr2 HB.out)
  have HW := Qa.mk hsz
  clear hr0_0 hr0_1 hr2 hsz
  go_enter Try.func31, Try.ntmps31
  go_upto_region 1 with (fail)
  generalize ((w.alloc (.cells #[.slice A0_0 l0_0.length c0_0, .slice A0_1 l0_1.length c0_1] 25)).alloc (.cells #[.bool false, .bool false, .bool false] 45)) = W1 at HB HG HR HC0 HC1 HC2 HW ⊢
  have g0 : W1.cell? ⟨w.heap.size, 0, none⟩ = some (.slice A0_0 l0_0.length c0_0) := (Qb HG.out 0).trans rfl
  have g1 : W1.cell? ⟨w.heap.size, 1, none⟩ = some (.slice A0_1 l0_1.length c0_1) := (Qb HG.out 1).trans rfl
  obtain ⟨ad, Ak, ck, e, k0, k1, k2, k3, k4, k5, k6, hlk, hCk⟩ := at_T56 HC1.out a1 p2 p3
  cases e
  have HCk := Qa.mk hCk
  have HLk := Qa.mk hlk
  clear hCk hlk HC1
  replace p2 := eq_true p2
  replace p3 := eq_true p3
  go_upto_region 3 with (fail)
  generalize Ql l0_1 a1 = nd at *
  obtain ⟨gx, hgx⟩ : ∃ gx, gx = W1.heap.size := ⟨_, rfl⟩
  obtain ⟨go, hgo⟩ : ∃ go, go = gx + 1 := ⟨_, rfl⟩
  obtain ⟨gb, hgb⟩ : ∃ gb, gb = w.heap.size := ⟨_, rfl⟩
  obtain ⟨gr, hgr⟩ : ∃ gr, gr = gb + 1 := ⟨_, rfl⟩
  rw [← hgb] at HW HG HR
  rw [← hgr] at HR
  have E2 : Qa (Env11 W1 gx go #[.int .i64 nd.f0, .slice Ak nd.f1.length ck, .int .i64 nd.f2, .int .u64 nd.f3.f0, .int .u64 nd.f3.f1, .int .u64 nd.f3.f2, .int .u64 nd.f3.f3] ((W1.alloc (.cells #[.int .i64 nd.f0, .slice Ak nd.f1.length ck, .int .i64 nd.f2, .int .u64 nd.f3.f0, .int .u64 nd.f3.f1, .int .u64 nd.f3.f2, .int .u64 nd.f3.f3] 56)).alloc (.cells #[.bool false, .bool false, .bool false] 45)) false false false) := ⟨by rw [hgx]; exact Qi (Qf1 W1 (.cells #[.int .i64 nd.f0, .slice Ak nd.f1.length ck, .int .i64 nd.f2, .int .u64 nd.f3.f0, .int .u64 nd.f3.f1, .int .u64 nd.f3.f2, .int .u64 nd.f3.f3] 56)) (.cells #[.bool false, .bool false, .bool false] 45), by rw [hgo, hgx]; have := Qf1 (W1.alloc (.cells #[.int .i64 nd.f0, .slice Ak nd.f1.length ck, .int .i64 nd.f2, .int .u64 nd.f3.f0, .int .u64 nd.f3.f1, .int .u64 nd.f3.f2, .int .u64 nd.f3.f3] 56)) (.cells #[.bool false, .bool false, .bool false] 45); rw [Qt1] at this; exact this, Qd (Qd (Below.refl _ _) _) _⟩
  have HLT := Qa.mk (show W1.heap.size ≤ go ∧ gx ≠ go ∧ gb < W1.heap.size ∧ gr < W1.heap.size ∧ gr ≠ go by have := HW.out; omega)
  have HGB := Qa.mk hgb
  have HGR := Qa.mk hgr
  rw [← hgx, ← hgb, ← hgr, ← hgo]
  generalize (W1.alloc (.cells #[.int .i64 nd.f0, .slice Ak nd.f1.length ck, .int .i64 nd.f2, .int .u64 nd.f3.f0, .int .u64 nd.f3.f1, .int .u64 nd.f3.f2, .int .u64 nd.f3.f3] 56)).alloc (.cells #[.bool false, .bool false, .bool false] 45) = W2 at E2 ⊢
  clear k0 k1 k2 k3 k4 k5 k6 g0 g1 HW hgx hgo hgb hgr
  have x0 := (Qb E2.out.x 0).trans rfl
  go_upto_block 0 with fail
  go_cut [] (fun wc => ∃ n e f, Qa ((n, e, f) = (r1, r2, r3)) ∧ Qa (Env11 W1 gx go #[.int .i64 nd.f0, .slice Ak nd.f1.length ck, .int .i64 nd.f2, .int .u64 nd.f3.f0, .int .u64 nd.f3.f1, .int .u64 nd.f3.f2, .int .u64 nd.f3.f3] wc n e f))
  case first =>
   clear x0
   have h := H.out
   clear H
   unfold Qa1.p at h
   have c0 : ¬ nd.f0 = 0 := by have := hs.out; omega
   rw [if_neg c0] at h
   have b0 : (nd.f0 == 0) = false := beq_eq_false_iff_ne.2 c0
   go_upto_region 6 with (fail)
   clear b0
   have c1 : ¬ nd.f0 = 1 := by have := hs.out; omega
   rw [if_neg c1] at h
   have b1 : (nd.f0 == 1) = false := beq_eq_false_iff_ne.2 c1
   go_upto_region 9 with (fail)
   clear b1
   have c2 : ¬ nd.f0 = 2 := by have := hs.out; omega
   rw [if_neg c2] at h
   have b2 : (nd.f0 == 2) = false := beq_eq_false_iff_ne.2 c2
   go_upto_region 11 with (fail)
   clear b2
   have c3 : ¬ nd.f0 = 3 := by have := hs.out; omega
   rw [if_neg c3] at h
   have b3 : (nd.f0 == 3) = false := beq_eq_false_iff_ne.2 c3
   go_upto_region 28 with (fail)
   clear b3
   have c4 : ¬ nd.f0 = 4 := by have := hs.out; omega
   rw [if_neg c4] at h
   have b4 : (nd.f0 == 4) = false := beq_eq_false_iff_ne.2 c4
   go_upto_region 42 with (fail)
   clear b4
   have c5 : ¬ nd.f0 = 5 := by have := hs.out; omega
   rw [if_neg c5] at h
   have b5 : (nd.f0 == 5) = false := beq_eq_false_iff_ne.2 c5
   go_upto_region 45 with (fail)
   clear b5
   have c6 : nd.f0 = 6 := by have := hs.out; omega
   rw [if_pos c6] at h
   have b6 : (nd.f0 == 6) = true := beq_iff_eq.2 c6
   have q9 : (0 : Int) < (nd.f1.length : Int) := by have := List.length_pos_iff.2 (HF.out.2.1 (by omega) (by omega)); omega
   obtain ⟨q2, q3⟩ := HF.out.1 (rd nd.f1 0) (rd_memh nd.f1 0 (Int.le_refl 0) q9)
   clear c0 c1 c2 c3 c4 c5 c6
   have HQ2 := Qa.mk q2
   replace q2 := eq_true q2
   have HQ3 := Qa.mk q3
   replace q3 := eq_true q3
   have HQ9 := Qa.mk q9
   replace q9 := eq_true q9
   have q9n : (0 < nd.f1.length) = True := eq_true (by have := HQ9.out; omega)
   obtain ⟨f0, f1, f2, hfx⟩ : ∃ f0 f1 f2, rd_T45 l2 (rd nd.f1 0) = ⟨f0, f1, f2⟩ := ⟨_, _, _, rfl⟩
   rw [hfx] at h
   dsimp only at h
   have HFX := Qa.mk hfx
   clear hfx
   cases f0 with
   | true =>
     obtain ⟨ad1, e1, y0⟩ := Kd.at_int (Kd.Qn HCk.out E2.out.b) 0 (Int.le_refl 0) HQ9.out
     cases e1
     obtain ⟨ad2, e2, u0, u1, u2⟩ := at_T45 (Kd.Qn HC2.out E2.out.b) (rd nd.f1 0) HQ2.out HQ3.out
     cases e2
     replace y0 : W2.cell? ad1 = some (.int .i64 (rd nd.f1 0)) := by simpa [Addr.add] using y0
     rw [HFX.out] at u0 u1 u2
     dsimp only at u0 u1 u2
     have x0 : W2.cell? ⟨gx, 0, none⟩ = some (.int .i64 nd.f0) := (Qb E2.out.x 0).trans rfl
     have x1 := (Qb E2.out.x 1).trans rfl
     have o0 : W2.cell? ⟨go, 0, none⟩ = some (.bool false) := (Qb E2.out.o 0).trans rfl
     have z0 : W2.frozen? ⟨go, 0, none⟩ = false := Qc E2.out.o 0
     go_upto_region 47 with (fail)
     have EV0 := Qa.mk ((E2.out).put0 HLT.out.1 HLT.out.2.1 f2)
     generalize W2.setCell ⟨go, 0, none⟩ (.bool f2) = V0 at EV0 ⊢
     clear x0 x1 y0 u0 u1 u2 o0 z0
     obtain ⟨ad1, e1, y0⟩ := Kd.at_int (Kd.Qn HCk.out EV0.out.b) 0 (Int.le_refl 0) HQ9.out
     cases e1
     obtain ⟨ad2, e2, u0, u1, u2⟩ := at_T45 (Kd.Qn HC2.out EV0.out.b) (rd nd.f1 0) HQ2.out HQ3.out
     cases e2
     replace y0 : V0.cell? ad1 = some (.int .i64 (rd nd.f1 0)) := by simpa [Addr.add] using y0
     rw [HFX.out] at u0 u1 u2
     dsimp only at u0 u1 u2
     have x0 : V0.cell? ⟨gx, 0, none⟩ = some (.int .i64 nd.f0) := (Qb EV0.out.x 0).trans rfl
     have x1 := (Qb EV0.out.x 1).trans rfl
     have o1 : V0.cell? ⟨go, 1, none⟩ = some (.bool false) := (Qb EV0.out.o 1).trans rfl
     have z1 : V0.frozen? ⟨go, 1, none⟩ = false := Qc EV0.out.o 1
     go_upto_region 48 with (fail)
     have EV1 := Qa.mk ((EV0.out).put1 HLT.out.1 HLT.out.2.1 f1)
     generalize V0.setCell ⟨go, 1, none⟩ (.bool f1) = V1 at EV1 ⊢
     clear x0 x1 y0 u0 u1 u2 o1 z1
     obtain ⟨ad1, e1, y0⟩ := Kd.at_int (Kd.Qn HCk.out EV1.out.b) 0 (Int.le_refl 0) HQ9.out
     cases e1
     obtain ⟨ad2, e2, u0, u1, u2⟩ := at_T45 (Kd.Qn HC2.out EV1.out.b) (rd nd.f1 0) HQ2.out HQ3.out
     cases e2
     replace y0 : V1.cell? ad1 = some (.int .i64 (rd nd.f1 0)) := by simpa [Addr.add] using y0
     rw [HFX.out] at u0 u1 u2
     dsimp only at u0 u1 u2
     have x0 : V1.cell? ⟨gx, 0, none⟩ = some (.int .i64 nd.f0) := (Qb EV1.out.x 0).trans rfl
     have x1 := (Qb EV1.out.x 1).trans rfl
     have o2 : V1.cell? ⟨go, 2, none⟩ = some (.bool false) := (Qb EV1.out.o 2).trans rfl
     have z2 : V1.frozen? ⟨go, 2, none⟩ = false := Qc EV1.out.o 2
     go_wp2
     go_meet
     exact ⟨_, _, _, ⟨h⟩, ⟨(EV1.out).put2 HLT.out.1 HLT.out.2.1 f2⟩⟩
   | false =>
     obtain ⟨ad1, e1, y0⟩ := Kd.at_int (Kd.Qn HCk.out E2.out.b) 0 (Int.le_refl 0) HQ9.out
     cases e1
     obtain ⟨ad2, e2, u0, u1, u2⟩ := at_T45 (Kd.Qn HC2.out E2.out.b) (rd nd.f1 0) HQ2.out HQ3.out
     cases e2
     replace y0 : W2.cell? ad1 = some (.int .i64 (rd nd.f1 0)) := by simpa [Addr.add] using y0
     rw [HFX.out] at u0 u1 u2
     dsimp only at u0 u1 u2
     have x0 : W2.cell? ⟨gx, 0, none⟩ = some (.int .i64 nd.f0) := (Qb E2.out.x 0).trans rfl
     have x1 := (Qb E2.out.x 1).trans rfl
     have o0 : W2.cell? ⟨go, 0, none⟩ = some (.bool false) := (Qb E2.out.o 0).trans rfl
     have z0 : W2.frozen? ⟨go, 0, none⟩ = false := Qc E2.out.o 0
     go_upto_region 47 with (fail)
     have EV0 := Qa.mk ((E2.out).put0 HLT.out.1 HLT.out.2.1 false)
     generalize W2.setCell ⟨go, 0, none⟩ (.bool false) = V0 at EV0 ⊢
     clear x0 x1 y0 u0 u1 u2 o0 z0
     obtain ⟨ad1, e1, y0⟩ := Kd.at_int (Kd.Qn HCk.out EV0.out.b) 0 (Int.le_refl 0) HQ9.out
     cases e1
     obtain ⟨ad2, e2, u0, u1, u2⟩ := at_T45 (Kd.Qn HC2.out EV0.out.b) (rd nd.f1 0) HQ2.out HQ3.out
     cases e2
     replace y0 : V0.cell? ad1 = some (.int .i64 (rd nd.f1 0)) := by simpa [Addr.add] using y0
     rw [HFX.out] at u0 u1 u2
     dsimp only at u0 u1 u2
     have x0 : V0.cell? ⟨gx, 0, none⟩ = some (.int .i64 nd.f0) := (Qb EV0.out.x 0).trans rfl
     have x1 := (Qb EV0.out.x 1).trans rfl
     have o1 : V0.cell? ⟨go, 1, none⟩ = some (.bool false) := (Qb EV0.out.o 1).trans rfl
     have z1 : V0.frozen? ⟨go, 1, none⟩ = false := Qc EV0.out.o 1
     go_upto_region 48 with (fail)
     have EV1 := Qa.mk ((EV0.out).put1 HLT.out.1 HLT.out.2.1 f1)
     generalize V0.setCell ⟨go, 1, none⟩ (.bool f1) = V1 at EV1 ⊢
     clear x0 x1 y0 u0 u1 u2 o1 z1
     obtain ⟨ad1, e1, y0⟩ := Kd.at_int (Kd.Qn HCk.out EV1.out.b) 0 (Int.le_refl 0) HQ9.out
     cases e1
     obtain ⟨ad2, e2, u0, u1, u2⟩ := at_T45 (Kd.Qn HC2.out EV1.out.b) (rd nd.f1 0) HQ2.out HQ3.out
     cases e2
     replace y0 : V1.cell? ad1 = some (.int .i64 (rd nd.f1 0)) := by simpa [Addr.add] using y0
     rw [HFX.out] at u0 u1 u2
     dsimp only at u0 u1 u2
     have x0 : V1.cell? ⟨gx, 0, none⟩ = some (.int .i64 nd.f0) := (Qb EV1.out.x 0).trans rfl
     have x1 := (Qb EV1.out.x 1).trans rfl
     have o2 : V1.cell? ⟨go, 2, none⟩ = some (.bool false) := (Qb EV1.out.o 2).trans rfl
     have z2 : V1.frozen? ⟨go, 2, none⟩ = false := Qc EV1.out.o 2
     go_wp2
     go_meet
     exact ⟨_, _, _, ⟨h⟩, ⟨(EV1.out).put2 HLT.out.1 HLT.out.2.1 f2⟩⟩
  case rest =>
   clear x0
   obtain ⟨n, e, f, HE, E3⟩ := hcut
   obtain ⟨rfl, rfl, rfl⟩ : n = r1 ∧ e = r2 ∧ f = r3 := by simpa using HE.out
   have o0 : wc.cell? ⟨go, 0, none⟩ = some (.bool n) := (Qb E3.out.o 0).trans rfl
   have r0 : wc.cell? ⟨gr, 0, none⟩ = some (.bool false) := (Qb (Qh HR.out E3.out.b) 0).trans rfl
   have z0 : wc.frozen? ⟨gr, 0, none⟩ = false := Qc (Qh HR.out E3.out.b) 0
   have o1 : wc.cell? ⟨go, 1, none⟩ = some (.bool e) := (Qb E3.out.o 1).trans rfl
   have r1 : wc.cell? ⟨gr, 1, none⟩ = some (.bool false) := (Qb (Qh HR.out E3.out.b) 1).trans rfl
   have z1 : wc.frozen? ⟨gr, 1, none⟩ = false := Qc (Qh HR.out E3.out.b) 1
   have o2 : wc.cell? ⟨go, 2, none⟩ = some (.bool f) := (Qb E3.out.o 2).trans rfl
   have r2 : wc.cell? ⟨gr, 2, none⟩ = some (.bool false) := (Qb (Qh HR.out E3.out.b) 2).trans rfl
   have z2 : wc.frozen? ⟨gr, 2, none⟩ = false := Qc (Qh HR.out E3.out.b) 2
   go_wp2
   refine bodyPost_ret (results_cell_row rfl _ _ gr 45 #[.bool n, .bool e, .bool f] (0, 0) _ rfl (blk3 (Qh HR.out E3.out.b) _ _ _) Try.underlying45 rfl (by kernel_rfl)) rfl ⟨rfl, ?_⟩
   exact below3 (Qm HB.out E3.out.b) (by have := HGB.out; have := HGR.out; omega) _ _ _
end Go.Proofs.Ythgedejnpgcacaa.V
namespace Go.Proofs.Ythgedejnpgcacaa.V
open Go.RowKit Go.Proofs.YthgedejnpgcacaaW.PrintWords Go.Proofs.YthgedejnpgcacaaW.PrintLast Go.Proofs.YthgedejnpgcacaaW.PrintMore
set_option linter.unusedVariables false
set_option linter.unusedSimpArgs false
attribute [local go_sem high] eq54h
set_option maxHeartbeats 4000000 in
set_option maxRecDepth 100000 in
theorem Qa1.calls_s7 (A0_0 : Option Addr) (c0_0 : Nat) (l0_0 : List S51) (A0_1 : Option Addr) (c0_1 : Nat) (l0_1 : List S56) (a1 : Int) (A2 : Option Addr) (c2 : Nat) (l2 : List S45) (r1 r2 r3 : Bool) (w : World)
    (hr0_0 : Kd.C k51 w A0_0 l0_0.length l0_0) (hc0_0 : l0_0.length ≤ c0_0) (hr0_1 : Kd.C k56 w A0_1 l0_1.length l0_1) (hc0_1 : l0_1.length ≤ c0_1) (hr2 : Kd.C k45 w A2 l2.length l2) (hc2 : l2.length ≤ c2)
    (hs : Qa ((Ql l0_1 a1).f0 = 7)) (h : Qa1.f l0_0 l0_1 a1 l2 = some (r1, r2, r3)) :
    Calls Try.prog 31 #[.agg #[.slice A0_0 l0_0.length c0_0, .slice A0_1 l0_1.length c0_1], .int .i64 a1, .slice A2 l2.length c2] w fun e w' => e = .returned (.agg #[.bool r1, .bool r2, .bool r3]) ∧ Below w.heap.size w w' := by
  unfold Qa1.f at h
  split at h
  case isFalse => exact absurd h (by simp)
  case isTrue hfit =>
  obtain ⟨p2, p3, hfit⟩ := hfit
  have H : Qa (Qa1.p l0_0 l2 (Ql l0_1 a1) = (r1, r2, r3)) := ⟨Option.some.inj h⟩
  have HF := Qa.mk hfit
  clear h hfit
  have hu25 := Try.underlying25
  have hu45 := Try.underlying45
  have hu56 := Try.underlying56
  have hu51 := Try.underlying51
  have hu54 := Try.underlying54
  have HB := Qa.mk (Qd (Qd (Below.refl w.heap.size w) (.cells #[.slice A0_0 l0_0.length c0_0, .slice A0_1 l0_1.length c0_1] 25)) (.cells #[.bool false, .bool false, .bool false] 45))
  have HG := Qa.mk (Qi (Qf1 w (.cells #[.slice A0_0 l0_0.length c0_0, .slice A0_1 l0_1.length c0_1] 25)) (.cells #[.bool false, .bool false, .bool false] 45))
  have HR := Qa.mk (Qf1 (w.alloc (.cells #[.slice A0_0 l0_0.length c0_0, .slice A0_1 l0_1.length c0_1] 25)) (.cells #[.bool false, .bool false, .bool false] 45))
  have hsz : ((w.alloc (.cells #[.slice A0_0 l0_0.length c0_0, .slice A0_1 l0_1.length c0_1] 25)).alloc (.cells #[.bool false, .bool false, .bool false] 45)).heap.size = w.heap.size + 1 + 1 := by rw [Qt1, Qt1]
  rw [Qt1] at HR
  have HC0 := Qa.mk (Kd.Qn hr0_0 HB.out)
  have HC1 := Qa.mk (Kd.Qn hr0_1 HB.out)
  have HC2 := Qa.mk (Kd.Qn hr2 HB.out)
  have HW := Qa.mk hsz
  clear hr0_0 hr0_1 hr2 hsz
  go_enter Try.func31, Try.ntmps31
  go_upto_region 1 with (fail)
  generalize ((w.alloc (.cells #[.slice A0_0 l0_0.length c0_0, .slice A0_1 l0_1.length c0_1] 25)).alloc (.cells #[.bool false, .bool false, .bool false] 45)) = W1 at HB HG HR HC0 HC1 HC2 HW ⊢
  have g0 : W1.cell? ⟨w.heap.size, 0, none⟩ = some (.slice A0_0 l0_0.length c0_0) := (Qb HG.out 0).trans rfl
  have g1 : W1.cell? ⟨w.heap.size, 1, none⟩ = some (.slice A0_1 l0_1.length c0_1) := (Qb HG.out 1).trans rfl
  obtain ⟨ad, Ak, ck, e, k0, k1, k2, k3, k4, k5, k6, hlk, hCk⟩ := at_T56 HC1.out a1 p2 p3
  cases e
  have HCk := Qa.mk hCk
  have HLk := Qa.mk hlk
  clear hCk hlk HC1
  replace p2 := eq_true p2
  replace p3 := eq_true p3
  go_upto_region 3 with (fail)
  generalize Ql l0_1 a1 = nd at *
  obtain ⟨gx, hgx⟩ : ∃ gx, gx = W1.heap.size := ⟨_, rfl⟩
  obtain ⟨go, hgo⟩ : ∃ go, go = gx + 1 := ⟨_, rfl⟩
  obtain ⟨gb, hgb⟩ : ∃ gb, gb = w.heap.size := ⟨_, rfl⟩
  obtain ⟨gr, hgr⟩ : ∃ gr, gr = gb + 1 := ⟨_, rfl⟩
  rw [← hgb] at HW HG HR
  rw [← hgr] at HR
  have E2 : Qa (Env11 W1 gx go #[.int .i64 nd.f0, .slice Ak nd.f1.length ck, .int .i64 nd.f2, .int .u64 nd.f3.f0, .int .u64 nd.f3.f1, .int .u64 nd.f3.f2, .int .u64 nd.f3.f3] ((W1.alloc (.cells #[.int .i64 nd.f0, .slice Ak nd.f1.length ck, .int .i64 nd.f2, .int .u64 nd.f3.f0, .int .u64 nd.f3.f1, .int .u64 nd.f3.f2, .int .u64 nd.f3.f3] 56)).alloc (.cells #[.bool false, .bool false, .bool false] 45)) false false false) := ⟨by rw [hgx]; exact Qi (Qf1 W1 (.cells #[.int .i64 nd.f0, .slice Ak nd.f1.length ck, .int .i64 nd.f2, .int .u64 nd.f3.f0, .int .u64 nd.f3.f1, .int .u64 nd.f3.f2, .int .u64 nd.f3.f3] 56)) (.cells #[.bool false, .bool false, .bool false] 45), by rw [hgo, hgx]; have := Qf1 (W1.alloc (.cells #[.int .i64 nd.f0, .slice Ak nd.f1.length ck, .int .i64 nd.f2, .int .u64 nd.f3.f0, .int .u64 nd.f3.f1, .int .u64 nd.f3.f2, .int .u64 nd.f3.f3] 56)) (.cells #[.bool false, .bool false, .bool false] 45); rw [Qt1] at this; exact this, Qd (Qd (Below.refl _ _) _) _⟩
  have HLT := Qa.mk (show W1.heap.size ≤ go ∧ gx ≠ go ∧ gb < W1.heap.size ∧ gr < W1.heap.size ∧ gr ≠ go by have := HW.out; omega)
  have HGB := Qa.mk hgb
  have HGR := Qa.mk hgr
  rw [← hgx, ← hgb, ← hgr, ← hgo]
  generalize (W1.alloc (.cells #[.int .i64 nd.f0, .slice Ak nd.f1.length ck, .int .i64 nd.f2, .int .u64 nd.f3.f0, .int .u64 nd.f3.f1, .int .u64 nd.f3.f2, .int .u64 nd.f3.f3] 56)).alloc (.cells #[.bool false, .bool false, .bool false] 45) = W2 at E2 ⊢
  clear k0 k1 k2 k3 k4 k5 k6 g0 g1 HW hgx hgo hgb hgr
  have x0 := (Qb E2.out.x 0).trans rfl
  go_upto_block 0 with fail
  go_cut [] (fun wc => ∃ n e f, Qa ((n, e, f) = (r1, r2, r3)) ∧ Qa (Env11 W1 gx go #[.int .i64 nd.f0, .slice Ak nd.f1.length ck, .int .i64 nd.f2, .int .u64 nd.f3.f0, .int .u64 nd.f3.f1, .int .u64 nd.f3.f2, .int .u64 nd.f3.f3] wc n e f))
  case first =>
   clear x0
   have h := H.out
   clear H
   unfold Qa1.p at h
   have c0 : ¬ nd.f0 = 0 := by have := hs.out; omega
   rw [if_neg c0] at h
   have b0 : (nd.f0 == 0) = false := beq_eq_false_iff_ne.2 c0
   go_upto_region 6 with (fail)
   clear b0
   have c1 : ¬ nd.f0 = 1 := by have := hs.out; omega
   rw [if_neg c1] at h
   have b1 : (nd.f0 == 1) = false := beq_eq_false_iff_ne.2 c1
   go_upto_region 9 with (fail)
   clear b1
   have c2 : ¬ nd.f0 = 2 := by have := hs.out; omega
   rw [if_neg c2] at h
   have b2 : (nd.f0 == 2) = false := beq_eq_false_iff_ne.2 c2
   go_upto_region 11 with (fail)
   clear b2
   have c3 : ¬ nd.f0 = 3 := by have := hs.out; omega
   rw [if_neg c3] at h
   have b3 : (nd.f0 == 3) = false := beq_eq_false_iff_ne.2 c3
   go_upto_region 28 with (fail)
   clear b3
   have c4 : ¬ nd.f0 = 4 := by have := hs.out; omega
   rw [if_neg c4] at h
   have b4 : (nd.f0 == 4) = false := beq_eq_false_iff_ne.2 c4
   go_upto_region 42 with (fail)
   clear b4
   have c5 : ¬ nd.f0 = 5 := by have := hs.out; omega
   rw [if_neg c5] at h
   have b5 : (nd.f0 == 5) = false := beq_eq_false_iff_ne.2 c5
   go_upto_region 45 with (fail)
   clear b5
   have c6 : ¬ nd.f0 = 6 := by have := hs.out; omega
   rw [if_neg c6] at h
   have b6 : (nd.f0 == 6) = false := beq_eq_false_iff_ne.2 c6
   go_upto_region 49 with (fail)
   clear b6
   have c7 : nd.f0 = 7 := by have := hs.out; omega
   rw [if_pos c7] at h
   have b7 : (nd.f0 == 7) = true := beq_iff_eq.2 c7
   have q9 : (0 : Int) < (nd.f1.length : Int) := by have := List.length_pos_iff.2 (HF.out.2.1 (by omega) (by omega)); omega
   obtain ⟨q2, q3⟩ := HF.out.1 (rd nd.f1 0) (rd_memh nd.f1 0 (Int.le_refl 0) q9)
   clear c0 c1 c2 c3 c4 c5 c6 c7
   have HQ2 := Qa.mk q2
   replace q2 := eq_true q2
   have HQ3 := Qa.mk q3
   replace q3 := eq_true q3
   have HQ9 := Qa.mk q9
   replace q9 := eq_true q9
   have q9n : (0 < nd.f1.length) = True := eq_true (by have := HQ9.out; omega)
   obtain ⟨f0, f1, f2, hfx⟩ : ∃ f0 f1 f2, rd_T45 l2 (rd nd.f1 0) = ⟨f0, f1, f2⟩ := ⟨_, _, _, rfl⟩
   rw [hfx] at h
   dsimp only at h
   have HFX := Qa.mk hfx
   clear hfx
   cases f0 with
   | true =>
     obtain ⟨ad1, e1, y0⟩ := Kd.at_int (Kd.Qn HCk.out E2.out.b) 0 (Int.le_refl 0) HQ9.out
     cases e1
     obtain ⟨ad2, e2, u0, u1, u2⟩ := at_T45 (Kd.Qn HC2.out E2.out.b) (rd nd.f1 0) HQ2.out HQ3.out
     cases e2
     replace y0 : W2.cell? ad1 = some (.int .i64 (rd nd.f1 0)) := by simpa [Addr.add] using y0
     rw [HFX.out] at u0 u1 u2
     dsimp only at u0 u1 u2
     have x0 : W2.cell? ⟨gx, 0, none⟩ = some (.int .i64 nd.f0) := (Qb E2.out.x 0).trans rfl
     have x1 := (Qb E2.out.x 1).trans rfl
     have o0 : W2.cell? ⟨go, 0, none⟩ = some (.bool false) := (Qb E2.out.o 0).trans rfl
     have z0 : W2.frozen? ⟨go, 0, none⟩ = false := Qc E2.out.o 0
     go_upto_region 51 with (fail)
     have EV0 := Qa.mk ((E2.out).put0 HLT.out.1 HLT.out.2.1 true)
     generalize W2.setCell ⟨go, 0, none⟩ (.bool true) = V0 at EV0 ⊢
     clear x0 x1 y0 u0 u1 u2 o0 z0
     obtain ⟨ad1, e1, y0⟩ := Kd.at_int (Kd.Qn HCk.out EV0.out.b) 0 (Int.le_refl 0) HQ9.out
     cases e1
     obtain ⟨ad2, e2, u0, u1, u2⟩ := at_T45 (Kd.Qn HC2.out EV0.out.b) (rd nd.f1 0) HQ2.out HQ3.out
     cases e2
     replace y0 : V0.cell? ad1 = some (.int .i64 (rd nd.f1 0)) := by simpa [Addr.add] using y0
     rw [HFX.out] at u0 u1 u2
     dsimp only at u0 u1 u2
     have x0 : V0.cell? ⟨gx, 0, none⟩ = some (.int .i64 nd.f0) := (Qb EV0.out.x 0).trans rfl
     have x1 := (Qb EV0.out.x 1).trans rfl
     have o1 : V0.cell? ⟨go, 1, none⟩ = some (.bool false) := (Qb EV0.out.o 1).trans rfl
     have z1 : V0.frozen? ⟨go, 1, none⟩ = false := Qc EV0.out.o 1
     go_wp2
     go_meet
     exact ⟨_, _, _, ⟨h⟩, ⟨(EV0.out).put1 HLT.out.1 HLT.out.2.1 f1⟩⟩
   | false =>
     obtain ⟨ad1, e1, y0⟩ := Kd.at_int (Kd.Qn HCk.out E2.out.b) 0 (Int.le_refl 0) HQ9.out
     cases e1
     obtain ⟨ad2, e2, u0, u1, u2⟩ := at_T45 (Kd.Qn HC2.out E2.out.b) (rd nd.f1 0) HQ2.out HQ3.out
     cases e2
     replace y0 : W2.cell? ad1 = some (.int .i64 (rd nd.f1 0)) := by simpa [Addr.add] using y0
     rw [HFX.out] at u0 u1 u2
     dsimp only at u0 u1 u2
     have x0 : W2.cell? ⟨gx, 0, none⟩ = some (.int .i64 nd.f0) := (Qb E2.out.x 0).trans rfl
     have x1 := (Qb E2.out.x 1).trans rfl
     have o0 : W2.cell? ⟨go, 0, none⟩ = some (.bool false) := (Qb E2.out.o 0).trans rfl
     have z0 : W2.frozen? ⟨go, 0, none⟩ = false := Qc E2.out.o 0
     go_upto_region 51 with (fail)
     have EV0 := Qa.mk ((E2.out).put0 HLT.out.1 HLT.out.2.1 f2)
     generalize W2.setCell ⟨go, 0, none⟩ (.bool f2) = V0 at EV0 ⊢
     clear x0 x1 y0 u0 u1 u2 o0 z0
     obtain ⟨ad1, e1, y0⟩ := Kd.at_int (Kd.Qn HCk.out EV0.out.b) 0 (Int.le_refl 0) HQ9.out
     cases e1
     obtain ⟨ad2, e2, u0, u1, u2⟩ := at_T45 (Kd.Qn HC2.out EV0.out.b) (rd nd.f1 0) HQ2.out HQ3.out
     cases e2
     replace y0 : V0.cell? ad1 = some (.int .i64 (rd nd.f1 0)) := by simpa [Addr.add] using y0
     rw [HFX.out] at u0 u1 u2
     dsimp only at u0 u1 u2
     have x0 : V0.cell? ⟨gx, 0, none⟩ = some (.int .i64 nd.f0) := (Qb EV0.out.x 0).trans rfl
     have x1 := (Qb EV0.out.x 1).trans rfl
     have o1 : V0.cell? ⟨go, 1, none⟩ = some (.bool false) := (Qb EV0.out.o 1).trans rfl
     have z1 : V0.frozen? ⟨go, 1, none⟩ = false := Qc EV0.out.o 1
     go_wp2
     go_meet
     exact ⟨_, _, _, ⟨h⟩, ⟨(EV0.out).put1 HLT.out.1 HLT.out.2.1 f1⟩⟩
  case rest =>
   clear x0
   obtain ⟨n, e, f, HE, E3⟩ := hcut
   obtain ⟨rfl, rfl, rfl⟩ : n = r1 ∧ e = r2 ∧ f = r3 := by simpa using HE.out
   have o0 : wc.cell? ⟨go, 0, none⟩ = some (.bool n) := (Qb E3.out.o 0).trans rfl
   have r0 : wc.cell? ⟨gr, 0, none⟩ = some (.bool false) := (Qb (Qh HR.out E3.out.b) 0).trans rfl
   have z0 : wc.frozen? ⟨gr, 0, none⟩ = false := Qc (Qh HR.out E3.out.b) 0
   have o1 : wc.cell? ⟨go, 1, none⟩ = some (.bool e) := (Qb E3.out.o 1).trans rfl
   have r1 : wc.cell? ⟨gr, 1, none⟩ = some (.bool false) := (Qb (Qh HR.out E3.out.b) 1).trans rfl
   have z1 : wc.frozen? ⟨gr, 1, none⟩ = false := Qc (Qh HR.out E3.out.b) 1
   have o2 : wc.cell? ⟨go, 2, none⟩ = some (.bool f) := (Qb E3.out.o 2).trans rfl
   have r2 : wc.cell? ⟨gr, 2, none⟩ = some (.bool false) := (Qb (Qh HR.out E3.out.b) 2).trans rfl
   have z2 : wc.frozen? ⟨gr, 2, none⟩ = false := Qc (Qh HR.out E3.out.b) 2
   go_wp2
   refine bodyPost_ret (results_cell_row rfl _ _ gr 45 #[.bool n, .bool e, .bool f] (0, 0) _ rfl (blk3 (Qh HR.out E3.out.b) _ _ _) Try.underlying45 rfl (by kernel_rfl)) rfl ⟨rfl, ?_⟩
   exact below3 (Qm HB.out E3.out.b) (by have := HGB.out; have := HGR.out; omega) _ _ _
end Go.Proofs.Ythgedejnpgcacaa.V
namespace Go.Proofs.Ythgedejnpgcacaa.V
open Go.RowKit Go.Proofs.YthgedejnpgcacaaW.PrintWords Go.Proofs.YthgedejnpgcacaaW.PrintLast Go.Proofs.YthgedejnpgcacaaW.PrintMore
set_option linter.unusedVariables false
set_option linter.unusedSimpArgs false
attribute [local go_sem high] eq54h
set_option maxHeartbeats 4000000 in
set_option maxRecDepth 100000 in
theorem Qa1.calls_s8 (A0_0 : Option Addr) (c0_0 : Nat) (l0_0 : List S51) (A0_1 : Option Addr) (c0_1 : Nat) (l0_1 : List S56) (a1 : Int) (A2 : Option Addr) (c2 : Nat) (l2 : List S45) (r1 r2 r3 : Bool) (w : World)
    (hr0_0 : Kd.C k51 w A0_0 l0_0.length l0_0) (hc0_0 : l0_0.length ≤ c0_0) (hr0_1 : Kd.C k56 w A0_1 l0_1.length l0_1) (hc0_1 : l0_1.length ≤ c0_1) (hr2 : Kd.C k45 w A2 l2.length l2) (hc2 : l2.length ≤ c2)
    (hs : Qa ((Ql l0_1 a1).f0 = 8)) (h : Qa1.f l0_0 l0_1 a1 l2 = some (r1, r2, r3)) :
    Calls Try.prog 31 #[.agg #[.slice A0_0 l0_0.length c0_0, .slice A0_1 l0_1.length c0_1], .int .i64 a1, .slice A2 l2.length c2] w fun e w' => e = .returned (.agg #[.bool r1, .bool r2, .bool r3]) ∧ Below w.heap.size w w' := by
  unfold Qa1.f at h
  split at h
  case isFalse => exact absurd h (by simp)
  case isTrue hfit =>
  obtain ⟨p2, p3, hfit⟩ := hfit
  have H : Qa (Qa1.p l0_0 l2 (Ql l0_1 a1) = (r1, r2, r3)) := ⟨Option.some.inj h⟩
  have HF := Qa.mk hfit
  clear h hfit
  have hu25 := Try.underlying25
  have hu45 := Try.underlying45
  have hu56 := Try.underlying56
  have hu51 := Try.underlying51
  have hu54 := Try.underlying54
  have HB := Qa.mk (Qd (Qd (Below.refl w.heap.size w) (.cells #[.slice A0_0 l0_0.length c0_0, .slice A0_1 l0_1.length c0_1] 25)) (.cells #[.bool false, .bool false, .bool false] 45))
  have HG := Qa.mk (Qi (Qf1 w (.cells #[.slice A0_0 l0_0.length c0_0, .slice A0_1 l0_1.length c0_1] 25)) (.cells #[.bool false, .bool false, .bool false] 45))
  have HR := Qa.mk (Qf1 (w.alloc (.cells #[.slice A0_0 l0_0.length c0_0, .slice A0_1 l0_1.length c0_1] 25)) (.cells #[.bool false, .bool false, .bool false] 45))
  have hsz : ((w.alloc (.cells #[.slice A0_0 l0_0.length c0_0, .slice A0_1 l0_1.length c0_1] 25)).alloc (.cells #[.bool false, .bool false, .bool false] 45)).heap.size = w.heap.size + 1 + 1 := by rw [Qt1, Qt1]
  rw [Qt1] at HR
  have HC0 := Qa.mk (Kd.Qn hr0_0 HB.out)
  have HC1 := Qa.mk (Kd.Qn hr0_1 HB.out)
  have HC2 := Qa.mk (Kd.Qn hr2 HB.out)
  have HW := Qa.mk hsz
  clear hr0_0 hr0_1 hr2 hsz
  go_enter Try.func31, Try.ntmps31
  go_upto_region 1 with (fail)
  generalize ((w.alloc (.cells #[.slice A0_0 l0_0.length c0_0, .slice A0_1 l0_1.length c0_1] 25)).alloc (.cells #[.bool false, .bool false, .bool false] 45)) = W1 at HB HG HR HC0 HC1 HC2 HW ⊢
  have g0 : W1.cell? ⟨w.heap.size, 0, none⟩ = some (.slice A0_0 l0_0.length c0_0) := (Qb HG.out 0).trans rfl
  have g1 : W1.cell? ⟨w.heap.size, 1, none⟩ = some (.slice A0_1 l0_1.length c0_1) := (Qb HG.out 1).trans rfl
  obtain ⟨ad, Ak, ck, e, k0, k1, k2, k3, k4, k5, k6, hlk, hCk⟩ := at_T56 HC1.out a1 p2 p3
  cases e
  have HCk := Qa.mk hCk
  have HLk := Qa.mk hlk
  clear hCk hlk HC1
  replace p2 := eq_true p2
  replace p3 := eq_true p3
  go_upto_region 3 with (fail)
  generalize Ql l0_1 a1 = nd at *
  obtain ⟨gx, hgx⟩ : ∃ gx, gx = W1.heap.size := ⟨_, rfl⟩
  obtain ⟨go, hgo⟩ : ∃ go, go = gx + 1 := ⟨_, rfl⟩
  obtain ⟨gb, hgb⟩ : ∃ gb, gb = w.heap.size := ⟨_, rfl⟩
  obtain ⟨gr, hgr⟩ : ∃ gr, gr = gb + 1 := ⟨_, rfl⟩
  rw [← hgb] at HW HG HR
  rw [← hgr] at HR
  have E2 : Qa (Env11 W1 gx go #[.int .i64 nd.f0, .slice Ak nd.f1.length ck, .int .i64 nd.f2, .int .u64 nd.f3.f0, .int .u64 nd.f3.f1, .int .u64 nd.f3.f2, .int .u64 nd.f3.f3] ((W1.alloc (.cells #[.int .i64 nd.f0, .slice Ak nd.f1.length ck, .int .i64 nd.f2, .int .u64 nd.f3.f0, .int .u64 nd.f3.f1, .int .u64 nd.f3.f2, .int .u64 nd.f3.f3] 56)).alloc (.cells #[.bool false, .bool false, .bool false] 45)) false false false) := ⟨by rw [hgx]; exact Qi (Qf1 W1 (.cells #[.int .i64 nd.f0, .slice Ak nd.f1.length ck, .int .i64 nd.f2, .int .u64 nd.f3.f0, .int .u64 nd.f3.f1, .int .u64 nd.f3.f2, .int .u64 nd.f3.f3] 56)) (.cells #[.bool false, .bool false, .bool false] 45), by rw [hgo, hgx]; have := Qf1 (W1.alloc (.cells #[.int .i64 nd.f0, .slice Ak nd.f1.length ck, .int .i64 nd.f2, .int .u64 nd.f3.f0, .int .u64 nd.f3.f1, .int .u64 nd.f3.f2, .int .u64 nd.f3.f3] 56)) (.cells #[.bool false, .bool false, .bool false] 45); rw [Qt1] at this; exact this, Qd (Qd (Below.refl _ _) _) _⟩
  have HLT := Qa.mk (show W1.heap.size ≤ go ∧ gx ≠ go ∧ gb < W1.heap.size ∧ gr < W1.heap.size ∧ gr ≠ go by have := HW.out; omega)
  have HGB := Qa.mk hgb
  have HGR := Qa.mk hgr
  rw [← hgx, ← hgb, ← hgr, ← hgo]
  generalize (W1.alloc (.cells #[.int .i64 nd.f0, .slice Ak nd.f1.length ck, .int .i64 nd.f2, .int .u64 nd.f3.f0, .int .u64 nd.f3.f1, .int .u64 nd.f3.f2, .int .u64 nd.f3.f3] 56)).alloc (.cells #[.bool false, .bool false, .bool false] 45) = W2 at E2 ⊢
  clear k0 k1 k2 k3 k4 k5 k6 g0 g1 HW hgx hgo hgb hgr
  have x0 := (Qb E2.out.x 0).trans rfl
  go_upto_block 0 with fail
  go_cut [] (fun wc => ∃ n e f, Qa ((n, e, f) = (r1, r2, r3)) ∧ Qa (Env11 W1 gx go #[.int .i64 nd.f0, .slice Ak nd.f1.length ck, .int .i64 nd.f2, .int .u64 nd.f3.f0, .int .u64 nd.f3.f1, .int .u64 nd.f3.f2, .int .u64 nd.f3.f3] wc n e f))
  case first =>
   clear x0
   have h := H.out
   clear H
   unfold Qa1.p at h
   have c0 : ¬ nd.f0 = 0 := by have := hs.out; omega
   rw [if_neg c0] at h
   have b0 : (nd.f0 == 0) = false := beq_eq_false_iff_ne.2 c0
   go_upto_region 6 with (fail)
   clear b0
   have c1 : ¬ nd.f0 = 1 := by have := hs.out; omega
   rw [if_neg c1] at h
   have b1 : (nd.f0 == 1) = false := beq_eq_false_iff_ne.2 c1
   go_upto_region 9 with (fail)
   clear b1
   have c2 : ¬ nd.f0 = 2 := by have := hs.out; omega
   rw [if_neg c2] at h
   have b2 : (nd.f0 == 2) = false := beq_eq_false_iff_ne.2 c2
   go_upto_region 11 with (fail)
   clear b2
   have c3 : ¬ nd.f0 = 3 := by have := hs.out; omega
   rw [if_neg c3] at h
   have b3 : (nd.f0 == 3) = false := beq_eq_false_iff_ne.2 c3
   go_upto_region 28 with (fail)
   clear b3
   have c4 : ¬ nd.f0 = 4 := by have := hs.out; omega
   rw [if_neg c4] at h
   have b4 : (nd.f0 == 4) = false := beq_eq_false_iff_ne.2 c4
   go_upto_region 42 with (fail)
   clear b4
   have c5 : ¬ nd.f0 = 5 := by have := hs.out; omega
   rw [if_neg c5] at h
   have b5 : (nd.f0 == 5) = false := beq_eq_false_iff_ne.2 c5
   go_upto_region 45 with (fail)
   clear b5
   have c6 : ¬ nd.f0 = 6 := by have := hs.out; omega
   rw [if_neg c6] at h
   have b6 : (nd.f0 == 6) = false := beq_eq_false_iff_ne.2 c6
   go_upto_region 49 with (fail)
   clear b6
   have c7 : ¬ nd.f0 = 7 := by have := hs.out; omega
   rw [if_neg c7] at h
   have b7 : (nd.f0 == 7) = false := beq_eq_false_iff_ne.2 c7
   go_upto_region 52 with (fail)
   clear b7
   have c8 : nd.f0 = 8 := by have := hs.out; omega
   rw [if_pos c8] at h
   have b8 : (nd.f0 == 8) = true := beq_iff_eq.2 c8
   have q9 : (0 : Int) < (nd.f1.length : Int) := by have := List.length_pos_iff.2 (HF.out.2.1 (by omega) (by omega)); omega
   obtain ⟨q2, q3⟩ := HF.out.1 (rd nd.f1 0) (rd_memh nd.f1 0 (Int.le_refl 0) q9)
   clear c0 c1 c2 c3 c4 c5 c6 c7 c8
   have HQ2 := Qa.mk q2
   replace q2 := eq_true q2
   have HQ3 := Qa.mk q3
   replace q3 := eq_true q3
   have HQ9 := Qa.mk q9
   replace q9 := eq_true q9
   have q9n : (0 < nd.f1.length) = True := eq_true (by have := HQ9.out; omega)
   obtain ⟨f0, f1, f2, hfx⟩ : ∃ f0 f1 f2, rd_T45 l2 (rd nd.f1 0) = ⟨f0, f1, f2⟩ := ⟨_, _, _, rfl⟩
   rw [hfx] at h
   dsimp only at h
   have HFX := Qa.mk hfx
   clear hfx
   obtain ⟨ad1, e1, y0⟩ := Kd.at_int (Kd.Qn HCk.out E2.out.b) 0 (Int.le_refl 0) HQ9.out
   cases e1
   obtain ⟨ad2, e2, u0, u1, u2⟩ := at_T45 (Kd.Qn HC2.out E2.out.b) (rd nd.f1 0) HQ2.out HQ3.out
   cases e2
   replace y0 : W2.cell? ad1 = some (.int .i64 (rd nd.f1 0)) := by simpa [Addr.add] using y0
   rw [HFX.out] at u0 u1 u2
   dsimp only at u0 u1 u2
   have x0 : W2.cell? ⟨gx, 0, none⟩ = some (.int .i64 nd.f0) := (Qb E2.out.x 0).trans rfl
   have x1 := (Qb E2.out.x 1).trans rfl
   have o0 : W2.cell? ⟨go, 0, none⟩ = some (.bool false) := (Qb E2.out.o 0).trans rfl
   have z0 : W2.frozen? ⟨go, 0, none⟩ = false := Qc E2.out.o 0
   go_upto_region 54 with (
     go_at_call 35
     refine (vetchref11_ok.calls f0 f1 f2 (f0 || f1) _ (by cases f0 <;> rfl)).mono ?_
     rintro e_ V0 ⟨rfl, hb_⟩
     have EV0 := Qa.mk (E2.out.below hb_)
     clear hb_ x0 x1 y0 u0 u1 u2 o0 z0
     have o0 : V0.cell? ⟨go, 0, none⟩ = some (.bool false) := (Qb EV0.out.o 0).trans rfl
     have z0 : V0.frozen? ⟨go, 0, none⟩ = false := Qc EV0.out.o 0)
   have EV1 := Qa.mk ((EV0.out).put0 HLT.out.1 HLT.out.2.1 (f0 || f1))
   generalize V0.setCell ⟨go, 0, none⟩ (.bool (f0 || f1)) = V1 at EV1 ⊢
   clear o0 z0
   obtain ⟨ad1, e1, y0⟩ := Kd.at_int (Kd.Qn HCk.out EV1.out.b) 0 (Int.le_refl 0) HQ9.out
   cases e1
   obtain ⟨ad2, e2, u0, u1, u2⟩ := at_T45 (Kd.Qn HC2.out EV1.out.b) (rd nd.f1 0) HQ2.out HQ3.out
   cases e2
   replace y0 : V1.cell? ad1 = some (.int .i64 (rd nd.f1 0)) := by simpa [Addr.add] using y0
   rw [HFX.out] at u0 u1 u2
   dsimp only at u0 u1 u2
   have x0 : V1.cell? ⟨gx, 0, none⟩ = some (.int .i64 nd.f0) := (Qb EV1.out.x 0).trans rfl
   have x1 := (Qb EV1.out.x 1).trans rfl
   have o2 : V1.cell? ⟨go, 2, none⟩ = some (.bool false) := (Qb EV1.out.o 2).trans rfl
   have z2 : V1.frozen? ⟨go, 2, none⟩ = false := Qc EV1.out.o 2
   go_wp2
   go_meet
   exact ⟨_, _, _, ⟨h⟩, ⟨(EV1.out).put2 HLT.out.1 HLT.out.2.1 f2⟩⟩
  case rest =>
   clear x0
   obtain ⟨n, e, f, HE, E3⟩ := hcut
   obtain ⟨rfl, rfl, rfl⟩ : n = r1 ∧ e = r2 ∧ f = r3 := by simpa using HE.out
   have o0 : wc.cell? ⟨go, 0, none⟩ = some (.bool n) := (Qb E3.out.o 0).trans rfl
   have r0 : wc.cell? ⟨gr, 0, none⟩ = some (.bool false) := (Qb (Qh HR.out E3.out.b) 0).trans rfl
   have z0 : wc.frozen? ⟨gr, 0, none⟩ = false := Qc (Qh HR.out E3.out.b) 0
   have o1 : wc.cell? ⟨go, 1, none⟩ = some (.bool e) := (Qb E3.out.o 1).trans rfl
   have r1 : wc.cell? ⟨gr, 1, none⟩ = some (.bool false) := (Qb (Qh HR.out E3.out.b) 1).trans rfl
   have z1 : wc.frozen? ⟨gr, 1, none⟩ = false := Qc (Qh HR.out E3.out.b) 1
   have o2 : wc.cell? ⟨go, 2, none⟩ = some (.bool f) := (Qb E3.out.o 2).trans rfl
   have r2 : wc.cell? ⟨gr, 2, none⟩ = some (.bool false) := (Qb (Qh HR.out E3.out.b) 2).trans rfl
   have z2 : wc.frozen? ⟨gr, 2, none⟩ = false := Qc (Qh HR.out E3.out.b) 2
   go_wp2
   refine bodyPost_ret (results_cell_row rfl _ _ gr 45 #[.bool n, .bool e, .bool f] (0, 0) _ rfl (blk3 (Qh HR.out E3.out.b) _ _ _) Try.underlying45 rfl (by kernel_rfl)) rfl ⟨rfl, ?_⟩
   exact below3 (Qm HB.out E3.out.b) (by have := HGB.out; have := HGR.out; omega) _ _ _
end Go.Proofs.Ythgedejnpgcacaa.V
namespace Go.Proofs.Ythgedejnpgcacaa.V
open Go.RowKit Go.Proofs.YthgedejnpgcacaaW.PrintWords Go.Proofs.YthgedejnpgcacaaW.PrintLast Go.Proofs.YthgedejnpgcacaaW.PrintMore
set_option linter.unusedVariables false
set_option linter.unusedSimpArgs false
attribute [local go_sem high] eq54h
set_option maxHeartbeats 4000000 in
set_option maxRecDepth 100000 in
theorem Qa1.calls_s9 (A0_0 : Option Addr) (c0_0 : Nat) (l0_0 : List S51) (A0_1 : Option Addr) (c0_1 : Nat) (l0_1 : List S56) (a1 : Int) (A2 : Option Addr) (c2 : Nat) (l2 : List S45) (r1 r2 r3 : Bool) (w : World)
    (hr0_0 : Kd.C k51 w A0_0 l0_0.length l0_0) (hc0_0 : l0_0.length ≤ c0_0) (hr0_1 : Kd.C k56 w A0_1 l0_1.length l0_1) (hc0_1 : l0_1.length ≤ c0_1) (hr2 : Kd.C k45 w A2 l2.length l2) (hc2 : l2.length ≤ c2)
    (hs : Qa ((Ql l0_1 a1).f0 = 9)) (h : Qa1.f l0_0 l0_1 a1 l2 = some (r1, r2, r3)) :
    Calls Try.prog 31 #[.agg #[.slice A0_0 l0_0.length c0_0, .slice A0_1 l0_1.length c0_1], .int .i64 a1, .slice A2 l2.length c2] w fun e w' => e = .returned (.agg #[.bool r1, .bool r2, .bool r3]) ∧ Below w.heap.size w w' := by
  unfold Qa1.f at h
  split at h
  case isFalse => exact absurd h (by simp)
  case isTrue hfit =>
  obtain ⟨p2, p3, hfit⟩ := hfit
  have H : Qa (Qa1.p l0_0 l2 (Ql l0_1 a1) = (r1, r2, r3)) := ⟨Option.some.inj h⟩
  have HF := Qa.mk hfit
  clear h hfit
  have hu25 := Try.underlying25
  have hu45 := Try.underlying45
  have hu56 := Try.underlying56
  have hu51 := Try.underlying51
  have hu54 := Try.underlying54
  have HB := Qa.mk (Qd (Qd (Below.refl w.heap.size w) (.cells #[.slice A0_0 l0_0.length c0_0, .slice A0_1 l0_1.length c0_1] 25)) (.cells #[.bool false, .bool false, .bool false] 45))
  have HG := Qa.mk (Qi (Qf1 w (.cells #[.slice A0_0 l0_0.length c0_0, .slice A0_1 l0_1.length c0_1] 25)) (.cells #[.bool false, .bool false, .bool false] 45))
  have HR := Qa.mk (Qf1 (w.alloc (.cells #[.slice A0_0 l0_0.length c0_0, .slice A0_1 l0_1.length c0_1] 25)) (.cells #[.bool false, .bool false, .bool false] 45))
  have hsz : ((w.alloc (.cells #[.slice A0_0 l0_0.length c0_0, .slice A0_1 l0_1.length c0_1] 25)).alloc (.cells #[.bool false, .bool false, .bool false] 45)).heap.size = w.heap.size + 1 + 1 := by rw [Qt1, Qt1]
  rw [Qt1] at HR
  have HC0 := Qa.mk (Kd.Qn hr0_0 HB.out)
  have HC1 := Qa.mk (Kd.Qn hr0_1 HB.out)
  have HC2 := Qa.mk (Kd.Qn hr2 HB.out)
  have HW := Qa.mk hsz
  clear hr0_0 hr0_1 hr2 hsz
  go_enter Try.func31, Try.ntmps31
  go_upto_region 1 with (fail)
  generalize ((w.alloc (.cells #[.slice A0_0 l0_0.length c0_0, .slice A0_1 l0_1.length c0_1] 25)).alloc (.cells #[.bool false, .bool false, .bool false] 45)) = W1 at HB HG HR HC0 HC1 HC2 HW ⊢
  have g0 : W1.cell? ⟨w.heap.size, 0, none⟩ = some (.slice A0_0 l0_0.length c0_0) := (Qb HG.out 0).trans rfl
  have g1 : W1.cell? ⟨w.heap.size, 1, none⟩ = some (.slice A0_1 l0_1.length c0_1) := (Qb HG.out 1).trans rfl
  obtain ⟨ad, Ak, ck, e, k0, k1, k2, k3, k4, k5, k6, hlk, hCk⟩ := at_T56 HC1.out a1 p2 p3
  cases e
  have HCk := Qa.mk hCk
  have HLk := Qa.mk hlk
  clear hCk hlk HC1
  replace p2 := eq_true p2
  replace p3 := eq_true p3
  go_upto_region 3 with (fail)
  generalize Ql l0_1 a1 = nd at *
  obtain ⟨gx, hgx⟩ : ∃ gx, gx = W1.heap.size := ⟨_, rfl⟩
  obtain ⟨go, hgo⟩ : ∃ go, go = gx + 1 := ⟨_, rfl⟩
  obtain ⟨gb, hgb⟩ : ∃ gb, gb = w.heap.size := ⟨_, rfl⟩
  obtain ⟨gr, hgr⟩ : ∃ gr, gr = gb + 1 := ⟨_, rfl⟩
  rw [← hgb] at HW HG HR
  rw [← hgr] at HR
  have E2 : Qa (Env11 W1 gx go #[.int .i64 nd.f0, .slice Ak nd.f1.length ck, .int .i64 nd.f2, .int .u64 nd.f3.f0, .int .u64 nd.f3.f1, .int .u64 nd.f3.f2, .int .u64 nd.f3.f3] ((W1.alloc (.cells #[.int .i64 nd.f0, .slice Ak nd.f1.length ck, .int .i64 nd.f2, .int .u64 nd.f3.f0, .int .u64 nd.f3.f1, .int .u64 nd.f3.f2, .int .u64 nd.f3.f3] 56)).alloc (.cells #[.bool false, .bool false, .bool false] 45)) false false false) := ⟨by rw [hgx]; exact Qi (Qf1 W1 (.cells #[.int .i64 nd.f0, .slice Ak nd.f1.length ck, .int .i64 nd.f2, .int .u64 nd.f3.f0, .int .u64 nd.f3.f1, .int .u64 nd.f3.f2, .int .u64 nd.f3.f3] 56)) (.cells #[.bool false, .bool false, .bool false] 45), by rw [hgo, hgx]; have := Qf1 (W1.alloc (.cells #[.int .i64 nd.f0, .slice Ak nd.f1.length ck, .int .i64 nd.f2, .int .u64 nd.f3.f0, .int .u64 nd.f3.f1, .int .u64 nd.f3.f2, .int .u64 nd.f3.f3] 56)) (.cells #[.bool false, .bool false, .bool false] 45); rw [Qt1] at this; exact this, Qd (Qd (Below.refl _ _) _) _⟩
  have HLT := Qa.mk (show W1.heap.size ≤ go ∧ gx ≠ go ∧ gb < W1.heap.size ∧ gr < W1.heap.size ∧ gr ≠ go by have := HW.out; omega)
  have HGB := Qa.mk hgb
  have HGR := Qa.mk hgr
  rw [← hgx, ← hgb, ← hgr, ← hgo]
  generalize (W1.alloc (.cells #[.int .i64 nd.f0, .slice Ak nd.f1.length ck, .int .i64 nd.f2, .int .u64 nd.f3.f0, .int .u64 nd.f3.f1, .int .u64 nd.f3.f2, .int .u64 nd.f3.f3] 56)).alloc (.cells #[.bool false, .bool false, .bool false] 45) = W2 at E2 ⊢
  clear k0 k1 k2 k3 k4 k5 k6 g0 g1 HW hgx hgo hgb hgr
  have x0 := (Qb E2.out.x 0).trans rfl
  go_upto_block 0 with fail
  go_cut [] (fun wc => ∃ n e f, Qa ((n, e, f) = (r1, r2, r3)) ∧ Qa (Env11 W1 gx go #[.int .i64 nd.f0, .slice Ak nd.f1.length ck, .int .i64 nd.f2, .int .u64 nd.f3.f0, .int .u64 nd.f3.f1, .int .u64 nd.f3.f2, .int .u64 nd.f3.f3] wc n e f))
  case first =>
   clear x0
   have h := H.out
   clear H
   unfold Qa1.p at h
   have c0 : ¬ nd.f0 = 0 := by have := hs.out; omega
   rw [if_neg c0] at h
   have b0 : (nd.f0 == 0) = false := beq_eq_false_iff_ne.2 c0
   go_upto_region 6 with (fail)
   clear b0
   have c1 : ¬ nd.f0 = 1 := by have := hs.out; omega
   rw [if_neg c1] at h
   have b1 : (nd.f0 == 1) = false := beq_eq_false_iff_ne.2 c1
   go_upto_region 9 with (fail)
   clear b1
   have c2 : ¬ nd.f0 = 2 := by have := hs.out; omega
   rw [if_neg c2] at h
   have b2 : (nd.f0 == 2) = false := beq_eq_false_iff_ne.2 c2
   go_upto_region 11 with (fail)
   clear b2
   have c3 : ¬ nd.f0 = 3 := by have := hs.out; omega
   rw [if_neg c3] at h
   have b3 : (nd.f0 == 3) = false := beq_eq_false_iff_ne.2 c3
   go_upto_region 28 with (fail)
   clear b3
   have c4 : ¬ nd.f0 = 4 := by have := hs.out; omega
   rw [if_neg c4] at h
   have b4 : (nd.f0 == 4) = false := beq_eq_false_iff_ne.2 c4
   go_upto_region 42 with (fail)
   clear b4
   have c5 : ¬ nd.f0 = 5 := by have := hs.out; omega
   rw [if_neg c5] at h
   have b5 : (nd.f0 == 5) = false := beq_eq_false_iff_ne.2 c5
   go_upto_region 45 with (fail)
   clear b5
   have c6 : ¬ nd.f0 = 6 := by have := hs.out; omega
   rw [if_neg c6] at h
   have b6 : (nd.f0 == 6) = false := beq_eq_false_iff_ne.2 c6
   go_upto_region 49 with (fail)
   clear b6
   have c7 : ¬ nd.f0 = 7 := by have := hs.out; omega
   rw [if_neg c7] at h
   have b7 : (nd.f0 == 7) = false := beq_eq_false_iff_ne.2 c7
   go_upto_region 52 with (fail)
   clear b7
   have c8 : ¬ nd.f0 = 8 := by have := hs.out; omega
   rw [if_neg c8] at h
   have b8 : (nd.f0 == 8) = false := beq_eq_false_iff_ne.2 c8
   go_upto_region 55 with (fail)
   clear b8
   have c9 : nd.f0 = 9 := by have := hs.out; omega
   rw [if_pos c9] at h
   have b9 : (nd.f0 == 9) = true := beq_iff_eq.2 c9
   have q9 : (0 : Int) < (nd.f1.length : Int) := by have := List.length_pos_iff.2 (HF.out.2.1 (by omega) (by omega)); omega
   obtain ⟨q2, q3⟩ := HF.out.1 (rd nd.f1 0) (rd_memh nd.f1 0 (Int.le_refl 0) q9)
   clear c0 c1 c2 c3 c4 c5 c6 c7 c8 c9
   have HQ2 := Qa.mk q2
   replace q2 := eq_true q2
   have HQ3 := Qa.mk q3
   replace q3 := eq_true q3
   have HQ9 := Qa.mk q9
   replace q9 := eq_true q9
   have q9n : (0 < nd.f1.length) = True := eq_true (by have := HQ9.out; omega)
   obtain ⟨f0, f1, f2, hfx⟩ : ∃ f0 f1 f2, rd_T45 l2 (rd nd.f1 0) = ⟨f0, f1, f2⟩ := ⟨_, _, _, rfl⟩
   rw [hfx] at h
   dsimp only at h
   have HFX := Qa.mk hfx
   clear hfx
   obtain ⟨ad1, e1, y0⟩ := Kd.at_int (Kd.Qn HCk.out E2.out.b) 0 (Int.le_refl 0) HQ9.out
   cases e1
   obtain ⟨ad2, e2, u0, u1, u2⟩ := at_T45 (Kd.Qn HC2.out E2.out.b) (rd nd.f1 0) HQ2.out HQ3.out
   cases e2
   replace y0 : W2.cell? ad1 = some (.int .i64 (rd nd.f1 0)) := by simpa [Addr.add] using y0
   rw [HFX.out] at u0 u1 u2
   dsimp only at u0 u1 u2
   have x0 : W2.cell? ⟨gx, 0, none⟩ = some (.int .i64 nd.f0) := (Qb E2.out.x 0).trans rfl
   have x1 := (Qb E2.out.x 1).trans rfl
   have o0 : W2.cell? ⟨go, 0, none⟩ = some (.bool false) := (Qb E2.out.o 0).trans rfl
   have z0 : W2.frozen? ⟨go, 0, none⟩ = false := Qc E2.out.o 0
   go_upto_region 57 with (fail)
   have EV1 := Qa.mk ((E2.out).put0 HLT.out.1 HLT.out.2.1 f2)
   generalize W2.setCell ⟨go, 0, none⟩ (.bool f2) = V1 at EV1 ⊢
   clear x0 x1 y0 u0 u1 u2 o0 z0
   obtain ⟨ad1, e1, y0⟩ := Kd.at_int (Kd.Qn HCk.out EV1.out.b) 0 (Int.le_refl 0) HQ9.out
   cases e1
   obtain ⟨ad2, e2, u0, u1, u2⟩ := at_T45 (Kd.Qn HC2.out EV1.out.b) (rd nd.f1 0) HQ2.out HQ3.out
   cases e2
   replace y0 : V1.cell? ad1 = some (.int .i64 (rd nd.f1 0)) := by simpa [Addr.add] using y0
   rw [HFX.out] at u0 u1 u2
   dsimp only at u0 u1 u2
   have x0 : V1.cell? ⟨gx, 0, none⟩ = some (.int .i64 nd.f0) := (Qb EV1.out.x 0).trans rfl
   have x1 := (Qb EV1.out.x 1).trans rfl
   have o2 : V1.cell? ⟨go, 2, none⟩ = some (.bool false) := (Qb EV1.out.o 2).trans rfl
   have z2 : V1.frozen? ⟨go, 2, none⟩ = false := Qc EV1.out.o 2
   go_wp2_with (
     go_at_call 35
     refine (vetchref11_ok.calls f0 f1 f2 (f0 || f1) _ (by cases f0 <;> rfl)).mono ?_
     rintro e_ V0 ⟨rfl, hb_⟩
     have EV0 := Qa.mk (EV1.out.below hb_)
     clear hb_ x0 x1 y0 u0 u1 u2 o2 z2
     have o2 : V0.cell? ⟨go, 2, none⟩ = some (.bool false) := (Qb EV0.out.o 2).trans rfl
     have z2 : V0.frozen? ⟨go, 2, none⟩ = false := Qc EV0.out.o 2)
   go_meet
   exact ⟨_, _, _, ⟨h⟩, ⟨(EV0.out).put2 HLT.out.1 HLT.out.2.1 (f0 || f1)⟩⟩
  case rest =>
   clear x0
   obtain ⟨n, e, f, HE, E3⟩ := hcut
   obtain ⟨rfl, rfl, rfl⟩ : n = r1 ∧ e = r2 ∧ f = r3 := by simpa using HE.out
   have o0 : wc.cell? ⟨go, 0, none⟩ = some (.bool n) := (Qb E3.out.o 0).trans rfl
   have r0 : wc.cell? ⟨gr, 0, none⟩ = some (.bool false) := (Qb (Qh HR.out E3.out.b) 0).trans rfl
   have z0 : wc.frozen? ⟨gr, 0, none⟩ = false := Qc (Qh HR.out E3.out.b) 0
   have o1 : wc.cell? ⟨go, 1, none⟩ = some (.bool e) := (Qb E3.out.o 1).trans rfl
   have r1 : wc.cell? ⟨gr, 1, none⟩ = some (.bool false) := (Qb (Qh HR.out E3.out.b) 1).trans rfl
   have z1 : wc.frozen? ⟨gr, 1, none⟩ = false := Qc (Qh HR.out E3.out.b) 1
   have o2 : wc.cell? ⟨go, 2, none⟩ = some (.bool f) := (Qb E3.out.o 2).trans rfl
   have r2 : wc.cell? ⟨gr, 2, none⟩ = some (.bool false) := (Qb (Qh HR.out E3.out.b) 2).trans rfl
   have z2 : wc.frozen? ⟨gr, 2, none⟩ = false := Qc (Qh HR.out E3.out.b) 2
   go_wp2
   refine bodyPost_ret (results_cell_row rfl _ _ gr 45 #[.bool n, .bool e, .bool f] (0, 0) _ rfl (blk3 (Qh HR.out E3.out.b) _ _ _) Try.underlying45 rfl (by kernel_rfl)) rfl ⟨rfl, ?_⟩
   exact below3 (Qm HB.out E3.out.b) (by have := HGB.out; have := HGR.out; omega) _ _ _
end Go.Proofs.Ythgedejnpgcacaa.V
namespace Go.Proofs.Ythgedejnpgcacaa.V
open Go.RowKit Go.Proofs.YthgedejnpgcacaaW.PrintWords
set_option linter.unusedVariables false
theorem Qa1.calls (A0_0 : Option Addr) (c0_0 : Nat) (l0_0 : List S51) (A0_1 : Option Addr) (c0_1 : Nat) (l0_1 : List S56) (a1 : Int) (A2 : Option Addr) (c2 : Nat) (l2 : List S45) (r1 r2 r3 : Bool) (w : World)
    (hr0_0 : Kd.C k51 w A0_0 l0_0.length l0_0) (hc0_0 : l0_0.length ≤ c0_0) (hr0_1 : Kd.C k56 w A0_1 l0_1.length l0_1) (hc0_1 : l0_1.length ≤ c0_1) (hr2 : Kd.C k45 w A2 l2.length l2) (hc2 : l2.length ≤ c2)
    (h : Qa1.f l0_0 l0_1 a1 l2 = some (r1, r2, r3)) :
    Calls Try.prog 31 #[.agg #[.slice A0_0 l0_0.length c0_0, .slice A0_1 l0_1.length c0_1], .int .i64 a1, .slice A2 l2.length c2] w fun e w' => e = .returned (.agg #[.bool r1, .bool r2, .bool r3]) ∧ Below w.heap.size w w' := by
  by_cases d0 : (Ql l0_1 a1).f0 = 0
  · exact Qa1.calls_s0 A0_0 c0_0 l0_0 A0_1 c0_1 l0_1 a1 A2 c2 l2 r1 r2 r3 w hr0_0 hc0_0 hr0_1 hc0_1 hr2 hc2 ⟨d0⟩ h
  by_cases d1 : (Ql l0_1 a1).f0 = 1
  · exact Qa1.calls_s1 A0_0 c0_0 l0_0 A0_1 c0_1 l0_1 a1 A2 c2 l2 r1 r2 r3 w hr0_0 hc0_0 hr0_1 hc0_1 hr2 hc2 ⟨d1⟩ h
  by_cases d2 : (Ql l0_1 a1).f0 = 2
  · exact Qa1.calls_s2 A0_0 c0_0 l0_0 A0_1 c0_1 l0_1 a1 A2 c2 l2 r1 r2 r3 w hr0_0 hc0_0 hr0_1 hc0_1 hr2 hc2 ⟨d2⟩ h
  by_cases d3 : (Ql l0_1 a1).f0 = 3
  · exact Qa1.calls_s3 A0_0 c0_0 l0_0 A0_1 c0_1 l0_1 a1 A2 c2 l2 r1 r2 r3 w hr0_0 hc0_0 hr0_1 hc0_1 hr2 hc2 ⟨d3⟩ h
  by_cases d4 : (Ql l0_1 a1).f0 = 4
  · exact Qa1.calls_s4 A0_0 c0_0 l0_0 A0_1 c0_1 l0_1 a1 A2 c2 l2 r1 r2 r3 w hr0_0 hc0_0 hr0_1 hc0_1 hr2 hc2 ⟨d4⟩ h
  by_cases d5 : (Ql l0_1 a1).f0 = 5
  · exact Qa1.calls_s5 A0_0 c0_0 l0_0 A0_1 c0_1 l0_1 a1 A2 c2 l2 r1 r2 r3 w hr0_0 hc0_0 hr0_1 hc0_1 hr2 hc2 ⟨d5⟩ h
  by_cases d6 : (Ql l0_1 a1).f0 = 6
  · exact Qa1.calls_s6 A0_0 c0_0 l0_0 A0_1 c0_1 l0_1 a1 A2 c2 l2 r1 r2 r3 w hr0_0 hc0_0 hr0_1 hc0_1 hr2 hc2 ⟨d6⟩ h
  by_cases d7 : (Ql l0_1 a1).f0 = 7
  · exact Qa1.calls_s7 A0_0 c0_0 l0_0 A0_1 c0_1 l0_1 a1 A2 c2 l2 r1 r2 r3 w hr0_0 hc0_0 hr0_1 hc0_1 hr2 hc2 ⟨d7⟩ h
  by_cases d8 : (Ql l0_1 a1).f0 = 8
  · exact Qa1.calls_s8 A0_0 c0_0 l0_0 A0_1 c0_1 l0_1 a1 A2 c2 l2 r1 r2 r3 w hr0_0 hc0_0 hr0_1 hc0_1 hr2 hc2 ⟨d8⟩ h
  by_cases d9 : (Ql l0_1 a1).f0 = 9
  · exact Qa1.calls_s9 A0_0 c0_0 l0_0 A0_1 c0_1 l0_1 a1 A2 c2 l2 r1 r2 r3 w hr0_0 hc0_0 hr0_1 hc0_1 hr2 hc2 ⟨d9⟩ h
  exact Qa1.calls_sx A0_0 c0_0 l0_0 A0_1 c0_1 l0_1 a1 A2 c2 l2 r1 r2 r3 w hr0_0 hc0_0 hr0_1 hc0_1 hr2 hc2 ⟨by omega⟩ h
end Go.Proofs.Ythgedejnpgcacaa.V
namespace Go.Proofs.Ythgedejnpgcacaa.V
open Go.RowKit Go.Proofs.YthgedejnpgcacaaW.PrintWords Go.Proofs.YthgedejnpgcacaaW.PrintLast Go.Proofs.YthgedejnpgcacaaW.PrintMore
attribute [local go_sem] max2_int min2_int max_two min_two max_three min_three max_four min_four tdiv_most
set_option linter.unusedVariables false
set_option linter.unusedSimpArgs false
attribute [local go_sem high] eqA45
def Qa2.l0 : Nat → List (S45) → List (S45) → Int → List (S51) → List (S56) → Option ((List (S45)))
 | 0, _, _, _, _, _ => none
 | k + 1, x1, x5, x6, x295000, x295001 => if x6 < (x295001.length : Int) then ((Qa1.f x295000 x295001 x6 x1).bind fun bt295 => (if x5.length < 46912496118442 then (Qa2.l0 k x1 (x5 ++ [(⟨bt295.1, bt295.2.1, bt295.2.2⟩ : S45)]) (wrap64 (x6 + 1)) x295000 x295001) else (none))) else (some x5)
def Qa2.f (k : Nat) (l0_0 : List (S51)) (l0_1 : List (S56)) (l1 : List (S45)) : Option ((List (S45))) := Qa2.l0 k l1 ([] : List (S45)) 0 l0_0 l0_1
theorem Qa2.mono_l : ∀ k, (∀ y0 y1 y2 y3 y4, LeO (Qa2.l0 k y0 y1 y2 y3 y4) (Qa2.l0 (k + 1) y0 y1 y2 y3 y4))
 | 0 => fun _ _ _ _ _ r h => by simp [Qa2.l0] at h
 | k + 1 => by
  have ih0 := Qa2.mono_l k
  ·
   intro y0 y1 y2 y3 y4
   unfold Qa2.l0
   repeat' first
   | (with_reducible exact ih0 _ _ _ _ _)
   | (with_reducible exact LeO.refl _)
   | (with_reducible exact LeO.none _)
   | (with_reducible refine LeO.ite ?_ ?_)
   | (with_reducible refine LeO.bind ?_ (fun _ => ?_))
   | exact ih0 _ _ _ _ _
   | exact LeO.none _
   | refine LeO.ite ?_ ?_
   | refine LeO.bind ?_ (fun _ => ?_)
theorem Qa2.mono : ∀ a0 a1 a2 k, LeO (Qa2.f k a0 a1 a2) (Qa2.f (k + 1) a0 a1 a2) := by
 intro a0 a1 a2 k
 have ih0 := Qa2.mono_l k
 unfold Qa2.f
 repeat' first
  | (with_reducible exact ih0 _ _ _ _ _)
  | (with_reducible exact LeO.refl _)
  | (with_reducible exact LeO.none _)
  | (with_reducible refine LeO.ite ?_ ?_)
  | (with_reducible refine LeO.bind ?_ (fun _ => ?_))
  | exact ih0 _ _ _ _ _
  | exact LeO.none _
  | refine LeO.ite ?_ ?_
  | refine LeO.bind ?_ (fun _ => ?_)
set_option maxHeartbeats 8000000 in
set_option maxRecDepth 100000 in
theorem Qa2.calls (k : Nat) (A0_0 : Option Addr) (c0_0 : Nat) (l0_0 : List (S51)) (A0_1 : Option Addr) (c0_1 : Nat) (l0_1 : List (S56)) (A1 : Option Addr) (c1 : Nat) (l1 : List (S45)) (r : List (S45)) (w : World) (hr0_0 : Kd.C k51 w A0_0 l0_0.length l0_0) (hc0_0 : l0_0.length ≤ c0_0) (hr0_1 : Kd.C k56 w A0_1 l0_1.length l0_1) (hc0_1 : l0_1.length ≤ c0_1) (hr1 : Kd.C k45 w A1 l1.length l1) (hc1 : l1.length ≤ c1) (h : Qa2.f k l0_0 l0_1 l1 = some r) :
 Calls Try.prog 22 #[.agg #[.slice A0_0 l0_0.length c0_0, .slice A0_1 l0_1.length c0_1], .slice A1 l1.length c1] w fun e w' => ∃ v0_ : Value, e = .returned (v0_) ∧ Kd.R k45 45 w' w.heap.size (fun _ => True) v0_ r ∧ Below w.heap.size w w' := by
 have hu25 := Try.underlying25
 have HR0_0 := Qa.mk hr0_0
 have HC0_0 := Qa.mk hc0_0
 clear hr0_0 hc0_0
 have HR0_1 := Qa.mk hr0_1
 have HC0_1 := Qa.mk hc0_1
 clear hr0_1 hc0_1
 have HR1 := Qa.mk hr1
 have HC1 := Qa.mk hc1
 clear hr1 hc1
 have HB := Qa.mk (Below.refl w.heap.size w)
 have H : (Qa2.l0 k l1 ([] : List (S45)) 0 l0_0 l0_1) = some r := h
 clear h
 have H' := Qa.mk H
 clear H
 go_enter Try.func22, Try.ntmps22
 go_wp2_with (first | ((with_reducible refine Qc1 (N := 2) rfl ?_); refine Ql1 ?hg (N := 2) ?hd (cs := #[.slice A0_0 l0_0.length c0_0, .slice A0_1 l0_1.length c0_1]) (t := 25) ?hr ?_; (case hd => rfl); (case hg => rfl); (case hr => first | (go_simp; done) | (go_simp; rfl)); intro gb294 hg w3 hbox hb; have n0_ := Qa.mk (Qm (by repeat (first | (with_reducible first | exact HB.out | apply Qd | apply Qf | apply Qe) | exact HB.out)) hb); have n1_ := Qa.mk (hbox); have n2_ := Qa.mk ((by rw [hg]; exact (Qv (by repeat (first | (with_reducible first | exact HB.out | apply Qd | apply Qf | apply Qe) | exact HB.out))) : w.heap.size ≤ gb294)); have n3_ := Qa.mk ((by rw [hg]; exact (Qv (by repeat (first | (with_reducible first | exact HB.out | apply Qd | apply Qf | apply Qe) | exact HB.out))) : w.heap.size ≤ gb294)); clear HB; have HB := n0_; have BK294 := n1_; have GW294 := n2_; have GE294 := n3_; clear n0_ n1_ n2_ n3_; clear hb hbox hg))
 go_loopg [5, 6] k (fun kq v5 v6 w' => ∃ (x5_1 : List (S45)) (x6_1 : Int), v6 = .int .i64 x6_1 ∧ Qa (Qa2.l0 kq l1 x5_1 x6_1 l0_0 l0_1 = some r) ∧ Qa (kq ≤ k) ∧ Qa (Kd.R k45 45 w' w.heap.size (fun _ => True) v5 x5_1) ∧ Qa (w'.heap[gb294]? = some (.cells #[(.slice A0_0 l0_0.length c0_0), (.slice A0_1 l0_1.length c0_1)] 25 (0, 0))) ∧ Qa (Below w.heap.size w w'))
 case atStart => exact ⟨(([] : List (S45))), (0), (by first | rfl | (simp; done) | (simp [*]; done)), H', ⟨Nat.le_refl _⟩, ⟨by first | exact Kd.R_nil _ _ _ _ _ | exact Kd.N_nil _ _ _ _ _ | exact Kd.V_nil _ _ _ _ _ | exact Kd.Q_nil _ _ _ _ _ | exact Kd.S_nil _ _ _ _ _⟩, ⟨by (with_reducible repeat (first | refine Qk ?_ _ | refine Qj ?_ | refine Qi ?_ _)); exact BK294.out⟩, ⟨by repeat (first | (with_reducible first | exact HB.out | apply Qd | apply Qf | apply Qe | refine Qg ?_ GE294.out) | exact HB.out)⟩⟩
 case round =>
  clear H'
  try clear c1
  try clear c2
  try clear p2
  obtain ⟨x5_1, x6_1, rfl, HA, HK1, HO_5, BK294, HB⟩ := hrel
  cases gk with
  | zero => exact absurd HA.out (by simp [Qa2.l0])
  | succ k1 =>
   have H := HA.out
   clear HA
   simp only [Qa2.l0] at H
   by_cases c4 : x6_1 < (l0_1.length : Int)
   ·
    rw [if_pos c4] at H
    have c4b0 : decide (x6_1 < (l0_1.length : Int)) = true := decide_eq_true c4
    clear c4
    replace H := Option.bind_eq_some_iff.mp H
    obtain ⟨⟨t295, t296, t297⟩, A50, H⟩ := H
    replace H : (if x5_1.length < 46912496118442 then (Qa2.l0 k1 l1 (x5_1 ++ [(⟨t295, t296, t297⟩ : S45)]) (wrap64 (x6_1 + 1)) l0_0 l0_1) else (none)) = some r := H
    have A5 := Qa.mk A50
    clear A50
    by_cases c6 : x5_1.length < 46912496118442
    ·
     rw [if_pos c6] at H
     have LMc6 := Qa.mk c6
     clear c6
     obtain ⟨y298, hy298⟩ : ∃ y_ : List (S45), y_ = (x5_1 ++ [(⟨t295, t296, t297⟩ : S45)]) := ⟨_, rfl⟩
     replace H : (Qa2.l0 k1 l1 y298 (wrap64 (x6_1 + 1)) l0_0 l0_1) = some r := by first | (rw [hy298]; with_reducible exact H) | (have H2_ := (Option.bind_some _ _).symm.trans H; rw [hy298]; with_reducible exact H2_) | (have H2_ := (Option.bind_some _ _).symm.trans H; with_reducible exact H2_) | with_reducible exact H | (rw [hy298]; exact H) | exact H
     have Ny298 := Qa.mk hy298
     clear hy298
     have H' := Qa.mk H
     clear H
     have hcz7_0 : wr.cell? ⟨gb294, 0, none⟩ = some (.slice A0_0 l0_0.length c0_0) := (Qb BK294.out 0).trans rfl
     have hcz7_1 : wr.cell? ⟨gb294, 1, none⟩ = some (.slice A0_1 l0_1.length c0_1) := (Qb BK294.out 1).trans rfl
     have hfz7_0 := Qc BK294.out 0
     have hfz7_1 := Qc BK294.out 1
     go_wp2_with (first | ((with_reducible refine Qd1 (f := 31) rfl ?_); refine goesL_ (some 18) rfl rfl Try.func31 (by kernel_rfl) rfl #[.agg #[.slice A0_0 l0_0.length c0_0, .slice A0_1 l0_1.length c0_1], .int .i64 x6_1, .slice A1 l1.length c1] rfl (by (try simp only [List.map_toArray, List.map_cons, List.map_nil]); first | done | rfl | (simp only [List.length_drop, List.length_take]; rfl)) ?_; (with_reducible refine (Qa1.calls _ _ l0_0 _ _ l0_1 x6_1 _ _ l1 t295 t296 t297 _ ?side1 ?side2 ?side3 ?side4 ?side5 ?side6 A5.out).mono ?_); (case side1 => repeat (first | exact (Kd.Qn HR0_0.out HB.out) | (with_reducible refine Kd.Qw ?_ _) | (with_reducible refine Kd.Qy ?_ _) | (with_reducible refine Kd.Qx ?_))); (case side2 => exact HC0_0.out); (case side3 => repeat (first | exact (Kd.Qn HR0_1.out HB.out) | (with_reducible refine Kd.Qw ?_ _) | (with_reducible refine Kd.Qy ?_ _) | (with_reducible refine Kd.Qx ?_))); (case side4 => exact HC0_1.out); (case side5 => repeat (first | exact (Kd.Qn HR1.out HB.out) | (with_reducible refine Kd.Qw ?_ _) | (with_reducible refine Kd.Qy ?_ _) | (with_reducible refine Kd.Qx ?_))); (case side6 => exact HC1.out); rintro e w8 ⟨rfl, hb⟩; refine ⟨_, rfl, ?_⟩; have n0_ := Qa.mk (Kd.Qb1 (by (with_reducible repeat (first | apply Kd.Qs | apply Kd.Qt | apply Kd.Qu)); exact HO_5.out) hb); have n1_ := Qa.mk (Qh (g := gb294) (o := .cells #[.slice A0_0 l0_0.length c0_0, .slice A0_1 l0_1.length c0_1] 25 (0, 0)) (by (with_reducible repeat (first | refine Qk ?_ _ | refine Qj ?_ | refine Qi ?_ _)); exact BK294.out) hb); have n2_ := Qa.mk (Qm (by repeat (first | (with_reducible first | exact HB.out | apply Qd | apply Qf | apply Qe | refine Qg ?_ GE294.out) | exact HB.out)) hb); clear HO_5; clear BK294; clear HB; have HO_5 := n0_; have BK294 := n1_; have HB := n2_; clear n0_ n1_ n2_; (try clear hb); (try clear hb2); (try clear hk); (try clear hi)) | ((with_reducible refine gate_builtin (b := .append) (xs := #[.tmp 14, .tmp 19]) rfl ?_); at_builtin; refine Kd.R_append k45 (w0 := w) w.heap.size rfl (.tmp 14) (.tmp 19) 46 45 (.agg #[(.bool false), (.bool false), (.bool false)]) 3 rfl Try.underlying46 info45 rfl (by decide) (by omega) u5 x5_1 (⟨t295, t296, t297⟩ : S45) [.bool t295, .bool t296, .bool t297] (fun _ => True) (fun _ => False) rfl rfl ?aP (fun _ hk => hk.elim) ?aF ?aO ?aB ?aS ?aL ?_; (case aP => exact k45_mkM _ _ _ (⟨t295, t296, t297⟩ : S45)); (case aB => exact (by repeat (first | (with_reducible first | exact HB.out | apply Qd | apply Qf | apply Qe | refine Qg ?_ GE294.out) | exact HB.out))); (case aF => exact (fun _ _ => trivial)); (case aO => exact (by (with_reducible repeat (first | apply Kd.Qs | apply Kd.Qt | apply Kd.Qu)); exact HO_5.out)); (case aS => exact (Qv (by repeat (first | (with_reducible first | exact HB.out | apply Qd | apply Qf | apply Qe | refine Qg ?_ GE294.out) | exact HB.out)))); (case aL => have := LMc6.out; omega); intro v299 w9 ho hb hg hat; rw [← Ny298.out] at ho; have n0_ := Qa.mk (blk_grown (g := gb294) (o := .cells #[.slice A0_0 l0_0.length c0_0, .slice A0_1 l0_1.length c0_1] 25 (0, 0)) (by (with_reducible repeat (first | refine Qk ?_ _ | refine Qj ?_ | refine Qi ?_ _)); exact BK294.out) hg (Kd.R_ne HO_5.out BK294.out (by decide))); have n1_ := Qa.mk (hb); have n2_ := Qa.mk (ho); clear BK294; clear HB; clear HO_5; have BK294 := n0_; have HB := n1_; have HO300 := n2_; clear n0_ n1_ n2_; clear ho hb hg hat))
     go_roundg k1
     case measure => have := HK1.out; omega
     case rel => exact ⟨(y298), (wrap64 (x6_1 + 1)), (by first | rfl | (simp; done) | (simp [*]; done)), H', ⟨by have := HK1.out; omega⟩, ⟨by (with_reducible repeat (first | apply Kd.Qs | apply Kd.Qt | apply Kd.Qu)); exact HO300.out⟩, ⟨by (with_reducible repeat (first | refine Qk ?_ _ | refine Qj ?_ | refine Qi ?_ _)); exact BK294.out⟩, ⟨by repeat (first | (with_reducible first | exact HB.out | apply Qd | apply Qf | apply Qe | refine Qg ?_ GE294.out) | exact HB.out)⟩⟩
    ·
     rw [if_neg c6] at H
     exact absurd H (by simp)
   ·
    rw [if_neg c4] at H
    have c4b0 : decide (x6_1 < (l0_1.length : Int)) = false := decide_eq_false c4
    clear c4
    obtain rfl := Option.some.inj H
    have hcz10_0 : wr.cell? ⟨gb294, 0, none⟩ = some (.slice A0_0 l0_0.length c0_0) := (Qb BK294.out 0).trans rfl
    have hcz10_1 : wr.cell? ⟨gb294, 1, none⟩ = some (.slice A0_1 l0_1.length c0_1) := (Qb BK294.out 1).trans rfl
    have hfz10_0 := Qc BK294.out 0
    have hfz10_1 := Qc BK294.out 1
    go_wp2
    go_ret
    exact ⟨_, by first | rfl | (simp [Qr, Qq] <;> rfl) | (simp [*, Qr, Qq] <;> rfl), by (with_reducible repeat (first | apply Kd.Qs | apply Kd.Qt | apply Kd.Qu)); exact HO_5.out, by repeat (first | (with_reducible first | exact HB.out | apply Qd | apply Qf | apply Qe | refine Qg ?_ GE294.out) | exact HB.out)⟩
def Qz1.l0 : Nat → List (S45) → List (S45) → Int → Option (Bool)
 | 0, _, _, _ => none
 | k + 1, x0, x1, x5 => if x5 < (x0.length : Int) then (if 0 ≤ x5 then (if x5 < (x1.length : Int) then (if (!(((rd_T45 x0 x5).f0) == ((rd_T45 x1 x5).f0)) || (!(((rd_T45 x0 x5).f1) == ((rd_T45 x1 x5).f1)) || (!(((rd_T45 x0 x5).f2) == ((rd_T45 x1 x5).f2))))) = true then (some false) else (Qz1.l0 k x0 x1 (wrap64 (x5 + 1)))) else (none)) else (none)) else (some true)
def Qz1.f (k : Nat) (l0 : List (S45)) (l1 : List (S45)) : Option (Bool) := if (l0.length : Int) = (l1.length : Int) then (Qz1.l0 k l0 l1 0) else (some false)
theorem Qz1.mono_l : ∀ k, (∀ y0 y1 y2, LeO (Qz1.l0 k y0 y1 y2) (Qz1.l0 (k + 1) y0 y1 y2))
 | 0 => fun _ _ _ r h => by simp [Qz1.l0] at h
 | k + 1 => by
  have ih0 := Qz1.mono_l k
  ·
   intro y0 y1 y2
   unfold Qz1.l0
   repeat' first
   | (with_reducible exact ih0 _ _ _)
   | (with_reducible exact LeO.refl _)
   | (with_reducible exact LeO.none _)
   | (with_reducible refine LeO.ite ?_ ?_)
   | (with_reducible refine LeO.bind ?_ (fun _ => ?_))
   | exact ih0 _ _ _
   | exact LeO.none _
   | refine LeO.ite ?_ ?_
   | refine LeO.bind ?_ (fun _ => ?_)
theorem Qz1.mono : ∀ a0 a1 k, LeO (Qz1.f k a0 a1) (Qz1.f (k + 1) a0 a1) := by
 intro a0 a1 k
 have ih0 := Qz1.mono_l k
 unfold Qz1.f
 repeat' first
  | (with_reducible exact ih0 _ _ _)
  | (with_reducible exact LeO.refl _)
  | (with_reducible exact LeO.none _)
  | (with_reducible refine LeO.ite ?_ ?_)
  | (with_reducible refine LeO.bind ?_ (fun _ => ?_))
  | exact ih0 _ _ _
  | exact LeO.none _
  | refine LeO.ite ?_ ?_
  | refine LeO.bind ?_ (fun _ => ?_)
set_option maxHeartbeats 8000000 in
set_option maxRecDepth 100000 in
theorem Qz1.calls (k : Nat) (A0 : Option Addr) (c0 : Nat) (l0 : List (S45)) (A1 : Option Addr) (c1 : Nat) (l1 : List (S45)) (r : Bool) (w : World) (hr0 : Kd.C k45 w A0 l0.length l0) (hc0 : l0.length ≤ c0) (hr1 : Kd.C k45 w A1 l1.length l1) (hc1 : l1.length ≤ c1) (h : Qz1.f k l0 l1 = some r) :
 Calls Try.prog 23 #[.slice A0 l0.length c0, .slice A1 l1.length c1] w fun e w' => e = .returned (.bool r) ∧ Drawn0 w w' := by
 have hu45 := Try.underlying45
 have HR0 := Qa.mk hr0
 have HC0 := Qa.mk hc0
 clear hr0 hc0
 have HR1 := Qa.mk hr1
 have HC1 := Qa.mk hc1
 clear hr1 hc1
 have H : (if (l0.length : Int) = (l1.length : Int) then (Qz1.l0 k l0 l1 0) else (some false)) = some r := h
 clear h
 by_cases c3 : (l0.length : Int) = (l1.length : Int)
 ·
  rw [if_pos c3] at H
  have c3b0 : ((l0.length : Int) == (l1.length : Int)) = true := beq_iff_eq.mpr c3
  have c3b1 : ((l0.length : Int) != (l1.length : Int)) = false := bne_eq_false_iff_eq.mpr c3
  have c3b2 : (l0.length == l1.length) = true := by first | simpa using c3 | (simp at c3 ⊢; omega)
  clear c3
  have H' := Qa.mk H
  clear H
  go_enter Try.func23, Try.ntmps23
  go_wp2
  repeat (go_quiet (fail); try go_wp2)
  go_loopg [5] k (fun kq v5 w' => ∃ (x5_1 : Int), v5 = .int .i64 x5_1 ∧ Qa (Qz1.l0 kq l0 l1 x5_1 = some r) ∧ Qa (kq ≤ k) ∧ Drawn0 w w')
  case atStart => exact ⟨(0), (by first | rfl | (simp; done) | (simp [*]; done)), H', ⟨Nat.le_refl _⟩, by repeat (first | exact Drawn0.refl _ | apply Drawn0.step)⟩
  case round =>
   clear H'
   try clear c1
   try clear c2
   try clear p2
   try clear c3
   try clear c3b0
   try clear c3b1
   try clear c3b2
   obtain ⟨x5_1, rfl, HA, HK1, ⟨m1, rfl⟩⟩ := hrel
   cases gk with
   | zero => exact absurd HA.out (by simp [Qz1.l0])
   | succ k1 =>
    have H := HA.out
    clear HA
    simp only [Qz1.l0] at H
    by_cases c4 : x5_1 < (l0.length : Int)
    ·
     rw [if_pos c4] at H
     have c4b0 : decide (x5_1 < (l0.length : Int)) = true := decide_eq_true c4
     clear c4
     by_cases c5 : 0 ≤ x5_1
     ·
      rw [if_pos c5] at H
      have c5b0 : decide (0 ≤ x5_1) = true := decide_eq_true c5
      clear c5
      by_cases c6 : x5_1 < (l1.length : Int)
      ·
       rw [if_pos c6] at H
       have c6b0 : decide (x5_1 < (l1.length : Int)) = true := decide_eq_true c6
       clear c6
       by_cases c7 : (!(((rd_T45 l0 x5_1).f0) == ((rd_T45 l1 x5_1).f0)) || (!(((rd_T45 l0 x5_1).f1) == ((rd_T45 l1 x5_1).f1)) || (!(((rd_T45 l0 x5_1).f2) == ((rd_T45 l1 x5_1).f2))))) = true
       ·
        rw [if_pos c7] at H
        have c7b0 : (!(((rd_T45 l0 x5_1).f0) == ((rd_T45 l1 x5_1).f0)) || (!(((rd_T45 l0 x5_1).f1) == ((rd_T45 l1 x5_1).f1)) || (!(((rd_T45 l0 x5_1).f2) == ((rd_T45 l1 x5_1).f2))))) = true := c7
        clear c7
        obtain rfl := Option.some.inj H
        have p301 : 0 ≤ (x5_1 : Int) := of_decide_eq_true (by first | (with_reducible assumption) | assumption)
        have q301 : x5_1 < (l0.length : Int) := of_decide_eq_true (by first | (with_reducible assumption) | assumption)
        obtain ⟨ad301, e301, hx301_0, hx301_1, hx301_2⟩ := at_T45 HR0.out x5_1 p301 q301
        cases e301
        replace p301 := eq_true p301
        replace q301 := eq_true q301
        have p302 : 0 ≤ (x5_1 : Int) := of_decide_eq_true (by first | (with_reducible assumption) | assumption)
        have q302 : x5_1 < (l1.length : Int) := of_decide_eq_true (by first | (with_reducible assumption) | assumption)
        obtain ⟨ad302, e302, hx302_0, hx302_1, hx302_2⟩ := at_T45 HR1.out x5_1 p302 q302
        cases e302
        replace p302 := eq_true p302
        replace q302 := eq_true q302
        go_wp2
        repeat (go_quiet (fail); try go_wp2)
        go_ret
        exact ⟨by first | rfl | (simp; done) | (simp [*]; done) | (refine congrArg (fun b_ => Ending.returned (Value.bool b_)) ?_; rw [Bool.eq_iff_iff]; simp; done), by repeat (first | exact Drawn0.refl _ | apply Drawn0.step)⟩
       ·
        rw [if_neg c7] at H
        have c7b0 : (!(((rd_T45 l0 x5_1).f0) == ((rd_T45 l1 x5_1).f0)) || (!(((rd_T45 l0 x5_1).f1) == ((rd_T45 l1 x5_1).f1)) || (!(((rd_T45 l0 x5_1).f2) == ((rd_T45 l1 x5_1).f2))))) = false := by simpa using c7
        clear c7
        have H' := Qa.mk H
        clear H
        have p301 : 0 ≤ (x5_1 : Int) := of_decide_eq_true (by first | (with_reducible assumption) | assumption)
        have q301 : x5_1 < (l0.length : Int) := of_decide_eq_true (by first | (with_reducible assumption) | assumption)
        obtain ⟨ad301, e301, hx301_0, hx301_1, hx301_2⟩ := at_T45 HR0.out x5_1 p301 q301
        cases e301
        replace p301 := eq_true p301
        replace q301 := eq_true q301
        have p302 : 0 ≤ (x5_1 : Int) := of_decide_eq_true (by first | (with_reducible assumption) | assumption)
        have q302 : x5_1 < (l1.length : Int) := of_decide_eq_true (by first | (with_reducible assumption) | assumption)
        obtain ⟨ad302, e302, hx302_0, hx302_1, hx302_2⟩ := at_T45 HR1.out x5_1 p302 q302
        cases e302
        replace p302 := eq_true p302
        replace q302 := eq_true q302
        go_wp2
        repeat (go_quiet (fail); try go_wp2)
        go_roundg k1
        case measure => have := HK1.out; omega
        case rel => exact ⟨(wrap64 (x5_1 + 1)), (by first | rfl | (simp; done) | (simp [*]; done)), H', ⟨by have := HK1.out; omega⟩, by repeat (first | exact Drawn0.refl _ | apply Drawn0.step)⟩
      ·
       rw [if_neg c6] at H
       exact absurd H (by simp)
     ·
      rw [if_neg c5] at H
      exact absurd H (by simp)
    ·
     rw [if_neg c4] at H
     have c4b0 : decide (x5_1 < (l0.length : Int)) = false := decide_eq_false c4
     clear c4
     obtain rfl := Option.some.inj H
     go_wp2
     repeat (go_quiet (fail); try go_wp2)
     go_ret
     exact ⟨by first | rfl | (simp; done) | (simp [*]; done) | (refine congrArg (fun b_ => Ending.returned (Value.bool b_)) ?_; rw [Bool.eq_iff_iff]; simp; done), by repeat (first | exact Drawn0.refl _ | apply Drawn0.step)⟩
 ·
  rw [if_neg c3] at H
  have c3b0 : ((l0.length : Int) == (l1.length : Int)) = false := beq_eq_false_iff_ne.mpr c3
  have c3b1 : ((l0.length : Int) != (l1.length : Int)) = true := bne_iff_ne.mpr c3
  have c3b2 : (l0.length == l1.length) = false := by first | simpa using c3 | (simp at c3 ⊢; omega)
  obtain rfl := Option.some.inj H
  go_enter Try.func23, Try.ntmps23
  go_wp2
  repeat (go_quiet (fail); try go_wp2)
  go_ret
  exact ⟨by first | rfl | (simp; done) | (simp [*]; done) | (refine congrArg (fun b_ => Ending.returned (Value.bool b_)) ?_; rw [Bool.eq_iff_iff]; simp; done), by repeat (first | exact Drawn0.refl _ | apply Drawn0.step)⟩
end Go.Proofs.Ythgedejnpgcacaa.V
namespace Go.Proofs.Ythgedejnpgcacaa.V
open Go.RowKit Go.Proofs.YthgedejnpgcacaaW.PrintWords Go.Proofs.YthgedejnpgcacaaW.PrintLast Go.Proofs.YthgedejnpgcacaaW.PrintMore
attribute [local go_sem] max2_int min2_int max_two min_two max_three min_three max_four min_four tdiv_most
set_option linter.unusedVariables false
set_option linter.unusedSimpArgs false
def Qv1.l0 : Nat → List (S45) → List (S51) → List (S56) → Option ((List (S45)))
 | 0, _, _, _ => none
 | k + 1, x3, x304000, x304001 => (Qa2.f k x304000 x304001 x3).bind fun t307 => ((Qz1.f k x3 t307).bind fun t310 => (if t310 = true then (some x3) else (Qv1.l0 k t307 x304000 x304001)))
def Qv1.f (k : Nat) (l0_0 : List (S51)) (l0_1 : List (S56)) : Option ((List (S45))) := if 0 ≤ (l0_1.length : Int) then (if ((l0_1.length : Int) : Int).toNat ≤ 93824992236885 then (Qv1.l0 k (List.replicate ((l0_1.length : Int) : Int).toNat z45) l0_0 l0_1) else (none)) else (none)
theorem Qv1.mono_l : ∀ k, (∀ y0 y1 y2, LeO (Qv1.l0 k y0 y1 y2) (Qv1.l0 (k + 1) y0 y1 y2))
 | 0 => fun _ _ _ r h => by simp [Qv1.l0] at h
 | k + 1 => by
  have ih0 := Qv1.mono_l k
  ·
   intro y0 y1 y2
   unfold Qv1.l0
   repeat' first
   | (with_reducible exact ih0 _ _ _)
   | (with_reducible exact Qz1.mono _ _ _)
   | (with_reducible exact Qa2.mono _ _ _ _)
   | (with_reducible exact LeO.refl _)
   | (with_reducible exact LeO.none _)
   | (with_reducible refine LeO.ite ?_ ?_)
   | (with_reducible refine LeO.bind ?_ (fun _ => ?_))
   | exact ih0 _ _ _
   | exact Qz1.mono _ _ _
   | exact Qa2.mono _ _ _ _
   | exact LeO.none _
   | refine LeO.ite ?_ ?_
   | refine LeO.bind ?_ (fun _ => ?_)
theorem Qv1.mono : ∀ a0 a1 k, LeO (Qv1.f k a0 a1) (Qv1.f (k + 1) a0 a1) := by
 intro a0 a1 k
 have ih0 := Qv1.mono_l k
 unfold Qv1.f
 repeat' first
  | (with_reducible exact ih0 _ _ _)
  | (with_reducible exact Qz1.mono _ _ _)
  | (with_reducible exact Qa2.mono _ _ _ _)
  | (with_reducible exact LeO.refl _)
  | (with_reducible exact LeO.none _)
  | (with_reducible refine LeO.ite ?_ ?_)
  | (with_reducible refine LeO.bind ?_ (fun _ => ?_))
  | exact ih0 _ _ _
  | exact Qz1.mono _ _ _
  | exact Qa2.mono _ _ _ _
  | exact LeO.none _
  | refine LeO.ite ?_ ?_
  | refine LeO.bind ?_ (fun _ => ?_)
set_option maxHeartbeats 8000000 in
set_option maxRecDepth 100000 in
theorem Qv1.calls (k : Nat) (A0_0 : Option Addr) (c0_0 : Nat) (l0_0 : List (S51)) (A0_1 : Option Addr) (c0_1 : Nat) (l0_1 : List (S56)) (r : List (S45)) (w : World) (hr0_0 : Kd.C k51 w A0_0 l0_0.length l0_0) (hc0_0 : l0_0.length ≤ c0_0) (hr0_1 : Kd.C k56 w A0_1 l0_1.length l0_1) (hc0_1 : l0_1.length ≤ c0_1) (h : Qv1.f k l0_0 l0_1 = some r) :
 Calls Try.prog 17 #[.agg #[.slice A0_0 l0_0.length c0_0, .slice A0_1 l0_1.length c0_1]] w fun e w' => ∃ v0_ : Value, e = .returned (v0_) ∧ Kd.R k45 45 w' w.heap.size (fun _ => True) v0_ r ∧ Below w.heap.size w w' := by
 have hu25 := Try.underlying25
 have HR0_0 := Qa.mk hr0_0
 have HC0_0 := Qa.mk hc0_0
 clear hr0_0 hc0_0
 have HR0_1 := Qa.mk hr0_1
 have HC0_1 := Qa.mk hc0_1
 clear hr0_1 hc0_1
 have HB := Qa.mk (Below.refl w.heap.size w)
 have H : (if 0 ≤ (l0_1.length : Int) then (if ((l0_1.length : Int) : Int).toNat ≤ 93824992236885 then (Qv1.l0 k (List.replicate ((l0_1.length : Int) : Int).toNat z45) l0_0 l0_1) else (none)) else (none)) = some r := h
 clear h
 by_cases c2 : 0 ≤ (l0_1.length : Int)
 ·
  rw [if_pos c2] at H
  have c2b0 := eq_true c2
  have c2b1 : decide (0 ≤ (l0_1.length : Int)) = true := decide_eq_true c2
  clear c2
  by_cases c3 : ((l0_1.length : Int) : Int).toNat ≤ 93824992236885
  ·
   rw [if_pos c3] at H
   have c3b0 := eq_true c3
   have c3b1 : decide (((l0_1.length : Int) : Int).toNat ≤ 93824992236885) = true := decide_eq_true c3
   clear c3
   obtain ⟨y304, hy304⟩ : ∃ y_ : List (S45), y_ = (List.replicate ((l0_1.length : Int) : Int).toNat z45) := ⟨_, rfl⟩
   replace H : (Qv1.l0 k y304 l0_0 l0_1) = some r := by first | (rw [hy304]; with_reducible exact H) | (have H2_ := (Option.bind_some _ _).symm.trans H; rw [hy304]; with_reducible exact H2_) | (have H2_ := (Option.bind_some _ _).symm.trans H; with_reducible exact H2_) | with_reducible exact H | (rw [hy304]; exact H) | exact H
   have Ny304 := Qa.mk hy304
   clear hy304
   have H' := Qa.mk H
   clear H
   go_enter Try.func17, Try.ntmps17
   go_wp2_with (first | ((with_reducible refine Qc1 (N := 1) rfl ?_); refine Ql1 ?hg (N := 1) ?hd (cs := #[.slice A0_0 l0_0.length c0_0, .slice A0_1 l0_1.length c0_1]) (t := 25) ?hr ?_; (case hd => rfl); (case hg => rfl); (case hr => first | (go_simp; done) | (go_simp; rfl)); intro gb303 hg w4 hbox hb; have n0_ := Qa.mk (Qm (by repeat (first | (with_reducible first | exact HB.out | apply Qd | apply Qf | apply Qe) | exact HB.out)) hb); have n1_ := Qa.mk (hbox); have n2_ := Qa.mk ((by rw [hg]; exact (Qv (by repeat (first | (with_reducible first | exact HB.out | apply Qd | apply Qf | apply Qe) | exact HB.out))) : w.heap.size ≤ gb303)); have n3_ := Qa.mk ((by rw [hg]; exact (Qv (by repeat (first | (with_reducible first | exact HB.out | apply Qd | apply Qf | apply Qe) | exact HB.out))) : w.heap.size ≤ gb303)); clear HB; have HB := n0_; have BK303 := n1_; have GW303 := n2_; have GE303 := n3_; clear n0_ n1_ n2_ n3_; clear hb hbox hg; have hcz5_0 : w4.cell? ⟨gb303, 0, none⟩ = some (.slice A0_0 l0_0.length c0_0) := (Qb BK303.out 0).trans rfl; have hcz5_1 : w4.cell? ⟨gb303, 1, none⟩ = some (.slice A0_1 l0_1.length c0_1) := (Qb BK303.out 1).trans rfl; have hfz5_0 := Qc BK303.out 0; have hfz5_1 := Qc BK303.out 1) | ((with_reducible refine Qc1 (N := 8) rfl ?_); refine Kd.R_make k45 _ 45 rfl (N := 8) rfl 46 _ _ rfl (l0_1.length : Int) rfl rfl Try.underlying46 (.agg #[(.bool false), (.bool false), (.bool false)]) 3 info45 rfl (by decide) (by omega) z45 (ok := fun _ => True) (okp := fun _ => True) (k45_mkM _ _ _ z45 ) (fun _ hk => hk) trivial (of_decide_eq_true (by first | (with_reducible assumption) | assumption)) (Nat.le_trans (Nat.mul_le_mul_right _ (of_decide_eq_true (by first | (with_reducible assumption) | assumption) : (l0_1.length : Int).toNat ≤ 93824992236885)) (by omega)) (Below.refl _ _) (Nat.le_refl _) ?_; intro v305 w6 ho7 hb hg_ hnew_; clear hg_ hnew_; (first | rw [← Ny304.out] at ho7 | (simp only [Int.reduceToNat] at ho7; rw [← Ny304.out] at ho7)); have n0_ := Qa.mk (Kd.R_lower ho7 (Qv (by repeat (first | (with_reducible first | exact HB.out | apply Qd | apply Qf | apply Qe | refine Qg ?_ GE303.out) | exact HB.out)))); have n1_ := Qa.mk (Qh (g := gb303) (o := .cells #[.slice A0_0 l0_0.length c0_0, .slice A0_1 l0_1.length c0_1] 25 (0, 0)) (by (with_reducible repeat (first | refine Qk ?_ _ | refine Qj ?_ | refine Qi ?_ _)); exact BK303.out) hb); have n2_ := Qa.mk (Qm (by repeat (first | (with_reducible first | exact HB.out | apply Qd | apply Qf | apply Qe | refine Qg ?_ GE303.out) | exact HB.out)) hb); clear BK303; clear HB; have HO306 := n0_; have BK303 := n1_; have HB := n2_; clear n0_ n1_ n2_; clear hb ho7))
   go_loopg [3] k (fun kq v3 w' => ∃ (x3_1 : List (S45)), Qa (Qv1.l0 kq x3_1 l0_0 l0_1 = some r) ∧ Qa (kq ≤ k) ∧ Qa (Kd.R k45 45 w' w.heap.size (fun _ => True) v3 x3_1) ∧ Qa (w'.heap[gb303]? = some (.cells #[(.slice A0_0 l0_0.length c0_0), (.slice A0_1 l0_1.length c0_1)] 25 (0, 0))) ∧ Qa (Below w.heap.size w w'))
   case atStart => exact ⟨(y304), H', ⟨Nat.le_refl _⟩, ⟨by (with_reducible repeat (first | apply Kd.Qs | apply Kd.Qt | apply Kd.Qu)); exact HO306.out⟩, ⟨by (with_reducible repeat (first | refine Qk ?_ _ | refine Qj ?_ | refine Qi ?_ _)); exact BK303.out⟩, ⟨by repeat (first | (with_reducible first | exact HB.out | apply Qd | apply Qf | apply Qe | refine Qg ?_ GE303.out) | exact HB.out)⟩⟩
   case round =>
    clear H'
    try clear c1
    try clear c2
    try clear c2b0
    try clear c2b1
    try clear p2
    try clear c3
    try clear c3b0
    try clear c3b1
    try clear hcz5_0
    try clear hcz5_1
    try clear hfz5_0
    try clear hfz5_1
    obtain ⟨x3_1, HA, HK1, HO_3, BK303, HB⟩ := hrel
    cases gk with
    | zero => exact absurd HA.out (by simp [Qv1.l0])
    | succ k1 =>
     have H := HA.out
     clear HA
     simp only [Qv1.l0] at H
     replace H := Option.bind_eq_some_iff.mp H
     obtain ⟨t307, A80, H⟩ := H
     replace H : ((Qz1.f k1 x3_1 t307).bind fun t310 => (if t310 = true then (some x3_1) else (Qv1.l0 k1 t307 l0_0 l0_1))) = some r := H
     have A8 := Qa.mk A80
     clear A80
     replace H := Option.bind_eq_some_iff.mp H
     obtain ⟨t310, A90, H⟩ := H
     replace H : (if t310 = true then (some x3_1) else (Qv1.l0 k1 t307 l0_0 l0_1)) = some r := H
     have A9 := Qa.mk A90
     clear A90
     by_cases c10 : t310 = true
     ·
      subst c10
      have H1 : (some x3_1) = some r := by rw [if_pos rfl] at H; exact H
      clear H
      have H := H1
      clear H1
      obtain rfl := Option.some.inj H
      have hcz11_0 : wr.cell? ⟨gb303, 0, none⟩ = some (.slice A0_0 l0_0.length c0_0) := (Qb BK303.out 0).trans rfl
      have hcz11_1 : wr.cell? ⟨gb303, 1, none⟩ = some (.slice A0_1 l0_1.length c0_1) := (Qb BK303.out 1).trans rfl
      have hfz11_0 := Qc BK303.out 0
      have hfz11_1 := Qc BK303.out 1
      obtain ⟨Ao12, co12, eo12⟩ := Kd.R_slice HO_3.out
      subst eo12
      go_wp2_with (first | ((with_reducible refine Qd1 (f := 22) rfl ?_); refine goesL_ (some 11) rfl rfl Try.func22 (by kernel_rfl) rfl #[.agg #[.slice A0_0 l0_0.length c0_0, .slice A0_1 l0_1.length c0_1], .slice Ao12 x3_1.length co12] rfl (by (try simp only [List.map_toArray, List.map_cons, List.map_nil]); first | done | rfl | (simp only [List.length_drop, List.length_take]; rfl)) ?_; (with_reducible refine (Qa2.calls k1 _ _ l0_0 _ _ l0_1 _ _ x3_1 t307 _ ?side1 ?side2 ?side3 ?side4 ?side5 ?side6 A8.out).mono ?_); (case side1 => repeat (first | exact (Kd.Qn HR0_0.out HB.out) | (with_reducible refine Kd.Qw ?_ _) | (with_reducible refine Kd.Qy ?_ _) | (with_reducible refine Kd.Qx ?_))); (case side2 => exact HC0_0.out); (case side3 => repeat (first | exact (Kd.Qn HR0_1.out HB.out) | (with_reducible refine Kd.Qw ?_ _) | (with_reducible refine Kd.Qy ?_ _) | (with_reducible refine Kd.Qx ?_))); (case side4 => exact HC0_1.out); (case side5 => repeat (first | exact (Kd.R_reads' HO_3.out).2.2 | (with_reducible refine Kd.Qw ?_ _) | (with_reducible refine Kd.Qy ?_ _) | (with_reducible refine Kd.Qx ?_))); (case side6 => exact (Kd.R_reads' HO_3.out).2.1); rintro e w13 ⟨v308, rfl, ho0, hb⟩; refine ⟨_, rfl, ?_⟩; have n0_ := Qa.mk (Kd.R_elder' (by (with_reducible repeat (first | apply Kd.Qs | apply Kd.Qt | apply Kd.Qu)); exact HO_3.out) (Kd.R_base ho0) hb); have n1_ := Qa.mk (Kd.R_lower (Kd.R_new' ho0 (Kd.R_lt (by (with_reducible repeat (first | apply Kd.Qs | apply Kd.Qt | apply Kd.Qu)); exact HO_3.out))) (Qv (by repeat (first | (with_reducible first | exact HB.out | apply Qd | apply Qf | apply Qe | refine Qg ?_ GE303.out) | exact HB.out)))); have n2_ := Qa.mk (Qh (g := gb303) (o := .cells #[.slice A0_0 l0_0.length c0_0, .slice A0_1 l0_1.length c0_1] 25 (0, 0)) (by (with_reducible repeat (first | refine Qk ?_ _ | refine Qj ?_ | refine Qi ?_ _)); exact BK303.out) hb); have n3_ := Qa.mk (Qm (by repeat (first | (with_reducible first | exact HB.out | apply Qd | apply Qf | apply Qe | refine Qg ?_ GE303.out) | exact HB.out)) hb); clear HO_3; clear BK303; clear HB; have HO_3 := n0_; have HO309 := n1_; have BK303 := n2_; have HB := n3_; clear n0_ n1_ n2_ n3_; (try clear hb); (try clear hb2); (try clear hk); (try clear hi); (try clear ho0); obtain ⟨Ao14, co14, eo14⟩ := Kd.R_slice HO309.out; subst eo14) | ((with_reducible refine Qd1 (f := 23) rfl ?_); refine goesL_ (some 14) rfl rfl Try.func23 (by kernel_rfl) rfl #[.slice Ao12 x3_1.length co12, .slice Ao14 t307.length co14] rfl (by (try simp only [List.map_toArray, List.map_cons, List.map_nil]); first | done | rfl | (simp only [List.length_drop, List.length_take]; rfl)) ?_; (with_reducible refine (Qz1.calls k1 _ _ x3_1 _ _ t307 true _ ?side1 ?side2 ?side3 ?side4 A9.out).mono ?_); (case side1 => repeat (first | exact (Kd.R_reads' HO_3.out).2.2 | (with_reducible refine Kd.Qw ?_ _) | (with_reducible refine Kd.Qy ?_ _) | (with_reducible refine Kd.Qx ?_))); (case side2 => exact (Kd.R_reads' HO_3.out).2.1); (case side3 => repeat (first | exact (Kd.R_reads' HO309.out).2.2 | (with_reducible refine Kd.Qw ?_ _) | (with_reducible refine Kd.Qy ?_ _) | (with_reducible refine Kd.Qx ?_))); (case side4 => exact (Kd.R_reads' HO309.out).2.1); rintro e w' ⟨rfl, ⟨nd, rfl⟩⟩; refine ⟨_, rfl, ?_⟩))
      go_ret
      exact ⟨_, by first | rfl | (simp [Qr, Qq] <;> rfl) | (simp [*, Qr, Qq] <;> rfl), by (with_reducible repeat (first | apply Kd.Qs | apply Kd.Qt | apply Kd.Qu)); exact Kd.R_mono HO_3.out (fun _ hk => trivial), by repeat (first | (with_reducible first | exact HB.out | apply Qd | apply Qf | apply Qe | refine Qg ?_ GE303.out) | exact HB.out)⟩
     ·
      replace c10 := Bool.eq_false_iff.mpr c10
      subst c10
      have H1 : (Qv1.l0 k1 t307 l0_0 l0_1) = some r := by rw [if_neg (show ¬ (false = true) by decide)] at H; exact H
      clear H
      have H := H1
      clear H1
      have H' := Qa.mk H
      clear H
      have hcz15_0 : wr.cell? ⟨gb303, 0, none⟩ = some (.slice A0_0 l0_0.length c0_0) := (Qb BK303.out 0).trans rfl
      have hcz15_1 : wr.cell? ⟨gb303, 1, none⟩ = some (.slice A0_1 l0_1.length c0_1) := (Qb BK303.out 1).trans rfl
      have hfz15_0 := Qc BK303.out 0
      have hfz15_1 := Qc BK303.out 1
      obtain ⟨Ao16, co16, eo16⟩ := Kd.R_slice HO_3.out
      subst eo16
      go_wp2_with (first | ((with_reducible refine Qd1 (f := 22) rfl ?_); refine goesL_ (some 11) rfl rfl Try.func22 (by kernel_rfl) rfl #[.agg #[.slice A0_0 l0_0.length c0_0, .slice A0_1 l0_1.length c0_1], .slice Ao16 x3_1.length co16] rfl (by (try simp only [List.map_toArray, List.map_cons, List.map_nil]); first | done | rfl | (simp only [List.length_drop, List.length_take]; rfl)) ?_; (with_reducible refine (Qa2.calls k1 _ _ l0_0 _ _ l0_1 _ _ x3_1 t307 _ ?side1 ?side2 ?side3 ?side4 ?side5 ?side6 A8.out).mono ?_); (case side1 => repeat (first | exact (Kd.Qn HR0_0.out HB.out) | (with_reducible refine Kd.Qw ?_ _) | (with_reducible refine Kd.Qy ?_ _) | (with_reducible refine Kd.Qx ?_))); (case side2 => exact HC0_0.out); (case side3 => repeat (first | exact (Kd.Qn HR0_1.out HB.out) | (with_reducible refine Kd.Qw ?_ _) | (with_reducible refine Kd.Qy ?_ _) | (with_reducible refine Kd.Qx ?_))); (case side4 => exact HC0_1.out); (case side5 => repeat (first | exact (Kd.R_reads' HO_3.out).2.2 | (with_reducible refine Kd.Qw ?_ _) | (with_reducible refine Kd.Qy ?_ _) | (with_reducible refine Kd.Qx ?_))); (case side6 => exact (Kd.R_reads' HO_3.out).2.1); rintro e w17 ⟨v308, rfl, ho0, hb⟩; refine ⟨_, rfl, ?_⟩; have n0_ := Qa.mk (Kd.R_elder' (by (with_reducible repeat (first | apply Kd.Qs | apply Kd.Qt | apply Kd.Qu)); exact HO_3.out) (Kd.R_base ho0) hb); have n1_ := Qa.mk (Kd.R_lower (Kd.R_new' ho0 (Kd.R_lt (by (with_reducible repeat (first | apply Kd.Qs | apply Kd.Qt | apply Kd.Qu)); exact HO_3.out))) (Qv (by repeat (first | (with_reducible first | exact HB.out | apply Qd | apply Qf | apply Qe | refine Qg ?_ GE303.out) | exact HB.out)))); have n2_ := Qa.mk (Qh (g := gb303) (o := .cells #[.slice A0_0 l0_0.length c0_0, .slice A0_1 l0_1.length c0_1] 25 (0, 0)) (by (with_reducible repeat (first | refine Qk ?_ _ | refine Qj ?_ | refine Qi ?_ _)); exact BK303.out) hb); have n3_ := Qa.mk (Qm (by repeat (first | (with_reducible first | exact HB.out | apply Qd | apply Qf | apply Qe | refine Qg ?_ GE303.out) | exact HB.out)) hb); clear HO_3; clear BK303; clear HB; have HO_3 := n0_; have HO309 := n1_; have BK303 := n2_; have HB := n3_; clear n0_ n1_ n2_ n3_; (try clear hb); (try clear hb2); (try clear hk); (try clear hi); (try clear ho0); obtain ⟨Ao18, co18, eo18⟩ := Kd.R_slice HO309.out; subst eo18) | ((with_reducible refine Qd1 (f := 23) rfl ?_); refine goesL_ (some 14) rfl rfl Try.func23 (by kernel_rfl) rfl #[.slice Ao16 x3_1.length co16, .slice Ao18 t307.length co18] rfl (by (try simp only [List.map_toArray, List.map_cons, List.map_nil]); first | done | rfl | (simp only [List.length_drop, List.length_take]; rfl)) ?_; (with_reducible refine (Qz1.calls k1 _ _ x3_1 _ _ t307 false _ ?side1 ?side2 ?side3 ?side4 A9.out).mono ?_); (case side1 => repeat (first | exact (Kd.R_reads' HO_3.out).2.2 | (with_reducible refine Kd.Qw ?_ _) | (with_reducible refine Kd.Qy ?_ _) | (with_reducible refine Kd.Qx ?_))); (case side2 => exact (Kd.R_reads' HO_3.out).2.1); (case side3 => repeat (first | exact (Kd.R_reads' HO309.out).2.2 | (with_reducible refine Kd.Qw ?_ _) | (with_reducible refine Kd.Qy ?_ _) | (with_reducible refine Kd.Qx ?_))); (case side4 => exact (Kd.R_reads' HO309.out).2.1); rintro e w' ⟨rfl, ⟨nd, rfl⟩⟩; refine ⟨_, rfl, ?_⟩))
      go_roundg k1
      case measure => have := HK1.out; omega
      case rel => exact ⟨(t307), H', ⟨by have := HK1.out; omega⟩, ⟨by (with_reducible repeat (first | apply Kd.Qs | apply Kd.Qt | apply Kd.Qu)); exact Kd.R_mono HO309.out (fun _ hk => trivial)⟩, ⟨by (with_reducible repeat (first | refine Qk ?_ _ | refine Qj ?_ | refine Qi ?_ _)); exact BK303.out⟩, ⟨by repeat (first | (with_reducible first | exact HB.out | apply Qd | apply Qf | apply Qe | refine Qg ?_ GE303.out) | exact HB.out)⟩⟩
  ·
   rw [if_neg c3] at H
   exact absurd H (by simp)
 ·
  rw [if_neg c2] at H
  exact absurd H (by simp)
end Go.Proofs.Ythgedejnpgcacaa.V
namespace Go.Proofs.Ythgedejnpgcacaa.V
open Go.RowKit Go.Proofs.YthgedejnpgcacaaW.PrintWords Go.Proofs.YthgedejnpgcacaaW.PrintLast Go.Proofs.YthgedejnpgcacaaW.PrintMore
attribute [local go_sem] max2_int min2_int max_two min_two max_three min_three max_four min_four tdiv_most
set_option linter.unusedVariables false
set_option linter.unusedSimpArgs false
def Qb2.j0 : Nat → ByteArray → Int → Bool → List (S51) → List (S56) → Int → Int → Option (Bool)
 | 0, _, _, _, _, _, _, _ => none
 | k + 1, x1, x3, x21, x312000, x312001, x313000, x313001 => if x21 = true then ((Qe2.f k).bind fun t315 => (some t315)) else (if (x312001.length : Int) = 0 then (none) else (if (wrap64 ((x1.size : Int) + 1)) = 0 then (none) else ((naive_Node.f k x312000 x312001 (Int.tmod (wrap64 (x313000)) (x312001.length : Int)) x1 (Int.tmod (wrap64 (x313001)) (wrap64 ((x1.size : Int) + 1))) x3).bind fun bt316 => ((Qv1.f k x312000 x312001).bind fun t320 => (if 0 ≤ (Int.tmod (wrap64 (x313000)) (x312001.length : Int)) then (if (Int.tmod (wrap64 (x313000)) (x312001.length : Int)) < (t320.length : Int) then (if bt316.1 = true then (if bt316.2.1 < 0 then (some ((rd_T45 t320 (Int.tmod (wrap64 (x313000)) (x312001.length : Int))).f2)) else (if bt316.2.1 = (Int.tmod (wrap64 (x313001)) (wrap64 ((x1.size : Int) + 1))) then (some ((rd_T45 t320 (Int.tmod (wrap64 (x313000)) (x312001.length : Int))).f0)) else (if (rd_T45 t320 (Int.tmod (wrap64 (x313000)) (x312001.length : Int))).f1 = true then (some (decide (bt316.2.1 > (Int.tmod (wrap64 (x313001)) (wrap64 ((x1.size : Int) + 1)))))) else (some false)))) else (some true)) else (none)) else (none))))))
def Qb2.f (k : Nat) (l0_0 : List (S51)) (l0_1 : List (S56)) (a1 : ByteArray) (a2_0 : Int) (a2_1 : Int) (a3 : Int) : Option (Bool) := (Qe2.f k).bind fun t313 => (if t313 = true then ((vetchlaw18_fits.f k l0_0 l0_1 a1 a3).bind fun t314 => (Qb2.j0 k a1 a3 (!t314) l0_0 l0_1 a2_0 a2_1)) else (Qb2.j0 k a1 a3 true l0_0 l0_1 a2_0 a2_1))
theorem Qb2.mono_l : ∀ k, (∀ y0 y1 y2 y3 y4 y5 y6, LeO (Qb2.j0 k y0 y1 y2 y3 y4 y5 y6) (Qb2.j0 (k + 1) y0 y1 y2 y3 y4 y5 y6))
 | 0 => fun _ _ _ _ _ _ _ r h => by simp [Qb2.j0] at h
 | k + 1 => by
  have ih0 := Qb2.mono_l k
  ·
   intro y0 y1 y2 y3 y4 y5 y6
   unfold Qb2.j0
   repeat' first
   | (with_reducible exact ih0 _ _ _ _ _ _ _)
   | (with_reducible exact naive_Node.mono _ _ _ _ _ _ _)
   | (with_reducible exact Qe2.mono _)
   | (with_reducible exact vetchlaw18_fits.mono _ _ _ _ _)
   | (with_reducible exact Qv1.mono _ _ _)
   | (with_reducible exact LeO.refl _)
   | (with_reducible exact LeO.none _)
   | (with_reducible refine LeO.ite ?_ ?_)
   | (with_reducible refine LeO.bind ?_ (fun _ => ?_))
   | exact ih0 _ _ _ _ _ _ _
   | exact naive_Node.mono _ _ _ _ _ _ _
   | exact Qe2.mono _
   | exact vetchlaw18_fits.mono _ _ _ _ _
   | exact Qv1.mono _ _ _
   | exact LeO.none _
   | refine LeO.ite ?_ ?_
   | refine LeO.bind ?_ (fun _ => ?_)
theorem Qb2.mono : ∀ a0 a1 a2 a3 a4 a5 k, LeO (Qb2.f k a0 a1 a2 a3 a4 a5) (Qb2.f (k + 1) a0 a1 a2 a3 a4 a5) := by
 intro a0 a1 a2 a3 a4 a5 k
 have ih0 := Qb2.mono_l k
 unfold Qb2.f
 repeat' first
  | (with_reducible exact ih0 _ _ _ _ _ _ _)
  | (with_reducible exact naive_Node.mono _ _ _ _ _ _ _)
  | (with_reducible exact Qe2.mono _)
  | (with_reducible exact vetchlaw18_fits.mono _ _ _ _ _)
  | (with_reducible exact Qv1.mono _ _ _)
  | (with_reducible exact LeO.refl _)
  | (with_reducible exact LeO.none _)
  | (with_reducible refine LeO.ite ?_ ?_)
  | (with_reducible refine LeO.bind ?_ (fun _ => ?_))
  | exact ih0 _ _ _ _ _ _ _
  | exact naive_Node.mono _ _ _ _ _ _ _
  | exact Qe2.mono _
  | exact vetchlaw18_fits.mono _ _ _ _ _
  | exact Qv1.mono _ _ _
  | exact LeO.none _
  | refine LeO.ite ?_ ?_
  | refine LeO.bind ?_ (fun _ => ?_)
set_option maxHeartbeats 8000000 in
set_option maxRecDepth 100000 in
theorem Qb2.calls (k : Nat) (A0_0 : Option Addr) (c0_0 : Nat) (l0_0 : List (S51)) (A0_1 : Option Addr) (c0_1 : Nat) (l0_1 : List (S56)) (a1 : ByteArray) (a2_0 : Int) (a2_1 : Int) (a3 : Int) (r : Bool) (w : World) (hr0_0 : Kd.C k51 w A0_0 l0_0.length l0_0) (hc0_0 : l0_0.length ≤ c0_0) (hr0_1 : Kd.C k56 w A0_1 l0_1.length l0_1) (hc0_1 : l0_1.length ≤ c0_1) (h : Qb2.f k l0_0 l0_1 a1 a2_0 a2_1 a3 = some r) :
 Calls Try.prog 7 #[.agg #[.slice A0_0 l0_0.length c0_0, .slice A0_1 l0_1.length c0_1], .string a1, .agg #[.int .u16 a2_0, .int .u16 a2_1], .int .i64 a3] w fun e w' => e = .returned (.bool r) ∧ Below w.heap.size w w' := by
 have hu25 := Try.underlying25
 have hu27 := Try.underlying27
 have hu32 := Try.underlying32
 have hu45 := Try.underlying45
 have HR0_0 := Qa.mk hr0_0
 have HC0_0 := Qa.mk hc0_0
 clear hr0_0 hc0_0
 have HR0_1 := Qa.mk hr0_1
 have HC0_1 := Qa.mk hc0_1
 clear hr0_1 hc0_1
 have HB := Qa.mk (Below.refl w.heap.size w)
 have H : ((Qe2.f k).bind fun t313 => (if t313 = true then ((vetchlaw18_fits.f k l0_0 l0_1 a1 a3).bind fun t314 => (Qb2.j0 k a1 a3 (!t314) l0_0 l0_1 a2_0 a2_1)) else (Qb2.j0 k a1 a3 true l0_0 l0_1 a2_0 a2_1))) = some r := h
 clear h
 have HC5 := Qa.mk H
 clear H
 go_enter Try.func7, Try.ntmps7
 go_upto_region 1 with (first | ((with_reducible refine Qc1 (N := 4) rfl ?_); refine Ql1 ?hg (N := 4) ?hd (cs := #[.slice A0_0 l0_0.length c0_0, .slice A0_1 l0_1.length c0_1]) (t := 25) ?hr ?_; (case hd => rfl); (case hg => rfl); (case hr => first | (go_simp; done) | (go_simp; rfl)); intro gb311 hg w6 hbox hb; have n0_ := Qa.mk (Qm (by repeat (first | (with_reducible first | exact HB.out | apply Qd | apply Qf | apply Qe) | exact HB.out)) hb); have n1_ := Qa.mk (hbox); have n2_ := Qa.mk ((by rw [hg]; exact (Qv (by repeat (first | (with_reducible first | exact HB.out | apply Qd | apply Qf | apply Qe) | exact HB.out))) : w.heap.size ≤ gb311)); have n3_ := Qa.mk ((by rw [hg]; exact (Qv (by repeat (first | (with_reducible first | exact HB.out | apply Qd | apply Qf | apply Qe) | exact HB.out))) : w.heap.size ≤ gb311)); clear HB; have HB := n0_; have BK311 := n1_; have GW311 := n2_; have GE311 := n3_; clear n0_ n1_ n2_ n3_; clear hb hbox hg) | ((with_reducible refine Qc1 (N := 6) rfl ?_); refine Ql1 ?hg (N := 6) ?hd (cs := #[.int .u16 a2_0, .int .u16 a2_1]) (t := 27) ?hr ?_; (case hd => rfl); (case hg => rfl); (case hr => first | (go_simp; done) | (go_simp; rfl)); intro gb312 hg w7 hbox hb; have n0_ := Qa.mk (Qh (g := gb311) (o := .cells #[.slice A0_0 l0_0.length c0_0, .slice A0_1 l0_1.length c0_1] 25 (0, 0)) (by (with_reducible repeat (first | refine Qk ?_ _ | refine Qj ?_ | refine Qi ?_ _)); exact BK311.out) hb); have n1_ := Qa.mk (Qm (by repeat (first | (with_reducible first | exact HB.out | apply Qd | apply Qf | apply Qe | refine Qg ?_ GE311.out) | exact HB.out)) hb); have n2_ := Qa.mk (hbox); have n3_ := Qa.mk ((by rw [hg]; exact (Qv (by repeat (first | (with_reducible first | exact HB.out | apply Qd | apply Qf | apply Qe | refine Qg ?_ GE311.out) | exact HB.out))) : w.heap.size ≤ gb312)); have n4_ := Qa.mk ((by rw [hg]; exact (Qv (by repeat (first | (with_reducible first | exact HB.out | apply Qd | apply Qf | apply Qe | refine Qg ?_ GE311.out) | exact HB.out))) : w.heap.size ≤ gb312)); have n5_ := Qa.mk ((by rw [hg]; exact Nat.ne_of_lt (blk_lt (g := gb311) (o := .cells #[.slice A0_0 l0_0.length c0_0, .slice A0_1 l0_1.length c0_1] 25 (0, 0)) (by (with_reducible repeat (first | refine Qk ?_ _ | refine Qj ?_ | refine Qi ?_ _)); exact BK311.out)) : gb311 ≠ gb312)); have n6_ := Qa.mk ((by rw [hg]; exact Nat.ne_of_gt (blk_lt (g := gb311) (o := .cells #[.slice A0_0 l0_0.length c0_0, .slice A0_1 l0_1.length c0_1] 25 (0, 0)) (by (with_reducible repeat (first | refine Qk ?_ _ | refine Qj ?_ | refine Qi ?_ _)); exact BK311.out)) : gb312 ≠ gb311)); clear BK311; clear HB; have BK311 := n0_; have HB := n1_; have BK312 := n2_; have GW312 := n3_; have GE312 := n4_; have NB311_312 := n5_; have NB312_311 := n6_; clear n0_ n1_ n2_ n3_ n4_ n5_ n6_; clear hb hbox hg))
 (try simp only [Act.put, List.setIfInBounds_toArray, List.set_cons_zero, List.set_cons_succ])
 go_cut [21] (fun v21 wc => ∃ (kq : Nat) (x21_4 : Bool), v21 = .bool x21_4 ∧ Qa (Qb2.j0 kq a1 a3 x21_4 l0_0 l0_1 a2_0 a2_1 = some r) ∧ Qa (kq ≤ k) ∧ Qa (wc.heap[gb311]? = some (.cells #[(.slice A0_0 l0_0.length c0_0), (.slice A0_1 l0_1.length c0_1)] 25 (0, 0))) ∧ Qa (wc.heap[gb312]? = some (.cells #[.int .u16 a2_0, .int .u16 a2_1] 27 (0, 0))) ∧ Qa (Below w.heap.size w wc))
 case first =>
  have H := HC5.out
  clear HC5
  replace H := Option.bind_eq_some_iff.mp H
  obtain ⟨t313, A80, H⟩ := H
  replace H : (if t313 = true then ((vetchlaw18_fits.f k l0_0 l0_1 a1 a3).bind fun t314 => (Qb2.j0 k a1 a3 (!t314) l0_0 l0_1 a2_0 a2_1)) else (Qb2.j0 k a1 a3 true l0_0 l0_1 a2_0 a2_1)) = some r := H
  have A8 := Qa.mk A80
  clear A80
  by_cases c9 : t313 = true
  ·
   subst c9
   have H1 : ((vetchlaw18_fits.f k l0_0 l0_1 a1 a3).bind fun t314 => (Qb2.j0 k a1 a3 (!t314) l0_0 l0_1 a2_0 a2_1)) = some r := by rw [if_pos rfl] at H; exact H
   clear H
   have H := H1
   clear H1
   replace H := Option.bind_eq_some_iff.mp H
   obtain ⟨t314, A100, H⟩ := H
   replace H : (Qb2.j0 k a1 a3 (!t314) l0_0 l0_1 a2_0 a2_1) = some r := H
   have A10 := Qa.mk A100
   clear A100
   have H' := Qa.mk H
   clear H
   go_wp2_with (first | ((with_reducible refine Qd1 (f := 9) rfl ?_); refine goesL_ (some 13) rfl rfl Try.func9 (by kernel_rfl) rfl #[] rfl (by (try simp only [List.map_toArray, List.map_cons, List.map_nil]); first | done | rfl | (simp only [List.length_drop, List.length_take]; rfl)) ?_; (with_reducible refine (Qe2.calls k  true _ A8.out).mono ?_); rintro e w11 ⟨rfl, hb⟩; refine ⟨_, rfl, ?_⟩; have n0_ := Qa.mk (Qh (g := gb311) (o := .cells #[.slice A0_0 l0_0.length c0_0, .slice A0_1 l0_1.length c0_1] 25 (0, 0)) (by (with_reducible repeat (first | refine Qk ?_ _ | refine Qj ?_ | refine Qi ?_ _)); exact BK311.out) hb); have n1_ := Qa.mk (Qh (g := gb312) (o := .cells #[.int .u16 a2_0, .int .u16 a2_1] 27 (0, 0)) (by (with_reducible repeat (first | refine Qk ?_ _ | refine Qj ?_ | refine Qi ?_ _)); exact BK312.out) hb); have n2_ := Qa.mk (Qm (by repeat (first | (with_reducible first | exact HB.out | apply Qd | apply Qf | apply Qe | refine Qg ?_ GE311.out | refine Qg ?_ GE312.out) | exact HB.out)) hb); clear BK311; clear BK312; clear HB; have BK311 := n0_; have BK312 := n1_; have HB := n2_; clear n0_ n1_ n2_; (try clear hb); (try clear hb2); (try clear hk); (try clear hi); have hnb12 := NB311_312.out; have hnc12 := NB312_311.out; have hcz13_0 : w11.cell? ⟨gb311, 0, none⟩ = some (.slice A0_0 l0_0.length c0_0) := (Qb BK311.out 0).trans rfl; have hcz13_1 : w11.cell? ⟨gb311, 1, none⟩ = some (.slice A0_1 l0_1.length c0_1) := (Qb BK311.out 1).trans rfl; have hfz13_0 := Qc BK311.out 0; have hfz13_1 := Qc BK311.out 1) | (go_at_call 10; (with_reducible refine (vetchlaw18_fits.calls k _ _ l0_0 _ _ l0_1 a1 a3 t314 _ ?side1 ?side2 ?side3 ?side4 A10.out).mono ?_); (case side1 => repeat (first | exact (Kd.Qn HR0_0.out HB.out) | (with_reducible refine Kd.Qw ?_ _) | (with_reducible refine Kd.Qy ?_ _) | (with_reducible refine Kd.Qx ?_))); (case side2 => exact HC0_0.out); (case side3 => repeat (first | exact (Kd.Qn HR0_1.out HB.out) | (with_reducible refine Kd.Qw ?_ _) | (with_reducible refine Kd.Qy ?_ _) | (with_reducible refine Kd.Qx ?_))); (case side4 => exact HC0_1.out); rintro e w14 ⟨rfl, hb⟩; have n0_ := Qa.mk (Qh (g := gb311) (o := .cells #[.slice A0_0 l0_0.length c0_0, .slice A0_1 l0_1.length c0_1] 25 (0, 0)) (by (with_reducible repeat (first | refine Qk ?_ _ | refine Qj ?_ | refine Qi ?_ _)); exact BK311.out) hb); have n1_ := Qa.mk (Qh (g := gb312) (o := .cells #[.int .u16 a2_0, .int .u16 a2_1] 27 (0, 0)) (by (with_reducible repeat (first | refine Qk ?_ _ | refine Qj ?_ | refine Qi ?_ _)); exact BK312.out) hb); have n2_ := Qa.mk (Qm (by repeat (first | (with_reducible first | exact HB.out | apply Qd | apply Qf | apply Qe | refine Qg ?_ GE311.out | refine Qg ?_ GE312.out) | exact HB.out)) hb); clear BK311; clear BK312; clear HB; have BK311 := n0_; have BK312 := n1_; have HB := n2_; clear n0_ n1_ n2_; (try clear hb); (try clear hb2); (try clear hk); (try clear hi)))
   go_meet
   case rel => exact ⟨_, (!t314), (by first | rfl | (simp; done) | (simp [*]; done)), H', ⟨by first | omega | exact Nat.le_refl _⟩, ⟨by (with_reducible repeat (first | refine Qk ?_ _ | refine Qj ?_ | refine Qi ?_ _)); exact BK311.out⟩, ⟨by (with_reducible repeat (first | refine Qk ?_ _ | refine Qj ?_ | refine Qi ?_ _)); exact BK312.out⟩, ⟨by repeat (first | (with_reducible first | exact HB.out | apply Qd | apply Qf | apply Qe | refine Qg ?_ GE311.out | refine Qg ?_ GE312.out) | exact HB.out)⟩⟩
  ·
   replace c9 := Bool.eq_false_iff.mpr c9
   subst c9
   have H1 : (Qb2.j0 k a1 a3 true l0_0 l0_1 a2_0 a2_1) = some r := by rw [if_neg (show ¬ (false = true) by decide)] at H; exact H
   clear H
   have H := H1
   clear H1
   have H' := Qa.mk H
   clear H
   go_wp2_with (first | ((with_reducible refine Qd1 (f := 9) rfl ?_); refine goesL_ (some 13) rfl rfl Try.func9 (by kernel_rfl) rfl #[] rfl (by (try simp only [List.map_toArray, List.map_cons, List.map_nil]); first | done | rfl | (simp only [List.length_drop, List.length_take]; rfl)) ?_; (with_reducible refine (Qe2.calls k  false _ A8.out).mono ?_); rintro e w15 ⟨rfl, hb⟩; refine ⟨_, rfl, ?_⟩; have n0_ := Qa.mk (Qh (g := gb311) (o := .cells #[.slice A0_0 l0_0.length c0_0, .slice A0_1 l0_1.length c0_1] 25 (0, 0)) (by (with_reducible repeat (first | refine Qk ?_ _ | refine Qj ?_ | refine Qi ?_ _)); exact BK311.out) hb); have n1_ := Qa.mk (Qh (g := gb312) (o := .cells #[.int .u16 a2_0, .int .u16 a2_1] 27 (0, 0)) (by (with_reducible repeat (first | refine Qk ?_ _ | refine Qj ?_ | refine Qi ?_ _)); exact BK312.out) hb); have n2_ := Qa.mk (Qm (by repeat (first | (with_reducible first | exact HB.out | apply Qd | apply Qf | apply Qe | refine Qg ?_ GE311.out | refine Qg ?_ GE312.out) | exact HB.out)) hb); clear BK311; clear BK312; clear HB; have BK311 := n0_; have BK312 := n1_; have HB := n2_; clear n0_ n1_ n2_; (try clear hb); (try clear hb2); (try clear hk); (try clear hi)))
   go_meet
   case rel => exact ⟨_, (true), (by first | rfl | (simp; done) | (simp [*]; done)), H', ⟨by first | omega | exact Nat.le_refl _⟩, ⟨by (with_reducible repeat (first | refine Qk ?_ _ | refine Qj ?_ | refine Qi ?_ _)); exact BK311.out⟩, ⟨by (with_reducible repeat (first | refine Qk ?_ _ | refine Qj ?_ | refine Qi ?_ _)); exact BK312.out⟩, ⟨by repeat (first | (with_reducible first | exact HB.out | apply Qd | apply Qf | apply Qe | refine Qg ?_ GE311.out | refine Qg ?_ GE312.out) | exact HB.out)⟩⟩
 case rest =>
  clear HC5
  try clear c1
  try clear p2
  try clear c7
  try clear c9
  try clear c12
  try clear hcz13_0
  try clear hcz13_1
  try clear hfz13_0
  try clear hfz13_1
  obtain ⟨kq, x21_4, rfl, HA, HJ4, BK311, BK312, HB⟩ := hcut
  cases kq with
  | zero => exact absurd HA.out (by simp [Qb2.j0])
  | succ kj4 =>
   have H := HA.out
   clear HA
   simp only [Qb2.j0] at H
   by_cases c16 : x21_4 = true
   ·
    subst c16
    have H1 : ((Qe2.f kj4).bind fun t315 => (some t315)) = some r := by rw [if_pos rfl] at H; exact H
    clear H
    have H := H1
    clear H1
    replace H := Option.bind_eq_some_iff.mp H
    obtain ⟨t315, A170, H⟩ := H
    replace H : (some t315) = some r := H
    have A17 := Qa.mk A170
    clear A170
    obtain rfl := Option.some.inj H
    go_wp2_with (first | ((with_reducible refine Qd1 (f := 9) rfl ?_); refine goesL_ (some 22) rfl rfl Try.func9 (by kernel_rfl) rfl #[] rfl (by (try simp only [List.map_toArray, List.map_cons, List.map_nil]); first | done | rfl | (simp only [List.length_drop, List.length_take]; rfl)) ?_; (with_reducible refine (Qe2.calls kj4  t315 _ A17.out).mono ?_); rintro e w18 ⟨rfl, hb⟩; refine ⟨_, rfl, ?_⟩; have n0_ := Qa.mk (Qh (g := gb311) (o := .cells #[.slice A0_0 l0_0.length c0_0, .slice A0_1 l0_1.length c0_1] 25 (0, 0)) (by (with_reducible repeat (first | refine Qk ?_ _ | refine Qj ?_ | refine Qi ?_ _)); exact BK311.out) hb); have n1_ := Qa.mk (Qh (g := gb312) (o := .cells #[.int .u16 a2_0, .int .u16 a2_1] 27 (0, 0)) (by (with_reducible repeat (first | refine Qk ?_ _ | refine Qj ?_ | refine Qi ?_ _)); exact BK312.out) hb); have n2_ := Qa.mk (Qm (by repeat (first | (with_reducible first | exact HB.out | apply Qd | apply Qf | apply Qe | refine Qg ?_ GE311.out | refine Qg ?_ GE312.out) | exact HB.out)) hb); clear BK311; clear BK312; clear HB; have BK311 := n0_; have BK312 := n1_; have HB := n2_; clear n0_ n1_ n2_; (try clear hb); (try clear hb2); (try clear hk); (try clear hi)))
    go_ret
    exact ⟨by first | rfl | (simp [Qr, Qq] <;> rfl) | (simp [*, Qr, Qq] <;> rfl), by repeat (first | (with_reducible first | exact HB.out | apply Qd | apply Qf | apply Qe | refine Qg ?_ GE311.out | refine Qg ?_ GE312.out) | exact HB.out)⟩
   ·
    replace c16 := Bool.eq_false_iff.mpr c16
    subst c16
    have H1 : (if (l0_1.length : Int) = 0 then (none) else (if (wrap64 ((a1.size : Int) + 1)) = 0 then (none) else ((naive_Node.f kj4 l0_0 l0_1 (Int.tmod (wrap64 (a2_0)) (l0_1.length : Int)) a1 (Int.tmod (wrap64 (a2_1)) (wrap64 ((a1.size : Int) + 1))) a3).bind fun bt316 => ((Qv1.f kj4 l0_0 l0_1).bind fun t320 => (if 0 ≤ (Int.tmod (wrap64 (a2_0)) (l0_1.length : Int)) then (if (Int.tmod (wrap64 (a2_0)) (l0_1.length : Int)) < (t320.length : Int) then (if bt316.1 = true then (if bt316.2.1 < 0 then (some ((rd_T45 t320 (Int.tmod (wrap64 (a2_0)) (l0_1.length : Int))).f2)) else (if bt316.2.1 = (Int.tmod (wrap64 (a2_1)) (wrap64 ((a1.size : Int) + 1))) then (some ((rd_T45 t320 (Int.tmod (wrap64 (a2_0)) (l0_1.length : Int))).f0)) else (if (rd_T45 t320 (Int.tmod (wrap64 (a2_0)) (l0_1.length : Int))).f1 = true then (some (decide (bt316.2.1 > (Int.tmod (wrap64 (a2_1)) (wrap64 ((a1.size : Int) + 1)))))) else (some false)))) else (some true)) else (none)) else (none)))))) = some r := by rw [if_neg (show ¬ (false = true) by decide)] at H; exact H
    clear H
    have H := H1
    clear H1
    by_cases c19 : (l0_1.length : Int) = 0
    ·
     rw [if_pos c19] at H
     exact absurd H (by simp)
    ·
     rw [if_neg c19] at H
     have c19b0 : ((l0_1.length : Int) == 0) = false := beq_eq_false_iff_ne.mpr c19
     have c19b1 : ((l0_1.length : Int) != 0) = true := bne_iff_ne.mpr c19
     have c19b2 : ¬ (l0_1 = []) := fun h_ => c19 (by rw [h_]; rfl)
     by_cases c20 : (wrap64 ((a1.size : Int) + 1)) = 0
     ·
      rw [if_pos c20] at H
      exact absurd H (by simp)
     ·
      rw [if_neg c20] at H
      have c20b0 : ((wrap64 ((a1.size : Int) + 1)) == 0) = false := beq_eq_false_iff_ne.mpr c20
      have c20b1 : ((wrap64 ((a1.size : Int) + 1)) != 0) = true := bne_iff_ne.mpr c20
      replace H := Option.bind_eq_some_iff.mp H
      obtain ⟨⟨t316, t317, t318⟩, A210, H⟩ := H
      replace H : ((Qv1.f kj4 l0_0 l0_1).bind fun t320 => (if 0 ≤ (Int.tmod (wrap64 (a2_0)) (l0_1.length : Int)) then (if (Int.tmod (wrap64 (a2_0)) (l0_1.length : Int)) < (t320.length : Int) then (if t316 = true then (if t317 < 0 then (some ((rd_T45 t320 (Int.tmod (wrap64 (a2_0)) (l0_1.length : Int))).f2)) else (if t317 = (Int.tmod (wrap64 (a2_1)) (wrap64 ((a1.size : Int) + 1))) then (some ((rd_T45 t320 (Int.tmod (wrap64 (a2_0)) (l0_1.length : Int))).f0)) else (if (rd_T45 t320 (Int.tmod (wrap64 (a2_0)) (l0_1.length : Int))).f1 = true then (some (decide (t317 > (Int.tmod (wrap64 (a2_1)) (wrap64 ((a1.size : Int) + 1)))))) else (some false)))) else (some true)) else (none)) else (none))) = some r := H
      have A21 := Qa.mk A210
      clear A210
      replace H := Option.bind_eq_some_iff.mp H
      obtain ⟨t320, A220, H⟩ := H
      replace H : (if 0 ≤ (Int.tmod (wrap64 (a2_0)) (l0_1.length : Int)) then (if (Int.tmod (wrap64 (a2_0)) (l0_1.length : Int)) < (t320.length : Int) then (if t316 = true then (if t317 < 0 then (some ((rd_T45 t320 (Int.tmod (wrap64 (a2_0)) (l0_1.length : Int))).f2)) else (if t317 = (Int.tmod (wrap64 (a2_1)) (wrap64 ((a1.size : Int) + 1))) then (some ((rd_T45 t320 (Int.tmod (wrap64 (a2_0)) (l0_1.length : Int))).f0)) else (if (rd_T45 t320 (Int.tmod (wrap64 (a2_0)) (l0_1.length : Int))).f1 = true then (some (decide (t317 > (Int.tmod (wrap64 (a2_1)) (wrap64 ((a1.size : Int) + 1)))))) else (some false)))) else (some true)) else (none)) else (none)) = some r := H
      have A22 := Qa.mk A220
      clear A220
      obtain ⟨ji23, hji23⟩ : ∃ j_ : Int, (Int.tmod (wrap64 (a2_0)) (l0_1.length : Int)) = j_ := ⟨_, rfl⟩
      replace H : (if 0 ≤ (ji23) then (if (ji23) < (t320.length : Int) then (if t316 = true then (if t317 < 0 then (some ((rd_T45 t320 (ji23)).f2)) else (if t317 = (Int.tmod (wrap64 (a2_1)) (wrap64 ((a1.size : Int) + 1))) then (some ((rd_T45 t320 (ji23)).f0)) else (if (rd_T45 t320 (ji23)).f1 = true then (some (decide (t317 > (Int.tmod (wrap64 (a2_1)) (wrap64 ((a1.size : Int) + 1)))))) else (some false)))) else (some true)) else (none)) else (none)) = some r := by first | (rw [hji23] at H; exact H) | (simp only [hji23] at H ⊢; exact H)
      (try rw [hji23] at A21)
      (try rw [hji23] at A22)
      by_cases c24 : 0 ≤ (ji23)
      ·
       rw [if_pos c24] at H
       have c24b0 : decide (0 ≤ (ji23)) = true := decide_eq_true c24
       clear c24
       by_cases c25 : (ji23) < (t320.length : Int)
       ·
        rw [if_pos c25] at H
        have c25b0 : decide ((ji23) < (t320.length : Int)) = true := decide_eq_true c25
        clear c25
        by_cases c26 : t316 = true
        ·
         subst c26
         have H1 : (if t317 < 0 then (some ((rd_T45 t320 (ji23)).f2)) else (if t317 = (Int.tmod (wrap64 (a2_1)) (wrap64 ((a1.size : Int) + 1))) then (some ((rd_T45 t320 (ji23)).f0)) else (if (rd_T45 t320 (ji23)).f1 = true then (some (decide (t317 > (Int.tmod (wrap64 (a2_1)) (wrap64 ((a1.size : Int) + 1)))))) else (some false)))) = some r := by rw [if_pos rfl] at H; exact H
         clear H
         have H := H1
         clear H1
         by_cases c27 : t317 < 0
         ·
          rw [if_pos c27] at H
          have c27b0 : decide (t317 < 0) = true := decide_eq_true c27
          clear c27
          obtain rfl := Option.some.inj H
          have hnb28 := NB312_311.out
          have hnc28 := NB311_312.out
          have hcz29_0 : wc.cell? ⟨gb312, 0, none⟩ = some (.int .u16 a2_0) := (Qb BK312.out 0).trans rfl
          have hcz29_1 : wc.cell? ⟨gb312, 1, none⟩ = some (.int .u16 a2_1) := (Qb BK312.out 1).trans rfl
          have hfz29_0 := Qc BK312.out 0
          have hfz29_1 := Qc BK312.out 1
          have hcz30_0 : wc.cell? ⟨gb311, 0, none⟩ = some (.slice A0_0 l0_0.length c0_0) := (Qb BK311.out 0).trans rfl
          have hcz30_1 : wc.cell? ⟨gb311, 1, none⟩ = some (.slice A0_1 l0_1.length c0_1) := (Qb BK311.out 1).trans rfl
          have hfz30_0 := Qc BK311.out 0
          have hfz30_1 := Qc BK311.out 1
          go_wp2_with (first | ((with_reducible refine Qd1 (f := 11) rfl ?_); refine goesL_ (some 42) rfl rfl Try.func11 (by kernel_rfl) rfl #[.agg #[.slice A0_0 l0_0.length c0_0, .slice A0_1 l0_1.length c0_1], .int .i64 ji23, .string a1, .int .i64 (Int.tmod (wrap64 (a2_1)) (wrap64 ((a1.size : Int) + 1))), .int .i64 a3] rfl (by (try simp only [List.map_toArray, List.map_cons, List.map_nil]); first | done | (simp only [hji23]; rfl) | rfl | (simp only [List.length_drop, List.length_take]; rfl)) ?_; (with_reducible refine (naive_Node.calls kj4 _ _ l0_0 _ _ l0_1 ji23 a1 (Int.tmod (wrap64 (a2_1)) (wrap64 ((a1.size : Int) + 1))) a3 true t317 t318 _ ?side1 ?side2 ?side3 ?side4 A21.out).mono ?_); (case side1 => repeat (first | exact (Kd.Qn HR0_0.out HB.out) | (with_reducible refine Kd.Qw ?_ _) | (with_reducible refine Kd.Qy ?_ _) | (with_reducible refine Kd.Qx ?_))); (case side2 => exact HC0_0.out); (case side3 => repeat (first | exact (Kd.Qn HR0_1.out HB.out) | (with_reducible refine Kd.Qw ?_ _) | (with_reducible refine Kd.Qy ?_ _) | (with_reducible refine Kd.Qx ?_))); (case side4 => exact HC0_1.out); rintro e w31 ⟨rfl, hb⟩; refine ⟨_, rfl, ?_⟩; have n0_ := Qa.mk (Qh (g := gb311) (o := .cells #[.slice A0_0 l0_0.length c0_0, .slice A0_1 l0_1.length c0_1] 25 (0, 0)) (by (with_reducible repeat (first | refine Qk ?_ _ | refine Qj ?_ | refine Qi ?_ _)); exact BK311.out) hb); have n1_ := Qa.mk (Qh (g := gb312) (o := .cells #[.int .u16 a2_0, .int .u16 a2_1] 27 (0, 0)) (by (with_reducible repeat (first | refine Qk ?_ _ | refine Qj ?_ | refine Qi ?_ _)); exact BK312.out) hb); have n2_ := Qa.mk (Qm (by repeat (first | (with_reducible first | exact HB.out | apply Qd | apply Qf | apply Qe | refine Qg ?_ GE311.out | refine Qg ?_ GE312.out) | exact HB.out)) hb); clear BK311; clear BK312; clear HB; have BK311 := n0_; have BK312 := n1_; have HB := n2_; clear n0_ n1_ n2_; (try clear hb); (try clear hb2); (try clear hk); (try clear hi)) | ((with_reducible refine Qc1 (N := 11) rfl ?_); refine Ql1 ?hg (N := 11) ?hd (cs := #[.bool false, .int .i64 0, .int .i64 0]) (t := 32) ?hr ?_; (case hd => rfl); (case hg => rfl); (case hr => first | (go_simp; done) | (go_simp; rfl)); intro gb319 hg w32 hbox hb; have n0_ := Qa.mk (Qh (g := gb311) (o := .cells #[.slice A0_0 l0_0.length c0_0, .slice A0_1 l0_1.length c0_1] 25 (0, 0)) (by (with_reducible repeat (first | refine Qk ?_ _ | refine Qj ?_ | refine Qi ?_ _)); exact BK311.out) hb); have n1_ := Qa.mk (Qh (g := gb312) (o := .cells #[.int .u16 a2_0, .int .u16 a2_1] 27 (0, 0)) (by (with_reducible repeat (first | refine Qk ?_ _ | refine Qj ?_ | refine Qi ?_ _)); exact BK312.out) hb); have n2_ := Qa.mk (Qm (by repeat (first | (with_reducible first | exact HB.out | apply Qd | apply Qf | apply Qe | refine Qg ?_ GE311.out | refine Qg ?_ GE312.out) | exact HB.out)) hb); have n3_ := Qa.mk (hbox); have n4_ := Qa.mk ((by rw [hg]; exact (Qv (by repeat (first | (with_reducible first | exact HB.out | apply Qd | apply Qf | apply Qe | refine Qg ?_ GE311.out | refine Qg ?_ GE312.out) | exact HB.out))) : w.heap.size ≤ gb319)); have n5_ := Qa.mk ((by rw [hg]; exact (Qv (by repeat (first | (with_reducible first | exact HB.out | apply Qd | apply Qf | apply Qe | refine Qg ?_ GE311.out | refine Qg ?_ GE312.out) | exact HB.out))) : w.heap.size ≤ gb319)); have n6_ := Qa.mk ((by rw [hg]; exact Nat.ne_of_lt (blk_lt (g := gb311) (o := .cells #[.slice A0_0 l0_0.length c0_0, .slice A0_1 l0_1.length c0_1] 25 (0, 0)) (by (with_reducible repeat (first | refine Qk ?_ _ | refine Qj ?_ | refine Qi ?_ _)); exact BK311.out)) : gb311 ≠ gb319)); have n7_ := Qa.mk ((by rw [hg]; exact Nat.ne_of_gt (blk_lt (g := gb311) (o := .cells #[.slice A0_0 l0_0.length c0_0, .slice A0_1 l0_1.length c0_1] 25 (0, 0)) (by (with_reducible repeat (first | refine Qk ?_ _ | refine Qj ?_ | refine Qi ?_ _)); exact BK311.out)) : gb319 ≠ gb311)); have n8_ := Qa.mk ((by rw [hg]; exact Nat.ne_of_lt (blk_lt (g := gb312) (o := .cells #[.int .u16 a2_0, .int .u16 a2_1] 27 (0, 0)) (by (with_reducible repeat (first | refine Qk ?_ _ | refine Qj ?_ | refine Qi ?_ _)); exact BK312.out)) : gb312 ≠ gb319)); have n9_ := Qa.mk ((by rw [hg]; exact Nat.ne_of_gt (blk_lt (g := gb312) (o := .cells #[.int .u16 a2_0, .int .u16 a2_1] 27 (0, 0)) (by (with_reducible repeat (first | refine Qk ?_ _ | refine Qj ?_ | refine Qi ?_ _)); exact BK312.out)) : gb319 ≠ gb312)); clear BK311; clear BK312; clear HB; have BK311 := n0_; have BK312 := n1_; have HB := n2_; have BK319 := n3_; have GW319 := n4_; have GE319 := n5_; have NB311_319 := n6_; have NB319_311 := n7_; have NB312_319 := n8_; have NB319_312 := n9_; clear n0_ n1_ n2_ n3_ n4_ n5_ n6_ n7_ n8_ n9_; clear hb hbox hg; have hnb33 := NB319_311.out; have hnc33 := NB311_319.out; have hnb34 := NB319_312.out; have hnc34 := NB312_319.out; have hcz35_0 : w32.cell? ⟨gb319, 0, none⟩ = some (.bool false) := (Qb BK319.out 0).trans rfl; have hcz35_1 : w32.cell? ⟨gb319, 1, none⟩ = some (.int .i64 0) := (Qb BK319.out 1).trans rfl; have hcz35_2 : w32.cell? ⟨gb319, 2, none⟩ = some (.int .i64 0) := (Qb BK319.out 2).trans rfl; have hfz35_0 := Qc BK319.out 0; have hfz35_1 := Qc BK319.out 1; have hfz35_2 := Qc BK319.out 2; have hcz36_0 : w32.cell? ⟨gb311, 0, none⟩ = some (.slice A0_0 l0_0.length c0_0) := (Qb BK311.out 0).trans rfl; have hcz36_1 : w32.cell? ⟨gb311, 1, none⟩ = some (.slice A0_1 l0_1.length c0_1) := (Qb BK311.out 1).trans rfl; have hfz36_0 := Qc BK311.out 0; have hfz36_1 := Qc BK311.out 1) | ((with_reducible refine Qd1 (f := 17) rfl ?_); refine goesL_ (some 44) rfl rfl Try.func17 (by kernel_rfl) rfl #[.agg #[.slice A0_0 l0_0.length c0_0, .slice A0_1 l0_1.length c0_1]] rfl (by (try simp only [List.map_toArray, List.map_cons, List.map_nil]); first | done | rfl | (simp only [List.length_drop, List.length_take]; rfl)) ?_; (with_reducible refine (Qv1.calls kj4 _ _ l0_0 _ _ l0_1 t320 _ ?side1 ?side2 ?side3 ?side4 A22.out).mono ?_); (case side1 => exact Kd.Qn HR0_0.out (by repeat (first | (with_reducible first | exact HB.out | apply Qd | apply Qf | apply Qe | refine Qg ?_ GE311.out | refine Qg ?_ GE312.out | refine Qg ?_ GE319.out) | exact HB.out))); (case side2 => exact HC0_0.out); (case side3 => exact Kd.Qn HR0_1.out (by repeat (first | (with_reducible first | exact HB.out | apply Qd | apply Qf | apply Qe | refine Qg ?_ GE311.out | refine Qg ?_ GE312.out | refine Qg ?_ GE319.out) | exact HB.out))); (case side4 => exact HC0_1.out); rintro e w37 ⟨v321, rfl, ho0, hb⟩; refine ⟨_, rfl, ?_⟩; have n0_ := Qa.mk (Kd.R_lower ho0 (Qv (by repeat (first | (with_reducible first | exact HB.out | apply Qd | apply Qf | apply Qe | refine Qg ?_ GE311.out | refine Qg ?_ GE312.out | refine Qg ?_ GE319.out) | exact HB.out)))); have n1_ := Qa.mk (Qh (g := gb311) (o := .cells #[.slice A0_0 l0_0.length c0_0, .slice A0_1 l0_1.length c0_1] 25 (0, 0)) (by (with_reducible repeat (first | refine Qk ?_ _ | refine Qj ?_ | refine Qi ?_ _)); refine blk_far ?_ NB311_319.out _; (with_reducible repeat (first | refine Qk ?_ _ | refine Qj ?_ | refine Qi ?_ _)); refine blk_far ?_ NB311_319.out _; (with_reducible repeat (first | refine Qk ?_ _ | refine Qj ?_ | refine Qi ?_ _)); refine blk_far ?_ NB311_319.out _; (with_reducible repeat (first | refine Qk ?_ _ | refine Qj ?_ | refine Qi ?_ _)); exact BK311.out) hb); have n2_ := Qa.mk (Qh (g := gb312) (o := .cells #[.int .u16 a2_0, .int .u16 a2_1] 27 (0, 0)) (by (with_reducible repeat (first | refine Qk ?_ _ | refine Qj ?_ | refine Qi ?_ _)); refine blk_far ?_ NB312_319.out _; (with_reducible repeat (first | refine Qk ?_ _ | refine Qj ?_ | refine Qi ?_ _)); refine blk_far ?_ NB312_319.out _; (with_reducible repeat (first | refine Qk ?_ _ | refine Qj ?_ | refine Qi ?_ _)); refine blk_far ?_ NB312_319.out _; (with_reducible repeat (first | refine Qk ?_ _ | refine Qj ?_ | refine Qi ?_ _)); exact BK312.out) hb); have n3_ := Qa.mk (Qh (g := gb319) (o := .cells #[.bool true, .int .i64 t317, .int .i64 t318] 32 (0, 0)) (by (with_reducible repeat (first | refine Qk ?_ _ | refine Qj ?_ | refine Qi ?_ _)); refine blk_put (cs := #[.bool true, .int .i64 t317, .int .i64 0]) ?_ 2 _ rfl; (with_reducible repeat (first | refine Qk ?_ _ | refine Qj ?_ | refine Qi ?_ _)); refine blk_put (cs := #[.bool true, .int .i64 0, .int .i64 0]) ?_ 1 _ rfl; (with_reducible repeat (first | refine Qk ?_ _ | refine Qj ?_ | refine Qi ?_ _)); refine blk_put (cs := #[.bool false, .int .i64 0, .int .i64 0]) ?_ 0 _ rfl; (with_reducible repeat (first | refine Qk ?_ _ | refine Qj ?_ | refine Qi ?_ _)); exact BK319.out) hb); have n4_ := Qa.mk (Qm (by repeat (first | (with_reducible first | exact HB.out | apply Qd | apply Qf | apply Qe | refine Qg ?_ GE311.out | refine Qg ?_ GE312.out | refine Qg ?_ GE319.out) | exact HB.out)) hb); clear BK311; clear BK312; clear BK319; clear HB; have HO322 := n0_; have BK311 := n1_; have BK312 := n2_; have BK319 := n3_; have HB := n4_; clear n0_ n1_ n2_ n3_ n4_; (try clear hb); (try clear hb2); (try clear hk); (try clear hi); (try clear ho0); obtain ⟨Ao38, co38, eo38⟩ := Kd.R_slice HO322.out; subst eo38; have p323 : 0 ≤ ((ji23) : Int) := of_decide_eq_true (by first | (with_reducible assumption) | assumption); have q323 : (ji23) < (t320.length : Int) := of_decide_eq_true (by first | (with_reducible assumption) | assumption); obtain ⟨ad323, e323, hx323_0, hx323_1, hx323_2⟩ := at_T45 (Kd.R_reads' HO322.out).2.2 (ji23) p323 q323; cases e323; replace p323 := eq_true p323; replace q323 := eq_true q323) | ((with_reducible refine Qc1 (N := 12) rfl ?_); refine Ql1 ?hg (N := 12) ?hd (cs := #[.bool false, .bool false, .bool false]) (t := 45) ?hr ?_; (case hd => rfl); (case hg => rfl); (case hr => first | (go_simp; done) | (go_simp; rfl)); intro gb324 hg w39 hbox hb; have n0_ := Qa.mk (Kd.Qb1 (Kd.R_elderB (by (with_reducible repeat (first | apply Kd.Qs | apply Kd.Qt | apply Kd.Qu)); exact HO322.out) gb324 (Nat.le_of_eq hg.symm)) hb); have n1_ := Qa.mk (Qh (g := gb311) (o := .cells #[.slice A0_0 l0_0.length c0_0, .slice A0_1 l0_1.length c0_1] 25 (0, 0)) (by (with_reducible repeat (first | refine Qk ?_ _ | refine Qj ?_ | refine Qi ?_ _)); exact BK311.out) hb); have n2_ := Qa.mk (Qh (g := gb312) (o := .cells #[.int .u16 a2_0, .int .u16 a2_1] 27 (0, 0)) (by (with_reducible repeat (first | refine Qk ?_ _ | refine Qj ?_ | refine Qi ?_ _)); exact BK312.out) hb); have n3_ := Qa.mk (Qh (g := gb319) (o := .cells #[.bool true, .int .i64 t317, .int .i64 t318] 32 (0, 0)) (by (with_reducible repeat (first | refine Qk ?_ _ | refine Qj ?_ | refine Qi ?_ _)); exact BK319.out) hb); have n4_ := Qa.mk (Qm (by repeat (first | (with_reducible first | exact HB.out | apply Qd | apply Qf | apply Qe | refine Qg ?_ GE311.out | refine Qg ?_ GE312.out | refine Qg ?_ GE319.out) | exact HB.out)) hb); have n5_ := Qa.mk (hbox); have n6_ := Qa.mk ((by rw [hg]; exact (Qv (by repeat (first | (with_reducible first | exact HB.out | apply Qd | apply Qf | apply Qe | refine Qg ?_ GE311.out | refine Qg ?_ GE312.out | refine Qg ?_ GE319.out) | exact HB.out))) : w.heap.size ≤ gb324)); have n7_ := Qa.mk ((by rw [hg]; exact (Qv (by repeat (first | (with_reducible first | exact HB.out | apply Qd | apply Qf | apply Qe | refine Qg ?_ GE311.out | refine Qg ?_ GE312.out | refine Qg ?_ GE319.out) | exact HB.out))) : w.heap.size ≤ gb324)); have n8_ := Qa.mk ((by rw [hg]; exact Nat.ne_of_lt (blk_lt (g := gb311) (o := .cells #[.slice A0_0 l0_0.length c0_0, .slice A0_1 l0_1.length c0_1] 25 (0, 0)) (by (with_reducible repeat (first | refine Qk ?_ _ | refine Qj ?_ | refine Qi ?_ _)); exact BK311.out)) : gb311 ≠ gb324)); have n9_ := Qa.mk ((by rw [hg]; exact Nat.ne_of_gt (blk_lt (g := gb311) (o := .cells #[.slice A0_0 l0_0.length c0_0, .slice A0_1 l0_1.length c0_1] 25 (0, 0)) (by (with_reducible repeat (first | refine Qk ?_ _ | refine Qj ?_ | refine Qi ?_ _)); exact BK311.out)) : gb324 ≠ gb311)); have n10_ := Qa.mk ((by rw [hg]; exact Nat.ne_of_lt (blk_lt (g := gb312) (o := .cells #[.int .u16 a2_0, .int .u16 a2_1] 27 (0, 0)) (by (with_reducible repeat (first | refine Qk ?_ _ | refine Qj ?_ | refine Qi ?_ _)); exact BK312.out)) : gb312 ≠ gb324)); have n11_ := Qa.mk ((by rw [hg]; exact Nat.ne_of_gt (blk_lt (g := gb312) (o := .cells #[.int .u16 a2_0, .int .u16 a2_1] 27 (0, 0)) (by (with_reducible repeat (first | refine Qk ?_ _ | refine Qj ?_ | refine Qi ?_ _)); exact BK312.out)) : gb324 ≠ gb312)); have n12_ := Qa.mk ((by rw [hg]; exact Nat.ne_of_lt (blk_lt (g := gb319) (o := .cells #[.bool true, .int .i64 t317, .int .i64 t318] 32 (0, 0)) (by (with_reducible repeat (first | refine Qk ?_ _ | refine Qj ?_ | refine Qi ?_ _)); exact BK319.out)) : gb319 ≠ gb324)); have n13_ := Qa.mk ((by rw [hg]; exact Nat.ne_of_gt (blk_lt (g := gb319) (o := .cells #[.bool true, .int .i64 t317, .int .i64 t318] 32 (0, 0)) (by (with_reducible repeat (first | refine Qk ?_ _ | refine Qj ?_ | refine Qi ?_ _)); exact BK319.out)) : gb324 ≠ gb319)); clear HO322; clear BK311; clear BK312; clear BK319; clear HB; have HO322 := n0_; have BK311 := n1_; have BK312 := n2_; have BK319 := n3_; have HB := n4_; have BK324 := n5_; have GW324 := n6_; have GE324 := n7_; have NB311_324 := n8_; have NB324_311 := n9_; have NB312_324 := n10_; have NB324_312 := n11_; have NB319_324 := n12_; have NB324_319 := n13_; clear n0_ n1_ n2_ n3_ n4_ n5_ n6_ n7_ n8_ n9_ n10_ n11_ n12_ n13_; clear hb hbox hg; have hnb40 := NB324_311.out; have hnc40 := NB311_324.out; have hnb41 := NB324_312.out; have hnc41 := NB312_324.out; have hnb42 := NB324_319.out; have hnc42 := NB319_324.out; have hcz43_0 : w39.cell? ⟨gb324, 0, none⟩ = some (.bool false) := (Qb BK324.out 0).trans rfl; have hcz43_1 : w39.cell? ⟨gb324, 1, none⟩ = some (.bool false) := (Qb BK324.out 1).trans rfl; have hcz43_2 : w39.cell? ⟨gb324, 2, none⟩ = some (.bool false) := (Qb BK324.out 2).trans rfl; have hfz43_0 := Qc BK324.out 0; have hfz43_1 := Qc BK324.out 1; have hfz43_2 := Qc BK324.out 2; have hcz44_0 : w39.cell? ⟨gb319, 0, none⟩ = some (.bool true) := (Qb BK319.out 0).trans rfl; have hcz44_1 : w39.cell? ⟨gb319, 1, none⟩ = some (.int .i64 t317) := (Qb BK319.out 1).trans rfl; have hcz44_2 : w39.cell? ⟨gb319, 2, none⟩ = some (.int .i64 t318) := (Qb BK319.out 2).trans rfl; have hfz44_0 := Qc BK319.out 0; have hfz44_1 := Qc BK319.out 1; have hfz44_2 := Qc BK319.out 2))
          go_ret
          exact ⟨by first | rfl | (simp [Qr, Qq] <;> rfl) | (simp only [← hji23]; first | rfl | (simp [Qr, Qq] <;> rfl)) | (simp [*, Qr, Qq] <;> rfl), by repeat (first | (with_reducible first | exact HB.out | apply Qd | apply Qf | apply Qe | refine Qg ?_ GE311.out | refine Qg ?_ GE312.out | refine Qg ?_ GE319.out | refine Qg ?_ GE324.out) | exact HB.out)⟩
         ·
          rw [if_neg c27] at H
          have c27b0 : decide (t317 < 0) = false := decide_eq_false c27
          clear c27
          by_cases c45 : t317 = (Int.tmod (wrap64 (a2_1)) (wrap64 ((a1.size : Int) + 1)))
          ·
           rw [if_pos c45] at H
           have c45b0 : (t317 == (Int.tmod (wrap64 (a2_1)) (wrap64 ((a1.size : Int) + 1)))) = true := beq_iff_eq.mpr c45
           have c45b1 : (t317 != (Int.tmod (wrap64 (a2_1)) (wrap64 ((a1.size : Int) + 1)))) = false := bne_eq_false_iff_eq.mpr c45
           clear c45
           obtain rfl := Option.some.inj H
           have hnb46 := NB312_311.out
           have hnc46 := NB311_312.out
           have hcz47_0 : wc.cell? ⟨gb312, 0, none⟩ = some (.int .u16 a2_0) := (Qb BK312.out 0).trans rfl
           have hcz47_1 : wc.cell? ⟨gb312, 1, none⟩ = some (.int .u16 a2_1) := (Qb BK312.out 1).trans rfl
           have hfz47_0 := Qc BK312.out 0
           have hfz47_1 := Qc BK312.out 1
           have hcz48_0 : wc.cell? ⟨gb311, 0, none⟩ = some (.slice A0_0 l0_0.length c0_0) := (Qb BK311.out 0).trans rfl
           have hcz48_1 : wc.cell? ⟨gb311, 1, none⟩ = some (.slice A0_1 l0_1.length c0_1) := (Qb BK311.out 1).trans rfl
           have hfz48_0 := Qc BK311.out 0
           have hfz48_1 := Qc BK311.out 1
           go_wp2_with (first | ((with_reducible refine Qd1 (f := 11) rfl ?_); refine goesL_ (some 42) rfl rfl Try.func11 (by kernel_rfl) rfl #[.agg #[.slice A0_0 l0_0.length c0_0, .slice A0_1 l0_1.length c0_1], .int .i64 ji23, .string a1, .int .i64 (Int.tmod (wrap64 (a2_1)) (wrap64 ((a1.size : Int) + 1))), .int .i64 a3] rfl (by (try simp only [List.map_toArray, List.map_cons, List.map_nil]); first | done | (simp only [hji23]; rfl) | rfl | (simp only [List.length_drop, List.length_take]; rfl)) ?_; (with_reducible refine (naive_Node.calls kj4 _ _ l0_0 _ _ l0_1 ji23 a1 (Int.tmod (wrap64 (a2_1)) (wrap64 ((a1.size : Int) + 1))) a3 true t317 t318 _ ?side1 ?side2 ?side3 ?side4 A21.out).mono ?_); (case side1 => repeat (first | exact (Kd.Qn HR0_0.out HB.out) | (with_reducible refine Kd.Qw ?_ _) | (with_reducible refine Kd.Qy ?_ _) | (with_reducible refine Kd.Qx ?_))); (case side2 => exact HC0_0.out); (case side3 => repeat (first | exact (Kd.Qn HR0_1.out HB.out) | (with_reducible refine Kd.Qw ?_ _) | (with_reducible refine Kd.Qy ?_ _) | (with_reducible refine Kd.Qx ?_))); (case side4 => exact HC0_1.out); rintro e w49 ⟨rfl, hb⟩; refine ⟨_, rfl, ?_⟩; have n0_ := Qa.mk (Qh (g := gb311) (o := .cells #[.slice A0_0 l0_0.length c0_0, .slice A0_1 l0_1.length c0_1] 25 (0, 0)) (by (with_reducible repeat (first | refine Qk ?_ _ | refine Qj ?_ | refine Qi ?_ _)); exact BK311.out) hb); have n1_ := Qa.mk (Qh (g := gb312) (o := .cells #[.int .u16 a2_0, .int .u16 a2_1] 27 (0, 0)) (by (with_reducible repeat (first | refine Qk ?_ _ | refine Qj ?_ | refine Qi ?_ _)); exact BK312.out) hb); have n2_ := Qa.mk (Qm (by repeat (first | (with_reducible first | exact HB.out | apply Qd | apply Qf | apply Qe | refine Qg ?_ GE311.out | refine Qg ?_ GE312.out) | exact HB.out)) hb); clear BK311; clear BK312; clear HB; have BK311 := n0_; have BK312 := n1_; have HB := n2_; clear n0_ n1_ n2_; (try clear hb); (try clear hb2); (try clear hk); (try clear hi)) | ((with_reducible refine Qc1 (N := 11) rfl ?_); refine Ql1 ?hg (N := 11) ?hd (cs := #[.bool false, .int .i64 0, .int .i64 0]) (t := 32) ?hr ?_; (case hd => rfl); (case hg => rfl); (case hr => first | (go_simp; done) | (go_simp; rfl)); intro gb319 hg w50 hbox hb; have n0_ := Qa.mk (Qh (g := gb311) (o := .cells #[.slice A0_0 l0_0.length c0_0, .slice A0_1 l0_1.length c0_1] 25 (0, 0)) (by (with_reducible repeat (first | refine Qk ?_ _ | refine Qj ?_ | refine Qi ?_ _)); exact BK311.out) hb); have n1_ := Qa.mk (Qh (g := gb312) (o := .cells #[.int .u16 a2_0, .int .u16 a2_1] 27 (0, 0)) (by (with_reducible repeat (first | refine Qk ?_ _ | refine Qj ?_ | refine Qi ?_ _)); exact BK312.out) hb); have n2_ := Qa.mk (Qm (by repeat (first | (with_reducible first | exact HB.out | apply Qd | apply Qf | apply Qe | refine Qg ?_ GE311.out | refine Qg ?_ GE312.out) | exact HB.out)) hb); have n3_ := Qa.mk (hbox); have n4_ := Qa.mk ((by rw [hg]; exact (Qv (by repeat (first | (with_reducible first | exact HB.out | apply Qd | apply Qf | apply Qe | refine Qg ?_ GE311.out | refine Qg ?_ GE312.out) | exact HB.out))) : w.heap.size ≤ gb319)); have n5_ := Qa.mk ((by rw [hg]; exact (Qv (by repeat (first | (with_reducible first | exact HB.out | apply Qd | apply Qf | apply Qe | refine Qg ?_ GE311.out | refine Qg ?_ GE312.out) | exact HB.out))) : w.heap.size ≤ gb319)); have n6_ := Qa.mk ((by rw [hg]; exact Nat.ne_of_lt (blk_lt (g := gb311) (o := .cells #[.slice A0_0 l0_0.length c0_0, .slice A0_1 l0_1.length c0_1] 25 (0, 0)) (by (with_reducible repeat (first | refine Qk ?_ _ | refine Qj ?_ | refine Qi ?_ _)); exact BK311.out)) : gb311 ≠ gb319)); have n7_ := Qa.mk ((by rw [hg]; exact Nat.ne_of_gt (blk_lt (g := gb311) (o := .cells #[.slice A0_0 l0_0.length c0_0, .slice A0_1 l0_1.length c0_1] 25 (0, 0)) (by (with_reducible repeat (first | refine Qk ?_ _ | refine Qj ?_ | refine Qi ?_ _)); exact BK311.out)) : gb319 ≠ gb311)); have n8_ := Qa.mk ((by rw [hg]; exact Nat.ne_of_lt (blk_lt (g := gb312) (o := .cells #[.int .u16 a2_0, .int .u16 a2_1] 27 (0, 0)) (by (with_reducible repeat (first | refine Qk ?_ _ | refine Qj ?_ | refine Qi ?_ _)); exact BK312.out)) : gb312 ≠ gb319)); have n9_ := Qa.mk ((by rw [hg]; exact Nat.ne_of_gt (blk_lt (g := gb312) (o := .cells #[.int .u16 a2_0, .int .u16 a2_1] 27 (0, 0)) (by (with_reducible repeat (first | refine Qk ?_ _ | refine Qj ?_ | refine Qi ?_ _)); exact BK312.out)) : gb319 ≠ gb312)); clear BK311; clear BK312; clear HB; have BK311 := n0_; have BK312 := n1_; have HB := n2_; have BK319 := n3_; have GW319 := n4_; have GE319 := n5_; have NB311_319 := n6_; have NB319_311 := n7_; have NB312_319 := n8_; have NB319_312 := n9_; clear n0_ n1_ n2_ n3_ n4_ n5_ n6_ n7_ n8_ n9_; clear hb hbox hg; have hnb51 := NB319_311.out; have hnc51 := NB311_319.out; have hnb52 := NB319_312.out; have hnc52 := NB312_319.out; have hcz53_0 : w50.cell? ⟨gb319, 0, none⟩ = some (.bool false) := (Qb BK319.out 0).trans rfl; have hcz53_1 : w50.cell? ⟨gb319, 1, none⟩ = some (.int .i64 0) := (Qb BK319.out 1).trans rfl; have hcz53_2 : w50.cell? ⟨gb319, 2, none⟩ = some (.int .i64 0) := (Qb BK319.out 2).trans rfl; have hfz53_0 := Qc BK319.out 0; have hfz53_1 := Qc BK319.out 1; have hfz53_2 := Qc BK319.out 2; have hcz54_0 : w50.cell? ⟨gb311, 0, none⟩ = some (.slice A0_0 l0_0.length c0_0) := (Qb BK311.out 0).trans rfl; have hcz54_1 : w50.cell? ⟨gb311, 1, none⟩ = some (.slice A0_1 l0_1.length c0_1) := (Qb BK311.out 1).trans rfl; have hfz54_0 := Qc BK311.out 0; have hfz54_1 := Qc BK311.out 1) | ((with_reducible refine Qd1 (f := 17) rfl ?_); refine goesL_ (some 44) rfl rfl Try.func17 (by kernel_rfl) rfl #[.agg #[.slice A0_0 l0_0.length c0_0, .slice A0_1 l0_1.length c0_1]] rfl (by (try simp only [List.map_toArray, List.map_cons, List.map_nil]); first | done | rfl | (simp only [List.length_drop, List.length_take]; rfl)) ?_; (with_reducible refine (Qv1.calls kj4 _ _ l0_0 _ _ l0_1 t320 _ ?side1 ?side2 ?side3 ?side4 A22.out).mono ?_); (case side1 => exact Kd.Qn HR0_0.out (by repeat (first | (with_reducible first | exact HB.out | apply Qd | apply Qf | apply Qe | refine Qg ?_ GE311.out | refine Qg ?_ GE312.out | refine Qg ?_ GE319.out) | exact HB.out))); (case side2 => exact HC0_0.out); (case side3 => exact Kd.Qn HR0_1.out (by repeat (first | (with_reducible first | exact HB.out | apply Qd | apply Qf | apply Qe | refine Qg ?_ GE311.out | refine Qg ?_ GE312.out | refine Qg ?_ GE319.out) | exact HB.out))); (case side4 => exact HC0_1.out); rintro e w55 ⟨v321, rfl, ho0, hb⟩; refine ⟨_, rfl, ?_⟩; have n0_ := Qa.mk (Kd.R_lower ho0 (Qv (by repeat (first | (with_reducible first | exact HB.out | apply Qd | apply Qf | apply Qe | refine Qg ?_ GE311.out | refine Qg ?_ GE312.out | refine Qg ?_ GE319.out) | exact HB.out)))); have n1_ := Qa.mk (Qh (g := gb311) (o := .cells #[.slice A0_0 l0_0.length c0_0, .slice A0_1 l0_1.length c0_1] 25 (0, 0)) (by (with_reducible repeat (first | refine Qk ?_ _ | refine Qj ?_ | refine Qi ?_ _)); refine blk_far ?_ NB311_319.out _; (with_reducible repeat (first | refine Qk ?_ _ | refine Qj ?_ | refine Qi ?_ _)); refine blk_far ?_ NB311_319.out _; (with_reducible repeat (first | refine Qk ?_ _ | refine Qj ?_ | refine Qi ?_ _)); refine blk_far ?_ NB311_319.out _; (with_reducible repeat (first | refine Qk ?_ _ | refine Qj ?_ | refine Qi ?_ _)); exact BK311.out) hb); have n2_ := Qa.mk (Qh (g := gb312) (o := .cells #[.int .u16 a2_0, .int .u16 a2_1] 27 (0, 0)) (by (with_reducible repeat (first | refine Qk ?_ _ | refine Qj ?_ | refine Qi ?_ _)); refine blk_far ?_ NB312_319.out _; (with_reducible repeat (first | refine Qk ?_ _ | refine Qj ?_ | refine Qi ?_ _)); refine blk_far ?_ NB312_319.out _; (with_reducible repeat (first | refine Qk ?_ _ | refine Qj ?_ | refine Qi ?_ _)); refine blk_far ?_ NB312_319.out _; (with_reducible repeat (first | refine Qk ?_ _ | refine Qj ?_ | refine Qi ?_ _)); exact BK312.out) hb); have n3_ := Qa.mk (Qh (g := gb319) (o := .cells #[.bool true, .int .i64 t317, .int .i64 t318] 32 (0, 0)) (by (with_reducible repeat (first | refine Qk ?_ _ | refine Qj ?_ | refine Qi ?_ _)); refine blk_put (cs := #[.bool true, .int .i64 t317, .int .i64 0]) ?_ 2 _ rfl; (with_reducible repeat (first | refine Qk ?_ _ | refine Qj ?_ | refine Qi ?_ _)); refine blk_put (cs := #[.bool true, .int .i64 0, .int .i64 0]) ?_ 1 _ rfl; (with_reducible repeat (first | refine Qk ?_ _ | refine Qj ?_ | refine Qi ?_ _)); refine blk_put (cs := #[.bool false, .int .i64 0, .int .i64 0]) ?_ 0 _ rfl; (with_reducible repeat (first | refine Qk ?_ _ | refine Qj ?_ | refine Qi ?_ _)); exact BK319.out) hb); have n4_ := Qa.mk (Qm (by repeat (first | (with_reducible first | exact HB.out | apply Qd | apply Qf | apply Qe | refine Qg ?_ GE311.out | refine Qg ?_ GE312.out | refine Qg ?_ GE319.out) | exact HB.out)) hb); clear BK311; clear BK312; clear BK319; clear HB; have HO322 := n0_; have BK311 := n1_; have BK312 := n2_; have BK319 := n3_; have HB := n4_; clear n0_ n1_ n2_ n3_ n4_; (try clear hb); (try clear hb2); (try clear hk); (try clear hi); (try clear ho0); obtain ⟨Ao56, co56, eo56⟩ := Kd.R_slice HO322.out; subst eo56; have p323 : 0 ≤ ((ji23) : Int) := of_decide_eq_true (by first | (with_reducible assumption) | assumption); have q323 : (ji23) < (t320.length : Int) := of_decide_eq_true (by first | (with_reducible assumption) | assumption); obtain ⟨ad323, e323, hx323_0, hx323_1, hx323_2⟩ := at_T45 (Kd.R_reads' HO322.out).2.2 (ji23) p323 q323; cases e323; replace p323 := eq_true p323; replace q323 := eq_true q323) | ((with_reducible refine Qc1 (N := 12) rfl ?_); refine Ql1 ?hg (N := 12) ?hd (cs := #[.bool false, .bool false, .bool false]) (t := 45) ?hr ?_; (case hd => rfl); (case hg => rfl); (case hr => first | (go_simp; done) | (go_simp; rfl)); intro gb324 hg w57 hbox hb; have n0_ := Qa.mk (Kd.Qb1 (Kd.R_elderB (by (with_reducible repeat (first | apply Kd.Qs | apply Kd.Qt | apply Kd.Qu)); exact HO322.out) gb324 (Nat.le_of_eq hg.symm)) hb); have n1_ := Qa.mk (Qh (g := gb311) (o := .cells #[.slice A0_0 l0_0.length c0_0, .slice A0_1 l0_1.length c0_1] 25 (0, 0)) (by (with_reducible repeat (first | refine Qk ?_ _ | refine Qj ?_ | refine Qi ?_ _)); exact BK311.out) hb); have n2_ := Qa.mk (Qh (g := gb312) (o := .cells #[.int .u16 a2_0, .int .u16 a2_1] 27 (0, 0)) (by (with_reducible repeat (first | refine Qk ?_ _ | refine Qj ?_ | refine Qi ?_ _)); exact BK312.out) hb); have n3_ := Qa.mk (Qh (g := gb319) (o := .cells #[.bool true, .int .i64 t317, .int .i64 t318] 32 (0, 0)) (by (with_reducible repeat (first | refine Qk ?_ _ | refine Qj ?_ | refine Qi ?_ _)); exact BK319.out) hb); have n4_ := Qa.mk (Qm (by repeat (first | (with_reducible first | exact HB.out | apply Qd | apply Qf | apply Qe | refine Qg ?_ GE311.out | refine Qg ?_ GE312.out | refine Qg ?_ GE319.out) | exact HB.out)) hb); have n5_ := Qa.mk (hbox); have n6_ := Qa.mk ((by rw [hg]; exact (Qv (by repeat (first | (with_reducible first | exact HB.out | apply Qd | apply Qf | apply Qe | refine Qg ?_ GE311.out | refine Qg ?_ GE312.out | refine Qg ?_ GE319.out) | exact HB.out))) : w.heap.size ≤ gb324)); have n7_ := Qa.mk ((by rw [hg]; exact (Qv (by repeat (first | (with_reducible first | exact HB.out | apply Qd | apply Qf | apply Qe | refine Qg ?_ GE311.out | refine Qg ?_ GE312.out | refine Qg ?_ GE319.out) | exact HB.out))) : w.heap.size ≤ gb324)); have n8_ := Qa.mk ((by rw [hg]; exact Nat.ne_of_lt (blk_lt (g := gb311) (o := .cells #[.slice A0_0 l0_0.length c0_0, .slice A0_1 l0_1.length c0_1] 25 (0, 0)) (by (with_reducible repeat (first | refine Qk ?_ _ | refine Qj ?_ | refine Qi ?_ _)); exact BK311.out)) : gb311 ≠ gb324)); have n9_ := Qa.mk ((by rw [hg]; exact Nat.ne_of_gt (blk_lt (g := gb311) (o := .cells #[.slice A0_0 l0_0.length c0_0, .slice A0_1 l0_1.length c0_1] 25 (0, 0)) (by (with_reducible repeat (first | refine Qk ?_ _ | refine Qj ?_ | refine Qi ?_ _)); exact BK311.out)) : gb324 ≠ gb311)); have n10_ := Qa.mk ((by rw [hg]; exact Nat.ne_of_lt (blk_lt (g := gb312) (o := .cells #[.int .u16 a2_0, .int .u16 a2_1] 27 (0, 0)) (by (with_reducible repeat (first | refine Qk ?_ _ | refine Qj ?_ | refine Qi ?_ _)); exact BK312.out)) : gb312 ≠ gb324)); have n11_ := Qa.mk ((by rw [hg]; exact Nat.ne_of_gt (blk_lt (g := gb312) (o := .cells #[.int .u16 a2_0, .int .u16 a2_1] 27 (0, 0)) (by (with_reducible repeat (first | refine Qk ?_ _ | refine Qj ?_ | refine Qi ?_ _)); exact BK312.out)) : gb324 ≠ gb312)); have n12_ := Qa.mk ((by rw [hg]; exact Nat.ne_of_lt (blk_lt (g := gb319) (o := .cells #[.bool true, .int .i64 t317, .int .i64 t318] 32 (0, 0)) (by (with_reducible repeat (first | refine Qk ?_ _ | refine Qj ?_ | refine Qi ?_ _)); exact BK319.out)) : gb319 ≠ gb324)); have n13_ := Qa.mk ((by rw [hg]; exact Nat.ne_of_gt (blk_lt (g := gb319) (o := .cells #[.bool true, .int .i64 t317, .int .i64 t318] 32 (0, 0)) (by (with_reducible repeat (first | refine Qk ?_ _ | refine Qj ?_ | refine Qi ?_ _)); exact BK319.out)) : gb324 ≠ gb319)); clear HO322; clear BK311; clear BK312; clear BK319; clear HB; have HO322 := n0_; have BK311 := n1_; have BK312 := n2_; have BK319 := n3_; have HB := n4_; have BK324 := n5_; have GW324 := n6_; have GE324 := n7_; have NB311_324 := n8_; have NB324_311 := n9_; have NB312_324 := n10_; have NB324_312 := n11_; have NB319_324 := n12_; have NB324_319 := n13_; clear n0_ n1_ n2_ n3_ n4_ n5_ n6_ n7_ n8_ n9_ n10_ n11_ n12_ n13_; clear hb hbox hg; have hnb58 := NB324_311.out; have hnc58 := NB311_324.out; have hnb59 := NB324_312.out; have hnc59 := NB312_324.out; have hnb60 := NB324_319.out; have hnc60 := NB319_324.out; have hcz61_0 : w57.cell? ⟨gb324, 0, none⟩ = some (.bool false) := (Qb BK324.out 0).trans rfl; have hcz61_1 : w57.cell? ⟨gb324, 1, none⟩ = some (.bool false) := (Qb BK324.out 1).trans rfl; have hcz61_2 : w57.cell? ⟨gb324, 2, none⟩ = some (.bool false) := (Qb BK324.out 2).trans rfl; have hfz61_0 := Qc BK324.out 0; have hfz61_1 := Qc BK324.out 1; have hfz61_2 := Qc BK324.out 2; have hcz62_0 : w57.cell? ⟨gb319, 0, none⟩ = some (.bool true) := (Qb BK319.out 0).trans rfl; have hcz62_1 : w57.cell? ⟨gb319, 1, none⟩ = some (.int .i64 t317) := (Qb BK319.out 1).trans rfl; have hcz62_2 : w57.cell? ⟨gb319, 2, none⟩ = some (.int .i64 t318) := (Qb BK319.out 2).trans rfl; have hfz62_0 := Qc BK319.out 0; have hfz62_1 := Qc BK319.out 1; have hfz62_2 := Qc BK319.out 2))
           go_ret
           exact ⟨by first | rfl | (simp [Qr, Qq] <;> rfl) | (simp only [← hji23]; first | rfl | (simp [Qr, Qq] <;> rfl)) | (simp [*, Qr, Qq] <;> rfl), by repeat (first | (with_reducible first | exact HB.out | apply Qd | apply Qf | apply Qe | refine Qg ?_ GE311.out | refine Qg ?_ GE312.out | refine Qg ?_ GE319.out | refine Qg ?_ GE324.out) | exact HB.out)⟩
          ·
           rw [if_neg c45] at H
           have c45b0 : (t317 == (Int.tmod (wrap64 (a2_1)) (wrap64 ((a1.size : Int) + 1)))) = false := beq_eq_false_iff_ne.mpr c45
           have c45b1 : (t317 != (Int.tmod (wrap64 (a2_1)) (wrap64 ((a1.size : Int) + 1)))) = true := bne_iff_ne.mpr c45
           obtain ⟨bq63, hbq63⟩ : ∃ b_ : Bool, b_ = ((rd_T45 t320 (ji23)).f1) := ⟨_, rfl⟩
           replace H : (if bq63 = true then (some (decide (t317 > (Int.tmod (wrap64 (a2_1)) (wrap64 ((a1.size : Int) + 1)))))) else (some false)) = some r := by rw [← hbq63] at H; exact H
           have Nbq63 := Qa.mk hbq63
           clear hbq63
           by_cases c64 : bq63 = true
           ·
            subst c64
            have H1 : (some (decide (t317 > (Int.tmod (wrap64 (a2_1)) (wrap64 ((a1.size : Int) + 1)))))) = some r := by rw [if_pos rfl] at H; exact H
            clear H
            have H := H1
            clear H1
            obtain rfl := Option.some.inj H
            have hnb65 := NB312_311.out
            have hnc65 := NB311_312.out
            have hcz66_0 : wc.cell? ⟨gb312, 0, none⟩ = some (.int .u16 a2_0) := (Qb BK312.out 0).trans rfl
            have hcz66_1 : wc.cell? ⟨gb312, 1, none⟩ = some (.int .u16 a2_1) := (Qb BK312.out 1).trans rfl
            have hfz66_0 := Qc BK312.out 0
            have hfz66_1 := Qc BK312.out 1
            have hcz67_0 : wc.cell? ⟨gb311, 0, none⟩ = some (.slice A0_0 l0_0.length c0_0) := (Qb BK311.out 0).trans rfl
            have hcz67_1 : wc.cell? ⟨gb311, 1, none⟩ = some (.slice A0_1 l0_1.length c0_1) := (Qb BK311.out 1).trans rfl
            have hfz67_0 := Qc BK311.out 0
            have hfz67_1 := Qc BK311.out 1
            go_wp2_with (first | ((with_reducible refine Qd1 (f := 11) rfl ?_); refine goesL_ (some 42) rfl rfl Try.func11 (by kernel_rfl) rfl #[.agg #[.slice A0_0 l0_0.length c0_0, .slice A0_1 l0_1.length c0_1], .int .i64 ji23, .string a1, .int .i64 (Int.tmod (wrap64 (a2_1)) (wrap64 ((a1.size : Int) + 1))), .int .i64 a3] rfl (by (try simp only [List.map_toArray, List.map_cons, List.map_nil]); first | done | (simp only [hji23]; rfl) | rfl | (simp only [List.length_drop, List.length_take]; rfl)) ?_; (with_reducible refine (naive_Node.calls kj4 _ _ l0_0 _ _ l0_1 ji23 a1 (Int.tmod (wrap64 (a2_1)) (wrap64 ((a1.size : Int) + 1))) a3 true t317 t318 _ ?side1 ?side2 ?side3 ?side4 A21.out).mono ?_); (case side1 => repeat (first | exact (Kd.Qn HR0_0.out HB.out) | (with_reducible refine Kd.Qw ?_ _) | (with_reducible refine Kd.Qy ?_ _) | (with_reducible refine Kd.Qx ?_))); (case side2 => exact HC0_0.out); (case side3 => repeat (first | exact (Kd.Qn HR0_1.out HB.out) | (with_reducible refine Kd.Qw ?_ _) | (with_reducible refine Kd.Qy ?_ _) | (with_reducible refine Kd.Qx ?_))); (case side4 => exact HC0_1.out); rintro e w68 ⟨rfl, hb⟩; refine ⟨_, rfl, ?_⟩; have n0_ := Qa.mk (Qh (g := gb311) (o := .cells #[.slice A0_0 l0_0.length c0_0, .slice A0_1 l0_1.length c0_1] 25 (0, 0)) (by (with_reducible repeat (first | refine Qk ?_ _ | refine Qj ?_ | refine Qi ?_ _)); exact BK311.out) hb); have n1_ := Qa.mk (Qh (g := gb312) (o := .cells #[.int .u16 a2_0, .int .u16 a2_1] 27 (0, 0)) (by (with_reducible repeat (first | refine Qk ?_ _ | refine Qj ?_ | refine Qi ?_ _)); exact BK312.out) hb); have n2_ := Qa.mk (Qm (by repeat (first | (with_reducible first | exact HB.out | apply Qd | apply Qf | apply Qe | refine Qg ?_ GE311.out | refine Qg ?_ GE312.out) | exact HB.out)) hb); clear BK311; clear BK312; clear HB; have BK311 := n0_; have BK312 := n1_; have HB := n2_; clear n0_ n1_ n2_; (try clear hb); (try clear hb2); (try clear hk); (try clear hi)) | ((with_reducible refine Qc1 (N := 11) rfl ?_); refine Ql1 ?hg (N := 11) ?hd (cs := #[.bool false, .int .i64 0, .int .i64 0]) (t := 32) ?hr ?_; (case hd => rfl); (case hg => rfl); (case hr => first | (go_simp; done) | (go_simp; rfl)); intro gb319 hg w69 hbox hb; have n0_ := Qa.mk (Qh (g := gb311) (o := .cells #[.slice A0_0 l0_0.length c0_0, .slice A0_1 l0_1.length c0_1] 25 (0, 0)) (by (with_reducible repeat (first | refine Qk ?_ _ | refine Qj ?_ | refine Qi ?_ _)); exact BK311.out) hb); have n1_ := Qa.mk (Qh (g := gb312) (o := .cells #[.int .u16 a2_0, .int .u16 a2_1] 27 (0, 0)) (by (with_reducible repeat (first | refine Qk ?_ _ | refine Qj ?_ | refine Qi ?_ _)); exact BK312.out) hb); have n2_ := Qa.mk (Qm (by repeat (first | (with_reducible first | exact HB.out | apply Qd | apply Qf | apply Qe | refine Qg ?_ GE311.out | refine Qg ?_ GE312.out) | exact HB.out)) hb); have n3_ := Qa.mk (hbox); have n4_ := Qa.mk ((by rw [hg]; exact (Qv (by repeat (first | (with_reducible first | exact HB.out | apply Qd | apply Qf | apply Qe | refine Qg ?_ GE311.out | refine Qg ?_ GE312.out) | exact HB.out))) : w.heap.size ≤ gb319)); have n5_ := Qa.mk ((by rw [hg]; exact (Qv (by repeat (first | (with_reducible first | exact HB.out | apply Qd | apply Qf | apply Qe | refine Qg ?_ GE311.out | refine Qg ?_ GE312.out) | exact HB.out))) : w.heap.size ≤ gb319)); have n6_ := Qa.mk ((by rw [hg]; exact Nat.ne_of_lt (blk_lt (g := gb311) (o := .cells #[.slice A0_0 l0_0.length c0_0, .slice A0_1 l0_1.length c0_1] 25 (0, 0)) (by (with_reducible repeat (first | refine Qk ?_ _ | refine Qj ?_ | refine Qi ?_ _)); exact BK311.out)) : gb311 ≠ gb319)); have n7_ := Qa.mk ((by rw [hg]; exact Nat.ne_of_gt (blk_lt (g := gb311) (o := .cells #[.slice A0_0 l0_0.length c0_0, .slice A0_1 l0_1.length c0_1] 25 (0, 0)) (by (with_reducible repeat (first | refine Qk ?_ _ | refine Qj ?_ | refine Qi ?_ _)); exact BK311.out)) : gb319 ≠ gb311)); have n8_ := Qa.mk ((by rw [hg]; exact Nat.ne_of_lt (blk_lt (g := gb312) (o := .cells #[.int .u16 a2_0, .int .u16 a2_1] 27 (0, 0)) (by (with_reducible repeat (first | refine Qk ?_ _ | refine Qj ?_ | refine Qi ?_ _)); exact BK312.out)) : gb312 ≠ gb319)); have n9_ := Qa.mk ((by rw [hg]; exact Nat.ne_of_gt (blk_lt (g := gb312) (o := .cells #[.int .u16 a2_0, .int .u16 a2_1] 27 (0, 0)) (by (with_reducible repeat (first | refine Qk ?_ _ | refine Qj ?_ | refine Qi ?_ _)); exact BK312.out)) : gb319 ≠ gb312)); clear BK311; clear BK312; clear HB; have BK311 := n0_; have BK312 := n1_; have HB := n2_; have BK319 := n3_; have GW319 := n4_; have GE319 := n5_; have NB311_319 := n6_; have NB319_311 := n7_; have NB312_319 := n8_; have NB319_312 := n9_; clear n0_ n1_ n2_ n3_ n4_ n5_ n6_ n7_ n8_ n9_; clear hb hbox hg; have hnb70 := NB319_311.out; have hnc70 := NB311_319.out; have hnb71 := NB319_312.out; have hnc71 := NB312_319.out; have hcz72_0 : w69.cell? ⟨gb319, 0, none⟩ = some (.bool false) := (Qb BK319.out 0).trans rfl; have hcz72_1 : w69.cell? ⟨gb319, 1, none⟩ = some (.int .i64 0) := (Qb BK319.out 1).trans rfl; have hcz72_2 : w69.cell? ⟨gb319, 2, none⟩ = some (.int .i64 0) := (Qb BK319.out 2).trans rfl; have hfz72_0 := Qc BK319.out 0; have hfz72_1 := Qc BK319.out 1; have hfz72_2 := Qc BK319.out 2; have hcz73_0 : w69.cell? ⟨gb311, 0, none⟩ = some (.slice A0_0 l0_0.length c0_0) := (Qb BK311.out 0).trans rfl; have hcz73_1 : w69.cell? ⟨gb311, 1, none⟩ = some (.slice A0_1 l0_1.length c0_1) := (Qb BK311.out 1).trans rfl; have hfz73_0 := Qc BK311.out 0; have hfz73_1 := Qc BK311.out 1) | ((with_reducible refine Qd1 (f := 17) rfl ?_); refine goesL_ (some 44) rfl rfl Try.func17 (by kernel_rfl) rfl #[.agg #[.slice A0_0 l0_0.length c0_0, .slice A0_1 l0_1.length c0_1]] rfl (by (try simp only [List.map_toArray, List.map_cons, List.map_nil]); first | done | rfl | (simp only [List.length_drop, List.length_take]; rfl)) ?_; (with_reducible refine (Qv1.calls kj4 _ _ l0_0 _ _ l0_1 t320 _ ?side1 ?side2 ?side3 ?side4 A22.out).mono ?_); (case side1 => exact Kd.Qn HR0_0.out (by repeat (first | (with_reducible first | exact HB.out | apply Qd | apply Qf | apply Qe | refine Qg ?_ GE311.out | refine Qg ?_ GE312.out | refine Qg ?_ GE319.out) | exact HB.out))); (case side2 => exact HC0_0.out); (case side3 => exact Kd.Qn HR0_1.out (by repeat (first | (with_reducible first | exact HB.out | apply Qd | apply Qf | apply Qe | refine Qg ?_ GE311.out | refine Qg ?_ GE312.out | refine Qg ?_ GE319.out) | exact HB.out))); (case side4 => exact HC0_1.out); rintro e w74 ⟨v321, rfl, ho0, hb⟩; refine ⟨_, rfl, ?_⟩; have n0_ := Qa.mk (Kd.R_lower ho0 (Qv (by repeat (first | (with_reducible first | exact HB.out | apply Qd | apply Qf | apply Qe | refine Qg ?_ GE311.out | refine Qg ?_ GE312.out | refine Qg ?_ GE319.out) | exact HB.out)))); have n1_ := Qa.mk (Qh (g := gb311) (o := .cells #[.slice A0_0 l0_0.length c0_0, .slice A0_1 l0_1.length c0_1] 25 (0, 0)) (by (with_reducible repeat (first | refine Qk ?_ _ | refine Qj ?_ | refine Qi ?_ _)); refine blk_far ?_ NB311_319.out _; (with_reducible repeat (first | refine Qk ?_ _ | refine Qj ?_ | refine Qi ?_ _)); refine blk_far ?_ NB311_319.out _; (with_reducible repeat (first | refine Qk ?_ _ | refine Qj ?_ | refine Qi ?_ _)); refine blk_far ?_ NB311_319.out _; (with_reducible repeat (first | refine Qk ?_ _ | refine Qj ?_ | refine Qi ?_ _)); exact BK311.out) hb); have n2_ := Qa.mk (Qh (g := gb312) (o := .cells #[.int .u16 a2_0, .int .u16 a2_1] 27 (0, 0)) (by (with_reducible repeat (first | refine Qk ?_ _ | refine Qj ?_ | refine Qi ?_ _)); refine blk_far ?_ NB312_319.out _; (with_reducible repeat (first | refine Qk ?_ _ | refine Qj ?_ | refine Qi ?_ _)); refine blk_far ?_ NB312_319.out _; (with_reducible repeat (first | refine Qk ?_ _ | refine Qj ?_ | refine Qi ?_ _)); refine blk_far ?_ NB312_319.out _; (with_reducible repeat (first | refine Qk ?_ _ | refine Qj ?_ | refine Qi ?_ _)); exact BK312.out) hb); have n3_ := Qa.mk (Qh (g := gb319) (o := .cells #[.bool true, .int .i64 t317, .int .i64 t318] 32 (0, 0)) (by (with_reducible repeat (first | refine Qk ?_ _ | refine Qj ?_ | refine Qi ?_ _)); refine blk_put (cs := #[.bool true, .int .i64 t317, .int .i64 0]) ?_ 2 _ rfl; (with_reducible repeat (first | refine Qk ?_ _ | refine Qj ?_ | refine Qi ?_ _)); refine blk_put (cs := #[.bool true, .int .i64 0, .int .i64 0]) ?_ 1 _ rfl; (with_reducible repeat (first | refine Qk ?_ _ | refine Qj ?_ | refine Qi ?_ _)); refine blk_put (cs := #[.bool false, .int .i64 0, .int .i64 0]) ?_ 0 _ rfl; (with_reducible repeat (first | refine Qk ?_ _ | refine Qj ?_ | refine Qi ?_ _)); exact BK319.out) hb); have n4_ := Qa.mk (Qm (by repeat (first | (with_reducible first | exact HB.out | apply Qd | apply Qf | apply Qe | refine Qg ?_ GE311.out | refine Qg ?_ GE312.out | refine Qg ?_ GE319.out) | exact HB.out)) hb); clear BK311; clear BK312; clear BK319; clear HB; have HO322 := n0_; have BK311 := n1_; have BK312 := n2_; have BK319 := n3_; have HB := n4_; clear n0_ n1_ n2_ n3_ n4_; (try clear hb); (try clear hb2); (try clear hk); (try clear hi); (try clear ho0); obtain ⟨Ao75, co75, eo75⟩ := Kd.R_slice HO322.out; subst eo75; have p323 : 0 ≤ ((ji23) : Int) := of_decide_eq_true (by first | (with_reducible assumption) | assumption); have q323 : (ji23) < (t320.length : Int) := of_decide_eq_true (by first | (with_reducible assumption) | assumption); obtain ⟨ad323, e323, hx323_0, hx323_1, hx323_2⟩ := at_T45 (Kd.R_reads' HO322.out).2.2 (ji23) p323 q323; (try rw [← Nbq63.out] at hx323_0); (try rw [← Nbq63.out] at hx323_1); (try rw [← Nbq63.out] at hx323_2); cases e323; replace p323 := eq_true p323; replace q323 := eq_true q323) | ((with_reducible refine Qc1 (N := 12) rfl ?_); refine Ql1 ?hg (N := 12) ?hd (cs := #[.bool false, .bool false, .bool false]) (t := 45) ?hr ?_; (case hd => rfl); (case hg => rfl); (case hr => first | (go_simp; done) | (go_simp; rfl)); intro gb324 hg w76 hbox hb; have n0_ := Qa.mk (Kd.Qb1 (Kd.R_elderB (by (with_reducible repeat (first | apply Kd.Qs | apply Kd.Qt | apply Kd.Qu)); exact HO322.out) gb324 (Nat.le_of_eq hg.symm)) hb); have n1_ := Qa.mk (Qh (g := gb311) (o := .cells #[.slice A0_0 l0_0.length c0_0, .slice A0_1 l0_1.length c0_1] 25 (0, 0)) (by (with_reducible repeat (first | refine Qk ?_ _ | refine Qj ?_ | refine Qi ?_ _)); exact BK311.out) hb); have n2_ := Qa.mk (Qh (g := gb312) (o := .cells #[.int .u16 a2_0, .int .u16 a2_1] 27 (0, 0)) (by (with_reducible repeat (first | refine Qk ?_ _ | refine Qj ?_ | refine Qi ?_ _)); exact BK312.out) hb); have n3_ := Qa.mk (Qh (g := gb319) (o := .cells #[.bool true, .int .i64 t317, .int .i64 t318] 32 (0, 0)) (by (with_reducible repeat (first | refine Qk ?_ _ | refine Qj ?_ | refine Qi ?_ _)); exact BK319.out) hb); have n4_ := Qa.mk (Qm (by repeat (first | (with_reducible first | exact HB.out | apply Qd | apply Qf | apply Qe | refine Qg ?_ GE311.out | refine Qg ?_ GE312.out | refine Qg ?_ GE319.out) | exact HB.out)) hb); have n5_ := Qa.mk (hbox); have n6_ := Qa.mk ((by rw [hg]; exact (Qv (by repeat (first | (with_reducible first | exact HB.out | apply Qd | apply Qf | apply Qe | refine Qg ?_ GE311.out | refine Qg ?_ GE312.out | refine Qg ?_ GE319.out) | exact HB.out))) : w.heap.size ≤ gb324)); have n7_ := Qa.mk ((by rw [hg]; exact (Qv (by repeat (first | (with_reducible first | exact HB.out | apply Qd | apply Qf | apply Qe | refine Qg ?_ GE311.out | refine Qg ?_ GE312.out | refine Qg ?_ GE319.out) | exact HB.out))) : w.heap.size ≤ gb324)); have n8_ := Qa.mk ((by rw [hg]; exact Nat.ne_of_lt (blk_lt (g := gb311) (o := .cells #[.slice A0_0 l0_0.length c0_0, .slice A0_1 l0_1.length c0_1] 25 (0, 0)) (by (with_reducible repeat (first | refine Qk ?_ _ | refine Qj ?_ | refine Qi ?_ _)); exact BK311.out)) : gb311 ≠ gb324)); have n9_ := Qa.mk ((by rw [hg]; exact Nat.ne_of_gt (blk_lt (g := gb311) (o := .cells #[.slice A0_0 l0_0.length c0_0, .slice A0_1 l0_1.length c0_1] 25 (0, 0)) (by (with_reducible repeat (first | refine Qk ?_ _ | refine Qj ?_ | refine Qi ?_ _)); exact BK311.out)) : gb324 ≠ gb311)); have n10_ := Qa.mk ((by rw [hg]; exact Nat.ne_of_lt (blk_lt (g := gb312) (o := .cells #[.int .u16 a2_0, .int .u16 a2_1] 27 (0, 0)) (by (with_reducible repeat (first | refine Qk ?_ _ | refine Qj ?_ | refine Qi ?_ _)); exact BK312.out)) : gb312 ≠ gb324)); have n11_ := Qa.mk ((by rw [hg]; exact Nat.ne_of_gt (blk_lt (g := gb312) (o := .cells #[.int .u16 a2_0, .int .u16 a2_1] 27 (0, 0)) (by (with_reducible repeat (first | refine Qk ?_ _ | refine Qj ?_ | refine Qi ?_ _)); exact BK312.out)) : gb324 ≠ gb312)); have n12_ := Qa.mk ((by rw [hg]; exact Nat.ne_of_lt (blk_lt (g := gb319) (o := .cells #[.bool true, .int .i64 t317, .int .i64 t318] 32 (0, 0)) (by (with_reducible repeat (first | refine Qk ?_ _ | refine Qj ?_ | refine Qi ?_ _)); exact BK319.out)) : gb319 ≠ gb324)); have n13_ := Qa.mk ((by rw [hg]; exact Nat.ne_of_gt (blk_lt (g := gb319) (o := .cells #[.bool true, .int .i64 t317, .int .i64 t318] 32 (0, 0)) (by (with_reducible repeat (first | refine Qk ?_ _ | refine Qj ?_ | refine Qi ?_ _)); exact BK319.out)) : gb324 ≠ gb319)); clear HO322; clear BK311; clear BK312; clear BK319; clear HB; have HO322 := n0_; have BK311 := n1_; have BK312 := n2_; have BK319 := n3_; have HB := n4_; have BK324 := n5_; have GW324 := n6_; have GE324 := n7_; have NB311_324 := n8_; have NB324_311 := n9_; have NB312_324 := n10_; have NB324_312 := n11_; have NB319_324 := n12_; have NB324_319 := n13_; clear n0_ n1_ n2_ n3_ n4_ n5_ n6_ n7_ n8_ n9_ n10_ n11_ n12_ n13_; clear hb hbox hg; have hnb77 := NB324_311.out; have hnc77 := NB311_324.out; have hnb78 := NB324_312.out; have hnc78 := NB312_324.out; have hnb79 := NB324_319.out; have hnc79 := NB319_324.out; have hcz80_0 : w76.cell? ⟨gb324, 0, none⟩ = some (.bool false) := (Qb BK324.out 0).trans rfl; have hcz80_1 : w76.cell? ⟨gb324, 1, none⟩ = some (.bool false) := (Qb BK324.out 1).trans rfl; have hcz80_2 : w76.cell? ⟨gb324, 2, none⟩ = some (.bool false) := (Qb BK324.out 2).trans rfl; have hfz80_0 := Qc BK324.out 0; have hfz80_1 := Qc BK324.out 1; have hfz80_2 := Qc BK324.out 2; have hcz81_0 : w76.cell? ⟨gb319, 0, none⟩ = some (.bool true) := (Qb BK319.out 0).trans rfl; have hcz81_1 : w76.cell? ⟨gb319, 1, none⟩ = some (.int .i64 t317) := (Qb BK319.out 1).trans rfl; have hcz81_2 : w76.cell? ⟨gb319, 2, none⟩ = some (.int .i64 t318) := (Qb BK319.out 2).trans rfl; have hfz81_0 := Qc BK319.out 0; have hfz81_1 := Qc BK319.out 1; have hfz81_2 := Qc BK319.out 2))
            go_ret
            exact ⟨by first | rfl | (simp [Qr, Qq] <;> rfl) | (simp only [← hji23]; first | rfl | (simp [Qr, Qq] <;> rfl)) | (simp [*, Qr, Qq] <;> rfl), by repeat (first | (with_reducible first | exact HB.out | apply Qd | apply Qf | apply Qe | refine Qg ?_ GE311.out | refine Qg ?_ GE312.out | refine Qg ?_ GE319.out | refine Qg ?_ GE324.out) | exact HB.out)⟩
           ·
            replace c64 := Bool.eq_false_iff.mpr c64
            subst c64
            have H1 : (some false) = some r := by rw [if_neg (show ¬ (false = true) by decide)] at H; exact H
            clear H
            have H := H1
            clear H1
            obtain rfl := Option.some.inj H
            have hnb82 := NB312_311.out
            have hnc82 := NB311_312.out
            have hcz83_0 : wc.cell? ⟨gb312, 0, none⟩ = some (.int .u16 a2_0) := (Qb BK312.out 0).trans rfl
            have hcz83_1 : wc.cell? ⟨gb312, 1, none⟩ = some (.int .u16 a2_1) := (Qb BK312.out 1).trans rfl
            have hfz83_0 := Qc BK312.out 0
            have hfz83_1 := Qc BK312.out 1
            have hcz84_0 : wc.cell? ⟨gb311, 0, none⟩ = some (.slice A0_0 l0_0.length c0_0) := (Qb BK311.out 0).trans rfl
            have hcz84_1 : wc.cell? ⟨gb311, 1, none⟩ = some (.slice A0_1 l0_1.length c0_1) := (Qb BK311.out 1).trans rfl
            have hfz84_0 := Qc BK311.out 0
            have hfz84_1 := Qc BK311.out 1
            go_wp2_with (first | ((with_reducible refine Qd1 (f := 11) rfl ?_); refine goesL_ (some 42) rfl rfl Try.func11 (by kernel_rfl) rfl #[.agg #[.slice A0_0 l0_0.length c0_0, .slice A0_1 l0_1.length c0_1], .int .i64 ji23, .string a1, .int .i64 (Int.tmod (wrap64 (a2_1)) (wrap64 ((a1.size : Int) + 1))), .int .i64 a3] rfl (by (try simp only [List.map_toArray, List.map_cons, List.map_nil]); first | done | (simp only [hji23]; rfl) | rfl | (simp only [List.length_drop, List.length_take]; rfl)) ?_; (with_reducible refine (naive_Node.calls kj4 _ _ l0_0 _ _ l0_1 ji23 a1 (Int.tmod (wrap64 (a2_1)) (wrap64 ((a1.size : Int) + 1))) a3 true t317 t318 _ ?side1 ?side2 ?side3 ?side4 A21.out).mono ?_); (case side1 => repeat (first | exact (Kd.Qn HR0_0.out HB.out) | (with_reducible refine Kd.Qw ?_ _) | (with_reducible refine Kd.Qy ?_ _) | (with_reducible refine Kd.Qx ?_))); (case side2 => exact HC0_0.out); (case side3 => repeat (first | exact (Kd.Qn HR0_1.out HB.out) | (with_reducible refine Kd.Qw ?_ _) | (with_reducible refine Kd.Qy ?_ _) | (with_reducible refine Kd.Qx ?_))); (case side4 => exact HC0_1.out); rintro e w85 ⟨rfl, hb⟩; refine ⟨_, rfl, ?_⟩; have n0_ := Qa.mk (Qh (g := gb311) (o := .cells #[.slice A0_0 l0_0.length c0_0, .slice A0_1 l0_1.length c0_1] 25 (0, 0)) (by (with_reducible repeat (first | refine Qk ?_ _ | refine Qj ?_ | refine Qi ?_ _)); exact BK311.out) hb); have n1_ := Qa.mk (Qh (g := gb312) (o := .cells #[.int .u16 a2_0, .int .u16 a2_1] 27 (0, 0)) (by (with_reducible repeat (first | refine Qk ?_ _ | refine Qj ?_ | refine Qi ?_ _)); exact BK312.out) hb); have n2_ := Qa.mk (Qm (by repeat (first | (with_reducible first | exact HB.out | apply Qd | apply Qf | apply Qe | refine Qg ?_ GE311.out | refine Qg ?_ GE312.out) | exact HB.out)) hb); clear BK311; clear BK312; clear HB; have BK311 := n0_; have BK312 := n1_; have HB := n2_; clear n0_ n1_ n2_; (try clear hb); (try clear hb2); (try clear hk); (try clear hi)) | ((with_reducible refine Qc1 (N := 11) rfl ?_); refine Ql1 ?hg (N := 11) ?hd (cs := #[.bool false, .int .i64 0, .int .i64 0]) (t := 32) ?hr ?_; (case hd => rfl); (case hg => rfl); (case hr => first | (go_simp; done) | (go_simp; rfl)); intro gb319 hg w86 hbox hb; have n0_ := Qa.mk (Qh (g := gb311) (o := .cells #[.slice A0_0 l0_0.length c0_0, .slice A0_1 l0_1.length c0_1] 25 (0, 0)) (by (with_reducible repeat (first | refine Qk ?_ _ | refine Qj ?_ | refine Qi ?_ _)); exact BK311.out) hb); have n1_ := Qa.mk (Qh (g := gb312) (o := .cells #[.int .u16 a2_0, .int .u16 a2_1] 27 (0, 0)) (by (with_reducible repeat (first | refine Qk ?_ _ | refine Qj ?_ | refine Qi ?_ _)); exact BK312.out) hb); have n2_ := Qa.mk (Qm (by repeat (first | (with_reducible first | exact HB.out | apply Qd | apply Qf | apply Qe | refine Qg ?_ GE311.out | refine Qg ?_ GE312.out) | exact HB.out)) hb); have n3_ := Qa.mk (hbox); have n4_ := Qa.mk ((by rw [hg]; exact (Qv (by repeat (first | (with_reducible first | exact HB.out | apply Qd | apply Qf | apply Qe | refine Qg ?_ GE311.out | refine Qg ?_ GE312.out) | exact HB.out))) : w.heap.size ≤ gb319)); have n5_ := Qa.mk ((by rw [hg]; exact (Qv (by repeat (first | (with_reducible first | exact HB.out | apply Qd | apply Qf | apply Qe | refine Qg ?_ GE311.out | refine Qg ?_ GE312.out) | exact HB.out))) : w.heap.size ≤ gb319)); have n6_ := Qa.mk ((by rw [hg]; exact Nat.ne_of_lt (blk_lt (g := gb311) (o := .cells #[.slice A0_0 l0_0.length c0_0, .slice A0_1 l0_1.length c0_1] 25 (0, 0)) (by (with_reducible repeat (first | refine Qk ?_ _ | refine Qj ?_ | refine Qi ?_ _)); exact BK311.out)) : gb311 ≠ gb319)); have n7_ := Qa.mk ((by rw [hg]; exact Nat.ne_of_gt (blk_lt (g := gb311) (o := .cells #[.slice A0_0 l0_0.length c0_0, .slice A0_1 l0_1.length c0_1] 25 (0, 0)) (by (with_reducible repeat (first | refine Qk ?_ _ | refine Qj ?_ | refine Qi ?_ _)); exact BK311.out)) : gb319 ≠ gb311)); have n8_ := Qa.mk ((by rw [hg]; exact Nat.ne_of_lt (blk_lt (g := gb312) (o := .cells #[.int .u16 a2_0, .int .u16 a2_1] 27 (0, 0)) (by (with_reducible repeat (first | refine Qk ?_ _ | refine Qj ?_ | refine Qi ?_ _)); exact BK312.out)) : gb312 ≠ gb319)); have n9_ := Qa.mk ((by rw [hg]; exact Nat.ne_of_gt (blk_lt (g := gb312) (o := .cells #[.int .u16 a2_0, .int .u16 a2_1] 27 (0, 0)) (by (with_reducible repeat (first | refine Qk ?_ _ | refine Qj ?_ | refine Qi ?_ _)); exact BK312.out)) : gb319 ≠ gb312)); clear BK311; clear BK312; clear HB; have BK311 := n0_; have BK312 := n1_; have HB := n2_; have BK319 := n3_; have GW319 := n4_; have GE319 := n5_; have NB311_319 := n6_; have NB319_311 := n7_; have NB312_319 := n8_; have NB319_312 := n9_; clear n0_ n1_ n2_ n3_ n4_ n5_ n6_ n7_ n8_ n9_; clear hb hbox hg; have hnb87 := NB319_311.out; have hnc87 := NB311_319.out; have hnb88 := NB319_312.out; have hnc88 := NB312_319.out; have hcz89_0 : w86.cell? ⟨gb319, 0, none⟩ = some (.bool false) := (Qb BK319.out 0).trans rfl; have hcz89_1 : w86.cell? ⟨gb319, 1, none⟩ = some (.int .i64 0) := (Qb BK319.out 1).trans rfl; have hcz89_2 : w86.cell? ⟨gb319, 2, none⟩ = some (.int .i64 0) := (Qb BK319.out 2).trans rfl; have hfz89_0 := Qc BK319.out 0; have hfz89_1 := Qc BK319.out 1; have hfz89_2 := Qc BK319.out 2; have hcz90_0 : w86.cell? ⟨gb311, 0, none⟩ = some (.slice A0_0 l0_0.length c0_0) := (Qb BK311.out 0).trans rfl; have hcz90_1 : w86.cell? ⟨gb311, 1, none⟩ = some (.slice A0_1 l0_1.length c0_1) := (Qb BK311.out 1).trans rfl; have hfz90_0 := Qc BK311.out 0; have hfz90_1 := Qc BK311.out 1) | ((with_reducible refine Qd1 (f := 17) rfl ?_); refine goesL_ (some 44) rfl rfl Try.func17 (by kernel_rfl) rfl #[.agg #[.slice A0_0 l0_0.length c0_0, .slice A0_1 l0_1.length c0_1]] rfl (by (try simp only [List.map_toArray, List.map_cons, List.map_nil]); first | done | rfl | (simp only [List.length_drop, List.length_take]; rfl)) ?_; (with_reducible refine (Qv1.calls kj4 _ _ l0_0 _ _ l0_1 t320 _ ?side1 ?side2 ?side3 ?side4 A22.out).mono ?_); (case side1 => exact Kd.Qn HR0_0.out (by repeat (first | (with_reducible first | exact HB.out | apply Qd | apply Qf | apply Qe | refine Qg ?_ GE311.out | refine Qg ?_ GE312.out | refine Qg ?_ GE319.out) | exact HB.out))); (case side2 => exact HC0_0.out); (case side3 => exact Kd.Qn HR0_1.out (by repeat (first | (with_reducible first | exact HB.out | apply Qd | apply Qf | apply Qe | refine Qg ?_ GE311.out | refine Qg ?_ GE312.out | refine Qg ?_ GE319.out) | exact HB.out))); (case side4 => exact HC0_1.out); rintro e w91 ⟨v321, rfl, ho0, hb⟩; refine ⟨_, rfl, ?_⟩; have n0_ := Qa.mk (Kd.R_lower ho0 (Qv (by repeat (first | (with_reducible first | exact HB.out | apply Qd | apply Qf | apply Qe | refine Qg ?_ GE311.out | refine Qg ?_ GE312.out | refine Qg ?_ GE319.out) | exact HB.out)))); have n1_ := Qa.mk (Qh (g := gb311) (o := .cells #[.slice A0_0 l0_0.length c0_0, .slice A0_1 l0_1.length c0_1] 25 (0, 0)) (by (with_reducible repeat (first | refine Qk ?_ _ | refine Qj ?_ | refine Qi ?_ _)); refine blk_far ?_ NB311_319.out _; (with_reducible repeat (first | refine Qk ?_ _ | refine Qj ?_ | refine Qi ?_ _)); refine blk_far ?_ NB311_319.out _; (with_reducible repeat (first | refine Qk ?_ _ | refine Qj ?_ | refine Qi ?_ _)); refine blk_far ?_ NB311_319.out _; (with_reducible repeat (first | refine Qk ?_ _ | refine Qj ?_ | refine Qi ?_ _)); exact BK311.out) hb); have n2_ := Qa.mk (Qh (g := gb312) (o := .cells #[.int .u16 a2_0, .int .u16 a2_1] 27 (0, 0)) (by (with_reducible repeat (first | refine Qk ?_ _ | refine Qj ?_ | refine Qi ?_ _)); refine blk_far ?_ NB312_319.out _; (with_reducible repeat (first | refine Qk ?_ _ | refine Qj ?_ | refine Qi ?_ _)); refine blk_far ?_ NB312_319.out _; (with_reducible repeat (first | refine Qk ?_ _ | refine Qj ?_ | refine Qi ?_ _)); refine blk_far ?_ NB312_319.out _; (with_reducible repeat (first | refine Qk ?_ _ | refine Qj ?_ | refine Qi ?_ _)); exact BK312.out) hb); have n3_ := Qa.mk (Qh (g := gb319) (o := .cells #[.bool true, .int .i64 t317, .int .i64 t318] 32 (0, 0)) (by (with_reducible repeat (first | refine Qk ?_ _ | refine Qj ?_ | refine Qi ?_ _)); refine blk_put (cs := #[.bool true, .int .i64 t317, .int .i64 0]) ?_ 2 _ rfl; (with_reducible repeat (first | refine Qk ?_ _ | refine Qj ?_ | refine Qi ?_ _)); refine blk_put (cs := #[.bool true, .int .i64 0, .int .i64 0]) ?_ 1 _ rfl; (with_reducible repeat (first | refine Qk ?_ _ | refine Qj ?_ | refine Qi ?_ _)); refine blk_put (cs := #[.bool false, .int .i64 0, .int .i64 0]) ?_ 0 _ rfl; (with_reducible repeat (first | refine Qk ?_ _ | refine Qj ?_ | refine Qi ?_ _)); exact BK319.out) hb); have n4_ := Qa.mk (Qm (by repeat (first | (with_reducible first | exact HB.out | apply Qd | apply Qf | apply Qe | refine Qg ?_ GE311.out | refine Qg ?_ GE312.out | refine Qg ?_ GE319.out) | exact HB.out)) hb); clear BK311; clear BK312; clear BK319; clear HB; have HO322 := n0_; have BK311 := n1_; have BK312 := n2_; have BK319 := n3_; have HB := n4_; clear n0_ n1_ n2_ n3_ n4_; (try clear hb); (try clear hb2); (try clear hk); (try clear hi); (try clear ho0); obtain ⟨Ao92, co92, eo92⟩ := Kd.R_slice HO322.out; subst eo92; have p323 : 0 ≤ ((ji23) : Int) := of_decide_eq_true (by first | (with_reducible assumption) | assumption); have q323 : (ji23) < (t320.length : Int) := of_decide_eq_true (by first | (with_reducible assumption) | assumption); obtain ⟨ad323, e323, hx323_0, hx323_1, hx323_2⟩ := at_T45 (Kd.R_reads' HO322.out).2.2 (ji23) p323 q323; (try rw [← Nbq63.out] at hx323_0); (try rw [← Nbq63.out] at hx323_1); (try rw [← Nbq63.out] at hx323_2); cases e323; replace p323 := eq_true p323; replace q323 := eq_true q323) | ((with_reducible refine Qc1 (N := 12) rfl ?_); refine Ql1 ?hg (N := 12) ?hd (cs := #[.bool false, .bool false, .bool false]) (t := 45) ?hr ?_; (case hd => rfl); (case hg => rfl); (case hr => first | (go_simp; done) | (go_simp; rfl)); intro gb324 hg w93 hbox hb; have n0_ := Qa.mk (Kd.Qb1 (Kd.R_elderB (by (with_reducible repeat (first | apply Kd.Qs | apply Kd.Qt | apply Kd.Qu)); exact HO322.out) gb324 (Nat.le_of_eq hg.symm)) hb); have n1_ := Qa.mk (Qh (g := gb311) (o := .cells #[.slice A0_0 l0_0.length c0_0, .slice A0_1 l0_1.length c0_1] 25 (0, 0)) (by (with_reducible repeat (first | refine Qk ?_ _ | refine Qj ?_ | refine Qi ?_ _)); exact BK311.out) hb); have n2_ := Qa.mk (Qh (g := gb312) (o := .cells #[.int .u16 a2_0, .int .u16 a2_1] 27 (0, 0)) (by (with_reducible repeat (first | refine Qk ?_ _ | refine Qj ?_ | refine Qi ?_ _)); exact BK312.out) hb); have n3_ := Qa.mk (Qh (g := gb319) (o := .cells #[.bool true, .int .i64 t317, .int .i64 t318] 32 (0, 0)) (by (with_reducible repeat (first | refine Qk ?_ _ | refine Qj ?_ | refine Qi ?_ _)); exact BK319.out) hb); have n4_ := Qa.mk (Qm (by repeat (first | (with_reducible first | exact HB.out | apply Qd | apply Qf | apply Qe | refine Qg ?_ GE311.out | refine Qg ?_ GE312.out | refine Qg ?_ GE319.out) | exact HB.out)) hb); have n5_ := Qa.mk (hbox); have n6_ := Qa.mk ((by rw [hg]; exact (Qv (by repeat (first | (with_reducible first | exact HB.out | apply Qd | apply Qf | apply Qe | refine Qg ?_ GE311.out | refine Qg ?_ GE312.out | refine Qg ?_ GE319.out) | exact HB.out))) : w.heap.size ≤ gb324)); have n7_ := Qa.mk ((by rw [hg]; exact (Qv (by repeat (first | (with_reducible first | exact HB.out | apply Qd | apply Qf | apply Qe | refine Qg ?_ GE311.out | refine Qg ?_ GE312.out | refine Qg ?_ GE319.out) | exact HB.out))) : w.heap.size ≤ gb324)); have n8_ := Qa.mk ((by rw [hg]; exact Nat.ne_of_lt (blk_lt (g := gb311) (o := .cells #[.slice A0_0 l0_0.length c0_0, .slice A0_1 l0_1.length c0_1] 25 (0, 0)) (by (with_reducible repeat (first | refine Qk ?_ _ | refine Qj ?_ | refine Qi ?_ _)); exact BK311.out)) : gb311 ≠ gb324)); have n9_ := Qa.mk ((by rw [hg]; exact Nat.ne_of_gt (blk_lt (g := gb311) (o := .cells #[.slice A0_0 l0_0.length c0_0, .slice A0_1 l0_1.length c0_1] 25 (0, 0)) (by (with_reducible repeat (first | refine Qk ?_ _ | refine Qj ?_ | refine Qi ?_ _)); exact BK311.out)) : gb324 ≠ gb311)); have n10_ := Qa.mk ((by rw [hg]; exact Nat.ne_of_lt (blk_lt (g := gb312) (o := .cells #[.int .u16 a2_0, .int .u16 a2_1] 27 (0, 0)) (by (with_reducible repeat (first | refine Qk ?_ _ | refine Qj ?_ | refine Qi ?_ _)); exact BK312.out)) : gb312 ≠ gb324)); have n11_ := Qa.mk ((by rw [hg]; exact Nat.ne_of_gt (blk_lt (g := gb312) (o := .cells #[.int .u16 a2_0, .int .u16 a2_1] 27 (0, 0)) (by (with_reducible repeat (first | refine Qk ?_ _ | refine Qj ?_ | refine Qi ?_ _)); exact BK312.out)) : gb324 ≠ gb312)); have n12_ := Qa.mk ((by rw [hg]; exact Nat.ne_of_lt (blk_lt (g := gb319) (o := .cells #[.bool true, .int .i64 t317, .int .i64 t318] 32 (0, 0)) (by (with_reducible repeat (first | refine Qk ?_ _ | refine Qj ?_ | refine Qi ?_ _)); exact BK319.out)) : gb319 ≠ gb324)); have n13_ := Qa.mk ((by rw [hg]; exact Nat.ne_of_gt (blk_lt (g := gb319) (o := .cells #[.bool true, .int .i64 t317, .int .i64 t318] 32 (0, 0)) (by (with_reducible repeat (first | refine Qk ?_ _ | refine Qj ?_ | refine Qi ?_ _)); exact BK319.out)) : gb324 ≠ gb319)); clear HO322; clear BK311; clear BK312; clear BK319; clear HB; have HO322 := n0_; have BK311 := n1_; have BK312 := n2_; have BK319 := n3_; have HB := n4_; have BK324 := n5_; have GW324 := n6_; have GE324 := n7_; have NB311_324 := n8_; have NB324_311 := n9_; have NB312_324 := n10_; have NB324_312 := n11_; have NB319_324 := n12_; have NB324_319 := n13_; clear n0_ n1_ n2_ n3_ n4_ n5_ n6_ n7_ n8_ n9_ n10_ n11_ n12_ n13_; clear hb hbox hg; have hnb94 := NB324_311.out; have hnc94 := NB311_324.out; have hnb95 := NB324_312.out; have hnc95 := NB312_324.out; have hnb96 := NB324_319.out; have hnc96 := NB319_324.out; have hcz97_0 : w93.cell? ⟨gb324, 0, none⟩ = some (.bool false) := (Qb BK324.out 0).trans rfl; have hcz97_1 : w93.cell? ⟨gb324, 1, none⟩ = some (.bool false) := (Qb BK324.out 1).trans rfl; have hcz97_2 : w93.cell? ⟨gb324, 2, none⟩ = some (.bool false) := (Qb BK324.out 2).trans rfl; have hfz97_0 := Qc BK324.out 0; have hfz97_1 := Qc BK324.out 1; have hfz97_2 := Qc BK324.out 2; have hcz98_0 : w93.cell? ⟨gb319, 0, none⟩ = some (.bool true) := (Qb BK319.out 0).trans rfl; have hcz98_1 : w93.cell? ⟨gb319, 1, none⟩ = some (.int .i64 t317) := (Qb BK319.out 1).trans rfl; have hcz98_2 : w93.cell? ⟨gb319, 2, none⟩ = some (.int .i64 t318) := (Qb BK319.out 2).trans rfl; have hfz98_0 := Qc BK319.out 0; have hfz98_1 := Qc BK319.out 1; have hfz98_2 := Qc BK319.out 2))
            go_ret
            exact ⟨by first | rfl | (simp [Qr, Qq] <;> rfl) | (simp only [← hji23]; first | rfl | (simp [Qr, Qq] <;> rfl)) | (simp [*, Qr, Qq] <;> rfl), by repeat (first | (with_reducible first | exact HB.out | apply Qd | apply Qf | apply Qe | refine Qg ?_ GE311.out | refine Qg ?_ GE312.out | refine Qg ?_ GE319.out | refine Qg ?_ GE324.out) | exact HB.out)⟩
        ·
         replace c26 := Bool.eq_false_iff.mpr c26
         subst c26
         have H1 : (some true) = some r := by rw [if_neg (show ¬ (false = true) by decide)] at H; exact H
         clear H
         have H := H1
         clear H1
         obtain rfl := Option.some.inj H
         have hnb99 := NB312_311.out
         have hnc99 := NB311_312.out
         have hcz100_0 : wc.cell? ⟨gb312, 0, none⟩ = some (.int .u16 a2_0) := (Qb BK312.out 0).trans rfl
         have hcz100_1 : wc.cell? ⟨gb312, 1, none⟩ = some (.int .u16 a2_1) := (Qb BK312.out 1).trans rfl
         have hfz100_0 := Qc BK312.out 0
         have hfz100_1 := Qc BK312.out 1
         have hcz101_0 : wc.cell? ⟨gb311, 0, none⟩ = some (.slice A0_0 l0_0.length c0_0) := (Qb BK311.out 0).trans rfl
         have hcz101_1 : wc.cell? ⟨gb311, 1, none⟩ = some (.slice A0_1 l0_1.length c0_1) := (Qb BK311.out 1).trans rfl
         have hfz101_0 := Qc BK311.out 0
         have hfz101_1 := Qc BK311.out 1
         go_wp2_with (first | ((with_reducible refine Qd1 (f := 11) rfl ?_); refine goesL_ (some 42) rfl rfl Try.func11 (by kernel_rfl) rfl #[.agg #[.slice A0_0 l0_0.length c0_0, .slice A0_1 l0_1.length c0_1], .int .i64 ji23, .string a1, .int .i64 (Int.tmod (wrap64 (a2_1)) (wrap64 ((a1.size : Int) + 1))), .int .i64 a3] rfl (by (try simp only [List.map_toArray, List.map_cons, List.map_nil]); first | done | (simp only [hji23]; rfl) | rfl | (simp only [List.length_drop, List.length_take]; rfl)) ?_; (with_reducible refine (naive_Node.calls kj4 _ _ l0_0 _ _ l0_1 ji23 a1 (Int.tmod (wrap64 (a2_1)) (wrap64 ((a1.size : Int) + 1))) a3 false t317 t318 _ ?side1 ?side2 ?side3 ?side4 A21.out).mono ?_); (case side1 => repeat (first | exact (Kd.Qn HR0_0.out HB.out) | (with_reducible refine Kd.Qw ?_ _) | (with_reducible refine Kd.Qy ?_ _) | (with_reducible refine Kd.Qx ?_))); (case side2 => exact HC0_0.out); (case side3 => repeat (first | exact (Kd.Qn HR0_1.out HB.out) | (with_reducible refine Kd.Qw ?_ _) | (with_reducible refine Kd.Qy ?_ _) | (with_reducible refine Kd.Qx ?_))); (case side4 => exact HC0_1.out); rintro e w102 ⟨rfl, hb⟩; refine ⟨_, rfl, ?_⟩; have n0_ := Qa.mk (Qh (g := gb311) (o := .cells #[.slice A0_0 l0_0.length c0_0, .slice A0_1 l0_1.length c0_1] 25 (0, 0)) (by (with_reducible repeat (first | refine Qk ?_ _ | refine Qj ?_ | refine Qi ?_ _)); exact BK311.out) hb); have n1_ := Qa.mk (Qh (g := gb312) (o := .cells #[.int .u16 a2_0, .int .u16 a2_1] 27 (0, 0)) (by (with_reducible repeat (first | refine Qk ?_ _ | refine Qj ?_ | refine Qi ?_ _)); exact BK312.out) hb); have n2_ := Qa.mk (Qm (by repeat (first | (with_reducible first | exact HB.out | apply Qd | apply Qf | apply Qe | refine Qg ?_ GE311.out | refine Qg ?_ GE312.out) | exact HB.out)) hb); clear BK311; clear BK312; clear HB; have BK311 := n0_; have BK312 := n1_; have HB := n2_; clear n0_ n1_ n2_; (try clear hb); (try clear hb2); (try clear hk); (try clear hi)) | ((with_reducible refine Qc1 (N := 11) rfl ?_); refine Ql1 ?hg (N := 11) ?hd (cs := #[.bool false, .int .i64 0, .int .i64 0]) (t := 32) ?hr ?_; (case hd => rfl); (case hg => rfl); (case hr => first | (go_simp; done) | (go_simp; rfl)); intro gb319 hg w103 hbox hb; have n0_ := Qa.mk (Qh (g := gb311) (o := .cells #[.slice A0_0 l0_0.length c0_0, .slice A0_1 l0_1.length c0_1] 25 (0, 0)) (by (with_reducible repeat (first | refine Qk ?_ _ | refine Qj ?_ | refine Qi ?_ _)); exact BK311.out) hb); have n1_ := Qa.mk (Qh (g := gb312) (o := .cells #[.int .u16 a2_0, .int .u16 a2_1] 27 (0, 0)) (by (with_reducible repeat (first | refine Qk ?_ _ | refine Qj ?_ | refine Qi ?_ _)); exact BK312.out) hb); have n2_ := Qa.mk (Qm (by repeat (first | (with_reducible first | exact HB.out | apply Qd | apply Qf | apply Qe | refine Qg ?_ GE311.out | refine Qg ?_ GE312.out) | exact HB.out)) hb); have n3_ := Qa.mk (hbox); have n4_ := Qa.mk ((by rw [hg]; exact (Qv (by repeat (first | (with_reducible first | exact HB.out | apply Qd | apply Qf | apply Qe | refine Qg ?_ GE311.out | refine Qg ?_ GE312.out) | exact HB.out))) : w.heap.size ≤ gb319)); have n5_ := Qa.mk ((by rw [hg]; exact (Qv (by repeat (first | (with_reducible first | exact HB.out | apply Qd | apply Qf | apply Qe | refine Qg ?_ GE311.out | refine Qg ?_ GE312.out) | exact HB.out))) : w.heap.size ≤ gb319)); have n6_ := Qa.mk ((by rw [hg]; exact Nat.ne_of_lt (blk_lt (g := gb311) (o := .cells #[.slice A0_0 l0_0.length c0_0, .slice A0_1 l0_1.length c0_1] 25 (0, 0)) (by (with_reducible repeat (first | refine Qk ?_ _ | refine Qj ?_ | refine Qi ?_ _)); exact BK311.out)) : gb311 ≠ gb319)); have n7_ := Qa.mk ((by rw [hg]; exact Nat.ne_of_gt (blk_lt (g := gb311) (o := .cells #[.slice A0_0 l0_0.length c0_0, .slice A0_1 l0_1.length c0_1] 25 (0, 0)) (by (with_reducible repeat (first | refine Qk ?_ _ | refine Qj ?_ | refine Qi ?_ _)); exact BK311.out)) : gb319 ≠ gb311)); have n8_ := Qa.mk ((by rw [hg]; exact Nat.ne_of_lt (blk_lt (g := gb312) (o := .cells #[.int .u16 a2_0, .int .u16 a2_1] 27 (0, 0)) (by (with_reducible repeat (first | refine Qk ?_ _ | refine Qj ?_ | refine Qi ?_ _)); exact BK312.out)) : gb312 ≠ gb319)); have n9_ := Qa.mk ((by rw [hg]; exact Nat.ne_of_gt (blk_lt (g := gb312) (o := .cells #[.int .u16 a2_0, .int .u16 a2_1] 27 (0, 0)) (by (with_reducible repeat (first | refine Qk ?_ _ | refine Qj ?_ | refine Qi ?_ _)); exact BK312.out)) : gb319 ≠ gb312)); clear BK311; clear BK312; clear HB; have BK311 := n0_; have BK312 := n1_; have HB := n2_; have BK319 := n3_; have GW319 := n4_; have GE319 := n5_; have NB311_319 := n6_; have NB319_311 := n7_; have NB312_319 := n8_; have NB319_312 := n9_; clear n0_ n1_ n2_ n3_ n4_ n5_ n6_ n7_ n8_ n9_; clear hb hbox hg; have hnb104 := NB319_311.out; have hnc104 := NB311_319.out; have hnb105 := NB319_312.out; have hnc105 := NB312_319.out; have hcz106_0 : w103.cell? ⟨gb319, 0, none⟩ = some (.bool false) := (Qb BK319.out 0).trans rfl; have hcz106_1 : w103.cell? ⟨gb319, 1, none⟩ = some (.int .i64 0) := (Qb BK319.out 1).trans rfl; have hcz106_2 : w103.cell? ⟨gb319, 2, none⟩ = some (.int .i64 0) := (Qb BK319.out 2).trans rfl; have hfz106_0 := Qc BK319.out 0; have hfz106_1 := Qc BK319.out 1; have hfz106_2 := Qc BK319.out 2; have hcz107_0 : w103.cell? ⟨gb311, 0, none⟩ = some (.slice A0_0 l0_0.length c0_0) := (Qb BK311.out 0).trans rfl; have hcz107_1 : w103.cell? ⟨gb311, 1, none⟩ = some (.slice A0_1 l0_1.length c0_1) := (Qb BK311.out 1).trans rfl; have hfz107_0 := Qc BK311.out 0; have hfz107_1 := Qc BK311.out 1) | ((with_reducible refine Qd1 (f := 17) rfl ?_); refine goesL_ (some 44) rfl rfl Try.func17 (by kernel_rfl) rfl #[.agg #[.slice A0_0 l0_0.length c0_0, .slice A0_1 l0_1.length c0_1]] rfl (by (try simp only [List.map_toArray, List.map_cons, List.map_nil]); first | done | rfl | (simp only [List.length_drop, List.length_take]; rfl)) ?_; (with_reducible refine (Qv1.calls kj4 _ _ l0_0 _ _ l0_1 t320 _ ?side1 ?side2 ?side3 ?side4 A22.out).mono ?_); (case side1 => exact Kd.Qn HR0_0.out (by repeat (first | (with_reducible first | exact HB.out | apply Qd | apply Qf | apply Qe | refine Qg ?_ GE311.out | refine Qg ?_ GE312.out | refine Qg ?_ GE319.out) | exact HB.out))); (case side2 => exact HC0_0.out); (case side3 => exact Kd.Qn HR0_1.out (by repeat (first | (with_reducible first | exact HB.out | apply Qd | apply Qf | apply Qe | refine Qg ?_ GE311.out | refine Qg ?_ GE312.out | refine Qg ?_ GE319.out) | exact HB.out))); (case side4 => exact HC0_1.out); rintro e w108 ⟨v321, rfl, ho0, hb⟩; refine ⟨_, rfl, ?_⟩; have n0_ := Qa.mk (Kd.R_lower ho0 (Qv (by repeat (first | (with_reducible first | exact HB.out | apply Qd | apply Qf | apply Qe | refine Qg ?_ GE311.out | refine Qg ?_ GE312.out | refine Qg ?_ GE319.out) | exact HB.out)))); have n1_ := Qa.mk (Qh (g := gb311) (o := .cells #[.slice A0_0 l0_0.length c0_0, .slice A0_1 l0_1.length c0_1] 25 (0, 0)) (by (with_reducible repeat (first | refine Qk ?_ _ | refine Qj ?_ | refine Qi ?_ _)); refine blk_far ?_ NB311_319.out _; (with_reducible repeat (first | refine Qk ?_ _ | refine Qj ?_ | refine Qi ?_ _)); refine blk_far ?_ NB311_319.out _; (with_reducible repeat (first | refine Qk ?_ _ | refine Qj ?_ | refine Qi ?_ _)); refine blk_far ?_ NB311_319.out _; (with_reducible repeat (first | refine Qk ?_ _ | refine Qj ?_ | refine Qi ?_ _)); exact BK311.out) hb); have n2_ := Qa.mk (Qh (g := gb312) (o := .cells #[.int .u16 a2_0, .int .u16 a2_1] 27 (0, 0)) (by (with_reducible repeat (first | refine Qk ?_ _ | refine Qj ?_ | refine Qi ?_ _)); refine blk_far ?_ NB312_319.out _; (with_reducible repeat (first | refine Qk ?_ _ | refine Qj ?_ | refine Qi ?_ _)); refine blk_far ?_ NB312_319.out _; (with_reducible repeat (first | refine Qk ?_ _ | refine Qj ?_ | refine Qi ?_ _)); refine blk_far ?_ NB312_319.out _; (with_reducible repeat (first | refine Qk ?_ _ | refine Qj ?_ | refine Qi ?_ _)); exact BK312.out) hb); have n3_ := Qa.mk (Qh (g := gb319) (o := .cells #[.bool false, .int .i64 t317, .int .i64 t318] 32 (0, 0)) (by (with_reducible repeat (first | refine Qk ?_ _ | refine Qj ?_ | refine Qi ?_ _)); refine blk_put (cs := #[.bool false, .int .i64 t317, .int .i64 0]) ?_ 2 _ rfl; (with_reducible repeat (first | refine Qk ?_ _ | refine Qj ?_ | refine Qi ?_ _)); refine blk_put (cs := #[.bool false, .int .i64 0, .int .i64 0]) ?_ 1 _ rfl; (with_reducible repeat (first | refine Qk ?_ _ | refine Qj ?_ | refine Qi ?_ _)); refine blk_put (cs := #[.bool false, .int .i64 0, .int .i64 0]) ?_ 0 _ rfl; (with_reducible repeat (first | refine Qk ?_ _ | refine Qj ?_ | refine Qi ?_ _)); exact BK319.out) hb); have n4_ := Qa.mk (Qm (by repeat (first | (with_reducible first | exact HB.out | apply Qd | apply Qf | apply Qe | refine Qg ?_ GE311.out | refine Qg ?_ GE312.out | refine Qg ?_ GE319.out) | exact HB.out)) hb); clear BK311; clear BK312; clear BK319; clear HB; have HO322 := n0_; have BK311 := n1_; have BK312 := n2_; have BK319 := n3_; have HB := n4_; clear n0_ n1_ n2_ n3_ n4_; (try clear hb); (try clear hb2); (try clear hk); (try clear hi); (try clear ho0); obtain ⟨Ao109, co109, eo109⟩ := Kd.R_slice HO322.out; subst eo109; have p323 : 0 ≤ ((ji23) : Int) := of_decide_eq_true (by first | (with_reducible assumption) | assumption); have q323 : (ji23) < (t320.length : Int) := of_decide_eq_true (by first | (with_reducible assumption) | assumption); obtain ⟨ad323, e323, hx323_0, hx323_1, hx323_2⟩ := at_T45 (Kd.R_reads' HO322.out).2.2 (ji23) p323 q323; cases e323; replace p323 := eq_true p323; replace q323 := eq_true q323) | ((with_reducible refine Qc1 (N := 12) rfl ?_); refine Ql1 ?hg (N := 12) ?hd (cs := #[.bool false, .bool false, .bool false]) (t := 45) ?hr ?_; (case hd => rfl); (case hg => rfl); (case hr => first | (go_simp; done) | (go_simp; rfl)); intro gb324 hg w110 hbox hb; have n0_ := Qa.mk (Kd.Qb1 (Kd.R_elderB (by (with_reducible repeat (first | apply Kd.Qs | apply Kd.Qt | apply Kd.Qu)); exact HO322.out) gb324 (Nat.le_of_eq hg.symm)) hb); have n1_ := Qa.mk (Qh (g := gb311) (o := .cells #[.slice A0_0 l0_0.length c0_0, .slice A0_1 l0_1.length c0_1] 25 (0, 0)) (by (with_reducible repeat (first | refine Qk ?_ _ | refine Qj ?_ | refine Qi ?_ _)); exact BK311.out) hb); have n2_ := Qa.mk (Qh (g := gb312) (o := .cells #[.int .u16 a2_0, .int .u16 a2_1] 27 (0, 0)) (by (with_reducible repeat (first | refine Qk ?_ _ | refine Qj ?_ | refine Qi ?_ _)); exact BK312.out) hb); have n3_ := Qa.mk (Qh (g := gb319) (o := .cells #[.bool false, .int .i64 t317, .int .i64 t318] 32 (0, 0)) (by (with_reducible repeat (first | refine Qk ?_ _ | refine Qj ?_ | refine Qi ?_ _)); exact BK319.out) hb); have n4_ := Qa.mk (Qm (by repeat (first | (with_reducible first | exact HB.out | apply Qd | apply Qf | apply Qe | refine Qg ?_ GE311.out | refine Qg ?_ GE312.out | refine Qg ?_ GE319.out) | exact HB.out)) hb); have n5_ := Qa.mk (hbox); have n6_ := Qa.mk ((by rw [hg]; exact (Qv (by repeat (first | (with_reducible first | exact HB.out | apply Qd | apply Qf | apply Qe | refine Qg ?_ GE311.out | refine Qg ?_ GE312.out | refine Qg ?_ GE319.out) | exact HB.out))) : w.heap.size ≤ gb324)); have n7_ := Qa.mk ((by rw [hg]; exact (Qv (by repeat (first | (with_reducible first | exact HB.out | apply Qd | apply Qf | apply Qe | refine Qg ?_ GE311.out | refine Qg ?_ GE312.out | refine Qg ?_ GE319.out) | exact HB.out))) : w.heap.size ≤ gb324)); have n8_ := Qa.mk ((by rw [hg]; exact Nat.ne_of_lt (blk_lt (g := gb311) (o := .cells #[.slice A0_0 l0_0.length c0_0, .slice A0_1 l0_1.length c0_1] 25 (0, 0)) (by (with_reducible repeat (first | refine Qk ?_ _ | refine Qj ?_ | refine Qi ?_ _)); exact BK311.out)) : gb311 ≠ gb324)); have n9_ := Qa.mk ((by rw [hg]; exact Nat.ne_of_gt (blk_lt (g := gb311) (o := .cells #[.slice A0_0 l0_0.length c0_0, .slice A0_1 l0_1.length c0_1] 25 (0, 0)) (by (with_reducible repeat (first | refine Qk ?_ _ | refine Qj ?_ | refine Qi ?_ _)); exact BK311.out)) : gb324 ≠ gb311)); have n10_ := Qa.mk ((by rw [hg]; exact Nat.ne_of_lt (blk_lt (g := gb312) (o := .cells #[.int .u16 a2_0, .int .u16 a2_1] 27 (0, 0)) (by (with_reducible repeat (first | refine Qk ?_ _ | refine Qj ?_ | refine Qi ?_ _)); exact BK312.out)) : gb312 ≠ gb324)); have n11_ := Qa.mk ((by rw [hg]; exact Nat.ne_of_gt (blk_lt (g := gb312) (o := .cells #[.int .u16 a2_0, .int .u16 a2_1] 27 (0, 0)) (by (with_reducible repeat (first | refine Qk ?_ _ | refine Qj ?_ | refine Qi ?_ _)); exact BK312.out)) : gb324 ≠ gb312)); have n12_ := Qa.mk ((by rw [hg]; exact Nat.ne_of_lt (blk_lt (g := gb319) (o := .cells #[.bool false, .int .i64 t317, .int .i64 t318] 32 (0, 0)) (by (with_reducible repeat (first | refine Qk ?_ _ | refine Qj ?_ | refine Qi ?_ _)); exact BK319.out)) : gb319 ≠ gb324)); have n13_ := Qa.mk ((by rw [hg]; exact Nat.ne_of_gt (blk_lt (g := gb319) (o := .cells #[.bool false, .int .i64 t317, .int .i64 t318] 32 (0, 0)) (by (with_reducible repeat (first | refine Qk ?_ _ | refine Qj ?_ | refine Qi ?_ _)); exact BK319.out)) : gb324 ≠ gb319)); clear HO322; clear BK311; clear BK312; clear BK319; clear HB; have HO322 := n0_; have BK311 := n1_; have BK312 := n2_; have BK319 := n3_; have HB := n4_; have BK324 := n5_; have GW324 := n6_; have GE324 := n7_; have NB311_324 := n8_; have NB324_311 := n9_; have NB312_324 := n10_; have NB324_312 := n11_; have NB319_324 := n12_; have NB324_319 := n13_; clear n0_ n1_ n2_ n3_ n4_ n5_ n6_ n7_ n8_ n9_ n10_ n11_ n12_ n13_; clear hb hbox hg; have hnb111 := NB324_311.out; have hnc111 := NB311_324.out; have hnb112 := NB324_312.out; have hnc112 := NB312_324.out; have hnb113 := NB324_319.out; have hnc113 := NB319_324.out; have hcz114_0 : w110.cell? ⟨gb324, 0, none⟩ = some (.bool false) := (Qb BK324.out 0).trans rfl; have hcz114_1 : w110.cell? ⟨gb324, 1, none⟩ = some (.bool false) := (Qb BK324.out 1).trans rfl; have hcz114_2 : w110.cell? ⟨gb324, 2, none⟩ = some (.bool false) := (Qb BK324.out 2).trans rfl; have hfz114_0 := Qc BK324.out 0; have hfz114_1 := Qc BK324.out 1; have hfz114_2 := Qc BK324.out 2; have hcz115_0 : w110.cell? ⟨gb319, 0, none⟩ = some (.bool false) := (Qb BK319.out 0).trans rfl; have hcz115_1 : w110.cell? ⟨gb319, 1, none⟩ = some (.int .i64 t317) := (Qb BK319.out 1).trans rfl; have hcz115_2 : w110.cell? ⟨gb319, 2, none⟩ = some (.int .i64 t318) := (Qb BK319.out 2).trans rfl; have hfz115_0 := Qc BK319.out 0; have hfz115_1 := Qc BK319.out 1; have hfz115_2 := Qc BK319.out 2))
         go_ret
         exact ⟨by first | rfl | (simp [Qr, Qq] <;> rfl) | (simp only [← hji23]; first | rfl | (simp [Qr, Qq] <;> rfl)) | (simp [*, Qr, Qq] <;> rfl), by repeat (first | (with_reducible first | exact HB.out | apply Qd | apply Qf | apply Qe | refine Qg ?_ GE311.out | refine Qg ?_ GE312.out | refine Qg ?_ GE319.out | refine Qg ?_ GE324.out) | exact HB.out)⟩
       ·
        rw [if_neg c25] at H
        exact absurd H (by simp)
      ·
       rw [if_neg c24] at H
       exact absurd H (by simp)
end Go.Proofs.Ythgedejnpgcacaa.V
namespace Go.Proofs.Ythgedejnpgcacaa.V
open Go.RowKit Go.Proofs.YthgedejnpgcacaaW.PrintWords Go.Proofs.YthgedejnpgcacaaW.PrintLast Go.Proofs.YthgedejnpgcacaaW.PrintMore
set_option linter.unusedVariables false
set_option linter.unusedSimpArgs false
def Qp.seqF (F : Int → Int → Int → Option (Bool × Int × Int)) : List Int → Int → Int → Option (Bool × Int × Int)
  | [], a, u => some (true, a, u)
  | c :: cs, a, u => (F c a u).bind fun r => if r.1 = true ∧ 0 ≤ r.2.1 then Qp.seqF F cs r.2.1 r.2.2 else some r
def Qp.choF (F : Int → Int → Option (Bool × Int × Int)) : List Int → Int → Int → Option (Bool × Int × Int)
  | [], e, u => some (true, e, u)
  | c :: cs, e, u => (F c u).bind fun r => if r.1 = true ∧ r.2.1 < 0 then Qp.choF F cs r.2.1 r.2.2 else some r
def Qp.repF (F : Int → Int → Option (Bool × Int × Int)) : Nat → Int → Bool × Int × Int → Option (Bool × Int × Int)
  | 0, _, _ => none
  | k + 1, last, r => if r.1 = true ∧ 0 ≤ r.2.1 then (F r.2.1 r.2.2).bind fun q => Qp.repF F k r.2.1 q else if r.1 = true then some (true, last, r.2.2) else some r
def Qp.f : Nat → List S51 → List S56 → Int → ByteArray → Int → Int → Option (Bool × Int × Int)
  | 0, _, _, _, _, _, _ => none
  | k + 1, R, G, i, x, a, u =>
    if u < 1 then some (false, 0, 0) else if 0 ≤ i ∧ i < (G.length : Int) then
      if (Ql G i).f0 = 0 then some (true, a, wrap64 (u - 1)) else
      if (Ql G i).f0 = 1 then (if a < (x.size : Int) then (if 0 ≤ a then (Qc2.f k (Ql G i).f3.f0 (Ql G i).f3.f1 (Ql G i).f3.f2 (Ql G i).f3.f3 (bt x a)).bind fun b => if b = true then some (true, wrap64 (a + 1), wrap64 (u - 1)) else some (true, -1, wrap64 (u - 1)) else none) else some (true, -1, wrap64 (u - 1))) else
      if (Ql G i).f0 = 2 then (if 0 ≤ (Ql G i).f2 ∧ (Ql G i).f2 < (R.length : Int) then Qp.f k R G (rd_T51 R (Ql G i).f2).f1 x a (wrap64 (u - 1)) else none) else
      if (Ql G i).f0 = 3 then Qp.seqF (fun c a u => Qp.f k R G c x a u) (Ql G i).f1 a (wrap64 (u - 1)) else
      if (Ql G i).f0 = 4 then Qp.choF (fun c u => Qp.f k R G c x a u) (Ql G i).f1 (-1) (wrap64 (u - 1)) else
      if (Ql G i).f1 = [] then none else (Qp.f k R G (rd (Ql G i).f1 0) x a (wrap64 (u - 1))).bind fun r =>
        if r.1 = false then some r else
        if (Ql G i).f0 = 7 then (if r.2.1 < 0 then some (true, a, r.2.2) else some r) else
        if (Ql G i).f0 = 8 then (if r.2.1 < 0 then some r else some (true, a, r.2.2)) else
        if (Ql G i).f0 = 9 then (if r.2.1 < 0 then some (true, a, r.2.2) else some (true, -1, r.2.2)) else
        if r.2.1 < 0 ∧ (Ql G i).f0 = 6 then some r else Qp.repF (fun a u => Qp.f k R G (rd (Ql G i).f1 0) x a u) k a r
    else none
theorem Qp.seqF_mono {F F' : Int → Int → Int → Option (Bool × Int × Int)} (h : ∀ c a u, LeO (F c a u) (F' c a u)) : ∀ cs a u, LeO (Qp.seqF F cs a u) (Qp.seqF F' cs a u)
  | [], a, u => LeO.refl _
  | c :: cs, a, u => LeO.bind (h c a u) (fun r => by
      by_cases hr : r.1 = true ∧ 0 ≤ r.2.1
      · rw [if_pos hr, if_pos hr]; exact Qp.seqF_mono h cs _ _
      · rw [if_neg hr, if_neg hr]; exact LeO.refl _)
theorem Qp.choF_mono {F F' : Int → Int → Option (Bool × Int × Int)} (h : ∀ c u, LeO (F c u) (F' c u)) : ∀ cs e u, LeO (Qp.choF F cs e u) (Qp.choF F' cs e u)
  | [], e, u => LeO.refl _
  | c :: cs, e, u => LeO.bind (h c u) (fun r => by
      by_cases hr : r.1 = true ∧ r.2.1 < 0
      · rw [if_pos hr, if_pos hr]; exact Qp.choF_mono h cs _ _
      · rw [if_neg hr, if_neg hr]; exact LeO.refl _)
theorem Qp.repF_mono {F F' : Int → Int → Option (Bool × Int × Int)} (h : ∀ a u, LeO (F a u) (F' a u)) : ∀ k last r, LeO (Qp.repF F k last r) (Qp.repF F' (k + 1) last r)
  | 0, last, r => fun q hq => by simp [Qp.repF] at hq
  | k + 1, last, r => by
    rw [Qp.repF, Qp.repF]
    by_cases hr : r.1 = true ∧ 0 ≤ r.2.1
    · rw [if_pos hr, if_pos hr]; exact LeO.bind (h _ _) (fun q => Qp.repF_mono h k _ q)
    · rw [if_neg hr, if_neg hr]; exact LeO.refl _
theorem Qp.mono : ∀ R G i x a u k, LeO (Qp.f k R G i x a u) (Qp.f (k + 1) R G i x a u) := by
  intro R G i x a u k
  induction k generalizing i a u with
  | zero => intro q hq; simp [Qp.f] at hq
  | succ k ih =>
    rw [Qp.f, Qp.f]
    repeat' first
      | exact LeO.refl _
      | exact LeO.none _
      | exact ih _ _ _
      | exact Qc2.mono _ _ _ _ _ k
      | exact Qp.seqF_mono (fun c a u => ih c a u) _ _ _
      | exact Qp.choF_mono (fun c u => ih c a u) _ _ _
      | exact Qp.repF_mono (fun a u => ih _ a u) _ _ _
      | refine LeO.ite ?_ ?_
      | refine LeO.bind ?_ (fun _ => ?_)
theorem h18_blk3 {w : World} {g t : Nat} {x y z : Value} (h : w.heap[g]? = some (.cells #[x, y, z] t (0, 0))) (a b c : Value) :
    (((w.setCell ⟨g, 0, none⟩ a).setCell ⟨g, 1, none⟩ b).setCell ⟨g, 2, none⟩ c).heap[g]? = some (.cells #[a, b, c] t (0, 0)) :=
  blk_put (cs := #[a, b, z]) (blk_put (cs := #[a, y, z]) (blk_put (cs := #[x, y, z]) h 0 a rfl) 1 b rfl) 2 c rfl
theorem h18_below3 {w W : World} {n g : Nat} (h : Below n w W) (hg : n ≤ g) (a b c : Value) : Below n w (((W.setCell ⟨g, 0, none⟩ a).setCell ⟨g, 1, none⟩ b).setCell ⟨g, 2, none⟩ c) :=
  ((h.setCell (p := ⟨g, 0, none⟩) hg a).setCell (p := ⟨g, 1, none⟩) hg b).setCell (p := ⟨g, 2, none⟩) hg c
theorem h18_far3 {w : World} {g gv : Nat} {o : Array Value} {t : Nat} (h : w.heap[g]? = some (.cells o t (0, 0))) (hne : g ≠ gv) (a b c : Value) : (((w.setCell ⟨gv, 0, none⟩ a).setCell ⟨gv, 1, none⟩ b).setCell ⟨gv, 2, none⟩ c).heap[g]? = some (.cells o t (0, 0)) :=
  blk_far (blk_far (blk_far h (p := ⟨gv, 0, none⟩) hne a) (p := ⟨gv, 1, none⟩) hne b) (p := ⟨gv, 2, none⟩) hne c
theorem h18_size (w : World) (o : Obj) : (w.alloc o).heap.size = w.heap.size + 1 := by simp
theorem h18_mem (xs : List Int) (h : xs ≠ []) : (0 : Int) < (xs.length : Int) := by have := List.length_pos_iff.2 h; omega
theorem h18_drop (xs : List Int) (j : Int) (h0 : 0 ≤ j) (h1 : j < (xs.length : Int)) : xs.drop j.toNat = rd xs j :: xs.drop (j + 1).toNat := by
  have h : j.toNat < xs.length := by omega
  rw [List.drop_eq_getElem_cons h, show (j + 1).toNat = j.toNat + 1 by omega]
  unfold rd
  rw [List.getD_eq_getElem?_getD, List.getElem?_eq_getElem h]
  rfl
theorem h18_end (xs : List Int) (j : Int) (h : ¬ j < (xs.length : Int)) : xs.drop j.toNat = [] := List.drop_eq_nil_of_le (by omega)
theorem h18_next (j : Int) (n : Nat) (h0 : 0 ≤ j) (h1 : j < (n : Int)) (hn : n ≤ 9223372036854775807) : wrap64 (j + 1) = j + 1 := by unfold wrap64; omega
structure Env18 (W1 : World) (gx : Nat) (ND : Array Value) (W : World) : Prop where
  x : W.heap[gx]? = some (.cells ND 56 (0, 0))
  b : Below W1.heap.size W1 W
theorem Env18.below {W1 W W' : World} {gx : Nat} {ND : Array Value} (h : Env18 W1 gx ND W) (hb : Below W.heap.size W W') : Env18 W1 gx ND W' := ⟨Qh h.x hb, Qm h.b hb⟩
theorem Env18.drew {W1 W : World} {gx : Nat} {ND : Array Value} (h : Env18 W1 gx ND W) : Env18 W1 gx ND W.drew := ⟨Qj h.x, Qe h.b⟩
theorem Env18.drewN {W1 W : World} {gx : Nat} {ND : Array Value} (h : Env18 W1 gx ND W) (n : Nat) : Env18 W1 gx ND (W.drewN n) := ⟨Qk h.x n, Qf h.b n⟩
theorem Env18.put3 {W1 W : World} {gx gv : Nat} {ND : Array Value} (h : Env18 W1 gx ND W) (h1 : W1.heap.size ≤ gv) (h2 : gx ≠ gv) (a b c : Value) : Env18 W1 gx ND (((W.setCell ⟨gv, 0, none⟩ a).setCell ⟨gv, 1, none⟩ b).setCell ⟨gv, 2, none⟩ c) :=
  ⟨h18_far3 h.x h2 a b c, h18_below3 h.b h1 a b c⟩
def h18_T32 : Bool × List (List Nat × List Nat) := (true, [([], []), ([], []), ([1], [1]), ([2], [2]), ([3], [3]), ([], []), ([], []), ([], []), ([0, 4, 5, 6, 7], [0, 4, 5, 6, 7]), ([], []), ([9, 8, 8, 0, 1, 2, 3, 4, 5, 6, 7, 8, 9], [8, 9])])
def h18_B32 : List Nat := [0, 0, 2, 6, 14, 0, 0, 0, 255, 0, 1023]
theorem h18_tab32 : rtab .any (opsOf Try.f12 32) = h18_T32 := by kernel_rfl
theorem h18_bits32 : waitsOk h18_T32.2 h18_B32 = true := by kernel_rfl
end Go.Proofs.Ythgedejnpgcacaa.V
namespace Go.Proofs.Ythgedejnpgcacaa.V
open Go.RowKit Go.Proofs.YthgedejnpgcacaaW.PrintWords Go.Proofs.YthgedejnpgcacaaW.PrintLast Go.Proofs.YthgedejnpgcacaaW.PrintMore
set_option linter.unusedVariables false
set_option linter.unusedSimpArgs false
set_option maxHeartbeats 4000000 in
set_option maxRecDepth 100000 in
theorem Qp.calls_sf (k : Nat) (ih : ∀ (A0_0 : Option Addr) (c0_0 : Nat) (l0_0 : List S51) (A0_1 : Option Addr) (c0_1 : Nat) (l0_1 : List S56) (a1 : Int) (a2 : ByteArray) (a3 a4 : Int) (r1 : Bool) (r2 r3 : Int) (w : World)
    (hr0_0 : Kd.C k51 w A0_0 l0_0.length l0_0) (hc0_0 : l0_0.length ≤ c0_0) (hr0_1 : Kd.C k56 w A0_1 l0_1.length l0_1) (hc0_1 : l0_1.length ≤ c0_1) (h : Qp.f k l0_0 l0_1 a1 a2 a3 a4 = some (r1, r2, r3)), Calls Try.prog 12 #[.agg #[.slice A0_0 l0_0.length c0_0, .slice A0_1 l0_1.length c0_1], .int .i64 a1, .string a2, .int .i64 a3, .int .i64 a4] w fun e w' => e = .returned (.agg #[.bool r1, .int .i64 r2, .int .i64 r3]) ∧ Below w.heap.size w w')
    (A0_0 : Option Addr) (c0_0 : Nat) (l0_0 : List S51) (A0_1 : Option Addr) (c0_1 : Nat) (l0_1 : List S56) (a1 : Int) (a2 : ByteArray) (a3 a4 : Int) (r1 : Bool) (r2 r3 : Int) (w : World)
    (hr0_0 : Kd.C k51 w A0_0 l0_0.length l0_0) (hc0_0 : l0_0.length ≤ c0_0) (hr0_1 : Kd.C k56 w A0_1 l0_1.length l0_1) (hc0_1 : l0_1.length ≤ c0_1) (hs : Qa (a4 < 1)) (h : Qp.f (k + 1) l0_0 l0_1 a1 a2 a3 a4 = some (r1, r2, r3)) :
    Calls Try.prog 12 #[.agg #[.slice A0_0 l0_0.length c0_0, .slice A0_1 l0_1.length c0_1], .int .i64 a1, .string a2, .int .i64 a3, .int .i64 a4] w fun e w' => e = .returned (.agg #[.bool r1, .int .i64 r2, .int .i64 r3]) ∧ Below w.heap.size w w' := by
  rw [Qp.f] at h
  have IH := Qa.mk ih
  clear ih
  have hu25 := Try.underlying25
  have hu31 := Try.underlying31
  have hu56 := Try.underlying56
  have hu51 := Try.underlying51
  have hu54 := Try.underlying54
  have HB := Qa.mk (Qd (Qd (Below.refl w.heap.size w) (.cells #[.slice A0_0 l0_0.length c0_0, .slice A0_1 l0_1.length c0_1] 25)) (.cells #[.bool false, .int .i64 0, .int .i64 0] 31))
  have HG := Qa.mk (Qi (Qf1 w (.cells #[.slice A0_0 l0_0.length c0_0, .slice A0_1 l0_1.length c0_1] 25)) (.cells #[.bool false, .int .i64 0, .int .i64 0] 31))
  have HR := Qa.mk (Qf1 (w.alloc (.cells #[.slice A0_0 l0_0.length c0_0, .slice A0_1 l0_1.length c0_1] 25)) (.cells #[.bool false, .int .i64 0, .int .i64 0] 31))
  have hsz : ((w.alloc (.cells #[.slice A0_0 l0_0.length c0_0, .slice A0_1 l0_1.length c0_1] 25)).alloc (.cells #[.bool false, .int .i64 0, .int .i64 0] 31)).heap.size = w.heap.size + 1 + 1 := by rw [h18_size, h18_size]
  rw [h18_size] at HR
  have HC0 := Qa.mk (Kd.Qn hr0_0 HB.out)
  have HC1 := Qa.mk (Kd.Qn hr0_1 HB.out)
  have HW := Qa.mk hsz
  clear hr0_0 hr0_1 hsz
  rw [if_pos hs.out] at h
  simp only [Option.some.injEq, Prod.mk.injEq] at h
  obtain ⟨rfl, rfl, rfl⟩ := h
  have c4b : decide (a4 < 1) = true := decide_eq_true hs.out
  go_enter Try.func12, Try.ntmps12
  go_upto_region 1 with (fail)
  generalize ((w.alloc (.cells #[.slice A0_0 l0_0.length c0_0, .slice A0_1 l0_1.length c0_1] 25)).alloc (.cells #[.bool false, .int .i64 0, .int .i64 0] 31)) = W1 at HB HG HR HC0 HC1 HW ⊢
  obtain ⟨gb, hgb⟩ : ∃ gb, gb = w.heap.size := ⟨_, rfl⟩
  obtain ⟨gr, hgr⟩ : ∃ gr, gr = gb + 1 := ⟨_, rfl⟩
  rw [← hgb] at HW HG HR ⊢
  rw [← hgr] at HR ⊢
  have HGB := Qa.mk hgb
  have HGR := Qa.mk hgr
  clear hgb hgr
  have rr0 : W1.cell? ⟨gr, 0, none⟩ = some (.bool false) := (Qb HR.out 0).trans rfl
  have z0 : W1.frozen? ⟨gr, 0, none⟩ = false := Qc HR.out 0
  have rr1 : W1.cell? ⟨gr, 1, none⟩ = some (.int .i64 0) := (Qb HR.out 1).trans rfl
  have z1 : W1.frozen? ⟨gr, 1, none⟩ = false := Qc HR.out 1
  have rr2 : W1.cell? ⟨gr, 2, none⟩ = some (.int .i64 0) := (Qb HR.out 2).trans rfl
  have z2 : W1.frozen? ⟨gr, 2, none⟩ = false := Qc HR.out 2
  go_wp2
  refine bodyPost_ret (results_cell_row rfl _ _ gr 31 #[.bool false, .int .i64 0, .int .i64 0] (0, 0) _ rfl (h18_blk3 HR.out _ _ _) Try.underlying31 rfl (by kernel_rfl)) rfl ⟨rfl, h18_below3 HB.out (by have := HGB.out; have := HGR.out; omega) _ _ _⟩
end Go.Proofs.Ythgedejnpgcacaa.V
namespace Go.Proofs.Ythgedejnpgcacaa.V
open Go.RowKit Go.Proofs.YthgedejnpgcacaaW.PrintWords Go.Proofs.YthgedejnpgcacaaW.PrintLast Go.Proofs.YthgedejnpgcacaaW.PrintMore
set_option linter.unusedVariables false
set_option linter.unusedSimpArgs false
set_option maxHeartbeats 4000000 in
set_option maxRecDepth 100000 in
theorem Qp.calls_s0 (k : Nat) (ih : ∀ (A0_0 : Option Addr) (c0_0 : Nat) (l0_0 : List S51) (A0_1 : Option Addr) (c0_1 : Nat) (l0_1 : List S56) (a1 : Int) (a2 : ByteArray) (a3 a4 : Int) (r1 : Bool) (r2 r3 : Int) (w : World)
    (hr0_0 : Kd.C k51 w A0_0 l0_0.length l0_0) (hc0_0 : l0_0.length ≤ c0_0) (hr0_1 : Kd.C k56 w A0_1 l0_1.length l0_1) (hc0_1 : l0_1.length ≤ c0_1) (h : Qp.f k l0_0 l0_1 a1 a2 a3 a4 = some (r1, r2, r3)), Calls Try.prog 12 #[.agg #[.slice A0_0 l0_0.length c0_0, .slice A0_1 l0_1.length c0_1], .int .i64 a1, .string a2, .int .i64 a3, .int .i64 a4] w fun e w' => e = .returned (.agg #[.bool r1, .int .i64 r2, .int .i64 r3]) ∧ Below w.heap.size w w')
    (A0_0 : Option Addr) (c0_0 : Nat) (l0_0 : List S51) (A0_1 : Option Addr) (c0_1 : Nat) (l0_1 : List S56) (a1 : Int) (a2 : ByteArray) (a3 a4 : Int) (r1 : Bool) (r2 r3 : Int) (w : World)
    (hr0_0 : Kd.C k51 w A0_0 l0_0.length l0_0) (hc0_0 : l0_0.length ≤ c0_0) (hr0_1 : Kd.C k56 w A0_1 l0_1.length l0_1) (hc0_1 : l0_1.length ≤ c0_1) (hs : Qa (¬ a4 < 1 ∧ (0 ≤ a1 ∧ a1 < (l0_1.length : Int)) ∧ (Ql l0_1 a1).f0 = 0)) (h : Qp.f (k + 1) l0_0 l0_1 a1 a2 a3 a4 = some (r1, r2, r3)) :
    Calls Try.prog 12 #[.agg #[.slice A0_0 l0_0.length c0_0, .slice A0_1 l0_1.length c0_1], .int .i64 a1, .string a2, .int .i64 a3, .int .i64 a4] w fun e w' => e = .returned (.agg #[.bool r1, .int .i64 r2, .int .i64 r3]) ∧ Below w.heap.size w w' := by
  rw [Qp.f] at h
  have IH := Qa.mk ih
  clear ih
  have hu25 := Try.underlying25
  have hu31 := Try.underlying31
  have hu56 := Try.underlying56
  have hu51 := Try.underlying51
  have hu54 := Try.underlying54
  have HB := Qa.mk (Qd (Qd (Below.refl w.heap.size w) (.cells #[.slice A0_0 l0_0.length c0_0, .slice A0_1 l0_1.length c0_1] 25)) (.cells #[.bool false, .int .i64 0, .int .i64 0] 31))
  have HG := Qa.mk (Qi (Qf1 w (.cells #[.slice A0_0 l0_0.length c0_0, .slice A0_1 l0_1.length c0_1] 25)) (.cells #[.bool false, .int .i64 0, .int .i64 0] 31))
  have HR := Qa.mk (Qf1 (w.alloc (.cells #[.slice A0_0 l0_0.length c0_0, .slice A0_1 l0_1.length c0_1] 25)) (.cells #[.bool false, .int .i64 0, .int .i64 0] 31))
  have hsz : ((w.alloc (.cells #[.slice A0_0 l0_0.length c0_0, .slice A0_1 l0_1.length c0_1] 25)).alloc (.cells #[.bool false, .int .i64 0, .int .i64 0] 31)).heap.size = w.heap.size + 1 + 1 := by rw [h18_size, h18_size]
  rw [h18_size] at HR
  have HC0 := Qa.mk (Kd.Qn hr0_0 HB.out)
  have HC1 := Qa.mk (Kd.Qn hr0_1 HB.out)
  have HW := Qa.mk hsz
  clear hr0_0 hr0_1 hsz
  rw [if_neg hs.out.1, if_pos hs.out.2.1] at h
  have c4b : decide (a4 < 1) = false := decide_eq_false hs.out.1
  have H := Qa.mk h
  clear h
  go_enter Try.func12, Try.ntmps12
  go_upto_region 1 with (fail)
  generalize ((w.alloc (.cells #[.slice A0_0 l0_0.length c0_0, .slice A0_1 l0_1.length c0_1] 25)).alloc (.cells #[.bool false, .int .i64 0, .int .i64 0] 31)) = W1 at HB HG HR HC0 HC1 HW ⊢
  obtain ⟨gb, hgb⟩ : ∃ gb, gb = w.heap.size := ⟨_, rfl⟩
  obtain ⟨gr, hgr⟩ : ∃ gr, gr = gb + 1 := ⟨_, rfl⟩
  rw [← hgb] at HW HG HR ⊢
  rw [← hgr] at HR ⊢
  have HGB := Qa.mk hgb
  have HGR := Qa.mk hgr
  clear hgb hgr
  go_upto_region 4 with (fail)
  clear c4b
  have g1 : W1.cell? ⟨gb, 1, none⟩ = some (.slice A0_1 l0_1.length c0_1) := (Qb HG.out 1).trans rfl
  have p2 := hs.out.2.1.1
  have p3 := hs.out.2.1.2
  obtain ⟨ad, Ak, ck, e, k0, k1, k2, k3, k4, k5, k6, hlk, hCk⟩ := at_T56 HC1.out a1 p2 p3
  cases e
  have HCk := Qa.mk hCk
  have HLk := Qa.mk hlk
  clear hCk hlk
  replace p2 := eq_true p2
  replace p3 := eq_true p3
  go_upto_region 5 with (fail)
  have HS := Qa.mk hs.out.2.2
  clear hs
  generalize Ql l0_1 a1 = nd at *
  obtain ⟨gx, hgx⟩ : ∃ gx, gx = W1.heap.size := ⟨_, rfl⟩
  have E2 : Qa (Env18 W1 gx #[.int .i64 nd.f0, .slice Ak nd.f1.length ck, .int .i64 nd.f2, .int .u64 nd.f3.f0, .int .u64 nd.f3.f1, .int .u64 nd.f3.f2, .int .u64 nd.f3.f3] (W1.alloc (.cells #[.int .i64 nd.f0, .slice Ak nd.f1.length ck, .int .i64 nd.f2, .int .u64 nd.f3.f0, .int .u64 nd.f3.f1, .int .u64 nd.f3.f2, .int .u64 nd.f3.f3] 56))) := ⟨by rw [hgx]; exact Qf1 W1 (.cells #[.int .i64 nd.f0, .slice Ak nd.f1.length ck, .int .i64 nd.f2, .int .u64 nd.f3.f0, .int .u64 nd.f3.f1, .int .u64 nd.f3.f2, .int .u64 nd.f3.f3] 56), Qd (Below.refl _ _) _⟩
  have HGX := Qa.mk hgx
  rw [← hgx]
  generalize W1.alloc (.cells #[.int .i64 nd.f0, .slice Ak nd.f1.length ck, .int .i64 nd.f2, .int .u64 nd.f3.f0, .int .u64 nd.f3.f1, .int .u64 nd.f3.f2, .int .u64 nd.f3.f3] 56) = W2 at E2 ⊢
  clear k0 k1 k2 k3 k4 k5 k6 g1 hgx p2 p3
  have h := H.out
  clear H
  have hnd : Qa (gb < W1.heap.size ∧ gr < W1.heap.size) := ⟨by have := HW.out; have := HGR.out; omega⟩
  generalize wrap64 (a4 - 1) = u at *
  have x0 : W2.cell? ⟨gx, 0, none⟩ = some (.int .i64 nd.f0) := (Qb E2.out.x 0).trans rfl
  go_upto_region 6 with (fail)
  clear x0
  have c0 : nd.f0 = 0 := HS.out
  rw [if_pos c0] at h
  have b0 : (nd.f0 == 0) = true := beq_iff_eq.2 c0
  clear c0
  simp only [Option.some.injEq, Prod.mk.injEq] at h
  obtain ⟨rfl, rfl, rfl⟩ := h
  have rr0 : W2.cell? ⟨gr, 0, none⟩ = some (.bool false) := (Qb (Qh HR.out E2.out.b) 0).trans rfl
  have z0 : W2.frozen? ⟨gr, 0, none⟩ = false := Qc (Qh HR.out E2.out.b) 0
  have rr1 : W2.cell? ⟨gr, 1, none⟩ = some (.int .i64 0) := (Qb (Qh HR.out E2.out.b) 1).trans rfl
  have z1 : W2.frozen? ⟨gr, 1, none⟩ = false := Qc (Qh HR.out E2.out.b) 1
  have rr2 : W2.cell? ⟨gr, 2, none⟩ = some (.int .i64 0) := (Qb (Qh HR.out E2.out.b) 2).trans rfl
  have z2 : W2.frozen? ⟨gr, 2, none⟩ = false := Qc (Qh HR.out E2.out.b) 2
  go_wp2
  refine bodyPost_ret (results_cell_row rfl _ _ gr 31 #[.bool true, .int .i64 a3, .int .i64 u] (0, 0) _ rfl (h18_blk3 (Qh HR.out E2.out.b) _ _ _) Try.underlying31 rfl (by kernel_rfl)) rfl ⟨rfl, h18_below3 (Qm HB.out E2.out.b) (by have := HGB.out; have := HGR.out; omega) _ _ _⟩
end Go.Proofs.Ythgedejnpgcacaa.V
