/- The law FlowMatchesReference returns true whatever comes in, and leaves its arguments as they were. No condition. -/
import Derived.Test.YtnaanamibfpbpaaKFm3
import Derived.StillTailTactics
import Derived.Deep.QuietTactic
import Derived.BigQuiet
namespace Go.Proofs.Ytnaanamibfpbpaa.V
open Go.RowKit Go.Proofs.YtnaanamibfpbpaaW.PrintWords Go.Proofs.YtnaanamibfpbpaaW.PrintLast Go.Proofs.YtnaanamibfpbpaaW.PrintMore
set_option linter.unusedVariables false
set_option linter.unusedSimpArgs false
attribute [local go_sem high] eq54h
set_option maxHeartbeats 4000000 in
set_option maxRecDepth 100000 in
theorem Qx.calls_s6 (A0_0 : Option Addr) (c0_0 : Nat) (l0_0 : List S39) (A0_1 : Option Addr) (c0_1 : Nat) (l0_1 : List S53) (a1 : Int) (A2 : Option Addr) (c2 : Nat) (l2 : List S35) (r1 r2 r3 : Bool) (w : World)
    (hr0_0 : Kd.C k39 w A0_0 l0_0.length l0_0) (hc0_0 : l0_0.length ≤ c0_0) (hr0_1 : Kd.C k53 w A0_1 l0_1.length l0_1) (hc0_1 : l0_1.length ≤ c0_1) (hr2 : Kd.C k35 w A2 l2.length l2) (hc2 : l2.length ≤ c2)
    (hs : Qa ((Qh l0_1 a1).f0 = 6)) (h : Qx.f l0_0 l0_1 a1 l2 = some (r1, r2, r3)) :
    Calls Try.prog 27 #[.agg #[.slice A0_0 l0_0.length c0_0, .slice A0_1 l0_1.length c0_1], .int .i64 a1, .slice A2 l2.length c2] w fun e w' => e = .returned (.agg #[.bool r1, .bool r2, .bool r3]) ∧ Below w.heap.size w w' := by
  unfold Qx.f at h
  split at h
  case isFalse => exact absurd h (by simp)
  case isTrue hfit =>
  obtain ⟨p2, p3, hfit⟩ := hfit
  have H : Qa (Qx.p l0_0 l2 (Qh l0_1 a1) = (r1, r2, r3)) := ⟨Option.some.inj h⟩
  have HF := Qa.mk hfit
  clear h hfit
  have hu25 := Try.underlying25
  have hu45 := Try.underlying35
  have hu56 := Try.underlying53
  have hu51 := Try.underlying39
  have hu54 := Try.underlying50
  have HB := Qa.mk (Qj (Qj (Below.refl w.heap.size w) (.cells #[.slice A0_0 l0_0.length c0_0, .slice A0_1 l0_1.length c0_1] 25)) (.cells #[.bool false, .bool false, .bool false] 35))
  have HG := Qa.mk (Qd (blk_new w (.cells #[.slice A0_0 l0_0.length c0_0, .slice A0_1 l0_1.length c0_1] 25)) (.cells #[.bool false, .bool false, .bool false] 35))
  have HR := Qa.mk (blk_new (w.alloc (.cells #[.slice A0_0 l0_0.length c0_0, .slice A0_1 l0_1.length c0_1] 25)) (.cells #[.bool false, .bool false, .bool false] 35))
  have hsz : ((w.alloc (.cells #[.slice A0_0 l0_0.length c0_0, .slice A0_1 l0_1.length c0_1] 25)).alloc (.cells #[.bool false, .bool false, .bool false] 35)).heap.size = w.heap.size + 1 + 1 := by rw [Ql1, Ql1]
  rw [Ql1] at HR
  have HC0 := Qa.mk (Kd.Qw hr0_0 HB.out)
  have HC1 := Qa.mk (Kd.Qw hr0_1 HB.out)
  have HC2 := Qa.mk (Kd.Qw hr2 HB.out)
  have HW := Qa.mk hsz
  clear hr0_0 hr0_1 hr2 hsz
  go_enter Try.func27, Try.ntmps27
  go_upto_region 1 with (fail)
  generalize ((w.alloc (.cells #[.slice A0_0 l0_0.length c0_0, .slice A0_1 l0_1.length c0_1] 25)).alloc (.cells #[.bool false, .bool false, .bool false] 35)) = W1 at HB HG HR HC0 HC1 HC2 HW ⊢
  have g0 : W1.cell? ⟨w.heap.size, 0, none⟩ = some (.slice A0_0 l0_0.length c0_0) := (Qb HG.out 0).trans rfl
  have g1 : W1.cell? ⟨w.heap.size, 1, none⟩ = some (.slice A0_1 l0_1.length c0_1) := (Qb HG.out 1).trans rfl
  obtain ⟨ad, Ak, ck, e, k0, k1, k2, k3, k4, k5, k6, hlk, hCk⟩ := at_T53 HC1.out a1 p2 p3
  cases e
  have HCk := Qa.mk hCk
  have HLk := Qa.mk hlk
  clear hCk hlk HC1
  replace p2 := eq_true p2
  replace p3 := eq_true p3
  go_upto_region 3 with (fail)
  generalize Qh l0_1 a1 = nd at *
  obtain ⟨gx, hgx⟩ : ∃ gx, gx = W1.heap.size := ⟨_, rfl⟩
  obtain ⟨go, hgo⟩ : ∃ go, go = gx + 1 := ⟨_, rfl⟩
  obtain ⟨gb, hgb⟩ : ∃ gb, gb = w.heap.size := ⟨_, rfl⟩
  obtain ⟨gr, hgr⟩ : ∃ gr, gr = gb + 1 := ⟨_, rfl⟩
  rw [← hgb] at HW HG HR
  rw [← hgr] at HR
  have E2 : Qa (Env11 W1 gx go #[.int .i64 nd.f0, .slice Ak nd.f1.length ck, .int .i64 nd.f2, .int .u64 nd.f3.f0, .int .u64 nd.f3.f1, .int .u64 nd.f3.f2, .int .u64 nd.f3.f3] ((W1.alloc (.cells #[.int .i64 nd.f0, .slice Ak nd.f1.length ck, .int .i64 nd.f2, .int .u64 nd.f3.f0, .int .u64 nd.f3.f1, .int .u64 nd.f3.f2, .int .u64 nd.f3.f3] 53)).alloc (.cells #[.bool false, .bool false, .bool false] 35)) false false false) := ⟨by rw [hgx]; exact Qd (blk_new W1 (.cells #[.int .i64 nd.f0, .slice Ak nd.f1.length ck, .int .i64 nd.f2, .int .u64 nd.f3.f0, .int .u64 nd.f3.f1, .int .u64 nd.f3.f2, .int .u64 nd.f3.f3] 53)) (.cells #[.bool false, .bool false, .bool false] 35), by rw [hgo, hgx]; have := blk_new (W1.alloc (.cells #[.int .i64 nd.f0, .slice Ak nd.f1.length ck, .int .i64 nd.f2, .int .u64 nd.f3.f0, .int .u64 nd.f3.f1, .int .u64 nd.f3.f2, .int .u64 nd.f3.f3] 53)) (.cells #[.bool false, .bool false, .bool false] 35); rw [Ql1] at this; exact this, Qj (Qj (Below.refl _ _) _) _⟩
  have HLT := Qa.mk (show W1.heap.size ≤ go ∧ gx ≠ go ∧ gb < W1.heap.size ∧ gr < W1.heap.size ∧ gr ≠ go by have := HW.out; omega)
  have HGB := Qa.mk hgb
  have HGR := Qa.mk hgr
  rw [← hgx, ← hgb, ← hgr, ← hgo]
  generalize (W1.alloc (.cells #[.int .i64 nd.f0, .slice Ak nd.f1.length ck, .int .i64 nd.f2, .int .u64 nd.f3.f0, .int .u64 nd.f3.f1, .int .u64 nd.f3.f2, .int .u64 nd.f3.f3] 53)).alloc (.cells #[.bool false, .bool false, .bool false] 35) = W2 at E2 ⊢
  clear k0 k1 k2 k3 k4 k5 k6 g0 g1 HW hgx hgo hgb hgr
  have x0 := (Qb E2.out.x 0).trans rfl
  go_upto_block 0 with fail
  go_cut [] (fun wc => ∃ n e f, Qa ((n, e, f) = (r1, r2, r3)) ∧ Qa (Env11 W1 gx go #[.int .i64 nd.f0, .slice Ak nd.f1.length ck, .int .i64 nd.f2, .int .u64 nd.f3.f0, .int .u64 nd.f3.f1, .int .u64 nd.f3.f2, .int .u64 nd.f3.f3] wc n e f))
  case first =>
   clear x0
   have h := H.out
   clear H
   unfold Qx.p at h
   have c0 : ¬ nd.f0 = 0 := by have := hs.out; omega
   rw [if_neg c0] at h
   have b0 : (nd.f0 == 0) = false := beq_eq_false_iff_ne.2 c0
   go_upto_region 6 with (fail)
   clear b0
   have c1 : ¬ nd.f0 = 1 := by have := hs.out; omega
   rw [if_neg c1] at h
   have b1 : (nd.f0 == 1) = false := beq_eq_false_iff_ne.2 c1
   go_upto_region 9 with (fail)
   clear b1
   have c2 : ¬ nd.f0 = 2 := by have := hs.out; omega
   rw [if_neg c2] at h
   have b2 : (nd.f0 == 2) = false := beq_eq_false_iff_ne.2 c2
   go_upto_region 11 with (fail)
   clear b2
   have c3 : ¬ nd.f0 = 3 := by have := hs.out; omega
   rw [if_neg c3] at h
   have b3 : (nd.f0 == 3) = false := beq_eq_false_iff_ne.2 c3
   go_upto_region 28 with (fail)
   clear b3
   have c4 : ¬ nd.f0 = 4 := by have := hs.out; omega
   rw [if_neg c4] at h
   have b4 : (nd.f0 == 4) = false := beq_eq_false_iff_ne.2 c4
   go_upto_region 42 with (fail)
   clear b4
   have c5 : ¬ nd.f0 = 5 := by have := hs.out; omega
   rw [if_neg c5] at h
   have b5 : (nd.f0 == 5) = false := beq_eq_false_iff_ne.2 c5
   go_upto_region 45 with (fail)
   clear b5
   have c6 : nd.f0 = 6 := by have := hs.out; omega
   rw [if_pos c6] at h
   have b6 : (nd.f0 == 6) = true := beq_iff_eq.2 c6
   have q9 : (0 : Int) < (nd.f1.length : Int) := by have := List.length_pos_iff.2 (HF.out.2.1 (by omega) (by omega)); omega
   obtain ⟨q2, q3⟩ := HF.out.1 (rd nd.f1 0) (rd_memh nd.f1 0 (Int.le_refl 0) q9)
   clear c0 c1 c2 c3 c4 c5 c6
   have HQ2 := Qa.mk q2
   replace q2 := eq_true q2
   have HQ3 := Qa.mk q3
   replace q3 := eq_true q3
   have HQ9 := Qa.mk q9
   replace q9 := eq_true q9
   have q9n : (0 < nd.f1.length) = True := eq_true (by have := HQ9.out; omega)
   obtain ⟨f0, f1, f2, hfx⟩ : ∃ f0 f1 f2, rd_T35 l2 (rd nd.f1 0) = ⟨f0, f1, f2⟩ := ⟨_, _, _, rfl⟩
   rw [hfx] at h
   dsimp only at h
   have HFX := Qa.mk hfx
   clear hfx
   cases f0 with
   | true =>
     obtain ⟨ad1, e1, y0⟩ := Kd.at_int (Kd.Qw HCk.out E2.out.b) 0 (Int.le_refl 0) HQ9.out
     cases e1
     obtain ⟨ad2, e2, u0, u1, u2⟩ := at_T35 (Kd.Qw HC2.out E2.out.b) (rd nd.f1 0) HQ2.out HQ3.out
     cases e2
     replace y0 : W2.cell? ad1 = some (.int .i64 (rd nd.f1 0)) := by simpa [Addr.add] using y0
     rw [HFX.out] at u0 u1 u2
     dsimp only at u0 u1 u2
     have x0 : W2.cell? ⟨gx, 0, none⟩ = some (.int .i64 nd.f0) := (Qb E2.out.x 0).trans rfl
     have x1 := (Qb E2.out.x 1).trans rfl
     have o0 : W2.cell? ⟨go, 0, none⟩ = some (.bool false) := (Qb E2.out.o 0).trans rfl
     have z0 : W2.frozen? ⟨go, 0, none⟩ = false := Qf E2.out.o 0
     go_upto_region 47 with (fail)
     have EV0 := Qa.mk ((E2.out).put0 HLT.out.1 HLT.out.2.1 f2)
     generalize W2.setCell ⟨go, 0, none⟩ (.bool f2) = V0 at EV0 ⊢
     clear x0 x1 y0 u0 u1 u2 o0 z0
     obtain ⟨ad1, e1, y0⟩ := Kd.at_int (Kd.Qw HCk.out EV0.out.b) 0 (Int.le_refl 0) HQ9.out
     cases e1
     obtain ⟨ad2, e2, u0, u1, u2⟩ := at_T35 (Kd.Qw HC2.out EV0.out.b) (rd nd.f1 0) HQ2.out HQ3.out
     cases e2
     replace y0 : V0.cell? ad1 = some (.int .i64 (rd nd.f1 0)) := by simpa [Addr.add] using y0
     rw [HFX.out] at u0 u1 u2
     dsimp only at u0 u1 u2
     have x0 : V0.cell? ⟨gx, 0, none⟩ = some (.int .i64 nd.f0) := (Qb EV0.out.x 0).trans rfl
     have x1 := (Qb EV0.out.x 1).trans rfl
     have o1 : V0.cell? ⟨go, 1, none⟩ = some (.bool false) := (Qb EV0.out.o 1).trans rfl
     have z1 : V0.frozen? ⟨go, 1, none⟩ = false := Qf EV0.out.o 1
     go_upto_region 48 with (fail)
     have EV1 := Qa.mk ((EV0.out).put1 HLT.out.1 HLT.out.2.1 f1)
     generalize V0.setCell ⟨go, 1, none⟩ (.bool f1) = V1 at EV1 ⊢
     clear x0 x1 y0 u0 u1 u2 o1 z1
     obtain ⟨ad1, e1, y0⟩ := Kd.at_int (Kd.Qw HCk.out EV1.out.b) 0 (Int.le_refl 0) HQ9.out
     cases e1
     obtain ⟨ad2, e2, u0, u1, u2⟩ := at_T35 (Kd.Qw HC2.out EV1.out.b) (rd nd.f1 0) HQ2.out HQ3.out
     cases e2
     replace y0 : V1.cell? ad1 = some (.int .i64 (rd nd.f1 0)) := by simpa [Addr.add] using y0
     rw [HFX.out] at u0 u1 u2
     dsimp only at u0 u1 u2
     have x0 : V1.cell? ⟨gx, 0, none⟩ = some (.int .i64 nd.f0) := (Qb EV1.out.x 0).trans rfl
     have x1 := (Qb EV1.out.x 1).trans rfl
     have o2 : V1.cell? ⟨go, 2, none⟩ = some (.bool false) := (Qb EV1.out.o 2).trans rfl
     have z2 : V1.frozen? ⟨go, 2, none⟩ = false := Qf EV1.out.o 2
     go_wp2
     go_meet
     exact ⟨_, _, _, ⟨h⟩, ⟨(EV1.out).put2 HLT.out.1 HLT.out.2.1 f2⟩⟩
   | false =>
     obtain ⟨ad1, e1, y0⟩ := Kd.at_int (Kd.Qw HCk.out E2.out.b) 0 (Int.le_refl 0) HQ9.out
     cases e1
     obtain ⟨ad2, e2, u0, u1, u2⟩ := at_T35 (Kd.Qw HC2.out E2.out.b) (rd nd.f1 0) HQ2.out HQ3.out
     cases e2
     replace y0 : W2.cell? ad1 = some (.int .i64 (rd nd.f1 0)) := by simpa [Addr.add] using y0
     rw [HFX.out] at u0 u1 u2
     dsimp only at u0 u1 u2
     have x0 : W2.cell? ⟨gx, 0, none⟩ = some (.int .i64 nd.f0) := (Qb E2.out.x 0).trans rfl
     have x1 := (Qb E2.out.x 1).trans rfl
     have o0 : W2.cell? ⟨go, 0, none⟩ = some (.bool false) := (Qb E2.out.o 0).trans rfl
     have z0 : W2.frozen? ⟨go, 0, none⟩ = false := Qf E2.out.o 0
     go_upto_region 47 with (fail)
     have EV0 := Qa.mk ((E2.out).put0 HLT.out.1 HLT.out.2.1 false)
     generalize W2.setCell ⟨go, 0, none⟩ (.bool false) = V0 at EV0 ⊢
     clear x0 x1 y0 u0 u1 u2 o0 z0
     obtain ⟨ad1, e1, y0⟩ := Kd.at_int (Kd.Qw HCk.out EV0.out.b) 0 (Int.le_refl 0) HQ9.out
     cases e1
     obtain ⟨ad2, e2, u0, u1, u2⟩ := at_T35 (Kd.Qw HC2.out EV0.out.b) (rd nd.f1 0) HQ2.out HQ3.out
     cases e2
     replace y0 : V0.cell? ad1 = some (.int .i64 (rd nd.f1 0)) := by simpa [Addr.add] using y0
     rw [HFX.out] at u0 u1 u2
     dsimp only at u0 u1 u2
     have x0 : V0.cell? ⟨gx, 0, none⟩ = some (.int .i64 nd.f0) := (Qb EV0.out.x 0).trans rfl
     have x1 := (Qb EV0.out.x 1).trans rfl
     have o1 : V0.cell? ⟨go, 1, none⟩ = some (.bool false) := (Qb EV0.out.o 1).trans rfl
     have z1 : V0.frozen? ⟨go, 1, none⟩ = false := Qf EV0.out.o 1
     go_upto_region 48 with (fail)
     have EV1 := Qa.mk ((EV0.out).put1 HLT.out.1 HLT.out.2.1 f1)
     generalize V0.setCell ⟨go, 1, none⟩ (.bool f1) = V1 at EV1 ⊢
     clear x0 x1 y0 u0 u1 u2 o1 z1
     obtain ⟨ad1, e1, y0⟩ := Kd.at_int (Kd.Qw HCk.out EV1.out.b) 0 (Int.le_refl 0) HQ9.out
     cases e1
     obtain ⟨ad2, e2, u0, u1, u2⟩ := at_T35 (Kd.Qw HC2.out EV1.out.b) (rd nd.f1 0) HQ2.out HQ3.out
     cases e2
     replace y0 : V1.cell? ad1 = some (.int .i64 (rd nd.f1 0)) := by simpa [Addr.add] using y0
     rw [HFX.out] at u0 u1 u2
     dsimp only at u0 u1 u2
     have x0 : V1.cell? ⟨gx, 0, none⟩ = some (.int .i64 nd.f0) := (Qb EV1.out.x 0).trans rfl
     have x1 := (Qb EV1.out.x 1).trans rfl
     have o2 : V1.cell? ⟨go, 2, none⟩ = some (.bool false) := (Qb EV1.out.o 2).trans rfl
     have z2 : V1.frozen? ⟨go, 2, none⟩ = false := Qf EV1.out.o 2
     go_wp2
     go_meet
     exact ⟨_, _, _, ⟨h⟩, ⟨(EV1.out).put2 HLT.out.1 HLT.out.2.1 f2⟩⟩
  case rest =>
   clear x0
   obtain ⟨n, e, f, HE, E3⟩ := hcut
   obtain ⟨rfl, rfl, rfl⟩ : n = r1 ∧ e = r2 ∧ f = r3 := by simpa using HE.out
   have o0 : wc.cell? ⟨go, 0, none⟩ = some (.bool n) := (Qb E3.out.o 0).trans rfl
   have r0 : wc.cell? ⟨gr, 0, none⟩ = some (.bool false) := (Qb (Qo HR.out E3.out.b) 0).trans rfl
   have z0 : wc.frozen? ⟨gr, 0, none⟩ = false := Qf (Qo HR.out E3.out.b) 0
   have o1 : wc.cell? ⟨go, 1, none⟩ = some (.bool e) := (Qb E3.out.o 1).trans rfl
   have r1 : wc.cell? ⟨gr, 1, none⟩ = some (.bool false) := (Qb (Qo HR.out E3.out.b) 1).trans rfl
   have z1 : wc.frozen? ⟨gr, 1, none⟩ = false := Qf (Qo HR.out E3.out.b) 1
   have o2 : wc.cell? ⟨go, 2, none⟩ = some (.bool f) := (Qb E3.out.o 2).trans rfl
   have r2 : wc.cell? ⟨gr, 2, none⟩ = some (.bool false) := (Qb (Qo HR.out E3.out.b) 2).trans rfl
   have z2 : wc.frozen? ⟨gr, 2, none⟩ = false := Qf (Qo HR.out E3.out.b) 2
   go_wp2
   refine bodyPost_ret (results_cell_row rfl _ _ gr 35 #[.bool n, .bool e, .bool f] (0, 0) _ rfl (blk3 (Qo HR.out E3.out.b) _ _ _) Try.underlying35 rfl (by kernel_rfl)) rfl ⟨rfl, ?_⟩
   exact below3 (Qr HB.out E3.out.b) (by have := HGB.out; have := HGR.out; omega) _ _ _
end Go.Proofs.Ytnaanamibfpbpaa.V
namespace Go.Proofs.Ytnaanamibfpbpaa.V
open Go.RowKit Go.Proofs.YtnaanamibfpbpaaW.PrintWords Go.Proofs.YtnaanamibfpbpaaW.PrintLast Go.Proofs.YtnaanamibfpbpaaW.PrintMore
set_option linter.unusedVariables false
set_option linter.unusedSimpArgs false
attribute [local go_sem high] eq54h
set_option maxHeartbeats 4000000 in
set_option maxRecDepth 100000 in
theorem Qx.calls_s7 (A0_0 : Option Addr) (c0_0 : Nat) (l0_0 : List S39) (A0_1 : Option Addr) (c0_1 : Nat) (l0_1 : List S53) (a1 : Int) (A2 : Option Addr) (c2 : Nat) (l2 : List S35) (r1 r2 r3 : Bool) (w : World)
    (hr0_0 : Kd.C k39 w A0_0 l0_0.length l0_0) (hc0_0 : l0_0.length ≤ c0_0) (hr0_1 : Kd.C k53 w A0_1 l0_1.length l0_1) (hc0_1 : l0_1.length ≤ c0_1) (hr2 : Kd.C k35 w A2 l2.length l2) (hc2 : l2.length ≤ c2)
    (hs : Qa ((Qh l0_1 a1).f0 = 7)) (h : Qx.f l0_0 l0_1 a1 l2 = some (r1, r2, r3)) :
    Calls Try.prog 27 #[.agg #[.slice A0_0 l0_0.length c0_0, .slice A0_1 l0_1.length c0_1], .int .i64 a1, .slice A2 l2.length c2] w fun e w' => e = .returned (.agg #[.bool r1, .bool r2, .bool r3]) ∧ Below w.heap.size w w' := by
  unfold Qx.f at h
  split at h
  case isFalse => exact absurd h (by simp)
  case isTrue hfit =>
  obtain ⟨p2, p3, hfit⟩ := hfit
  have H : Qa (Qx.p l0_0 l2 (Qh l0_1 a1) = (r1, r2, r3)) := ⟨Option.some.inj h⟩
  have HF := Qa.mk hfit
  clear h hfit
  have hu25 := Try.underlying25
  have hu45 := Try.underlying35
  have hu56 := Try.underlying53
  have hu51 := Try.underlying39
  have hu54 := Try.underlying50
  have HB := Qa.mk (Qj (Qj (Below.refl w.heap.size w) (.cells #[.slice A0_0 l0_0.length c0_0, .slice A0_1 l0_1.length c0_1] 25)) (.cells #[.bool false, .bool false, .bool false] 35))
  have HG := Qa.mk (Qd (blk_new w (.cells #[.slice A0_0 l0_0.length c0_0, .slice A0_1 l0_1.length c0_1] 25)) (.cells #[.bool false, .bool false, .bool false] 35))
  have HR := Qa.mk (blk_new (w.alloc (.cells #[.slice A0_0 l0_0.length c0_0, .slice A0_1 l0_1.length c0_1] 25)) (.cells #[.bool false, .bool false, .bool false] 35))
  have hsz : ((w.alloc (.cells #[.slice A0_0 l0_0.length c0_0, .slice A0_1 l0_1.length c0_1] 25)).alloc (.cells #[.bool false, .bool false, .bool false] 35)).heap.size = w.heap.size + 1 + 1 := by rw [Ql1, Ql1]
  rw [Ql1] at HR
  have HC0 := Qa.mk (Kd.Qw hr0_0 HB.out)
  have HC1 := Qa.mk (Kd.Qw hr0_1 HB.out)
  have HC2 := Qa.mk (Kd.Qw hr2 HB.out)
  have HW := Qa.mk hsz
  clear hr0_0 hr0_1 hr2 hsz
  go_enter Try.func27, Try.ntmps27
  go_upto_region 1 with (fail)
  generalize ((w.alloc (.cells #[.slice A0_0 l0_0.length c0_0, .slice A0_1 l0_1.length c0_1] 25)).alloc (.cells #[.bool false, .bool false, .bool false] 35)) = W1 at HB HG HR HC0 HC1 HC2 HW ⊢
  have g0 : W1.cell? ⟨w.heap.size, 0, none⟩ = some (.slice A0_0 l0_0.length c0_0) := (Qb HG.out 0).trans rfl
  have g1 : W1.cell? ⟨w.heap.size, 1, none⟩ = some (.slice A0_1 l0_1.length c0_1) := (Qb HG.out 1).trans rfl
  obtain ⟨ad, Ak, ck, e, k0, k1, k2, k3, k4, k5, k6, hlk, hCk⟩ := at_T53 HC1.out a1 p2 p3
  cases e
  have HCk := Qa.mk hCk
  have HLk := Qa.mk hlk
  clear hCk hlk HC1
  replace p2 := eq_true p2
  replace p3 := eq_true p3
  go_upto_region 3 with (fail)
  generalize Qh l0_1 a1 = nd at *
  obtain ⟨gx, hgx⟩ : ∃ gx, gx = W1.heap.size := ⟨_, rfl⟩
  obtain ⟨go, hgo⟩ : ∃ go, go = gx + 1 := ⟨_, rfl⟩
  obtain ⟨gb, hgb⟩ : ∃ gb, gb = w.heap.size := ⟨_, rfl⟩
  obtain ⟨gr, hgr⟩ : ∃ gr, gr = gb + 1 := ⟨_, rfl⟩
  rw [← hgb] at HW HG HR
  rw [← hgr] at HR
  have E2 : Qa (Env11 W1 gx go #[.int .i64 nd.f0, .slice Ak nd.f1.length ck, .int .i64 nd.f2, .int .u64 nd.f3.f0, .int .u64 nd.f3.f1, .int .u64 nd.f3.f2, .int .u64 nd.f3.f3] ((W1.alloc (.cells #[.int .i64 nd.f0, .slice Ak nd.f1.length ck, .int .i64 nd.f2, .int .u64 nd.f3.f0, .int .u64 nd.f3.f1, .int .u64 nd.f3.f2, .int .u64 nd.f3.f3] 53)).alloc (.cells #[.bool false, .bool false, .bool false] 35)) false false false) := ⟨by rw [hgx]; exact Qd (blk_new W1 (.cells #[.int .i64 nd.f0, .slice Ak nd.f1.length ck, .int .i64 nd.f2, .int .u64 nd.f3.f0, .int .u64 nd.f3.f1, .int .u64 nd.f3.f2, .int .u64 nd.f3.f3] 53)) (.cells #[.bool false, .bool false, .bool false] 35), by rw [hgo, hgx]; have := blk_new (W1.alloc (.cells #[.int .i64 nd.f0, .slice Ak nd.f1.length ck, .int .i64 nd.f2, .int .u64 nd.f3.f0, .int .u64 nd.f3.f1, .int .u64 nd.f3.f2, .int .u64 nd.f3.f3] 53)) (.cells #[.bool false, .bool false, .bool false] 35); rw [Ql1] at this; exact this, Qj (Qj (Below.refl _ _) _) _⟩
  have HLT := Qa.mk (show W1.heap.size ≤ go ∧ gx ≠ go ∧ gb < W1.heap.size ∧ gr < W1.heap.size ∧ gr ≠ go by have := HW.out; omega)
  have HGB := Qa.mk hgb
  have HGR := Qa.mk hgr
  rw [← hgx, ← hgb, ← hgr, ← hgo]
  generalize (W1.alloc (.cells #[.int .i64 nd.f0, .slice Ak nd.f1.length ck, .int .i64 nd.f2, .int .u64 nd.f3.f0, .int .u64 nd.f3.f1, .int .u64 nd.f3.f2, .int .u64 nd.f3.f3] 53)).alloc (.cells #[.bool false, .bool false, .bool false] 35) = W2 at E2 ⊢
  clear k0 k1 k2 k3 k4 k5 k6 g0 g1 HW hgx hgo hgb hgr
  have x0 := (Qb E2.out.x 0).trans rfl
  go_upto_block 0 with fail
  go_cut [] (fun wc => ∃ n e f, Qa ((n, e, f) = (r1, r2, r3)) ∧ Qa (Env11 W1 gx go #[.int .i64 nd.f0, .slice Ak nd.f1.length ck, .int .i64 nd.f2, .int .u64 nd.f3.f0, .int .u64 nd.f3.f1, .int .u64 nd.f3.f2, .int .u64 nd.f3.f3] wc n e f))
  case first =>
   clear x0
   have h := H.out
   clear H
   unfold Qx.p at h
   have c0 : ¬ nd.f0 = 0 := by have := hs.out; omega
   rw [if_neg c0] at h
   have b0 : (nd.f0 == 0) = false := beq_eq_false_iff_ne.2 c0
   go_upto_region 6 with (fail)
   clear b0
   have c1 : ¬ nd.f0 = 1 := by have := hs.out; omega
   rw [if_neg c1] at h
   have b1 : (nd.f0 == 1) = false := beq_eq_false_iff_ne.2 c1
   go_upto_region 9 with (fail)
   clear b1
   have c2 : ¬ nd.f0 = 2 := by have := hs.out; omega
   rw [if_neg c2] at h
   have b2 : (nd.f0 == 2) = false := beq_eq_false_iff_ne.2 c2
   go_upto_region 11 with (fail)
   clear b2
   have c3 : ¬ nd.f0 = 3 := by have := hs.out; omega
   rw [if_neg c3] at h
   have b3 : (nd.f0 == 3) = false := beq_eq_false_iff_ne.2 c3
   go_upto_region 28 with (fail)
   clear b3
   have c4 : ¬ nd.f0 = 4 := by have := hs.out; omega
   rw [if_neg c4] at h
   have b4 : (nd.f0 == 4) = false := beq_eq_false_iff_ne.2 c4
   go_upto_region 42 with (fail)
   clear b4
   have c5 : ¬ nd.f0 = 5 := by have := hs.out; omega
   rw [if_neg c5] at h
   have b5 : (nd.f0 == 5) = false := beq_eq_false_iff_ne.2 c5
   go_upto_region 45 with (fail)
   clear b5
   have c6 : ¬ nd.f0 = 6 := by have := hs.out; omega
   rw [if_neg c6] at h
   have b6 : (nd.f0 == 6) = false := beq_eq_false_iff_ne.2 c6
   go_upto_region 49 with (fail)
   clear b6
   have c7 : nd.f0 = 7 := by have := hs.out; omega
   rw [if_pos c7] at h
   have b7 : (nd.f0 == 7) = true := beq_iff_eq.2 c7
   have q9 : (0 : Int) < (nd.f1.length : Int) := by have := List.length_pos_iff.2 (HF.out.2.1 (by omega) (by omega)); omega
   obtain ⟨q2, q3⟩ := HF.out.1 (rd nd.f1 0) (rd_memh nd.f1 0 (Int.le_refl 0) q9)
   clear c0 c1 c2 c3 c4 c5 c6 c7
   have HQ2 := Qa.mk q2
   replace q2 := eq_true q2
   have HQ3 := Qa.mk q3
   replace q3 := eq_true q3
   have HQ9 := Qa.mk q9
   replace q9 := eq_true q9
   have q9n : (0 < nd.f1.length) = True := eq_true (by have := HQ9.out; omega)
   obtain ⟨f0, f1, f2, hfx⟩ : ∃ f0 f1 f2, rd_T35 l2 (rd nd.f1 0) = ⟨f0, f1, f2⟩ := ⟨_, _, _, rfl⟩
   rw [hfx] at h
   dsimp only at h
   have HFX := Qa.mk hfx
   clear hfx
   cases f0 with
   | true =>
     obtain ⟨ad1, e1, y0⟩ := Kd.at_int (Kd.Qw HCk.out E2.out.b) 0 (Int.le_refl 0) HQ9.out
     cases e1
     obtain ⟨ad2, e2, u0, u1, u2⟩ := at_T35 (Kd.Qw HC2.out E2.out.b) (rd nd.f1 0) HQ2.out HQ3.out
     cases e2
     replace y0 : W2.cell? ad1 = some (.int .i64 (rd nd.f1 0)) := by simpa [Addr.add] using y0
     rw [HFX.out] at u0 u1 u2
     dsimp only at u0 u1 u2
     have x0 : W2.cell? ⟨gx, 0, none⟩ = some (.int .i64 nd.f0) := (Qb E2.out.x 0).trans rfl
     have x1 := (Qb E2.out.x 1).trans rfl
     have o0 : W2.cell? ⟨go, 0, none⟩ = some (.bool false) := (Qb E2.out.o 0).trans rfl
     have z0 : W2.frozen? ⟨go, 0, none⟩ = false := Qf E2.out.o 0
     go_upto_region 51 with (fail)
     have EV0 := Qa.mk ((E2.out).put0 HLT.out.1 HLT.out.2.1 true)
     generalize W2.setCell ⟨go, 0, none⟩ (.bool true) = V0 at EV0 ⊢
     clear x0 x1 y0 u0 u1 u2 o0 z0
     obtain ⟨ad1, e1, y0⟩ := Kd.at_int (Kd.Qw HCk.out EV0.out.b) 0 (Int.le_refl 0) HQ9.out
     cases e1
     obtain ⟨ad2, e2, u0, u1, u2⟩ := at_T35 (Kd.Qw HC2.out EV0.out.b) (rd nd.f1 0) HQ2.out HQ3.out
     cases e2
     replace y0 : V0.cell? ad1 = some (.int .i64 (rd nd.f1 0)) := by simpa [Addr.add] using y0
     rw [HFX.out] at u0 u1 u2
     dsimp only at u0 u1 u2
     have x0 : V0.cell? ⟨gx, 0, none⟩ = some (.int .i64 nd.f0) := (Qb EV0.out.x 0).trans rfl
     have x1 := (Qb EV0.out.x 1).trans rfl
     have o1 : V0.cell? ⟨go, 1, none⟩ = some (.bool false) := (Qb EV0.out.o 1).trans rfl
     have z1 : V0.frozen? ⟨go, 1, none⟩ = false := Qf EV0.out.o 1
     go_wp2
     go_meet
     exact ⟨_, _, _, ⟨h⟩, ⟨(EV0.out).put1 HLT.out.1 HLT.out.2.1 f1⟩⟩
   | false =>
     obtain ⟨ad1, e1, y0⟩ := Kd.at_int (Kd.Qw HCk.out E2.out.b) 0 (Int.le_refl 0) HQ9.out
     cases e1
     obtain ⟨ad2, e2, u0, u1, u2⟩ := at_T35 (Kd.Qw HC2.out E2.out.b) (rd nd.f1 0) HQ2.out HQ3.out
     cases e2
     replace y0 : W2.cell? ad1 = some (.int .i64 (rd nd.f1 0)) := by simpa [Addr.add] using y0
     rw [HFX.out] at u0 u1 u2
     dsimp only at u0 u1 u2
     have x0 : W2.cell? ⟨gx, 0, none⟩ = some (.int .i64 nd.f0) := (Qb E2.out.x 0).trans rfl
     have x1 := (Qb E2.out.x 1).trans rfl
     have o0 : W2.cell? ⟨go, 0, none⟩ = some (.bool false) := (Qb E2.out.o 0).trans rfl
     have z0 : W2.frozen? ⟨go, 0, none⟩ = false := Qf E2.out.o 0
     go_upto_region 51 with (fail)
     have EV0 := Qa.mk ((E2.out).put0 HLT.out.1 HLT.out.2.1 f2)
     generalize W2.setCell ⟨go, 0, none⟩ (.bool f2) = V0 at EV0 ⊢
     clear x0 x1 y0 u0 u1 u2 o0 z0
     obtain ⟨ad1, e1, y0⟩ := Kd.at_int (Kd.Qw HCk.out EV0.out.b) 0 (Int.le_refl 0) HQ9.out
     cases e1
     obtain ⟨ad2, e2, u0, u1, u2⟩ := at_T35 (Kd.Qw HC2.out EV0.out.b) (rd nd.f1 0) HQ2.out HQ3.out
     cases e2
     replace y0 : V0.cell? ad1 = some (.int .i64 (rd nd.f1 0)) := by simpa [Addr.add] using y0
     rw [HFX.out] at u0 u1 u2
     dsimp only at u0 u1 u2
     have x0 : V0.cell? ⟨gx, 0, none⟩ = some (.int .i64 nd.f0) := (Qb EV0.out.x 0).trans rfl
     have x1 := (Qb EV0.out.x 1).trans rfl
     have o1 : V0.cell? ⟨go, 1, none⟩ = some (.bool false) := (Qb EV0.out.o 1).trans rfl
     have z1 : V0.frozen? ⟨go, 1, none⟩ = false := Qf EV0.out.o 1
     go_wp2
     go_meet
     exact ⟨_, _, _, ⟨h⟩, ⟨(EV0.out).put1 HLT.out.1 HLT.out.2.1 f1⟩⟩
  case rest =>
   clear x0
   obtain ⟨n, e, f, HE, E3⟩ := hcut
   obtain ⟨rfl, rfl, rfl⟩ : n = r1 ∧ e = r2 ∧ f = r3 := by simpa using HE.out
   have o0 : wc.cell? ⟨go, 0, none⟩ = some (.bool n) := (Qb E3.out.o 0).trans rfl
   have r0 : wc.cell? ⟨gr, 0, none⟩ = some (.bool false) := (Qb (Qo HR.out E3.out.b) 0).trans rfl
   have z0 : wc.frozen? ⟨gr, 0, none⟩ = false := Qf (Qo HR.out E3.out.b) 0
   have o1 : wc.cell? ⟨go, 1, none⟩ = some (.bool e) := (Qb E3.out.o 1).trans rfl
   have r1 : wc.cell? ⟨gr, 1, none⟩ = some (.bool false) := (Qb (Qo HR.out E3.out.b) 1).trans rfl
   have z1 : wc.frozen? ⟨gr, 1, none⟩ = false := Qf (Qo HR.out E3.out.b) 1
   have o2 : wc.cell? ⟨go, 2, none⟩ = some (.bool f) := (Qb E3.out.o 2).trans rfl
   have r2 : wc.cell? ⟨gr, 2, none⟩ = some (.bool false) := (Qb (Qo HR.out E3.out.b) 2).trans rfl
   have z2 : wc.frozen? ⟨gr, 2, none⟩ = false := Qf (Qo HR.out E3.out.b) 2
   go_wp2
   refine bodyPost_ret (results_cell_row rfl _ _ gr 35 #[.bool n, .bool e, .bool f] (0, 0) _ rfl (blk3 (Qo HR.out E3.out.b) _ _ _) Try.underlying35 rfl (by kernel_rfl)) rfl ⟨rfl, ?_⟩
   exact below3 (Qr HB.out E3.out.b) (by have := HGB.out; have := HGR.out; omega) _ _ _
end Go.Proofs.Ytnaanamibfpbpaa.V
namespace Go.Proofs.Ytnaanamibfpbpaa.V
open Go.RowKit Go.Proofs.YtnaanamibfpbpaaW.PrintWords Go.Proofs.YtnaanamibfpbpaaW.PrintLast Go.Proofs.YtnaanamibfpbpaaW.PrintMore
set_option linter.unusedVariables false
set_option linter.unusedSimpArgs false
attribute [local go_sem high] eq54h
set_option maxHeartbeats 4000000 in
set_option maxRecDepth 100000 in
theorem Qx.calls_s8 (A0_0 : Option Addr) (c0_0 : Nat) (l0_0 : List S39) (A0_1 : Option Addr) (c0_1 : Nat) (l0_1 : List S53) (a1 : Int) (A2 : Option Addr) (c2 : Nat) (l2 : List S35) (r1 r2 r3 : Bool) (w : World)
    (hr0_0 : Kd.C k39 w A0_0 l0_0.length l0_0) (hc0_0 : l0_0.length ≤ c0_0) (hr0_1 : Kd.C k53 w A0_1 l0_1.length l0_1) (hc0_1 : l0_1.length ≤ c0_1) (hr2 : Kd.C k35 w A2 l2.length l2) (hc2 : l2.length ≤ c2)
    (hs : Qa ((Qh l0_1 a1).f0 = 8)) (h : Qx.f l0_0 l0_1 a1 l2 = some (r1, r2, r3)) :
    Calls Try.prog 27 #[.agg #[.slice A0_0 l0_0.length c0_0, .slice A0_1 l0_1.length c0_1], .int .i64 a1, .slice A2 l2.length c2] w fun e w' => e = .returned (.agg #[.bool r1, .bool r2, .bool r3]) ∧ Below w.heap.size w w' := by
  unfold Qx.f at h
  split at h
  case isFalse => exact absurd h (by simp)
  case isTrue hfit =>
  obtain ⟨p2, p3, hfit⟩ := hfit
  have H : Qa (Qx.p l0_0 l2 (Qh l0_1 a1) = (r1, r2, r3)) := ⟨Option.some.inj h⟩
  have HF := Qa.mk hfit
  clear h hfit
  have hu25 := Try.underlying25
  have hu45 := Try.underlying35
  have hu56 := Try.underlying53
  have hu51 := Try.underlying39
  have hu54 := Try.underlying50
  have HB := Qa.mk (Qj (Qj (Below.refl w.heap.size w) (.cells #[.slice A0_0 l0_0.length c0_0, .slice A0_1 l0_1.length c0_1] 25)) (.cells #[.bool false, .bool false, .bool false] 35))
  have HG := Qa.mk (Qd (blk_new w (.cells #[.slice A0_0 l0_0.length c0_0, .slice A0_1 l0_1.length c0_1] 25)) (.cells #[.bool false, .bool false, .bool false] 35))
  have HR := Qa.mk (blk_new (w.alloc (.cells #[.slice A0_0 l0_0.length c0_0, .slice A0_1 l0_1.length c0_1] 25)) (.cells #[.bool false, .bool false, .bool false] 35))
  have hsz : ((w.alloc (.cells #[.slice A0_0 l0_0.length c0_0, .slice A0_1 l0_1.length c0_1] 25)).alloc (.cells #[.bool false, .bool false, .bool false] 35)).heap.size = w.heap.size + 1 + 1 := by rw [Ql1, Ql1]
  rw [Ql1] at HR
  have HC0 := Qa.mk (Kd.Qw hr0_0 HB.out)
  have HC1 := Qa.mk (Kd.Qw hr0_1 HB.out)
  have HC2 := Qa.mk (Kd.Qw hr2 HB.out)
  have HW := Qa.mk hsz
  clear hr0_0 hr0_1 hr2 hsz
  go_enter Try.func27, Try.ntmps27
  go_upto_region 1 with (fail)
  generalize ((w.alloc (.cells #[.slice A0_0 l0_0.length c0_0, .slice A0_1 l0_1.length c0_1] 25)).alloc (.cells #[.bool false, .bool false, .bool false] 35)) = W1 at HB HG HR HC0 HC1 HC2 HW ⊢
  have g0 : W1.cell? ⟨w.heap.size, 0, none⟩ = some (.slice A0_0 l0_0.length c0_0) := (Qb HG.out 0).trans rfl
  have g1 : W1.cell? ⟨w.heap.size, 1, none⟩ = some (.slice A0_1 l0_1.length c0_1) := (Qb HG.out 1).trans rfl
  obtain ⟨ad, Ak, ck, e, k0, k1, k2, k3, k4, k5, k6, hlk, hCk⟩ := at_T53 HC1.out a1 p2 p3
  cases e
  have HCk := Qa.mk hCk
  have HLk := Qa.mk hlk
  clear hCk hlk HC1
  replace p2 := eq_true p2
  replace p3 := eq_true p3
  go_upto_region 3 with (fail)
  generalize Qh l0_1 a1 = nd at *
  obtain ⟨gx, hgx⟩ : ∃ gx, gx = W1.heap.size := ⟨_, rfl⟩
  obtain ⟨go, hgo⟩ : ∃ go, go = gx + 1 := ⟨_, rfl⟩
  obtain ⟨gb, hgb⟩ : ∃ gb, gb = w.heap.size := ⟨_, rfl⟩
  obtain ⟨gr, hgr⟩ : ∃ gr, gr = gb + 1 := ⟨_, rfl⟩
  rw [← hgb] at HW HG HR
  rw [← hgr] at HR
  have E2 : Qa (Env11 W1 gx go #[.int .i64 nd.f0, .slice Ak nd.f1.length ck, .int .i64 nd.f2, .int .u64 nd.f3.f0, .int .u64 nd.f3.f1, .int .u64 nd.f3.f2, .int .u64 nd.f3.f3] ((W1.alloc (.cells #[.int .i64 nd.f0, .slice Ak nd.f1.length ck, .int .i64 nd.f2, .int .u64 nd.f3.f0, .int .u64 nd.f3.f1, .int .u64 nd.f3.f2, .int .u64 nd.f3.f3] 53)).alloc (.cells #[.bool false, .bool false, .bool false] 35)) false false false) := ⟨by rw [hgx]; exact Qd (blk_new W1 (.cells #[.int .i64 nd.f0, .slice Ak nd.f1.length ck, .int .i64 nd.f2, .int .u64 nd.f3.f0, .int .u64 nd.f3.f1, .int .u64 nd.f3.f2, .int .u64 nd.f3.f3] 53)) (.cells #[.bool false, .bool false, .bool false] 35), by rw [hgo, hgx]; have := blk_new (W1.alloc (.cells #[.int .i64 nd.f0, .slice Ak nd.f1.length ck, .int .i64 nd.f2, .int .u64 nd.f3.f0, .int .u64 nd.f3.f1, .int .u64 nd.f3.f2, .int .u64 nd.f3.f3] 53)) (.cells #[.bool false, .bool false, .bool false] 35); rw [Ql1] at this; exact this, Qj (Qj (Below.refl _ _) _) _⟩
  have HLT := Qa.mk (show W1.heap.size ≤ go ∧ gx ≠ go ∧ gb < W1.heap.size ∧ gr < W1.heap.size ∧ gr ≠ go by have := HW.out; omega)
  have HGB := Qa.mk hgb
  have HGR := Qa.mk hgr
  rw [← hgx, ← hgb, ← hgr, ← hgo]
  generalize (W1.alloc (.cells #[.int .i64 nd.f0, .slice Ak nd.f1.length ck, .int .i64 nd.f2, .int .u64 nd.f3.f0, .int .u64 nd.f3.f1, .int .u64 nd.f3.f2, .int .u64 nd.f3.f3] 53)).alloc (.cells #[.bool false, .bool false, .bool false] 35) = W2 at E2 ⊢
  clear k0 k1 k2 k3 k4 k5 k6 g0 g1 HW hgx hgo hgb hgr
  have x0 := (Qb E2.out.x 0).trans rfl
  go_upto_block 0 with fail
  go_cut [] (fun wc => ∃ n e f, Qa ((n, e, f) = (r1, r2, r3)) ∧ Qa (Env11 W1 gx go #[.int .i64 nd.f0, .slice Ak nd.f1.length ck, .int .i64 nd.f2, .int .u64 nd.f3.f0, .int .u64 nd.f3.f1, .int .u64 nd.f3.f2, .int .u64 nd.f3.f3] wc n e f))
  case first =>
   clear x0
   have h := H.out
   clear H
   unfold Qx.p at h
   have c0 : ¬ nd.f0 = 0 := by have := hs.out; omega
   rw [if_neg c0] at h
   have b0 : (nd.f0 == 0) = false := beq_eq_false_iff_ne.2 c0
   go_upto_region 6 with (fail)
   clear b0
   have c1 : ¬ nd.f0 = 1 := by have := hs.out; omega
   rw [if_neg c1] at h
   have b1 : (nd.f0 == 1) = false := beq_eq_false_iff_ne.2 c1
   go_upto_region 9 with (fail)
   clear b1
   have c2 : ¬ nd.f0 = 2 := by have := hs.out; omega
   rw [if_neg c2] at h
   have b2 : (nd.f0 == 2) = false := beq_eq_false_iff_ne.2 c2
   go_upto_region 11 with (fail)
   clear b2
   have c3 : ¬ nd.f0 = 3 := by have := hs.out; omega
   rw [if_neg c3] at h
   have b3 : (nd.f0 == 3) = false := beq_eq_false_iff_ne.2 c3
   go_upto_region 28 with (fail)
   clear b3
   have c4 : ¬ nd.f0 = 4 := by have := hs.out; omega
   rw [if_neg c4] at h
   have b4 : (nd.f0 == 4) = false := beq_eq_false_iff_ne.2 c4
   go_upto_region 42 with (fail)
   clear b4
   have c5 : ¬ nd.f0 = 5 := by have := hs.out; omega
   rw [if_neg c5] at h
   have b5 : (nd.f0 == 5) = false := beq_eq_false_iff_ne.2 c5
   go_upto_region 45 with (fail)
   clear b5
   have c6 : ¬ nd.f0 = 6 := by have := hs.out; omega
   rw [if_neg c6] at h
   have b6 : (nd.f0 == 6) = false := beq_eq_false_iff_ne.2 c6
   go_upto_region 49 with (fail)
   clear b6
   have c7 : ¬ nd.f0 = 7 := by have := hs.out; omega
   rw [if_neg c7] at h
   have b7 : (nd.f0 == 7) = false := beq_eq_false_iff_ne.2 c7
   go_upto_region 52 with (fail)
   clear b7
   have c8 : nd.f0 = 8 := by have := hs.out; omega
   rw [if_pos c8] at h
   have b8 : (nd.f0 == 8) = true := beq_iff_eq.2 c8
   have q9 : (0 : Int) < (nd.f1.length : Int) := by have := List.length_pos_iff.2 (HF.out.2.1 (by omega) (by omega)); omega
   obtain ⟨q2, q3⟩ := HF.out.1 (rd nd.f1 0) (rd_memh nd.f1 0 (Int.le_refl 0) q9)
   clear c0 c1 c2 c3 c4 c5 c6 c7 c8
   have HQ2 := Qa.mk q2
   replace q2 := eq_true q2
   have HQ3 := Qa.mk q3
   replace q3 := eq_true q3
   have HQ9 := Qa.mk q9
   replace q9 := eq_true q9
   have q9n : (0 < nd.f1.length) = True := eq_true (by have := HQ9.out; omega)
   obtain ⟨f0, f1, f2, hfx⟩ : ∃ f0 f1 f2, rd_T35 l2 (rd nd.f1 0) = ⟨f0, f1, f2⟩ := ⟨_, _, _, rfl⟩
   rw [hfx] at h
   dsimp only at h
   have HFX := Qa.mk hfx
   clear hfx
   obtain ⟨ad1, e1, y0⟩ := Kd.at_int (Kd.Qw HCk.out E2.out.b) 0 (Int.le_refl 0) HQ9.out
   cases e1
   obtain ⟨ad2, e2, u0, u1, u2⟩ := at_T35 (Kd.Qw HC2.out E2.out.b) (rd nd.f1 0) HQ2.out HQ3.out
   cases e2
   replace y0 : W2.cell? ad1 = some (.int .i64 (rd nd.f1 0)) := by simpa [Addr.add] using y0
   rw [HFX.out] at u0 u1 u2
   dsimp only at u0 u1 u2
   have x0 : W2.cell? ⟨gx, 0, none⟩ = some (.int .i64 nd.f0) := (Qb E2.out.x 0).trans rfl
   have x1 := (Qb E2.out.x 1).trans rfl
   have o0 : W2.cell? ⟨go, 0, none⟩ = some (.bool false) := (Qb E2.out.o 0).trans rfl
   have z0 : W2.frozen? ⟨go, 0, none⟩ = false := Qf E2.out.o 0
   go_upto_region 54 with (
     go_at_call 34
     refine (vetchref11_ok.calls f0 f1 f2 (f0 || f1) _ (by cases f0 <;> rfl)).mono ?_
     rintro e_ V0 ⟨rfl, hb_⟩
     have EV0 := Qa.mk (E2.out.below hb_)
     clear hb_ x0 x1 y0 u0 u1 u2 o0 z0
     have o0 : V0.cell? ⟨go, 0, none⟩ = some (.bool false) := (Qb EV0.out.o 0).trans rfl
     have z0 : V0.frozen? ⟨go, 0, none⟩ = false := Qf EV0.out.o 0)
   have EV1 := Qa.mk ((EV0.out).put0 HLT.out.1 HLT.out.2.1 (f0 || f1))
   generalize V0.setCell ⟨go, 0, none⟩ (.bool (f0 || f1)) = V1 at EV1 ⊢
   clear o0 z0
   obtain ⟨ad1, e1, y0⟩ := Kd.at_int (Kd.Qw HCk.out EV1.out.b) 0 (Int.le_refl 0) HQ9.out
   cases e1
   obtain ⟨ad2, e2, u0, u1, u2⟩ := at_T35 (Kd.Qw HC2.out EV1.out.b) (rd nd.f1 0) HQ2.out HQ3.out
   cases e2
   replace y0 : V1.cell? ad1 = some (.int .i64 (rd nd.f1 0)) := by simpa [Addr.add] using y0
   rw [HFX.out] at u0 u1 u2
   dsimp only at u0 u1 u2
   have x0 : V1.cell? ⟨gx, 0, none⟩ = some (.int .i64 nd.f0) := (Qb EV1.out.x 0).trans rfl
   have x1 := (Qb EV1.out.x 1).trans rfl
   have o2 : V1.cell? ⟨go, 2, none⟩ = some (.bool false) := (Qb EV1.out.o 2).trans rfl
   have z2 : V1.frozen? ⟨go, 2, none⟩ = false := Qf EV1.out.o 2
   go_wp2
   go_meet
   exact ⟨_, _, _, ⟨h⟩, ⟨(EV1.out).put2 HLT.out.1 HLT.out.2.1 f2⟩⟩
  case rest =>
   clear x0
   obtain ⟨n, e, f, HE, E3⟩ := hcut
   obtain ⟨rfl, rfl, rfl⟩ : n = r1 ∧ e = r2 ∧ f = r3 := by simpa using HE.out
   have o0 : wc.cell? ⟨go, 0, none⟩ = some (.bool n) := (Qb E3.out.o 0).trans rfl
   have r0 : wc.cell? ⟨gr, 0, none⟩ = some (.bool false) := (Qb (Qo HR.out E3.out.b) 0).trans rfl
   have z0 : wc.frozen? ⟨gr, 0, none⟩ = false := Qf (Qo HR.out E3.out.b) 0
   have o1 : wc.cell? ⟨go, 1, none⟩ = some (.bool e) := (Qb E3.out.o 1).trans rfl
   have r1 : wc.cell? ⟨gr, 1, none⟩ = some (.bool false) := (Qb (Qo HR.out E3.out.b) 1).trans rfl
   have z1 : wc.frozen? ⟨gr, 1, none⟩ = false := Qf (Qo HR.out E3.out.b) 1
   have o2 : wc.cell? ⟨go, 2, none⟩ = some (.bool f) := (Qb E3.out.o 2).trans rfl
   have r2 : wc.cell? ⟨gr, 2, none⟩ = some (.bool false) := (Qb (Qo HR.out E3.out.b) 2).trans rfl
   have z2 : wc.frozen? ⟨gr, 2, none⟩ = false := Qf (Qo HR.out E3.out.b) 2
   go_wp2
   refine bodyPost_ret (results_cell_row rfl _ _ gr 35 #[.bool n, .bool e, .bool f] (0, 0) _ rfl (blk3 (Qo HR.out E3.out.b) _ _ _) Try.underlying35 rfl (by kernel_rfl)) rfl ⟨rfl, ?_⟩
   exact below3 (Qr HB.out E3.out.b) (by have := HGB.out; have := HGR.out; omega) _ _ _
end Go.Proofs.Ytnaanamibfpbpaa.V
namespace Go.Proofs.Ytnaanamibfpbpaa.V
open Go.RowKit Go.Proofs.YtnaanamibfpbpaaW.PrintWords Go.Proofs.YtnaanamibfpbpaaW.PrintLast Go.Proofs.YtnaanamibfpbpaaW.PrintMore
set_option linter.unusedVariables false
set_option linter.unusedSimpArgs false
attribute [local go_sem high] eq54h
set_option maxHeartbeats 4000000 in
set_option maxRecDepth 100000 in
theorem Qx.calls_s9 (A0_0 : Option Addr) (c0_0 : Nat) (l0_0 : List S39) (A0_1 : Option Addr) (c0_1 : Nat) (l0_1 : List S53) (a1 : Int) (A2 : Option Addr) (c2 : Nat) (l2 : List S35) (r1 r2 r3 : Bool) (w : World)
    (hr0_0 : Kd.C k39 w A0_0 l0_0.length l0_0) (hc0_0 : l0_0.length ≤ c0_0) (hr0_1 : Kd.C k53 w A0_1 l0_1.length l0_1) (hc0_1 : l0_1.length ≤ c0_1) (hr2 : Kd.C k35 w A2 l2.length l2) (hc2 : l2.length ≤ c2)
    (hs : Qa ((Qh l0_1 a1).f0 = 9)) (h : Qx.f l0_0 l0_1 a1 l2 = some (r1, r2, r3)) :
    Calls Try.prog 27 #[.agg #[.slice A0_0 l0_0.length c0_0, .slice A0_1 l0_1.length c0_1], .int .i64 a1, .slice A2 l2.length c2] w fun e w' => e = .returned (.agg #[.bool r1, .bool r2, .bool r3]) ∧ Below w.heap.size w w' := by
  unfold Qx.f at h
  split at h
  case isFalse => exact absurd h (by simp)
  case isTrue hfit =>
  obtain ⟨p2, p3, hfit⟩ := hfit
  have H : Qa (Qx.p l0_0 l2 (Qh l0_1 a1) = (r1, r2, r3)) := ⟨Option.some.inj h⟩
  have HF := Qa.mk hfit
  clear h hfit
  have hu25 := Try.underlying25
  have hu45 := Try.underlying35
  have hu56 := Try.underlying53
  have hu51 := Try.underlying39
  have hu54 := Try.underlying50
  have HB := Qa.mk (Qj (Qj (Below.refl w.heap.size w) (.cells #[.slice A0_0 l0_0.length c0_0, .slice A0_1 l0_1.length c0_1] 25)) (.cells #[.bool false, .bool false, .bool false] 35))
  have HG := Qa.mk (Qd (blk_new w (.cells #[.slice A0_0 l0_0.length c0_0, .slice A0_1 l0_1.length c0_1] 25)) (.cells #[.bool false, .bool false, .bool false] 35))
  have HR := Qa.mk (blk_new (w.alloc (.cells #[.slice A0_0 l0_0.length c0_0, .slice A0_1 l0_1.length c0_1] 25)) (.cells #[.bool false, .bool false, .bool false] 35))
  have hsz : ((w.alloc (.cells #[.slice A0_0 l0_0.length c0_0, .slice A0_1 l0_1.length c0_1] 25)).alloc (.cells #[.bool false, .bool false, .bool false] 35)).heap.size = w.heap.size + 1 + 1 := by rw [Ql1, Ql1]
  rw [Ql1] at HR
  have HC0 := Qa.mk (Kd.Qw hr0_0 HB.out)
  have HC1 := Qa.mk (Kd.Qw hr0_1 HB.out)
  have HC2 := Qa.mk (Kd.Qw hr2 HB.out)
  have HW := Qa.mk hsz
  clear hr0_0 hr0_1 hr2 hsz
  go_enter Try.func27, Try.ntmps27
  go_upto_region 1 with (fail)
  generalize ((w.alloc (.cells #[.slice A0_0 l0_0.length c0_0, .slice A0_1 l0_1.length c0_1] 25)).alloc (.cells #[.bool false, .bool false, .bool false] 35)) = W1 at HB HG HR HC0 HC1 HC2 HW ⊢
  have g0 : W1.cell? ⟨w.heap.size, 0, none⟩ = some (.slice A0_0 l0_0.length c0_0) := (Qb HG.out 0).trans rfl
  have g1 : W1.cell? ⟨w.heap.size, 1, none⟩ = some (.slice A0_1 l0_1.length c0_1) := (Qb HG.out 1).trans rfl
  obtain ⟨ad, Ak, ck, e, k0, k1, k2, k3, k4, k5, k6, hlk, hCk⟩ := at_T53 HC1.out a1 p2 p3
  cases e
  have HCk := Qa.mk hCk
  have HLk := Qa.mk hlk
  clear hCk hlk HC1
  replace p2 := eq_true p2
  replace p3 := eq_true p3
  go_upto_region 3 with (fail)
  generalize Qh l0_1 a1 = nd at *
  obtain ⟨gx, hgx⟩ : ∃ gx, gx = W1.heap.size := ⟨_, rfl⟩
  obtain ⟨go, hgo⟩ : ∃ go, go = gx + 1 := ⟨_, rfl⟩
  obtain ⟨gb, hgb⟩ : ∃ gb, gb = w.heap.size := ⟨_, rfl⟩
  obtain ⟨gr, hgr⟩ : ∃ gr, gr = gb + 1 := ⟨_, rfl⟩
  rw [← hgb] at HW HG HR
  rw [← hgr] at HR
  have E2 : Qa (Env11 W1 gx go #[.int .i64 nd.f0, .slice Ak nd.f1.length ck, .int .i64 nd.f2, .int .u64 nd.f3.f0, .int .u64 nd.f3.f1, .int .u64 nd.f3.f2, .int .u64 nd.f3.f3] ((W1.alloc (.cells #[.int .i64 nd.f0, .slice Ak nd.f1.length ck, .int .i64 nd.f2, .int .u64 nd.f3.f0, .int .u64 nd.f3.f1, .int .u64 nd.f3.f2, .int .u64 nd.f3.f3] 53)).alloc (.cells #[.bool false, .bool false, .bool false] 35)) false false false) := ⟨by rw [hgx]; exact Qd (blk_new W1 (.cells #[.int .i64 nd.f0, .slice Ak nd.f1.length ck, .int .i64 nd.f2, .int .u64 nd.f3.f0, .int .u64 nd.f3.f1, .int .u64 nd.f3.f2, .int .u64 nd.f3.f3] 53)) (.cells #[.bool false, .bool false, .bool false] 35), by rw [hgo, hgx]; have := blk_new (W1.alloc (.cells #[.int .i64 nd.f0, .slice Ak nd.f1.length ck, .int .i64 nd.f2, .int .u64 nd.f3.f0, .int .u64 nd.f3.f1, .int .u64 nd.f3.f2, .int .u64 nd.f3.f3] 53)) (.cells #[.bool false, .bool false, .bool false] 35); rw [Ql1] at this; exact this, Qj (Qj (Below.refl _ _) _) _⟩
  have HLT := Qa.mk (show W1.heap.size ≤ go ∧ gx ≠ go ∧ gb < W1.heap.size ∧ gr < W1.heap.size ∧ gr ≠ go by have := HW.out; omega)
  have HGB := Qa.mk hgb
  have HGR := Qa.mk hgr
  rw [← hgx, ← hgb, ← hgr, ← hgo]
  generalize (W1.alloc (.cells #[.int .i64 nd.f0, .slice Ak nd.f1.length ck, .int .i64 nd.f2, .int .u64 nd.f3.f0, .int .u64 nd.f3.f1, .int .u64 nd.f3.f2, .int .u64 nd.f3.f3] 53)).alloc (.cells #[.bool false, .bool false, .bool false] 35) = W2 at E2 ⊢
  clear k0 k1 k2 k3 k4 k5 k6 g0 g1 HW hgx hgo hgb hgr
  have x0 := (Qb E2.out.x 0).trans rfl
  go_upto_block 0 with fail
  go_cut [] (fun wc => ∃ n e f, Qa ((n, e, f) = (r1, r2, r3)) ∧ Qa (Env11 W1 gx go #[.int .i64 nd.f0, .slice Ak nd.f1.length ck, .int .i64 nd.f2, .int .u64 nd.f3.f0, .int .u64 nd.f3.f1, .int .u64 nd.f3.f2, .int .u64 nd.f3.f3] wc n e f))
  case first =>
   clear x0
   have h := H.out
   clear H
   unfold Qx.p at h
   have c0 : ¬ nd.f0 = 0 := by have := hs.out; omega
   rw [if_neg c0] at h
   have b0 : (nd.f0 == 0) = false := beq_eq_false_iff_ne.2 c0
   go_upto_region 6 with (fail)
   clear b0
   have c1 : ¬ nd.f0 = 1 := by have := hs.out; omega
   rw [if_neg c1] at h
   have b1 : (nd.f0 == 1) = false := beq_eq_false_iff_ne.2 c1
   go_upto_region 9 with (fail)
   clear b1
   have c2 : ¬ nd.f0 = 2 := by have := hs.out; omega
   rw [if_neg c2] at h
   have b2 : (nd.f0 == 2) = false := beq_eq_false_iff_ne.2 c2
   go_upto_region 11 with (fail)
   clear b2
   have c3 : ¬ nd.f0 = 3 := by have := hs.out; omega
   rw [if_neg c3] at h
   have b3 : (nd.f0 == 3) = false := beq_eq_false_iff_ne.2 c3
   go_upto_region 28 with (fail)
   clear b3
   have c4 : ¬ nd.f0 = 4 := by have := hs.out; omega
   rw [if_neg c4] at h
   have b4 : (nd.f0 == 4) = false := beq_eq_false_iff_ne.2 c4
   go_upto_region 42 with (fail)
   clear b4
   have c5 : ¬ nd.f0 = 5 := by have := hs.out; omega
   rw [if_neg c5] at h
   have b5 : (nd.f0 == 5) = false := beq_eq_false_iff_ne.2 c5
   go_upto_region 45 with (fail)
   clear b5
   have c6 : ¬ nd.f0 = 6 := by have := hs.out; omega
   rw [if_neg c6] at h
   have b6 : (nd.f0 == 6) = false := beq_eq_false_iff_ne.2 c6
   go_upto_region 49 with (fail)
   clear b6
   have c7 : ¬ nd.f0 = 7 := by have := hs.out; omega
   rw [if_neg c7] at h
   have b7 : (nd.f0 == 7) = false := beq_eq_false_iff_ne.2 c7
   go_upto_region 52 with (fail)
   clear b7
   have c8 : ¬ nd.f0 = 8 := by have := hs.out; omega
   rw [if_neg c8] at h
   have b8 : (nd.f0 == 8) = false := beq_eq_false_iff_ne.2 c8
   go_upto_region 55 with (fail)
   clear b8
   have c9 : nd.f0 = 9 := by have := hs.out; omega
   rw [if_pos c9] at h
   have b9 : (nd.f0 == 9) = true := beq_iff_eq.2 c9
   have q9 : (0 : Int) < (nd.f1.length : Int) := by have := List.length_pos_iff.2 (HF.out.2.1 (by omega) (by omega)); omega
   obtain ⟨q2, q3⟩ := HF.out.1 (rd nd.f1 0) (rd_memh nd.f1 0 (Int.le_refl 0) q9)
   clear c0 c1 c2 c3 c4 c5 c6 c7 c8 c9
   have HQ2 := Qa.mk q2
   replace q2 := eq_true q2
   have HQ3 := Qa.mk q3
   replace q3 := eq_true q3
   have HQ9 := Qa.mk q9
   replace q9 := eq_true q9
   have q9n : (0 < nd.f1.length) = True := eq_true (by have := HQ9.out; omega)
   obtain ⟨f0, f1, f2, hfx⟩ : ∃ f0 f1 f2, rd_T35 l2 (rd nd.f1 0) = ⟨f0, f1, f2⟩ := ⟨_, _, _, rfl⟩
   rw [hfx] at h
   dsimp only at h
   have HFX := Qa.mk hfx
   clear hfx
   obtain ⟨ad1, e1, y0⟩ := Kd.at_int (Kd.Qw HCk.out E2.out.b) 0 (Int.le_refl 0) HQ9.out
   cases e1
   obtain ⟨ad2, e2, u0, u1, u2⟩ := at_T35 (Kd.Qw HC2.out E2.out.b) (rd nd.f1 0) HQ2.out HQ3.out
   cases e2
   replace y0 : W2.cell? ad1 = some (.int .i64 (rd nd.f1 0)) := by simpa [Addr.add] using y0
   rw [HFX.out] at u0 u1 u2
   dsimp only at u0 u1 u2
   have x0 : W2.cell? ⟨gx, 0, none⟩ = some (.int .i64 nd.f0) := (Qb E2.out.x 0).trans rfl
   have x1 := (Qb E2.out.x 1).trans rfl
   have o0 : W2.cell? ⟨go, 0, none⟩ = some (.bool false) := (Qb E2.out.o 0).trans rfl
   have z0 : W2.frozen? ⟨go, 0, none⟩ = false := Qf E2.out.o 0
   go_upto_region 57 with (fail)
   have EV1 := Qa.mk ((E2.out).put0 HLT.out.1 HLT.out.2.1 f2)
   generalize W2.setCell ⟨go, 0, none⟩ (.bool f2) = V1 at EV1 ⊢
   clear x0 x1 y0 u0 u1 u2 o0 z0
   obtain ⟨ad1, e1, y0⟩ := Kd.at_int (Kd.Qw HCk.out EV1.out.b) 0 (Int.le_refl 0) HQ9.out
   cases e1
   obtain ⟨ad2, e2, u0, u1, u2⟩ := at_T35 (Kd.Qw HC2.out EV1.out.b) (rd nd.f1 0) HQ2.out HQ3.out
   cases e2
   replace y0 : V1.cell? ad1 = some (.int .i64 (rd nd.f1 0)) := by simpa [Addr.add] using y0
   rw [HFX.out] at u0 u1 u2
   dsimp only at u0 u1 u2
   have x0 : V1.cell? ⟨gx, 0, none⟩ = some (.int .i64 nd.f0) := (Qb EV1.out.x 0).trans rfl
   have x1 := (Qb EV1.out.x 1).trans rfl
   have o2 : V1.cell? ⟨go, 2, none⟩ = some (.bool false) := (Qb EV1.out.o 2).trans rfl
   have z2 : V1.frozen? ⟨go, 2, none⟩ = false := Qf EV1.out.o 2
   go_wp2_with (
     go_at_call 34
     refine (vetchref11_ok.calls f0 f1 f2 (f0 || f1) _ (by cases f0 <;> rfl)).mono ?_
     rintro e_ V0 ⟨rfl, hb_⟩
     have EV0 := Qa.mk (EV1.out.below hb_)
     clear hb_ x0 x1 y0 u0 u1 u2 o2 z2
     have o2 : V0.cell? ⟨go, 2, none⟩ = some (.bool false) := (Qb EV0.out.o 2).trans rfl
     have z2 : V0.frozen? ⟨go, 2, none⟩ = false := Qf EV0.out.o 2)
   go_meet
   exact ⟨_, _, _, ⟨h⟩, ⟨(EV0.out).put2 HLT.out.1 HLT.out.2.1 (f0 || f1)⟩⟩
  case rest =>
   clear x0
   obtain ⟨n, e, f, HE, E3⟩ := hcut
   obtain ⟨rfl, rfl, rfl⟩ : n = r1 ∧ e = r2 ∧ f = r3 := by simpa using HE.out
   have o0 : wc.cell? ⟨go, 0, none⟩ = some (.bool n) := (Qb E3.out.o 0).trans rfl
   have r0 : wc.cell? ⟨gr, 0, none⟩ = some (.bool false) := (Qb (Qo HR.out E3.out.b) 0).trans rfl
   have z0 : wc.frozen? ⟨gr, 0, none⟩ = false := Qf (Qo HR.out E3.out.b) 0
   have o1 : wc.cell? ⟨go, 1, none⟩ = some (.bool e) := (Qb E3.out.o 1).trans rfl
   have r1 : wc.cell? ⟨gr, 1, none⟩ = some (.bool false) := (Qb (Qo HR.out E3.out.b) 1).trans rfl
   have z1 : wc.frozen? ⟨gr, 1, none⟩ = false := Qf (Qo HR.out E3.out.b) 1
   have o2 : wc.cell? ⟨go, 2, none⟩ = some (.bool f) := (Qb E3.out.o 2).trans rfl
   have r2 : wc.cell? ⟨gr, 2, none⟩ = some (.bool false) := (Qb (Qo HR.out E3.out.b) 2).trans rfl
   have z2 : wc.frozen? ⟨gr, 2, none⟩ = false := Qf (Qo HR.out E3.out.b) 2
   go_wp2
   refine bodyPost_ret (results_cell_row rfl _ _ gr 35 #[.bool n, .bool e, .bool f] (0, 0) _ rfl (blk3 (Qo HR.out E3.out.b) _ _ _) Try.underlying35 rfl (by kernel_rfl)) rfl ⟨rfl, ?_⟩
   exact below3 (Qr HB.out E3.out.b) (by have := HGB.out; have := HGR.out; omega) _ _ _
end Go.Proofs.Ytnaanamibfpbpaa.V
namespace Go.Proofs.Ytnaanamibfpbpaa.V
open Go.RowKit Go.Proofs.YtnaanamibfpbpaaW.PrintWords
set_option linter.unusedVariables false
theorem Qx.calls (A0_0 : Option Addr) (c0_0 : Nat) (l0_0 : List S39) (A0_1 : Option Addr) (c0_1 : Nat) (l0_1 : List S53) (a1 : Int) (A2 : Option Addr) (c2 : Nat) (l2 : List S35) (r1 r2 r3 : Bool) (w : World)
    (hr0_0 : Kd.C k39 w A0_0 l0_0.length l0_0) (hc0_0 : l0_0.length ≤ c0_0) (hr0_1 : Kd.C k53 w A0_1 l0_1.length l0_1) (hc0_1 : l0_1.length ≤ c0_1) (hr2 : Kd.C k35 w A2 l2.length l2) (hc2 : l2.length ≤ c2)
    (h : Qx.f l0_0 l0_1 a1 l2 = some (r1, r2, r3)) :
    Calls Try.prog 27 #[.agg #[.slice A0_0 l0_0.length c0_0, .slice A0_1 l0_1.length c0_1], .int .i64 a1, .slice A2 l2.length c2] w fun e w' => e = .returned (.agg #[.bool r1, .bool r2, .bool r3]) ∧ Below w.heap.size w w' := by
  by_cases d0 : (Qh l0_1 a1).f0 = 0
  · exact Qx.calls_s0 A0_0 c0_0 l0_0 A0_1 c0_1 l0_1 a1 A2 c2 l2 r1 r2 r3 w hr0_0 hc0_0 hr0_1 hc0_1 hr2 hc2 ⟨d0⟩ h
  by_cases d1 : (Qh l0_1 a1).f0 = 1
  · exact Qx.calls_s1 A0_0 c0_0 l0_0 A0_1 c0_1 l0_1 a1 A2 c2 l2 r1 r2 r3 w hr0_0 hc0_0 hr0_1 hc0_1 hr2 hc2 ⟨d1⟩ h
  by_cases d2 : (Qh l0_1 a1).f0 = 2
  · exact Qx.calls_s2 A0_0 c0_0 l0_0 A0_1 c0_1 l0_1 a1 A2 c2 l2 r1 r2 r3 w hr0_0 hc0_0 hr0_1 hc0_1 hr2 hc2 ⟨d2⟩ h
  by_cases d3 : (Qh l0_1 a1).f0 = 3
  · exact Qx.calls_s3 A0_0 c0_0 l0_0 A0_1 c0_1 l0_1 a1 A2 c2 l2 r1 r2 r3 w hr0_0 hc0_0 hr0_1 hc0_1 hr2 hc2 ⟨d3⟩ h
  by_cases d4 : (Qh l0_1 a1).f0 = 4
  · exact Qx.calls_s4 A0_0 c0_0 l0_0 A0_1 c0_1 l0_1 a1 A2 c2 l2 r1 r2 r3 w hr0_0 hc0_0 hr0_1 hc0_1 hr2 hc2 ⟨d4⟩ h
  by_cases d5 : (Qh l0_1 a1).f0 = 5
  · exact Qx.calls_s5 A0_0 c0_0 l0_0 A0_1 c0_1 l0_1 a1 A2 c2 l2 r1 r2 r3 w hr0_0 hc0_0 hr0_1 hc0_1 hr2 hc2 ⟨d5⟩ h
  by_cases d6 : (Qh l0_1 a1).f0 = 6
  · exact Qx.calls_s6 A0_0 c0_0 l0_0 A0_1 c0_1 l0_1 a1 A2 c2 l2 r1 r2 r3 w hr0_0 hc0_0 hr0_1 hc0_1 hr2 hc2 ⟨d6⟩ h
  by_cases d7 : (Qh l0_1 a1).f0 = 7
  · exact Qx.calls_s7 A0_0 c0_0 l0_0 A0_1 c0_1 l0_1 a1 A2 c2 l2 r1 r2 r3 w hr0_0 hc0_0 hr0_1 hc0_1 hr2 hc2 ⟨d7⟩ h
  by_cases d8 : (Qh l0_1 a1).f0 = 8
  · exact Qx.calls_s8 A0_0 c0_0 l0_0 A0_1 c0_1 l0_1 a1 A2 c2 l2 r1 r2 r3 w hr0_0 hc0_0 hr0_1 hc0_1 hr2 hc2 ⟨d8⟩ h
  by_cases d9 : (Qh l0_1 a1).f0 = 9
  · exact Qx.calls_s9 A0_0 c0_0 l0_0 A0_1 c0_1 l0_1 a1 A2 c2 l2 r1 r2 r3 w hr0_0 hc0_0 hr0_1 hc0_1 hr2 hc2 ⟨d9⟩ h
  exact Qx.calls_sx A0_0 c0_0 l0_0 A0_1 c0_1 l0_1 a1 A2 c2 l2 r1 r2 r3 w hr0_0 hc0_0 hr0_1 hc0_1 hr2 hc2 ⟨by omega⟩ h
end Go.Proofs.Ytnaanamibfpbpaa.V
namespace Go.Proofs.Ytnaanamibfpbpaa.V
open Go.RowKit Go.Proofs.YtnaanamibfpbpaaW.PrintWords Go.Proofs.YtnaanamibfpbpaaW.PrintLast Go.Proofs.YtnaanamibfpbpaaW.PrintMore
attribute [local go_sem] max2_int min2_int max_two min_two max_three min_three max_four min_four tdiv_most
set_option linter.unusedVariables false
set_option linter.unusedSimpArgs false
def Qv1.l0 : Nat → List (S35) → List (S35) → Int → List (S39) → List (S53) → Option ((List (S35)))
 | 0, _, _, _, _, _ => none
 | k + 1, x1, x5, x6, x248000, x248001 => if x6 < (x248001.length : Int) then ((Qx.f x248000 x248001 x6 x1).bind fun bt248 => (if x5.length < 46912496118442 then (Qv1.l0 k x1 (x5 ++ [(⟨bt248.1, bt248.2.1, bt248.2.2⟩ : S35)]) (wrap64 (x6 + 1)) x248000 x248001) else (none))) else (some x5)
def Qv1.f (k : Nat) (l0_0 : List (S39)) (l0_1 : List (S53)) (l1 : List (S35)) : Option ((List (S35))) := Qv1.l0 k l1 ([] : List (S35)) 0 l0_0 l0_1
set_option maxHeartbeats 8000000 in
set_option maxRecDepth 100000 in
theorem Qv1.calls (k : Nat) (A0_0 : Option Addr) (c0_0 : Nat) (l0_0 : List (S39)) (A0_1 : Option Addr) (c0_1 : Nat) (l0_1 : List (S53)) (A1 : Option Addr) (c1 : Nat) (l1 : List (S35)) (r : List (S35)) (w : World) (hr0_0 : Kd.C k39 w A0_0 l0_0.length l0_0) (hc0_0 : l0_0.length ≤ c0_0) (hr0_1 : Kd.C k53 w A0_1 l0_1.length l0_1) (hc0_1 : l0_1.length ≤ c0_1) (hr1 : Kd.C k35 w A1 l1.length l1) (hc1 : l1.length ≤ c1) (h : Qv1.f k l0_0 l0_1 l1 = some r) :
 Calls Try.prog 17 #[.agg #[.slice A0_0 l0_0.length c0_0, .slice A0_1 l0_1.length c0_1], .slice A1 l1.length c1] w fun e w' => ∃ v0_ : Value, e = .returned (v0_) ∧ Kd.R k35 35 w' w.heap.size (fun _ => True) v0_ r ∧ Below w.heap.size w w' := by
 have hu25 := Try.underlying25
 have HR0_0 := Qa.mk hr0_0
 have HC0_0 := Qa.mk hc0_0
 clear hr0_0 hc0_0
 have HR0_1 := Qa.mk hr0_1
 have HC0_1 := Qa.mk hc0_1
 clear hr0_1 hc0_1
 have HR1 := Qa.mk hr1
 have HC1 := Qa.mk hc1
 clear hr1 hc1
 have HB := Qa.mk (Below.refl w.heap.size w)
 have H : (Qv1.l0 k l1 ([] : List (S35)) 0 l0_0 l0_1) = some r := h
 clear h
 have H' := Qa.mk H
 clear H
 go_enter Try.func17, Try.ntmps17
 go_wp2_with (first | ((with_reducible refine Qd1 (N := 2) rfl ?_); refine Qg1 ?hg (N := 2) ?hd (cs := #[.slice A0_0 l0_0.length c0_0, .slice A0_1 l0_1.length c0_1]) (t := 25) ?hr ?_; (case hd => rfl); (case hg => rfl); (case hr => first | (go_simp; done) | (go_simp; rfl)); intro gb247 hg w3 hbox hb; have n0_ := Qa.mk (Qr (by with_reducible repeat (first | exact HB.out | apply Qj | apply Ql | apply Qk)) hb); have n1_ := Qa.mk (hbox); have n2_ := Qa.mk ((by rw [hg]; exact (Qc1 (by with_reducible repeat (first | exact HB.out | apply Qj | apply Ql | apply Qk))) : w.heap.size ≤ gb247)); have n3_ := n2_; clear HB; have HB := n0_; have BK247 := n1_; have GW247 := n2_; have GE247 := n3_; clear n0_ n1_ n2_ n3_; clear hb hbox hg))
 go_loopg [5, 6] k (fun kq v5 v6 w' => ∃ (x5_1 : List (S35)) (x6_1 : Int), v6 = .int .i64 x6_1 ∧ Qa (Qv1.l0 kq l1 x5_1 x6_1 l0_0 l0_1 = some r) ∧ Qa (kq ≤ k) ∧ Qa (Kd.R k35 35 w' w.heap.size (fun _ => True) v5 x5_1) ∧ Qa (w'.heap[gb247]? = some (.cells #[(.slice A0_0 l0_0.length c0_0), (.slice A0_1 l0_1.length c0_1)] 25 (0, 0))) ∧ Qa (Below w.heap.size w w'))
 case atStart => exact ⟨(([] : List (S35))), (0), (by first | rfl | (simp; done) | (simp [*]; done)), H', ⟨Nat.le_refl _⟩, ⟨by first | exact Kd.R_nil _ _ _ _ _ | exact Kd.N_nil _ _ _ _ _ | exact Kd.V_nil _ _ _ _ _ | exact Kd.Q_nil _ _ _ _ _ | exact Kd.S_nil _ _ _ _ _⟩, ⟨by (with_reducible repeat (first | refine Qe ?_ _ | refine Qc ?_ | refine Qd ?_ _)); exact BK247.out⟩, ⟨by with_reducible repeat (first | exact HB.out | apply Qj | apply Ql | apply Qk | refine Qi ?_ GE247.out)⟩⟩
 case round =>
  clear H'
  (try clear c1; try clear p2)
  obtain ⟨x5_1, x6_1, rfl, HA, HK1, HO_5, BK247, HB⟩ := hrel
  cases gk with
  | zero => exact absurd HA.out (by simp [Qv1.l0])
  | succ k1 =>
   have H := HA.out
   clear HA
   simp only [Qv1.l0] at H
   by_cases c4 : x6_1 < (l0_1.length : Int)
   rotate_left
   ·
    rw [if_neg c4] at H
    have c4b0 : decide (x6_1 < (l0_1.length : Int)) = false := decide_eq_false c4
    clear c4
    obtain rfl := Option.some.inj H
    have hcz10_0 : wr.cell? ⟨gb247, 0, none⟩ = some (.slice A0_0 l0_0.length c0_0) := (Qb BK247.out 0).trans rfl
    have hcz10_1 : wr.cell? ⟨gb247, 1, none⟩ = some (.slice A0_1 l0_1.length c0_1) := (Qb BK247.out 1).trans rfl
    have hfz10_0 := Qf BK247.out 0
    have hfz10_1 := Qf BK247.out 1
    go_wp2
    go_ret
    exact ⟨_, by first | rfl | (simp [Qt, Qs] <;> rfl) | (simp [*, Qt, Qs] <;> rfl), by (with_reducible repeat (first | apply Kd.Qz | apply Kd.Qa1 | apply Kd.Qy)); exact HO_5.out, by with_reducible repeat (first | exact HB.out | apply Qj | apply Ql | apply Qk | refine Qi ?_ GE247.out)⟩
   rw [if_pos c4] at H
   have c4b0 : decide (x6_1 < (l0_1.length : Int)) = true := decide_eq_true c4
   clear c4
   replace H := Option.bind_eq_some_iff.mp H
   obtain ⟨⟨t248, t249, t250⟩, A50, H⟩ := H
   replace H : (if x5_1.length < 46912496118442 then (Qv1.l0 k1 l1 (x5_1 ++ [(⟨t248, t249, t250⟩ : S35)]) (wrap64 (x6_1 + 1)) l0_0 l0_1) else (none)) = some r := H
   have A5 := Qa.mk A50
   clear A50
   by_cases c6 : x5_1.length < 46912496118442
   rotate_left
   ·
    rw [if_neg c6] at H
    exact absurd H (by simp)
   rw [if_pos c6] at H
   have LMc6 := Qa.mk c6
   clear c6
   obtain ⟨y251, hy251⟩ : ∃ y_ : List (S35), y_ = (x5_1 ++ [(⟨t248, t249, t250⟩ : S35)]) := ⟨_, rfl⟩
   replace H : (Qv1.l0 k1 l1 y251 (wrap64 (x6_1 + 1)) l0_0 l0_1) = some r := by first | (rw [hy251]; with_reducible exact H) | (have H2_ := (Option.bind_some _ _).symm.trans H; rw [hy251]; with_reducible exact H2_) | (have H2_ := (Option.bind_some _ _).symm.trans H; with_reducible exact H2_) | with_reducible exact H | (rw [hy251]; exact H) | exact H
   have Ny251 := Qa.mk hy251
   clear hy251
   have H' := Qa.mk H
   clear H
   have hcz7_0 : wr.cell? ⟨gb247, 0, none⟩ = some (.slice A0_0 l0_0.length c0_0) := (Qb BK247.out 0).trans rfl
   have hcz7_1 : wr.cell? ⟨gb247, 1, none⟩ = some (.slice A0_1 l0_1.length c0_1) := (Qb BK247.out 1).trans rfl
   have hfz7_0 := Qf BK247.out 0
   have hfz7_1 := Qf BK247.out 1
   go_wp2_with (first | ((with_reducible refine gate_callee (f := 27) rfl ?_); refine goesL_ (some 18) rfl rfl Try.func27 (by kernel_rfl) rfl #[.agg #[.slice A0_0 l0_0.length c0_0, .slice A0_1 l0_1.length c0_1], .int .i64 x6_1, .slice A1 l1.length c1] rfl (by (try simp only [List.map_toArray, List.map_cons, List.map_nil]); first | done | rfl | (simp only [List.length_drop, List.length_take]; rfl)) ?_; (with_reducible refine (Qx.calls _ _ l0_0 _ _ l0_1 x6_1 _ _ l1 t248 t249 t250 _ ?side1 ?side2 ?side3 ?side4 ?side5 ?side6 A5.out).mono ?_); (case side1 => repeat (first | exact (Kd.Qw HR0_0.out HB.out) | (with_reducible refine Kd.Qf1 ?_ _) | (with_reducible refine Kd.Qe1 ?_ _) | (with_reducible refine Kd.C_drew ?_))); (case side2 => exact HC0_0.out); (case side3 => repeat (first | exact (Kd.Qw HR0_1.out HB.out) | (with_reducible refine Kd.Qf1 ?_ _) | (with_reducible refine Kd.Qe1 ?_ _) | (with_reducible refine Kd.C_drew ?_))); (case side4 => exact HC0_1.out); (case side5 => repeat (first | exact (Kd.Qw HR1.out HB.out) | (with_reducible refine Kd.Qf1 ?_ _) | (with_reducible refine Kd.Qe1 ?_ _) | (with_reducible refine Kd.C_drew ?_))); (case side6 => exact HC1.out); rintro e w8 ⟨rfl, hb⟩; refine ⟨_, rfl, ?_⟩; have n0_ := Qa.mk (Kd.Qh1 (by (with_reducible repeat (first | apply Kd.Qz | apply Kd.Qa1 | apply Kd.Qy)); exact HO_5.out) hb); have n1_ := Qa.mk (Qo (g := gb247) (o := .cells #[.slice A0_0 l0_0.length c0_0, .slice A0_1 l0_1.length c0_1] 25 (0, 0)) (by (with_reducible repeat (first | refine Qe ?_ _ | refine Qc ?_ | refine Qd ?_ _)); exact BK247.out) hb); have n2_ := Qa.mk (Qr (by with_reducible repeat (first | exact HB.out | apply Qj | apply Ql | apply Qk | refine Qi ?_ GE247.out)) hb); clear HO_5; clear BK247; clear HB; have HO_5 := n0_; have BK247 := n1_; have HB := n2_; clear n0_ n1_ n2_; (try clear hb); (try clear hb2); (try clear hk); (try clear hi)) | ((with_reducible refine gate_builtin (b := .append) (xs := #[.tmp 14, .tmp 19]) rfl ?_); at_builtin; refine Kd.R_append k35 (w0 := w) w.heap.size rfl (.tmp 14) (.tmp 19) 28 35 (.agg #[(.bool false), (.bool false), (.bool false)]) 3 rfl Try.underlying28 info35 rfl (by decide) (by omega) u5 x5_1 (⟨t248, t249, t250⟩ : S35) [.bool t248, .bool t249, .bool t250] (fun _ => True) (fun _ => False) rfl rfl ?aP (fun _ hk => hk.elim) ?aF ?aO ?aB ?aS ?aL ?_; (case aP => exact k35_mkM _ _ _ (⟨t248, t249, t250⟩ : S35)); (case aB => exact (by with_reducible repeat (first | exact HB.out | apply Qj | apply Ql | apply Qk | refine Qi ?_ GE247.out))); (case aF => exact (fun _ _ => trivial)); (case aO => exact (by (with_reducible repeat (first | apply Kd.Qz | apply Kd.Qa1 | apply Kd.Qy)); exact HO_5.out)); (case aS => exact (Qc1 (by with_reducible repeat (first | exact HB.out | apply Qj | apply Ql | apply Qk | refine Qi ?_ GE247.out)))); (case aL => have := LMc6.out; omega); intro v252 w9 ho hb hg hat; rw [← Ny251.out] at ho; have n0_ := Qa.mk (blk_grown (g := gb247) (o := .cells #[.slice A0_0 l0_0.length c0_0, .slice A0_1 l0_1.length c0_1] 25 (0, 0)) (by (with_reducible repeat (first | refine Qe ?_ _ | refine Qc ?_ | refine Qd ?_ _)); exact BK247.out) hg (Kd.R_ne HO_5.out BK247.out (by decide))); have n1_ := Qa.mk (hb); have n2_ := Qa.mk (ho); clear BK247; clear HB; clear HO_5; have BK247 := n0_; have HB := n1_; have HO253 := n2_; clear n0_ n1_ n2_; clear ho hb hg hat))
   go_roundg k1
   case measure => have := HK1.out; omega
   case rel => exact ⟨(y251), (wrap64 (x6_1 + 1)), (by first | rfl | (simp; done) | (simp [*]; done)), H', ⟨by have := HK1.out; omega⟩, ⟨by (with_reducible repeat (first | apply Kd.Qz | apply Kd.Qa1 | apply Kd.Qy)); exact HO253.out⟩, ⟨by (with_reducible repeat (first | refine Qe ?_ _ | refine Qc ?_ | refine Qd ?_ _)); exact BK247.out⟩, ⟨by with_reducible repeat (first | exact HB.out | apply Qj | apply Ql | apply Qk | refine Qi ?_ GE247.out)⟩⟩
def Qr1.l0 : Nat → List (S35) → List (S39) → List (S53) → Option ((List (S35)))
 | 0, _, _, _ => none
 | k + 1, x3, x255000, x255001 => (Qv1.f k x255000 x255001 x3).bind fun t258 => ((Qq1.f k x3 t258).bind fun t261 => (if t261 = true then (some x3) else (Qr1.l0 k t258 x255000 x255001)))
def Qr1.f (k : Nat) (l0_0 : List (S39)) (l0_1 : List (S53)) : Option ((List (S35))) := if 0 ≤ (l0_1.length : Int) then (if ((l0_1.length : Int) : Int).toNat ≤ 93824992236885 then (Qr1.l0 k (List.replicate ((l0_1.length : Int) : Int).toNat z35) l0_0 l0_1) else (none)) else (none)
set_option maxHeartbeats 8000000 in
set_option maxRecDepth 100000 in
theorem Qr1.calls (k : Nat) (A0_0 : Option Addr) (c0_0 : Nat) (l0_0 : List (S39)) (A0_1 : Option Addr) (c0_1 : Nat) (l0_1 : List (S53)) (r : List (S35)) (w : World) (hr0_0 : Kd.C k39 w A0_0 l0_0.length l0_0) (hc0_0 : l0_0.length ≤ c0_0) (hr0_1 : Kd.C k53 w A0_1 l0_1.length l0_1) (hc0_1 : l0_1.length ≤ c0_1) (h : Qr1.f k l0_0 l0_1 = some r) :
 Calls Try.prog 10 #[.agg #[.slice A0_0 l0_0.length c0_0, .slice A0_1 l0_1.length c0_1]] w fun e w' => ∃ v0_ : Value, e = .returned (v0_) ∧ Kd.R k35 35 w' w.heap.size (fun _ => True) v0_ r ∧ Below w.heap.size w w' := by
 have hu25 := Try.underlying25
 have HR0_0 := Qa.mk hr0_0
 have HC0_0 := Qa.mk hc0_0
 clear hr0_0 hc0_0
 have HR0_1 := Qa.mk hr0_1
 have HC0_1 := Qa.mk hc0_1
 clear hr0_1 hc0_1
 have HB := Qa.mk (Below.refl w.heap.size w)
 have H : (if 0 ≤ (l0_1.length : Int) then (if ((l0_1.length : Int) : Int).toNat ≤ 93824992236885 then (Qr1.l0 k (List.replicate ((l0_1.length : Int) : Int).toNat z35) l0_0 l0_1) else (none)) else (none)) = some r := h
 clear h
 by_cases c2 : 0 ≤ (l0_1.length : Int)
 rotate_left
 ·
  rw [if_neg c2] at H
  exact absurd H (by simp)
 rw [if_pos c2] at H
 have c2b0 := eq_true c2
 have c2b1 : decide (0 ≤ (l0_1.length : Int)) = true := decide_eq_true c2
 clear c2
 by_cases c3 : ((l0_1.length : Int) : Int).toNat ≤ 93824992236885
 rotate_left
 ·
  rw [if_neg c3] at H
  exact absurd H (by simp)
 rw [if_pos c3] at H
 have c3b0 := eq_true c3
 have c3b1 : decide (((l0_1.length : Int) : Int).toNat ≤ 93824992236885) = true := decide_eq_true c3
 clear c3
 obtain ⟨y255, hy255⟩ : ∃ y_ : List (S35), y_ = (List.replicate ((l0_1.length : Int) : Int).toNat z35) := ⟨_, rfl⟩
 replace H : (Qr1.l0 k y255 l0_0 l0_1) = some r := by first | (rw [hy255]; with_reducible exact H) | (have H2_ := (Option.bind_some _ _).symm.trans H; rw [hy255]; with_reducible exact H2_) | (have H2_ := (Option.bind_some _ _).symm.trans H; with_reducible exact H2_) | with_reducible exact H | (rw [hy255]; exact H) | exact H
 have Ny255 := Qa.mk hy255
 clear hy255
 have H' := Qa.mk H
 clear H
 go_enter Try.func10, Try.ntmps10
 go_wp2_with (first | ((with_reducible refine Qd1 (N := 1) rfl ?_); refine Qg1 ?hg (N := 1) ?hd (cs := #[.slice A0_0 l0_0.length c0_0, .slice A0_1 l0_1.length c0_1]) (t := 25) ?hr ?_; (case hd => rfl); (case hg => rfl); (case hr => first | (go_simp; done) | (go_simp; rfl)); intro gb254 hg w4 hbox hb; have n0_ := Qa.mk (Qr (by with_reducible repeat (first | exact HB.out | apply Qj | apply Ql | apply Qk)) hb); have n1_ := Qa.mk (hbox); have n2_ := Qa.mk ((by rw [hg]; exact (Qc1 (by with_reducible repeat (first | exact HB.out | apply Qj | apply Ql | apply Qk))) : w.heap.size ≤ gb254)); have n3_ := n2_; clear HB; have HB := n0_; have BK254 := n1_; have GW254 := n2_; have GE254 := n3_; clear n0_ n1_ n2_ n3_; clear hb hbox hg; have hcz5_0 : w4.cell? ⟨gb254, 0, none⟩ = some (.slice A0_0 l0_0.length c0_0) := (Qb BK254.out 0).trans rfl; have hcz5_1 : w4.cell? ⟨gb254, 1, none⟩ = some (.slice A0_1 l0_1.length c0_1) := (Qb BK254.out 1).trans rfl; have hfz5_0 := Qf BK254.out 0; have hfz5_1 := Qf BK254.out 1) | ((with_reducible refine Qd1 (N := 8) rfl ?_); refine Kd.R_make k35 _ 35 rfl (N := 8) rfl 28 _ _ rfl (l0_1.length : Int) rfl rfl Try.underlying28 (.agg #[(.bool false), (.bool false), (.bool false)]) 3 info35 rfl (by decide) (by omega) z35 (ok := fun _ => True) (okp := fun _ => True) (k35_mkM _ _ _ z35 ) (fun _ hk => hk) trivial (of_decide_eq_true (by assumption)) (Nat.le_trans (Nat.mul_le_mul_right _ (of_decide_eq_true (by assumption) : (l0_1.length : Int).toNat ≤ 93824992236885)) (by omega)) (Below.refl _ _) (Nat.le_refl _) ?_; intro v256 w6 ho7 hb hg_ hnew_; clear hg_ hnew_; (first | rw [← Ny255.out] at ho7 | (simp only [Int.reduceToNat] at ho7; rw [← Ny255.out] at ho7)); have n0_ := Qa.mk (Kd.R_lower ho7 (Qc1 (by with_reducible repeat (first | exact HB.out | apply Qj | apply Ql | apply Qk | refine Qi ?_ GE254.out)))); have n1_ := Qa.mk (Qo (g := gb254) (o := .cells #[.slice A0_0 l0_0.length c0_0, .slice A0_1 l0_1.length c0_1] 25 (0, 0)) (by (with_reducible repeat (first | refine Qe ?_ _ | refine Qc ?_ | refine Qd ?_ _)); exact BK254.out) hb); have n2_ := Qa.mk (Qr (by with_reducible repeat (first | exact HB.out | apply Qj | apply Ql | apply Qk | refine Qi ?_ GE254.out)) hb); clear BK254; clear HB; have HO257 := n0_; have BK254 := n1_; have HB := n2_; clear n0_ n1_ n2_; clear hb ho7))
 go_loopg [3] k (fun kq v3 w' => ∃ (x3_1 : List (S35)), Qa (Qr1.l0 kq x3_1 l0_0 l0_1 = some r) ∧ Qa (kq ≤ k) ∧ Qa (Kd.R k35 35 w' w.heap.size (fun _ => True) v3 x3_1) ∧ Qa (w'.heap[gb254]? = some (.cells #[(.slice A0_0 l0_0.length c0_0), (.slice A0_1 l0_1.length c0_1)] 25 (0, 0))) ∧ Qa (Below w.heap.size w w'))
 case atStart => exact ⟨(y255), H', ⟨Nat.le_refl _⟩, ⟨by (with_reducible repeat (first | apply Kd.Qz | apply Kd.Qa1 | apply Kd.Qy)); exact HO257.out⟩, ⟨by (with_reducible repeat (first | refine Qe ?_ _ | refine Qc ?_ | refine Qd ?_ _)); exact BK254.out⟩, ⟨by with_reducible repeat (first | exact HB.out | apply Qj | apply Ql | apply Qk | refine Qi ?_ GE254.out)⟩⟩
 case round =>
  clear H'
  (try clear c1; try clear c2; try clear c2b0; try clear c2b1; try clear p2; try clear c3; try clear c3b0; try clear c3b1; try clear hcz5_0; try clear hcz5_1; try clear hfz5_0; try clear hfz5_1)
  obtain ⟨x3_1, HA, HK1, HO_3, BK254, HB⟩ := hrel
  cases gk with
  | zero => exact absurd HA.out (by simp [Qr1.l0])
  | succ k1 =>
   have H := HA.out
   clear HA
   simp only [Qr1.l0] at H
   replace H := Option.bind_eq_some_iff.mp H
   obtain ⟨t258, A80, H⟩ := H
   replace H : ((Qq1.f k1 x3_1 t258).bind fun t261 => (if t261 = true then (some x3_1) else (Qr1.l0 k1 t258 l0_0 l0_1))) = some r := H
   have A8 := Qa.mk A80
   clear A80
   replace H := Option.bind_eq_some_iff.mp H
   obtain ⟨t261, A90, H⟩ := H
   replace H : (if t261 = true then (some x3_1) else (Qr1.l0 k1 t258 l0_0 l0_1)) = some r := H
   have A9 := Qa.mk A90
   clear A90
   by_cases c10 : t261 = true
   ·
    subst c10
    have H1 : (some x3_1) = some r := by rw [if_pos rfl] at H; exact H
    clear H
    have H := H1
    clear H1
    obtain rfl := Option.some.inj H
    have hcz11_0 : wr.cell? ⟨gb254, 0, none⟩ = some (.slice A0_0 l0_0.length c0_0) := (Qb BK254.out 0).trans rfl
    have hcz11_1 : wr.cell? ⟨gb254, 1, none⟩ = some (.slice A0_1 l0_1.length c0_1) := (Qb BK254.out 1).trans rfl
    have hfz11_0 := Qf BK254.out 0
    have hfz11_1 := Qf BK254.out 1
    obtain ⟨Ao12, co12, eo12⟩ := Kd.R_slice HO_3.out
    subst eo12
    go_wp2_with (first | ((with_reducible refine gate_callee (f := 17) rfl ?_); refine goesL_ (some 11) rfl rfl Try.func17 (by kernel_rfl) rfl #[.agg #[.slice A0_0 l0_0.length c0_0, .slice A0_1 l0_1.length c0_1], .slice Ao12 x3_1.length co12] rfl (by (try simp only [List.map_toArray, List.map_cons, List.map_nil]); first | done | rfl | (simp only [List.length_drop, List.length_take]; rfl)) ?_; (with_reducible refine (Qv1.calls k1 _ _ l0_0 _ _ l0_1 _ _ x3_1 t258 _ ?side1 ?side2 ?side3 ?side4 ?side5 ?side6 A8.out).mono ?_); (case side1 => repeat (first | exact (Kd.Qw HR0_0.out HB.out) | (with_reducible refine Kd.Qf1 ?_ _) | (with_reducible refine Kd.Qe1 ?_ _) | (with_reducible refine Kd.C_drew ?_))); (case side2 => exact HC0_0.out); (case side3 => repeat (first | exact (Kd.Qw HR0_1.out HB.out) | (with_reducible refine Kd.Qf1 ?_ _) | (with_reducible refine Kd.Qe1 ?_ _) | (with_reducible refine Kd.C_drew ?_))); (case side4 => exact HC0_1.out); (case side5 => repeat (first | exact (Kd.R_reads' HO_3.out).2.2 | (with_reducible refine Kd.Qf1 ?_ _) | (with_reducible refine Kd.Qe1 ?_ _) | (with_reducible refine Kd.C_drew ?_))); (case side6 => exact (Kd.R_reads' HO_3.out).2.1); rintro e w13 ⟨v259, rfl, ho0, hb⟩; refine ⟨_, rfl, ?_⟩; have n0_ := Qa.mk (Kd.R_elder' (by (with_reducible repeat (first | apply Kd.Qz | apply Kd.Qa1 | apply Kd.Qy)); exact HO_3.out) (Kd.R_base ho0) hb); have n1_ := Qa.mk (Kd.R_lower (Kd.R_new' ho0 (Kd.R_lt (by (with_reducible repeat (first | apply Kd.Qz | apply Kd.Qa1 | apply Kd.Qy)); exact HO_3.out))) (Qc1 (by with_reducible repeat (first | exact HB.out | apply Qj | apply Ql | apply Qk | refine Qi ?_ GE254.out)))); have n2_ := Qa.mk (Qo (g := gb254) (o := .cells #[.slice A0_0 l0_0.length c0_0, .slice A0_1 l0_1.length c0_1] 25 (0, 0)) (by (with_reducible repeat (first | refine Qe ?_ _ | refine Qc ?_ | refine Qd ?_ _)); exact BK254.out) hb); have n3_ := Qa.mk (Qr (by with_reducible repeat (first | exact HB.out | apply Qj | apply Ql | apply Qk | refine Qi ?_ GE254.out)) hb); clear HO_3; clear BK254; clear HB; have HO_3 := n0_; have HO260 := n1_; have BK254 := n2_; have HB := n3_; clear n0_ n1_ n2_ n3_; (try clear hb); (try clear hb2); (try clear hk); (try clear hi); (try clear ho0); obtain ⟨Ao14, co14, eo14⟩ := Kd.R_slice HO260.out; subst eo14) | ((with_reducible refine gate_callee (f := 11) rfl ?_); refine goesL_ (some 14) rfl rfl Try.func11 (by kernel_rfl) rfl #[.slice Ao12 x3_1.length co12, .slice Ao14 t258.length co14] rfl (by (try simp only [List.map_toArray, List.map_cons, List.map_nil]); first | done | rfl | (simp only [List.length_drop, List.length_take]; rfl)) ?_; (with_reducible refine (Qq1.calls k1 _ _ x3_1 _ _ t258 true _ ?side1 ?side2 ?side3 ?side4 A9.out).mono ?_); (case side1 => repeat (first | exact (Kd.R_reads' HO_3.out).2.2 | (with_reducible refine Kd.Qf1 ?_ _) | (with_reducible refine Kd.Qe1 ?_ _) | (with_reducible refine Kd.C_drew ?_))); (case side2 => exact (Kd.R_reads' HO_3.out).2.1); (case side3 => repeat (first | exact (Kd.R_reads' HO260.out).2.2 | (with_reducible refine Kd.Qf1 ?_ _) | (with_reducible refine Kd.Qe1 ?_ _) | (with_reducible refine Kd.C_drew ?_))); (case side4 => exact (Kd.R_reads' HO260.out).2.1); rintro e w' ⟨rfl, ⟨nd, rfl⟩⟩; refine ⟨_, rfl, ?_⟩))
    go_ret
    exact ⟨_, by first | rfl | (simp [Qt, Qs] <;> rfl) | (simp [*, Qt, Qs] <;> rfl), by (with_reducible repeat (first | apply Kd.Qz | apply Kd.Qa1 | apply Kd.Qy)); exact Kd.R_mono HO_3.out (fun _ hk => trivial), by with_reducible repeat (first | exact HB.out | apply Qj | apply Ql | apply Qk | refine Qi ?_ GE254.out)⟩
   replace c10 := Bool.eq_false_iff.mpr c10
   subst c10
   have H1 : (Qr1.l0 k1 t258 l0_0 l0_1) = some r := by rw [if_neg (show ¬ (false = true) by decide)] at H; exact H
   clear H
   have H := H1
   clear H1
   have H' := Qa.mk H
   clear H
   have hcz15_0 : wr.cell? ⟨gb254, 0, none⟩ = some (.slice A0_0 l0_0.length c0_0) := (Qb BK254.out 0).trans rfl
   have hcz15_1 : wr.cell? ⟨gb254, 1, none⟩ = some (.slice A0_1 l0_1.length c0_1) := (Qb BK254.out 1).trans rfl
   have hfz15_0 := Qf BK254.out 0
   have hfz15_1 := Qf BK254.out 1
   obtain ⟨Ao16, co16, eo16⟩ := Kd.R_slice HO_3.out
   subst eo16
   go_wp2_with (first | ((with_reducible refine gate_callee (f := 17) rfl ?_); refine goesL_ (some 11) rfl rfl Try.func17 (by kernel_rfl) rfl #[.agg #[.slice A0_0 l0_0.length c0_0, .slice A0_1 l0_1.length c0_1], .slice Ao16 x3_1.length co16] rfl (by (try simp only [List.map_toArray, List.map_cons, List.map_nil]); first | done | rfl | (simp only [List.length_drop, List.length_take]; rfl)) ?_; (with_reducible refine (Qv1.calls k1 _ _ l0_0 _ _ l0_1 _ _ x3_1 t258 _ ?side1 ?side2 ?side3 ?side4 ?side5 ?side6 A8.out).mono ?_); (case side1 => repeat (first | exact (Kd.Qw HR0_0.out HB.out) | (with_reducible refine Kd.Qf1 ?_ _) | (with_reducible refine Kd.Qe1 ?_ _) | (with_reducible refine Kd.C_drew ?_))); (case side2 => exact HC0_0.out); (case side3 => repeat (first | exact (Kd.Qw HR0_1.out HB.out) | (with_reducible refine Kd.Qf1 ?_ _) | (with_reducible refine Kd.Qe1 ?_ _) | (with_reducible refine Kd.C_drew ?_))); (case side4 => exact HC0_1.out); (case side5 => repeat (first | exact (Kd.R_reads' HO_3.out).2.2 | (with_reducible refine Kd.Qf1 ?_ _) | (with_reducible refine Kd.Qe1 ?_ _) | (with_reducible refine Kd.C_drew ?_))); (case side6 => exact (Kd.R_reads' HO_3.out).2.1); rintro e w17 ⟨v259, rfl, ho0, hb⟩; refine ⟨_, rfl, ?_⟩; have n0_ := Qa.mk (Kd.R_elder' (by (with_reducible repeat (first | apply Kd.Qz | apply Kd.Qa1 | apply Kd.Qy)); exact HO_3.out) (Kd.R_base ho0) hb); have n1_ := Qa.mk (Kd.R_lower (Kd.R_new' ho0 (Kd.R_lt (by (with_reducible repeat (first | apply Kd.Qz | apply Kd.Qa1 | apply Kd.Qy)); exact HO_3.out))) (Qc1 (by with_reducible repeat (first | exact HB.out | apply Qj | apply Ql | apply Qk | refine Qi ?_ GE254.out)))); have n2_ := Qa.mk (Qo (g := gb254) (o := .cells #[.slice A0_0 l0_0.length c0_0, .slice A0_1 l0_1.length c0_1] 25 (0, 0)) (by (with_reducible repeat (first | refine Qe ?_ _ | refine Qc ?_ | refine Qd ?_ _)); exact BK254.out) hb); have n3_ := Qa.mk (Qr (by with_reducible repeat (first | exact HB.out | apply Qj | apply Ql | apply Qk | refine Qi ?_ GE254.out)) hb); clear HO_3; clear BK254; clear HB; have HO_3 := n0_; have HO260 := n1_; have BK254 := n2_; have HB := n3_; clear n0_ n1_ n2_ n3_; (try clear hb); (try clear hb2); (try clear hk); (try clear hi); (try clear ho0); obtain ⟨Ao18, co18, eo18⟩ := Kd.R_slice HO260.out; subst eo18) | ((with_reducible refine gate_callee (f := 11) rfl ?_); refine goesL_ (some 14) rfl rfl Try.func11 (by kernel_rfl) rfl #[.slice Ao16 x3_1.length co16, .slice Ao18 t258.length co18] rfl (by (try simp only [List.map_toArray, List.map_cons, List.map_nil]); first | done | rfl | (simp only [List.length_drop, List.length_take]; rfl)) ?_; (with_reducible refine (Qq1.calls k1 _ _ x3_1 _ _ t258 false _ ?side1 ?side2 ?side3 ?side4 A9.out).mono ?_); (case side1 => repeat (first | exact (Kd.R_reads' HO_3.out).2.2 | (with_reducible refine Kd.Qf1 ?_ _) | (with_reducible refine Kd.Qe1 ?_ _) | (with_reducible refine Kd.C_drew ?_))); (case side2 => exact (Kd.R_reads' HO_3.out).2.1); (case side3 => repeat (first | exact (Kd.R_reads' HO260.out).2.2 | (with_reducible refine Kd.Qf1 ?_ _) | (with_reducible refine Kd.Qe1 ?_ _) | (with_reducible refine Kd.C_drew ?_))); (case side4 => exact (Kd.R_reads' HO260.out).2.1); rintro e w' ⟨rfl, ⟨nd, rfl⟩⟩; refine ⟨_, rfl, ?_⟩))
   go_roundg k1
   case measure => have := HK1.out; omega
   case rel => exact ⟨(t258), H', ⟨by have := HK1.out; omega⟩, ⟨by (with_reducible repeat (first | apply Kd.Qz | apply Kd.Qa1 | apply Kd.Qy)); exact Kd.R_mono HO260.out (fun _ hk => trivial)⟩, ⟨by (with_reducible repeat (first | refine Qe ?_ _ | refine Qc ?_ | refine Qd ?_ _)); exact BK254.out⟩, ⟨by with_reducible repeat (first | exact HB.out | apply Qj | apply Ql | apply Qk | refine Qi ?_ GE254.out)⟩⟩
def Qt1.l0 : Nat → List (S36) → List (S35) → Int → Option ((List (S35)))
 | 0, _, _, _ => none
 | k + 1, x0, x3, x4 => if x4 < (x0.length : Int) then (if 0 ≤ x4 then (if x3.length < 46912496118442 then (Qt1.l0 k x0 (x3 ++ [(⟨(Qg x0 x4).f0, (Qg x0 x4).f1, (Qg x0 x4).f2⟩ : S35)]) (wrap64 (x4 + 1))) else (none)) else (none)) else (some x3)
def Qt1.f (k : Nat) (l0 : List (S36)) : Option ((List (S35))) := Qt1.l0 k l0 ([] : List (S35)) 0
set_option maxHeartbeats 8000000 in
set_option maxRecDepth 100000 in
theorem Qt1.calls (k : Nat) (A0 : Option Addr) (c0 : Nat) (l0 : List (S36)) (r : List (S35)) (w : World) (hr0 : Kd.C k36 w A0 l0.length l0) (hc0 : l0.length ≤ c0) (h : Qt1.f k l0 = some r) :
 Calls Try.prog 12 #[.slice A0 l0.length c0] w fun e w' => ∃ v0_ : Value, e = .returned (v0_) ∧ Kd.R k35 35 w' w.heap.size (fun _ => True) v0_ r ∧ Below w.heap.size w w' := by
 have hu36 := Try.underlying36
 have HR0 := Qa.mk hr0
 have HC0 := Qa.mk hc0
 clear hr0 hc0
 have HB := Qa.mk (Below.refl w.heap.size w)
 have H : (Qt1.l0 k l0 ([] : List (S35)) 0) = some r := h
 clear h
 have H' := Qa.mk H
 clear H
 go_enter Try.func12, Try.ntmps12
 go_wp2
 go_loopg [3, 4] k (fun kq v3 v4 w' => ∃ (x3_1 : List (S35)) (x4_1 : Int), v4 = .int .i64 x4_1 ∧ Qa (Qt1.l0 kq l0 x3_1 x4_1 = some r) ∧ Qa (kq ≤ k) ∧ Qa (Kd.R k35 35 w' w.heap.size (fun _ => True) v3 x3_1) ∧ Qa (Below w.heap.size w w'))
 case atStart => exact ⟨(([] : List (S35))), (0), (by first | rfl | (simp; done) | (simp [*]; done)), H', ⟨Nat.le_refl _⟩, ⟨by first | exact Kd.R_nil _ _ _ _ _ | exact Kd.N_nil _ _ _ _ _ | exact Kd.V_nil _ _ _ _ _ | exact Kd.Q_nil _ _ _ _ _ | exact Kd.S_nil _ _ _ _ _⟩, ⟨by with_reducible repeat (first | exact HB.out | apply Qj | apply Ql | apply Qk)⟩⟩
 case round =>
  clear H'
  try clear c1
  obtain ⟨x3_1, x4_1, rfl, HA, HK1, HO_3, HB⟩ := hrel
  cases gk with
  | zero => exact absurd HA.out (by simp [Qt1.l0])
  | succ k1 =>
   have H := HA.out
   clear HA
   simp only [Qt1.l0] at H
   by_cases c2 : x4_1 < (l0.length : Int)
   rotate_left
   ·
    rw [if_neg c2] at H
    have c2b0 : decide (x4_1 < (l0.length : Int)) = false := decide_eq_false c2
    clear c2
    obtain rfl := Option.some.inj H
    go_wp2
    go_ret
    exact ⟨_, by first | rfl | (simp [Qt, Qs] <;> rfl) | (simp [*, Qt, Qs] <;> rfl), by (with_reducible repeat (first | apply Kd.Qz | apply Kd.Qa1 | apply Kd.Qy)); exact HO_3.out, by with_reducible repeat (first | exact HB.out | apply Qj | apply Ql | apply Qk)⟩
   rw [if_pos c2] at H
   have c2b0 : decide (x4_1 < (l0.length : Int)) = true := decide_eq_true c2
   clear c2
   by_cases c3 : 0 ≤ x4_1
   rotate_left
   ·
    rw [if_neg c3] at H
    exact absurd H (by simp)
   rw [if_pos c3] at H
   have c3b0 : decide (0 ≤ x4_1) = true := decide_eq_true c3
   clear c3
   by_cases c4 : x3_1.length < 46912496118442
   rotate_left
   ·
    rw [if_neg c4] at H
    exact absurd H (by simp)
   rw [if_pos c4] at H
   have LMc4 := Qa.mk c4
   clear c4
   obtain ⟨y263, hy263⟩ : ∃ y_ : List (S35), y_ = (x3_1 ++ [(⟨(Qg l0 x4_1).f0, (Qg l0 x4_1).f1, (Qg l0 x4_1).f2⟩ : S35)]) := ⟨_, rfl⟩
   replace H : (Qt1.l0 k1 l0 y263 (wrap64 (x4_1 + 1))) = some r := by first | (rw [hy263]; with_reducible exact H) | (have H2_ := (Option.bind_some _ _).symm.trans H; rw [hy263]; with_reducible exact H2_) | (have H2_ := (Option.bind_some _ _).symm.trans H; with_reducible exact H2_) | with_reducible exact H | (rw [hy263]; exact H) | exact H
   have Ny263 := Qa.mk hy263
   clear hy263
   have H' := Qa.mk H
   clear H
   have p262 : 0 ≤ (x4_1 : Int) := of_decide_eq_true (by assumption)
   have q262 : x4_1 < (l0.length : Int) := of_decide_eq_true (by assumption)
   obtain ⟨ad262, e262, hx262_0, hx262_1, hx262_2⟩ := at_T36 HR0.out x4_1 p262 q262
   cases e262
   replace hx262_0 := (HB.out.cell (World.block_lt_of_cell? w _ hx262_0)).trans hx262_0
   replace hx262_1 := (HB.out.cell (World.block_lt_of_cell? w _ hx262_1)).trans hx262_1
   replace hx262_2 := (HB.out.cell (World.block_lt_of_cell? w _ hx262_2)).trans hx262_2
   replace p262 := eq_true p262
   replace q262 := eq_true q262
   go_wp2_with (first | ((with_reducible refine gate_builtin (b := .append) (xs := #[.tmp 11, .tmp 16]) rfl ?_); at_builtin; refine Kd.R_append k35 (w0 := w) w.heap.size rfl (.tmp 11) (.tmp 16) 28 35 (.agg #[(.bool false), (.bool false), (.bool false)]) 3 rfl Try.underlying28 info35 rfl (by decide) (by omega) u3 x3_1 (⟨(Qg l0 x4_1).f0, (Qg l0 x4_1).f1, (Qg l0 x4_1).f2⟩ : S35) [.bool ((Qg l0 x4_1).f0), .bool ((Qg l0 x4_1).f1), .bool ((Qg l0 x4_1).f2)] (fun _ => True) (fun _ => False) rfl rfl ?aP (fun _ hk => hk.elim) ?aF ?aO ?aB ?aS ?aL ?_; (case aP => exact k35_mkM _ _ _ (⟨(Qg l0 x4_1).f0, (Qg l0 x4_1).f1, (Qg l0 x4_1).f2⟩ : S35)); (case aB => exact (by with_reducible repeat (first | exact HB.out | apply Qj | apply Ql | apply Qk))); (case aF => exact (fun _ _ => trivial)); (case aO => exact (by (with_reducible repeat (first | apply Kd.Qz | apply Kd.Qa1 | apply Kd.Qy)); exact HO_3.out)); (case aS => exact (Qc1 (by with_reducible repeat (first | exact HB.out | apply Qj | apply Ql | apply Qk)))); (case aL => have := LMc4.out; omega); intro v264 w5 ho hb hg hat; rw [← Ny263.out] at ho; have n0_ := Qa.mk (hb); have n1_ := Qa.mk (ho); clear HB; clear HO_3; have HB := n0_; have HO265 := n1_; clear n0_ n1_; clear ho hb hg hat))
   go_roundg k1
   case measure => have := HK1.out; omega
   case rel => exact ⟨(y263), (wrap64 (x4_1 + 1)), (by first | rfl | (simp; done) | (simp [*]; done)), H', ⟨by have := HK1.out; omega⟩, ⟨by (with_reducible repeat (first | apply Kd.Qz | apply Kd.Qa1 | apply Kd.Qy)); exact HO265.out⟩, ⟨by with_reducible repeat (first | exact HB.out | apply Qj | apply Ql | apply Qk)⟩⟩
end Go.Proofs.Ytnaanamibfpbpaa.V
namespace Go.Proofs.Ytnaanamibfpbpaa.V
open Go.RowKit Go.Proofs.YtnaanamibfpbpaaW.PrintWords
set_option linter.unusedVariables false
set_option linter.unusedSectionVars false
abbrev FactT := S35
abbrev Qv (l : List FactT) (i : Int) : FactT := rd_T35 l i
instance decFactT : DecidableEq FactT := fun a b => if h : a.f0 = b.f0 ∧ a.f1 = b.f1 ∧ a.f2 = b.f2 then isTrue (by obtain ⟨a1, a2, a3⟩ := a; obtain ⟨b1, b2, b3⟩ := b; obtain ⟨h1, h2, h3⟩ := h; dsimp only at h1 h2 h3; subst h1 h2 h3; rfl) else isFalse (fun e => h (by subst e; exact ⟨rfl, rfl, rfl⟩))
def FLe (a b : FactT) : Prop := (a.f0 = true → b.f0 = true) ∧ (a.f1 = true → b.f1 = true) ∧ (a.f2 = true → b.f2 = true)
def LLe (a b : List FactT) : Prop := a.length = b.length ∧ ∀ i : Int, FLe (Qv a i) (Qv b i)
def mkF (t : Bool × Bool × Bool) : FactT := ⟨t.1, t.2.1, t.2.2⟩
def stepL (R : List RuleT) (G : List NodeT) (l : List FactT) : List FactT := G.map fun nd => mkF (Qx.p R l nd)
theorem FLe.refl (a : FactT) : FLe a a := ⟨id, id, id⟩
theorem FLe.trans {a b c : FactT} (h : FLe a b) (k : FLe b c) : FLe a c := ⟨fun x => k.1 (h.1 x), fun x => k.2.1 (h.2.1 x), fun x => k.2.2 (h.2.2 x)⟩
theorem seqF_mono {l m : List FactT} (h : ∀ i, FLe (Qv l i) (Qv m i)) : ∀ (cs : List Int) (n e f al n' e' f' al' : Bool), (n = true → n' = true) → (e = true → e' = true) → (f = true → f' = true) → (al = true → al' = true) →
    FLe (mkF (Qx.seqF l cs n e f al)) (mkF (Qx.seqF m cs n' e' f' al')) := by
  intro cs
  induction cs with
  | nil =>
    intro n e f al n' e' f' al' h1 h2 h3 h4
    refine ⟨h1, fun hx => ?_, h3⟩
    simp only [Qx.seqF, mkF, Bool.and_eq_true] at hx ⊢
    exact ⟨h2 hx.1, h4 hx.2⟩
  | cons c cs ih =>
    intro n e f al n' e' f' al' h1 h2 h3 h4
    obtain ⟨k1, k2, k3⟩ := h c
    refine ih _ _ _ _ _ _ _ _ ?_ ?_ ?_ ?_
    · simp only [Bool.and_eq_true]; exact fun hx => ⟨h1 hx.1, k1 hx.2⟩
    · simp only [Bool.or_eq_true]; exact fun hx => hx.imp h2 k2
    · simp only [Bool.or_eq_true, Bool.and_eq_true]; exact fun hx => hx.imp h3 (fun hy => ⟨k3 hy.1, h4 hy.2⟩)
    · simp only [Bool.or_eq_true, Bool.and_eq_true]; exact fun hx => ⟨h4 hx.1, hx.2.imp k1 k2⟩
theorem choF_mono' {l m : List FactT} (h : ∀ i, FLe (Qv l i) (Qv m i)) : ∀ (cs : List Int) (n e f n' e' f' : Bool), (n = true → n' = true) → (e = true → e' = true) → (f = true → f' = true) →
    FLe (mkF (Qx.choF l cs n e f)) (mkF (Qx.choF m cs n' e' f')) := by
  intro cs
  induction cs with
  | nil => exact fun n e f n' e' f' h1 h2 h3 => ⟨h1, h2, h3⟩
  | cons c cs ih =>
    intro n e f n' e' f' h1 h2 h3
    obtain ⟨k1, k2, k3⟩ := h c
    refine ih _ _ _ _ _ _ ?_ ?_ ?_
    · simp only [Bool.or_eq_true, Bool.and_eq_true]; exact fun hx => hx.imp h1 (fun hy => ⟨k1 hy.1, h3 hy.2⟩)
    · simp only [Bool.or_eq_true, Bool.and_eq_true]; exact fun hx => hx.imp h2 (fun hy => ⟨k2 hy.1, h3 hy.2⟩)
    · simp only [Bool.and_eq_true]; exact fun hx => ⟨h3 hx.1, k3 hx.2⟩
theorem p_mono (R : List RuleT) {l m : List FactT} (h : ∀ i, FLe (Qv l i) (Qv m i)) (nd : NodeT) : FLe (mkF (Qx.p R l nd)) (mkF (Qx.p R m nd)) := by
  have hk := h (rd nd.f1 0)
  have hr := h (Qp R nd.f2).f1
  obtain ⟨k1, k2, k3⟩ := hk
  have e1 : ∀ {a b a' b' : Bool}, (a = true → a' = true) → (b = true → b' = true) → (a || b) = true → (a' || b') = true := fun ha hb hx => by rw [Bool.or_eq_true] at hx ⊢; exact hx.imp ha hb
  have e2 : ∀ {a b a' b' : Bool}, (a = true → a' = true) → (b = true → b' = true) → (a && b) = true → (a' && b') = true := fun ha hb hx => by rw [Bool.and_eq_true] at hx ⊢; exact ⟨ha hx.1, hb hx.2⟩
  unfold Qx.p
  by_cases c0 : nd.f0 = 0
  · rw [if_pos c0, if_pos c0]; exact FLe.refl _
  rw [if_neg c0, if_neg c0]
  by_cases c1 : nd.f0 = 1
  · rw [if_pos c1, if_pos c1]; exact FLe.refl _
  rw [if_neg c1, if_neg c1]
  by_cases c2 : nd.f0 = 2
  · rw [if_pos c2, if_pos c2]; exact hr
  rw [if_neg c2, if_neg c2]
  by_cases c3 : nd.f0 = 3
  · rw [if_pos c3, if_pos c3]; exact seqF_mono h _ _ _ _ _ _ _ _ _ id id id id
  rw [if_neg c3, if_neg c3]
  by_cases c4 : nd.f0 = 4
  · rw [if_pos c4, if_pos c4]; exact choF_mono' h _ _ _ _ _ _ _ id id id
  rw [if_neg c4, if_neg c4]
  dsimp only
  by_cases c5 : nd.f0 = 5
  · rw [if_pos c5, if_pos c5]; exact ⟨k3, k2, id⟩
  rw [if_neg c5, if_neg c5]
  by_cases c6 : nd.f0 = 6
  · rw [if_pos c6, if_pos c6]; exact ⟨e2 k1 k3, k2, k3⟩
  rw [if_neg c6, if_neg c6]
  by_cases c7 : nd.f0 = 7
  · rw [if_pos c7, if_pos c7]; exact ⟨e1 k1 k3, k2, id⟩
  rw [if_neg c7, if_neg c7]
  by_cases c8 : nd.f0 = 8
  · rw [if_pos c8, if_pos c8]; exact ⟨e1 k1 k2, id, k3⟩
  rw [if_neg c8, if_neg c8]
  by_cases c9 : nd.f0 = 9
  · rw [if_pos c9, if_pos c9]; exact ⟨k3, id, e1 k1 k2⟩
  rw [if_neg c9, if_neg c9]
  exact FLe.refl _
theorem fact_out (l : List FactT) (i : Int) (h : ¬ i.toNat < l.length) : Qv l i = z35 := by
  show l.getD i.toNat _ = _
  rw [List.getD_eq_getElem?_getD, List.getElem?_eq_none (by omega)]
  rfl
theorem fact_step (R : List RuleT) (G : List NodeT) (l : List FactT) (i : Int) (h0 : 0 ≤ i) (h1 : i < (G.length : Int)) : Qv (stepL R G l) i = mkF (Qx.p R l (nodeAt G i)) := by
  have h : i.toNat < G.length := by omega
  show (G.map _).getD i.toNat _ = mkF (Qx.p R l (G.getD i.toNat _))
  rw [List.getD_eq_getElem?_getD, List.getD_eq_getElem?_getD, List.getElem?_map, List.getElem?_eq_getElem h]
  rfl
theorem step_length (R : List RuleT) (G : List NodeT) (l : List FactT) : (stepL R G l).length = G.length := by simp [stepL]
theorem step_mono (R : List RuleT) (G : List NodeT) {l m : List FactT} (h : ∀ i, FLe (Qv l i) (Qv m i)) (i : Int) : FLe (Qv (stepL R G l) i) (Qv (stepL R G m) i) := by
  by_cases hi : i.toNat < G.length
  · have e : Qv (stepL R G l) i = mkF (Qx.p R l (G.getD i.toNat z53)) := by
      show (G.map _).getD i.toNat _ = _
      rw [List.getD_eq_getElem?_getD, List.getD_eq_getElem?_getD, List.getElem?_map, List.getElem?_eq_getElem hi]
      rfl
    have e' : Qv (stepL R G m) i = mkF (Qx.p R m (G.getD i.toNat z53)) := by
      show (G.map _).getD i.toNat _ = _
      rw [List.getD_eq_getElem?_getD, List.getD_eq_getElem?_getD, List.getElem?_map, List.getElem?_eq_getElem hi]
      rfl
    rw [e, e']
    exact p_mono R h _
  · rw [fact_out _ _ (by rw [step_length]; exact hi), fact_out _ _ (by rw [step_length]; exact hi)]
    exact FLe.refl _
def cntF (a : FactT) : Nat := a.f0.toNat + a.f1.toNat + a.f2.toNat
def cnt (l : List FactT) : Nat := (l.map cntF).sum
theorem cntF_le (a : FactT) : cntF a ≤ 3 := by obtain ⟨a, b, c⟩ := a; cases a <;> cases b <;> cases c <;> decide
theorem cntF_mono {a b : FactT} (h : FLe a b) : cntF a ≤ cntF b ∧ (cntF b ≤ cntF a → a = b) := by
  obtain ⟨a1, a2, a3⟩ := a
  obtain ⟨b1, b2, b3⟩ := b
  obtain ⟨h1, h2, h3⟩ := h
  cases a1 <;> cases a2 <;> cases a3 <;> cases b1 <;> cases b2 <;> cases b3 <;> simp_all [cntF]
theorem cnt_le : ∀ l : List FactT, cnt l ≤ 3 * l.length
  | [] => by simp [cnt]
  | a :: l => by
    have := cnt_le l
    have := cntF_le a
    simp only [cnt, List.map_cons, List.sum_cons, List.length_cons] at *
    omega
theorem cnt_mono : ∀ (a b : List FactT), a.length = b.length → (∀ i : Nat, ∀ x y, a[i]? = some x → b[i]? = some y → FLe x y) → cnt a ≤ cnt b ∧ (cnt b ≤ cnt a → a = b)
  | [], [], _, _ => ⟨Nat.le_refl _, fun _ => rfl⟩
  | [], _ :: _, h, _ => by simp at h
  | _ :: _, [], h, _ => by simp at h
  | x :: a, y :: b, hl, h => by
    have h1 := cntF_mono (h 0 x y rfl rfl)
    have h2 := cnt_mono a b (by simpa using hl) (fun i u v hu hv => h (i + 1) u v (by simpa using hu) (by simpa using hv))
    simp only [cnt, List.map_cons, List.sum_cons] at *
    refine ⟨by omega, fun hc => ?_⟩
    rw [h1.2 (by omega), h2.2 (by omega)]
theorem lle_cnt {a b : List FactT} (h : LLe a b) : cnt a ≤ cnt b ∧ (cnt b ≤ cnt a → a = b) := cnt_mono a b h.1 (fun i x y hx hy => by
  have := h.2 (i : Int)
  have e : Qv a (i : Int) = x := by
    show a.getD ((i : Int).toNat) _ = x
    rw [List.getD_eq_getElem?_getD, show ((i : Int).toNat) = i by omega, hx]
    rfl
  have e' : Qv b (i : Int) = y := by
    show b.getD ((i : Int).toNat) _ = y
    rw [List.getD_eq_getElem?_getD, show ((i : Int).toNat) = i by omega, hy]
    rfl
  rwa [e, e'] at this)
section
variable {R : List RuleT} {G : List NodeT} (hw : WF R G)
include hw
theorem fit_ok (l : List FactT) (hl : l.length = G.length) (i : Int) (h0 : 0 ≤ i) (h1 : i < (G.length : Int)) : Qx.fit R l (nodeAt G i) := by
  obtain ⟨m0, m1, m2, m3, m4, m5, m6, m7, m8⟩ := hw.made i h0 h1
  refine ⟨fun c hc => ?_, fun h5 _ he => ?_, fun h2 => ?_⟩
  · have := hw.kids i h0 h1 c hc
    omega
  · have := m5 h5
    rw [show (nodeAt G i).f1 = [] from he] at this
    simp at this
  · obtain ⟨p0, p1⟩ := m6 h2
    have := hw.roots _ p0 p1
    exact ⟨p0, p1, this.1, by have := this.2; show (ruleAt R (nodeAt G i).f2).f1 < _; omega⟩
theorem node11_ev (l : List FactT) (hl : l.length = G.length) (i : Int) (h0 : 0 ≤ i) (h1 : i < (G.length : Int)) : Qx.f R G i l = some (Qx.p R l (nodeAt G i)) := by
  unfold Qx.f
  rw [if_pos ⟨h0, h1, fit_ok hw l hl i h0 h1⟩]
theorem step_ev (l : List FactT) (hl : l.length = G.length) : Ev (fun k => Qv1.f k R G l) (stepL R G l) := by
  have hn := hw.nodes
  have loop : ∀ (n j : Nat), j + n = G.length → Ev (fun k => Qv1.l0 k l ((G.take j).map fun nd => mkF (Qx.p R l nd)) (j : Int) R G) (stepL R G l) := by
    intro n
    induction n with
    | zero =>
      intro j hj
      refine Ev.succ (g := fun _ => some (stepL R G l)) (fun k => ?_) (Ev.const _)
      rw [Qv1.l0, if_neg (by omega), List.take_of_length_le (by omega)]
      rfl
    | succ n ih =>
      intro j hj
      have h := ih (j + 1) (by omega)
      refine Ev.succ (fun k => ?_) h
      rw [Qv1.l0, if_pos (by omega), node11_ev hw l hl j (by omega) (by omega), Option.bind_some, if_pos (by rw [List.length_map, List.length_take]; omega), w64p ((j : Int) + 1) (by omega)]
      have e : G.take (j + 1) = G.take j ++ [nodeAt G j] := by
        have hj' : j < G.length := by omega
        rw [List.take_succ_eq_append_getElem hj']
        congr 2
        show _ = G.getD ((j : Int).toNat) _
        rw [List.getD_eq_getElem?_getD, show ((j : Int).toNat) = j by omega, List.getElem?_eq_getElem hj']
        rfl
      rw [e, List.map_append]
      rfl
  have := loop G.length 0 (by omega)
  exact this
omit hw in
theorem same_ev (a b : List FactT) (hl : a.length = b.length) (hb : a.length ≤ 1000000) : Ev (fun k => Qq1.f k a b) (decide (a = b)) := by
  have loop : ∀ (n j : Nat), j + n = a.length → a.take j = b.take j → Ev (fun k => Qq1.l0 k a b (j : Int)) (decide (a = b)) := by
    intro n
    induction n with
    | zero =>
      intro j hj ht
      have e : a = b := by rwa [List.take_of_length_le (by omega), List.take_of_length_le (by omega)] at ht
      rw [decide_eq_true e]
      exact Ev.succ (g := fun _ => some true) (fun k => by rw [Qq1.l0, if_neg (by omega)]) (Ev.const _)
    | succ n ih =>
      intro j hj ht
      have hja : j < a.length := by omega
      have hjb : j < b.length := by omega
      have ea : Qv a (j : Int) = a[j] := by
        show a.getD ((j : Int).toNat) _ = _
        rw [List.getD_eq_getElem?_getD, show ((j : Int).toNat) = j by omega, List.getElem?_eq_getElem hja]
        rfl
      have eb : Qv b (j : Int) = b[j] := by
        show b.getD ((j : Int).toNat) _ = _
        rw [List.getD_eq_getElem?_getD, show ((j : Int).toNat) = j by omega, List.getElem?_eq_getElem hjb]
        rfl
      by_cases c : a[j] = b[j]
      · refine Ev.succ (fun k => ?_) (ih (j + 1) (by omega) (by rw [List.take_succ_eq_append_getElem hja, List.take_succ_eq_append_getElem hjb, ht, c]))
        rw [Qq1.l0, if_pos (by omega), if_pos (by omega), if_pos (by omega), if_neg, w64p ((j : Int) + 1) (by omega)]
        · rfl
        · show ¬ (!((Qv a (j : Int)).f0 == (Qv b (j : Int)).f0) || (!((Qv a (j : Int)).f1 == (Qv b (j : Int)).f1) || !((Qv a (j : Int)).f2 == (Qv b (j : Int)).f2))) = true
          rw [ea, eb, c]
          simp
      · have hne : ¬ a = b := fun h => c (by subst h; rfl)
        rw [decide_eq_false hne]
        refine Ev.succ (g := fun _ => some false) (fun k => ?_) (Ev.const _)
        rw [Qq1.l0, if_pos (by omega), if_pos (by omega), if_pos (by omega), if_pos]
        show (!((Qv a (j : Int)).f0 == (Qv b (j : Int)).f0) || (!((Qv a (j : Int)).f1 == (Qv b (j : Int)).f1) || !((Qv a (j : Int)).f2 == (Qv b (j : Int)).f2))) = true
        rw [ea, eb]
        revert c
        generalize a[j] = p
        generalize b[j] = q
        obtain ⟨p1, p2, p3⟩ := p
        obtain ⟨q1, q2, q3⟩ := q
        intro c
        cases p1 <;> cases p2 <;> cases p3 <;> cases q1 <;> cases q2 <;> cases q3 <;> simp_all
  have := loop a.length 0 (by omega) rfl
  exact Ev.congr (fun k => by unfold Qq1.f; rw [if_pos (by omega)]; rfl) this
theorem of_ev : ∃ l, Ev (fun k => Qr1.f k R G) l ∧ l.length = G.length ∧ stepL R G l = l ∧ (∀ m : List FactT, (∀ i, FLe (Qv (stepL R G m) i) (Qv m i)) → ∀ i, FLe (Qv l i) (Qv m i)) := by
  have hn := hw.nodes
  have loop : ∀ (n : Nat) (l : List FactT), 3 * G.length - cnt l = n → l.length = G.length → (∀ i, FLe (Qv l i) (Qv (stepL R G l) i)) → (∀ m : List FactT, (∀ i, FLe (Qv (stepL R G m) i) (Qv m i)) → ∀ i, FLe (Qv l i) (Qv m i)) →
      ∃ r, Ev (fun k => Qr1.l0 k l R G) r ∧ r.length = G.length ∧ stepL R G r = r ∧ (∀ m : List FactT, (∀ i, FLe (Qv (stepL R G m) i) (Qv m i)) → ∀ i, FLe (Qv r i) (Qv m i)) := by
    intro n
    induction n using Nat.strongRecOn with
    | _ n ih =>
      intro l hc hl hle hmin
      have hs := step_ev hw l hl
      have hsame := same_ev l (stepL R G l) (by rw [step_length, hl]) (by omega)
      have stepO : ∀ k, Qr1.l0 (k + 1) l R G = (Qv1.f k R G l).bind fun t => (Qq1.f k l t).bind fun s => if s = true then some l else Qr1.l0 k t R G := fun k => by rw [Qr1.l0]
      by_cases e : l = stepL R G l
      · rw [decide_eq_true e] at hsame
        exact ⟨l, Ev.succ stepO (Ev.bind hs (Ev.bind hsame (Ev.of_eq fun _ => if_pos rfl))), hl, e.symm, hmin⟩
      · rw [decide_eq_false e] at hsame
        have hcc := lle_cnt (a := l) (b := stepL R G l) ⟨by rw [step_length, hl], hle⟩
        have hlt : cnt l < cnt (stepL R G l) := by
          rcases Nat.lt_or_ge (cnt l) (cnt (stepL R G l)) with h | h
          · exact h
          · exact absurd (hcc.2 h) e
        have hb := cnt_le (stepL R G l)
        rw [step_length] at hb
        obtain ⟨r, hr, h2⟩ := ih (3 * G.length - cnt (stepL R G l)) (by omega) (stepL R G l) rfl (step_length R G l) (step_mono R G hle) (fun m hm i => (step_mono R G (hmin m hm) i).trans (hm i))
        exact ⟨r, Ev.succ stepO (Ev.bind hs (Ev.bind hsame (Ev.congr (fun _ => if_neg (by decide)) hr))), h2⟩
  have bot : ∀ i, Qv (List.replicate G.length z35) i = z35 := fun i => by
    show (List.replicate G.length _).getD i.toNat _ = _
    rw [List.getD_eq_getElem?_getD, List.getElem?_replicate]
    split <;> rfl
  have hz : ∀ a : FactT, FLe z35 a := fun a => ⟨fun h => absurd h (by decide), fun h => absurd h (by decide), fun h => absurd h (by decide)⟩
  obtain ⟨r, hr, h2⟩ := loop _ (List.replicate G.length z35) rfl (by simp) (fun i => by rw [bot]; exact hz _) (fun m _ i => by rw [bot]; exact hz _)
  refine ⟨r, Ev.congr (fun k => ?_) hr, h2⟩
  unfold Qr1.f
  rw [if_pos (by omega), if_pos (by omega), show ((G.length : Int) : Int).toNat = G.length by omega]
end
end Go.Proofs.Ytnaanamibfpbpaa.V
namespace Go.Proofs.Ytnaanamibfpbpaa.V
open Go.RowKit Go.Proofs.YtnaanamibfpbpaaW.PrintWords
set_option linter.unusedVariables false
set_option linter.unusedSectionVars false
set_option linter.unusedSimpArgs false
abbrev FlowT := S36
abbrev flowAt (l : List FlowT) (i : Int) : FlowT := Qg l i
def toR (x : FlowT) : FactT := ⟨x.f0, x.f1, x.f2⟩
def ofR (x : FactT) : FlowT := ⟨x.f0, x.f1, x.f2⟩
theorem ofR_toR (x : FlowT) : ofR (toR x) = x := rfl
theorem at_toR (l : List FlowT) (i : Int) : Qv (l.map toR) i = toR (flowAt l i) := by
  show (l.map toR).getD i.toNat _ = toR (l.getD i.toNat _)
  rw [List.getD_eq_getElem?_getD, List.getD_eq_getElem?_getD, List.getElem?_map]
  cases l[i.toNat]? <;> rfl
def fitNode (R : List RuleT) (n : Nat) (nd : NodeT) : Bool :=
  decide (0 ≤ nd.f0) && decide (nd.f0 ≤ 9) && decide (nd.f1.length ≤ 60) && nd.f1.all (fun c => decide (0 ≤ c) && decide (c < (n : Int))) && (decide (nd.f0 ≤ 4) || decide (0 < nd.f1.length)) &&
    (decide (nd.f0 ≠ 2) || (decide (0 ≤ nd.f2) && decide (nd.f2 < (R.length : Int)) && decide (0 ≤ (ruleAt R nd.f2).f1) && decide ((ruleAt R nd.f2).f1 < (n : Int))))
def fitB (R : List RuleT) (G : List NodeT) : Bool := decide (0 < G.length ∧ G.length ≤ 300) && G.all (fitNode R G.length)
structure Fit (R : List RuleT) (G : List NodeT) : Prop where
  pos : 0 < G.length
  nodes : G.length ≤ 300
  op : ∀ i : Int, 0 ≤ i → i < (G.length : Int) → 0 ≤ (nodeAt G i).f0 ∧ (nodeAt G i).f0 ≤ 9
  len : ∀ i : Int, 0 ≤ i → i < (G.length : Int) → (nodeAt G i).f1.length ≤ 60
  kids : ∀ i : Int, 0 ≤ i → i < (G.length : Int) → ∀ c ∈ (nodeAt G i).f1, 0 ≤ c ∧ c < (G.length : Int)
  one : ∀ i : Int, 0 ≤ i → i < (G.length : Int) → 5 ≤ (nodeAt G i).f0 → 0 < (nodeAt G i).f1.length
  call : ∀ i : Int, 0 ≤ i → i < (G.length : Int) → (nodeAt G i).f0 = 2 → 0 ≤ (nodeAt G i).f2 ∧ (nodeAt G i).f2 < (R.length : Int) ∧ 0 ≤ (ruleAt R (nodeAt G i).f2).f1 ∧ (ruleAt R (nodeAt G i).f2).f1 < (G.length : Int)
theorem node_mem (G : List NodeT) (i : Int) (h0 : 0 ≤ i) (h1 : i < (G.length : Int)) : nodeAt G i ∈ G := by
  have h : i.toNat < G.length := by omega
  show G.getD i.toNat _ ∈ G
  rw [List.getD_eq_getElem?_getD, List.getElem?_eq_getElem h]
  exact List.getElem_mem h
theorem fit_iff (R : List RuleT) (n : Nat) (nd : NodeT) : fitNode R n nd = true ↔ (0 ≤ nd.f0 ∧ nd.f0 ≤ 9 ∧ nd.f1.length ≤ 60 ∧ (∀ c ∈ nd.f1, 0 ≤ c ∧ c < (n : Int)) ∧ (nd.f0 ≤ 4 ∨ 0 < nd.f1.length) ∧ (nd.f0 ≠ 2 ∨ (0 ≤ nd.f2 ∧ nd.f2 < (R.length : Int) ∧ 0 ≤ (ruleAt R nd.f2).f1 ∧ (ruleAt R nd.f2).f1 < (n : Int)))) := by
  unfold fitNode
  simp only [Bool.and_eq_true, Bool.or_eq_true, decide_eq_true_eq, List.all_eq_true]
  constructor
  · rintro ⟨⟨⟨⟨⟨a, b⟩, c⟩, d⟩, e⟩, f⟩
    refine ⟨a, b, c, d, e, f.imp id (fun h => ⟨h.1.1.1, h.1.1.2, h.1.2, h.2⟩)⟩
  · rintro ⟨a, b, c, d, e, f⟩
    exact ⟨⟨⟨⟨⟨a, b⟩, c⟩, d⟩, e⟩, f.imp id (fun h => ⟨⟨⟨h.1, h.2.1⟩, h.2.2.1⟩, h.2.2.2⟩)⟩
theorem fit_of {R : List RuleT} {G : List NodeT} (h : fitB R G = true) : Fit R G := by
  unfold fitB at h
  rw [Bool.and_eq_true, decide_eq_true_eq, List.all_eq_true] at h
  have key : ∀ i : Int, 0 ≤ i → i < (G.length : Int) → _ := fun i h0 h1 => (fit_iff R G.length (nodeAt G i)).1 (h.2 _ (node_mem G i h0 h1))
  exact ⟨h.1.1, h.1.2, fun i h0 h1 => ⟨(key i h0 h1).1, (key i h0 h1).2.1⟩, fun i h0 h1 => (key i h0 h1).2.2.1, fun i h0 h1 => (key i h0 h1).2.2.2.1, fun i h0 h1 h5 => (key i h0 h1).2.2.2.2.1.resolve_left (by omega), fun i h0 h1 h2 => (key i h0 h1).2.2.2.2.2.resolve_left (fun hn => hn h2)⟩
def seqS : List FlowT → Bool → Bool → Bool → Bool → Bool × Bool × Bool
  | [], n, e, f, ok => (n, ok && e, f)
  | x :: xs, n, e, f, ok => seqS xs (n && x.f0) (e || x.f1) (f || (ok && x.f2)) (ok && (x.f0 || x.f1))
def choS : List FlowT → Bool → Bool → Bool → Bool × Bool × Bool
  | [], n, e, fl => (n, e, fl)
  | x :: xs, n, e, fl => choS xs (n || (fl && x.f0)) (e || (fl && x.f1)) (fl && x.f2)
theorem drop_flow (xs : List FlowT) (j : Nat) (h : j < xs.length) : xs.drop j = flowAt xs (j : Int) :: xs.drop (j + 1) := by
  rw [List.drop_eq_getElem_cons h]
  congr 1
  show _ = xs.getD ((j : Int).toNat) _
  rw [List.getD_eq_getElem?_getD, Int.toNat_natCast, List.getElem?_eq_getElem h]
  rfl
theorem seq_val (xs : List FlowT) (hx : xs.length ≤ 1000) : ∀ (d j k : Nat) (ok n e f : Bool), j + d = xs.length → d < k → flow_seq.l0 k ok xs (xs.length : Int) (j : Int) n e f = some (seqS (xs.drop j) n e f ok) := by
  intro d
  induction d with
  | zero =>
    intro j k ok n e f hj hk
    obtain ⟨k, rfl⟩ : ∃ m, k = m + 1 := ⟨k - 1, by omega⟩
    rw [List.drop_of_length_le (by omega), flow_seq.l0, if_neg (by omega), seqS]
    cases ok <;> cases e <;> rfl
  | succ d ih =>
    intro j k ok n e f hj hk
    obtain ⟨k, rfl⟩ : ∃ m, k = m + 1 := ⟨k - 1, by omega⟩
    rw [drop_flow xs j (by omega), seqS]
    have hn : ∀ ok n e f, flow_seq.l0 k ok xs (xs.length : Int) ((j : Int) + 1) n e f = some (seqS (xs.drop (j + 1)) n e f ok) := fun ok n e f => ih (j + 1) k ok n e f (by omega) (by omega)
    rw [flow_seq.l0, if_pos (by omega), if_pos (by omega), if_pos (by omega), w64p ((j : Int) + 1) (by omega)]
    show _ = some (seqS (xs.drop (j + 1)) (n && (Qg xs (j : Int)).f0) (e || (Qg xs (j : Int)).f1) (f || (ok && (Qg xs (j : Int)).f2)) (ok && ((Qg xs (j : Int)).f0 || (Qg xs (j : Int)).f1)))
    generalize Qg xs (j : Int) = x
    obtain ⟨x0, x1, x2⟩ := x
    cases ok <;> cases n <;> cases e <;> cases f <;> cases x0 <;> cases x1 <;> cases x2 <;> simp [hn, flow_Facts_ok.f]
theorem cho_val (xs : List FlowT) (hx : xs.length ≤ 1000) : ∀ (d j k : Nat) (fl n e z : Bool), j + d = xs.length → d < k → flow_choice.l0 k fl xs (xs.length : Int) (j : Int) n e z = some (choS (xs.drop j) n e fl) := by
  intro d
  induction d with
  | zero =>
    intro j k fl n e z hj hk
    obtain ⟨k, rfl⟩ : ∃ m, k = m + 1 := ⟨k - 1, by omega⟩
    rw [List.drop_of_length_le (by omega), flow_choice.l0, if_neg (by omega), choS]
  | succ d ih =>
    intro j k fl n e z hj hk
    obtain ⟨k, rfl⟩ : ∃ m, k = m + 1 := ⟨k - 1, by omega⟩
    rw [drop_flow xs j (by omega), choS]
    have hn : ∀ fl n e, flow_choice.l0 k fl xs (xs.length : Int) ((j : Int) + 1) n e z = some (choS (xs.drop (j + 1)) n e fl) := fun fl n e => ih (j + 1) k fl n e z (by omega) (by omega)
    rw [flow_choice.l0, if_pos (by omega), if_pos (by omega), if_pos (by omega), w64p ((j : Int) + 1) (by omega)]
    show _ = some (choS (xs.drop (j + 1)) (n || (fl && (Qg xs (j : Int)).f0)) (e || (fl && (Qg xs (j : Int)).f1)) (fl && (Qg xs (j : Int)).f2))
    generalize Qg xs (j : Int) = x
    obtain ⟨x0, x1, x2⟩ := x
    cases fl <;> cases n <;> cases e <;> cases x0 <;> cases x1 <;> cases x2 <;> simp [hn]
theorem seqS_F (L : List FlowT) : ∀ (cs : List Int) (n e f al : Bool), seqS (cs.map (flowAt L)) n e f al = Qx.seqF (L.map toR) cs n e f al
  | [], n, e, f, al => by simp [seqS, Qx.seqF, Bool.and_comm]
  | c :: cs, n, e, f, al => by
    rw [List.map_cons, seqS, Qx.seqF, seqS_F L cs]
    have h := at_toR L c
    show _ = Qx.seqF (L.map toR) cs (n && (Qv (L.map toR) c).f0) (e || (Qv (L.map toR) c).f1) (f || ((Qv (L.map toR) c).f2 && al)) (al && ((Qv (L.map toR) c).f0 || (Qv (L.map toR) c).f1))
    rw [h]
    simp only [toR, Bool.and_comm al]
theorem choS_F (L : List FlowT) : ∀ (cs : List Int) (n e f : Bool), choS (cs.map (flowAt L)) n e f = Qx.choF (L.map toR) cs n e f
  | [], n, e, f => rfl
  | c :: cs, n, e, f => by
    rw [List.map_cons, choS, Qx.choF, choS_F L cs]
    have h := at_toR L c
    show _ = Qx.choF (L.map toR) cs (n || ((Qv (L.map toR) c).f0 && f)) (e || ((Qv (L.map toR) c).f1 && f)) (f && (Qv (L.map toR) c).f2)
    rw [h]
    simp only [toR, Bool.and_comm f]
theorem node_val {R : List RuleT} {G : List NodeT} (hf : Fit R G) (L : List FlowT) (hL : L.length = G.length) (i : Int) (h0 : 0 ≤ i) (h1 : i < (G.length : Int)) (k : Nat) (hk : 200 ≤ k) :
    flow_node.f k R G i L = some (Qx.p R (L.map toR) (nodeAt G i)) := by
  have hn := hf.nodes
  have hop := hf.op i h0 h1
  have hlen := hf.len i h0 h1
  have hkids := hf.kids i h0 h1
  have hone := hf.one i h0 h1
  have hcall := hf.call i h0 h1
  show (if 0 ≤ i then (if i < (G.length : Int) then (flow_node.l0 k L ([] : List FlowT) (nodeAt G i).f1 (((nodeAt G i).f1).length : Int) 0 R G (nodeAt G i).f0 (nodeAt G i).f1 (nodeAt G i).f2 (nodeAt G i).f3.f0 (nodeAt G i).f3.f1 (nodeAt G i).f3.f2 (nodeAt G i).f3.f3) else none) else none) = _
  rw [if_pos h0, if_pos h1]
  generalize nodeAt G i = nd at hop hlen hkids hone hcall ⊢
  obtain ⟨op, cs, rule, s⟩ := nd
  dsimp only at hop hlen hkids hone hcall ⊢
  have loop : ∀ (d j k : Nat), j + d = cs.length → d + 100 ≤ k → flow_node.l0 k L ((cs.take j).map (flowAt L)) cs (cs.length : Int) (j : Int) R G op cs rule s.f0 s.f1 s.f2 s.f3 = some (Qx.p R (L.map toR) ⟨op, cs, rule, s⟩) := by
    intro d
    induction d with
    | zero =>
      intro j k hj hk
      obtain ⟨k, rfl⟩ : ∃ m, k = m + 1 := ⟨k - 1, by omega⟩
      rw [List.take_of_length_le (by omega), flow_node.l0, if_neg (by omega)]
      unfold Qx.p
      dsimp only
      by_cases o0 : op = 0
      · rw [if_pos o0, if_pos o0]
      rw [if_neg o0, if_neg o0]
      by_cases o1 : op = 1
      · rw [if_pos o1, if_pos o1]
      rw [if_neg o1, if_neg o1]
      by_cases o2 : op = 2
      · obtain ⟨a, b, c, d⟩ := hcall o2
        have h := at_toR L (ruleAt R rule).f1
        rw [if_pos o2, if_pos o2, if_pos a, if_pos b, if_pos c, if_pos (by rw [hL]; exact d)]
        show _ = some ((Qv (L.map toR) (ruleAt R rule).f1).f0, (Qv (L.map toR) (ruleAt R rule).f1).f1, (Qv (L.map toR) (ruleAt R rule).f1).f2)
        rw [h]
        rfl
      rw [if_neg o2, if_neg o2]
      by_cases o3 : op = 3
      · rw [if_pos o3, if_pos o3]
        unfold flow_seq.f
        have h := seq_val (cs.map (flowAt L)) (by simp; omega) cs.length 0 k true true false false (by simp) (by omega)
        rw [show ((0 : Nat) : Int) = 0 from rfl] at h
        rw [h, Option.bind_some, List.drop_zero, seqS_F]
      rw [if_neg o3, if_neg o3]
      by_cases o4 : op = 4
      · rw [if_pos o4, if_pos o4]
        unfold flow_choice.f
        have h := cho_val (cs.map (flowAt L)) (by simp; omega) cs.length 0 k true false false false (by simp) (by omega)
        rw [show ((0 : Nat) : Int) = 0 from rfl] at h
        rw [h, Option.bind_some, List.drop_zero, choS_F]
      rw [if_neg o4, if_neg o4]
      have hp := hone (by omega)
      have e0 : Qg (cs.map (flowAt L)) 0 = flowAt L (rd cs 0) := by
        cases cs with
        | nil => simp at hp
        | cons c cs => rfl
      have h := at_toR L (rd cs 0)
      rw [if_pos (by simp; omega), e0]
      show _ = some (if op = 5 then ((Qv (L.map toR) (rd cs 0)).f2, (Qv (L.map toR) (rd cs 0)).f1, false) else if op = 6 then ((Qv (L.map toR) (rd cs 0)).f0 && (Qv (L.map toR) (rd cs 0)).f2, (Qv (L.map toR) (rd cs 0)).f1, (Qv (L.map toR) (rd cs 0)).f2) else if op = 7 then ((Qv (L.map toR) (rd cs 0)).f0 || (Qv (L.map toR) (rd cs 0)).f2, (Qv (L.map toR) (rd cs 0)).f1, false) else if op = 8 then ((Qv (L.map toR) (rd cs 0)).f0 || (Qv (L.map toR) (rd cs 0)).f1, false, (Qv (L.map toR) (rd cs 0)).f2) else if op = 9 then ((Qv (L.map toR) (rd cs 0)).f2, false, (Qv (L.map toR) (rd cs 0)).f0 || (Qv (L.map toR) (rd cs 0)).f1) else (false, false, false))
      rw [h]
      generalize flowAt L (rd cs 0) = x
      obtain ⟨x0, x1, x2⟩ := x
      unfold flow_unary.f flow_Facts_ok.f toR
      have o5 : op = 5 ∨ op = 6 ∨ op = 7 ∨ op = 8 ∨ op = 9 := by omega
      rcases o5 with rfl | rfl | rfl | rfl | rfl <;> cases x0 <;> cases x1 <;> cases x2 <;> rfl
    | succ d ih =>
      intro j k hj hk
      obtain ⟨k, rfl⟩ : ∃ m, k = m + 1 := ⟨k - 1, by omega⟩
      have hjl : j < cs.length := by omega
      have hc := hkids _ (List.getElem_mem hjl)
      have er : rd cs (j : Int) = cs[j] := by
        unfold rd
        rw [List.getD_eq_getElem?_getD, Int.toNat_natCast, List.getElem?_eq_getElem hjl]
        rfl
      have hn := ih (j + 1) k (by omega) (by omega)
      rw [flow_node.l0, if_pos (by omega), if_pos (by omega), if_pos (by omega), er, if_pos hc.1, if_pos (by rw [hL]; exact hc.2), if_pos (by simp; omega), w64p _ (by omega), show (j : Int) + 1 = ((j + 1 : Nat) : Int) by omega, ← hn, List.take_succ_eq_append_getElem hjl, List.map_append]
      rfl
  have := loop cs.length 0 k (by omega) (by omega)
  rw [List.take_zero] at this
  exact this
end Go.Proofs.Ytnaanamibfpbpaa.V
namespace Go.Proofs.Ytnaanamibfpbpaa.V
open Go.RowKit Go.Proofs.YtnaanamibfpbpaaW.PrintWords
set_option linter.unusedVariables false
set_option linter.unusedSectionVars false
set_option linter.unusedSimpArgs false
abbrev rowAt (x : List (List Int)) (c : Int) : List Int := rd_L1 x c
theorem row_set (x : List (List Int)) (a : Int) (v : List Int) (h0 : 0 ≤ a) (h1 : a < (x.length : Int)) (c : Int) (hc : 0 ≤ c) : rowAt (x.set a.toNat v) c = if a = c then v else rowAt x c := by
  show (x.set a.toNat v).getD c.toNat [] = if a = c then v else x.getD c.toNat []
  rw [List.getD_eq_getElem?_getD, List.getD_eq_getElem?_getD, List.getElem?_set]
  by_cases h : a = c
  · subst h; rw [if_pos rfl, if_pos rfl, if_pos (by omega)]; rfl
  · rw [if_neg h, if_neg (by omega)]
structure Usr (R : List RuleT) (G : List NodeT) (x : List (List Int)) (i j : Nat) : Prop where
  len : x.length = G.length
  rng : ∀ c : Int, 0 ≤ c → ∀ y ∈ rowAt x c, 0 ≤ y ∧ y < (G.length : Int)
  bd : ∀ c : Int, 0 ≤ c → (rowAt x c).length ≤ 61 * i + j
  done : ∀ p : Int, 0 ≤ p → p < (i : Int) → (∀ c ∈ (nodeAt G p).f1, p ∈ rowAt x c) ∧ ((nodeAt G p).f0 = 2 → p ∈ rowAt x (ruleAt R (nodeAt G p).f2).f1)
theorem Usr.add {R : List RuleT} {G : List NodeT} {x : List (List Int)} {i j : Nat} (hf : Fit R G) (h : Usr R G x i j) (hi : i < G.length) (a : Int) (h0 : 0 ≤ a) (h1 : a < (G.length : Int)) :
    Usr R G (x.set a.toNat (rowAt x a ++ [(i : Int)])) i (j + 1) ∧ (i : Int) ∈ rowAt (x.set a.toNat (rowAt x a ++ [(i : Int)])) a ∧ ∀ c : Int, 0 ≤ c → ∀ y ∈ rowAt x c, y ∈ rowAt (x.set a.toNat (rowAt x a ++ [(i : Int)])) c := by
  have hs := fun c hc => row_set x a (rowAt x a ++ [(i : Int)]) h0 (by rw [h.len]; exact h1) c hc
  have grow : ∀ c : Int, 0 ≤ c → ∀ y ∈ rowAt x c, y ∈ rowAt (x.set a.toNat (rowAt x a ++ [(i : Int)])) c := fun c hc y hy => by
    rw [hs c hc]
    split
    · rename_i e; subst e; exact List.mem_append_left _ hy
    · exact hy
  refine ⟨⟨by rw [List.length_set]; exact h.len, fun c hc y hy => ?_, fun c hc => ?_, fun p hp0 hp => ?_⟩, ?_, grow⟩
  · rw [hs c hc] at hy
    split at hy
    · rcases List.mem_append.1 hy with hy | hy
      · exact h.rng a h0 y hy
      · obtain rfl := List.mem_singleton.1 hy
        exact ⟨by omega, by omega⟩
    · exact h.rng c hc y hy
  · rw [hs c hc]
    split
    · rw [List.length_append, List.length_singleton]
      have := h.bd a h0
      omega
    · have := h.bd c hc
      omega
  · have hd := h.done p hp0 hp
    exact ⟨fun c hc => grow c ((hf.kids p hp0 (by omega) c hc).1) p (hd.1 c hc), fun o => grow _ (hf.call p hp0 (by omega) o).2.2.1 p (hd.2 o)⟩
  · rw [hs a h0, if_pos rfl]
    simp
def UsersOk (R : List RuleT) (G : List NodeT) (x : List (List Int)) : Prop := x.length = G.length ∧ (∀ c : Int, 0 ≤ c → ∀ y ∈ rowAt x c, 0 ≤ y ∧ y < (G.length : Int)) ∧ (∀ c : Int, 0 ≤ c → (rowAt x c).length ≤ 20000) ∧
  ∀ p : Int, 0 ≤ p → p < (G.length : Int) → (∀ c ∈ (nodeAt G p).f1, p ∈ rowAt x c) ∧ ((nodeAt G p).f0 = 2 → p ∈ rowAt x (ruleAt R (nodeAt G p).f2).f1)
theorem users_val {R : List RuleT} {G : List NodeT} (hf : Fit R G) (k : Nat) (hk : 20000 ≤ k) : ∃ x, flow_users.f k R G = some x ∧ UsersOk R G x := by
  have hn := hf.nodes
  have l0 : ∀ (d i k : Nat) (x : List (List Int)), i + d = G.length → 62 * d < k → Usr R G x i 0 → ∃ y, flow_users.l0 k x G (G.length : Int) (i : Int) R G = some y ∧ UsersOk R G y := by
    intro d
    induction d with
    | zero =>
      intro i k x hi hk hu
      obtain ⟨k, rfl⟩ : ∃ m, k = m + 1 := ⟨k - 1, by omega⟩
      obtain rfl : i = G.length := by omega
      exact ⟨x, by rw [flow_users.l0, if_neg (by omega)], hu.len, hu.rng, fun c hc => by have := hu.bd c hc; omega, hu.done⟩
    | succ d ih =>
      intro i k x hi hk hu
      obtain ⟨k, rfl⟩ : ∃ m, k = m + 1 := ⟨k - 1, by omega⟩
      have hlen := hf.len (i : Int) (by omega) (by omega)
      have hkids := hf.kids (i : Int) (by omega) (by omega)
      have hcall := hf.call (i : Int) (by omega) (by omega)
      have l1 : ∀ (e j k : Nat) (x : List (List Int)), j + e = (nodeAt G (i : Int)).f1.length → 62 * d + e + 1 < k → Usr R G x i j → (∀ c ∈ (nodeAt G (i : Int)).f1.take j, (i : Int) ∈ rowAt x c) →
          ∃ y, flow_users.l1 k x (i : Int) G (G.length : Int) (i : Int) (nodeAt G (i : Int)).f1 (((nodeAt G (i : Int)).f1).length : Int) (j : Int) R G (nodeAt G (i : Int)).f0 (nodeAt G (i : Int)).f1 (nodeAt G (i : Int)).f2 (nodeAt G (i : Int)).f3.f0 (nodeAt G (i : Int)).f3.f1 (nodeAt G (i : Int)).f3.f2 (nodeAt G (i : Int)).f3.f3 = some y ∧ UsersOk R G y := by
        intro e
        induction e with
        | zero =>
          intro j k x hj hk hu hcur
          obtain ⟨k, rfl⟩ : ∃ m, k = m + 1 := ⟨k - 1, by omega⟩
          rw [List.take_of_length_le (by omega)] at hcur
          rw [flow_users.l1, if_neg (by omega)]
          by_cases o : (nodeAt G (i : Int)).f0 = 2
          · obtain ⟨a, b, c, dd⟩ := hcall o
            obtain ⟨q1, q2, q3⟩ := hu.add hf (by omega) _ c dd
            have hnext : Usr R G (x.set (ruleAt R (nodeAt G (i : Int)).f2).f1.toNat (rowAt x (ruleAt R (nodeAt G (i : Int)).f2).f1 ++ [(i : Int)])) (i + 1) 0 := ⟨q1.len, q1.rng, fun c hc => by have := q1.bd c hc; omega, fun p hp0 hp => by
              by_cases e : p = (i : Int)
              · subst e
                exact ⟨fun c hc => q3 c (hkids c hc).1 _ (hcur c hc), fun _ => q2⟩
              · exact q1.done p hp0 (by omega)⟩
            obtain ⟨y, hy, hok⟩ := ih (i + 1) k _ (by omega) (by omega) hnext
            refine ⟨y, ?_, hok⟩
            rw [if_pos o, if_pos a, if_pos b, if_pos c, if_pos (by rw [hu.len]; exact dd), if_pos (by have := hu.bd _ c; show (rowAt x (ruleAt R (nodeAt G (i : Int)).f2).f1).length < _; omega), w64p _ (by omega), show (i : Int) + 1 = ((i + 1 : Nat) : Int) by omega]
            exact hy
          · have hnext : Usr R G x (i + 1) 0 := ⟨hu.len, hu.rng, fun c hc => by have := hu.bd c hc; omega, fun p hp0 hp => by
              by_cases e : p = (i : Int)
              · subst e
                exact ⟨hcur, fun o' => absurd o' o⟩
              · exact hu.done p hp0 (by omega)⟩
            obtain ⟨y, hy, hok⟩ := ih (i + 1) k _ (by omega) (by omega) hnext
            refine ⟨y, ?_, hok⟩
            rw [if_neg o, w64p _ (by omega), show (i : Int) + 1 = ((i + 1 : Nat) : Int) by omega]
            exact hy
        | succ e ihe =>
          intro j k x hj hk hu hcur
          obtain ⟨k, rfl⟩ : ∃ m, k = m + 1 := ⟨k - 1, by omega⟩
          have hjl : j < (nodeAt G (i : Int)).f1.length := by omega
          have er : rd (nodeAt G (i : Int)).f1 (j : Int) = (nodeAt G (i : Int)).f1[j] := by
            unfold rd
            rw [List.getD_eq_getElem?_getD, Int.toNat_natCast, List.getElem?_eq_getElem hjl]
            rfl
          have hc := hkids _ (List.getElem_mem hjl)
          rw [← er] at hc
          obtain ⟨q1, q2, q3⟩ := hu.add hf (by omega) _ hc.1 hc.2
          obtain ⟨y, hy, hok⟩ := ihe (j + 1) k _ (by omega) (by omega) q1 (fun c hc => by
            rw [List.take_succ_eq_append_getElem hjl, List.mem_append, List.mem_singleton] at hc
            rcases hc with hc | rfl
            · exact q3 c (hkids c (List.mem_of_mem_take hc)).1 _ (hcur c hc)
            · rw [← er]; exact q2)
          refine ⟨y, ?_, hok⟩
          rw [flow_users.l1, if_pos (by omega), if_pos (by omega), if_pos (by omega), if_pos hc.1, if_pos (by rw [hu.len]; exact hc.2), if_pos (by have := hu.bd _ hc.1; show (rowAt x _).length < _; omega), w64p _ (by omega), show (j : Int) + 1 = ((j + 1 : Nat) : Int) by omega]
          exact hy
      obtain ⟨y, hy, hok⟩ := l1 (nodeAt G (i : Int)).f1.length 0 k x (by omega) (by omega) hu (by simp)
      refine ⟨y, ?_, hok⟩
      rw [flow_users.l0, if_pos (by omega), if_pos (by omega), if_pos (by omega)]
      exact hy
  have nil : ∀ c : Int, rowAt (List.replicate G.length []) c = [] := fun c => by
    show (List.replicate G.length []).getD c.toNat [] = []
    rw [List.getD_eq_getElem?_getD, List.getElem?_replicate]
    split <;> rfl
  obtain ⟨y, hy, hok⟩ := l0 G.length 0 k (List.replicate G.length []) (by omega) (by omega) ⟨by simp, fun c _ y hy => (by rw [nil] at hy; cases hy), fun c _ => (by rw [nil]; simp), fun p h0 h1 => by omega⟩
  refine ⟨y, ?_, hok⟩
  unfold flow_users.f
  rw [if_pos (by omega), if_pos (by omega), show ((G.length : Int) : Int).toNat = G.length by omega]
  exact hy
def QInv (n : Nat) (l : List Int) (b : List Bool) : Prop := b.length = n ∧ l.Nodup ∧ ∀ x : Int, x ∈ l ↔ (0 ≤ x ∧ x < (n : Int) ∧ rdOf false b x = true)
theorem pigI : ∀ (n : Nat) (l : List Int), l.Nodup → (∀ s ∈ l, 0 ≤ s ∧ s < (n : Int)) → l.length ≤ n
  | 0, [], _, _ => Nat.le_refl _
  | 0, s :: l, _, h => by have := h s (by simp); omega
  | n + 1, l, hd, h => by
    have h1 := pigI n (l.erase (n : Int)) (hd.erase _) (fun s hs => by
      have hm := (hd.mem_erase_iff).1 hs
      have := h s hm.2
      have := hm.1
      omega)
    rw [List.length_erase] at h1
    split at h1 <;> omega
theorem QInv.le {n : Nat} {l : List Int} {b : List Bool} (h : QInv n l b) : l.length ≤ n := pigI n l h.2.1 (fun s hs => by have := (h.2.2 s).1 hs; exact ⟨this.1, this.2.1⟩)
theorem mark_set (b : List Bool) (i : Int) (v : Bool) (h0 : 0 ≤ i) (h1 : i < (b.length : Int)) (x : Int) (hx : 0 ≤ x) : rdOf false (b.set i.toNat v) x = if i = x then v else rdOf false b x := by
  unfold rdOf
  rw [List.getD_eq_getElem?_getD, List.getD_eq_getElem?_getD, List.getElem?_set]
  by_cases h : i = x
  · subst h; rw [if_pos rfl, if_pos rfl, if_pos (by omega)]; rfl
  · rw [if_neg h, if_neg (by omega)]
theorem QInv.add {n : Nat} {l l' : List Int} {b : List Bool} {i : Int} (h : QInv n l b) (h0 : 0 ≤ i) (h1 : i < (n : Int)) (hp : if rdOf false b i = true then l'.Perm l else l'.Perm (l ++ [i])) : QInv n l' (b.set i.toNat true) ∧ i ∈ l' ∧ ∀ y ∈ l, y ∈ l' := by
  obtain ⟨hb, hd, hm⟩ := h
  have hs := fun x hx => mark_set b i true h0 (by omega) x hx
  by_cases c : rdOf false b i = true
  · rw [if_pos c] at hp
    have hil : i ∈ l := (hm i).2 ⟨h0, h1, c⟩
    refine ⟨⟨by rw [List.length_set]; exact hb, hp.nodup_iff.2 hd, fun x => ?_⟩, hp.mem_iff.2 hil, fun y hy => hp.mem_iff.2 hy⟩
    rw [hp.mem_iff, hm x]
    refine ⟨fun ⟨a, b', c'⟩ => ⟨a, b', ?_⟩, fun ⟨a, b', c'⟩ => ⟨a, b', ?_⟩⟩
    · rw [hs x a]; split
      · rfl
      · exact c'
    · rw [hs x a] at c'
      split at c'
      · rename_i e; rw [← e]; exact c
      · exact c'
  · rw [if_neg c] at hp
    have hil : i ∉ l := fun hi => c ((hm i).1 hi).2.2
    refine ⟨⟨by rw [List.length_set]; exact hb, hp.nodup_iff.2 (List.nodup_append.2 ⟨hd, by simp, fun a ha b' hb' e => by obtain rfl := List.mem_singleton.1 hb'; subst e; exact hil ha⟩), fun x => ?_⟩, hp.mem_iff.2 (by simp), fun y hy => hp.mem_iff.2 (List.mem_append_left _ hy)⟩
    rw [hp.mem_iff, List.mem_append, List.mem_singleton, hm x]
    constructor
    · rintro (⟨a, b', c'⟩ | rfl)
      · refine ⟨a, b', ?_⟩
        rw [hs x a]; split
        · rfl
        · exact c'
      · exact ⟨h0, h1, by rw [hs x h0, if_pos rfl]⟩
    · rintro ⟨a, b', c'⟩
      rw [hs x a] at c'
      split at c'
      · rename_i e; exact .inr e.symm
      · exact .inl ⟨a, b', c'⟩
theorem QInv.pop {n : Nat} {l l' : List Int} {b : List Bool} {x : Int} (h : QInv n l b) (hp : (x :: l').Perm l) : QInv n l' (b.set x.toNat false) ∧ 0 ≤ x ∧ x < (n : Int) := by
  obtain ⟨hb, hd, hm⟩ := h
  have hx := (hm x).1 (hp.mem_iff.1 (by simp))
  have hd' := hp.nodup_iff.2 hd
  rw [List.nodup_cons] at hd'
  refine ⟨⟨by rw [List.length_set]; exact hb, hd'.2, fun y => ?_⟩, hx.1, hx.2.1⟩
  have hs := fun y hy => mark_set b x false hx.1 (by omega) y hy
  constructor
  · intro hy
    have h1 := (hm y).1 (hp.mem_iff.1 (List.mem_cons_of_mem _ hy))
    refine ⟨h1.1, h1.2.1, ?_⟩
    rw [hs y h1.1, if_neg (fun e : x = y => hd'.1 (by rw [e]; exact hy))]
    exact h1.2.2
  · rintro ⟨a, b', c'⟩
    rw [hs y a] at c'
    split at c'
    · cases c'
    · rename_i e
      have := hp.mem_iff.2 ((hm y).2 ⟨a, b', c'⟩)
      rcases List.mem_cons.1 this with r | r
      · exact absurd r.symm e
      · exact r
theorem p_congr {R : List RuleT} {l m : List FactT} {nd : NodeT} (hk : ∀ c ∈ nd.f1, Qv l c = Qv m c) (hr : nd.f0 = 2 → Qv l (ruleAt R nd.f2).f1 = Qv m (ruleAt R nd.f2).f1) (h1 : 5 ≤ nd.f0 → 0 < nd.f1.length) (h9 : 0 ≤ nd.f0) : Qx.p R l nd = Qx.p R m nd := by
  have sq : ∀ (cs : List Int), (∀ c ∈ cs, Qv l c = Qv m c) → ∀ n e f al, Qx.seqF l cs n e f al = Qx.seqF m cs n e f al := by
    intro cs
    induction cs with
    | nil => intro _ n e f al; rfl
    | cons c cs ih =>
      intro h n e f al
      rw [Qx.seqF, Qx.seqF, ih (fun c hc => h c (List.mem_cons_of_mem _ hc))]
      have := h c (by simp)
      show Qx.seqF m cs (n && (Qv l c).f0) (e || (Qv l c).f1) (f || ((Qv l c).f2 && al)) (al && ((Qv l c).f0 || (Qv l c).f1)) = _
      rw [this]
  have ch : ∀ (cs : List Int), (∀ c ∈ cs, Qv l c = Qv m c) → ∀ n e f, Qx.choF l cs n e f = Qx.choF m cs n e f := by
    intro cs
    induction cs with
    | nil => intro _ n e f; rfl
    | cons c cs ih =>
      intro h n e f
      rw [Qx.choF, Qx.choF, ih (fun c hc => h c (List.mem_cons_of_mem _ hc))]
      have := h c (by simp)
      show Qx.choF m cs (n || ((Qv l c).f0 && f)) (e || ((Qv l c).f1 && f)) (f && (Qv l c).f2) = _
      rw [this]
  obtain ⟨op, cs, rule, s⟩ := nd
  dsimp only at hk hr h1 h9
  unfold Qx.p
  dsimp only
  by_cases o0 : op = 0
  · rw [if_pos o0, if_pos o0]
  rw [if_neg o0, if_neg o0]
  by_cases o1 : op = 1
  · rw [if_pos o1, if_pos o1]
  rw [if_neg o1, if_neg o1]
  by_cases o2 : op = 2
  · have := hr o2
    rw [if_pos o2, if_pos o2]
    show ((Qv l (ruleAt R rule).f1).f0, (Qv l (ruleAt R rule).f1).f1, (Qv l (ruleAt R rule).f1).f2) = _
    rw [this]
  rw [if_neg o2, if_neg o2]
  by_cases o3 : op = 3
  · rw [if_pos o3, if_pos o3]; exact sq cs hk _ _ _ _
  rw [if_neg o3, if_neg o3]
  by_cases o4 : op = 4
  · rw [if_pos o4, if_pos o4]; exact ch cs hk _ _ _
  rw [if_neg o4, if_neg o4]
  have hp := h1 (by omega)
  have e : Qv l (rd cs 0) = Qv m (rd cs 0) := by
    cases cs with
    | nil => simp at hp
    | cons c cs => exact hk c (by simp)
  have e' : rd_T35 l (rd cs 0) = rd_T35 m (rd cs 0) := e
  rw [e']
def bot (G : List NodeT) : List FactT := List.replicate G.length z35
theorem bot_at (G : List NodeT) (i : Int) : Qv (bot G) i = z35 := by
  show (List.replicate G.length _).getD i.toNat _ = _
  rw [List.getD_eq_getElem?_getD, List.getElem?_replicate]
  split <;> rfl
theorem bot_le (G : List NodeT) (m : List FactT) (i : Int) : FLe (Qv (bot G) i) (Qv m i) := by
  rw [bot_at]
  exact ⟨fun h => absurd h (by decide), fun h => absurd h (by decide), fun h => absurd h (by decide)⟩
structure OInv (R : List RuleT) (G : List NodeT) (O : List FlowT) (l : List Int) : Prop where
  len : O.length = G.length
  up : ∀ i, FLe (Qv (O.map toR) i) (Qv (stepL R G (O.map toR)) i)
  low : ∀ m : List FactT, (∀ i, FLe (Qv (stepL R G m) i) (Qv m i)) → ∀ i, FLe (Qv (O.map toR) i) (Qv m i)
  rest : ∀ i : Int, 0 ≤ i → i < (G.length : Int) → i ∉ l → Qv (O.map toR) i = Qv (stepL R G (O.map toR)) i
theorem OInv.start (R : List RuleT) (G : List NodeT) (l : List Int) (hl : ∀ i : Int, 0 ≤ i → i < (G.length : Int) → i ∈ l) : OInv R G (List.replicate G.length z36) l := by
  have e : (List.replicate G.length z36).map toR = bot G := by rw [List.map_replicate]; rfl
  exact ⟨by simp, fun i => by rw [e]; exact bot_le G _ i, fun m _ i => by rw [e]; exact bot_le G _ i, fun i h0 h1 hn => absurd (hl i h0 h1) hn⟩
theorem OInv.same {R : List RuleT} {G : List NodeT} {O : List FlowT} {l l' : List Int} {x : Int} (h : OInv R G O l) (hp : (x :: l').Perm l) (h0 : 0 ≤ x) (h1 : x < (G.length : Int)) (he : toR (flowAt O x) = mkF (Qx.p R (O.map toR) (nodeAt G x))) : OInv R G O l' := by
  refine ⟨h.len, h.up, h.low, fun i hi0 hi1 hn => ?_⟩
  by_cases e : i = x
  · subst e
    rw [fact_step R G _ i hi0 hi1, at_toR, he]
  · exact h.rest i hi0 hi1 (fun hm => by
      rcases List.mem_cons.1 (hp.mem_iff.2 hm) with r | r
      · exact e r
      · exact hn r)
theorem toR_set (O : List FlowT) (x : Int) (v : FlowT) (h0 : 0 ≤ x) (h1 : x < (O.length : Int)) (i : Int) (hi : 0 ≤ i) : Qv ((O.set x.toNat v).map toR) i = if x = i then toR v else Qv (O.map toR) i := by
  rw [at_toR, at_toR]
  show toR ((O.set x.toNat v).getD i.toNat _) = if x = i then toR v else toR (O.getD i.toNat _)
  rw [List.getD_eq_getElem?_getD, List.getD_eq_getElem?_getD, List.getElem?_set]
  by_cases h : x = i
  · subst h; rw [if_pos rfl, if_pos rfl, if_pos (by omega)]; rfl
  · rw [if_neg h, if_neg (by omega)]
theorem fact_neg (l : List FactT) (i : Int) : Qv l i = Qv l (i.toNat : Int) := by
  show l.getD i.toNat _ = l.getD ((i.toNat : Int).toNat) _
  rw [Int.toNat_natCast]
theorem OInv.diff {R : List RuleT} {G : List NodeT} (hf : Fit R G) {U : List (List Int)} (hU : UsersOk R G U) {O : List FlowT} {l l' l1 : List Int} {x : Int} (h : OInv R G O l) (hp : (x :: l').Perm l) (h0 : 0 ≤ x) (h1 : x < (G.length : Int)) (v : FlowT) (hv : toR v = mkF (Qx.p R (O.map toR) (nodeAt G x)))
    (hl1 : ∀ y ∈ l', y ∈ l1) (hl2 : ∀ y ∈ rowAt U x, y ∈ l1) : OInv R G (O.set x.toNat v) l1 ∧ (v ≠ flowAt O x → cnt (O.map toR) < cnt ((O.set x.toNat v).map toR)) := by
  have hs := fun i hi => toR_set O x v h0 (by rw [h.len]; exact h1) i hi
  have hx : Qv (stepL R G (O.map toR)) x = toR v := by rw [fact_step R G _ x h0 h1, hv]
  have grow : ∀ i, FLe (Qv (O.map toR) i) (Qv ((O.set x.toNat v).map toR) i) := fun i => by
    rw [fact_neg, fact_neg ((O.set x.toNat v).map toR)]
    rw [hs _ (by omega)]
    split
    · rename_i e
      rw [← e, ← hx]
      exact h.up x
    · exact FLe.refl _
  have hst := step_mono R G grow
  refine ⟨⟨by rw [List.length_set]; exact h.len, fun i => ?_, fun m hm i => ?_, fun i hi0 hi1 hn => ?_⟩, fun hne => ?_⟩
  · rw [fact_neg ((O.set x.toNat v).map toR)]
    rw [fact_neg (stepL R G ((O.set x.toNat v).map toR))]
    rw [hs _ (by omega)]
    split
    · rename_i e
      rw [← e, ← hx]
      exact hst x
    · exact (h.up _).trans (hst _)
  · rw [fact_neg, fact_neg m, hs _ (by omega)]
    split
    · rename_i e
      rw [← e, ← hx]
      exact (step_mono R G (h.low m hm) x).trans (hm x)
    · exact h.low m hm _
  · have hnu : i ∉ rowAt U x := fun hm => hn (hl2 i hm)
    have hud := hU.2.2.2 i hi0 hi1
    have eqs : Qv (stepL R G ((O.set x.toNat v).map toR)) i = Qv (stepL R G (O.map toR)) i := by
      rw [fact_step R G _ i hi0 hi1, fact_step R G _ i hi0 hi1]
      congr 1
      refine p_congr (fun c hc => ?_) (fun o => ?_) (hf.one i hi0 hi1) (hf.op i hi0 hi1).1
      · rw [hs c (hf.kids i hi0 hi1 c hc).1, if_neg (fun e : x = c => hnu (by rw [e]; exact hud.1 c hc))]
      · rw [hs _ (hf.call i hi0 hi1 o).2.2.1, if_neg (fun e : x = _ => hnu (by rw [e]; exact hud.2 o))]
    rw [eqs, hs i hi0]
    split
    · rename_i e
      rw [← e]; exact hx.symm
    · rename_i e
      exact h.rest i hi0 hi1 (fun hm => by
        rcases List.mem_cons.1 (hp.mem_iff.2 hm) with r | r
        · exact e r.symm
        · exact hn (hl1 i r))
  · have hc := lle_cnt (a := O.map toR) (b := (O.set x.toNat v).map toR) ⟨by simp, grow⟩
    rcases Nat.lt_or_ge (cnt (O.map toR)) (cnt ((O.set x.toNat v).map toR)) with q | q
    · exact q
    · have e := hc.2 q
      have := congrArg (fun l => Qv l x) e
      have this : Qv (O.map toR) x = Qv ((O.set x.toNat v).map toR) x := this
      rw [hs x h0, if_pos rfl, at_toR] at this
      exact absurd (by have := congrArg ofR this; rw [ofR_toR, ofR_toR] at this; exact this.symm) hne
def itL (R : List RuleT) (G : List NodeT) : Nat → List FactT
  | 0 => bot G
  | t + 1 => stepL R G (itL R G t)
theorem itL_length (R : List RuleT) (G : List NodeT) : ∀ t, (itL R G t).length = G.length
  | 0 => by simp [itL, bot]
  | t + 1 => step_length R G _
theorem itL_up (R : List RuleT) (G : List NodeT) : ∀ t i, FLe (Qv (itL R G t) i) (Qv (itL R G (t + 1)) i)
  | 0, i => bot_le G _ i
  | t + 1, i => step_mono R G (itL_up R G t) i
theorem itL_low (R : List RuleT) (G : List NodeT) (m : List FactT) (hm : ∀ i, FLe (Qv (stepL R G m) i) (Qv m i)) : ∀ t i, FLe (Qv (itL R G t) i) (Qv m i)
  | 0, i => bot_le G _ i
  | t + 1, i => (step_mono R G (itL_low R G m hm t) i).trans (hm i)
theorem itL_cnt (R : List RuleT) (G : List NodeT) : ∀ t, (itL R G (t + 1) = itL R G t) ∨ t + 1 ≤ cnt (itL R G (t + 1)) := by
  intro t
  induction t with
  | zero =>
    have h := lle_cnt (a := itL R G 0) (b := itL R G (0 + 1)) ⟨by rw [itL_length, itL_length], itL_up R G 0⟩
    by_cases e : itL R G (0 + 1) = itL R G 0
    · exact .inl e
    · refine .inr ?_
      rcases Nat.lt_or_ge (cnt (itL R G 0)) (cnt (itL R G (0 + 1))) with q | q
      · exact Nat.lt_of_le_of_lt (Nat.zero_le _) q
      · exact absurd (h.2 q).symm e
  | succ t ih =>
    have h := lle_cnt (a := itL R G (t + 1)) (b := itL R G (t + 1 + 1)) ⟨by rw [itL_length, itL_length], itL_up R G (t + 1)⟩
    by_cases e : itL R G (t + 1 + 1) = itL R G (t + 1)
    · exact .inl e
    · refine .inr ?_
      rcases ih with q | q
      · exact absurd (congrArg (stepL R G) q) e
      · rcases Nat.lt_or_ge (cnt (itL R G (t + 1))) (cnt (itL R G (t + 1 + 1))) with r | r
        · omega
        · exact absurd (h.2 r).symm e
def leastL (R : List RuleT) (G : List NodeT) : List FactT := itL R G (3 * G.length)
theorem leastL_fix (R : List RuleT) (G : List NodeT) : stepL R G (leastL R G) = leastL R G := by
  rcases itL_cnt R G (3 * G.length) with q | q
  · exact q
  · have := cnt_le (itL R G (3 * G.length + 1))
    rw [itL_length] at this
    omega
theorem lle_anti {a b : List FactT} (hl : a.length = b.length) (h : ∀ i, FLe (Qv a i) (Qv b i)) (h' : ∀ i, FLe (Qv b i) (Qv a i)) : a = b :=
  (lle_cnt ⟨hl, h⟩).2 (lle_cnt ⟨hl.symm, h'⟩).1
theorem least_uniq {R : List RuleT} {G : List NodeT} {L : List FactT} (hl : L.length = G.length) (hfix : ∀ i, FLe (Qv (stepL R G L) i) (Qv L i)) (hlow : ∀ m : List FactT, (∀ i, FLe (Qv (stepL R G m) i) (Qv m i)) → ∀ i, FLe (Qv L i) (Qv m i)) : L = leastL R G :=
  lle_anti (by rw [hl]; exact (itL_length R G _).symm) (hlow _ (fun i => by rw [leastL_fix]; exact FLe.refl _)) (itL_low R G L hfix _)
theorem OInv.fin {R : List RuleT} {G : List NodeT} {O : List FlowT} (h : OInv R G O []) : O = (leastL R G).map ofR := by
  have e : O.map toR = leastL R G := least_uniq (by rw [List.length_map]; exact h.len) (fun i => by
    rw [fact_neg, fact_neg (O.map toR)]
    by_cases hi : (i.toNat : Int) < (G.length : Int)
    · rw [← h.rest _ (by omega) hi (by simp)]; exact FLe.refl _
    · rw [fact_out (stepL R G (O.map toR)) _ (by rw [step_length]; omega)]
      exact ⟨fun q => absurd q (by decide), fun q => absurd q (by decide), fun q => absurd q (by decide)⟩) h.low
  rw [← e, List.map_map]
  have : ofR ∘ toR = id := rfl
  rw [this, List.map_id]
def flow_Of.f (k : Nat) (R : List RuleT) (G : List NodeT) : Option (List FlowT) := if fitB R G = true ∧ 20000 ≤ k then some ((leastL R G).map ofR) else none
theorem flow_Of.mono : ∀ R G k, LeO (flow_Of.f k R G) (flow_Of.f (k + 1) R G) := by
  intro R G k r h
  unfold flow_Of.f at h ⊢
  by_cases c : fitB R G = true ∧ 20000 ≤ k
  · rw [if_pos c] at h
    rw [if_pos ⟨c.1, by omega⟩]
    exact h
  · rw [if_neg c] at h
    cases h
end Go.Proofs.Ytnaanamibfpbpaa.V
namespace Go.Proofs.Ytnaanamibfpbpaa.V
open Go.RowKit Go.Proofs.YtnaanamibfpbpaaW.PrintWords Go.Proofs.YtnaanamibfpbpaaW.PrintLast Go.Proofs.YtnaanamibfpbpaaW.PrintMore
set_option linter.unusedVariables false
set_option linter.unusedSimpArgs false
def IsQ (base : Nat) (w : World) (g : Nat) (l : List Int) (b : List Bool) : Prop :=
  ∃ vl vb, w.heap[g]? = some (.cells #[vl, vb] 59 (0, 0)) ∧ base ≤ g ∧ w.ownsRow base 3 1 vl l.length (nums .i64 l) ∧ w.ownsRow base 4 1 vb b.length (encs Value.bool b)
theorem IsQ.below {base : Nat} {w w1 : World} {g : Nat} {l : List Int} {b : List Bool} (h : IsQ base w g l b) (hb : Below w.heap.size w w1) : IsQ base w1 g l b := by
  obtain ⟨vl, vb, h1, h2, h3, h4⟩ := h
  exact ⟨vl, vb, Qo h1 hb, h2, pw_own_below h3 hb, pw_own_below h4 hb⟩
theorem IsQ.len {base : Nat} {w : World} {g : Nat} {l : List Int} {b : List Bool} (h : IsQ base w g l b) : ∃ A c B d, w.cell? ⟨g, 0, none⟩ = some (.slice A l.length c) ∧ w.cell? ⟨g, 1, none⟩ = some (.slice B b.length d) := by
  obtain ⟨vl, vb, h1, h2, h3, h4⟩ := h
  obtain ⟨A, c, rfl⟩ := own_slice h3
  obtain ⟨B, d, rfl⟩ := own_slice h4
  exact ⟨A, c, B, d, (Qb h1 0).trans rfl, (Qb h1 1).trans rfl⟩
theorem IsQ.form {base : Nat} {w : World} {g : Nat} {l : List Int} {b : List Bool} (h : IsQ base w g l b) (hl : 0 < l.length) : ∃ gl c vb, w.heap[g]? = some (.cells #[.slice (some ⟨gl, 0, none⟩) l.length c, vb] 59 (0, 0)) ∧ base ≤ g ∧ base ≤ gl ∧ gl ≠ g ∧
    w.ownsRow base 3 1 (.slice (some ⟨gl, 0, none⟩) l.length c) l.length (nums .i64 l) ∧ w.ownsRow base 4 1 vb b.length (encs Value.bool b) ∧ vb.ownBlock ≠ some gl := by
  obtain ⟨vl, vb, h1, h2, h3, h4⟩ := h
  rcases h3.2 with ⟨rfl, hn⟩ | ⟨gl, cap, cur, rfl, hb, hh, _⟩
  · omega
  · refine ⟨gl, cap, vb, h1, h2, hb, blk_ne hh h1 (by decide), h3, h4, fun e => ?_⟩
    rcases own_type_ne h4 h3 (by decide) with e1 | e1
    · rw [e1] at e; cases e
    · exact e1 (by rw [e]; rfl)
set_option maxHeartbeats 1000000 in
theorem queue_Len {base : Nat} {w : World} {g : Nat} {l : List Int} {b : List Bool} (h : IsQ base w g l b) :
    Calls Try.prog 24 #[.pointer (some ⟨g, 0, none⟩)] w fun e w' => e = .returned (.int .i64 (l.length : Int)) ∧ w' = w := by
  obtain ⟨A, c, B, d, x0, x1⟩ := h.len
  clear h
  go_enter Try.func24, Try.ntmps24
  go_wp2
  go_ret
  exact ⟨rfl, rfl⟩
set_option maxHeartbeats 1000000 in
theorem queue_Less {base : Nat} {w : World} {g : Nat} {l : List Int} {b : List Bool} (h : IsQ base w g l b) (i k : Int) (hi0 : 0 ≤ i) (hi : i < (l.length : Int)) (hk0 : 0 ≤ k) (hk : k < (l.length : Int)) :
    Calls Try.prog 59 #[.pointer (some ⟨g, 0, none⟩), .int .i64 i, .int .i64 k] w fun e w' => e = .returned (.bool (decide (rd l i < rd l k))) ∧ Drawn0 w w' := by
  obtain ⟨gl, c, vb, h1, h2, h3, h4, h5, h6, h7⟩ := h.form (by omega)
  have x0 : w.cell? ⟨g, 0, none⟩ = some (.slice (some ⟨gl, 0, none⟩) l.length c) := (Qb h1 0).trans rfl
  have y0 := (own_at h5 i hi0 hi).1
  have y1 := (own_at h5 k hk0 hk).1
  replace hi0 := eq_true hi0
  replace hk0 := eq_true hk0
  replace hi := eq_true hi
  replace hk := eq_true hk
  clear h h1 h2 h3 h4 h5 h6 h7
  go_enter Try.func59, Try.ntmps59
  go_wp2
  go_quiet (fail)
  go_wp2
  go_ret
  exact ⟨rfl, by repeat (first | exact Drawn0.refl _ | apply Drawn0.step)⟩
theorem IsQ.put {base : Nat} {w1 : World} {g gb d : Nat} {l' : List Int} {b : List Bool} {vl v1 : Value} (hb : w1.heap[g]? = some (.cells #[vl, .slice (some ⟨gb, 0, none⟩) b.length d] 59 (0, 0))) (hg : base ≤ g)
    (h1 : w1.ownsRow base 3 1 v1 l'.length (nums .i64 l')) (h2 : w1.ownsRow base 4 1 (.slice (some ⟨gb, 0, none⟩) b.length d) b.length (encs Value.bool b)) (hgb : gb ≠ g) (i : Int) (x : Bool) :
    IsQ base ((w1.setCell ⟨g, 0, none⟩ v1).setCell ⟨gb, i.toNat, none⟩ (.bool x)) g l' (b.set i.toNat x) := by
  have n1 : some g ≠ v1.ownBlock := own_ne h1 hb (by decide)
  have n2 : some gb ≠ v1.ownBlock := fun e => by
    rcases own_type_ne h1 h2 (by decide) with q | q
    · rw [q] at e; cases e
    · exact q (by rw [← e]; rfl)
  refine ⟨v1, .slice (some ⟨gb, 0, none⟩) b.length d, ?_, hg, ?_, ?_⟩
  · exact Qn (Qq hb 0 v1 rfl) hgb.symm _
  · exact own_setCell (own_setCell h1 n1 _) n2 _
  · have q := own_put_of (enc := Value.bool) (own_setCell (p := ⟨g, 0, none⟩) h2 (fun e => hgb (by simpa [Value.ownBlock] using e.symm)) v1) i x
    exact q
theorem IsQ.marks {base : Nat} {w : World} {g : Nat} {l : List Int} {b : List Bool} (h : IsQ base w g l b) (hl : 0 < b.length) : ∃ vl gb d, w.heap[g]? = some (.cells #[vl, .slice (some ⟨gb, 0, none⟩) b.length d] 59 (0, 0)) ∧ base ≤ g ∧ base ≤ gb ∧ gb ≠ g ∧
    w.ownsRow base 3 1 vl l.length (nums .i64 l) ∧ w.ownsRow base 4 1 (.slice (some ⟨gb, 0, none⟩) b.length d) b.length (encs Value.bool b) ∧ vl.ownBlock ≠ some gb := by
  obtain ⟨vl, vb, h1, h2, h3, h4⟩ := h
  rcases h4.2 with ⟨rfl, hn⟩ | ⟨gb, cap, cur, rfl, hb, hh, _⟩
  · omega
  · refine ⟨vl, gb, cap, h1, h2, hb, blk_ne hh h1 (by decide), h3, h4, fun e => ?_⟩
    rcases own_type_ne h3 h4 (by decide) with e1 | e1
    · rw [e1] at e; cases e
    · exact e1 (by rw [e]; rfl)
end Go.Proofs.Ytnaanamibfpbpaa.V
namespace Go.Proofs.Ytnaanamibfpbpaa.V
open Go.RowKit Go.Proofs.YtnaanamibfpbpaaW.PrintWords Go.Proofs.YtnaanamibfpbpaaW.PrintLast Go.Proofs.YtnaanamibfpbpaaW.PrintMore
set_option linter.unusedVariables false
set_option linter.unusedSimpArgs false
def qswap_T0 : Bool × List (List Nat × List Nat) := (true, [([], []), ([0], [0]), ([1], [1]), ([2], [2]), ([], []), ([], []), ([5], [5]), ([6], [6]), ([7], [7]), ([], []), ([], []), ([10], [10]), ([11], [11]), ([12], [12]), ([], []), ([13, 14], [13, 14]), ([15], [15]), ([], []), ([17], [17]), ([18], [18]), ([19], [19]), ([], []), ([20, 21], [20, 21]), ([22], [22]), ([3, 4, 0, 1, 2, 3, 4, 8, 10, 11, 12, 13, 14, 15, 16, 20, 23], [3, 4]), ([24, 16, 0, 1, 2, 3, 4, 8, 10, 11, 12, 13, 14, 15, 16, 20, 23], [16, 24]), ([8, 9, 0, 1, 2, 3, 4, 5, 6, 7, 8, 9, 10, 11, 12, 13, 14, 15, 16, 17, 18, 19, 20, 21, 22, 23, 24, 25], [8, 9]), ([26, 23, 25, 0, 1, 2, 3, 4, 5, 6, 7, 8, 9, 10, 11, 12, 13, 14, 15, 16, 17, 18, 19, 20, 21, 22, 23, 24, 25], [23, 26])])
def qswap_B0 : List Nat := [0, 1, 3, 7, 0, 0, 32, 96, 224, 0, 0, 1024, 3072, 7168, 0, 31744, 64512, 0, 131072, 393216, 917504, 0, 4063232, 8257536, 16776703, 33553919, 67108863, 134217727]
theorem qswap_tab0 : rtab .any (opsOf Try.f62 0) = qswap_T0 := by kernel_rfl
theorem qswap_bits0 : waitsOk qswap_T0.2 qswap_B0 = true := by kernel_rfl
def swapL (l : List Int) (i k : Int) : List Int := (l.set i.toNat (rd l k)).set k.toNat (rd l i)
theorem swapL_length (l : List Int) (i k : Int) : (swapL l i k).length = l.length := by simp [swapL]
set_option maxHeartbeats 4000000 in
set_option maxRecDepth 100000 in
theorem queue_Swap {base : Nat} {w : World} {g : Nat} {l : List Int} {b : List Bool} (h : IsQ base w g l b) (i k : Int) (hi0 : 0 ≤ i) (hi : i < (l.length : Int)) (hk0 : 0 ≤ k) (hk : k < (l.length : Int)) :
    Calls Try.prog 62 #[.pointer (some ⟨g, 0, none⟩), .int .i64 i, .int .i64 k] w fun e w' => e = .returned (.tuple #[]) ∧ IsQ base w' g (swapL l i k) b ∧ Below base w w' := by
  obtain ⟨gl, c, vb, h1, h2, h3, h4, h5, h6, h7⟩ := h.form (by omega)
  have x0 : w.cell? ⟨g, 0, none⟩ = some (.slice (some ⟨gl, 0, none⟩) l.length c) := (Qb h1 0).trans rfl
  have y0 := own_at h5 i hi0 hi
  have y1 := own_at h5 k hk0 hk
  have HE : Qa (IsQ base (((w.drew).setCell ⟨gl, i.toNat, none⟩ (.int .i64 (rd l k))).setCell ⟨gl, k.toNat, none⟩ (.int .i64 (rd l i))) g (swapL l i k) b ∧ Below base w (((w.drew).setCell ⟨gl, i.toNat, none⟩ (.int .i64 (rd l k))).setCell ⟨gl, k.toNat, none⟩ (.int .i64 (rd l i)))) := by
    refine ⟨⟨_, vb, Qn (Qn (Qc h1) h4.symm _) h4.symm _, h2, ?_, ?_⟩, ?_⟩
    · have q1 := own_put (W := w.drew) (pw_own_drewN h5 1) i (rd l k)
      rw [List.length_set] at q1
      have q2 := own_put (xs := l.set i.toNat (rd l k)) (by rw [List.length_set]; exact q1) k (rd l i)
      rw [List.length_set] at q2
      exact q2
    · exact own_setCell (own_setCell (pw_own_drewN h6 1) (fun e => h7 e.symm) _) (fun e => h7 e.symm) _
    · exact ((Ql (Below.refl _ _) 1).setCell (p := ⟨gl, i.toNat, none⟩) h3 _).setCell (p := ⟨gl, k.toNat, none⟩) h3 _
  have z0 : w.drew.frozen? ⟨gl, i.toNat, none⟩ = false := y0.2
  have q1 := own_put (W := w.drew) (pw_own_drewN h5 1) i (rd l k)
  have z1 := own_at (n := l.length) (xs := l.set i.toNat (rd l k)) (by rw [List.length_set] at q1; exact q1) k hk0 hk
  replace hi0 := eq_true hi0
  replace hk0 := eq_true hk0
  replace hi := eq_true hi
  replace hk := eq_true hk
  clear h h1 h2 h3 h4 h5 h6 h7 q1
  have hu51 := Try.underlying51
  go_enter Try.func62, Try.ntmps62
  go_upto_region 0 with (fail)
  refine start_ (n := 28) (S := fun w' => w'.cell? ⟨g, 0, none⟩ = some (.slice (some ⟨gl, 0, none⟩) l.length c) ∧ w'.cell? ⟨gl, i.toNat, none⟩ = some (.int .i64 (rd l i)) ∧ w'.cell? ⟨gl, k.toNat, none⟩ = some (.int .i64 (rd l k))) (ds := [25, 27]) #[Y, Y, Y, Y, Y, Y, Y, Y, Y, Y, Y, Y, Y, Y, Y, Y, Y, Y, Y, Y, Y, Y, Y, Y, Y, Y, Y, Y] (by kernel_rfl) rfl rfl ⟨x0, y0.1, y1.1⟩ (fun hHeld => ?_); refine with_tabW qswap_tab0 qswap_bits0 (fun HT_ HW_ => ?_)
  clear y0 y1
  generalize w.drew = W0 at HE z0 z1 hHeld ⊢
  refine pure_ (i := 0) (N := (some 6)) (v := ?_) (a' := ?_) #[J, Y, Y, Y, Y, Y, Y, Y, Y, Y, Y, Y, Y, Y, Y, Y, Y, Y, Y, Y, Y, Y, Y, Y, Y, Y, Y, Y] rfl rfl (Qm HT_.out (by kernel_rfl)) (fun _ _ _ h => h) (Or.inl ⟨by rfl, ?_⟩) ?_ ?_
  rotate_left
  ·
   intro w'
   go_simp
   with_reducible rfl
  rotate_left
  ·
   simp only [Act.put, List.setIfInBounds_toArray, List.set_cons_zero, List.set_cons_succ, i64_w, i32_w]
   rfl
  refine pure_ (i := 1) (N := (some 7)) (v := ?_) (a' := ?_) #[J, J, Y, Y, Y, Y, Y, Y, Y, Y, Y, Y, Y, Y, Y, Y, Y, Y, Y, Y, Y, Y, Y, Y, Y, Y, Y, Y] rfl rfl (Qm HT_.out (by kernel_rfl)) (fun _ _ _ h => h) (Or.inl ⟨by rfl, ?_⟩) ?_ ?_
  rotate_left
  ·
   intro w'
   go_simp
   with_reducible rfl
  rotate_left
  ·
   simp only [Act.put, List.setIfInBounds_toArray, List.set_cons_zero, List.set_cons_succ, i64_w, i32_w]
   rfl
  refine pure_ (i := 2) (N := (some 8)) (v := ?_) (a' := ?_) #[J, J, J, Y, Y, Y, Y, Y, Y, Y, Y, Y, Y, Y, Y, Y, Y, Y, Y, Y, Y, Y, Y, Y, Y, Y, Y, Y] rfl rfl (Qm HT_.out (by kernel_rfl)) (fun _ _ _ h => h) (Or.inl ⟨by rfl, ?_⟩) ?_ ?_
  rotate_left
  ·
   intro w'
   go_simp
   with_reducible rfl
  rotate_left
  ·
   simp only [Act.put, List.setIfInBounds_toArray, List.set_cons_zero, List.set_cons_succ, i64_w, i32_w]
   rfl
  refine take_ (i := 3) (N := (some 9)) (v := ?_) (a' := ?_) #[J, J, J, J, Y, Y, Y, Y, Y, Y, Y, Y, Y, Y, Y, Y, Y, Y, Y, Y, Y, Y, Y, Y, Y, Y, Y, Y] rfl rfl (Qk1 HT_.out HW_.out (by kernel_rfl)) (fun _ _ _ h => h) (Or.inl ⟨by rfl, ?_⟩) hHeld ?_ ?_
  rotate_left
  ·
   rintro w' ⟨s0, s1, s2⟩
   go_simp
   with_reducible rfl
  rotate_left
  ·
   simp only [Act.put, List.setIfInBounds_toArray, List.set_cons_zero, List.set_cons_succ, i64_w, i32_w]
   rfl
  refine pure_ (i := 4) (N := (some 10)) (v := ?_) (a' := ?_) #[J, J, J, J, J, Y, Y, Y, Y, Y, Y, Y, Y, Y, Y, Y, Y, Y, Y, Y, Y, Y, Y, Y, Y, Y, Y, Y] rfl rfl (Qm HT_.out (by kernel_rfl)) (fun _ _ _ h => h) (Or.inl ⟨by rfl, ?_⟩) ?_ ?_
  rotate_left
  ·
   intro w'
   go_simp
   with_reducible rfl
  rotate_left
  ·
   simp only [Act.put, List.setIfInBounds_toArray, List.set_cons_zero, List.set_cons_succ, i64_w, i32_w]
   rfl
  refine pure_ (i := 5) (N := (some 11)) (v := ?_) (a' := ?_) #[J, J, J, J, J, J, Y, Y, Y, Y, Y, Y, Y, Y, Y, Y, Y, Y, Y, Y, Y, Y, Y, Y, Y, Y, Y, Y] rfl rfl (Qm HT_.out (by kernel_rfl)) (fun _ _ _ h => h) (Or.inl ⟨by rfl, ?_⟩) ?_ ?_
  rotate_left
  ·
   intro w'
   go_simp
   with_reducible rfl
  rotate_left
  ·
   simp only [Act.put, List.setIfInBounds_toArray, List.set_cons_zero, List.set_cons_succ, i64_w, i32_w]
   rfl
  refine pure_ (i := 6) (N := (some 12)) (v := ?_) (a' := ?_) #[J, J, J, J, J, J, J, Y, Y, Y, Y, Y, Y, Y, Y, Y, Y, Y, Y, Y, Y, Y, Y, Y, Y, Y, Y, Y] rfl rfl (Qm HT_.out (by kernel_rfl)) (fun _ _ _ h => h) (Or.inl ⟨by rfl, ?_⟩) ?_ ?_
  rotate_left
  ·
   intro w'
   go_simp
   with_reducible rfl
  rotate_left
  ·
   simp only [Act.put, List.setIfInBounds_toArray, List.set_cons_zero, List.set_cons_succ, i64_w, i32_w]
   rfl
  refine pure_ (i := 7) (N := (some 13)) (v := ?_) (a' := ?_) #[J, J, J, J, J, J, J, J, Y, Y, Y, Y, Y, Y, Y, Y, Y, Y, Y, Y, Y, Y, Y, Y, Y, Y, Y, Y] rfl rfl (Qm HT_.out (by kernel_rfl)) (fun _ _ _ h => h) (Or.inl ⟨by rfl, ?_⟩) ?_ ?_
  rotate_left
  ·
   intro w'
   go_simp
   with_reducible rfl
  rotate_left
  ·
   simp only [Act.put, List.setIfInBounds_toArray, List.set_cons_zero, List.set_cons_succ, i64_w, i32_w]
   rfl
  refine take_ (i := 8) (N := (some 14)) (v := ?_) (a' := ?_) #[J, J, J, J, J, J, J, J, J, Y, Y, Y, Y, Y, Y, Y, Y, Y, Y, Y, Y, Y, Y, Y, Y, Y, Y, Y] rfl rfl (Qk1 HT_.out HW_.out (by kernel_rfl)) (fun _ _ _ h => h) (Or.inl ⟨by rfl, ?_⟩) hHeld ?_ ?_
  rotate_left
  ·
   rintro w' ⟨s0, s1, s2⟩
   go_simp
   with_reducible rfl
  rotate_left
  ·
   simp only [Act.put, List.setIfInBounds_toArray, List.set_cons_zero, List.set_cons_succ, i64_w, i32_w]
   rfl
  refine pure_ (i := 9) (N := (some 15)) (v := ?_) (a' := ?_) #[J, J, J, J, J, J, J, J, J, J, Y, Y, Y, Y, Y, Y, Y, Y, Y, Y, Y, Y, Y, Y, Y, Y, Y, Y] rfl rfl (Qm HT_.out (by kernel_rfl)) (fun _ _ _ h => h) (Or.inl ⟨by rfl, ?_⟩) ?_ ?_
  rotate_left
  ·
   intro w'
   go_simp
   with_reducible rfl
  rotate_left
  ·
   simp only [Act.put, List.setIfInBounds_toArray, List.set_cons_zero, List.set_cons_succ, i64_w, i32_w]
   rfl
  refine pure_ (i := 10) (N := (some 16)) (v := ?_) (a' := ?_) #[J, J, J, J, J, J, J, J, J, J, J, Y, Y, Y, Y, Y, Y, Y, Y, Y, Y, Y, Y, Y, Y, Y, Y, Y] rfl rfl (Qm HT_.out (by kernel_rfl)) (fun _ _ _ h => h) (Or.inl ⟨by rfl, ?_⟩) ?_ ?_
  rotate_left
  ·
   intro w'
   go_simp
   with_reducible rfl
  rotate_left
  ·
   simp only [Act.put, List.setIfInBounds_toArray, List.set_cons_zero, List.set_cons_succ, i64_w, i32_w]
   rfl
  refine pure_ (i := 11) (N := (some 17)) (v := ?_) (a' := ?_) #[J, J, J, J, J, J, J, J, J, J, J, J, Y, Y, Y, Y, Y, Y, Y, Y, Y, Y, Y, Y, Y, Y, Y, Y] rfl rfl (Qm HT_.out (by kernel_rfl)) (fun _ _ _ h => h) (Or.inl ⟨by rfl, ?_⟩) ?_ ?_
  rotate_left
  ·
   intro w'
   go_simp
   with_reducible rfl
  rotate_left
  ·
   simp only [Act.put, List.setIfInBounds_toArray, List.set_cons_zero, List.set_cons_succ, i64_w, i32_w]
   rfl
  refine pure_ (i := 12) (N := (some 18)) (v := ?_) (a' := ?_) #[J, J, J, J, J, J, J, J, J, J, J, J, J, Y, Y, Y, Y, Y, Y, Y, Y, Y, Y, Y, Y, Y, Y, Y] rfl rfl (Qm HT_.out (by kernel_rfl)) (fun _ _ _ h => h) (Or.inl ⟨by rfl, ?_⟩) ?_ ?_
  rotate_left
  ·
   intro w'
   go_simp
   with_reducible rfl
  rotate_left
  ·
   simp only [Act.put, List.setIfInBounds_toArray, List.set_cons_zero, List.set_cons_succ, i64_w, i32_w]
   rfl
  refine take_ (i := 13) (N := (some 19)) (v := ?_) (a' := ?_) #[J, J, J, J, J, J, J, J, J, J, J, J, J, J, Y, Y, Y, Y, Y, Y, Y, Y, Y, Y, Y, Y, Y, Y] rfl rfl (Qk1 HT_.out HW_.out (by kernel_rfl)) (fun _ _ _ h => h) (Or.inl ⟨by rfl, ?_⟩) hHeld ?_ ?_
  rotate_left
  ·
   rintro w' ⟨s0, s1, s2⟩
   go_simp
   with_reducible rfl
  rotate_left
  ·
   simp only [Act.put, List.setIfInBounds_toArray, List.set_cons_zero, List.set_cons_succ, i64_w, i32_w]
   rfl
  refine pure_ (i := 14) (N := (some 20)) (v := ?_) (a' := ?_) #[J, J, J, J, J, J, J, J, J, J, J, J, J, J, J, Y, Y, Y, Y, Y, Y, Y, Y, Y, Y, Y, Y, Y] rfl rfl (Qm HT_.out (by kernel_rfl)) (fun _ _ _ h => h) (Or.inl ⟨by rfl, ?_⟩) ?_ ?_
  rotate_left
  ·
   intro w'
   go_simp
   with_reducible rfl
  rotate_left
  ·
   simp only [Act.put, List.setIfInBounds_toArray, List.set_cons_zero, List.set_cons_succ, i64_w, i32_w]
   rfl
  refine pure_ (i := 15) (N := (some 21)) (v := ?_) (a' := ?_) #[J, J, J, J, J, J, J, J, J, J, J, J, J, J, J, J, Y, Y, Y, Y, Y, Y, Y, Y, Y, Y, Y, Y] rfl rfl (Qm HT_.out (by kernel_rfl)) (fun _ _ _ h => h) (Or.inl ⟨by rfl, ?_⟩) ?_ ?_
  rotate_left
  ·
   intro w'
   go_simp
   with_reducible rfl
  rotate_left
  ·
   simp only [Act.put, List.setIfInBounds_toArray, List.set_cons_zero, List.set_cons_succ, i64_w, i32_w]
   rfl
  refine take_ (i := 16) (N := (some 22)) (v := ?_) (a' := ?_) #[J, J, J, J, J, J, J, J, J, J, J, J, J, J, J, J, J, Y, Y, Y, Y, Y, Y, Y, Y, Y, Y, Y] rfl rfl (Qk1 HT_.out HW_.out (by kernel_rfl)) (fun _ _ _ h => h) (Or.inl ⟨by rfl, ?_⟩) hHeld ?_ ?_
  rotate_left
  ·
   rintro w' ⟨s0, s1, s2⟩
   go_simp
   with_reducible rfl
  rotate_left
  ·
   simp only [Act.put, List.setIfInBounds_toArray, List.set_cons_zero, List.set_cons_succ, i64_w, i32_w]
   rfl
  refine pure_ (i := 17) (N := (some 23)) (v := ?_) (a' := ?_) #[J, J, J, J, J, J, J, J, J, J, J, J, J, J, J, J, J, J, Y, Y, Y, Y, Y, Y, Y, Y, Y, Y] rfl rfl (Qm HT_.out (by kernel_rfl)) (fun _ _ _ h => h) (Or.inl ⟨by rfl, ?_⟩) ?_ ?_
  rotate_left
  ·
   intro w'
   go_simp
   with_reducible rfl
  rotate_left
  ·
   simp only [Act.put, List.setIfInBounds_toArray, List.set_cons_zero, List.set_cons_succ, i64_w, i32_w]
   rfl
  refine pure_ (i := 18) (N := (some 24)) (v := ?_) (a' := ?_) #[J, J, J, J, J, J, J, J, J, J, J, J, J, J, J, J, J, J, J, Y, Y, Y, Y, Y, Y, Y, Y, Y] rfl rfl (Qm HT_.out (by kernel_rfl)) (fun _ _ _ h => h) (Or.inl ⟨by rfl, ?_⟩) ?_ ?_
  rotate_left
  ·
   intro w'
   go_simp
   with_reducible rfl
  rotate_left
  ·
   simp only [Act.put, List.setIfInBounds_toArray, List.set_cons_zero, List.set_cons_succ, i64_w, i32_w]
   rfl
  refine pure_ (i := 19) (N := (some 25)) (v := ?_) (a' := ?_) #[J, J, J, J, J, J, J, J, J, J, J, J, J, J, J, J, J, J, J, J, Y, Y, Y, Y, Y, Y, Y, Y] rfl rfl (Qm HT_.out (by kernel_rfl)) (fun _ _ _ h => h) (Or.inl ⟨by rfl, ?_⟩) ?_ ?_
  rotate_left
  ·
   intro w'
   go_simp
   with_reducible rfl
  rotate_left
  ·
   simp only [Act.put, List.setIfInBounds_toArray, List.set_cons_zero, List.set_cons_succ, i64_w, i32_w]
   rfl
  refine take_ (i := 20) (N := (some 26)) (v := ?_) (a' := ?_) #[J, J, J, J, J, J, J, J, J, J, J, J, J, J, J, J, J, J, J, J, J, Y, Y, Y, Y, Y, Y, Y] rfl rfl (Qk1 HT_.out HW_.out (by kernel_rfl)) (fun _ _ _ h => h) (Or.inl ⟨by rfl, ?_⟩) hHeld ?_ ?_
  rotate_left
  ·
   rintro w' ⟨s0, s1, s2⟩
   go_simp
   with_reducible rfl
  rotate_left
  ·
   simp only [Act.put, List.setIfInBounds_toArray, List.set_cons_zero, List.set_cons_succ, i64_w, i32_w]
   rfl
  refine pure_ (i := 21) (N := (some 27)) (v := ?_) (a' := ?_) #[J, J, J, J, J, J, J, J, J, J, J, J, J, J, J, J, J, J, J, J, J, J, Y, Y, Y, Y, Y, Y] rfl rfl (Qm HT_.out (by kernel_rfl)) (fun _ _ _ h => h) (Or.inl ⟨by rfl, ?_⟩) ?_ ?_
  rotate_left
  ·
   intro w'
   go_simp
   with_reducible rfl
  rotate_left
  ·
   simp only [Act.put, List.setIfInBounds_toArray, List.set_cons_zero, List.set_cons_succ, i64_w, i32_w]
   rfl
  refine pure_ (i := 22) (N := (some 28)) (v := ?_) (a' := ?_) #[J, J, J, J, J, J, J, J, J, J, J, J, J, J, J, J, J, J, J, J, J, J, J, Y, Y, Y, Y, Y] rfl rfl (Qm HT_.out (by kernel_rfl)) (fun _ _ _ h => h) (Or.inl ⟨by rfl, ?_⟩) ?_ ?_
  rotate_left
  ·
   intro w'
   go_simp
   with_reducible rfl
  rotate_left
  ·
   simp only [Act.put, List.setIfInBounds_toArray, List.set_cons_zero, List.set_cons_succ, i64_w, i32_w]
   rfl
  refine take_ (i := 23) (N := (some 29)) (v := ?_) (a' := ?_) #[J, J, J, J, J, J, J, J, J, J, J, J, J, J, J, J, J, J, J, J, J, J, J, J, Y, Y, Y, Y] rfl rfl (Qk1 HT_.out HW_.out (by kernel_rfl)) (fun _ _ _ h => h) (Or.inl ⟨by rfl, ?_⟩) hHeld ?_ ?_
  rotate_left
  ·
   rintro w' ⟨s0, s1, s2⟩
   go_simp
   with_reducible rfl
  rotate_left
  ·
   simp only [Act.put, List.setIfInBounds_toArray, List.set_cons_zero, List.set_cons_succ, i64_w, i32_w]
   rfl
  refine pure_ (i := 24) (N := (some 30)) (v := ?_) (a' := ?_) #[J, J, J, J, J, J, J, J, J, J, J, J, J, J, J, J, J, J, J, J, J, J, J, J, J, Y, Y, Y] rfl rfl (Qm HT_.out (by kernel_rfl)) (fun _ _ _ h => h) (Or.inl ⟨by rfl, ?_⟩) ?_ ?_
  rotate_left
  ·
   intro w'
   go_simp
   with_reducible rfl
  rotate_left
  ·
   simp only [Act.put, List.setIfInBounds_toArray, List.set_cons_zero, List.set_cons_succ, i64_w, i32_w]
   rfl
  have s1 := hHeld.2.1
  refine last_ (i := 25) (N := none) #[J, J, J, J, J, J, J, J, J, J, J, J, J, J, J, J, J, J, J, J, J, J, J, J, J, J, Y, Y] rfl rfl (one_of HT_.out (by kernel_rfl)) (by decide) (fun K hK => ?_)
  refine skip_ (w1 := ?_) (by rfl) rfl ?_ ?_
  rotate_left
  ·
   go_simp
   rfl
  refine hK.out _ _ ?_
  clear hK K
  clear s1 hHeld z0
  generalize W0.setCell ⟨gl, i.toNat, none⟩ (.int .i64 (rd l k)) = W1 at HE z1 ⊢
  obtain ⟨z1, z2⟩ := z1
  refine pure_ (i := 26) (N := (some 31)) (v := ?_) (a' := ?_) #[J, J, J, J, J, J, J, J, J, J, J, J, J, J, J, J, J, J, J, J, J, J, J, J, J, J, J, Y] rfl rfl (Qm HT_.out (by kernel_rfl)) (fun _ _ _ h => h) (Or.inl ⟨by rfl, ?_⟩) ?_ ?_
  rotate_left
  ·
   intro w'
   go_simp
   with_reducible rfl
  rotate_left
  ·
   simp only [Act.put, List.setIfInBounds_toArray, List.set_cons_zero, List.set_cons_succ, i64_w, i32_w]
   rfl
  refine last_ (i := 27) (N := none) #[J, J, J, J, J, J, J, J, J, J, J, J, J, J, J, J, J, J, J, J, J, J, J, J, J, J, J, J] rfl rfl (one_of HT_.out (by kernel_rfl)) (by decide) (fun K hK => ?_)
  refine skip_ (w1 := ?_) (by rfl) rfl ?_ ?_
  rotate_left
  ·
   go_simp
   rfl
  refine hK.out _ _ ?_
  clear hK K
  refine done_ (done_of HT_.out (by kernel_rfl)) ?_
  go_wp2
  go_end0
  exact ⟨rfl, HE.out⟩
def qpush_T2 : Bool × List (List Nat × List Nat) := (true, [([], []), ([], []), ([1], [1]), ([2], [2]), ([3], [3]), ([], []), ([], []), ([6], [6]), ([7], [7]), ([8], [8]), ([], []), ([10], [10]), ([9, 11], [9, 11]), ([0, 0, 4, 6, 7, 8, 9, 10, 11, 12], [0]), ([13, 0, 4, 6, 7, 8, 9, 10, 11, 12], [13]), ([14, 12, 12, 0, 4, 6, 7, 8, 9, 10, 11, 12], [12, 14]), ([4, 5, 0, 1, 2, 3, 4, 5, 6, 7, 8, 9, 10, 11, 12, 13, 14, 15], [4, 5]), ([16, 15, 0, 1, 2, 3, 4, 5, 6, 7, 8, 9, 10, 11, 12, 13, 14, 15], [16])])
def qpush_B2 : List Nat := [0, 0, 2, 6, 14, 0, 0, 64, 192, 448, 0, 1024, 4032, 8159, 16351, 32735, 65535, 131071]
theorem qpush_tab2 : rtab .any (opsOf Try.f61 2) = qpush_T2 := by kernel_rfl
theorem qpush_bits2 : waitsOk qpush_T2.2 qpush_B2 = true := by kernel_rfl
set_option maxHeartbeats 4000000 in
set_option maxRecDepth 100000 in
theorem queue_Push {base : Nat} {w : World} {g : Nat} {l : List Int} {b : List Bool} (h : IsQ base w g l b) (hbase : base ≤ w.heap.size) (i : Int) (hi0 : 0 ≤ i) (hi : i < (b.length : Int)) (hl : (l.length + 1) * 8 ≤ 140737488355328) :
    Calls Try.prog 61 #[.pointer (some ⟨g, 0, none⟩), .iface 3 (.int .i64 i)] w fun e w' => e = .returned (.tuple #[]) ∧ IsQ base w' g (l ++ [i]) (b.set i.toNat true) ∧ Below base w w' := by
  obtain ⟨vl, gb, d, h1, h2, h3, h4, h5, h6, h7⟩ := h.marks (by omega)
  obtain ⟨A, c, rfl⟩ := own_slice h5
  have x0 : w.cell? ⟨g, 0, none⟩ = some (.slice A l.length c) := (Qb h1 0).trans rfl
  have x1 : w.cell? ⟨g, 1, none⟩ = some (.slice (some ⟨gb, 0, none⟩) b.length d) := (Qb h1 1).trans rfl
  have H := Qa.mk (And.intro h1 (And.intro h2 (And.intro h3 (And.intro h4 (And.intro h5 (And.intro h6 (And.intro hbase (And.intro hi0 (And.intro hi hl)))))))))
  replace hi0 := eq_true hi0
  replace hi := eq_true hi
  clear h h1 h2 h3 h4 h5 h6 h7 hl hbase
  have hu51 := Try.underlying51
  have hu57 := Try.underlying57
  have hta : ∀ w : World, (Instr.typeAssert (.iface 3 (.int .i64 i)) 20 3 true).run Try.prog w = .ok (.tuple #[.int .i64 i, .bool true]) w := fun _ => by kernel_rfl
  go_enter Try.func61, Try.ntmps61
  go_upto_region 2 with (fail)
  refine start_ (n := 18) (S := fun w' => w'.cell? ⟨g, 0, none⟩ = some (.slice A l.length c) ∧ w'.cell? ⟨g, 1, none⟩ = some (.slice (some ⟨gb, 0, none⟩) b.length d)) (ds := [15, 17]) #[Y, Y, Y, Y, Y, Y, Y, Y, Y, Y, Y, Y, Y, Y, Y, Y, Y, Y] (by kernel_rfl) rfl rfl ⟨x0, x1⟩ (fun hHeld => ?_); refine with_tabW qpush_tab2 qpush_bits2 (fun HT_ HW_ => ?_)
  have K1 := Qa.mk (below_drew (B := base) (Below.refl base w))
  have K2 := Qa.mk (Qc H.out.1)
  have K3 := Qa.mk (pw_own_drewN H.out.2.2.2.2.1 1)
  have K4 := Qa.mk (pw_own_drewN H.out.2.2.2.2.2.1 1)
  have K5 : Qa (base ≤ w.drew.heap.size) := ⟨H.out.2.2.2.2.2.2.1⟩
  clear x0 x1
  change Qa (w.drew.ownsRow _ _ _ _ _ _) at K3 K4
  generalize w.drew = W0 at K1 K2 K3 K4 K5 hHeld ⊢
  refine pure_ (i := 0) (N := (some 12)) (v := ?_) (a' := ?_) #[J, Y, Y, Y, Y, Y, Y, Y, Y, Y, Y, Y, Y, Y, Y, Y, Y, Y] rfl rfl (Qm HT_.out (by kernel_rfl)) (fun _ _ _ h => h) (Or.inl ⟨by rfl, ?_⟩) ?_ ?_
  rotate_left
  ·
   intro w'
   go_simp
   with_reducible rfl
  rotate_left
  ·
   simp only [Act.put, List.setIfInBounds_toArray, List.set_cons_zero, List.set_cons_succ, i64_w, i32_w]
   rfl
  refine pure_ (i := 1) (N := (some 13)) (v := ?_) (a' := ?_) #[J, J, Y, Y, Y, Y, Y, Y, Y, Y, Y, Y, Y, Y, Y, Y, Y, Y] rfl rfl (Qm HT_.out (by kernel_rfl)) (fun _ _ _ h => h) (Or.inl ⟨by rfl, ?_⟩) ?_ ?_
  rotate_left
  ·
   intro w'
   go_simp
   with_reducible rfl
  rotate_left
  ·
   simp only [Act.put, List.setIfInBounds_toArray, List.set_cons_zero, List.set_cons_succ, i64_w, i32_w]
   rfl
  refine pure_ (i := 2) (N := (some 14)) (v := ?_) (a' := ?_) #[J, J, J, Y, Y, Y, Y, Y, Y, Y, Y, Y, Y, Y, Y, Y, Y, Y] rfl rfl (Qm HT_.out (by kernel_rfl)) (fun _ _ _ h => h) (Or.inl ⟨by rfl, ?_⟩) ?_ ?_
  rotate_left
  ·
   intro w'
   go_simp
   with_reducible rfl
  rotate_left
  ·
   simp only [Act.put, List.setIfInBounds_toArray, List.set_cons_zero, List.set_cons_succ, i64_w, i32_w]
   rfl
  refine pure_ (i := 3) (N := (some 15)) (v := ?_) (a' := ?_) #[J, J, J, J, Y, Y, Y, Y, Y, Y, Y, Y, Y, Y, Y, Y, Y, Y] rfl rfl (Qm HT_.out (by kernel_rfl)) (fun _ _ _ h => h) (Or.inl ⟨by rfl, ?_⟩) ?_ ?_
  rotate_left
  ·
   intro w'
   go_simp
   with_reducible rfl
  rotate_left
  ·
   simp only [Act.put, List.setIfInBounds_toArray, List.set_cons_zero, List.set_cons_succ, i64_w, i32_w]
   rfl
  refine take_ (i := 4) (N := (some 16)) (v := ?_) (a' := ?_) #[J, J, J, J, J, Y, Y, Y, Y, Y, Y, Y, Y, Y, Y, Y, Y, Y] rfl rfl (Qk1 HT_.out HW_.out (by kernel_rfl)) (fun _ _ _ h => h) (Or.inl ⟨by rfl, ?_⟩) hHeld ?_ ?_
  rotate_left
  ·
   rintro w' ⟨s0, s1⟩
   go_simp
   with_reducible rfl
  rotate_left
  ·
   simp only [Act.put, List.setIfInBounds_toArray, List.set_cons_zero, List.set_cons_succ, i64_w, i32_w]
   rfl
  refine pure_ (i := 5) (N := (some 17)) (v := ?_) (a' := ?_) #[J, J, J, J, J, J, Y, Y, Y, Y, Y, Y, Y, Y, Y, Y, Y, Y] rfl rfl (Qm HT_.out (by kernel_rfl)) (fun _ _ _ h => h) (Or.inl ⟨by rfl, ?_⟩) ?_ ?_
  rotate_left
  ·
   intro w'
   go_simp
   with_reducible rfl
  rotate_left
  ·
   simp only [Act.put, List.setIfInBounds_toArray, List.set_cons_zero, List.set_cons_succ, i64_w, i32_w]
   rfl
  refine pure_ (i := 6) (N := (some 18)) (v := ?_) (a' := ?_) #[J, J, J, J, J, J, J, Y, Y, Y, Y, Y, Y, Y, Y, Y, Y, Y] rfl rfl (Qm HT_.out (by kernel_rfl)) (fun _ _ _ h => h) (Or.inl ⟨by rfl, ?_⟩) ?_ ?_
  rotate_left
  ·
   intro w'
   go_simp
   with_reducible rfl
  rotate_left
  ·
   simp only [Act.put, List.setIfInBounds_toArray, List.set_cons_zero, List.set_cons_succ, i64_w, i32_w]
   rfl
  refine pure_ (i := 7) (N := (some 19)) (v := ?_) (a' := ?_) #[J, J, J, J, J, J, J, J, Y, Y, Y, Y, Y, Y, Y, Y, Y, Y] rfl rfl (Qm HT_.out (by kernel_rfl)) (fun _ _ _ h => h) (Or.inl ⟨by rfl, ?_⟩) ?_ ?_
  rotate_left
  ·
   intro w'
   go_simp
   with_reducible rfl
  rotate_left
  ·
   simp only [Act.put, List.setIfInBounds_toArray, List.set_cons_zero, List.set_cons_succ, i64_w, i32_w]
   rfl
  refine pure_ (i := 8) (N := (some 20)) (v := ?_) (a' := ?_) #[J, J, J, J, J, J, J, J, J, Y, Y, Y, Y, Y, Y, Y, Y, Y] rfl rfl (Qm HT_.out (by kernel_rfl)) (fun _ _ _ h => h) (Or.inl ⟨by rfl, ?_⟩) ?_ ?_
  rotate_left
  ·
   intro w'
   go_simp
   with_reducible rfl
  rotate_left
  ·
   simp only [Act.put, List.setIfInBounds_toArray, List.set_cons_zero, List.set_cons_succ, i64_w, i32_w]
   rfl
  refine take_ (i := 9) (N := (some 21)) (v := ?_) (a' := ?_) #[J, J, J, J, J, J, J, J, J, J, Y, Y, Y, Y, Y, Y, Y, Y] rfl rfl (Qk1 HT_.out HW_.out (by kernel_rfl)) (fun _ _ _ h => h) (Or.inl ⟨by rfl, ?_⟩) hHeld ?_ ?_
  rotate_left
  ·
   rintro w' ⟨s0, s1⟩
   go_simp
   with_reducible rfl
  rotate_left
  ·
   simp only [Act.put, List.setIfInBounds_toArray, List.set_cons_zero, List.set_cons_succ, i64_w, i32_w]
   rfl
  refine pure_ (i := 10) (N := (some 22)) (v := ?_) (a' := ?_) #[J, J, J, J, J, J, J, J, J, J, J, Y, Y, Y, Y, Y, Y, Y] rfl rfl (Qm HT_.out (by kernel_rfl)) (fun _ _ _ h => h) (Or.inl ⟨by rfl, ?_⟩) ?_ ?_
  rotate_left
  ·
   intro w'
   go_simp
   with_reducible rfl
  rotate_left
  ·
   simp only [Act.put, List.setIfInBounds_toArray, List.set_cons_zero, List.set_cons_succ, i64_w, i32_w]
   rfl
  refine one_ (i := 11) (N := (some 23)) #[J, J, J, J, J, J, J, J, J, J, J, J, Y, Y, Y, Y, Y, Y] rfl rfl (one_of HT_.out (by kernel_rfl)) (by decide) (fun K hK => ?_)
  refine value_ (w1 := ?_) (v := ?_) (by rfl) rfl ?_ ?_
  rotate_left 2
  · go_simp
    constructor
    · rfl
    · rfl
  refine hK.out _ _ ⟨(World.cell?_alloc_lt _ _ _ (World.block_lt_of_cell? _ _ hHeld.1)).trans hHeld.1, (World.cell?_alloc_lt _ _ _ (World.block_lt_of_cell? _ _ hHeld.2)).trans hHeld.2⟩ (fun hHeld2 => ?_)
  clear hK K
  refine norm_ (a' := ?_) ?_ ?_
  rotate_left
  ·
   show Act.put _ (some 23) _ = _
   simp only [Act.put, List.setIfInBounds_toArray, List.set_cons_zero, List.set_cons_succ, i64_w, i32_w]
   rfl
  refine one_ (i := 12) (N := (some 24)) #[J, J, J, J, J, J, J, J, J, J, J, J, J, Y, Y, Y, Y, Y] rfl rfl (one_of HT_.out (by kernel_rfl)) (by decide) (fun K hK => ?_)
  refine step_append_cells (w0 := w) (W := W0) base (by rfl) (.tmp 21) (.tmp 23) 51 3 (.int .i64 0) 1 8 rfl Try.underlying51 info3 rfl (by decide) (by decide) (.slice A l.length c) l.length (nums .i64 l) [.int .i64 i] (by rfl) (by rfl) rfl (by simp [Value.oneCell']) K3.out K1.out K5.out H.out.2.2.2.2.2.2.2.2.2 ?_
  intro v1 w1 own1 hb1 hg1 hat1
  obtain ⟨A1, c1, rfl⟩ := own_slice own1
  have B1 := Qa.mk (blk_grown K2.out hg1 (own_ne K3.out K2.out (by decide)))
  have O2 := Qa.mk (own_other K4.out hg1 (own_type_ne K4.out K3.out (by decide)))
  have O1 : Qa (w1.ownsRow base 3 1 (.slice A1 (l.length + 1) c1) (l ++ [i]).length (nums .i64 (l ++ [i]))) := ⟨by rw [List.length_append, List.length_singleton, nums_append]; exact own1⟩
  have B0 := Qa.mk hb1
  clear own1 hb1 hat1 hg1
  refine hK.out _ _ ⟨(Qb B1.out 0).trans rfl, (Qb B1.out 1).trans rfl⟩ (fun hHeld3 => ?_)
  clear hK K hHeld hHeld2 K1 K2 K3 K4 K5
  refine norm_ (a' := ?_) ?_ ?_
  rotate_left
  ·
   show Act.put _ (some 24) _ = _
   simp only [Act.put, List.setIfInBounds_toArray, List.set_cons_zero, List.set_cons_succ, i64_w, i32_w]
   rfl
  refine pure_ (i := 13) (N := (some 25)) (v := ?_) (a' := ?_) #[J, J, J, J, J, J, J, J, J, J, J, J, J, J, Y, Y, Y, Y] rfl rfl (Qm HT_.out (by kernel_rfl)) (fun _ _ _ h => h) (Or.inl ⟨by rfl, ?_⟩) ?_ ?_
  rotate_left
  ·
   intro w'
   go_simp
   with_reducible rfl
  rotate_left
  ·
   simp only [Act.put, List.setIfInBounds_toArray, List.set_cons_zero, List.set_cons_succ, i64_w, i32_w]
   rfl
  refine pure_ (i := 14) (N := (some 26)) (v := ?_) (a' := ?_) #[J, J, J, J, J, J, J, J, J, J, J, J, J, J, J, Y, Y, Y] rfl rfl (Qm HT_.out (by kernel_rfl)) (fun _ _ _ h => h) (Or.inl ⟨by rfl, ?_⟩) ?_ ?_
  rotate_left
  ·
   intro w'
   go_simp
   with_reducible rfl
  rotate_left
  ·
   simp only [Act.put, List.setIfInBounds_toArray, List.set_cons_zero, List.set_cons_succ, i64_w, i32_w]
   rfl
  have s0 := hHeld3.1
  have f0 : w1.frozen? ⟨g, 0, none⟩ = false := Qf B1.out 0
  refine last_ (i := 15) (N := none) #[J, J, J, J, J, J, J, J, J, J, J, J, J, J, J, J, Y, Y] rfl rfl (one_of HT_.out (by kernel_rfl)) (by decide) (fun K hK => ?_)
  refine skip_ (w1 := ?_) (by rfl) rfl ?_ ?_
  rotate_left
  ·
   go_simp
   rfl
  refine hK.out _ _ ?_
  clear hK K
  clear s0 f0 hHeld3
  have y := own_at_of (d := false) (own_setCell (p := ⟨g, 0, none⟩) O2.out (fun e => H.out.2.2.2.1 (by simpa [Value.ownBlock] using e.symm)) (.slice A1 (l.length + 1) c1)) i (of_eq_true hi0) (of_eq_true hi)
  obtain ⟨y0, y1⟩ := y
  have HE := Qa.mk (IsQ.put B1.out H.out.2.1 O1.out O2.out H.out.2.2.2.1 i true)
  have HB : Qa (Below base w ((w1.setCell ⟨g, 0, none⟩ (.slice A1 (l.length + 1) c1)).setCell ⟨gb, i.toNat, none⟩ (.bool true))) := ⟨(B0.out.setCell (p := ⟨g, 0, none⟩) H.out.2.1 _).setCell (p := ⟨gb, i.toNat, none⟩) H.out.2.2.1 _⟩
  generalize w1.setCell ⟨g, 0, none⟩ (.slice A1 (l.length + 1) c1) = W2 at HE HB y0 y1 ⊢
  refine pure_ (i := 16) (N := (some 27)) (v := ?_) (a' := ?_) #[J, J, J, J, J, J, J, J, J, J, J, J, J, J, J, J, J, Y] rfl rfl (Qm HT_.out (by kernel_rfl)) (fun _ _ _ h => h) (Or.inl ⟨by rfl, ?_⟩) ?_ ?_
  rotate_left
  ·
   intro w'
   go_simp
   with_reducible rfl
  rotate_left
  ·
   simp only [Act.put, List.setIfInBounds_toArray, List.set_cons_zero, List.set_cons_succ, i64_w, i32_w]
   rfl
  refine last_ (i := 17) (N := none) #[J, J, J, J, J, J, J, J, J, J, J, J, J, J, J, J, J, J] rfl rfl (one_of HT_.out (by kernel_rfl)) (by decide) (fun K hK => ?_)
  refine skip_ (w1 := ?_) (by rfl) rfl ?_ ?_
  rotate_left
  ·
   go_simp
   rfl
  refine hK.out _ _ ?_
  clear hK K
  refine done_ (done_of HT_.out (by kernel_rfl)) ?_
  go_wp2
  go_end0
  exact ⟨rfl, HE.out, HB.out⟩
def qpop_T2 : Bool × List (List Nat × List Nat) := (true, [([], []), ([], []), ([1], [1]), ([2], [2]), ([3], [3]), ([], []), ([], []), ([6], [6]), ([7], [7]), ([8], [8]), ([], []), ([10], [10]), ([11], [11]), ([12], [12]), ([13], [13]), ([14], [14]), ([9, 15], [9, 15]), ([0, 0, 4, 6, 7, 8, 9, 10, 11, 12, 13, 14, 15, 16], [0]), ([17, 0, 4, 6, 7, 8, 9, 10, 11, 12, 13, 14, 15, 16], [17]), ([18, 16, 0, 4, 6, 7, 8, 9, 10, 11, 12, 13, 14, 15, 16], [16, 18]), ([4, 5, 0, 1, 2, 3, 4, 5, 6, 7, 8, 9, 10, 11, 12, 13, 14, 15, 16, 17, 18, 19], [4, 5]), ([20, 19, 0, 1, 2, 3, 4, 5, 6, 7, 8, 9, 10, 11, 12, 13, 14, 15, 16, 17, 18, 19], [20])])
def qpop_B2 : List Nat := [0, 0, 2, 6, 14, 0, 0, 64, 192, 448, 0, 1024, 3072, 7168, 15360, 31744, 65472, 131039, 262111, 524255, 1048575, 2097151]
theorem qpop_tab2 : rtab .any (opsOf Try.f60 2) = qpop_T2 := by kernel_rfl
theorem qpop_bits2 : waitsOk qpop_T2.2 qpop_B2 = true := by kernel_rfl
set_option maxHeartbeats 4000000 in
set_option maxRecDepth 100000 in
theorem queue_Pop {base : Nat} {w : World} {g : Nat} {l : List Int} {b : List Bool} (h : IsQ base w g l b) (hl : 0 < l.length) (hi0 : 0 ≤ rd l ((l.length : Int) - 1)) (hi : rd l ((l.length : Int) - 1) < (b.length : Int)) :
    Calls Try.prog 60 #[.pointer (some ⟨g, 0, none⟩)] w fun e w' => e = .returned (.iface 3 (.int .i64 (rd l ((l.length : Int) - 1)))) ∧ IsQ base w' g (l.take ((l.length : Int) - 1).toNat) (b.set (rd l ((l.length : Int) - 1)).toNat false) ∧ Below base w w' := by
  obtain ⟨vl, gb, d, h1, h2, h3, h4, h5, h6, h7⟩ := h.marks (by omega)
  obtain ⟨hx1, gl, c, cur, rfl, h8, h9, h10, h11, h12, h13⟩ : (nums .i64 l).length = l.length * 1 ∧ ∃ gl c cur, vl = .slice (some ⟨gl, 0, none⟩) l.length c ∧ base ≤ gl ∧ w.heap[gl]? = some (.cells cur 3 (0, 0)) ∧ l.length ≤ c ∧ c ≤ maxLen ∧ cur.size = c * 1 ∧ cur.toList.take (l.length * 1) = nums .i64 l := by
    refine ⟨h5.1, ?_⟩
    rcases h5.2 with ⟨_, hn⟩ | h
    · omega
    · exact h
  have hm : l.length ≤ 9223372036854775807 := by have : c ≤ 9223372036854775807 := h11; omega
  have y0 := (own_at h5 ((l.length : Int) - 1) (by omega) (by omega)).1
  rw [show ((l.length : Int) - 1).toNat = l.length - 1 by omega] at y0
  have hcut := (print_take_int (P := Try.prog) (k := .i64) 51 3 Try.underlying51 (Option.some_get (by kernel_rfl : (Try.prog.info? 3).isSome = true)).symm (by kernel_rfl) (some ⟨gl, 0, none⟩) c l ((l.length : Int) - 1) (by omega) (by omega) h10).1
  have hlen : (l.take ((l.length : Int) - 1).toNat).length = l.length - 1 := by rw [List.length_take]; omega
  rw [hlen] at hcut
  have hown : w.ownsRow base 3 1 (.slice (some ⟨gl, 0, none⟩) (l.length - 1) c) (l.take ((l.length : Int) - 1).toNat).length (nums .i64 (l.take ((l.length : Int) - 1).toNat)) := by
    refine ⟨by simp [nums], .inr ⟨gl, c, cur, by rw [hlen], h8, h9, by rw [hlen]; omega, h11, h12, ?_⟩⟩
    rw [hlen]
    have := congrArg (List.take ((l.length : Int) - 1).toNat) h13
    rw [List.take_take] at this
    rw [show nums .i64 (l.take ((l.length : Int) - 1).toNat) = (nums .i64 l).take ((l.length : Int) - 1).toNat by simp [nums, List.map_take], ← this]
    congr 1
    omega
  have x0 : w.cell? ⟨g, 0, none⟩ = some (.slice (some ⟨gl, 0, none⟩) l.length c) := (Qb h1 0).trans rfl
  have x1 : w.cell? ⟨g, 1, none⟩ = some (.slice (some ⟨gb, 0, none⟩) b.length d) := (Qb h1 1).trans rfl
  have HCUT := Qa.mk hcut
  have H := Qa.mk (And.intro h1 (And.intro h2 (And.intro h3 (And.intro h4 (And.intro hown (And.intro h6 (And.intro hi0 hi)))))))
  have k0 : (0 ≤ (l.length : Int) - 1) = True := eq_true (by omega)
  have k1 : ((l.length : Int) - 1 < (l.length : Int)) = True := eq_true (by omega)
  have k3 : (1 ≤ (l.length : Int)) = True := eq_true (by omega)
  have k4 : (0 < l.length) = True := eq_true hl
  have k2 : IntKind.i64.wrap ((l.length : Int) - 1) = (l.length : Int) - 1 := IntWalk.i64_in _ (by omega)
  replace hi0 := eq_true hi0
  replace hi := eq_true hi
  have HX : Qa (w.cell? ⟨g, 0, none⟩ = some (.slice (some ⟨gl, 0, none⟩) l.length c) ∧ w.cell? ⟨g, 1, none⟩ = some (.slice (some ⟨gb, 0, none⟩) b.length d)) := ⟨x0, x1⟩
  clear h h1 h2 h3 h4 h5 h6 h7 h8 h9 h10 h11 h12 h13 hx1 hm hlen hown hcut hl
  have hu51 := Try.underlying51
  have hu57 := Try.underlying57
  go_enter Try.func60, Try.ntmps60
  go_wp2
  go_quiet (fail)
  have hcut := HCUT.out
  clear HCUT
  go_upto_region 2 with (fail)
  generalize hW : w.drewN _ = W1
  have HX1 : W1.drew.cell? ⟨g, 0, none⟩ = some (.slice (some ⟨gl, 0, none⟩) l.length c) ∧ W1.drew.cell? ⟨g, 1, none⟩ = some (.slice (some ⟨gb, 0, none⟩) b.length d) := by rw [← hW]; exact HX.out
  have K1 : Qa (Below base w W1.drew) := ⟨by rw [← hW]; exact below_drew (Ql (Below.refl _ _) _)⟩
  have K2 : Qa (W1.drew.heap[g]? = some (.cells #[.slice (some ⟨gl, 0, none⟩) l.length c, .slice (some ⟨gb, 0, none⟩) b.length d] 59 (0, 0))) := ⟨by rw [← hW]; exact H.out.1⟩
  have K3 : Qa (W1.drew.ownsRow base 3 1 (.slice (some ⟨gl, 0, none⟩) (l.length - 1) c) (l.take ((l.length : Int) - 1).toNat).length (nums .i64 (l.take ((l.length : Int) - 1).toNat))) := ⟨by rw [← hW]; exact H.out.2.2.2.2.1⟩
  have K4 : Qa (W1.drew.ownsRow base 4 1 (.slice (some ⟨gb, 0, none⟩) b.length d) b.length (encs Value.bool b)) := ⟨by rw [← hW]; exact H.out.2.2.2.2.2.1⟩
  clear hW y0 x0 x1
  refine start_ (n := 22) (S := fun w' => w'.cell? ⟨g, 0, none⟩ = some (.slice (some ⟨gl, 0, none⟩) l.length c) ∧ w'.cell? ⟨g, 1, none⟩ = some (.slice (some ⟨gb, 0, none⟩) b.length d)) (ds := [19, 21]) #[Y, Y, Y, Y, Y, Y, Y, Y, Y, Y, Y, Y, Y, Y, Y, Y, Y, Y, Y, Y, Y, Y] (by kernel_rfl) rfl rfl HX1 (fun hHeld => ?_); refine with_tabW qpop_tab2 qpop_bits2 (fun HT_ HW_ => ?_)
  clear HX1
  generalize W1.drew = W0 at K1 K2 K3 K4 hHeld ⊢
  refine pure_ (i := 0) (N := (some 16)) (v := ?_) (a' := ?_) #[J, Y, Y, Y, Y, Y, Y, Y, Y, Y, Y, Y, Y, Y, Y, Y, Y, Y, Y, Y, Y, Y] rfl rfl (Qm HT_.out (by kernel_rfl)) (fun _ _ _ h => h) (Or.inl ⟨by rfl, ?_⟩) ?_ ?_
  rotate_left
  ·
   intro w'
   go_simp
   with_reducible rfl
  rotate_left
  ·
   simp only [Act.put, List.setIfInBounds_toArray, List.set_cons_zero, List.set_cons_succ, i64_w, i32_w]
   rfl
  refine pure_ (i := 1) (N := (some 17)) (v := ?_) (a' := ?_) #[J, J, Y, Y, Y, Y, Y, Y, Y, Y, Y, Y, Y, Y, Y, Y, Y, Y, Y, Y, Y, Y] rfl rfl (Qm HT_.out (by kernel_rfl)) (fun _ _ _ h => h) (Or.inl ⟨by rfl, ?_⟩) ?_ ?_
  rotate_left
  ·
   intro w'
   go_simp
   with_reducible rfl
  rotate_left
  ·
   simp only [Act.put, List.setIfInBounds_toArray, List.set_cons_zero, List.set_cons_succ, i64_w, i32_w]
   rfl
  refine pure_ (i := 2) (N := (some 18)) (v := ?_) (a' := ?_) #[J, J, J, Y, Y, Y, Y, Y, Y, Y, Y, Y, Y, Y, Y, Y, Y, Y, Y, Y, Y, Y] rfl rfl (Qm HT_.out (by kernel_rfl)) (fun _ _ _ h => h) (Or.inl ⟨by rfl, ?_⟩) ?_ ?_
  rotate_left
  ·
   intro w'
   go_simp
   with_reducible rfl
  rotate_left
  ·
   simp only [Act.put, List.setIfInBounds_toArray, List.set_cons_zero, List.set_cons_succ, i64_w, i32_w]
   rfl
  refine pure_ (i := 3) (N := (some 19)) (v := ?_) (a' := ?_) #[J, J, J, J, Y, Y, Y, Y, Y, Y, Y, Y, Y, Y, Y, Y, Y, Y, Y, Y, Y, Y] rfl rfl (Qm HT_.out (by kernel_rfl)) (fun _ _ _ h => h) (Or.inl ⟨by rfl, ?_⟩) ?_ ?_
  rotate_left
  ·
   intro w'
   go_simp
   with_reducible rfl
  rotate_left
  ·
   simp only [Act.put, List.setIfInBounds_toArray, List.set_cons_zero, List.set_cons_succ, i64_w, i32_w]
   rfl
  refine take_ (i := 4) (N := (some 20)) (v := ?_) (a' := ?_) #[J, J, J, J, J, Y, Y, Y, Y, Y, Y, Y, Y, Y, Y, Y, Y, Y, Y, Y, Y, Y] rfl rfl (Qk1 HT_.out HW_.out (by kernel_rfl)) (fun _ _ _ h => h) (Or.inl ⟨by rfl, ?_⟩) hHeld ?_ ?_
  rotate_left
  ·
   rintro w' ⟨s0, s1⟩
   go_simp
   with_reducible rfl
  rotate_left
  ·
   simp only [Act.put, List.setIfInBounds_toArray, List.set_cons_zero, List.set_cons_succ, i64_w, i32_w]
   rfl
  refine pure_ (i := 5) (N := (some 21)) (v := ?_) (a' := ?_) #[J, J, J, J, J, J, Y, Y, Y, Y, Y, Y, Y, Y, Y, Y, Y, Y, Y, Y, Y, Y] rfl rfl (Qm HT_.out (by kernel_rfl)) (fun _ _ _ h => h) (Or.inl ⟨by rfl, ?_⟩) ?_ ?_
  rotate_left
  ·
   intro w'
   go_simp
   with_reducible rfl
  rotate_left
  ·
   simp only [Act.put, List.setIfInBounds_toArray, List.set_cons_zero, List.set_cons_succ, i64_w, i32_w]
   rfl
  refine pure_ (i := 6) (N := (some 22)) (v := ?_) (a' := ?_) #[J, J, J, J, J, J, J, Y, Y, Y, Y, Y, Y, Y, Y, Y, Y, Y, Y, Y, Y, Y] rfl rfl (Qm HT_.out (by kernel_rfl)) (fun _ _ _ h => h) (Or.inl ⟨by rfl, ?_⟩) ?_ ?_
  rotate_left
  ·
   intro w'
   go_simp
   with_reducible rfl
  rotate_left
  ·
   simp only [Act.put, List.setIfInBounds_toArray, List.set_cons_zero, List.set_cons_succ, i64_w, i32_w]
   rfl
  refine pure_ (i := 7) (N := (some 23)) (v := ?_) (a' := ?_) #[J, J, J, J, J, J, J, J, Y, Y, Y, Y, Y, Y, Y, Y, Y, Y, Y, Y, Y, Y] rfl rfl (Qm HT_.out (by kernel_rfl)) (fun _ _ _ h => h) (Or.inl ⟨by rfl, ?_⟩) ?_ ?_
  rotate_left
  ·
   intro w'
   go_simp
   with_reducible rfl
  rotate_left
  ·
   simp only [Act.put, List.setIfInBounds_toArray, List.set_cons_zero, List.set_cons_succ, i64_w, i32_w]
   rfl
  refine pure_ (i := 8) (N := (some 24)) (v := ?_) (a' := ?_) #[J, J, J, J, J, J, J, J, J, Y, Y, Y, Y, Y, Y, Y, Y, Y, Y, Y, Y, Y] rfl rfl (Qm HT_.out (by kernel_rfl)) (fun _ _ _ h => h) (Or.inl ⟨by rfl, ?_⟩) ?_ ?_
  rotate_left
  ·
   intro w'
   go_simp
   with_reducible rfl
  rotate_left
  ·
   simp only [Act.put, List.setIfInBounds_toArray, List.set_cons_zero, List.set_cons_succ, i64_w, i32_w]
   rfl
  refine take_ (i := 9) (N := (some 25)) (v := ?_) (a' := ?_) #[J, J, J, J, J, J, J, J, J, J, Y, Y, Y, Y, Y, Y, Y, Y, Y, Y, Y, Y] rfl rfl (Qk1 HT_.out HW_.out (by kernel_rfl)) (fun _ _ _ h => h) (Or.inl ⟨by rfl, ?_⟩) hHeld ?_ ?_
  rotate_left
  ·
   rintro w' ⟨s0, s1⟩
   go_simp
   with_reducible rfl
  rotate_left
  ·
   simp only [Act.put, List.setIfInBounds_toArray, List.set_cons_zero, List.set_cons_succ, i64_w, i32_w]
   rfl
  refine pure_ (i := 10) (N := (some 26)) (v := ?_) (a' := ?_) #[J, J, J, J, J, J, J, J, J, J, J, Y, Y, Y, Y, Y, Y, Y, Y, Y, Y, Y] rfl rfl (Qm HT_.out (by kernel_rfl)) (fun _ _ _ h => h) (Or.inl ⟨by rfl, ?_⟩) ?_ ?_
  rotate_left
  ·
   intro w'
   go_simp
   with_reducible rfl
  rotate_left
  ·
   simp only [Act.put, List.setIfInBounds_toArray, List.set_cons_zero, List.set_cons_succ, i64_w, i32_w]
   rfl
  refine pure_ (i := 11) (N := (some 27)) (v := ?_) (a' := ?_) #[J, J, J, J, J, J, J, J, J, J, J, J, Y, Y, Y, Y, Y, Y, Y, Y, Y, Y] rfl rfl (Qm HT_.out (by kernel_rfl)) (fun _ _ _ h => h) (Or.inl ⟨by rfl, ?_⟩) ?_ ?_
  rotate_left
  ·
   intro w'
   go_simp
   with_reducible rfl
  rotate_left
  ·
   simp only [Act.put, List.setIfInBounds_toArray, List.set_cons_zero, List.set_cons_succ, i64_w, i32_w]
   rfl
  refine pure_ (i := 12) (N := (some 28)) (v := ?_) (a' := ?_) #[J, J, J, J, J, J, J, J, J, J, J, J, J, Y, Y, Y, Y, Y, Y, Y, Y, Y] rfl rfl (Qm HT_.out (by kernel_rfl)) (fun _ _ _ h => h) (Or.inl ⟨by rfl, ?_⟩) ?_ ?_
  rotate_left
  ·
   intro w'
   go_simp
   with_reducible rfl
  rotate_left
  ·
   simp only [Act.put, List.setIfInBounds_toArray, List.set_cons_zero, List.set_cons_succ, i64_w, i32_w]
   rfl
  refine take_ (i := 13) (N := (some 29)) (v := ?_) (a' := ?_) #[J, J, J, J, J, J, J, J, J, J, J, J, J, J, Y, Y, Y, Y, Y, Y, Y, Y] rfl rfl (Qk1 HT_.out HW_.out (by kernel_rfl)) (fun _ _ _ h => h) (Or.inl ⟨by rfl, ?_⟩) hHeld ?_ ?_
  rotate_left
  ·
   rintro w' ⟨s0, s1⟩
   go_simp
   with_reducible rfl
  rotate_left
  ·
   simp only [Act.put, List.setIfInBounds_toArray, List.set_cons_zero, List.set_cons_succ, i64_w, i32_w]
   rfl
  refine pure_ (i := 14) (N := (some 30)) (v := ?_) (a' := ?_) #[J, J, J, J, J, J, J, J, J, J, J, J, J, J, J, Y, Y, Y, Y, Y, Y, Y] rfl rfl (Qm HT_.out (by kernel_rfl)) (fun _ _ _ h => h) (Or.inl ⟨by rfl, ?_⟩) ?_ ?_
  rotate_left
  ·
   intro w'
   go_simp
   with_reducible rfl
  rotate_left
  ·
   simp only [Act.put, List.setIfInBounds_toArray, List.set_cons_zero, List.set_cons_succ, i64_w, i32_w]
   rfl
  refine pure_ (i := 15) (N := (some 31)) (v := ?_) (a' := ?_) #[J, J, J, J, J, J, J, J, J, J, J, J, J, J, J, J, Y, Y, Y, Y, Y, Y] rfl rfl (Qm HT_.out (by kernel_rfl)) (fun _ _ _ h => h) (Or.inl ⟨by rfl, ?_⟩) ?_ ?_
  rotate_left
  ·
   intro w'
   go_simp
   with_reducible rfl
  rotate_left
  ·
   simp only [Act.put, List.setIfInBounds_toArray, List.set_cons_zero, List.set_cons_succ, i64_w, i32_w]
   rfl
  refine pure_ (i := 16) (N := (some 32)) (v := ?_) (a' := ?_) #[J, J, J, J, J, J, J, J, J, J, J, J, J, J, J, J, J, Y, Y, Y, Y, Y] rfl rfl (Qm HT_.out (by kernel_rfl)) (fun _ _ _ h => h) (Or.inl ⟨by rfl, ?_⟩) ?_ ?_
  rotate_left
  ·
   intro w'
   go_simp
   with_reducible rfl
  rotate_left
  ·
   simp only [Act.put, List.setIfInBounds_toArray, List.set_cons_zero, List.set_cons_succ, i64_w, i32_w]
   rfl
  refine pure_ (i := 17) (N := (some 33)) (v := ?_) (a' := ?_) #[J, J, J, J, J, J, J, J, J, J, J, J, J, J, J, J, J, J, Y, Y, Y, Y] rfl rfl (Qm HT_.out (by kernel_rfl)) (fun _ _ _ h => h) (Or.inl ⟨by rfl, ?_⟩) ?_ ?_
  rotate_left
  ·
   intro w'
   go_simp
   with_reducible rfl
  rotate_left
  ·
   simp only [Act.put, List.setIfInBounds_toArray, List.set_cons_zero, List.set_cons_succ, i64_w, i32_w]
   rfl
  refine pure_ (i := 18) (N := (some 34)) (v := ?_) (a' := ?_) #[J, J, J, J, J, J, J, J, J, J, J, J, J, J, J, J, J, J, J, Y, Y, Y] rfl rfl (Qm HT_.out (by kernel_rfl)) (fun _ _ _ h => h) (Or.inl ⟨by rfl, ?_⟩) ?_ ?_
  rotate_left
  ·
   intro w'
   go_simp
   with_reducible rfl
  rotate_left
  ·
   simp only [Act.put, List.setIfInBounds_toArray, List.set_cons_zero, List.set_cons_succ, i64_w, i32_w]
   rfl
  have s0 := hHeld.1
  have f0 : W0.frozen? ⟨g, 0, none⟩ = false := Qf K2.out 0
  refine last_ (i := 19) (N := none) #[J, J, J, J, J, J, J, J, J, J, J, J, J, J, J, J, J, J, J, J, Y, Y] rfl rfl (one_of HT_.out (by kernel_rfl)) (by decide) (fun K hK => ?_)
  refine skip_ (w1 := ?_) (by rfl) rfl ?_ ?_
  rotate_left
  ·
   go_simp
   rfl
  refine hK.out _ _ ?_
  clear hK K
  clear s0 f0 hHeld
  have y := own_at_of (d := false) (own_setCell (p := ⟨g, 0, none⟩) K4.out (fun e => H.out.2.2.2.1 (by simpa [Value.ownBlock] using e.symm)) (.slice (some ⟨gl, 0, none⟩) (l.length - 1) c)) (rd l ((l.length : Int) - 1)) (of_eq_true hi0) (of_eq_true hi)
  obtain ⟨y0, y1⟩ := y
  have HE := Qa.mk (IsQ.put K2.out H.out.2.1 K3.out K4.out H.out.2.2.2.1 (rd l ((l.length : Int) - 1)) false)
  have HB : Qa (Below base w ((W0.setCell ⟨g, 0, none⟩ (.slice (some ⟨gl, 0, none⟩) (l.length - 1) c)).setCell ⟨gb, (rd l ((l.length : Int) - 1)).toNat, none⟩ (.bool false))) := ⟨(K1.out.setCell (p := ⟨g, 0, none⟩) H.out.2.1 _).setCell (p := ⟨gb, _, none⟩) H.out.2.2.1 _⟩
  generalize W0.setCell ⟨g, 0, none⟩ (.slice (some ⟨gl, 0, none⟩) (l.length - 1) c) = W2 at HE HB y0 y1 ⊢
  refine pure_ (i := 20) (N := (some 35)) (v := ?_) (a' := ?_) #[J, J, J, J, J, J, J, J, J, J, J, J, J, J, J, J, J, J, J, J, J, Y] rfl rfl (Qm HT_.out (by kernel_rfl)) (fun _ _ _ h => h) (Or.inl ⟨by rfl, ?_⟩) ?_ ?_
  rotate_left
  ·
   intro w'
   go_simp
   with_reducible rfl
  rotate_left
  ·
   simp only [Act.put, List.setIfInBounds_toArray, List.set_cons_zero, List.set_cons_succ, i64_w, i32_w]
   rfl
  refine last_ (i := 21) (N := none) #[J, J, J, J, J, J, J, J, J, J, J, J, J, J, J, J, J, J, J, J, J, J] rfl rfl (one_of HT_.out (by kernel_rfl)) (by decide) (fun K hK => ?_)
  refine skip_ (w1 := ?_) (by rfl) rfl ?_ ?_
  rotate_left
  ·
   go_simp
   rfl
  refine hK.out _ _ ?_
  clear hK K
  refine done_ (done_of HT_.out (by kernel_rfl)) ?_
  go_wp2
  go_ret
  exact ⟨rfl, HE.out, HB.out⟩
end Go.Proofs.Ytnaanamibfpbpaa.V
namespace Go.Proofs.Ytnaanamibfpbpaa.V
open Go.RowKit Go.Proofs.YtnaanamibfpbpaaW.PrintWords Go.Proofs.YtnaanamibfpbpaaW.PrintLast Go.Proofs.YtnaanamibfpbpaaW.PrintMore
set_option linter.unusedVariables false
set_option linter.unusedSimpArgs false
abbrev qiface (g : Nat) : Value := .iface 56 (.pointer (some ⟨g, 0, none⟩))
def QPost (base : Nat) (w : World) (g : Nat) (l : List Int) (b : List Bool) (e : Ending) (w' : World) : Prop := e = .returned (.tuple #[]) ∧ ∃ l', l'.Perm l ∧ IsQ base w' g l' b ∧ Below base w w'
theorem IsQ.base_le {base : Nat} {w : World} {g : Nat} {l : List Int} {b : List Bool} (h : IsQ base w g l b) : base ≤ w.heap.size := by
  obtain ⟨_, _, hh, hg, _⟩ := h
  have := Qu hh
  omega
theorem swap_perm (l : List Int) (i k : Int) (hi0 : 0 ≤ i) (hi : i < (l.length : Int)) (hk0 : 0 ≤ k) (hk : k < (l.length : Int)) : (swapL l i k).Perm l := by
  have hi' : i.toNat < l.length := by omega
  have hk' : k.toNat < l.length := by omega
  have e1 : rd l i = l[i.toNat] := by unfold rd; rw [List.getD_eq_getElem?_getD, List.getElem?_eq_getElem hi']; rfl
  have e2 : rd l k = l[k.toNat] := by unfold rd; rw [List.getD_eq_getElem?_getD, List.getElem?_eq_getElem hk']; rfl
  unfold swapL
  rw [e1, e2]
  exact List.set_set_perm hi' hk'
set_option maxHeartbeats 4000000 in
set_option maxRecDepth 100000 in
theorem heap_up {base : Nat} {w : World} {g : Nat} {l : List Int} {b : List Bool} (h : IsQ base w g l b) (j : Int) (hj0 : 0 ≤ j) (hj : j < (l.length : Int)) (hl : l.length ≤ 9223372036854775807) :
    Calls Try.prog 39 #[qiface g, .int .i64 j] w (QPost base w g l b) := by
  have hm1 : ∀ w : World, (method 201 56 (.pointer (some ⟨g, 0, none⟩)) "Less").run Try.prog w = .ok (59, .pointer (some ⟨g, 0, none⟩)) w := fun _ => by kernel_rfl
  have hm2 : ∀ w : World, (method 201 56 (.pointer (some ⟨g, 0, none⟩)) "Swap").run Try.prog w = .ok (62, .pointer (some ⟨g, 0, none⟩)) w := fun _ => by kernel_rfl
  have H := Qa.mk h
  have HL := Qa.mk hl
  have HJ := Qa.mk hj
  clear h hl hj
  go_enter Try.func39, Try.ntmps39
  go_wp2
  go_loopg [1] (j.toNat + 1) (fun kq v1 w' => ∃ (j1 : Int) (l1 : List Int), v1 = .int .i64 j1 ∧ 0 ≤ j1 ∧ Qa (j1.toNat < kq) ∧ Qa (j1 < (l1.length : Int)) ∧ Qa (l1.Perm l) ∧ Qa (IsQ base w' g l1 b) ∧ Qa (Below base w w'))
  case atStart => exact ⟨j, l, rfl, hj0, ⟨by omega⟩, HJ, ⟨List.Perm.refl _⟩, H, ⟨Below.refl _ _⟩⟩
  case round =>
    clear H HJ hj0
    obtain ⟨j1, l1, rfl, h0, hk, hjl, hp, hq, hb⟩ := hrel
    have hll : j1 ≤ 9223372036854775807 := by have := hp.out.length_eq; have := HL.out; have := hjl.out; omega
    by_cases c : j1 = 0
    · subst c
      go_wp2
      go_end0
      exact ⟨rfl, l1, hp.out, hq.out, hb.out⟩
    · have h1 : 1 ≤ j1 := by omega
      have h2 : 0 ≤ (j1 - 1) / 2 := by omega
      have h3 : (j1 - 1) / 2 < j1 := by omega
      have h4 : ((j1 - 1) / 2 == j1) = false := beq_eq_false_iff_ne.2 (by omega)
      have H5 := Qa.mk (show (j1 - 1) / 2 < (l1.length : Int) by have := hjl.out; omega)
      clear c
      by_cases hlt : rd l1 j1 < rd l1 ((j1 - 1) / 2)
      · have hltb : decide (rd l1 j1 < rd l1 ((j1 - 1) / 2)) = true := decide_eq_true hlt
        clear hlt
        go_wp2_with (first
          | (go_at_call 59; refine (queue_Less hq.out j1 ((j1 - 1) / 2) h0 hjl.out h2 H5.out).mono ?_; rintro e w2 ⟨rfl, hd⟩; have HQ2 := Qa.mk (hq.out.below hd.below); have HB2 := Qa.mk (below_then hb.out (by have := hb.out.size; obtain ⟨_, _, hh, hg, _⟩ := hq.out; have := Qu hh; omega) hd.below); clear hd)
          | (go_at_call 62; refine (queue_Swap HQ2.out ((j1 - 1) / 2) j1 h2 H5.out h0 hjl.out).mono ?_; rintro e w3 ⟨rfl, hq3, hb3⟩))
        go_roundg (gk - 1)
        case measure => have := hk.out; omega
        case rel =>
          have hl1 := swapL_length l1 ((j1 - 1) / 2) j1
          exact ⟨(j1 - 1) / 2, swapL l1 ((j1 - 1) / 2) j1, rfl, h2, ⟨by have := hk.out; omega⟩, ⟨by rw [hl1]; exact H5.out⟩, ⟨(swap_perm l1 _ _ h2 H5.out h0 hjl.out).trans hp.out⟩, ⟨hq3⟩, ⟨HB2.out.trans hb3⟩⟩
      · have hltb : decide (rd l1 j1 < rd l1 ((j1 - 1) / 2)) = false := decide_eq_false hlt
        clear hlt
        go_wp2_with (go_at_call 59; refine (queue_Less hq.out j1 ((j1 - 1) / 2) h0 hjl.out h2 H5.out).mono ?_; rintro e w2 ⟨rfl, hd⟩; have HQ2 := Qa.mk (hq.out.below hd.below); have HB2 := Qa.mk (below_then hb.out (by have := hb.out.size; obtain ⟨_, _, hh, hg, _⟩ := hq.out; have := Qu hh; omega) hd.below); clear hd)
        go_end0
        exact ⟨rfl, l1, hp.out, HQ2.out, HB2.out⟩
def DPost (base : Nat) (w : World) (g : Nat) (l : List Int) (b : List Bool) (e : Ending) (w' : World) : Prop := ∃ r, e = .returned (.bool r) ∧ ∃ l', l'.Perm l ∧ IsQ base w' g l' b ∧ Below base w w'
set_option maxHeartbeats 8000000 in
set_option maxRecDepth 100000 in
theorem heap_down {base : Nat} {w : World} {g : Nat} {l : List Int} {b : List Bool} (h : IsQ base w g l b) (i0 n : Int) (hi0 : 0 ≤ i0) (hi1 : i0 ≤ (l.length : Int)) (hn : n ≤ (l.length : Int)) (hl : l.length ≤ 140737488355328) :
    Calls Try.prog 30 #[qiface g, .int .i64 i0, .int .i64 n] w (DPost base w g l b) := by
  have hm1 : ∀ w : World, (method 201 56 (.pointer (some ⟨g, 0, none⟩)) "Less").run Try.prog w = .ok (59, .pointer (some ⟨g, 0, none⟩)) w := fun _ => by kernel_rfl
  have hm2 : ∀ w : World, (method 201 56 (.pointer (some ⟨g, 0, none⟩)) "Swap").run Try.prog w = .ok (62, .pointer (some ⟨g, 0, none⟩)) w := fun _ => by kernel_rfl
  have H := Qa.mk h
  have HL := Qa.mk hl
  have HN := Qa.mk hn
  have HI := Qa.mk hi1
  clear h hl hn hi1
  go_enter Try.func30, Try.ntmps30
  go_wp2
  go_loopg [7] ((l.length : Int) - i0).toNat (fun kq v7 w' => ∃ (i : Int) (l1 : List Int), v7 = .int .i64 i ∧ 0 ≤ i ∧ Qa (((l.length : Int) - i).toNat ≤ kq) ∧ Qa (i ≤ (l1.length : Int)) ∧ Qa (l1.Perm l) ∧ Qa (IsQ base w' g l1 b) ∧ Qa (Below base w w'))
  case atStart => exact ⟨i0, l, rfl, hi0, ⟨Nat.le_refl _⟩, HI, ⟨List.Perm.refl _⟩, H, ⟨Below.refl _ _⟩⟩
  case round =>
    clear H HI
    obtain ⟨i, l1, rfl, h0, hk, hil, hp, hq, hb⟩ := hrel
    have HLE := Qa.mk hp.out.length_eq
    have hib : i ≤ 140737488355328 := by have := HLE.out; have := HL.out; have := hil.out; omega
    have hj0 : 0 ≤ 2 * i + 1 := by omega
    have hj1 : 2 * i + 1 ≤ 281474976710657 := by omega
    have hjn : decide (2 * i + 1 < 0) = false := decide_eq_false (by omega)
    by_cases c1 : 2 * i + 1 ≥ n
    · have c1b : decide (2 * i + 1 ≥ n) = true := decide_eq_true c1
      clear c1
      go_wp2
      go_ret
      exact ⟨_, rfl, l1, hp.out, hq.out, hb.out⟩
    have c1b : decide (2 * i + 1 ≥ n) = false := decide_eq_false c1
    have HJ1 := Qa.mk (show 2 * i + 1 < (l1.length : Int) by have := HN.out; have := HLE.out; omega)
    have HIL := Qa.mk (show i < (l1.length : Int) by have := HJ1.out; omega)
    clear c1
    by_cases c2 : 2 * i + 1 + 1 < n
    · have c2b : decide (2 * i + 1 + 1 < n) = true := decide_eq_true c2
      have hj2 : 0 ≤ 2 * i + 1 + 1 := by omega
      have HJ2 := Qa.mk (show 2 * i + 1 + 1 < (l1.length : Int) by have := HN.out; have := HLE.out; omega)
      clear c2
      by_cases hl2 : rd l1 (2 * i + 1 + 1) < rd l1 (2 * i + 1)
      · have hl2b : decide (rd l1 (2 * i + 1 + 1) < rd l1 (2 * i + 1)) = true := decide_eq_true hl2
        clear hl2
        by_cases hlt : rd l1 (2 * i + 1 + 1) < rd l1 i
        · have hltb : decide (rd l1 (2 * i + 1 + 1) < rd l1 i) = true := decide_eq_true hlt
          clear hlt
          go_wp2_with fail
          (go_at_call 59; refine (queue_Less hq.out (2 * i + 1 + 1) (2 * i + 1) hj2 HJ2.out hj0 HJ1.out).mono ?_; rintro e w2 ⟨rfl, hd⟩; have HQ2 := Qa.mk (IsQ.below hq.out hd.below); have HB2 := Qa.mk (below_then hb.out (IsQ.base_le hq.out) hd.below); clear hd)
          go_wp2_with fail
          (go_at_call 59; refine (queue_Less HQ2.out (2 * i + 1 + 1) i hj2 HJ2.out h0 HIL.out).mono ?_; rintro e w3 ⟨rfl, hd⟩; have HQ3 := Qa.mk (IsQ.below HQ2.out hd.below); have HB3 := Qa.mk (below_then HB2.out (IsQ.base_le HQ2.out) hd.below); clear hd)
          go_wp2_with fail
          (go_at_call 62; refine (queue_Swap HQ3.out i (2 * i + 1 + 1) h0 HIL.out hj2 HJ2.out).mono ?_; rintro e w4 ⟨rfl, hq4, hb4⟩)
          go_wp2
          go_roundg (gk - 1)
          case measure => have := hk.out; have := HLE.out; have := (HJ2.out); omega
          case rel => exact ⟨2 * i + 1 + 1, swapL l1 i (2 * i + 1 + 1), rfl, hj2, ⟨by have := hk.out; have := HLE.out; have := (HJ2.out); omega⟩, ⟨by rw [swapL_length]; have := (HJ2.out); omega⟩, ⟨(swap_perm l1 _ _ h0 HIL.out hj2 HJ2.out).trans hp.out⟩, ⟨hq4⟩, ⟨HB3.out.trans hb4⟩⟩
        · have hltb : decide (rd l1 (2 * i + 1 + 1) < rd l1 i) = false := decide_eq_false hlt
          clear hlt
          go_wp2_with fail
          (go_at_call 59; refine (queue_Less hq.out (2 * i + 1 + 1) (2 * i + 1) hj2 HJ2.out hj0 HJ1.out).mono ?_; rintro e w2 ⟨rfl, hd⟩; have HQ2 := Qa.mk (IsQ.below hq.out hd.below); have HB2 := Qa.mk (below_then hb.out (IsQ.base_le hq.out) hd.below); clear hd)
          go_wp2_with fail
          (go_at_call 59; refine (queue_Less HQ2.out (2 * i + 1 + 1) i hj2 HJ2.out h0 HIL.out).mono ?_; rintro e w3 ⟨rfl, hd⟩; have HQ3 := Qa.mk (IsQ.below HQ2.out hd.below); have HB3 := Qa.mk (below_then HB2.out (IsQ.base_le HQ2.out) hd.below); clear hd)
          go_wp2
          go_ret
          exact ⟨_, rfl, l1, hp.out, HQ3.out, HB3.out⟩
      · have hl2b : decide (rd l1 (2 * i + 1 + 1) < rd l1 (2 * i + 1)) = false := decide_eq_false hl2
        clear hl2
        by_cases hlt : rd l1 (2 * i + 1) < rd l1 i
        · have hltb : decide (rd l1 (2 * i + 1) < rd l1 i) = true := decide_eq_true hlt
          clear hlt
          go_wp2_with fail
          (go_at_call 59; refine (queue_Less hq.out (2 * i + 1 + 1) (2 * i + 1) hj2 HJ2.out hj0 HJ1.out).mono ?_; rintro e w2 ⟨rfl, hd⟩; have HQ2 := Qa.mk (IsQ.below hq.out hd.below); have HB2 := Qa.mk (below_then hb.out (IsQ.base_le hq.out) hd.below); clear hd)
          go_wp2_with fail
          (go_at_call 59; refine (queue_Less HQ2.out (2 * i + 1) i hj0 HJ1.out h0 HIL.out).mono ?_; rintro e w3 ⟨rfl, hd⟩; have HQ3 := Qa.mk (IsQ.below HQ2.out hd.below); have HB3 := Qa.mk (below_then HB2.out (IsQ.base_le HQ2.out) hd.below); clear hd)
          go_wp2_with fail
          (go_at_call 62; refine (queue_Swap HQ3.out i (2 * i + 1) h0 HIL.out hj0 HJ1.out).mono ?_; rintro e w4 ⟨rfl, hq4, hb4⟩)
          go_wp2
          go_roundg (gk - 1)
          case measure => have := hk.out; have := HLE.out; have := (HJ1.out); omega
          case rel => exact ⟨2 * i + 1, swapL l1 i (2 * i + 1), rfl, hj0, ⟨by have := hk.out; have := HLE.out; have := (HJ1.out); omega⟩, ⟨by rw [swapL_length]; have := (HJ1.out); omega⟩, ⟨(swap_perm l1 _ _ h0 HIL.out hj0 HJ1.out).trans hp.out⟩, ⟨hq4⟩, ⟨HB3.out.trans hb4⟩⟩
        · have hltb : decide (rd l1 (2 * i + 1) < rd l1 i) = false := decide_eq_false hlt
          clear hlt
          go_wp2_with fail
          (go_at_call 59; refine (queue_Less hq.out (2 * i + 1 + 1) (2 * i + 1) hj2 HJ2.out hj0 HJ1.out).mono ?_; rintro e w2 ⟨rfl, hd⟩; have HQ2 := Qa.mk (IsQ.below hq.out hd.below); have HB2 := Qa.mk (below_then hb.out (IsQ.base_le hq.out) hd.below); clear hd)
          go_wp2_with fail
          (go_at_call 59; refine (queue_Less HQ2.out (2 * i + 1) i hj0 HJ1.out h0 HIL.out).mono ?_; rintro e w3 ⟨rfl, hd⟩; have HQ3 := Qa.mk (IsQ.below HQ2.out hd.below); have HB3 := Qa.mk (below_then HB2.out (IsQ.base_le HQ2.out) hd.below); clear hd)
          go_wp2
          go_ret
          exact ⟨_, rfl, l1, hp.out, HQ3.out, HB3.out⟩
    · have c2b : decide (2 * i + 1 + 1 < n) = false := decide_eq_false c2
      clear c2
      by_cases hlt : rd l1 (2 * i + 1) < rd l1 i
      · have hltb : decide (rd l1 (2 * i + 1) < rd l1 i) = true := decide_eq_true hlt
        clear hlt
        go_wp2_with fail
        (go_at_call 59; refine (queue_Less hq.out (2 * i + 1) i hj0 HJ1.out h0 HIL.out).mono ?_; rintro e w3 ⟨rfl, hd⟩; have HQ3 := Qa.mk (IsQ.below hq.out hd.below); have HB3 := Qa.mk (below_then hb.out (IsQ.base_le hq.out) hd.below); clear hd)
        go_wp2_with fail
        (go_at_call 62; refine (queue_Swap HQ3.out i (2 * i + 1) h0 HIL.out hj0 HJ1.out).mono ?_; rintro e w4 ⟨rfl, hq4, hb4⟩)
        go_wp2
        go_roundg (gk - 1)
        case measure => have := hk.out; have := HLE.out; have := (HJ1.out); omega
        case rel => exact ⟨2 * i + 1, swapL l1 i (2 * i + 1), rfl, hj0, ⟨by have := hk.out; have := HLE.out; have := (HJ1.out); omega⟩, ⟨by rw [swapL_length]; have := (HJ1.out); omega⟩, ⟨(swap_perm l1 _ _ h0 HIL.out hj0 HJ1.out).trans hp.out⟩, ⟨hq4⟩, ⟨HB3.out.trans hb4⟩⟩
      · have hltb : decide (rd l1 (2 * i + 1) < rd l1 i) = false := decide_eq_false hlt
        clear hlt
        go_wp2_with fail
        (go_at_call 59; refine (queue_Less hq.out (2 * i + 1) i hj0 HJ1.out h0 HIL.out).mono ?_; rintro e w3 ⟨rfl, hd⟩; have HQ3 := Qa.mk (IsQ.below hq.out hd.below); have HB3 := Qa.mk (below_then hb.out (IsQ.base_le hq.out) hd.below); clear hd)
        go_wp2
        go_ret
        exact ⟨_, rfl, l1, hp.out, HQ3.out, HB3.out⟩
end Go.Proofs.Ytnaanamibfpbpaa.V
namespace Go.Proofs.Ytnaanamibfpbpaa.V
open Go.RowKit Go.Proofs.YtnaanamibfpbpaaW.PrintWords Go.Proofs.YtnaanamibfpbpaaW.PrintLast Go.Proofs.YtnaanamibfpbpaaW.PrintMore
set_option linter.unusedVariables false
set_option linter.unusedSimpArgs false
set_option maxHeartbeats 4000000 in
set_option maxRecDepth 100000 in
theorem heap_Push {base : Nat} {w : World} {g : Nat} {l : List Int} {b : List Bool} (h : IsQ base w g l b) (i : Int) (hi0 : 0 ≤ i) (hi : i < (b.length : Int)) (hl : (l.length + 1) * 8 ≤ 140737488355328) :
    Calls Try.prog 29 #[qiface g, .iface 3 (.int .i64 i)] w (QPost base w g (l ++ [i]) (b.set i.toNat true)) := by
  have hm1 : ∀ w : World, (method 201 56 (.pointer (some ⟨g, 0, none⟩)) "Len").run Try.prog w = .ok (24, .pointer (some ⟨g, 0, none⟩)) w := fun _ => by kernel_rfl
  have hm2 : ∀ w : World, (method 201 56 (.pointer (some ⟨g, 0, none⟩)) "Push").run Try.prog w = .ok (61, .pointer (some ⟨g, 0, none⟩)) w := fun _ => by kernel_rfl
  have H := Qa.mk h
  have HI := Qa.mk (And.intro hi0 (And.intro hi hl))
  have HL := Qa.mk (show (l ++ [i]).length ≤ 140737488355328 by rw [List.length_append, List.length_singleton]; omega)
  have hb0 : 0 ≤ ((l ++ [i]).length : Int) - 1 := by rw [List.length_append, List.length_singleton]; omega
  have HB1 := Qa.mk (show ((l ++ [i]).length : Int) - 1 < ((l ++ [i]).length : Int) by omega)
  clear h hi0 hi hl
  go_enter Try.func29, Try.ntmps29
  go_wp2_with fail
  (go_at_call 61; refine (queue_Push H.out H.out.base_le i HI.out.1 HI.out.2.1 HI.out.2.2).mono ?_; rintro e w2 ⟨rfl, hq2, hb2⟩)
  have HQ2 := Qa.mk hq2
  have HB2 := Qa.mk hb2
  clear hq2 hb2
  generalize hG : l ++ [i] = L at HQ2 HL hb0 HB1
  have HG := Qa.mk hG
  clear hG
  have hbL : (L.length : Int) ≤ 140737488355328 := by have := HL.out; omega
  go_wp2_with fail
  (go_at_call 24; refine (queue_Len HQ2.out).mono ?_; rintro e w3 ⟨rfl, rfl⟩)
  go_wp2_with fail
  (go_at_call 39; refine (heap_up HQ2.out ((L.length : Int) - 1) hb0 HB1.out (by have := HL.out; omega)).mono ?_; rintro e w4 ⟨rfl, l4, hp4, hq4, hb4⟩)
  go_wp2
  go_end0
  exact ⟨rfl, l4, by rw [HG.out]; exact hp4, hq4, HB2.out.trans hb4⟩
def PPost (base : Nat) (w : World) (g : Nat) (l : List Int) (b : List Bool) (e : Ending) (w' : World) : Prop := ∃ x l', e = .returned (.iface 3 (.int .i64 x)) ∧ (x :: l').Perm l ∧ IsQ base w' g l' (b.set x.toNat false) ∧ Below base w w'
theorem take_last (l : List Int) (hl : 0 < l.length) : (rd l ((l.length : Int) - 1) :: l.take ((l.length : Int) - 1).toNat).Perm l := by
  have e : ((l.length : Int) - 1).toNat = l.length - 1 := by omega
  have h : l.length - 1 < l.length := by omega
  have e2 : rd l ((l.length : Int) - 1) = l[l.length - 1] := by unfold rd; rw [e, List.getD_eq_getElem?_getD, List.getElem?_eq_getElem h]; rfl
  rw [e, e2]
  have h3 : l.take (l.length - 1) ++ [l[l.length - 1]] = l := by
    rw [← List.take_succ_eq_append_getElem h, List.take_of_length_le (by omega)]
  exact (List.perm_append_singleton _ _).symm.trans (by rw [h3])
set_option maxHeartbeats 4000000 in
set_option maxRecDepth 100000 in
theorem heap_Pop {base : Nat} {w : World} {g : Nat} {l : List Int} {b : List Bool} (h : IsQ base w g l b) (hl0 : 0 < l.length) (hl : l.length ≤ 140737488355328) (hall : ∀ x ∈ l, 0 ≤ x ∧ x < (b.length : Int)) :
    Calls Try.prog 25 #[qiface g] w (PPost base w g l b) := by
  have hm1 : ∀ w : World, (method 201 56 (.pointer (some ⟨g, 0, none⟩)) "Len").run Try.prog w = .ok (24, .pointer (some ⟨g, 0, none⟩)) w := fun _ => by kernel_rfl
  have hm2 : ∀ w : World, (method 201 56 (.pointer (some ⟨g, 0, none⟩)) "Swap").run Try.prog w = .ok (62, .pointer (some ⟨g, 0, none⟩)) w := fun _ => by kernel_rfl
  have hm3 : ∀ w : World, (method 201 56 (.pointer (some ⟨g, 0, none⟩)) "Pop").run Try.prog w = .ok (60, .pointer (some ⟨g, 0, none⟩)) w := fun _ => by kernel_rfl
  have H := Qa.mk h
  have HA := Qa.mk hall
  have HL := Qa.mk (And.intro hl0 hl)
  have hbL : (l.length : Int) ≤ 140737488355328 := by omega
  have hb0 : 0 ≤ (l.length : Int) - 1 := by omega
  clear h hl0 hl hall
  go_enter Try.func25, Try.ntmps25
  go_wp2_with fail
  (go_at_call 24; refine (queue_Len H.out).mono ?_; rintro e w3 ⟨rfl, rfl⟩)
  go_wp2_with fail
  (go_at_call 62; refine (queue_Swap H.out 0 ((l.length : Int) - 1) (Int.le_refl 0) (by have := HL.out.1; omega) hb0 (by omega)).mono ?_; rintro e w4 ⟨rfl, hq4, hb4⟩)
  have HQ4 := Qa.mk hq4
  have HB4 := Qa.mk hb4
  have HP4 := Qa.mk (swap_perm l 0 ((l.length : Int) - 1) (Int.le_refl 0) (by have := HL.out.1; omega) hb0 (by omega))
  clear hq4 hb4
  generalize swapL l 0 ((l.length : Int) - 1) = l4 at HQ4 HP4
  have HL4 := Qa.mk HP4.out.length_eq
  go_wp2_with fail
  (go_at_call 30; refine (heap_down HQ4.out 0 ((l.length : Int) - 1) (Int.le_refl 0) (by omega) (by have := HL4.out; omega) (by have := HL4.out; have := HL.out.2; omega)).mono ?_; rintro e w5 ⟨r, rfl, l5, hp5, hq5, hb5⟩)
  have HQ5 := Qa.mk hq5
  have HB5 := Qa.mk hb5
  have HP5 := Qa.mk (hp5.trans HP4.out)
  have HL5 := Qa.mk HP5.out.length_eq
  clear hq5 hb5 hp5
  have HR : Qa (0 ≤ rd l5 ((l5.length : Int) - 1) ∧ rd l5 ((l5.length : Int) - 1) < (b.length : Int)) := ⟨HA.out _ (HP5.out.mem_iff.1 ((take_last l5 (by have := HL5.out; have := HL.out.1; omega)).mem_iff.1 (by simp)))⟩
  go_wp2_with fail
  (go_at_call 60; refine (queue_Pop HQ5.out (by have := HL5.out; have := HL.out.1; omega) HR.out.1 HR.out.2).mono ?_; rintro e w6 ⟨rfl, hq6, hb6⟩)
  go_wp2
  go_ret
  exact ⟨_, _, rfl, (take_last l5 (by have := HL5.out; have := HL.out.1; omega)).trans HP5.out, hq6, (HB4.out.trans HB5.out).trans hb6⟩
def APost (base : Nat) (w : World) (g : Nat) (l : List Int) (b : List Bool) (i : Int) (e : Ending) (w' : World) : Prop :=
  e = .returned (.tuple #[]) ∧ ∃ l', (if rdOf false b i = true then l'.Perm l else l'.Perm (l ++ [i])) ∧ IsQ base w' g l' (b.set i.toNat true) ∧ Below base w w'
set_option maxHeartbeats 4000000 in
set_option maxRecDepth 100000 in
theorem queue_add {base : Nat} {w : World} {g : Nat} {l : List Int} {b : List Bool} (h : IsQ base w g l b) (i : Int) (hi0 : 0 ≤ i) (hi : i < (b.length : Int)) (hl : (l.length + 1) * 8 ≤ 140737488355328) :
    Calls Try.prog 23 #[.pointer (some ⟨g, 0, none⟩), .int .i64 i] w (APost base w g l b i) := by
  obtain ⟨vl, gb, d, h1, h2, h3, h4, h5, h6, h7⟩ := h.marks (by omega)
  have x1 : w.cell? ⟨g, 1, none⟩ = some (.slice (some ⟨gb, 0, none⟩) b.length d) := (Qb h1 1).trans rfl
  have y := (own_at_of (d := false) h6 i hi0 hi).1
  have H := Qa.mk h
  have HI := Qa.mk (And.intro hi0 (And.intro hi hl))
  replace hi0 := eq_true hi0
  replace hi := eq_true hi
  clear h h1 h2 h3 h4 h5 h6 h7 hl
  by_cases c : rdOf false b i = true
  · have hs : b.set i.toNat true = b := by
      have hlt : i.toNat < b.length := by have := HI.out; omega
      have e : b[i.toNat] = true := by
        unfold rdOf at c
        rw [List.getD_eq_getElem?_getD, List.getElem?_eq_getElem hlt] at c
        exact c
      rw [← e]
      exact List.set_getElem_self hlt
    have HS := Qa.mk hs
    rw [c] at y
    have HC := Qa.mk c
    clear hs c
    go_enter Try.func23, Try.ntmps23
    go_wp2
    go_end0
    exact ⟨rfl, l, by rw [if_pos HC.out], by rw [HS.out]; exact H.out, Below.refl _ _⟩
  · rw [Bool.eq_false_iff.2 c] at y
    have HC := Qa.mk c
    clear c
    go_enter Try.func23, Try.ntmps23
    go_wp2_with fail
    (go_at_call 29; refine (heap_Push H.out i HI.out.1 HI.out.2.1 HI.out.2.2).mono ?_; rintro e w4 ⟨rfl, l4, hp4, hq4, hb4⟩)
    go_wp2
    go_end0
    exact ⟨rfl, l4, by rw [if_neg HC.out]; exact hp4, hq4, hb4⟩
end Go.Proofs.Ytnaanamibfpbpaa.V
namespace Go.Proofs.Ytnaanamibfpbpaa.V
open Go.RowKit Go.Proofs.YtnaanamibfpbpaaW.PrintWords Go.Proofs.YtnaanamibfpbpaaW.PrintLast Go.Proofs.YtnaanamibfpbpaaW.PrintMore
attribute [local go_sem] max2_int min2_int max_two min_two max_three min_three max_four min_four tdiv_most
set_option linter.unusedVariables false
set_option linter.unusedSimpArgs false
theorem eqA36 (d : Nat) (w : World) (x0 y0 : Bool) (x1 y1 : Bool) (x2 y2 : Bool) :
    (Op.equalIn (d + 2) 36 (.agg #[.bool x0, .bool x1, .bool x2]) (.agg #[.bool y0, .bool y1, .bool y2])).run Try.prog w = .ok (x0 == y0 && (x1 == y1 && (x2 == y2))) w := by
  refine eqA_of Try.underlying36 (by kernel_rfl) ?_
  refine eqf_cons (by rfl) (by go_simp; rfl) (by go_simp; rfl) (by go_simp) ?_
  refine eqf_cons (by rfl) (by go_simp; rfl) (by go_simp; rfl) (by go_simp) ?_
  exact eqf_last (by rfl) (by go_simp; rfl) (by go_simp; rfl) (by go_simp)
end Go.Proofs.Ytnaanamibfpbpaa.V
namespace Go.Proofs.Ytnaanamibfpbpaa.V
open Go.RowKit Go.Proofs.YtnaanamibfpbpaaW.PrintWords Go.Proofs.YtnaanamibfpbpaaW.PrintLast Go.Proofs.YtnaanamibfpbpaaW.PrintMore
set_option linter.unusedVariables false
set_option linter.unusedSimpArgs false
attribute [local go_sem high] eqA36
structure EnvO (w w1 W : World) (go cO q : Nat) (O : List FlowT) (l : List Int) (b : List Bool) : Prop where
  hk : KeepBut w1 W go none
  hb : Below w.heap.size w W
  ho : Kd.R k36 36 W w.heap.size (fun k => k = go) (.slice (some ⟨go, 0, none⟩) O.length cO) O
  hq : IsQ w1.heap.size W q l b
  hl : w.heap.size ≤ w1.heap.size
  hg : go < w1.heap.size
theorem keep_base {w1 W W' : World} {go : Nat} (h : KeepBut w1 W go none) (k : Below w1.heap.size W W') : KeepBut w1 W' go none :=
  ⟨Nat.le_trans h.1 k.size, fun i hi hn hr => (k.block i hi).trans (h.2 i hi hn hr)⟩
theorem EnvO.q {w w1 W W' : World} {go cO q : Nat} {O : List FlowT} {l l' : List Int} {b b' : List Bool} (h : EnvO w w1 W go cO q O l b) (hb : Below w1.heap.size W W') (hq : IsQ w1.heap.size W' q l' b') : EnvO w w1 W' go cO q O l' b' :=
  ⟨keep_base h.hk hb, h.hb.trans (hb.mono h.hl), Kd.R_step h.ho (fun k hk _ => by subst hk; exact hb.block _ h.hg), hq, h.hl, h.hg⟩
theorem EnvO.below {w w1 W W' : World} {go cO q : Nat} {O : List FlowT} {l : List Int} {b : List Bool} (h : EnvO w w1 W go cO q O l b) (hb : Below W.heap.size W W') : EnvO w w1 W' go cO q O l b :=
  ⟨KeepBut.trans h.hk (KeepBut.of_below hb go none) (.inl rfl), Qr h.hb hb, Kd.Qh1 h.ho hb, h.hq.below hb, h.hl, h.hg⟩
theorem EnvO.blk {w w1 W : World} {go cO q : Nat} {O : List FlowT} {l : List Int} {b : List Bool} (h : EnvO w w1 W go cO q O l b) {g : Nat} {o : Obj} (hg : w1.heap[g]? = some o) (hne : g ≠ go) : W.heap[g]? = some o := h.hk.blk hg hne (by simp)
theorem qinv_nil (n : Nat) : QInv n [] (List.replicate n false) := by
  refine ⟨by simp, by simp, fun x => ⟨fun h => (by cases h), fun h => ?_⟩⟩
  have := h.2.2
  unfold rdOf at this
  rw [List.getD_eq_getElem?_getD, List.getElem?_replicate] at this
  split at this <;> cases this
theorem put3 {W : World} {g t : Nat} {a b c : Value} (h : W.heap[g]? = some (.cells #[a, b, c] t (0, 0))) (x y z : Value) : (((W.setCell ⟨g, 0, none⟩ x).setCell ⟨g, 1, none⟩ y).setCell ⟨g, 2, none⟩ z).heap[g]? = some (.cells #[x, y, z] t (0, 0)) := Qq (Qq (Qq h 0 x rfl) 1 y rfl) 2 z rfl
def phi (n : Nat) (O : List FlowT) (l : List Int) : Nat := (3 * n - cnt (O.map toR)) * (n + 1) + l.length
theorem phi_lt {n : Nat} {O O' : List FlowT} {l l1 : List Int} (h : cnt (O.map toR) < cnt (O'.map toR)) (h3 : cnt (O'.map toR) ≤ 3 * n) (hl : l1.length ≤ n) : phi n O' l1 < phi n O l := by
  unfold phi
  have h1 : (3 * n - cnt (O'.map toR)) + 1 ≤ 3 * n - cnt (O.map toR) := by omega
  have h2 := Nat.mul_le_mul_right (n + 1) h1
  rw [Nat.add_mul, Nat.one_mul] at h2
  omega
theorem IsQ.far {base : Nat} {w : World} {g : Nat} {l : List Int} {b : List Bool} (h : IsQ base w g l b) {p : Addr} (hp : p.block < base) (u : Value) : IsQ base (w.setCell p u) g l b := by
  obtain ⟨vl, vb, h1, h2, h3, h4⟩ := h
  exact ⟨vl, vb, Qn h1 (by omega) u, h2, own_setCell h3 (fun e => by have := own_base h3 _ e.symm; omega) u, own_setCell h4 (fun e => by have := own_base h4 _ e.symm; omega) u⟩
theorem EnvO.store {w w1 W : World} {go cO q : Nat} {O : List FlowT} {l : List Int} {b : List Bool} (h : EnvO w w1 W go cO q O l b) (x : Int) (hx0 : 0 ≤ x) (hx1 : x < (O.length : Int)) (v : FlowT) :
    EnvO w w1 (((W.setCell ⟨go, x.toNat * 3, none⟩ (.bool v.f0)).setCell ⟨go, x.toNat * 3 + 1, none⟩ (.bool v.f1)).setCell ⟨go, x.toNat * 3 + 2, none⟩ (.bool v.f2)) go cO q (O.set x.toNat v) l b := by
  have hgo : w.heap.size ≤ go := Kd.R_base h.ho go rfl
  obtain ⟨ce, hcl, hM, hcc, hfr⟩ := Kd.R_elem h.ho z36 x hx0 hx1
  have HP := Kd.R_seg h.ho x hx0 hx1 (seg := [.bool v.f0, .bool v.f1, .bool v.f2]) (j := 0) hcl hcc (show 3 ≤ 3 from by decide) (x' := v) (by
    rw [List.take_zero, List.nil_append, show (0 + [Value.bool v.f0, .bool v.f1, .bool v.f2].length) = ce.length from hcl.symm, List.drop_length, List.append_nil]
    exact k36_mkM _ _ _ v) (fun _ hk => hk)
  refine ⟨((h.hk.set_ _ _).set_ _ _).set_ _ _, ((h.hb.setCell (p := ⟨go, x.toNat * 3, none⟩) hgo _).setCell (p := ⟨go, x.toNat * 3 + 1, none⟩) hgo _).setCell (p := ⟨go, x.toNat * 3 + 2, none⟩) hgo _, ?_, ((h.hq.far (p := ⟨go, x.toNat * 3, none⟩) h.hg _).far (p := ⟨go, x.toNat * 3 + 1, none⟩) h.hg _).far (p := ⟨go, x.toNat * 3 + 2, none⟩) h.hg _, h.hl, h.hg⟩
  rw [List.length_set]
  exact Kd.R_mono HP.1 (fun k hk => hk)
set_option maxHeartbeats 8000000 in
set_option maxRecDepth 100000 in
theorem flow_Of.calls (k : Nat) (A0_0 : Option Addr) (c0_0 : Nat) (l0_0 : List RuleT) (A0_1 : Option Addr) (c0_1 : Nat) (l0_1 : List NodeT) (r : List FlowT) (w : World) (hr0_0 : Kd.C k39 w A0_0 l0_0.length l0_0) (hc0_0 : l0_0.length ≤ c0_0) (hr0_1 : Kd.C k53 w A0_1 l0_1.length l0_1) (hc0_1 : l0_1.length ≤ c0_1) (h : flow_Of.f k l0_0 l0_1 = some r) :
    Calls Try.prog 13 #[.agg #[.slice A0_0 l0_0.length c0_0, .slice A0_1 l0_1.length c0_1]] w fun e w' => ∃ v0_ : Value, e = .returned (v0_) ∧ Kd.R k36 36 w' w.heap.size (fun _ => True) v0_ r ∧ Below w.heap.size w w' := by
  unfold flow_Of.f at h
  have hc : fitB l0_0 l0_1 = true ∧ 20000 ≤ k := by
    by_cases hc : fitB l0_0 l0_1 = true ∧ 20000 ≤ k
    · exact hc
    · rw [if_neg hc] at h; cases h
  rw [if_pos hc] at h
  obtain rfl := Option.some.inj h
  have FIT := Qa.mk (fit_of hc.1)
  have HK := Qa.mk hc.2
  have hn1 : 0 < l0_1.length := FIT.out.pos
  have hn3 : l0_1.length ≤ 300 := FIT.out.nodes
  have HN := Qa.mk (And.intro hn1 hn3)
  obtain ⟨U, hU, hUok⟩ := users_val FIT.out k HK.out
  have HU := Qa.mk hU
  have HUO := Qa.mk hUok
  have HR0 := Qa.mk hr0_0
  have HC0 := Qa.mk hc0_0
  have HR1 := Qa.mk hr0_1
  have HC1 := Qa.mk hc0_1
  clear hc h hn1 hn3 hU hUok hr0_0 hr0_1 hc0_0 hc0_1
  have hu25 := Try.underlying25
  have hu36 := Try.underlying36
  have hu59 := Try.underlying59
  have hu32 := Try.underlying32
  have hu57 := Try.underlying57
  have hu51 := Try.underlying51
  have hu54 := Try.underlying54
  have hta : ∀ (w : World) (x : Int), (Instr.typeAssert (.iface 3 (.int .i64 x)) 20 3 true).run Try.prog w = .ok (.tuple #[.int .i64 x, .bool true]) w := fun _ _ => by kernel_rfl
  go_enter Try.func13, Try.ntmps13
  go_upto_region 1 with ((with_reducible refine Qd1 (N := 1) rfl ?_); refine Qg1 ?hg (N := 1) ?hd (cs := #[.slice A0_0 l0_0.length c0_0, .slice A0_1 l0_1.length c0_1]) (t := 25) ?hr ?_; (case hd => rfl); (case hg => rfl); (case hr => first | (go_simp; done) | (go_simp; rfl)); intro gb hg w2 hbox hb; have GB := Qa.mk hbox; have HB2 := Qa.mk hb; have HG := Qa.mk hg; clear hbox hb hg)
  have z0 : w2.cell? ⟨gb, 0, none⟩ = some (.slice A0_0 l0_0.length c0_0) := (Qb GB.out 0).trans rfl
  have z1 : w2.cell? ⟨gb, 1, none⟩ = some (.slice A0_1 l0_1.length c0_1) := (Qb GB.out 1).trans rfl
  go_upto_region 2 with ((with_reducible refine Qd1 (N := 16) rfl ?_); refine Kd.R_make k36 _ 36 rfl (N := 16) rfl 32 _ _ rfl (l0_1.length : Int) rfl rfl Try.underlying32 (.agg #[(.bool false), (.bool false), (.bool false)]) 3 info36 rfl (by decide) (by omega) z36 (ok := fun _ => True) (okp := fun _ => True) (k36_mkM _ _ _ z36) (fun _ hk => hk) trivial (by omega) (by have := HN.out; omega) (Below.refl _ _) (Nat.le_refl _) ?_; intro vO w3 ho hb hg_ hnew_; have HO := Qa.mk ho; have HB3 := Qa.mk hb; clear ho hb hg_ hnew_)
  have hlen : (List.replicate (l0_1.length : Int).toNat z36).length = l0_1.length := by simp
  obtain ⟨go, cO, eO, go1, go2, cells, go3⟩ := Kd.R_form HO.out (by rw [hlen]; exact HN.out.1)
  rw [hlen] at eO
  subst eO
  have GOB := Qa.mk go1
  have GOL := Qa.mk go2
  have GOC := Qa.mk go3
  clear go1 go2 go3 z0 z1 hlen
  have GB3 := Qa.mk (Qo GB.out HB3.out)
  have z0 : w3.cell? ⟨gb, 0, none⟩ = some (.slice A0_0 l0_0.length c0_0) := (Qb GB3.out 0).trans rfl
  have z1 : w3.cell? ⟨gb, 1, none⟩ = some (.slice A0_1 l0_1.length c0_1) := (Qb GB3.out 1).trans rfl
  have HBW3 := Qa.mk (Qr HB2.out HB3.out)
  go_wp2_with fail
  refine (flow_users.calls k A0_0 c0_0 l0_0 A0_1 c0_1 l0_1 U _ (Kd.Qw HR0.out HBW3.out) HC0.out (Kd.Qw HR1.out HBW3.out) HC1.out HU.out).mono ?_
  rintro e w4 ⟨vU, rfl, hsu, hb4⟩
  have HB4 := Qa.mk hb4
  have GO4 := Qa.mk (Qo GOC.out HB4.out)
  have HSU := Qa.mk (Kd.S_types hsu GO4.out (by decide))
  clear hsu hb4 z0 z1
  obtain ⟨gU, cU, eU, hU1, hU2, cellsU, hU3⟩ := Kd.S_form HSU.out (by rw [HUO.out.1]; exact HN.out.1)
  rw [HUO.out.1] at eU
  subst eU
  clear hU1 hU2 hU3
  have GB4 := Qa.mk (Qo GB3.out HB4.out)
  have HBW4 := Qa.mk (Qr HBW3.out HB4.out)
  have z0 : w4.cell? ⟨gb, 0, none⟩ = some (.slice A0_0 l0_0.length c0_0) := (Qb GB4.out 0).trans rfl
  have z1 : w4.cell? ⟨gb, 1, none⟩ = some (.slice A0_1 l0_1.length c0_1) := (Qb GB4.out 1).trans rfl
  have HO4 : Qa (Kd.R k36 36 w4 w.heap.size (fun k => k = go) (.slice (some ⟨go, 0, none⟩) (List.replicate l0_1.length z36).length cO) (List.replicate l0_1.length z36)) := ⟨by
    have h1 := Kd.R_lower (Kd.Qh1 HO.out HB4.out) (Qc1 HB2.out)
    obtain ⟨h2, h3⟩ := h1
    rw [show (l0_1.length : Int).toNat = l0_1.length by omega] at h3
    rw [List.length_replicate]
    exact ⟨fun k hk => by simpa [Value.ownBlock] using hk.symm, h3.imp_ (fun p c hp => by obtain rfl := k36_openM hp; exact k36_mkM _ _ _ p)⟩⟩
  clear HO GB GB3
  go_upto_region 4 with (first
    | ((with_reducible refine Qd1 (N := 22) rfl ?_); refine Kd.R_make Kd.bool _ 4 rfl (N := 22) rfl 57 _ _ rfl (l0_1.length : Int) rfl rfl Try.underlying57 (.bool false) 1 info4 rfl (by decide) (by omega) false (ok := fun _ => True) (okp := fun _ => True) rfl (fun _ hk => hk) trivial (by omega) (by have := HN.out; omega) (Below.refl _ _) (Nat.le_refl _) ?_; intro vB w5 hob hb hg_ hnew_; have HOB := Qa.mk hob; have HB5 := Qa.mk hb; clear hob hb hg_ hnew_; obtain ⟨gk, cB, eB, hk1, hk2, cellsK, hk3⟩ := Kd.R_form HOB.out (by simp; exact HN.out.1); rw [List.length_replicate] at eB; subst eB; clear hk1 hk2 hk3)
    | ((with_reducible refine Qd1 (N := 24) rfl ?_); refine Qg1 ?hg (N := 24) ?hd (cs := #[.slice none 0 0, .slice (some ⟨gk, 0, none⟩) (l0_1.length : Int).toNat cB]) (t := 59) ?hr ?_; (case hd => rfl); (case hg => rfl); (case hr => first | (go_simp; done) | (go_simp; rfl)); intro q hg w6 hbox hb; have QB := Qa.mk hbox; have HB6 := Qa.mk hb; have HGQ := Qa.mk hg; clear hbox hb hg))
  have HE : Qa (EnvO w w4 w6 go cO q (List.replicate l0_1.length z36) [] (List.replicate l0_1.length false)) := ⟨by
    have b56 : Below w4.heap.size w4 w6 := Qr HB5.out HB6.out
    refine ⟨KeepBut.of_below b56 go none, Qr HBW4.out b56, Kd.Qh1 HO4.out b56, ⟨_, _, QB.out, by rw [HGQ.out]; exact HB5.out.size, own_nil _ _ _ _, ?_⟩, HBW4.out.size, Qu GO4.out⟩
    have h1 := Kd.own_of_R HOB.out
    rw [show (l0_1.length : Int).toNat = l0_1.length by omega] at h1
    rw [List.length_replicate] at h1 ⊢
    exact pw_own_below h1 HB6.out⟩
  clear z0 z1
  have GB6 := Qa.mk (HE.out.blk GB4.out (by intro e; subst e; have := GB4.out.symm.trans GO4.out; simp at this))
  have z0 : w6.cell? ⟨gb, 0, none⟩ = some (.slice A0_0 l0_0.length c0_0) := (Qb GB6.out 0).trans rfl
  have z1 : w6.cell? ⟨gb, 1, none⟩ = some (.slice A0_1 l0_1.length c0_1) := (Qb GB6.out 1).trans rfl
  have HNE : Qa (gb ≠ go) := ⟨by intro e; subst e; have := GB4.out.symm.trans GO4.out; simp at this⟩
  clear HB6 HB5 HOB QB HGQ HO4 HB4 HB3 HB2 GOB GOL GOC HBW3
  have HE0 := HE
  clear HE
  go_wp2
  have hnn : 0 ≤ (l0_1.length : Int) := by omega
  have hn3 : (l0_1.length : Int) ≤ 300 := by have := HN.out; omega
  go_loopg [30] (l0_1.length + 1) (fun kq v30 w' => ∃ (i : Int) (l : List Int) (b : List Bool), v30 = .int .i64 i ∧ 0 ≤ i ∧ Qa (i ≤ (l0_1.length : Int)) ∧ Qa (((l0_1.length : Int) - i).toNat < kq) ∧ Qa (EnvO w w4 w' go cO q (List.replicate l0_1.length z36) l b) ∧ Qa (QInv l0_1.length l b) ∧ Qa (∀ y : Int, 0 ≤ y → y < i → y ∈ l))
  case atStart => exact ⟨0, [], List.replicate l0_1.length false, rfl, Int.le_refl 0, ⟨by omega⟩, ⟨by omega⟩, HE0, ⟨qinv_nil _⟩, ⟨fun y h1 h2 => by omega⟩⟩
  case round =>
    clear HE0 z0 z1 GB6
    obtain ⟨i, l, b, rfl, hi0, hin, hgk, HE, HQ, HM⟩ := hrel
    by_cases c : i < (l0_1.length : Int)
    · have cb : decide (i < (l0_1.length : Int)) = true := decide_eq_true c
      have HC := Qa.mk c
      have hi1 : i + 1 ≤ 300 := by omega
      clear c
      go_wp2_with fail
      refine (queue_add HE.out.hq i hi0 (by rw [HQ.out.1]; exact HC.out) (by have := HQ.out.le; have := HN.out; omega)).mono ?_
      rintro e w7 ⟨rfl, l7, hp7, hq7, hb7⟩
      have HA := Qa.mk (HQ.out.add hi0 HC.out hp7)
      have HE7 := Qa.mk (HE.out.q hb7 hq7)
      clear hp7 hq7 hb7
      go_wp2
      go_roundg (gk - 1)
      case measure => have := hgk.out; omega
      case rel => exact ⟨i + 1, l7, b.set i.toNat true, rfl, by omega, ⟨by have := HC.out; omega⟩, ⟨by have := hgk.out; have := HC.out; omega⟩, HE7, ⟨HA.out.1⟩, ⟨fun y h1 h2 => by
        by_cases e : y = i
        · subst e; exact HA.out.2.1
        · exact HA.out.2.2 y (HM.out y h1 (by omega))⟩⟩
    · have cb : decide (i < (l0_1.length : Int)) = false := decide_eq_false c
      have HI : Qa (OInv l0_0 l0_1 (List.replicate l0_1.length z36) l) := ⟨OInv.start l0_0 l0_1 l (fun y h1 h2 => HM.out y h1 (by omega))⟩
      clear c HM
      clear hi0 hin hgk
      generalize hO : List.replicate l0_1.length z36 = O at HE HI
      clear hO
      go_wp2
      go_loopg [] (phi l0_1.length O l + 1) (fun kq w' => ∃ (O : List FlowT) (l : List Int) (b : List Bool), Qa (phi l0_1.length O l < kq) ∧ Qa (EnvO w w4 w' go cO q O l b) ∧ Qa (QInv l0_1.length l b) ∧ Qa (OInv l0_0 l0_1 O l))
      case atStart => exact ⟨O, l, b, ⟨by omega⟩, HE, HQ, HI⟩
      case round =>
        clear HE HQ HI cb
        clear O l b
        obtain ⟨O, l, b, hgk, HE, HQ, HI⟩ := hrel
        go_wp2_with fail
        refine (queue_Len HE.out.hq).mono ?_
        rintro e w7 ⟨rfl, rfl⟩
        have HOL := Qa.mk HI.out.len
        by_cases c : l.length = 0
        · have cb : decide ((l.length : Int) > 0) = false := decide_eq_false (by omega)
          have cb2 : decide (0 < l.length) = false := decide_eq_false (by omega)
          have hl : l = [] := List.length_eq_zero_iff.1 c
          have HF : Qa (O = (leastL l0_0 l0_1).map ofR) := ⟨OInv.fin (by rw [← hl]; exact HI.out)⟩
          clear c hl
          go_wp2
          go_ret
          refine ⟨_, rfl, ?_, HE.out.hb⟩
          have := HE.out.ho
          rw [HOL.out, HF.out] at this
          exact Kd.R_mono this (fun _ _ => trivial)
        · have cb : decide ((l.length : Int) > 0) = true := decide_eq_true (by omega)
          have cb2 : decide (0 < l.length) = true := decide_eq_true (by omega)
          have HLP := Qa.mk (show 0 < l.length by omega)
          clear c
          go_wp2_with fail
          refine (heap_Pop HE.out.hq HLP.out (by have := HQ.out.le; have := HN.out; omega) (fun x hx => by have := (HQ.out.2.2 x).1 hx; rw [HQ.out.1]; exact ⟨this.1, this.2.1⟩)).mono ?_
          rintro e w8 ⟨x, l8, rfl, hp8, hq8, hb8⟩
          have HP8 := Qa.mk hp8
          have HQ8 := Qa.mk (HQ.out.pop hp8)
          have HE8 := Qa.mk (HE.out.q hb8 hq8)
          have hx0 : 0 ≤ x := HQ8.out.2.1
          have HX1 := Qa.mk HQ8.out.2.2
          clear hp8 hq8 hb8 cb cb2
          have GB8 := Qa.mk (HE8.out.blk GB4.out HNE.out)
          have z0 : w8.cell? ⟨gb, 0, none⟩ = some (.slice A0_0 l0_0.length c0_0) := (Qb GB8.out 0).trans rfl
          have z1 : w8.cell? ⟨gb, 1, none⟩ = some (.slice A0_1 l0_1.length c0_1) := (Qb GB8.out 1).trans rfl
          have hta1 := hta
          go_wp2_with fail
          obtain ⟨⟨p1, p2, p3⟩, hp⟩ : ∃ p, p = Qx.p l0_0 (O.map toR) (nodeAt l0_1 x) := ⟨_, rfl⟩
          have HPV := Qa.mk hp
          clear hp
          have HCO := Qa.mk (Kd.R_reads' HE8.out.ho)
          have hcall := flow_node.calls k A0_0 c0_0 l0_0 A0_1 c0_1 l0_1 x (some ⟨go, 0, none⟩) cO O p1 p2 p3 w8 (Kd.Qw HR0.out HE8.out.hb) HC0.out (Kd.Qw HR1.out HE8.out.hb) HC1.out HCO.out.2.2 HCO.out.2.1 (by
            rw [node_val FIT.out O HOL.out x hx0 HX1.out k (by have := HK.out; omega)]
            exact congrArg some HPV.out.symm)
          rw [HOL.out] at hcall
          (with_reducible refine hcall.mono ?_)
          clear hcall
          rintro e w9 ⟨rfl, hb9⟩
          have HE9 := Qa.mk (HE8.out.below hb9)
          clear hb9 z0 z1 GB8 HCO hta1
          have HE8' := HE8
          clear HE8 HE8'
          go_upto_region 14 with ((with_reducible refine Qd1 (N := 10) rfl ?_); refine Qg1 ?hg (N := 10) ?hd (cs := #[.bool false, .bool false, .bool false]) (t := 36) ?hr ?_; (case hd => rfl); (case hg => rfl); (case hr => first | (go_simp; done) | (go_simp; rfl)); intro gt hg w10 hbox hb; have BT := Qa.mk hbox; have HGT := Qa.mk hg; have HB10 := Qa.mk hb; clear hbox hb hg; have v0 : w10.cell? ⟨gt, 0, none⟩ = some (.bool false) := (Qb BT.out 0).trans rfl; have v1 : w10.cell? ⟨gt, 1, none⟩ = some (.bool false) := (Qb BT.out 1).trans rfl; have v2 : w10.cell? ⟨gt, 2, none⟩ = some (.bool false) := (Qb BT.out 2).trans rfl; have f0 := Qf BT.out 0; have f1 := Qf BT.out 1; have f2 := Qf BT.out 2)
          have BT2 := Qa.mk (put3 BT.out (.bool p1) (.bool p2) (.bool p3))
          have HE11 : Qa (EnvO w w4 (((w10.setCell ⟨gt, 0, none⟩ (.bool p1)).setCell ⟨gt, 1, none⟩ (.bool p2)).setCell ⟨gt, 2, none⟩ (.bool p3)) go cO q O l8 (b.set x.toNat false)) := ⟨HE9.out.below (((HB10.out.setCell (p := ⟨gt, 0, none⟩) (Nat.le_of_eq HGT.out.symm) _).setCell (p := ⟨gt, 1, none⟩) (Nat.le_of_eq HGT.out.symm) _).setCell (p := ⟨gt, 2, none⟩) (Nat.le_of_eq HGT.out.symm) _)⟩
          have HTN : Qa (gt ≠ go ∧ w4.heap.size ≤ gt) := ⟨by have h1 := HE9.out.hg; have h2 := HE9.out.hk.1; rw [HGT.out]; omega, by have h2 := HE9.out.hk.1; rw [HGT.out]; omega⟩
          clear v0 v1 v2 f0 f1 f2 BT HB10 HGT HE9
          generalize (((w10.setCell ⟨gt, 0, none⟩ (.bool p1)).setCell ⟨gt, 1, none⟩ (.bool p2)).setCell ⟨gt, 2, none⟩ (.bool p3)) = w11 at BT2 HE11 ⊢
          obtain ⟨o1, o2, o3, hov⟩ : ∃ o1 o2 o3, flowAt O x = ⟨o1, o2, o3⟩ := ⟨_, _, _, rfl⟩
          obtain ⟨ce, hcl, hM, hcc, hfr⟩ := Kd.R_elem HE11.out.ho z36 x hx0 (by rw [HOL.out]; exact HX1.out)
          change k36.M w11 w.heap.size _ (flowAt O x) ce at hM
          obtain rfl := k36_openM hM
          rw [hov] at hcc
          have y0 : w11.cell? ⟨go, x.toNat * 3, none⟩ = some (.bool o1) := hcc 0 _ rfl
          have y1 : w11.cell? ⟨go, x.toNat * 3 + 1, none⟩ = some (.bool o2) := hcc 1 _ rfl
          have y2 : w11.cell? ⟨go, x.toNat * 3 + 2, none⟩ = some (.bool o3) := hcc 2 _ rfl
          have HFR := Qa.mk hfr
          have HOV := Qa.mk hov
          clear hcl hM hcc hfr hov
          obtain ⟨k2, hk2⟩ : ∃ m, gk = m + 1 := ⟨gk - 1, by have := hgk.out; omega⟩
          subst hk2
          have v0 : w11.cell? ⟨gt, 0, none⟩ = some (.bool p1) := (Qb BT2.out 0).trans rfl
          have v1 : w11.cell? ⟨gt, 1, none⟩ = some (.bool p2) := (Qb BT2.out 1).trans rfl
          have v2 : w11.cell? ⟨gt, 2, none⟩ = some (.bool p3) := (Qb BT2.out 2).trans rfl
          replace hx0 := eq_true hx0
          have hx1 := eq_true HX1.out
          by_cases he : (p1 == o1 && (p2 == o2 && (p3 == o3))) = true
          · have HSAME : Qa (toR (flowAt O x) = mkF (Qx.p l0_0 (O.map toR) (nodeAt l0_1 x))) := ⟨by
              rw [HOV.out, ← HPV.out]
              simp only [Bool.and_eq_true, beq_iff_eq] at he
              obtain ⟨rfl, rfl, rfl⟩ := he
              rfl⟩
            go_quiet (fail)
            go_wp2
            go_roundg k2
            case measure => omega
            case rel => exact ⟨O, l8, b.set x.toNat false, ⟨by have h1 := hgk.out; have h2 := HP8.out.length_eq; rw [List.length_cons] at h2; unfold phi at h1 ⊢; omega⟩, ⟨HE11.out.below (Ql (Below.refl _ _) _)⟩, ⟨HQ8.out.1⟩, ⟨HI.out.same HP8.out (of_eq_true hx0) HX1.out HSAME.out⟩⟩
          · have he := Bool.eq_false_iff.2 he
            have HDIFF : Qa ((⟨p1, p2, p3⟩ : FlowT) ≠ flowAt O x) := ⟨fun e => by
              rw [HOV.out] at e
              simp only [S36.mk.injEq] at e
              obtain ⟨rfl, rfl, rfl⟩ := e
              simp at he⟩
            go_quiet (fail)
            go_upto_region 15 with (fail)
            generalize hW : w11.drewN _ = w12
            have HE12 : Qa (EnvO w w4 w12 go cO q O l8 (b.set x.toNat false)) := ⟨by rw [← hW]; exact HE11.out.below (Ql (Below.refl _ _) _)⟩
            have v0' : w12.cell? ⟨gt, 0, none⟩ = some (.bool p1) := by rw [← hW]; exact v0
            have v1' : w12.cell? ⟨gt, 1, none⟩ = some (.bool p2) := by rw [← hW]; exact v1
            have v2' : w12.cell? ⟨gt, 2, none⟩ = some (.bool p3) := by rw [← hW]; exact v2
            have y0' : w12.cell? ⟨go, x.toNat * 3, none⟩ = some (.bool o1) := by rw [← hW]; exact y0
            have y1' : w12.cell? ⟨go, x.toNat * 3 + 1, none⟩ = some (.bool o2) := by rw [← hW]; exact y1
            have y2' : w12.cell? ⟨go, x.toNat * 3 + 2, none⟩ = some (.bool o3) := by rw [← hW]; exact y2
            have f0 : w12.frozen? ⟨go, x.toNat * 3, none⟩ = false := by rw [← hW]; exact HFR.out 0
            have f1 : w12.frozen? ⟨go, x.toNat * 3 + 1, none⟩ = false := by rw [← hW]; exact HFR.out 1
            have f2 : w12.frozen? ⟨go, x.toNat * 3 + 2, none⟩ = false := by rw [← hW]; exact HFR.out 2
            clear hW v0 v1 v2 y0 y1 y2 HE11 BT2 HFR
            go_upto_region 16 with (fail)
            have HE13 := Qa.mk (HE12.out.store x (of_eq_true hx0) (by rw [HOL.out]; exact HX1.out) ⟨p1, p2, p3⟩)
            generalize (((w12.setCell ⟨go, x.toNat * 3, none⟩ (.bool p1)).setCell ⟨go, x.toNat * 3 + 1, none⟩ (.bool p2)).setCell ⟨go, x.toNat * 3 + 2, none⟩ (.bool p3)) = w13 at HE13 ⊢
            clear v0' v1' v2' y0' y1' y2' f0 f1 f2 HE12
            obtain ⟨cu, hcu1, hcuM, hcuc⟩ := Kd.S_get HSU.out [] x (of_eq_true hx0) HX1.out
            obtain ⟨vr, rfl, hr⟩ := hcuM
            obtain ⟨Ar, cr, rfl⟩ := Kd.R_slice hr
            have hgU : gU ≠ go := ((Kd.S_R HSU.out).1 gU rfl).2
            have hcell := hcuc 0 _ rfl
            rw [Nat.add_zero, show ((Kd.slice 3 (Kd.int .i64))).sz = 1 from rfl, Nat.mul_one, add_plain] at hcell
            have u0 := keep_cell HE13.out.hk hcell hgU
            have HRR := Qa.mk hr
            have hrng := HUO.out.2.1 x (of_eq_true hx0)
            have hrl := HUO.out.2.2.1 x (of_eq_true hx0)
            have HOI := Qa.mk (fun l1 h1 h2 => HI.out.diff FIT.out HUO.out (l1 := l1) HP8.out (of_eq_true hx0) HX1.out ⟨p1, p2, p3⟩ (by rw [← HPV.out]; rfl) h1 h2)
            change ∀ y ∈ U.getD x.toNat [], _ at hrng
            change (U.getD x.toNat []).length ≤ _ at hrl
            generalize hrow : U.getD x.toNat [] = row at u0 HRR hrng hrl
            have HROW := Qa.mk hrow
            have HRNG := Qa.mk hrng
            clear hrow hrng hr hcu1 hcuc hcell hgU
            clear he
            have hrl' : (row.length : Int) ≤ 20000 := by omega
            go_wp2
            go_loopg [68] (row.length + 1) (fun kq v68 w' => ∃ (j : Int) (l1 : List Int) (b1 : List Bool), v68 = .int .i64 j ∧ 0 ≤ j ∧ Qa (j ≤ (row.length : Int)) ∧ Qa (((row.length : Int) - j).toNat < kq) ∧ Qa (EnvO w w4 w' go cO q (O.set x.toNat ⟨p1, p2, p3⟩) l1 b1) ∧ Qa (QInv l0_1.length l1 b1) ∧ Qa ((∀ y ∈ l8, y ∈ l1) ∧ ∀ y ∈ row.take j.toNat, y ∈ l1))
            case atStart => exact ⟨0, l8, b.set x.toNat false, rfl, Int.le_refl 0, ⟨by omega⟩, ⟨by omega⟩, HE13, ⟨HQ8.out.1⟩, ⟨fun y hy => hy, fun y hy => by simp at hy⟩⟩
            case round =>
              clear HE13 u0
              obtain ⟨j, l1, b1, rfl, hj0, hjn, hgk3, HE14, HQ14, HM14⟩ := hrel
              by_cases c : j < (row.length : Int)
              · have cb : decide (j < (row.length : Int)) = true := decide_eq_true c
                have HC := Qa.mk c
                have hj1 : j + 1 ≤ 20000 := by omega
                have HRW := Qa.mk (Kd.R_keep HRR.out HE14.out.hk (fun k hk => hk.1.2))
                obtain ⟨adr, eqr, hcr⟩ := Kd.at_int (Kd.R_reads' HRW.out).2.2 j hj0 c
                cases eqr
                have HY := Qa.mk (HRNG.out (rd row j) (by
                  unfold rd
                  rw [List.getD_eq_getElem?_getD, List.getElem?_eq_getElem (show j.toNat < row.length by omega)]
                  exact List.getElem_mem _))
                replace hj0 := eq_true hj0
                have hjlt := eq_true c
                clear c
                go_wp2_with fail
                refine (queue_add HE14.out.hq (rd row j) HY.out.1 (by rw [HQ14.out.1]; exact HY.out.2) (by have := HQ14.out.le; have := HN.out; omega)).mono ?_
                rintro e w15 ⟨rfl, l15, hp15, hq15, hb15⟩
                have HA := Qa.mk (HQ14.out.add HY.out.1 HY.out.2 hp15)
                have HE15 := Qa.mk (HE14.out.q hb15 hq15)
                clear hp15 hq15 hb15 hcr
                go_wp2
                go_roundg (gk - 1)
                case measure => have := hgk3.out; omega
                case rel => exact ⟨j + 1, l15, b1.set (rd row j).toNat true, by first | rfl | (rw [w64p _ (by have := of_eq_true hj0; omega)]), by have := of_eq_true hj0; omega, ⟨by have := HC.out; omega⟩, ⟨by have := hgk3.out; have := HC.out; have := of_eq_true hj0; omega⟩, HE15, ⟨HA.out.1⟩, ⟨fun y hy => HA.out.2.2 y (HM14.out.1 y hy), fun y hy => by
                  have h0 := of_eq_true hj0
                  have hjl : j.toNat < row.length := by have := HC.out; omega
                  rw [show (j + 1).toNat = j.toNat + 1 by omega, List.take_succ_eq_append_getElem hjl, List.mem_append, List.mem_singleton] at hy
                  rcases hy with hy | rfl
                  · exact HA.out.2.2 y (HM14.out.2 y hy)
                  · have e : rd row j = row[j.toNat] := by
                      unfold rd
                      rw [List.getD_eq_getElem?_getD, List.getElem?_eq_getElem hjl]
                      rfl
                    rw [← e]
                    exact HA.out.2.1⟩⟩
              · have cb : decide (j < (row.length : Int)) = false := decide_eq_false c
                have HFIN := Qa.mk (HOI.out l1 HM14.out.1 (fun y hy => HM14.out.2 y (by
                  rw [List.take_of_length_le (by omega)]
                  change y ∈ U.getD x.toNat [] at hy
                  rw [HROW.out] at hy
                  exact hy)))
                clear c
                go_wp2
                go_roundg k2
                case measure => omega
                case rel => exact ⟨O.set x.toNat ⟨p1, p2, p3⟩, l1, b1, ⟨by
                  have h1 := HFIN.out.2 HDIFF.out
                  have h2 := cnt_le ((O.set x.toNat (⟨p1, p2, p3⟩ : FlowT)).map toR)
                  rw [List.length_map, List.length_set, HOL.out] at h2
                  have h3 := phi_lt (n := l0_1.length) (l := l) h1 h2 HQ14.out.le
                  have h4 := hgk.out
                  omega⟩, HE14, HQ14, ⟨HFIN.out.1⟩⟩
end Go.Proofs.Ytnaanamibfpbpaa.V
namespace Go.Proofs.Ytnaanamibfpbpaa.V
open Go.RowKit Go.Proofs.YtnaanamibfpbpaaW.PrintWords Go.Proofs.YtnaanamibfpbpaaW.PrintLast Go.Proofs.YtnaanamibfpbpaaW.PrintMore
attribute [local go_sem] max2_int min2_int max_two min_two max_three min_three max_four min_four tdiv_most
set_option linter.unusedVariables false
set_option linter.unusedSimpArgs false
def flow_Rule.f (k : Nat) (l0_0 : List (S39)) (l0_1 : List (S53)) (a1 : Int) : Option (Bool × Bool × Bool) := (flow_Of.f k l0_0 l0_1).bind fun t158 => (if 0 ≤ a1 then (if a1 < (l0_0.length : Int) then (if 0 ≤ ((Qp l0_0 a1).f1) then (if ((Qp l0_0 a1).f1) < (t158.length : Int) then (some ((Qg t158 ((Qp l0_0 a1).f1)).f0, (Qg t158 ((Qp l0_0 a1).f1)).f1, (Qg t158 ((Qp l0_0 a1).f1)).f2)) else (none)) else (none)) else (none)) else (none))
theorem flow_Rule.mono : ∀ a0 a1 a2 k, LeO (flow_Rule.f k a0 a1 a2) (flow_Rule.f (k + 1) a0 a1 a2) := by
 intro a0 a1 a2 k
 unfold flow_Rule.f
 repeat' first
  | (with_reducible exact flow_Of.mono _ _ _)
  | (with_reducible exact LeO.refl _)
  | (with_reducible exact LeO.none _)
  | (with_reducible refine LeO.ite ?_ ?_)
  | (with_reducible refine LeO.bind ?_ (fun _ => ?_))
  | exact LeO.none _
  | refine LeO.ite ?_ ?_
  | refine LeO.bind ?_ (fun _ => ?_)
def flow_Rule.T1 : Bool × List (List Nat × List Nat) := (true, [([], []), ([0], [0]), ([], []), ([2], [2]), ([], []), ([3, 4], [3, 4]), ([5], [5]), ([6], [6]), ([1, 7], [1, 7]), ([8], [8]), ([9, 1, 0, 1, 2, 3, 4, 5, 6, 7, 8, 9], [9])])
def flow_Rule.B1 : List Nat := [0, 1, 0, 4, 0, 28, 60, 124, 255, 511, 1023]
theorem flow_Rule.tab1 : rtab .any (opsOf Try.f14 1) = flow_Rule.T1 := by kernel_rfl
theorem flow_Rule.bits1 : waitsOk flow_Rule.T1.2 flow_Rule.B1 = true := by kernel_rfl
set_option maxHeartbeats 8000000 in
set_option maxRecDepth 100000 in
theorem flow_Rule.calls (k : Nat) (A0_0 : Option Addr) (c0_0 : Nat) (l0_0 : List (S39)) (A0_1 : Option Addr) (c0_1 : Nat) (l0_1 : List (S53)) (a1 : Int) (r1 : Bool) (r2 : Bool) (r3 : Bool) (w : World) (hr0_0 : Kd.C k39 w A0_0 l0_0.length l0_0) (hc0_0 : l0_0.length ≤ c0_0) (hr0_1 : Kd.C k53 w A0_1 l0_1.length l0_1) (hc0_1 : l0_1.length ≤ c0_1) (h : flow_Rule.f k l0_0 l0_1 a1 = some (r1, r2, r3)) :
 Calls Try.prog 14 #[.agg #[.slice A0_0 l0_0.length c0_0, .slice A0_1 l0_1.length c0_1], .int .i64 a1] w fun e w' => e = .returned (.agg #[.bool r1, .bool r2, .bool r3]) ∧ Below w.heap.size w w' := by
 have hu25 := Try.underlying25
 have hu36 := Try.underlying36
 have HR0_0 := Qa.mk hr0_0
 have HC0_0 := Qa.mk hc0_0
 clear hr0_0 hc0_0
 have HR0_1 := Qa.mk hr0_1
 have HC0_1 := Qa.mk hc0_1
 clear hr0_1 hc0_1
 have HB := Qa.mk (Below.refl w.heap.size w)
 have H : ((flow_Of.f k l0_0 l0_1).bind fun t158 => (if 0 ≤ a1 then (if a1 < (l0_0.length : Int) then (if 0 ≤ ((Qp l0_0 a1).f1) then (if ((Qp l0_0 a1).f1) < (t158.length : Int) then (some ((Qg t158 ((Qp l0_0 a1).f1)).f0, (Qg t158 ((Qp l0_0 a1).f1)).f1, (Qg t158 ((Qp l0_0 a1).f1)).f2)) else (none)) else (none)) else (none)) else (none))) = some (r1, r2, r3) := h
 clear h
 replace H := Option.bind_eq_some_iff.mp H
 obtain ⟨t158, A30, H⟩ := H
 replace H : (if 0 ≤ a1 then (if a1 < (l0_0.length : Int) then (if 0 ≤ ((Qp l0_0 a1).f1) then (if ((Qp l0_0 a1).f1) < (t158.length : Int) then (some ((Qg t158 ((Qp l0_0 a1).f1)).f0, (Qg t158 ((Qp l0_0 a1).f1)).f1, (Qg t158 ((Qp l0_0 a1).f1)).f2)) else (none)) else (none)) else (none)) else (none)) = some (r1, r2, r3) := H
 have A3 := Qa.mk A30
 clear A30
 by_cases c4 : 0 ≤ a1
 rotate_left
 ·
  rw [if_neg c4] at H
  exact absurd H (by simp)
 rw [if_pos c4] at H
 have c4b0 : decide (0 ≤ a1) = true := decide_eq_true c4
 clear c4
 by_cases c5 : a1 < (l0_0.length : Int)
 rotate_left
 ·
  rw [if_neg c5] at H
  exact absurd H (by simp)
 rw [if_pos c5] at H
 have c5b0 : decide (a1 < (l0_0.length : Int)) = true := decide_eq_true c5
 clear c5
 by_cases c6 : 0 ≤ ((Qp l0_0 a1).f1)
 rotate_left
 ·
  rw [if_neg c6] at H
  exact absurd H (by simp)
 rw [if_pos c6] at H
 have c6b0 : decide (0 ≤ ((Qp l0_0 a1).f1)) = true := decide_eq_true c6
 clear c6
 by_cases c7 : ((Qp l0_0 a1).f1) < (t158.length : Int)
 rotate_left
 ·
  rw [if_neg c7] at H
  exact absurd H (by simp)
 rw [if_pos c7] at H
 have c7b0 : decide (((Qp l0_0 a1).f1) < (t158.length : Int)) = true := decide_eq_true c7
 clear c7
 simp only [Option.some.injEq, Prod.mk.injEq] at H
 obtain ⟨rfl, rfl, rfl⟩ := H
 go_enter Try.func14, Try.ntmps14
 try go_wp2_with (first | ((with_reducible refine Qd1 (N := 2) rfl ?_); refine Qg1 ?hg (N := 2) ?hd (cs := #[.slice A0_0 l0_0.length c0_0, .slice A0_1 l0_1.length c0_1]) (t := 25) ?hr ?_; (case hd => rfl); (case hg => rfl); (case hr => first | (go_simp; done) | (go_simp; rfl)); intro gb156 hg w8 hbox hb; have n0_ := Qa.mk (Qr (by with_reducible repeat (first | exact HB.out | apply Qj | apply Ql | apply Qk)) hb); have n1_ := Qa.mk (hbox); have n2_ := Qa.mk ((by rw [hg]; exact (Qc1 (by with_reducible repeat (first | exact HB.out | apply Qj | apply Ql | apply Qk))) : w.heap.size ≤ gb156)); have n3_ := n2_; clear HB; have HB := n0_; have BK156 := n1_; have GW156 := n2_; have GE156 := n3_; clear n0_ n1_ n2_ n3_; clear hb hbox hg) | ((with_reducible refine Qd1 (N := 4) rfl ?_); refine Qg1 ?hg (N := 4) ?hd (cs := #[.bool false, .bool false, .bool false]) (t := 36) ?hr ?_; (case hd => rfl); (case hg => rfl); (case hr => first | (go_simp; done) | (go_simp; rfl)); intro gb157 hg w9 hbox hb; have n0_ := Qa.mk (Qo (g := gb156) (o := .cells #[.slice A0_0 l0_0.length c0_0, .slice A0_1 l0_1.length c0_1] 25 (0, 0)) (by (with_reducible repeat (first | refine Qe ?_ _ | refine Qc ?_ | refine Qd ?_ _)); exact BK156.out) hb); have n1_ := Qa.mk (Qr (by with_reducible repeat (first | exact HB.out | apply Qj | apply Ql | apply Qk | refine Qi ?_ GE156.out)) hb); have n2_ := Qa.mk (hbox); have n3_ := Qa.mk ((by rw [hg]; exact (Qc1 (by with_reducible repeat (first | exact HB.out | apply Qj | apply Ql | apply Qk | refine Qi ?_ GE156.out))) : w.heap.size ≤ gb157)); have n4_ := n3_; have n5_ := Qa.mk ((by rw [hg]; exact Nat.ne_of_lt (Qu (g := gb156) (o := .cells #[.slice A0_0 l0_0.length c0_0, .slice A0_1 l0_1.length c0_1] 25 (0, 0)) (by (with_reducible repeat (first | refine Qe ?_ _ | refine Qc ?_ | refine Qd ?_ _)); exact BK156.out)) : gb156 ≠ gb157)); have n6_ := Qa.mk ((by rw [hg]; exact Nat.ne_of_gt (Qu (g := gb156) (o := .cells #[.slice A0_0 l0_0.length c0_0, .slice A0_1 l0_1.length c0_1] 25 (0, 0)) (by (with_reducible repeat (first | refine Qe ?_ _ | refine Qc ?_ | refine Qd ?_ _)); exact BK156.out)) : gb157 ≠ gb156)); clear BK156; clear HB; have BK156 := n0_; have HB := n1_; have BK157 := n2_; have GW157 := n3_; have GE157 := n4_; have NB156_157 := n5_; have NB157_156 := n6_; clear n0_ n1_ n2_ n3_ n4_ n5_ n6_; clear hb hbox hg))
 have n0_ := Qa.mk (Qc BK156.out)
 have n1_ := Qa.mk (Qc BK157.out)
 have n2_ := Qa.mk (Qk HB.out)
 clear BK156
 clear BK157
 clear HB
 have BK156 := n0_
 have BK157 := n1_
 have HB := n2_
 clear n0_ n1_ n2_
 have p161 : 0 ≤ (a1 : Int) := of_decide_eq_true (by assumption)
 have q161 : a1 < (l0_0.length : Int) := of_decide_eq_true (by assumption)
 obtain ⟨ad161, e161, hx161_0, hx161_1⟩ := at_T39 HR0_0.out a1 p161 q161
 have hw161_1 := hx161_1
 have hw161_0 := hx161_0
 cases e161
 replace hx161_0 := (HB.out.cell (World.block_lt_of_cell? w _ hx161_0)).trans hx161_0
 replace hx161_1 := (HB.out.cell (World.block_lt_of_cell? w _ hx161_1)).trans hx161_1
 replace p161 := eq_true p161
 replace q161 := eq_true q161
 refine start_ (n := 11) (S := fun w' => w'.cell? ⟨gb156, 0, none⟩ = some (.slice (some ad161) l0_0.length c0_0) ∧ w'.cell? ⟨gb156, 1, none⟩ = some (.slice A0_1 l0_1.length c0_1) ∧ w'.cell? (ad161.add ((a1).toNat * 2)) = some (.string ((Qp l0_0 a1).f0)) ∧ w'.cell? ⟨(ad161.add ((a1).toNat * 2)).block, (ad161.add ((a1).toNat * 2)).off + 1, none⟩ = some (.int .i64 ((Qp l0_0 a1).f1))) (ds := [9, 10]) #[Y, Y, Y, Y, Y, Y, Y, Y, Y, Y, Y] (by kernel_rfl) rfl rfl ⟨(Qb BK156.out 0).trans rfl, (Qb BK156.out 1).trans rfl, ((HB.out.cell (World.block_lt_of_cell? w _ hw161_0)).trans hw161_0), ((HB.out.cell (World.block_lt_of_cell? w _ hw161_1)).trans hw161_1)⟩ (fun hHeld => ?_); refine with_tabW flow_Rule.tab1 flow_Rule.bits1 (fun HT_ HW_ => ?_)
 generalize w9.drew = w10 at BK156 BK157 HB hx161_0 hx161_1 hHeld ⊢
 refine pure_ (i := 2) (N := some 7) (v := ?_) (a' := ?_) #[Y, Y, J, Y, Y, Y, Y, Y, Y, Y, Y] rfl rfl (Qm HT_.out (by kernel_rfl)) (fun _ _ _ h => h) (Or.inl ⟨by rfl, ?_⟩) ?_ ?_
 rotate_left
 ·
  intro w'
  go_simp
  with_reducible rfl
 rotate_left
 ·
  simp only [Act.put, List.setIfInBounds_toArray, List.set_cons_zero, List.set_cons_succ, i64_w, i32_w]
  rfl
 refine pure_ (i := 4) (N := some 9) (v := ?_) (a' := ?_) #[Y, Y, J, Y, J, Y, Y, Y, Y, Y, Y] rfl rfl (Qm HT_.out (by kernel_rfl)) (fun _ _ _ h => h) (Or.inl ⟨by rfl, ?_⟩) ?_ ?_
 rotate_left
 ·
  intro w'
  go_simp
  with_reducible rfl
 rotate_left
 ·
  simp only [Act.put, List.setIfInBounds_toArray, List.set_cons_zero, List.set_cons_succ, i64_w, i32_w]
  rfl
 refine take_ (i := 0) (N := some 5) (v := ?_) (a' := ?_) #[J, Y, J, Y, J, Y, Y, Y, Y, Y, Y] rfl rfl (Qk1 HT_.out HW_.out (by kernel_rfl)) (fun _ _ _ h => h) (Or.inl ⟨by rfl, ?_⟩) hHeld ?_ ?_
 rotate_left
 ·
  rintro w' ⟨s0, s1, s2, s3⟩
  go_simp
  with_reducible rfl
 rotate_left
 ·
  simp only [Act.put, List.setIfInBounds_toArray, List.set_cons_zero, List.set_cons_succ, i64_w, i32_w]
  rfl
 refine take_ (i := 3) (N := some 8) (v := ?_) (a' := ?_) #[J, Y, J, J, J, Y, Y, Y, Y, Y, Y] rfl rfl (Qk1 HT_.out HW_.out (by kernel_rfl)) (fun _ _ _ h => h) (Or.inl ⟨by rfl, ?_⟩) hHeld ?_ ?_
 rotate_left
 ·
  rintro w' ⟨s0, s1, s2, s3⟩
  go_simp
  with_reducible rfl
 rotate_left
 ·
  simp only [Act.put, List.setIfInBounds_toArray, List.set_cons_zero, List.set_cons_succ, i64_w, i32_w]
  rfl
 refine pure_ (i := 5) (N := some 10) (v := ?_) (a' := ?_) #[J, Y, J, J, J, J, Y, Y, Y, Y, Y] rfl rfl (Qm HT_.out (by kernel_rfl)) (fun _ _ _ h => h) (Or.inl ⟨by rfl, ?_⟩) ?_ ?_
 rotate_left
 ·
  intro w'
  go_simp
  with_reducible rfl
 rotate_left
 ·
  simp only [Act.put, List.setIfInBounds_toArray, List.set_cons_zero, List.set_cons_succ, i64_w, i32_w]
  rfl
 refine pure_ (i := 6) (N := some 11) (v := ?_) (a' := ?_) #[J, Y, J, J, J, J, J, Y, Y, Y, Y] rfl rfl (Qm HT_.out (by kernel_rfl)) (fun _ _ _ h => h) (Or.inl ⟨by rfl, ?_⟩) ?_ ?_
 rotate_left
 ·
  intro w'
  go_simp
  with_reducible rfl
 rotate_left
 ·
  simp only [Act.put, List.setIfInBounds_toArray, List.set_cons_zero, List.set_cons_succ, i64_w, i32_w]
  rfl
 refine take_ (i := 7) (N := some 12) (v := ?_) (a' := ?_) #[J, Y, J, J, J, J, J, J, Y, Y, Y] rfl rfl (Qk1 HT_.out HW_.out (by kernel_rfl)) (fun _ _ _ h => h) (Or.inl ⟨by rfl, ?_⟩) hHeld ?_ ?_
 rotate_left
 ·
  rintro w' ⟨s0, s1, s2, s3⟩
  go_simp
  with_reducible rfl
 rotate_left
 ·
  simp only [Act.put, List.setIfInBounds_toArray, List.set_cons_zero, List.set_cons_succ, i64_w, i32_w]
  rfl
 refine one_ (i := 1) (N := some 6) #[J, J, J, J, J, J, J, J, Y, Y, Y] rfl rfl (one_of HT_.out (by kernel_rfl)) (by decide) (fun K hK => ?_)
 refine goes_ Try.func13 (by kernel_rfl) rfl #[.agg #[.slice (some ad161) l0_0.length c0_0, .slice A0_1 l0_1.length c0_1]] (by rfl) rfl rfl (by (try simp only [List.map_toArray, List.map_cons, List.map_nil]); first | done | rfl | (simp only [List.length_drop, List.length_take]; rfl)) ?_
 with_reducible refine (flow_Of.calls k _ _ l0_0 _ _ l0_1 t158 _ ?side1 ?side2 ?side3 ?side4 A3.out).mono ?_
 (case side1 => repeat (first | exact (Kd.Qw HR0_0.out HB.out) | (with_reducible refine Kd.Qf1 ?_ _) | (with_reducible refine Kd.Qe1 ?_ _) | (with_reducible refine Kd.C_drew ?_)))
 (case side2 => exact HC0_0.out)
 (case side3 => repeat (first | exact (Kd.Qw HR0_1.out HB.out) | (with_reducible refine Kd.Qf1 ?_ _) | (with_reducible refine Kd.Qe1 ?_ _) | (with_reducible refine Kd.C_drew ?_)))
 (case side4 => exact HC0_1.out)
 rintro e w11 ⟨v159, rfl, ho0, hb⟩
 refine ⟨_, rfl, ?_⟩
 have n0_ := Qa.mk (Kd.R_lower (Kd.R_newB ho0 (g := gb157) (o := .cells #[.bool false, .bool false, .bool false] 36 (0, 0)) (by (with_reducible repeat (first | refine Qe ?_ _ | refine Qc ?_ | refine Qd ?_ _)); exact BK157.out)) (Qc1 (by with_reducible repeat (first | exact HB.out | apply Qj | apply Ql | apply Qk | refine Qi ?_ GE156.out | refine Qi ?_ GE157.out))))
 have n1_ := Qa.mk (Qo (g := gb156) (o := .cells #[.slice (some ad161) l0_0.length c0_0, .slice A0_1 l0_1.length c0_1] 25 (0, 0)) (by (with_reducible repeat (first | refine Qe ?_ _ | refine Qc ?_ | refine Qd ?_ _)); exact BK156.out) hb)
 have n2_ := Qa.mk (Qo (g := gb157) (o := .cells #[.bool false, .bool false, .bool false] 36 (0, 0)) (by (with_reducible repeat (first | refine Qe ?_ _ | refine Qc ?_ | refine Qd ?_ _)); exact BK157.out) hb)
 have n3_ := Qa.mk (Qr (by with_reducible repeat (first | exact HB.out | apply Qj | apply Ql | apply Qk | refine Qi ?_ GE156.out | refine Qi ?_ GE157.out)) hb)
 clear BK156
 clear BK157
 clear HB
 have HO160 := n0_
 have BK156 := n1_
 have BK157 := n2_
 have HB := n3_
 clear n0_ n1_ n2_ n3_
 (try clear hb; try clear hb2; try clear hk; try clear hi; try clear ho0)
 obtain ⟨Ao12, co12, eo12⟩ := Kd.R_slice HO160.out
 (first | subst eo12 | (injection eo12 with f1_ f2_ f3_; have f4_ := f1_.symm; have f5_ := f3_.symm; clear f1_ f2_ f3_; subst f4_; subst f5_))
 have p162 : 0 ≤ (((Qp l0_0 a1).f1) : Int) := of_decide_eq_true (by assumption)
 have q162 : ((Qp l0_0 a1).f1) < (t158.length : Int) := of_decide_eq_true (by assumption)
 obtain ⟨ad162, e162, hx162_0, hx162_1, hx162_2⟩ := at_T36 (Kd.R_reads' HO160.out).2.2 ((Qp l0_0 a1).f1) p162 q162
 cases e162
 replace p162 := eq_true p162
 replace q162 := eq_true q162
 refine hK.out _ _ ⟨(Qb BK156.out 0).trans rfl, (Qb BK156.out 1).trans rfl, ((HB.out.cell (World.block_lt_of_cell? w _ hw161_0)).trans hw161_0), ((HB.out.cell (World.block_lt_of_cell? w _ hw161_1)).trans hw161_1)⟩ (fun hHeld => ?_)
 clear hK K
 refine norm_ (a' := ?_) ?_ ?_
 rotate_left
 ·
  show Act.put _ (some 6) _ = _
  simp only [Act.put, List.setIfInBounds_toArray, List.set_cons_zero, List.set_cons_succ, i64_w, i32_w]
  rfl
 refine pure_ (i := 8) (N := some 13) (v := ?_) (a' := ?_) #[J, J, J, J, J, J, J, J, J, Y, Y] rfl rfl (Qm HT_.out (by kernel_rfl)) (fun _ _ _ h => h) (Or.inl ⟨by rfl, ?_⟩) ?_ ?_
 rotate_left
 ·
  intro w'
  go_simp
  with_reducible rfl
 rotate_left
 ·
  simp only [Act.put, List.setIfInBounds_toArray, List.set_cons_zero, List.set_cons_succ, i64_w, i32_w]
  rfl
 refine last_ (i := 9) (N := some 14) #[J, J, J, J, J, J, J, J, J, J, Y] rfl rfl (one_of HT_.out (by kernel_rfl)) (by decide) (fun K hK => ?_)
 refine value_ (w1 := ?_) (v := ?_) (by rfl) rfl ?_ ?_
 rotate_left 2
 ·
  go_simp
  constructor
  · rfl
  · rfl
 refine hK.out _ _ ?_
 clear hK K
 refine norm_ (a' := ?_) ?_ ?_
 rotate_left
 ·
  show Act.put _ (some 14) _ = _
  simp only [Act.put, List.setIfInBounds_toArray, List.set_cons_zero, List.set_cons_succ, i64_w, i32_w]
  rfl
 refine last_ (i := 10) (N := none) #[J, J, J, J, J, J, J, J, J, J, J] rfl rfl (one_of HT_.out (by kernel_rfl)) (by decide) (fun K hK => ?_)
 have hs13 : w11.cell? ⟨gb157, 0, none⟩ = some (.bool false) := (Qb BK157.out 0).trans rfl
 have hfs13 := Qf BK157.out 0
 have hns13_0 := NB156_157.out
 have hms13_0 := NB157_156.out
 have hs14 : w11.cell? ⟨gb157, 1, none⟩ = some (.bool false) := (Qb BK157.out 1).trans rfl
 have hfs14 := Qf BK157.out 1
 have hns14_0 := NB156_157.out
 have hms14_0 := NB157_156.out
 have hs15 : w11.cell? ⟨gb157, 2, none⟩ = some (.bool false) := (Qb BK157.out 2).trans rfl
 have hfs15 := Qf BK157.out 2
 have hns15_0 := NB156_157.out
 have hms15_0 := NB157_156.out
 refine skip_ (w1 := ?_) (by rfl) rfl ?_ ?_
 rotate_left
 ·
  go_simp
  rfl
 refine hK.out _ _ ?_
 clear hK K
 refine done_ (done_of HT_.out (by kernel_rfl)) ?_
 try go_wp2
 refine bodyPost_ret (results_cell_row rfl _ _ gb157 36 #[.bool ((Qg t158 ((Qp l0_0 a1).f1)).f0), .bool ((Qg t158 ((Qp l0_0 a1).f1)).f1), .bool ((Qg t158 ((Qp l0_0 a1).f1)).f2)] (0, 0) _ rfl (by (with_reducible repeat (first | refine Qe ?_ _ | refine Qc ?_ | refine Qd ?_ _)); refine Qq (cs := #[.bool ((Qg t158 ((Qp l0_0 a1).f1)).f0), .bool ((Qg t158 ((Qp l0_0 a1).f1)).f1), .bool false]) ?_ 2 _ rfl; (with_reducible repeat (first | refine Qe ?_ _ | refine Qc ?_ | refine Qd ?_ _)); refine Qq (cs := #[.bool ((Qg t158 ((Qp l0_0 a1).f1)).f0), .bool false, .bool false]) ?_ 1 _ rfl; (with_reducible repeat (first | refine Qe ?_ _ | refine Qc ?_ | refine Qd ?_ _)); refine Qq (cs := #[.bool false, .bool false, .bool false]) ?_ 0 _ rfl; (with_reducible repeat (first | refine Qe ?_ _ | refine Qc ?_ | refine Qd ?_ _)); exact BK157.out) Try.underlying36 rfl (by kernel_rfl)) rfl ?_
 exact ⟨by first | rfl | (simp [Qt, Qs] <;> rfl) | (simp [*, Qt, Qs] <;> rfl), by with_reducible repeat (first | exact HB.out | apply Qj | apply Ql | apply Qk | refine Qi ?_ GE156.out | refine Qi ?_ GE157.out)⟩
def flow_Step.l0 : Nat → List (S36) → List (S36) → Int → Int → List (S39) → List (S53) → Option ((List (S36)))
 | 0, _, _, _, _, _, _ => none
 | k + 1, x1, x5, x12, x13, x164000, x164001 => if x13 < x12 then ((flow_node.f k x164000 x164001 x13 x1).bind fun bt167 => (if 0 ≤ x13 then (if x13 < (x5.length : Int) then (flow_Step.l0 k x1 (x5.set (x13 : Int).toNat (⟨bt167.1, bt167.2.1, bt167.2.2⟩ : S36)) x12 (wrap64 (x13 + 1)) x164000 x164001) else (none)) else (none))) else (some x5)
def flow_Step.f (k : Nat) (l0_0 : List (S39)) (l0_1 : List (S53)) (l1 : List (S36)) : Option ((List (S36))) := if 0 ≤ (l0_1.length : Int) then (if ((l0_1.length : Int) : Int).toNat ≤ 93824992236885 then ((some (List.replicate ((l0_1.length : Int) : Int).toNat z36 : List (S36))).bind fun y164 => (flow_Step.l0 k l1 y164 (y164.length : Int) 0 l0_0 l0_1)) else (none)) else (none)
theorem flow_Step.mono_l : ∀ k, (∀ y0 y1 y2 y3 y4 y5, LeO (flow_Step.l0 k y0 y1 y2 y3 y4 y5) (flow_Step.l0 (k + 1) y0 y1 y2 y3 y4 y5))
 | 0 => fun _ _ _ _ _ _ r h => by simp [flow_Step.l0] at h
 | k + 1 => by
  have ih0 := flow_Step.mono_l k
  intro y0 y1 y2 y3 y4 y5
  unfold flow_Step.l0
  repeat' first
  | (with_reducible exact ih0 _ _ _ _ _ _)
  | (with_reducible exact flow_node.mono _ _ _ _ _)
  | (with_reducible exact LeO.refl _)
  | (with_reducible exact LeO.none _)
  | (with_reducible refine LeO.ite ?_ ?_)
  | (with_reducible refine LeO.bind ?_ (fun _ => ?_))
  | exact LeO.none _
  | refine LeO.ite ?_ ?_
  | refine LeO.bind ?_ (fun _ => ?_)
theorem flow_Step.mono : ∀ a0 a1 a2 k, LeO (flow_Step.f k a0 a1 a2) (flow_Step.f (k + 1) a0 a1 a2) := by
 intro a0 a1 a2 k
 have ih0 := flow_Step.mono_l k
 unfold flow_Step.f
 repeat' first
  | (with_reducible exact ih0 _ _ _ _ _ _)
  | (with_reducible exact flow_node.mono _ _ _ _ _)
  | (with_reducible exact LeO.refl _)
  | (with_reducible exact LeO.none _)
  | (with_reducible refine LeO.ite ?_ ?_)
  | (with_reducible refine LeO.bind ?_ (fun _ => ?_))
  | exact LeO.none _
  | refine LeO.ite ?_ ?_
  | refine LeO.bind ?_ (fun _ => ?_)
set_option maxHeartbeats 8000000 in
set_option maxRecDepth 100000 in
theorem flow_Step.calls (k : Nat) (A0_0 : Option Addr) (c0_0 : Nat) (l0_0 : List (S39)) (A0_1 : Option Addr) (c0_1 : Nat) (l0_1 : List (S53)) (A1 : Option Addr) (c1 : Nat) (l1 : List (S36)) (r : List (S36)) (w : World) (hr0_0 : Kd.C k39 w A0_0 l0_0.length l0_0) (hc0_0 : l0_0.length ≤ c0_0) (hr0_1 : Kd.C k53 w A0_1 l0_1.length l0_1) (hc0_1 : l0_1.length ≤ c0_1) (hr1 : Kd.C k36 w A1 l1.length l1) (hc1 : l1.length ≤ c1) (h : flow_Step.f k l0_0 l0_1 l1 = some r) :
 Calls Try.prog 15 #[.agg #[.slice A0_0 l0_0.length c0_0, .slice A0_1 l0_1.length c0_1], .slice A1 l1.length c1] w fun e w' => ∃ v0_ : Value, e = .returned (v0_) ∧ Kd.R k36 36 w' w.heap.size (fun _ => True) v0_ r ∧ Below w.heap.size w w' := by
 have hu25 := Try.underlying25
 have hu36 := Try.underlying36
 have HR0_0 := Qa.mk hr0_0
 have HC0_0 := Qa.mk hc0_0
 clear hr0_0 hc0_0
 have HR0_1 := Qa.mk hr0_1
 have HC0_1 := Qa.mk hc0_1
 clear hr0_1 hc0_1
 have HR1 := Qa.mk hr1
 have HC1 := Qa.mk hc1
 clear hr1 hc1
 have HB := Qa.mk (Below.refl w.heap.size w)
 have H : (if 0 ≤ (l0_1.length : Int) then (if ((l0_1.length : Int) : Int).toNat ≤ 93824992236885 then ((some (List.replicate ((l0_1.length : Int) : Int).toNat z36 : List (S36))).bind fun y164 => (flow_Step.l0 k l1 y164 (y164.length : Int) 0 l0_0 l0_1)) else (none)) else (none)) = some r := h
 clear h
 by_cases c3 : 0 ≤ (l0_1.length : Int)
 rotate_left
 ·
  rw [if_neg c3] at H
  exact absurd H (by simp)
 rw [if_pos c3] at H
 have c3b0 := eq_true c3
 have c3b1 : decide (0 ≤ (l0_1.length : Int)) = true := decide_eq_true c3
 clear c3
 by_cases c4 : ((l0_1.length : Int) : Int).toNat ≤ 93824992236885
 rotate_left
 ·
  rw [if_neg c4] at H
  exact absurd H (by simp)
 rw [if_pos c4] at H
 have c4b0 := eq_true c4
 have c4b1 : decide (((l0_1.length : Int) : Int).toNat ≤ 93824992236885) = true := decide_eq_true c4
 clear c4
 obtain ⟨y164, hy164⟩ : ∃ y_ : List (S36), y_ = (List.replicate ((l0_1.length : Int) : Int).toNat z36) := ⟨_, rfl⟩
 replace H : (flow_Step.l0 k l1 y164 (y164.length : Int) 0 l0_0 l0_1) = some r := by first | (rw [hy164]; with_reducible exact H) | (have H2_ := (Option.bind_some _ _).symm.trans H; rw [hy164]; with_reducible exact H2_) | (have H2_ := (Option.bind_some _ _).symm.trans H; with_reducible exact H2_) | with_reducible exact H | (rw [hy164]; exact H) | exact H
 have Ny164 := Qa.mk hy164
 clear hy164
 have H' := Qa.mk H
 clear H
 go_enter Try.func15, Try.ntmps15
 go_wp2_with (first | ((with_reducible refine Qd1 (N := 2) rfl ?_); refine Qg1 ?hg (N := 2) ?hd (cs := #[.slice A0_0 l0_0.length c0_0, .slice A0_1 l0_1.length c0_1]) (t := 25) ?hr ?_; (case hd => rfl); (case hg => rfl); (case hr => first | (go_simp; done) | (go_simp; rfl)); intro gb163 hg w5 hbox hb; have n0_ := Qa.mk (Qr (by with_reducible repeat (first | exact HB.out | apply Qj | apply Ql | apply Qk)) hb); have n1_ := Qa.mk (hbox); have n2_ := Qa.mk ((by rw [hg]; exact (Qc1 (by with_reducible repeat (first | exact HB.out | apply Qj | apply Ql | apply Qk))) : w.heap.size ≤ gb163)); have n3_ := n2_; clear HB; have HB := n0_; have BK163 := n1_; have GW163 := n2_; have GE163 := n3_; clear n0_ n1_ n2_ n3_; clear hb hbox hg; have hcz6_0 : w5.cell? ⟨gb163, 0, none⟩ = some (.slice A0_0 l0_0.length c0_0) := (Qb BK163.out 0).trans rfl; have hcz6_1 : w5.cell? ⟨gb163, 1, none⟩ = some (.slice A0_1 l0_1.length c0_1) := (Qb BK163.out 1).trans rfl; have hfz6_0 := Qf BK163.out 0; have hfz6_1 := Qf BK163.out 1) | ((with_reducible refine Qd1 (N := 10) rfl ?_); refine Kd.R_make k36 _ 36 rfl (N := 10) rfl 32 _ _ rfl (l0_1.length : Int) rfl rfl Try.underlying32 (.agg #[(.bool false), (.bool false), (.bool false)]) 3 info36 rfl (by decide) (by omega) z36 (ok := fun _ => True) (okp := fun _ => True) (k36_mkM _ _ _ z36 ) (fun _ hk => hk) trivial (of_decide_eq_true (by assumption)) (Nat.le_trans (Nat.mul_le_mul_right _ (of_decide_eq_true (by assumption) : (l0_1.length : Int).toNat ≤ 93824992236885)) (by omega)) (Below.refl _ _) (Nat.le_refl _) ?_; intro v165 w7 ho8 hb hg_ hnew_; clear hg_ hnew_; (first | rw [← Ny164.out] at ho8 | (simp only [Int.reduceToNat] at ho8; rw [← Ny164.out] at ho8)); have n0_ := Qa.mk (Kd.R_lower ho8 (Qc1 (by with_reducible repeat (first | exact HB.out | apply Qj | apply Ql | apply Qk | refine Qi ?_ GE163.out)))); have n1_ := Qa.mk (Qo (g := gb163) (o := .cells #[.slice A0_0 l0_0.length c0_0, .slice A0_1 l0_1.length c0_1] 25 (0, 0)) (by (with_reducible repeat (first | refine Qe ?_ _ | refine Qc ?_ | refine Qd ?_ _)); exact BK163.out) hb); have n2_ := Qa.mk (Qr (by with_reducible repeat (first | exact HB.out | apply Qj | apply Ql | apply Qk | refine Qi ?_ GE163.out)) hb); clear BK163; clear HB; have HO166 := n0_; have BK163 := n1_; have HB := n2_; clear n0_ n1_ n2_; clear hb ho8; obtain ⟨Ao9, co9, eo9⟩ := Kd.R_slice HO166.out; subst eo9))
 go_loopg [13] k (fun kq v13 w' => ∃ (x5_1 : List (S36)) (x13_1 : Int), v13 = .int .i64 x13_1 ∧ Qa (flow_Step.l0 kq l1 x5_1 (y164.length : Int) x13_1 l0_0 l0_1 = some r) ∧ Qa (kq ≤ k) ∧ Qa (Kd.R k36 36 w' w.heap.size (fun _ => True) (.slice Ao9 y164.length co9) x5_1) ∧ Qa (w'.heap[gb163]? = some (.cells #[(.slice A0_0 l0_0.length c0_0), (.slice A0_1 l0_1.length c0_1)] 25 (0, 0))) ∧ Qa (Below w.heap.size w w'))
 case atStart => exact ⟨(y164), (0), (by first | rfl | (simp; done) | (simp [*]; done)), H', ⟨Nat.le_refl _⟩, ⟨by (with_reducible repeat (first | apply Kd.Qz | apply Kd.Qa1 | apply Kd.Qy)); exact HO166.out⟩, ⟨by (with_reducible repeat (first | refine Qe ?_ _ | refine Qc ?_ | refine Qd ?_ _)); exact BK163.out⟩, ⟨by with_reducible repeat (first | exact HB.out | apply Qj | apply Ql | apply Qk | refine Qi ?_ GE163.out)⟩⟩
 case round =>
  clear H'
  (try clear c1; try clear p2; try clear c3; try clear c3b0; try clear c3b1; try clear c4; try clear c4b0; try clear c4b1; try clear hcz6_0; try clear hcz6_1; try clear hfz6_0; try clear hfz6_1)
  obtain ⟨x5_1, x13_1, rfl, HA, HK1, HO_5, BK163, HB⟩ := hrel
  have hl5_1 := (Kd.R_reads' HO_5.out).1
  rw [hl5_1] at HO_5
  (try simp only [hl5_1])
  (try simp only [hl5_1] at BK163)
  cases gk with
  | zero => exact absurd HA.out (by simp [flow_Step.l0])
  | succ k1 =>
   have H := HA.out
   clear HA
   simp only [flow_Step.l0] at H
   by_cases c10 : x13_1 < (y164.length : Int)
   rotate_left
   ·
    rw [if_neg c10] at H
    have c10b0 : decide (x13_1 < (y164.length : Int)) = false := decide_eq_false c10
    (try (have c10e := c10b0; simp only [hl5_1] at c10e))
    clear c10
    obtain rfl := Option.some.inj H
    go_wp2
    go_ret
    exact ⟨_, by first | rfl | (simp [Qt, Qs] <;> rfl) | (simp [*, Qt, Qs] <;> rfl), by (with_reducible repeat (first | apply Kd.Qz | apply Kd.Qa1 | apply Kd.Qy)); exact HO_5.out, by with_reducible repeat (first | exact HB.out | apply Qj | apply Ql | apply Qk | refine Qi ?_ GE163.out)⟩
   rw [if_pos c10] at H
   have c10b0 : decide (x13_1 < (y164.length : Int)) = true := decide_eq_true c10
   clear c10
   replace H := Option.bind_eq_some_iff.mp H
   obtain ⟨⟨t167, t168, t169⟩, A110, H⟩ := H
   replace H : (if 0 ≤ x13_1 then (if x13_1 < (x5_1.length : Int) then (flow_Step.l0 k1 l1 (x5_1.set (x13_1 : Int).toNat (⟨t167, t168, t169⟩ : S36)) (y164.length : Int) (wrap64 (x13_1 + 1)) l0_0 l0_1) else (none)) else (none)) = some r := H
   have A11 := Qa.mk A110
   clear A110
   by_cases c12 : 0 ≤ x13_1
   rotate_left
   ·
    rw [if_neg c12] at H
    exact absurd H (by simp)
   rw [if_pos c12] at H
   have c12b0 : decide (0 ≤ x13_1) = true := decide_eq_true c12
   clear c12
   by_cases c13 : x13_1 < (x5_1.length : Int)
   rotate_left
   ·
    rw [if_neg c13] at H
    exact absurd H (by simp)
   rw [if_pos c13] at H
   have c13b0 : decide (x13_1 < (x5_1.length : Int)) = true := decide_eq_true c13
   clear c13
   obtain ⟨y170, hy170⟩ : ∃ y_ : List (S36), y_ = (x5_1.set (x13_1 : Int).toNat (⟨t167, t168, t169⟩ : S36)) := ⟨_, rfl⟩
   replace H : (flow_Step.l0 k1 l1 y170 (y164.length : Int) (wrap64 (x13_1 + 1)) l0_0 l0_1) = some r := by first | (rw [hy170]; with_reducible exact H) | (have H2_ := (Option.bind_some _ _).symm.trans H; rw [hy170]; with_reducible exact H2_) | (have H2_ := (Option.bind_some _ _).symm.trans H; with_reducible exact H2_) | with_reducible exact H | (rw [hy170]; exact H) | exact H
   have Ny170 := Qa.mk hy170
   clear hy170
   have H' := Qa.mk H
   clear H
   have hcz15_0 : wr.cell? ⟨gb163, 0, none⟩ = some (.slice A0_0 l0_0.length c0_0) := (Qb BK163.out 0).trans rfl
   have hcz15_1 : wr.cell? ⟨gb163, 1, none⟩ = some (.slice A0_1 l0_1.length c0_1) := (Qb BK163.out 1).trans rfl
   have hfz15_0 := Qf BK163.out 0
   have hfz15_1 := Qf BK163.out 1
   go_wp2_with (first | ((with_reducible refine gate_callee (f := 26) rfl ?_); refine goesL_ (some 21) rfl rfl Try.func26 (by kernel_rfl) rfl #[.agg #[.slice A0_0 l0_0.length c0_0, .slice A0_1 l0_1.length c0_1], .int .i64 x13_1, .slice A1 l1.length c1] rfl (by (try simp only [List.map_toArray, List.map_cons, List.map_nil]); first | done | rfl | (simp only [List.length_drop, List.length_take]; rfl)) ?_; (with_reducible refine (flow_node.calls k1 _ _ l0_0 _ _ l0_1 x13_1 _ _ l1 t167 t168 t169 _ ?side1 ?side2 ?side3 ?side4 ?side5 ?side6 A11.out).mono ?_); (case side1 => repeat (first | exact (Kd.Qw HR0_0.out HB.out) | (with_reducible refine Kd.Qf1 ?_ _) | (with_reducible refine Kd.Qe1 ?_ _) | (with_reducible refine Kd.C_drew ?_))); (case side2 => exact HC0_0.out); (case side3 => repeat (first | exact (Kd.Qw HR0_1.out HB.out) | (with_reducible refine Kd.Qf1 ?_ _) | (with_reducible refine Kd.Qe1 ?_ _) | (with_reducible refine Kd.C_drew ?_))); (case side4 => exact HC0_1.out); (case side5 => repeat (first | exact (Kd.Qw HR1.out HB.out) | (with_reducible refine Kd.Qf1 ?_ _) | (with_reducible refine Kd.Qe1 ?_ _) | (with_reducible refine Kd.C_drew ?_))); (case side6 => exact HC1.out); rintro e w16 ⟨rfl, hb⟩; refine ⟨_, rfl, ?_⟩; have n0_ := Qa.mk (Kd.Qh1 (by (with_reducible repeat (first | apply Kd.Qz | apply Kd.Qa1 | apply Kd.Qy)); exact HO_5.out) hb); have n1_ := Qa.mk (Qo (g := gb163) (o := .cells #[.slice A0_0 l0_0.length c0_0, .slice A0_1 l0_1.length c0_1] 25 (0, 0)) (by (with_reducible repeat (first | refine Qe ?_ _ | refine Qc ?_ | refine Qd ?_ _)); exact BK163.out) hb); have n2_ := Qa.mk (Qr (by with_reducible repeat (first | exact HB.out | apply Qj | apply Ql | apply Qk | refine Qi ?_ GE163.out)) hb); clear HO_5; clear BK163; clear HB; have HO_5 := n0_; have BK163 := n1_; have HB := n2_; clear n0_ n1_ n2_; (try clear hb); (try clear hb2); (try clear hk); (try clear hi); have p14 : 0 ≤ (x13_1 : Int) := of_decide_eq_true (by assumption); have q14 : (x13_1 : Int) < ((x5_1.length : Int) : Int) := of_decide_eq_true (by assumption); obtain ⟨go14, co14, eo14, gb14, gl14, cl14, HG14⟩ := Kd.R_form HO_5.out (by omega); (first | cases eo14 | (injection eo14 with ea_ en_ ec_; (first | subst ea_ | (injection ea_ with ea_; subst ea_)); subst ec_; clear en_)); have GB14 := Qa.mk gb14; have GG14 := Qa.mk HG14; clear gb14 gl14 HG14; obtain ⟨ce14, hcl14, hM14, hcc14, hfr14⟩ := Kd.R_elem HO_5.out z36 (x13_1 : Int) p14 q14; obtain rfl := k36_openM hM14; have hx14_0 : w16.cell? ⟨go14, (x13_1 : Int).toNat * 3, none⟩ = some (.bool ((Qg x5_1 x13_1).f0)) := hcc14 0 _ rfl; have hx14_1 : w16.cell? ⟨go14, (x13_1 : Int).toNat * 3 + 1, none⟩ = some (.bool ((Qg x5_1 x13_1).f1)) := hcc14 1 _ rfl; have hx14_2 : w16.cell? ⟨go14, (x13_1 : Int).toNat * 3 + 2, none⟩ = some (.bool ((Qg x5_1 x13_1).f2)) := hcc14 2 _ rfl; have hf14_0 : w16.frozen? ⟨go14, (x13_1 : Int).toNat * 3, none⟩ = false := hfr14 0; have hf14_1 : w16.frozen? ⟨go14, (x13_1 : Int).toNat * 3 + 1, none⟩ = false := hfr14 1; have hf14_2 : w16.frozen? ⟨go14, (x13_1 : Int).toNat * 3 + 2, none⟩ = false := hfr14 2; clear hcl14 hcc14 hfr14 hM14; replace p14 := eq_true p14; replace q14 := eq_true q14; have HX17 := Qa.mk (show Kd.R k36 36 w16 w.heap.size (fun _ => True) (.slice (some ⟨go14, 0, none⟩) x5_1.length co9) x5_1 from (by (with_reducible repeat (first | apply Kd.Qz | apply Kd.Qa1 | apply Kd.Qy)); exact HO_5.out)); obtain ⟨ce17, hcl17, hM17, hcc17, hfr17⟩ := Kd.R_elem HX17.out z36 (x13_1 : Int) (of_decide_eq_true (by assumption)) (by have h_ : (x13_1 : Int) < ((x5_1.length : Int) : Int) := of_decide_eq_true (by assumption); first | exact h_ | (have e_ := (Kd.R_reads' HO_5.out).1; omega) | simpa using h_); obtain rfl := k36_openM hM17; have HP17 := Kd.R_seg HX17.out (x13_1 : Int) (of_decide_eq_true (by assumption)) (by have h_ : (x13_1 : Int) < ((x5_1.length : Int) : Int) := of_decide_eq_true (by assumption); first | exact h_ | (have e_ := (Kd.R_reads' HO_5.out).1; omega) | simpa using h_) (seg := [.bool t167, .bool t168, .bool t169]) (j := 0) hcl17 hcc17 (show 3 ≤ 3 from by decide) (x' := (⟨t167, t168, t169⟩ : S36)) (k36_mkM _ _ _ (⟨t167, t168, t169⟩ : S36) ) (fun _ hk => hk); have hx17_0 := hcc17 0 _ rfl; (try simp only [show (k36).sz = 3 from rfl, Nat.mul_one, Nat.add_zero] at hx17_0); have hf17_0 := hfr17 0; (try simp only [show (k36).sz = 3 from rfl, Nat.mul_one, Nat.add_zero] at hf17_0); have hx17_1 := hcc17 1 _ rfl; (try simp only [show (k36).sz = 3 from rfl, Nat.mul_one, Nat.add_zero] at hx17_1); have hf17_1 := hfr17 1; (try simp only [show (k36).sz = 3 from rfl, Nat.mul_one, Nat.add_zero] at hf17_1); have hx17_2 := hcc17 2 _ rfl; (try simp only [show (k36).sz = 3 from rfl, Nat.mul_one, Nat.add_zero] at hx17_2); have hf17_2 := hfr17 2; (try simp only [show (k36).sz = 3 from rfl, Nat.mul_one, Nat.add_zero] at hf17_2); clear hcl17 hcc17 hfr17 hM17) | ((with_reducible refine gate_store (t := 36) (p := 22) rfl ?_); refine store_event (t := 36) (p := 22) (v := ?vo_w18) (w1 := (((w16.setCell ⟨go14, (x13_1 : Int).toNat * 3, none⟩ (.bool t167)).setCell ⟨go14, (x13_1 : Int).toNat * 3 + 1, none⟩ (.bool t168)).setCell ⟨go14, (x13_1 : Int).toNat * 3 + 2, none⟩ (.bool t169))) ?hg ?ho ?hn ?hr ?_; (case ho => rfl); (case hg => rfl); (case hn => rfl); (case hr => first | (go_simp; done) | (go_simp; rfl)); intro w18 hw; have hg : w16.grownBy w18 (some go14) := (by rw [hw]; exact HP17.2); have hp_ : Kd.R k36 36 w18 w.heap.size (fun _ => True) (.slice (some ⟨go14, 0, none⟩) x5_1.length co9) y170 := (by rw [hw, Ny170.out]; exact HP17.1); clear HP17; have n0_ := Qa.mk (hp_); have n1_ := Qa.mk (blk_grown (g := gb163) (o := .cells #[.slice A0_0 l0_0.length c0_0, .slice A0_1 l0_1.length c0_1] 25 (0, 0)) (by (with_reducible repeat (first | refine Qe ?_ _ | refine Qc ?_ | refine Qd ?_ _)); exact BK163.out) hg (Kd.R_ne HO_5.out BK163.out (by decide))); have n2_ := Qa.mk ((by rw [hw]; exact Qi (Qi (Qi (HB.out) GB14.out) GB14.out) GB14.out : Below w.heap.size w w18)); clear HO_5; clear BK163; clear HB; have HO_5 := n0_; have BK163 := n1_; have HB := n2_; clear n0_ n1_ n2_; clear hg hw hp_))
   (try simp only [← hl5_1])
   go_roundg k1
   case measure => have := HK1.out; omega
   case rel => exact ⟨(y170), (wrap64 (x13_1 + 1)), (by first | rfl | (simp; done) | (simp [*]; done)), H', ⟨by have := HK1.out; omega⟩, ⟨by (try simp only [hl5_1]); (with_reducible repeat (first | apply Kd.Qz | apply Kd.Qa1 | apply Kd.Qy)); exact HO_5.out⟩, ⟨by (try simp only [hl5_1]); (with_reducible repeat (first | refine Qe ?_ _ | refine Qc ?_ | refine Qd ?_ _)); exact BK163.out⟩, ⟨by with_reducible repeat (first | exact HB.out | apply Qj | apply Ql | apply Qk | refine Qi ?_ GE163.out)⟩⟩
def flow_Text.l0 : Nat → ByteArray → List Bool → Int → Int → Option (ByteArray)
 | 0, _, _, _, _ => none
 | k + 1, x3, x12, x13, x14 => if x14 < x13 then (if 0 ≤ x14 then (if x14 < (x12.length : Int) then (if rdOf false x12 x14 = true then (if x14 ≤ (wrap64 (x14 + 1)) then (if (wrap64 (x14 + 1)) ≤ 3 then (if x3.size + ((⟨#[110, 101, 102]⟩ : ByteArray).extract (x14 : Int).toNat ((wrap64 (x14 + 1)) : Int).toNat).size ≤ 9223372036854775807 then (flow_Text.l0 k (x3 ++ ((⟨#[110, 101, 102]⟩ : ByteArray).extract (x14 : Int).toNat ((wrap64 (x14 + 1)) : Int).toNat)) x12 x13 (wrap64 (x14 + 1))) else (none)) else (none)) else (none)) else (flow_Text.l0 k x3 x12 x13 (wrap64 (x14 + 1)))) else (none)) else (none)) else (if x3.toList = ([] : List UInt8) then (some (⟨#[45]⟩ : ByteArray)) else (some x3))
def flow_Text.f (k : Nat) (a0_0 : Bool) (a0_1 : Bool) (a0_2 : Bool) : Option (ByteArray) := (some (([a0_0, a0_1, a0_2] : List Bool) : List Bool)).bind fun y172 => (flow_Text.l0 k (⟨#[]⟩ : ByteArray) y172 (y172.length : Int) 0)
theorem flow_Text.mono_l : ∀ k, (∀ y0 y1 y2 y3, LeO (flow_Text.l0 k y0 y1 y2 y3) (flow_Text.l0 (k + 1) y0 y1 y2 y3))
 | 0 => fun _ _ _ _ r h => by simp [flow_Text.l0] at h
 | k + 1 => by
  have ih0 := flow_Text.mono_l k
  intro y0 y1 y2 y3
  unfold flow_Text.l0
  repeat' first
  | (with_reducible exact ih0 _ _ _ _)
  | (with_reducible exact LeO.refl _)
  | (with_reducible exact LeO.none _)
  | (with_reducible refine LeO.ite ?_ ?_)
  | (with_reducible refine LeO.bind ?_ (fun _ => ?_))
  | exact LeO.none _
  | refine LeO.ite ?_ ?_
  | refine LeO.bind ?_ (fun _ => ?_)
theorem flow_Text.mono : ∀ a0 a1 a2 k, LeO (flow_Text.f k a0 a1 a2) (flow_Text.f (k + 1) a0 a1 a2) := by
 intro a0 a1 a2 k
 have ih0 := flow_Text.mono_l k
 unfold flow_Text.f
 repeat' first
  | (with_reducible exact ih0 _ _ _ _)
  | (with_reducible exact LeO.refl _)
  | (with_reducible exact LeO.none _)
  | (with_reducible refine LeO.ite ?_ ?_)
  | (with_reducible refine LeO.bind ?_ (fun _ => ?_))
  | exact LeO.none _
  | refine LeO.ite ?_ ?_
  | refine LeO.bind ?_ (fun _ => ?_)
set_option maxHeartbeats 8000000 in
set_option maxRecDepth 100000 in
theorem flow_Text.calls (k : Nat) (a0_0 : Bool) (a0_1 : Bool) (a0_2 : Bool) (r : ByteArray) (w : World) (h : flow_Text.f k a0_0 a0_1 a0_2 = some r) :
 Calls Try.prog 19 #[.agg #[.bool a0_0, .bool a0_1, .bool a0_2]] w fun e w' => e = .returned (.string r) ∧ Below w.heap.size w w' := by
 have hu36 := Try.underlying36
 have HB := Qa.mk (Below.refl w.heap.size w)
 have H : ((some (([a0_0, a0_1, a0_2] : List Bool) : List Bool)).bind fun y172 => (flow_Text.l0 k (⟨#[]⟩ : ByteArray) y172 (y172.length : Int) 0)) = some r := h
 clear h
 obtain ⟨y172, hy172⟩ : ∃ y_ : List Bool, y_ = (([a0_0, a0_1, a0_2] : List Bool)) := ⟨_, rfl⟩
 replace H : (flow_Text.l0 k (⟨#[]⟩ : ByteArray) y172 (y172.length : Int) 0) = some r := by first | (rw [hy172]; with_reducible exact H) | (have H2_ := (Option.bind_some _ _).symm.trans H; rw [hy172]; with_reducible exact H2_) | (have H2_ := (Option.bind_some _ _).symm.trans H; with_reducible exact H2_) | with_reducible exact H | (rw [hy172]; exact H) | exact H
 have Ny172 := Qa.mk hy172
 clear hy172
 have H' := Qa.mk H
 clear H
 go_enter Try.func19, Try.ntmps19
 go_wp2_with (first | ((with_reducible refine Qd1 (N := 1) rfl ?_); refine Qg1 ?hg (N := 1) ?hd (cs := #[.bool a0_0, .bool a0_1, .bool a0_2]) (t := 36) ?hr ?_; (case hd => rfl); (case hg => rfl); (case hr => first | (go_simp; done) | (go_simp; rfl)); intro gb171 hg w2 hbox hb; have n0_ := Qa.mk (Qr (by with_reducible repeat (first | exact HB.out | apply Qj | apply Ql | apply Qk)) hb); have n1_ := Qa.mk (hbox); have n2_ := Qa.mk ((by rw [hg]; exact (Qc1 (by with_reducible repeat (first | exact HB.out | apply Qj | apply Ql | apply Qk))) : w.heap.size ≤ gb171)); have n3_ := n2_; clear HB; have HB := n0_; have BK171 := n1_; have GW171 := n2_; have GE171 := n3_; clear n0_ n1_ n2_ n3_; clear hb hbox hg; have hcz3_0 : w2.cell? ⟨gb171, 0, none⟩ = some (.bool a0_0) := (Qb BK171.out 0).trans rfl; have hcz3_1 : w2.cell? ⟨gb171, 1, none⟩ = some (.bool a0_1) := (Qb BK171.out 1).trans rfl; have hcz3_2 : w2.cell? ⟨gb171, 2, none⟩ = some (.bool a0_2) := (Qb BK171.out 2).trans rfl; have hfz3_0 := Qf BK171.out 0; have hfz3_1 := Qf BK171.out 1; have hfz3_2 := Qf BK171.out 2) | ((with_reducible refine Qd1 (N := 12) rfl ?_); refine Kd.R_lit Kd.bool _ 4 ?hg (N := 12) ?hd (xs := ([a0_0, a0_1, a0_2] : List Bool)) (inner := [.bool a0_0, .bool a0_1, .bool a0_2]) (ok := fun _ => True) (okp := fun _ => True) ?hr ?hp (fun _ hk => hk) trivial (Below.refl _ _) (Nat.le_refl _) (by simp) ?_; (case hd => rfl); (case hg => rfl); (case hr => first | (go_simp; done) | (go_simp; rfl)); (case hp => exact (Reps.one (show Kd.M Kd.bool _ _ _ a0_0 [.bool a0_0] from rfl) (Reps.one (show Kd.M Kd.bool _ _ _ a0_1 [.bool a0_1] from rfl) (Reps.one (show Kd.M Kd.bool _ _ _ a0_2 [.bool a0_2] from rfl) (Reps.none _ _))))); intro v173 w4 ho5 hb hg_ hnew_; clear hg_ hnew_; (first | rw [← Ny172.out] at ho5 | (simp only [Int.reduceToNat] at ho5; rw [← Ny172.out] at ho5)); have n0_ := Qa.mk (Kd.R_lower ho5 (Qc1 (by with_reducible repeat (first | exact HB.out | apply Qj | apply Ql | apply Qk | refine Qi ?_ GE171.out)))); have n1_ := Qa.mk (Qo (g := gb171) (o := .cells #[.bool a0_0, .bool a0_1, .bool a0_2] 36 (0, 0)) (by (with_reducible repeat (first | refine Qe ?_ _ | refine Qc ?_ | refine Qd ?_ _)); exact BK171.out) hb); have n2_ := Qa.mk (Qr (by with_reducible repeat (first | exact HB.out | apply Qj | apply Ql | apply Qk | refine Qi ?_ GE171.out)) hb); clear BK171; clear HB; have HO174 := n0_; have BK171 := n1_; have HB := n2_; clear n0_ n1_ n2_; clear hb ho5; obtain ⟨Ao6, co6, eo6⟩ := Kd.R_slice HO174.out; subst eo6))
 go_loopg [3, 14] k (fun kq v3 v14 w' => ∃ (x3_1 : ByteArray) (x14_1 : Int), v3 = .string x3_1 ∧ v14 = .int .i64 x14_1 ∧ Qa (flow_Text.l0 kq x3_1 y172 (y172.length : Int) x14_1 = some r) ∧ Qa (kq ≤ k) ∧ Qa (Kd.R Kd.bool 4 w' w.heap.size (fun _ => True) (.slice Ao6 y172.length co6) y172) ∧ Qa (w'.heap[gb171]? = some (.cells #[.bool a0_0, .bool a0_1, .bool a0_2] 36 (0, 0))) ∧ Qa (Below w.heap.size w w'))
 case atStart => exact ⟨((⟨#[]⟩ : ByteArray)), (0), (by first | rfl | (simp; done) | (simp [*]; done)), (by first | rfl | (simp; done) | (simp [*]; done)), H', ⟨Nat.le_refl _⟩, ⟨by (with_reducible repeat (first | apply Kd.Qz | apply Kd.Qa1 | apply Kd.Qy)); exact HO174.out⟩, ⟨by (with_reducible repeat (first | refine Qe ?_ _ | refine Qc ?_ | refine Qd ?_ _)); exact BK171.out⟩, ⟨by with_reducible repeat (first | exact HB.out | apply Qj | apply Ql | apply Qk | refine Qi ?_ GE171.out)⟩⟩
 case round =>
  clear H'
  (try clear c1; try clear p2; try clear hcz3_0; try clear hcz3_1; try clear hcz3_2; try clear hfz3_0; try clear hfz3_1; try clear hfz3_2)
  obtain ⟨x3_1, x14_1, rfl, rfl, HA, HK1, HO_12, BK171, HB⟩ := hrel
  cases gk with
  | zero => exact absurd HA.out (by simp [flow_Text.l0])
  | succ k1 =>
   have H := HA.out
   clear HA
   simp only [flow_Text.l0] at H
   by_cases c7 : x14_1 < (y172.length : Int)
   rotate_left
   ·
    rw [if_neg c7] at H
    have c7b0 : decide (x14_1 < (y172.length : Int)) = false := decide_eq_false c7
    (try (have c7e := c7b0; simp only [hl5_1] at c7e))
    clear c7
    by_cases c16 : x3_1.toList = ([] : List UInt8)
    ·
     rw [if_pos c16] at H
     have c16b0 : (x3_1.toList == ([] : List UInt8)) = true := beq_iff_eq.mpr c16
     have c16b1 : (x3_1.toList != ([] : List UInt8)) = false := bne_eq_false_iff_eq.mpr c16
     clear c16
     obtain rfl := Option.some.inj H
     go_wp2
     go_ret
     exact ⟨by first | rfl | (simp [Qt, Qs] <;> rfl) | (simp [*, Qt, Qs] <;> rfl), by with_reducible repeat (first | exact HB.out | apply Qj | apply Ql | apply Qk | refine Qi ?_ GE171.out)⟩
    ·
     rw [if_neg c16] at H
     have c16b0 : (x3_1.toList == ([] : List UInt8)) = false := beq_eq_false_iff_ne.mpr c16
     have c16b1 : (x3_1.toList != ([] : List UInt8)) = true := bne_iff_ne.mpr c16
     obtain rfl := Option.some.inj H
     go_wp2
     go_ret
     exact ⟨by first | rfl | (simp [Qt, Qs] <;> rfl) | (simp [*, Qt, Qs] <;> rfl), by with_reducible repeat (first | exact HB.out | apply Qj | apply Ql | apply Qk | refine Qi ?_ GE171.out)⟩
   rw [if_pos c7] at H
   have c7b0 : decide (x14_1 < (y172.length : Int)) = true := decide_eq_true c7
   clear c7
   by_cases c8 : 0 ≤ x14_1
   rotate_left
   ·
    rw [if_neg c8] at H
    exact absurd H (by simp)
   rw [if_pos c8] at H
   have c8b0 : decide (0 ≤ x14_1) = true := decide_eq_true c8
   clear c8
   by_cases c9 : x14_1 < (y172.length : Int)
   rotate_left
   ·
    rw [if_neg c9] at H
    exact absurd H (by simp)
   rw [if_pos c9] at H
   have c9b0 : decide (x14_1 < (y172.length : Int)) = true := decide_eq_true c9
   clear c9
   obtain ⟨bq10, hbq10⟩ : ∃ b_ : Bool, b_ = (rdOf false y172 x14_1) := ⟨_, rfl⟩
   replace H : (if bq10 = true then (if x14_1 ≤ (wrap64 (x14_1 + 1)) then (if (wrap64 (x14_1 + 1)) ≤ 3 then (if x3_1.size + ((⟨#[110, 101, 102]⟩ : ByteArray).extract (x14_1 : Int).toNat ((wrap64 (x14_1 + 1)) : Int).toNat).size ≤ 9223372036854775807 then (flow_Text.l0 k1 (x3_1 ++ ((⟨#[110, 101, 102]⟩ : ByteArray).extract (x14_1 : Int).toNat ((wrap64 (x14_1 + 1)) : Int).toNat)) y172 (y172.length : Int) (wrap64 (x14_1 + 1))) else (none)) else (none)) else (none)) else (flow_Text.l0 k1 x3_1 y172 (y172.length : Int) (wrap64 (x14_1 + 1)))) = some r := by rw [← hbq10] at H; exact H
   have Nbq10 := Qa.mk hbq10
   clear hbq10
   by_cases c11 : bq10 = true
   rotate_left
   ·
    replace c11 := Bool.eq_false_iff.mpr c11
    subst c11
    have H1 : (flow_Text.l0 k1 x3_1 y172 (y172.length : Int) (wrap64 (x14_1 + 1))) = some r := by rw [if_neg (show ¬ (false = true) by decide)] at H; exact H
    clear H
    have H := H1
    clear H1
    have H' := Qa.mk H
    clear H
    have p175 : 0 ≤ (x14_1 : Int) := of_decide_eq_true (by assumption)
    have q175 : x14_1 < (y172.length : Int) := of_decide_eq_true (by assumption)
    obtain ⟨ad175, e175, hx175_0⟩ := Kd.at_bool (Kd.R_reads' HO_12.out).2.2 x14_1 p175 q175
    (try rw [← Nbq10.out] at hx175_0)
    cases e175
    replace p175 := eq_true p175
    replace q175 := eq_true q175
    go_wp2
    go_roundg k1
    case measure => have := HK1.out; omega
    case rel => exact ⟨(x3_1), (wrap64 (x14_1 + 1)), (by first | rfl | (simp; done) | (simp [*]; done)), (by first | rfl | (simp; done) | (simp [*]; done)), H', ⟨by have := HK1.out; omega⟩, ⟨by (with_reducible repeat (first | apply Kd.Qz | apply Kd.Qa1 | apply Kd.Qy)); exact HO_12.out⟩, ⟨by (with_reducible repeat (first | refine Qe ?_ _ | refine Qc ?_ | refine Qd ?_ _)); exact BK171.out⟩, ⟨by with_reducible repeat (first | exact HB.out | apply Qj | apply Ql | apply Qk | refine Qi ?_ GE171.out)⟩⟩
   subst c11
   have H1 : (if x14_1 ≤ (wrap64 (x14_1 + 1)) then (if (wrap64 (x14_1 + 1)) ≤ 3 then (if x3_1.size + ((⟨#[110, 101, 102]⟩ : ByteArray).extract (x14_1 : Int).toNat ((wrap64 (x14_1 + 1)) : Int).toNat).size ≤ 9223372036854775807 then (flow_Text.l0 k1 (x3_1 ++ ((⟨#[110, 101, 102]⟩ : ByteArray).extract (x14_1 : Int).toNat ((wrap64 (x14_1 + 1)) : Int).toNat)) y172 (y172.length : Int) (wrap64 (x14_1 + 1))) else (none)) else (none)) else (none)) = some r := by rw [if_pos rfl] at H; exact H
   clear H
   have H := H1
   clear H1
   have c12b0 := eq_true (of_decide_eq_true (by assumption) : 0 ≤ x14_1)
   by_cases c13 : x14_1 ≤ (wrap64 (x14_1 + 1))
   rotate_left
   ·
    rw [if_neg c13] at H
    exact absurd H (by simp)
   rw [if_pos c13] at H
   have c13b0 := eq_true c13
   have c13b1 : decide (x14_1 ≤ (wrap64 (x14_1 + 1))) = true := decide_eq_true c13
   by_cases c14 : (wrap64 (x14_1 + 1)) ≤ 3
   rotate_left
   ·
    rw [if_neg c14] at H
    exact absurd H (by simp)
   rw [if_pos c14] at H
   have c14b0 := eq_true c14
   have c14b1 : decide ((wrap64 (x14_1 + 1)) ≤ 3) = true := decide_eq_true c14
   by_cases c15 : x3_1.size + ((⟨#[110, 101, 102]⟩ : ByteArray).extract (x14_1 : Int).toNat ((wrap64 (x14_1 + 1)) : Int).toNat).size ≤ 9223372036854775807
   rotate_left
   ·
    rw [if_neg c15] at H
    exact absurd H (by simp)
   rw [if_pos c15] at H
   have c15b0 := eq_true c15
   have c15b1 : decide (x3_1.size + ((⟨#[110, 101, 102]⟩ : ByteArray).extract (x14_1 : Int).toNat ((wrap64 (x14_1 + 1)) : Int).toNat).size ≤ 9223372036854775807) = true := decide_eq_true c15
   try have c15b2 : (9223372036854775807 < x3_1.size + ((⟨#[110, 101, 102]⟩ : ByteArray).extract (x14_1 : Int).toNat ((wrap64 (x14_1 + 1)) : Int).toNat).size) = False := eq_false (Nat.not_lt.2 c15)
   have H' := Qa.mk H
   clear H
   have p175 : 0 ≤ (x14_1 : Int) := of_decide_eq_true (by assumption)
   have q175 : x14_1 < (y172.length : Int) := of_decide_eq_true (by assumption)
   obtain ⟨ad175, e175, hx175_0⟩ := Kd.at_bool (Kd.R_reads' HO_12.out).2.2 x14_1 p175 q175
   (try rw [← Nbq10.out] at hx175_0)
   cases e175
   replace p175 := eq_true p175
   replace q175 := eq_true q175
   go_wp2
   go_roundg k1
   case measure => have := HK1.out; omega
   case rel => exact ⟨(x3_1 ++ ((⟨#[110, 101, 102]⟩ : ByteArray).extract (x14_1 : Int).toNat ((wrap64 (x14_1 + 1)) : Int).toNat)), (wrap64 (x14_1 + 1)), (by first | rfl | (simp; done) | (simp [*]; done)), (by first | rfl | (simp; done) | (simp [*]; done)), H', ⟨by have := HK1.out; omega⟩, ⟨by (with_reducible repeat (first | apply Kd.Qz | apply Kd.Qa1 | apply Kd.Qy)); exact HO_12.out⟩, ⟨by (with_reducible repeat (first | refine Qe ?_ _ | refine Qc ?_ | refine Qd ?_ _)); exact BK171.out⟩, ⟨by with_reducible repeat (first | exact HB.out | apply Qj | apply Ql | apply Qk | refine Qi ?_ GE171.out)⟩⟩
end Go.Proofs.Ytnaanamibfpbpaa.V
