/- The law NaiveFuel returns true whatever comes in, and leaves its arguments as they were. No condition. -/
import Derived.Test.YthgedejnpgcacaaKNf4
import Derived.OpenShut
import Derived.Carry
import Derived.Deep.Slices
import Derived.DataElems
import Derived.Laws.Bits64b
import Derived.Test.YthgedejnpgcacaaRows
import Derived.WalkKit
import Derived.ProofKit
import Derived.ShutString
import Derived.ChangeOld
import Derived.Below
import Derived.SizedLaws
namespace Go.Proofs.Ythgedejnpgcacaa.V
open Go.RowKit Go.Proofs.YthgedejnpgcacaaW.PrintWords Go.Proofs.YthgedejnpgcacaaW.PrintLast Go.Proofs.YthgedejnpgcacaaW.PrintMore
set_option linter.unusedVariables false
set_option linter.unusedSimpArgs false
set_option maxHeartbeats 4000000 in
set_option maxRecDepth 100000 in
theorem vetchref18_Node.calls_s9 (k : Nat) (ih : ∀ (A0_0 : Option Addr) (c0_0 : Nat) (l0_0 : List S51) (A0_1 : Option Addr) (c0_1 : Nat) (l0_1 : List S56) (a1 : Int) (a2 : ByteArray) (a3 a4 : Int) (r1 : Bool) (r2 r3 : Int) (w : World)
    (hr0_0 : Kd.C k51 w A0_0 l0_0.length l0_0) (hc0_0 : l0_0.length ≤ c0_0) (hr0_1 : Kd.C k56 w A0_1 l0_1.length l0_1) (hc0_1 : l0_1.length ≤ c0_1) (h : vetchref18_Node.f k l0_0 l0_1 a1 a2 a3 a4 = some (r1, r2, r3)), Calls Try.prog 12 #[.agg #[.slice A0_0 l0_0.length c0_0, .slice A0_1 l0_1.length c0_1], .int .i64 a1, .string a2, .int .i64 a3, .int .i64 a4] w fun e w' => e = .returned (.agg #[.bool r1, .int .i64 r2, .int .i64 r3]) ∧ Below w.heap.size w w')
    (A0_0 : Option Addr) (c0_0 : Nat) (l0_0 : List S51) (A0_1 : Option Addr) (c0_1 : Nat) (l0_1 : List S56) (a1 : Int) (a2 : ByteArray) (a3 a4 : Int) (r1 : Bool) (r2 r3 : Int) (w : World)
    (hr0_0 : Kd.C k51 w A0_0 l0_0.length l0_0) (hc0_0 : l0_0.length ≤ c0_0) (hr0_1 : Kd.C k56 w A0_1 l0_1.length l0_1) (hc0_1 : l0_1.length ≤ c0_1) (hs : Aside0 (¬ a4 < 1 ∧ (0 ≤ a1 ∧ a1 < (l0_1.length : Int)) ∧ (rd_T56 l0_1 a1).f0 = 9)) (h : vetchref18_Node.f (k + 1) l0_0 l0_1 a1 a2 a3 a4 = some (r1, r2, r3)) :
    Calls Try.prog 12 #[.agg #[.slice A0_0 l0_0.length c0_0, .slice A0_1 l0_1.length c0_1], .int .i64 a1, .string a2, .int .i64 a3, .int .i64 a4] w fun e w' => e = .returned (.agg #[.bool r1, .int .i64 r2, .int .i64 r3]) ∧ Below w.heap.size w w' := by
  rw [vetchref18_Node.f] at h
  have IH := Aside0.mk ih
  clear ih
  have hu25 := Try.underlying25
  have hu31 := Try.underlying31
  have hu56 := Try.underlying56
  have hu51 := Try.underlying51
  have hu54 := Try.underlying54
  have HB := Aside0.mk (below_alloc (below_alloc (Below.refl w.heap.size w) (.cells #[.slice A0_0 l0_0.length c0_0, .slice A0_1 l0_1.length c0_1] 25)) (.cells #[.bool false, .int .i64 0, .int .i64 0] 31))
  have HG := Aside0.mk (blk_alloc (blk_new w (.cells #[.slice A0_0 l0_0.length c0_0, .slice A0_1 l0_1.length c0_1] 25)) (.cells #[.bool false, .int .i64 0, .int .i64 0] 31))
  have HR := Aside0.mk (blk_new (w.alloc (.cells #[.slice A0_0 l0_0.length c0_0, .slice A0_1 l0_1.length c0_1] 25)) (.cells #[.bool false, .int .i64 0, .int .i64 0] 31))
  have hsz : ((w.alloc (.cells #[.slice A0_0 l0_0.length c0_0, .slice A0_1 l0_1.length c0_1] 25)).alloc (.cells #[.bool false, .int .i64 0, .int .i64 0] 31)).heap.size = w.heap.size + 1 + 1 := by rw [h18_size, h18_size]
  rw [h18_size] at HR
  have HC0 := Aside0.mk (Kd.C_below hr0_0 HB.out)
  have HC1 := Aside0.mk (Kd.C_below hr0_1 HB.out)
  have HW := Aside0.mk hsz
  clear hr0_0 hr0_1 hsz
  rw [if_neg hs.out.1, if_pos hs.out.2.1] at h
  have c4b : decide (a4 < 1) = false := decide_eq_false hs.out.1
  have H := Aside0.mk h
  clear h
  go_enter Try.func12, Try.ntmps12
  go_upto_region 1 with (fail)
  generalize ((w.alloc (.cells #[.slice A0_0 l0_0.length c0_0, .slice A0_1 l0_1.length c0_1] 25)).alloc (.cells #[.bool false, .int .i64 0, .int .i64 0] 31)) = W1 at HB HG HR HC0 HC1 HW ⊢
  obtain ⟨gb, hgb⟩ : ∃ gb, gb = w.heap.size := ⟨_, rfl⟩
  obtain ⟨gr, hgr⟩ : ∃ gr, gr = gb + 1 := ⟨_, rfl⟩
  rw [← hgb] at HW HG HR ⊢
  rw [← hgr] at HR ⊢
  have HGB := Aside0.mk hgb
  have HGR := Aside0.mk hgr
  clear hgb hgr
  go_upto_region 4 with (fail)
  clear c4b
  have g1 : W1.cell? ⟨gb, 1, none⟩ = some (.slice A0_1 l0_1.length c0_1) := (blk_cell HG.out 1).trans rfl
  have p2 := hs.out.2.1.1
  have p3 := hs.out.2.1.2
  obtain ⟨ad, Ak, ck, e, k0, k1, k2, k3, k4, k5, k6, hlk, hCk⟩ := at_T56 HC1.out a1 p2 p3
  cases e
  have HCk := Aside0.mk hCk
  have HLk := Aside0.mk hlk
  clear hCk hlk
  replace p2 := eq_true p2
  replace p3 := eq_true p3
  go_upto_region 5 with (fail)
  have HS := Aside0.mk hs.out.2.2
  clear hs
  generalize rd_T56 l0_1 a1 = nd at *
  obtain ⟨gx, hgx⟩ : ∃ gx, gx = W1.heap.size := ⟨_, rfl⟩
  have E2 : Aside0 (Env18 W1 gx #[.int .i64 nd.f0, .slice Ak nd.f1.length ck, .int .i64 nd.f2, .int .u64 nd.f3.f0, .int .u64 nd.f3.f1, .int .u64 nd.f3.f2, .int .u64 nd.f3.f3] (W1.alloc (.cells #[.int .i64 nd.f0, .slice Ak nd.f1.length ck, .int .i64 nd.f2, .int .u64 nd.f3.f0, .int .u64 nd.f3.f1, .int .u64 nd.f3.f2, .int .u64 nd.f3.f3] 56))) := ⟨by rw [hgx]; exact blk_new W1 (.cells #[.int .i64 nd.f0, .slice Ak nd.f1.length ck, .int .i64 nd.f2, .int .u64 nd.f3.f0, .int .u64 nd.f3.f1, .int .u64 nd.f3.f2, .int .u64 nd.f3.f3] 56), below_alloc (Below.refl _ _) _⟩
  have HGX := Aside0.mk hgx
  rw [← hgx]
  generalize W1.alloc (.cells #[.int .i64 nd.f0, .slice Ak nd.f1.length ck, .int .i64 nd.f2, .int .u64 nd.f3.f0, .int .u64 nd.f3.f1, .int .u64 nd.f3.f2, .int .u64 nd.f3.f3] 56) = W2 at E2 ⊢
  clear k0 k1 k2 k3 k4 k5 k6 g1 hgx p2 p3
  have h := H.out
  clear H
  have hnd : Aside0 (gb < W1.heap.size ∧ gr < W1.heap.size) := ⟨by have := HW.out; have := HGR.out; omega⟩
  generalize wrap64 (a4 - 1) = u at *
  have x0 : W2.cell? ⟨gx, 0, none⟩ = some (.int .i64 nd.f0) := (blk_cell E2.out.x 0).trans rfl
  go_upto_region 6 with (fail)
  clear x0
  have c0 : ¬ nd.f0 = 0 := by have := HS.out; omega
  rw [if_neg c0] at h
  have b0 : (nd.f0 == 0) = false := beq_eq_false_iff_ne.2 c0
  clear c0
  go_upto_region 8 with (fail)
  clear b0
  have c1 : ¬ nd.f0 = 1 := by have := HS.out; omega
  rw [if_neg c1] at h
  have b1 : (nd.f0 == 1) = false := beq_eq_false_iff_ne.2 c1
  clear c1
  go_upto_region 12 with (fail)
  clear b1
  have c2 : ¬ nd.f0 = 2 := by have := HS.out; omega
  rw [if_neg c2] at h
  have b2 : (nd.f0 == 2) = false := beq_eq_false_iff_ne.2 c2
  clear c2
  go_upto_region 14 with (fail)
  clear b2
  have c3 : ¬ nd.f0 = 3 := by have := HS.out; omega
  rw [if_neg c3] at h
  have b3 : (nd.f0 == 3) = false := beq_eq_false_iff_ne.2 c3
  clear c3
  go_upto_region 23 with (fail)
  clear b3
  have c4 : ¬ nd.f0 = 4 := by have := HS.out; omega
  rw [if_neg c4] at h
  have b4 : (nd.f0 == 4) = false := beq_eq_false_iff_ne.2 c4
  clear c4
  by_cases ck0 : nd.f1 = []
  · rw [if_pos ck0] at h
    exact absurd h (by simp)
  rw [if_neg ck0] at h
  have q9 := h18_mem nd.f1 ck0
  have HQ9 := Aside0.mk q9
  clear ck0
  obtain ⟨⟨t1, t2, t3⟩, ht, h⟩ := Option.bind_eq_some_iff.1 h
  dsimp only at ht h
  have HT := Aside0.mk ht
  have HA := Aside0.mk h
  clear ht h
  obtain ⟨ad1, he1, kc⟩ := Kd.at_int HCk.out 0 (Int.le_refl 0) HQ9.out
  cases he1
  replace kc : W1.cell? ad1 = some (.int .i64 (rd nd.f1 0)) := by simpa [Addr.add] using kc
  have HKC := Aside0.mk kc
  clear kc q9
  have kc := (E2.out.b.cell (World.block_lt_of_cell? W1 _ HKC.out)).trans HKC.out
  have x1 : W2.cell? ⟨gx, 1, none⟩ = some (.slice (some ad1) nd.f1.length ck) := (blk_cell E2.out.x 1).trans rfl
  have g0 : W2.cell? ⟨gb, 0, none⟩ = some (.slice A0_0 l0_0.length c0_0) := (blk_cell (blk_below HG.out E2.out.b) 0).trans rfl
  have g1 : W2.cell? ⟨gb, 1, none⟩ = some (.slice (some ad) l0_1.length c0_1) := (blk_cell (blk_below HG.out E2.out.b) 1).trans rfl
  have q9i := eq_true HQ9.out
  have q9n : (0 < nd.f1.length) = True := eq_true (by have := HQ9.out; omega)
  go_upto_region 32 with (fail)
  clear b4
  have EW := Aside0.mk E2.out.drew
  clear kc x1 g0 g1
  refine start_ (n := 11) (S := fun w' => w'.cell? ⟨gb, 0, none⟩ = some (.slice A0_0 l0_0.length c0_0) ∧ w'.cell? ⟨gb, 1, none⟩ = some (.slice (some ad) l0_1.length c0_1) ∧ w'.cell? ⟨gx, 1, none⟩ = some (.slice (some ad1) nd.f1.length ck) ∧ w'.cell? ad1 = some (.int .i64 (rd nd.f1 0))) (ds := []) #[false, false, false, false, false, false, false, false, false, false, false] (by kernel_rfl) rfl rfl ⟨(blk_cell (blk_below HG.out EW.out.b) 0).trans rfl, (blk_cell (blk_below HG.out EW.out.b) 1).trans rfl, (blk_cell EW.out.x 1).trans rfl, (EW.out.b.cell (World.block_lt_of_cell? W1 _ HKC.out)).trans HKC.out⟩ (fun hHeld => ?_); refine with_tabW h18_tab32 h18_bits32 (fun HT_ HW_ => ?_)
  generalize W2.drew = W3 at EW hHeld ⊢
  refine pure_ (i := 1) (N := some 136) (v := ?_) (a' := ?_) #[false, true, false, false, false, false, false, false, false, false, false] rfl rfl (any_of HT_.out (by kernel_rfl)) (fun _ _ _ h => h) (Or.inl ⟨by rfl, ?_⟩) ?_ ?_
  rotate_left
  ·
   intro w'
   go_simp
   with_reducible rfl
  rotate_left
  ·
   simp only [Act.put, List.setIfInBounds_toArray, List.set_cons_zero, List.set_cons_succ, i64_w, i32_w]
   rfl
  refine pure_ (i := 5) (N := some 140) (v := ?_) (a' := ?_) #[false, true, false, false, false, true, false, false, false, false, false] rfl rfl (any_of HT_.out (by kernel_rfl)) (fun _ _ _ h => h) (Or.inl ⟨by rfl, ?_⟩) ?_ ?_
  rotate_left
  ·
   intro w'
   go_simp
   with_reducible rfl
  rotate_left
  ·
   simp only [Act.put, List.setIfInBounds_toArray, List.set_cons_zero, List.set_cons_succ, i64_w, i32_w]
   rfl
  refine pure_ (i := 6) (N := some 141) (v := ?_) (a' := ?_) #[false, true, false, false, false, true, true, false, false, false, false] rfl rfl (any_of HT_.out (by kernel_rfl)) (fun _ _ _ h => h) (Or.inl ⟨by rfl, ?_⟩) ?_ ?_
  rotate_left
  ·
   intro w'
   go_simp
   with_reducible rfl
  rotate_left
  ·
   simp only [Act.put, List.setIfInBounds_toArray, List.set_cons_zero, List.set_cons_succ, i64_w, i32_w]
   rfl
  refine pure_ (i := 7) (N := some 142) (v := ?_) (a' := ?_) #[false, true, false, false, false, true, true, true, false, false, false] rfl rfl (any_of HT_.out (by kernel_rfl)) (fun _ _ _ h => h) (Or.inl ⟨by rfl, ?_⟩) ?_ ?_
  rotate_left
  ·
   intro w'
   go_simp
   with_reducible rfl
  rotate_left
  ·
   simp only [Act.put, List.setIfInBounds_toArray, List.set_cons_zero, List.set_cons_succ, i64_w, i32_w]
   rfl
  refine take_ (i := 0) (N := some 135) (v := ?_) (a' := ?_) #[true, true, false, false, false, true, true, true, false, false, false] rfl rfl (take_ofW HT_.out HW_.out (by kernel_rfl)) (fun _ _ _ h => h) (Or.inl ⟨by rfl, ?_⟩) hHeld ?_ ?_
  rotate_left
  ·
   rintro w' ⟨s0, s1, s2, s3⟩
   go_simp
   with_reducible rfl
  rotate_left
  ·
   simp only [Act.put, List.setIfInBounds_toArray, List.set_cons_zero, List.set_cons_succ, i64_w, i32_w]
   rfl
  refine take_ (i := 2) (N := some 137) (v := ?_) (a' := ?_) #[true, true, true, false, false, true, true, true, false, false, false] rfl rfl (take_ofW HT_.out HW_.out (by kernel_rfl)) (fun _ _ _ h => h) (Or.inl ⟨by rfl, ?_⟩) hHeld ?_ ?_
  rotate_left
  ·
   rintro w' ⟨s0, s1, s2, s3⟩
   go_simp
   with_reducible rfl
  rotate_left
  ·
   simp only [Act.put, List.setIfInBounds_toArray, List.set_cons_zero, List.set_cons_succ, i64_w, i32_w]
   rfl
  refine pure_ (i := 3) (N := some 138) (v := ?_) (a' := ?_) #[true, true, true, true, false, true, true, true, false, false, false] rfl rfl (any_of HT_.out (by kernel_rfl)) (fun _ _ _ h => h) (Or.inl ⟨by rfl, ?_⟩) ?_ ?_
  rotate_left
  ·
   intro w'
   go_simp
   with_reducible rfl
  rotate_left
  ·
   simp only [Act.put, List.setIfInBounds_toArray, List.set_cons_zero, List.set_cons_succ, i64_w, i32_w]
   rfl
  refine take_ (i := 4) (N := some 139) (v := ?_) (a' := ?_) #[true, true, true, true, true, true, true, true, false, false, false] rfl rfl (take_ofW HT_.out HW_.out (by kernel_rfl)) (fun _ _ _ h => h) (Or.inl ⟨by rfl, ?_⟩) hHeld ?_ ?_
  rotate_left
  ·
   rintro w' ⟨s0, s1, s2, s3⟩
   go_simp
   with_reducible rfl
  rotate_left
  ·
   simp only [Act.put, List.setIfInBounds_toArray, List.set_cons_zero, List.set_cons_succ, i64_w, i32_w]
   rfl
  refine join_ (σ := Nat) 1 #[true, true, true, true, true, true, true, true, true, true, false] (fun s_ => [(143, .agg #[.bool t1, .int .i64 t2, .int .i64 t3]), (16, .pointer (some ⟨s_, 0, none⟩))]) (fun s_ w' => (w'.cell? ⟨gb, 0, none⟩ = some (.slice A0_0 l0_0.length c0_0) ∧ w'.cell? ⟨gb, 1, none⟩ = some (.slice (some ad) l0_1.length c0_1) ∧ w'.cell? ⟨gx, 1, none⟩ = some (.slice (some ad1) nd.f1.length ck) ∧ w'.cell? ad1 = some (.int .i64 (rd nd.f1 0))) ∧ Env18 W1 gx #[.int .i64 nd.f0, .slice (some ad1) nd.f1.length ck, .int .i64 nd.f2, .int .u64 nd.f3.f0, .int .u64 nd.f3.f1, .int .u64 nd.f3.f2, .int .u64 nd.f3.f3] w' ∧ w'.heap[s_]? = some (.cells #[.bool false, .int .i64 0, .int .i64 0] 31 (0, 0)) ∧ gx ≠ s_ ∧ W1.heap.size ≤ s_) ?_ ?_
  rotate_left
  ·
   intro hCont
   refine two_ (i := 8) (j := 9) (Ni := some 143) (Nj := some 16) #[true, true, true, true, true, true, true, true, true, false, false] #[true, true, true, true, true, true, true, true, false, true, false] rfl rfl rfl rfl (two_of HT_.out (by kernel_rfl)) (by decide) (by decide) (fun K hK => ?_) (fun K hK => ?_)
   ·
    refine goes_ Try.func12 (by kernel_rfl) rfl #[.agg #[.slice A0_0 l0_0.length c0_0, .slice (some ad) l0_1.length c0_1], .int .i64 (rd nd.f1 0), .string a2, .int .i64 a3, .int .i64 u] (by rfl) rfl rfl (by (try simp only [List.map_toArray, List.map_cons, List.map_nil]); first | done | rfl) ?_
    refine (IH.out _ _ l0_0 _ _ l0_1 (rd nd.f1 0) a2 a3 u t1 t2 t3 _ (Kd.C_below HC0.out EW.out.b) hc0_0 (Kd.C_below HC1.out EW.out.b) hc0_1 HT.out).mono ?_
    rintro e_ V1 ⟨rfl, hb⟩
    refine ⟨_, rfl, ?_⟩
    have EV1 := Aside0.mk (EW.out.below hb)
    refine hK.out _ _ ⟨(blk_cell (blk_below HG.out EV1.out.b) 0).trans rfl, (blk_cell (blk_below HG.out EV1.out.b) 1).trans rfl, (blk_cell EV1.out.x 1).trans rfl, (EV1.out.b.cell (World.block_lt_of_cell? W1 _ HKC.out)).trans HKC.out⟩ (fun hHeld => ?_)
    clear hK K
    refine norm_ (a' := ?_) ?_ ?_
    rotate_left
    ·
     show Act.put _ (some 143) _ = _
     simp only [Act.put, List.setIfInBounds_toArray, List.set_cons_zero, List.set_cons_succ, i64_w, i32_w]
     rfl
    refine one_ (i := 9) (N := some 16) #[true, true, true, true, true, true, true, true, true, true, false] rfl rfl (one_of HT_.out (by kernel_rfl)) (by decide) (fun K hK => ?_)
    clear hb
    refine box_step ?hg (N := 16) ?hd (cs := #[.bool false, .int .i64 0, .int .i64 0]) (t := 31) ?hr ?_; (case hd => rfl); (case hg => rfl); (case hr => first | (go_simp; done) | (go_simp; rfl))
    intro gv hg V2 hbox hb
    have HBX : gx ≠ gv ∧ W1.heap.size ≤ gv := by rw [hg]; have := blk_lt EV1.out.x; have := EV1.out.b.size; omega
    have EV2 := Aside0.mk (EV1.out.below hb)
    refine hK.out _ _ ⟨(blk_cell (blk_below HG.out EV2.out.b) 0).trans rfl, (blk_cell (blk_below HG.out EV2.out.b) 1).trans rfl, (blk_cell EV2.out.x 1).trans rfl, (EV2.out.b.cell (World.block_lt_of_cell? W1 _ HKC.out)).trans HKC.out⟩ (fun hHeld => ?_)
    clear hK K
    refine norm_ (a' := ?_) ?_ ?_
    rotate_left
    ·
     show Act.put _ (some 16) _ = _
     simp only [Act.put, List.setIfInBounds_toArray, List.set_cons_zero, List.set_cons_succ, i64_w, i32_w]
     rfl
    exact norm_ (by simp only [putAll, Act.put, List.setIfInBounds_toArray, List.set_cons_zero, List.set_cons_succ]) (hCont gv _ ⟨hHeld, EV2.out, hbox, HBX.1, HBX.2⟩)
   ·
    refine box_step ?hg (N := 16) ?hd (cs := #[.bool false, .int .i64 0, .int .i64 0]) (t := 31) ?hr ?_; (case hd => rfl); (case hg => rfl); (case hr => first | (go_simp; done) | (go_simp; rfl))
    intro gv hg V1 hbox hb
    have HBX : gx ≠ gv ∧ W1.heap.size ≤ gv := by rw [hg]; have := blk_lt EW.out.x; have := EW.out.b.size; omega
    have EV1 := Aside0.mk (EW.out.below hb)
    have BX := Aside0.mk hbox
    have HBX := Aside0.mk HBX
    clear hbox hb hg
    refine hK.out _ _ ⟨(blk_cell (blk_below HG.out EV1.out.b) 0).trans rfl, (blk_cell (blk_below HG.out EV1.out.b) 1).trans rfl, (blk_cell EV1.out.x 1).trans rfl, (EV1.out.b.cell (World.block_lt_of_cell? W1 _ HKC.out)).trans HKC.out⟩ (fun hHeld => ?_)
    clear hK K
    refine norm_ (a' := ?_) ?_ ?_
    rotate_left
    ·
     show Act.put _ (some 16) _ = _
     simp only [Act.put, List.setIfInBounds_toArray, List.set_cons_zero, List.set_cons_succ, i64_w, i32_w]
     rfl
    refine one_ (i := 8) (N := some 143) #[true, true, true, true, true, true, true, true, true, true, false] rfl rfl (one_of HT_.out (by kernel_rfl)) (by decide) (fun K hK => ?_)
    refine goes_ Try.func12 (by kernel_rfl) rfl #[.agg #[.slice A0_0 l0_0.length c0_0, .slice (some ad) l0_1.length c0_1], .int .i64 (rd nd.f1 0), .string a2, .int .i64 a3, .int .i64 u] (by rfl) rfl rfl (by (try simp only [List.map_toArray, List.map_cons, List.map_nil]); first | done | rfl) ?_
    refine (IH.out _ _ l0_0 _ _ l0_1 (rd nd.f1 0) a2 a3 u t1 t2 t3 _ (Kd.C_below HC0.out EV1.out.b) hc0_0 (Kd.C_below HC1.out EV1.out.b) hc0_1 HT.out).mono ?_
    rintro e_ V2 ⟨rfl, hb⟩
    refine ⟨_, rfl, ?_⟩
    have EV2 := Aside0.mk (EV1.out.below hb)
    refine hK.out _ _ ⟨(blk_cell (blk_below HG.out EV2.out.b) 0).trans rfl, (blk_cell (blk_below HG.out EV2.out.b) 1).trans rfl, (blk_cell EV2.out.x 1).trans rfl, (EV2.out.b.cell (World.block_lt_of_cell? W1 _ HKC.out)).trans HKC.out⟩ (fun hHeld => ?_)
    clear hK K
    refine norm_ (a' := ?_) ?_ ?_
    rotate_left
    ·
     show Act.put _ (some 143) _ = _
     simp only [Act.put, List.setIfInBounds_toArray, List.set_cons_zero, List.set_cons_succ, i64_w, i32_w]
     rfl
    exact norm_ (by simp only [putAll, Act.put, List.setIfInBounds_toArray, List.set_cons_zero, List.set_cons_succ]) (hCont gv _ ⟨hHeld, EV2.out, blk_below BX.out hb, HBX.out.1, HBX.out.2⟩)
  rintro gv V3 ⟨hHeld, hE_, hB_, hn_, hg_⟩
  have EV3 := Aside0.mk hE_
  have BV3 := Aside0.mk hB_
  have HV : Aside0 (gx ≠ gv ∧ W1.heap.size ≤ gv ∧ gr ≠ gv) := ⟨hn_, hg_, by have := hnd.out; omega⟩
  clear hE_ hB_ hn_ hg_
  refine norm_ (a' := ?_) ?_ ?_
  rotate_left
  ·
   simp only [putAll, Act.put, List.setIfInBounds_toArray, List.set_cons_zero, List.set_cons_succ]
   rfl
  refine one_ (i := 10) (N := none) #[true, true, true, true, true, true, true, true, true, true, true] rfl rfl (one_of HT_.out (by kernel_rfl)) (by decide) (fun K hK => ?_)
  have v0 : V3.cell? ⟨gv, 0, none⟩ = some (.bool false) := (blk_cell BV3.out 0).trans rfl
  have y0 : V3.frozen? ⟨gv, 0, none⟩ = false := blk_frozen BV3.out 0
  have v1 : V3.cell? ⟨gv, 1, none⟩ = some (.int .i64 0) := (blk_cell BV3.out 1).trans rfl
  have y1 : V3.frozen? ⟨gv, 1, none⟩ = false := blk_frozen BV3.out 1
  have v2 : V3.cell? ⟨gv, 2, none⟩ = some (.int .i64 0) := (blk_cell BV3.out 2).trans rfl
  have y2 : V3.frozen? ⟨gv, 2, none⟩ = false := blk_frozen BV3.out 2
  refine skip_ (w1 := ?_) (by rfl) rfl ?_ ?_
  rotate_left
  ·
   go_simp
   rfl
  have EV := Aside0.mk (EV3.out.put3 HV.out.2.1 HV.out.1 (.bool t1) (.int .i64 t2) (.int .i64 t3))
  have BV := Aside0.mk (h18_blk3 BV3.out (.bool t1) (.int .i64 t2) (.int .i64 t3))
  refine hK.out _ _ ⟨(blk_cell (blk_below HG.out EV.out.b) 0).trans rfl, (blk_cell (blk_below HG.out EV.out.b) 1).trans rfl, (blk_cell EV.out.x 1).trans rfl, (EV.out.b.cell (World.block_lt_of_cell? W1 _ HKC.out)).trans HKC.out⟩ (fun hHeld => ?_)
  clear hK K
  refine done_ (done_of HT_.out (by kernel_rfl)) ?_
  clear hHeld v0 v1 v2 y0 y1 y2
  generalize (((V3.setCell ⟨gv, 0, none⟩ (.bool t1)).setCell ⟨gv, 1, none⟩ (.int .i64 t2)).setCell ⟨gv, 2, none⟩ (.int .i64 t3)) = V0 at EV BV ⊢
  clear EV3 BV3
  have v0 : V0.cell? ⟨gv, 0, none⟩ = some (.bool t1) := (blk_cell BV.out 0).trans rfl
  have v1 : V0.cell? ⟨gv, 1, none⟩ = some (.int .i64 t2) := (blk_cell BV.out 1).trans rfl
  have v2 : V0.cell? ⟨gv, 2, none⟩ = some (.int .i64 t3) := (blk_cell BV.out 2).trans rfl
  go_upto_region 33 with (fail)
  clear v0 v1 v2
  have h := HA.out
  clear HA
  cases t1 with
  | false =>
    rw [if_pos rfl] at h
    simp only [Option.some.injEq, Prod.mk.injEq] at h
    obtain ⟨rfl, rfl, rfl⟩ := h
    have v0 : V0.cell? ⟨gv, 0, none⟩ = some (.bool false) := (blk_cell BV.out 0).trans rfl
    have v1 : V0.cell? ⟨gv, 1, none⟩ = some (.int .i64 t2) := (blk_cell BV.out 1).trans rfl
    have v2 : V0.cell? ⟨gv, 2, none⟩ = some (.int .i64 t3) := (blk_cell BV.out 2).trans rfl
    have rr0 : V0.cell? ⟨gr, 0, none⟩ = some (.bool false) := (blk_cell (blk_below HR.out EV.out.b) 0).trans rfl
    have z0 : V0.frozen? ⟨gr, 0, none⟩ = false := blk_frozen (blk_below HR.out EV.out.b) 0
    have rr1 : V0.cell? ⟨gr, 1, none⟩ = some (.int .i64 0) := (blk_cell (blk_below HR.out EV.out.b) 1).trans rfl
    have z1 : V0.frozen? ⟨gr, 1, none⟩ = false := blk_frozen (blk_below HR.out EV.out.b) 1
    have rr2 : V0.cell? ⟨gr, 2, none⟩ = some (.int .i64 0) := (blk_cell (blk_below HR.out EV.out.b) 2).trans rfl
    have z2 : V0.frozen? ⟨gr, 2, none⟩ = false := blk_frozen (blk_below HR.out EV.out.b) 2
    go_wp2
    refine bodyPost_ret (results_cell_row rfl _ _ gr 31 #[.bool false, .int .i64 t2, .int .i64 t3] (0, 0) _ rfl (h18_blk3 (blk_below HR.out EV.out.b) _ _ _) Try.underlying31 rfl (by kernel_rfl)) rfl ⟨rfl, h18_below3 (below_step HB.out EV.out.b) (by have := HGB.out; have := HGR.out; omega) _ _ _⟩
  | true =>
    rw [if_neg (by decide)] at h
    have v0 : V0.cell? ⟨gv, 0, none⟩ = some (.bool true) := (blk_cell BV.out 0).trans rfl
    have v1 : V0.cell? ⟨gv, 1, none⟩ = some (.int .i64 t2) := (blk_cell BV.out 1).trans rfl
    have v2 : V0.cell? ⟨gv, 2, none⟩ = some (.int .i64 t3) := (blk_cell BV.out 2).trans rfl
    have x0 : V0.cell? ⟨gx, 0, none⟩ = some (.int .i64 nd.f0) := (blk_cell EV.out.x 0).trans rfl
    go_upto_region 36 with (fail)
    have c7 : ¬ nd.f0 = 7 := by have := HS.out; omega
    rw [if_neg c7] at h
    have b7 : (nd.f0 == 7) = false := beq_eq_false_iff_ne.2 c7
    clear c7
    go_upto_region 40 with (fail)
    clear b7
    have c8 : ¬ nd.f0 = 8 := by have := HS.out; omega
    rw [if_neg c8] at h
    have b8 : (nd.f0 == 8) = false := beq_eq_false_iff_ne.2 c8
    clear c8
    go_upto_region 44 with (fail)
    clear b8
    have c9 : nd.f0 = 9 := HS.out
    rw [if_pos c9] at h
    have b9 : (nd.f0 == 9) = true := beq_iff_eq.2 c9
    clear c9
    by_cases ct : t2 < 0
    · rw [if_pos ct] at h
      have ctb : decide (t2 < 0) = true := decide_eq_true ct
      clear ct
      simp only [Option.some.injEq, Prod.mk.injEq] at h
      obtain ⟨rfl, rfl, rfl⟩ := h
      have rr0 : V0.cell? ⟨gr, 0, none⟩ = some (.bool false) := (blk_cell (blk_below HR.out EV.out.b) 0).trans rfl
      have z0 : V0.frozen? ⟨gr, 0, none⟩ = false := blk_frozen (blk_below HR.out EV.out.b) 0
      have rr1 : V0.cell? ⟨gr, 1, none⟩ = some (.int .i64 0) := (blk_cell (blk_below HR.out EV.out.b) 1).trans rfl
      have z1 : V0.frozen? ⟨gr, 1, none⟩ = false := blk_frozen (blk_below HR.out EV.out.b) 1
      have rr2 : V0.cell? ⟨gr, 2, none⟩ = some (.int .i64 0) := (blk_cell (blk_below HR.out EV.out.b) 2).trans rfl
      have z2 : V0.frozen? ⟨gr, 2, none⟩ = false := blk_frozen (blk_below HR.out EV.out.b) 2
      go_wp2
      refine bodyPost_ret (results_cell_row rfl _ _ gr 31 #[.bool true, .int .i64 a3, .int .i64 t3] (0, 0) _ rfl (h18_blk3 (blk_below HR.out EV.out.b) _ _ _) Try.underlying31 rfl (by kernel_rfl)) rfl ⟨rfl, h18_below3 (below_step HB.out EV.out.b) (by have := HGB.out; have := HGR.out; omega) _ _ _⟩
    · rw [if_neg ct] at h
      have ctb : decide (t2 < 0) = false := decide_eq_false ct
      clear ct
      simp only [Option.some.injEq, Prod.mk.injEq] at h
      obtain ⟨rfl, rfl, rfl⟩ := h
      have rr0 : V0.cell? ⟨gr, 0, none⟩ = some (.bool false) := (blk_cell (blk_below HR.out EV.out.b) 0).trans rfl
      have z0 : V0.frozen? ⟨gr, 0, none⟩ = false := blk_frozen (blk_below HR.out EV.out.b) 0
      have rr1 : V0.cell? ⟨gr, 1, none⟩ = some (.int .i64 0) := (blk_cell (blk_below HR.out EV.out.b) 1).trans rfl
      have z1 : V0.frozen? ⟨gr, 1, none⟩ = false := blk_frozen (blk_below HR.out EV.out.b) 1
      have rr2 : V0.cell? ⟨gr, 2, none⟩ = some (.int .i64 0) := (blk_cell (blk_below HR.out EV.out.b) 2).trans rfl
      have z2 : V0.frozen? ⟨gr, 2, none⟩ = false := blk_frozen (blk_below HR.out EV.out.b) 2
      go_wp2
      refine bodyPost_ret (results_cell_row rfl _ _ gr 31 #[.bool true, .int .i64 (-1), .int .i64 t3] (0, 0) _ rfl (h18_blk3 (blk_below HR.out EV.out.b) _ _ _) Try.underlying31 rfl (by kernel_rfl)) rfl ⟨rfl, h18_below3 (below_step HB.out EV.out.b) (by have := HGB.out; have := HGR.out; omega) _ _ _⟩
end Go.Proofs.Ythgedejnpgcacaa.V
namespace Go.Proofs.Ythgedejnpgcacaa.V
open Go.RowKit Go.Proofs.YthgedejnpgcacaaW.PrintWords
set_option linter.unusedVariables false
theorem vetchref18_Node.calls (k : Nat) : ∀ (A0_0 : Option Addr) (c0_0 : Nat) (l0_0 : List S51) (A0_1 : Option Addr) (c0_1 : Nat) (l0_1 : List S56) (a1 : Int) (a2 : ByteArray) (a3 a4 : Int) (r1 : Bool) (r2 r3 : Int) (w : World)
    (hr0_0 : Kd.C k51 w A0_0 l0_0.length l0_0) (hc0_0 : l0_0.length ≤ c0_0) (hr0_1 : Kd.C k56 w A0_1 l0_1.length l0_1) (hc0_1 : l0_1.length ≤ c0_1) (h : vetchref18_Node.f k l0_0 l0_1 a1 a2 a3 a4 = some (r1, r2, r3)),
    Calls Try.prog 12 #[.agg #[.slice A0_0 l0_0.length c0_0, .slice A0_1 l0_1.length c0_1], .int .i64 a1, .string a2, .int .i64 a3, .int .i64 a4] w fun e w' => e = .returned (.agg #[.bool r1, .int .i64 r2, .int .i64 r3]) ∧ Below w.heap.size w w' := by
  induction k with
  | zero => intro A0_0 c0_0 l0_0 A0_1 c0_1 l0_1 a1 a2 a3 a4 r1 r2 r3 w hr0_0 hc0_0 hr0_1 hc0_1 h; exact absurd h (by simp [vetchref18_Node.f])
  | succ k ih =>
  intro A0_0 c0_0 l0_0 A0_1 c0_1 l0_1 a1 a2 a3 a4 r1 r2 r3 w hr0_0 hc0_0 hr0_1 hc0_1 h
  by_cases cf : a4 < 1
  · exact vetchref18_Node.calls_sf k ih A0_0 c0_0 l0_0 A0_1 c0_1 l0_1 a1 a2 a3 a4 r1 r2 r3 w hr0_0 hc0_0 hr0_1 hc0_1 ⟨cf⟩ h
  by_cases ci : 0 ≤ a1 ∧ a1 < (l0_1.length : Int)
  · by_cases d0 : (rd_T56 l0_1 a1).f0 = 0
    · exact vetchref18_Node.calls_s0 k ih A0_0 c0_0 l0_0 A0_1 c0_1 l0_1 a1 a2 a3 a4 r1 r2 r3 w hr0_0 hc0_0 hr0_1 hc0_1 ⟨cf, ci, d0⟩ h
    by_cases d1 : (rd_T56 l0_1 a1).f0 = 1
    · exact vetchref18_Node.calls_s1 k ih A0_0 c0_0 l0_0 A0_1 c0_1 l0_1 a1 a2 a3 a4 r1 r2 r3 w hr0_0 hc0_0 hr0_1 hc0_1 ⟨cf, ci, d1⟩ h
    by_cases d2 : (rd_T56 l0_1 a1).f0 = 2
    · exact vetchref18_Node.calls_s2 k ih A0_0 c0_0 l0_0 A0_1 c0_1 l0_1 a1 a2 a3 a4 r1 r2 r3 w hr0_0 hc0_0 hr0_1 hc0_1 ⟨cf, ci, d2⟩ h
    by_cases d3 : (rd_T56 l0_1 a1).f0 = 3
    · exact vetchref18_Node.calls_s3 k ih A0_0 c0_0 l0_0 A0_1 c0_1 l0_1 a1 a2 a3 a4 r1 r2 r3 w hr0_0 hc0_0 hr0_1 hc0_1 ⟨cf, ci, d3⟩ h
    by_cases d4 : (rd_T56 l0_1 a1).f0 = 4
    · exact vetchref18_Node.calls_s4 k ih A0_0 c0_0 l0_0 A0_1 c0_1 l0_1 a1 a2 a3 a4 r1 r2 r3 w hr0_0 hc0_0 hr0_1 hc0_1 ⟨cf, ci, d4⟩ h
    by_cases d7 : (rd_T56 l0_1 a1).f0 = 7
    · exact vetchref18_Node.calls_s7 k ih A0_0 c0_0 l0_0 A0_1 c0_1 l0_1 a1 a2 a3 a4 r1 r2 r3 w hr0_0 hc0_0 hr0_1 hc0_1 ⟨cf, ci, d7⟩ h
    by_cases d8 : (rd_T56 l0_1 a1).f0 = 8
    · exact vetchref18_Node.calls_s8 k ih A0_0 c0_0 l0_0 A0_1 c0_1 l0_1 a1 a2 a3 a4 r1 r2 r3 w hr0_0 hc0_0 hr0_1 hc0_1 ⟨cf, ci, d8⟩ h
    by_cases d9 : (rd_T56 l0_1 a1).f0 = 9
    · exact vetchref18_Node.calls_s9 k ih A0_0 c0_0 l0_0 A0_1 c0_1 l0_1 a1 a2 a3 a4 r1 r2 r3 w hr0_0 hc0_0 hr0_1 hc0_1 ⟨cf, ci, d9⟩ h
    exact vetchref18_Node.calls_s5 k ih A0_0 c0_0 l0_0 A0_1 c0_1 l0_1 a1 a2 a3 a4 r1 r2 r3 w hr0_0 hc0_0 hr0_1 hc0_1 ⟨cf, ci, d0, d1, d2, d3, d4, d7, d8, d9⟩ h
  · rw [vetchref18_Node.f, if_neg cf, if_neg ci] at h
    exact absurd h (by simp)
end Go.Proofs.Ythgedejnpgcacaa.V
namespace Go.Proofs.Ythgedejnpgcacaa.V
open Go.RowKit Go.Proofs.YthgedejnpgcacaaW.PrintWords
set_option linter.unusedVariables false
def Ev {α : Type} (f : Nat → Option α) (v : α) : Prop := ∃ k, ∀ j, k ≤ j → f j = some v
section
variable {α β : Type}
theorem Ev.const (v : α) : Ev (fun _ => some v) v := ⟨0, fun _ _ => rfl⟩
theorem Ev.congr {f g : Nat → Option α} {v : α} (h : ∀ k, f k = g k) (hg : Ev g v) : Ev f v := by
  obtain ⟨k, hk⟩ := hg
  exact ⟨k, fun j hj => (h j).trans (hk j hj)⟩
theorem Ev.of_eq {f : Nat → Option α} {v : α} (h : ∀ k, f k = some v) : Ev f v := ⟨0, fun j _ => h j⟩
theorem Ev.succ {f g : Nat → Option α} {v : α} (h : ∀ k, f (k + 1) = g k) (hg : Ev g v) : Ev f v := by
  obtain ⟨k, hk⟩ := hg
  refine ⟨k + 1, fun j hj => ?_⟩
  cases j with
  | zero => omega
  | succ j => exact (h j).trans (hk j (by omega))
theorem Ev.bind {f : Nat → Option α} {g : Nat → α → Option β} {v : α} {u : β} (hf : Ev f v) (hg : Ev (fun k => g k v) u) : Ev (fun k => (f k).bind (g k)) u := by
  obtain ⟨k, hk⟩ := hf
  obtain ⟨m, hm⟩ := hg
  refine ⟨k + m, fun j hj => ?_⟩
  simp only [hk j (by omega), Option.bind_some]
  exact hm j (by omega)
theorem Ev.map {f : Nat → Option α} {g : α → Option β} {v : α} {u : β} (hf : Ev f v) (hg : g v = some u) : Ev (fun k => (f k).bind g) u := Ev.bind (g := fun _ => g) hf (Ev.of_eq fun _ => hg)
theorem Ev.shift {f : Nat → Option α} {v : α} (b : Nat) (h : Ev f v) : Ev (fun k => f (k + b)) v := by
  obtain ⟨k, hk⟩ := h
  exact ⟨k, fun j hj => hk (j + b) (by omega)⟩
theorem Ev.uniq {f : Nat → Option α} {v u : α} (h : Ev f v) (h' : Ev f u) : v = u := by
  obtain ⟨k, hk⟩ := h
  obtain ⟨m, hm⟩ := h'
  exact Option.some.inj ((hk (k + m) (by omega)).symm.trans (hm (k + m) (by omega)))
theorem Ev.out {f : Nat → Option α} {v : α} (h : Ev f v) : ∃ k, f k = some v := ⟨h.choose, h.choose_spec _ (Nat.le_refl _)⟩
theorem Ev.of_mono {f : Nat → Option α} {v : α} {k : Nat} (hm : ∀ k, LeO (f k) (f (k + 1))) (h : f k = some v) : Ev f v := by
  refine ⟨k, fun j hj => ?_⟩
  induction j with
  | zero => obtain rfl : k = 0 := by omega
            exact h
  | succ j ih =>
    rcases Nat.lt_or_ge j k with hlt | hge
    · obtain rfl : k = j + 1 := by omega
      exact h
    · exact hm j v (ih hge)
end
theorem w64p (n : Int) (h : -9223372036854775808 ≤ n ∧ n ≤ 9223372036854775807) : wrap64 n = n := by unfold wrap64; omega
end Go.Proofs.Ythgedejnpgcacaa.V
namespace Go.Proofs.Ythgedejnpgcacaa.Opens
open Go.RowKit Go.Proofs.YthgedejnpgcacaaW.PrintWords
set_option linter.unusedVariables false
def Opn {α : Type} (P : Program) (W : World) (d : Kd α) (t : TypeId) (ok : α → Prop) : Prop :=
  ∀ (H : Type) (enc : TypeId × Value → H) (fuel : Nat) (cs : List Value) (x : DataW H × List MemPlace), DataW.trod enc P W 0 (fun _ => true) true fuel t cs = some x → ∃ a, d.K W a cs ∧ ok a
section
variable {P : Program} {W : World} {t : TypeId}
theorem Opn.int {k : IntKind} (ht : P.underlying t = some (.int k)) : Opn P W (Kd.int k) t (fun n => (Lit.int k n).wf = true) := fun H enc fuel cs x h => by
  obtain ⟨n, rfl, _, hw⟩ := DataW.trod_int ht h
  exact ⟨n, rfl, hw⟩
theorem Opn.bool (ht : P.underlying t = some .bool) : Opn P W Kd.bool t (fun _ => True) := fun H enc fuel cs x h => by
  obtain ⟨n, rfl, _⟩ := DataW.trod_bool ht h
  exact ⟨n, rfl, trivial⟩
theorem Opn.string (ht : P.underlying t = some .string) : Opn P W Kd.string t (fun s => s.size ≤ maxLen) := fun H enc fuel cs x h => by
  obtain ⟨n, rfl, _, hw⟩ := DataW.trod_string ht h
  exact ⟨n, rfl, hw⟩
theorem Opn.iso {α β : Type} {d : Kd α} {ok : α → Prop} (f : β → α) (g : α → β) (hfg : ∀ a, f (g a) = a) (h : Opn P W d t ok) : Opn P W (Kd.iso d f) t (fun b => ok (f b)) := fun H enc fuel cs x hx => by
  obtain ⟨a, hk, ho⟩ := h H enc fuel cs x hx
  exact ⟨g a, show d.K W (f (g a)) cs by rw [hfg]; exact hk, show ok (f (g a)) by rw [hfg]; exact ho⟩
theorem Opn.imp {α : Type} {d : Kd α} {ok ok' : α → Prop} (h : Opn P W d t ok) (hi : ∀ a, ok a → ok' a) : Opn P W d t ok' := fun H enc fuel cs x hx => by
  obtain ⟨a, hk, ho⟩ := h H enc fuel cs x hx
  exact ⟨a, hk, hi a ho⟩
theorem lists_of {α : Type} (n : Nat) (R : Nat → α → Prop) (h : ∀ i, i < n → ∃ a, R i a) : ∃ l : List α, l.length = n ∧ ∀ i a, l[i]? = some a → R i a := by
  induction n with
  | zero => exact ⟨[], rfl, fun i a h => by simp at h⟩
  | succ n ih =>
    obtain ⟨l, hl, hr⟩ := ih (fun i hi => h i (by omega))
    obtain ⟨a, ha⟩ := h n (by omega)
    refine ⟨l ++ [a], by simp [hl], fun i b hb => ?_⟩
    by_cases hi : i < n
    · exact hr i b (by rwa [List.getElem?_append_left (by omega)] at hb)
    · have : i = n := by
        have := (List.getElem?_eq_some_iff.1 hb).1
        simp at this
        omega
      subst this
      rw [List.getElem?_append_right (by omega)] at hb
      simp [hl] at hb
      exact hb ▸ ha
theorem Opn.slice {α : Type} {e : TypeId} {d : Kd α} {ok : α → Prop} (e' : Nat) (ht : P.underlying t = some (.slice e)) (hc : P.cellsOf e = d.sz) (h : Opn P W d e ok) :
    Opn P W (Kd.slice e' d) t (fun l => l.length ≤ maxLen ∧ ∀ x ∈ l, ok x) := fun H enc fuel cs x hx => by
  rcases DataW.trod_slice ht hx with ⟨rfl, _⟩ | ⟨a, len, cap, elems, rest, n, _, rfl, _, _, hl, hm, hlen, hel, _, _⟩
  · exact ⟨[], ⟨none, 0, rfl, Nat.le_refl _, rfl, Nat.zero_le _, fun h => absurd h (by simp)⟩, Nat.zero_le _, fun x h => by simp at h⟩
  · have hm' : len ≤ maxLen := Nat.le_trans hl hm
    obtain ⟨l, hll, hlr⟩ := lists_of len (fun i b => ∃ cs', W.cells? 0 (a.add (i * P.cellsOf e)) (P.cellsOf e) = some cs' ∧ d.K W b cs' ∧ ok b) (fun i hi => by
      have h1 := hel i hi
      have h2 : i < elems.length := by omega
      rw [List.getElem?_eq_getElem h2, Option.bind_eq_some_iff] at h1
      obtain ⟨cs', h3, h4⟩ := h1
      obtain ⟨b, h5, h6⟩ := h H enc n cs' _ h4
      exact ⟨b, cs', h3, h5, h6⟩)
    subst hll
    refine ⟨l, ⟨some a, cap, rfl, hl, rfl, hm', fun _ => ⟨a, rfl, fun j p hp => ?_⟩⟩, hm', fun y hy => ?_⟩
    · obtain ⟨cs', h1, h2, _⟩ := hlr j p hp
      obtain ⟨_, hlen', hget⟩ := World.cells?_some h1
      rw [hc] at hlen' hget
      exact ⟨cs', hlen', h2, fun i u hu => by
        have := hget i (by have := (List.getElem?_eq_some_iff.1 hu).1; omega)
        rw [← hu, ← this]
        congr 1
        exact (Addr.add_add _ _ _).symm⟩
    · obtain ⟨i, hi⟩ := List.getElem?_of_mem hy
      exact (hlr i y hi).choose_spec.2.2
def Pieces {H : Type} (enc : TypeId × Value → H) (P : Program) (W : World) (n : Nat) : List TypeId → List Value → Prop
  | [], cs => cs = []
  | t :: ts, cs => ∃ c1 c2 x, cs = c1 ++ c2 ∧ DataW.trod enc P W 0 (fun _ => true) true n t c1 = some x ∧ Pieces enc P W n ts c2
def OpnS {α : Type} (P : Program) (W : World) (d : Kd α) (ts : List TypeId) (ok : α → Prop) : Prop :=
  ∀ (H : Type) (enc : TypeId × Value → H) (n : Nat) (cs : List Value), Pieces enc P W n ts cs → ∃ a, d.K W a cs ∧ ok a
theorem OpnS.one {α : Type} {d : Kd α} {ok : α → Prop} (h : Opn P W d t ok) : OpnS P W d [t] ok := fun H enc n cs hp => by
  obtain ⟨c1, c2, x, rfl, hx, rfl⟩ := hp
  rw [List.append_nil]
  exact h H enc n c1 x hx
theorem OpnS.cons {α β : Type} {d : Kd α} {e : Kd β} {ok : α → Prop} {ok' : β → Prop} {ts : List TypeId} (h : Opn P W d t ok) (hs : OpnS P W e ts ok') : OpnS P W (Kd.pair d e) (t :: ts) (fun x => ok x.1 ∧ ok' x.2) := fun H enc n cs hp => by
  obtain ⟨c1, c2, x, rfl, hx, hp⟩ := hp
  obtain ⟨a, ha, hoa⟩ := h H enc n c1 x hx
  obtain ⟨b, hb, hob⟩ := hs H enc n c2 hp
  exact ⟨(a, b), ⟨c1, c2, rfl, ha, hb⟩, hoa, hob⟩
def offsB (P : Program) (total : Nat) : Nat → List Field → Bool
  | o, [] => o == total
  | o, f :: r => f.offset == o && offsB P total (o + P.cellsOf f.type) r
theorem pieces_of {H : Type} {enc : TypeId × Value → H} {n total : Nat} {cs : List Value} (hl : cs.length = total) :
    ∀ (fs : List Field) (o : Nat), offsB P total o fs = true → (∀ f ∈ fs, ∃ x, DataW.trod enc P W 0 (fun _ => true) true n f.type ((cs.drop f.offset).take (P.cellsOf f.type)) = some x) → Pieces enc P W n (fs.map (·.type)) (cs.drop o)
  | [], o, ho, _ => by
    simp [offsB] at ho
    simp [Pieces, ho, hl]
  | f :: r, o, ho, hf => by
    simp [offsB] at ho
    obtain ⟨x, hx⟩ := hf f (by simp)
    refine ⟨(cs.drop o).take (P.cellsOf f.type), cs.drop (o + P.cellsOf f.type), x, ?_, by rw [← ho.1]; exact hx, pieces_of hl r _ ho.2 (fun g hg => hf g (List.mem_cons_of_mem _ hg))⟩
    rw [← List.drop_drop, List.take_append_drop]
theorem Opn.struct {α : Type} {d : Kd α} {ok : α → Prop} {fs : Array Field} {ts : List TypeId} (ht : P.underlying t = some (.struct fs)) (hts : fs.toList.map (·.type) = ts) (ho : offsB P (P.cellsOf t) 0 fs.toList = true) (h : OpnS P W d ts ok) : Opn P W d t ok := fun H enc fuel cs x hx => by
  obtain ⟨xs, n, _, _, hl, hxs, hf⟩ := DataW.trod_struct ht hx
  refine h H enc n cs (hts ▸ ?_)
  have := pieces_of (enc := enc) (W := W) (n := n) hl fs.toList 0 ho (fun f hm => by
    obtain ⟨i, hi⟩ := List.getElem?_of_mem hm
    have hi' : fs[i]? = some f := by simpa using hi
    have h1 := hf i f hi'
    have h2 : i < xs.length := by rw [hxs]; exact (Array.getElem?_eq_some_iff.1 hi').1
    exact ⟨xs[i], by rw [h1]; simp⟩)
  simpa using this
theorem pieces_same {H : Type} {enc : TypeId × Value → H} {n k s : Nat} {e : TypeId} {cs : List Value} (hs : P.cellsOf e = s) (hl : cs.length = k * s) :
    ∀ (m i : Nat), i + m = k → (∀ j, j < k → ∃ x, DataW.trod enc P W 0 (fun _ => true) true n e ((cs.drop (j * s)).take s) = some x) → Pieces enc P W n (List.replicate m e) (cs.drop (i * s))
  | 0, i, hi, _ => by
    have : i = k := by omega
    subst this
    simp [Pieces, hl]
  | m + 1, i, hi, hf => by
    obtain ⟨x, hx⟩ := hf i (by omega)
    refine ⟨(cs.drop (i * s)).take s, cs.drop ((i + 1) * s), x, ?_, hx, pieces_same hs hl m (i + 1) (by omega) hf⟩
    rw [Nat.succ_mul, ← List.drop_drop, List.take_append_drop]
theorem Opn.array {α : Type} {d : Kd α} {ok : α → Prop} {n : Nat} {e : TypeId} (ht : P.underlying t = some (.array n e)) (hc : P.cellsOf t = n * P.cellsOf e) (h : OpnS P W d (List.replicate n e) ok) : Opn P W d t ok := fun H enc fuel cs x hx => by
  obtain ⟨xs, m, _, _, hl, hxs, hf⟩ := DataW.trod_array ht hx
  refine h H enc m cs ?_
  have := pieces_same (enc := enc) (W := W) (n := m) (k := n) (e := e) rfl (hl.trans hc) n 0 (by omega) (fun j hj => by
    have h2 : j < xs.length := by omega
    exact ⟨xs[j], by rw [hf j hj]; simp⟩)
  simpa using this
theorem Opn.arg {α : Type} {d : Kd α} {ok : α → Prop} {H : Type} {enc : TypeId × Value → H} {v : Value} {x : DataW H} {ps : List MemPlace} (h : Opn P W d t ok) (hd : DataW.Trod enc P W 0 (fun _ => true) true t v x ps) : ∃ a, d.K W a v.cells.toList ∧ ok a := by
  obtain ⟨fuel, hf⟩ := hd
  exact h H enc fuel _ _ hf
theorem trod_lts {H : Type} {enc : TypeId × Value → H} {v : Value} {x : DataW H} {ps : List MemPlace} (hd : DataW.Trod enc P W 0 (fun _ => true) true t v x ps) : ∀ q ∈ ps, q.block < W.heap.size := by
  obtain ⟨m, hm⟩ := hd
  exact DataW.trod_lt m _ _ _ hm
end
end Go.Proofs.Ythgedejnpgcacaa.Opens
namespace Go.Proofs.Ythgedejnpgcacaa.V
open Go.RowKit Go.Proofs.Ythgedejnpgcacaa.Opens Go.Proofs.YthgedejnpgcacaaW.PrintWords
set_option linter.unusedVariables false
def Ok54 (x : S54) : Prop := (Lit.int .u64 x.f0).wf = true ∧ (Lit.int .u64 x.f1).wf = true ∧ (Lit.int .u64 x.f2).wf = true ∧ (Lit.int .u64 x.f3).wf = true
theorem opn54 (W : World) : Opn Try.prog W k54 54 Ok54 := (Opn.iso (fun x : S54 => (x.f0, x.f1, x.f2, x.f3)) (fun a => ⟨a.1, a.2.1, a.2.2.1, a.2.2.2⟩) (fun _ => rfl) (Opn.array Try.underlying54 (by kernel_rfl) (OpnS.cons (Opn.int Try.underlying52) (OpnS.cons (Opn.int Try.underlying52) (OpnS.cons (Opn.int Try.underlying52) (OpnS.one (Opn.int Try.underlying52))))))).imp (fun _ h => h)
def Ok56 (x : S56) : Prop := (Lit.int .i64 x.f0).wf = true ∧ (x.f1.length ≤ maxLen ∧ ∀ y ∈ x.f1, (Lit.int .i64 y).wf = true) ∧ (Lit.int .i64 x.f2).wf = true ∧ Ok54 x.f3
theorem opn56 (W : World) : Opn Try.prog W k56 56 Ok56 := (Opn.iso (fun x : S56 => (x.f0, x.f1, x.f2, x.f3)) (fun a => ⟨a.1, a.2.1, a.2.2.1, a.2.2.2⟩) (fun _ => rfl) (Opn.struct Try.underlying56 rfl (by kernel_rfl) (OpnS.cons (Opn.int Try.underlying3) (OpnS.cons (Opn.slice 3 Try.underlying41 (by kernel_rfl) (Opn.int Try.underlying3)) (OpnS.cons (Opn.int Try.underlying3) (OpnS.one (opn54 W))))))).imp (fun _ h => h)
def Ok51 (x : S51) : Prop := x.f0.size ≤ maxLen ∧ (Lit.int .i64 x.f1).wf = true
theorem opn51 (W : World) : Opn Try.prog W k51 51 Ok51 := (Opn.iso (fun x : S51 => (x.f0, x.f1)) (fun a => ⟨a.1, a.2⟩) (fun _ => rfl) (Opn.struct Try.underlying51 rfl (by kernel_rfl) (OpnS.cons (Opn.string Try.underlying9) (OpnS.one (Opn.int Try.underlying3))))).imp (fun _ h => h)
theorem opn25 (W : World) : Opn Try.prog W (Kd.pair (Kd.slice 51 k51) (Kd.slice 56 k56)) 25 (fun x => ((x.1.length ≤ maxLen ∧ ∀ y ∈ x.1, Ok51 y) ∧ (x.2.length ≤ maxLen ∧ ∀ y ∈ x.2, Ok56 y))) := (Opn.struct Try.underlying25 rfl (by kernel_rfl) (OpnS.cons (Opn.slice 51 Try.underlying22 (by kernel_rfl) (opn51 W)) (OpnS.one (Opn.slice 56 Try.underlying23 (by kernel_rfl) (opn56 W))))).imp (fun _ h => h)
end Go.Proofs.Ythgedejnpgcacaa.V
namespace Go.Proofs.Ythgedejnpgcacaa.V
open Go.RowKit Go.Proofs.YthgedejnpgcacaaW.PrintWords
set_option linter.unusedVariables false
set_option linter.unusedSimpArgs false
abbrev RuleT := S51
abbrev NodeT := S56
abbrev nodeAt (G : List NodeT) (i : Int) : NodeT := rd_T56 G i
abbrev ruleAt (R : List RuleT) (i : Int) : RuleT := rd_T51 R i
def Made (n : Int) (x : NodeT) : Prop :=
  0 ≤ x.f0 ∧ x.f0 ≤ 9 ∧ (x.f0 ≤ 2 → x.f1 = []) ∧ (x.f0 = 3 → 2 ≤ x.f1.length) ∧ (x.f0 = 4 → 2 ≤ x.f1.length) ∧ (5 ≤ x.f0 → x.f1.length = 1) ∧ (x.f0 = 2 → 0 ≤ x.f2 ∧ x.f2 < n) ∧ (x.f0 ≠ 2 → x.f2 = 0) ∧ (x.f0 ≠ 1 → x.f3.f0 = 0 ∧ x.f3.f1 = 0 ∧ x.f3.f2 = 0 ∧ x.f3.f3 = 0)
def KidsOk (G : List NodeT) (i : Int) : Prop := ∀ c ∈ (nodeAt G i).f1, 0 ≤ c ∧ c < i
structure WF (R : List RuleT) (G : List NodeT) : Prop where
  rules : 0 < R.length ∧ R.length ≤ 1000
  nodes : 0 < G.length ∧ G.length ≤ 10000
  made : ∀ i : Int, 0 ≤ i → i < (G.length : Int) → Made R.length (nodeAt G i)
  kids : ∀ i : Int, 0 ≤ i → i < (G.length : Int) → KidsOk G i
  roots : ∀ r : Int, 0 ≤ r → r < (R.length : Int) → 0 ≤ (ruleAt R r).f1 ∧ (ruleAt R r).f1 < (G.length : Int)
theorem letter_ev (c : Int) (b : Bool) : ∃ v, ∀ k : Nat, vetchref04_Letter.f c b = some v := by
  unfold vetchref04_Letter.f
  repeat' split
  all_goals exact ⟨_, fun _ => rfl⟩
theorem name_l0 (x : ByteArray) (hx : x.size ≤ maxLen) : ∀ (n : Nat) (i : Int), 0 ≤ i → i.toNat + n = x.size → ∃ v, Ev (fun k => vetchref04_Name.l0 k x i) v := by
  intro n
  induction n with
  | zero =>
    intro i h0 hn
    exact ⟨_, Ev.succ (g := fun _ => some _) (fun k => by rw [vetchref04_Name.l0, if_neg (by omega)]) (Ev.const _)⟩
  | succ n ih =>
    intro i h0 hn
    have hm : x.size ≤ 9223372036854775807 := hx
    obtain ⟨b, hb⟩ := letter_ev (bt x i) (i == 0)
    cases b with
    | true =>
      obtain ⟨v, hv⟩ := ih (wrap64 (i + 1)) (by rw [w64p _ (by omega)]; omega) (by rw [w64p _ (by omega)]; omega)
      exact ⟨v, Ev.succ (fun k => by rw [vetchref04_Name.l0, if_pos (by omega), if_pos h0, hb k, Option.bind_some, if_pos rfl]) hv⟩
    | false => exact ⟨false, Ev.succ (g := fun _ => some false) (fun k => by rw [vetchref04_Name.l0, if_pos (by omega), if_pos h0, hb k, Option.bind_some, if_neg (by decide)]) (Ev.const _)⟩
theorem name_ev (x : ByteArray) (hx : x.size ≤ maxLen) : ∃ v, Ev (fun k => vetchref04_Name.f k x) v := by
  obtain ⟨v, hv⟩ := name_l0 x hx x.size 0 (by omega) (by simp)
  exact ⟨v, hv⟩
theorem made_ev (n : Int) (x : NodeT) : ∃ v, Ev (fun k => vetchref05_Made.f k x.f0 x.f1 x.f2 x.f3.f0 x.f3.f1 x.f3.f2 x.f3.f3 n) v ∧ (v = true → Made n x) := by
  obtain ⟨op, kids, rule, s0, s1, s2, s3⟩ := x
  have hj1 : ∀ b : Bool, ∃ v, (∀ k, vetchref05_Made.j1 (k + 1) n b op kids rule s0 s1 s2 s3 = some v) ∧ (v = true → b = false ∧ (op = 2 → 0 ≤ rule ∧ rule < n) ∧ (op ≠ 2 → rule = 0) ∧ (op ≠ 1 → s0 = 0 ∧ s1 = 0 ∧ s2 = 0 ∧ s3 = 0)) := by
    intro b
    simp only [vetchref05_Made.j1]
    repeat' split
    all_goals refine ⟨_, fun _ => rfl, ?_⟩
    all_goals simp_all
    all_goals omega
  have hj0 : ∀ b : Bool, ∃ v, (∀ k, vetchref05_Made.j0 (k + 2) n b op kids rule s0 s1 s2 s3 = some v) ∧ (v = true → b = false ∧ (op ≤ 2 → kids.length = 0) ∧ (op = 3 → 2 ≤ kids.length) ∧ (op = 4 → 2 ≤ kids.length) ∧ (5 ≤ op → kids.length = 1) ∧ (op = 2 → 0 ≤ rule ∧ rule < n) ∧ (op ≠ 2 → rule = 0) ∧ (op ≠ 1 → s0 = 0 ∧ s1 = 0 ∧ s2 = 0 ∧ s3 = 0)) := by
    intro b
    simp only [vetchref05_Made.j0]
    repeat' split
    all_goals first
      | exact ⟨_, fun _ => rfl, fun h => absurd h (by decide)⟩
      | (obtain ⟨v, h1, h2⟩ := hj1 true; exact ⟨v, h1, fun h => absurd (h2 h).1 (by decide)⟩)
      | (obtain ⟨v, h1, h2⟩ := hj1 false; refine ⟨v, h1, fun h => ?_⟩; obtain ⟨_, h3, h4, h5⟩ := h2 h; refine ⟨by simp_all, by omega, by omega, by omega, by omega, h3, h4, h5⟩)
      | (obtain ⟨v, h1, h2⟩ := hj1 ((kids.length : Int) != 1); refine ⟨v, h1, fun h => ?_⟩; obtain ⟨h6, h3, h4, h5⟩ := h2 h; have h7 : (kids.length : Int) = 1 := by simpa using h6
         refine ⟨by simp_all, by omega, by omega, by omega, by omega, h3, h4, h5⟩)
  have hf : ∃ v, (∀ k, vetchref05_Made.f (k + 2) op kids rule s0 s1 s2 s3 n = some v) ∧ (v = true → 0 ≤ op ∧ op ≤ 9 ∧ (op ≤ 2 → kids.length = 0) ∧ (op = 3 → 2 ≤ kids.length) ∧ (op = 4 → 2 ≤ kids.length) ∧ (5 ≤ op → kids.length = 1) ∧ (op = 2 → 0 ≤ rule ∧ rule < n) ∧ (op ≠ 2 → rule = 0) ∧ (op ≠ 1 → s0 = 0 ∧ s1 = 0 ∧ s2 = 0 ∧ s3 = 0)) := by
    unfold vetchref05_Made.f
    split
    · obtain ⟨v, h1, h2⟩ := hj0 true
      exact ⟨v, h1, fun h => absurd (h2 h).1 (by decide)⟩
    · rename_i h0
      obtain ⟨v, h1, h2⟩ := hj0 (decide (op > 9))
      refine ⟨v, h1, fun h => ?_⟩
      obtain ⟨h3, h4⟩ := h2 h
      have h5 : ¬ op > 9 := by simpa using h3
      exact ⟨by omega, by omega, h4⟩
  obtain ⟨v, h1, h2⟩ := hf
  refine ⟨v, ⟨2, fun j hj => ?_⟩, fun h => ?_⟩
  · obtain ⟨k, rfl⟩ : ∃ k, j = k + 2 := ⟨j - 2, by omega⟩
    exact h1 k
  · obtain ⟨a, b, c, d⟩ := h2 h
    exact ⟨a, b, fun h => List.length_eq_zero_iff.1 (c h), d⟩
theorem expr_ev (R : List RuleT) (G : List NodeT) (hG : G.length ≤ maxLen) (hk : ∀ i : Int, 0 ≤ i → i < (G.length : Int) → (nodeAt G i).f1.length ≤ maxLen) :
    ∀ (n : Nat) (i : Int), i < (G.length : Int) → i < (n : Int) → ∃ v, Ev (fun k => vetchref05_Expression.f k R G i) v ∧ (v = -2 ∨ (-1 ≤ v ∧ v < i ∧ ∀ j, v < j → j ≤ i → KidsOk G j)) := by
  have hG' : G.length ≤ 9223372036854775807 := hG
  have neg : ∀ i : Int, i < 0 → ∃ v, Ev (fun k => vetchref05_Expression.f k R G i) v ∧ (v = -2 ∨ (-1 ≤ v ∧ v < i ∧ ∀ j, v < j → j ≤ i → KidsOk G j)) := fun i hi =>
    ⟨-2, Ev.succ (g := fun _ => some (-2)) (fun k => by rw [vetchref05_Expression.f, if_pos hi]) (Ev.const _), .inl rfl⟩
  intro n
  induction n with
  | zero => exact fun i _ hi => neg i (by omega)
  | succ n ih =>
    intro i hl hi
    by_cases h0 : i < 0
    · exact neg i h0
    have hkl : (nodeAt G i).f1.length ≤ 9223372036854775807 := hk i (by omega) hl
    have loop : ∀ (m : Nat) (a : Int), m ≤ (nodeAt G i).f1.length → -1 ≤ a → a < i → (∀ j, a < j → j < i → KidsOk G j) → (∀ p : Nat, m ≤ p → p < (nodeAt G i).f1.length → a < rd (nodeAt G i).f1 p ∧ rd (nodeAt G i).f1 p < i) →
        ∃ v, Ev (fun k => vetchref05_Expression.l0 k i a ((m : Int) - 1) R G) v ∧ (v = -2 ∨ (-1 ≤ v ∧ v < i ∧ (∀ j, v < j → j < i → KidsOk G j) ∧ ∀ p : Nat, p < (nodeAt G i).f1.length → v < rd (nodeAt G i).f1 p ∧ rd (nodeAt G i).f1 p < i)) := by
      intro m
      induction m with
      | zero =>
        intro a hm ha1 ha2 hn hp
        exact ⟨a, Ev.succ (g := fun _ => some a) (fun k => by rw [vetchref05_Expression.l0, if_neg (by omega)]) (Ev.const _), .inr ⟨ha1, ha2, hn, fun p hp' => hp p (by omega) hp'⟩⟩
      | succ m ihm =>
        intro a hm ha1 ha2 hn hp
        by_cases hkid : rd (nodeAt G i).f1 ((m : Int) + 1 - 1) = a
        · obtain ⟨v, hv, hs⟩ := ih a (by omega) (by omega)
          have step : ∀ k, vetchref05_Expression.l0 (k + 1) i a (((m + 1 : Nat) : Int) - 1) R G = (vetchref05_Expression.f k R G a).bind fun t => if t = (-2) then some (-2) else vetchref05_Expression.l0 k i t (wrap64 (((m + 1 : Nat) : Int) - 1 - 1)) R G := fun k => by
            rw [vetchref05_Expression.l0, if_pos (by omega), if_pos (by omega), if_pos hl, if_pos (by omega), if_pos (by show _ < ((nodeAt G i).f1.length : Int); omega), if_pos (by push_cast; exact hkid)]
          rcases hs with rfl | ⟨h1, h2, h3⟩
          · exact ⟨-2, Ev.succ step (Ev.bind hv (Ev.of_eq fun _ => if_pos rfl)), .inl rfl⟩
          · obtain ⟨u, hu, hus⟩ := ihm v (by omega) h1 (by omega) (fun j hj1 hj2 => by
                by_cases hja : j ≤ a
                · exact h3 j hj1 hja
                · exact hn j (by omega) hj2) (fun p hp1 hp2 => by
                by_cases hpm : p = m
                · subst hpm
                  rw [show ((p : Nat) : Int) = (p : Int) + 1 - 1 by omega, hkid]
                  omega
                · have := hp p (by omega) hp2
                  omega)
            refine ⟨u, Ev.succ step (Ev.bind hv (Ev.congr (fun k => if_neg (by omega)) ?_)), hus⟩
            rw [w64p _ (by omega), show ((m + 1 : Nat) : Int) - 1 - 1 = (m : Int) - 1 by omega]
            exact hu
        · refine ⟨-2, Ev.succ (g := fun _ => some (-2)) (fun k => by
            rw [vetchref05_Expression.l0, if_pos (by omega), if_pos (by omega), if_pos hl, if_pos (by omega), if_pos (by show _ < ((nodeAt G i).f1.length : Int); omega), if_neg (by push_cast; exact hkid)]) (Ev.const _), .inl rfl⟩
    obtain ⟨v, hv, hs⟩ := loop (nodeAt G i).f1.length (i - 1) (Nat.le_refl _) (by omega) (by omega) (fun j h1 h2 => absurd h2 (by omega)) (fun p h1 h2 => absurd h2 (by omega))
    refine ⟨v, Ev.succ (fun k => by rw [vetchref05_Expression.f, if_neg h0, if_pos (by omega), if_pos hl, w64p _ (by omega), w64p _ (by show _ ≤ ((nodeAt G i).f1.length : Int) - 1 ∧ ((nodeAt G i).f1.length : Int) - 1 ≤ _; omega)]) hv, ?_⟩
    rcases hs with rfl | ⟨h1, h2, h3, h4⟩
    · exact .inl rfl
    · refine .inr ⟨h1, h2, fun j hj1 hj2 => ?_⟩
      by_cases hji : j = i
      · subst hji
        intro c hc
        obtain ⟨p, hp, rfl⟩ := List.getElem_of_mem hc
        have := h4 p hp
        have e : rd (nodeAt G j).f1 p = (nodeAt G j).f1[p] := by
          unfold rd
          rw [List.getD_eq_getElem?_getD, show (p : Int).toNat = p by omega, List.getElem?_eq_getElem hp]
          rfl
        rw [e] at this
        omega
      · exact h3 j hj1 (by omega)
theorem ordered_ev (R : List RuleT) (G : List NodeT) (hR : R.length ≤ maxLen) (hG : G.length ≤ maxLen) (hk : ∀ i : Int, 0 ≤ i → i < (G.length : Int) → (nodeAt G i).f1.length ≤ maxLen) :
    ∃ v, Ev (fun k => vetchref05_Ordered.f k R G) v ∧ (v = true → (∀ i : Int, 0 ≤ i → i < (G.length : Int) → KidsOk G i) ∧ ∀ r : Int, 0 ≤ r → r < (R.length : Int) → 0 ≤ (ruleAt R r).f1 ∧ (ruleAt R r).f1 < (G.length : Int)) := by
  have hG' : G.length ≤ 9223372036854775807 := hG
  have hR' : R.length ≤ 9223372036854775807 := hR
  have loop : ∀ (n : Nat) (i b : Int), 0 ≤ i → i.toNat + n = R.length → -1 ≤ b → b < (G.length : Int) → (∀ j, 0 ≤ j → j ≤ b → KidsOk G j) → (∀ r, 0 ≤ r → r < i → 0 ≤ (ruleAt R r).f1 ∧ (ruleAt R r).f1 < (G.length : Int)) →
      ∃ v, Ev (fun k => vetchref05_Ordered.l0 k b i R G) v ∧ (v = true → (∀ i : Int, 0 ≤ i → i < (G.length : Int) → KidsOk G i) ∧ ∀ r : Int, 0 ≤ r → r < (R.length : Int) → 0 ≤ (ruleAt R r).f1 ∧ (ruleAt R r).f1 < (G.length : Int)) := by
    intro n
    induction n with
    | zero =>
      intro i b h0 hn hb1 hb2 hj hr
      refine ⟨b == wrap64 ((G.length : Int) - 1), Ev.succ (g := fun _ => some _) (fun k => by rw [vetchref05_Ordered.l0, if_neg (by omega)]) (Ev.const _), fun hv => ?_⟩
      have hb : b = (G.length : Int) - 1 := by
        have := beq_iff_eq.1 hv
        rwa [w64p _ (by omega)] at this
      exact ⟨fun j h1 h2 => hj j h1 (by omega), fun r h1 h2 => hr r h1 (by omega)⟩
    | succ n ih =>
      intro i b h0 hn hb1 hb2 hj hr
      by_cases c1 : (ruleAt R i).f1 ≤ b
      · exact ⟨false, Ev.succ (g := fun _ => some false) (fun k => by rw [vetchref05_Ordered.l0, if_pos (by omega), if_pos h0, if_pos c1]) (Ev.const _), fun h => absurd h (by decide)⟩
      by_cases c2 : (ruleAt R i).f1 ≥ (G.length : Int)
      · exact ⟨false, Ev.succ (g := fun _ => some false) (fun k => by rw [vetchref05_Ordered.l0, if_pos (by omega), if_pos h0, if_neg c1, if_pos c2]) (Ev.const _), fun h => absurd h (by decide)⟩
      obtain ⟨v, hv, hs⟩ := expr_ev R G hG hk G.length (ruleAt R i).f1 (by omega) (by omega)
      have step : ∀ k, vetchref05_Ordered.l0 (k + 1) b i R G = (vetchref05_Expression.f k R G (ruleAt R i).f1).bind fun t => if t = b then vetchref05_Ordered.l0 k (ruleAt R i).f1 (wrap64 (i + 1)) R G else some false := fun k => by
        rw [vetchref05_Ordered.l0, if_pos (by omega), if_pos h0, if_neg c1, if_neg c2]
      by_cases c3 : v = b
      · obtain ⟨u, hu, hus⟩ := ih (i + 1) (ruleAt R i).f1 (by omega) (by omega) (by omega) (by omega) (fun j h1 h2 => by
            by_cases hjb : j ≤ b
            · exact hj j h1 hjb
            · rcases hs with rfl | ⟨_, _, h5⟩
              · omega
              · exact h5 j (by omega) h2) (fun r h1 h2 => by
            by_cases hri : r = i
            · subst hri; omega
            · exact hr r h1 (by omega))
        refine ⟨u, Ev.succ step (Ev.bind hv (Ev.congr (fun k => if_pos c3) ?_)), hus⟩
        rw [w64p _ (by omega)]
        exact hu
      · exact ⟨false, Ev.succ step (Ev.bind hv (Ev.of_eq fun _ => if_neg c3)), fun h => absurd h (by decide)⟩
  obtain ⟨v, hv, hs⟩ := loop R.length 0 (-1) (by omega) (by simp) (by omega) (by omega) (fun j h1 h2 => absurd h2 (by omega)) (fun r h1 h2 => absurd h2 (by omega))
  exact ⟨v, hv, hs⟩
theorem depth_ev (R : List RuleT) (G : List NodeT) (hG : G.length ≤ maxLen) (hk : ∀ i : Int, 0 ≤ i → i < (G.length : Int) → (nodeAt G i).f1.length ≤ maxLen) (ho : ∀ i : Int, 0 ≤ i → i < (G.length : Int) → KidsOk G i) :
    ∀ (n : Nat) (i : Int), 0 ≤ i → i < (G.length : Int) → n ≤ 1000 → ∃ v, Ev (fun k => vetchref05_Depth.f k R G i (n : Int)) v := by
  intro n
  induction n with
  | zero =>
    intro i h0 h1 _
    refine ⟨wrap64 (0 + 1), Ev.succ (fun k => by rw [vetchref05_Depth.f]) (Ev.succ (g := fun _ => some _) (fun k => ?_) (Ev.const _))⟩
    rw [vetchref05_Depth.l0, if_pos h0, if_pos h1]
    split
    · rfl
    · rfl
  | succ n ih =>
    intro i h0 h1 hn
    have hkl : (nodeAt G i).f1.length ≤ 9223372036854775807 := hk i h0 h1
    have loop : ∀ (m : Nat) (j d : Int), 0 ≤ j → j.toNat + m = (nodeAt G i).f1.length → ∃ v, Ev (fun k => vetchref05_Depth.l0 k i ((n + 1 : Nat) : Int) d j R G) v := by
      intro m
      induction m with
      | zero =>
        intro j d hj hm
        exact ⟨wrap64 (d + 1), Ev.succ (g := fun _ => some _) (fun k => by rw [vetchref05_Depth.l0, if_pos h0, if_pos h1, if_neg (by show ¬ _ < ((nodeAt G i).f1.length : Int); omega)]) (Ev.const _)⟩
      | succ m ihm =>
        intro j d hj hm
        have hjl : j < ((nodeAt G i).f1.length : Int) := by omega
        have hmem : rd (nodeAt G i).f1 j ∈ (nodeAt G i).f1 := by
          have h : j.toNat < (nodeAt G i).f1.length := by omega
          unfold rd
          rw [List.getD_eq_getElem?_getD, List.getElem?_eq_getElem h]
          exact List.getElem_mem h
        have hc := ho i h0 h1 _ hmem
        obtain ⟨v, hv⟩ := ih (rd (nodeAt G i).f1 j) hc.1 (by omega) (by omega)
        obtain ⟨u, hu⟩ := ihm (j + 1) (mx d v) (by omega) (by omega)
        refine ⟨u, Ev.succ (g := fun k => (vetchref05_Depth.f k R G (rd (nodeAt G i).f1 j) (n : Int)).bind fun t => vetchref05_Depth.l0 k i ((n + 1 : Nat) : Int) (mx d t) (j + 1) R G) (fun k => ?_) (Ev.bind hv hu)⟩
        rw [vetchref05_Depth.l0, if_pos h0, if_pos h1, if_pos hjl, if_pos (by omega), if_pos hj, w64p (((n + 1 : Nat) : Int) - 1) (by omega), w64p (j + 1) (by omega), show ((n + 1 : Nat) : Int) - 1 = (n : Int) by omega]
    obtain ⟨v, hv⟩ := loop (nodeAt G i).f1.length 0 0 (by omega) (by simp)
    exact ⟨v, Ev.succ (fun k => by rw [vetchref05_Depth.f]) hv⟩
theorem check_ev (R : List RuleT) (G : List NodeT) (hR : R.length ≤ maxLen ∧ ∀ y ∈ R, Ok51 y) (hG : G.length ≤ maxLen ∧ ∀ y ∈ G, Ok56 y) :
    ∃ v, Ev (fun k => vetchref05_Check.f k R G) v ∧ (v.2.1 = 0 → WF R G) := by
  have hG' : G.length ≤ 9223372036854775807 := hG.1
  have hR' : R.length ≤ 9223372036854775807 := hR.1
  have memR : ∀ r : Int, 0 ≤ r → r < (R.length : Int) → ruleAt R r ∈ R := fun r h0 h1 => by
    have h : r.toNat < R.length := by omega
    show R.getD r.toNat _ ∈ R
    rw [List.getD_eq_getElem?_getD, List.getElem?_eq_getElem h]
    exact List.getElem_mem h
  have memG : ∀ r : Int, 0 ≤ r → r < (G.length : Int) → nodeAt G r ∈ G := fun r h0 h1 => by
    have h : r.toNat < G.length := by omega
    show G.getD r.toNat _ ∈ G
    rw [List.getD_eq_getElem?_getD, List.getElem?_eq_getElem h]
    exact List.getElem_mem h
  have hk : ∀ i : Int, 0 ≤ i → i < (G.length : Int) → (nodeAt G i).f1.length ≤ maxLen := fun i h0 h1 => (hG.2 _ (memG i h0 h1)).2.1.1
  have no : ∀ {f : Nat → Option (ByteArray × Int × Int)} {a : ByteArray} {c o : Int} {p : Prop}, c ≠ 0 → Ev f (a, c, o) → ∃ v, Ev f v ∧ (v.2.1 = 0 → p) := fun hc h => ⟨_, h, fun h' => absurd h' hc⟩
  have l3 : (∀ i : Int, 0 ≤ i → i < (G.length : Int) → KidsOk G i) → ∀ (n : Nat) (i : Int), 0 ≤ i → i.toNat + n = G.length → ∃ v, Ev (fun k => vetchref05_Check.l3 k i R G) v ∧ (v.2.1 = 0 → True) := by
    intro ho n
    induction n with
    | zero => exact fun i h0 hn => ⟨_, Ev.succ (g := fun _ => some _) (fun k => by rw [vetchref05_Check.l3, if_neg (by omega)]) (Ev.const _), fun _ => trivial⟩
    | succ n ih =>
      intro i h0 hn
      obtain ⟨d, hd⟩ := depth_ev R G hG.1 hk ho 205 i h0 (by omega) (by omega)
      have step : ∀ k, vetchref05_Check.l3 (k + 1) i R G = (vetchref05_Depth.f k R G i 205).bind fun t => if t > 200 then some ((⟨#[110, 111, 100, 101, 115]⟩ : ByteArray), 5, i) else vetchref05_Check.l3 k (wrap64 (i + 1)) R G := fun k => by rw [vetchref05_Check.l3, if_pos (by omega)]
      by_cases c : d > 200
      · exact ⟨_, Ev.succ step (Ev.bind hd (Ev.of_eq fun _ => if_pos c)), fun _ => trivial⟩
      · obtain ⟨v, hv, hs⟩ := ih (i + 1) (by omega) (by omega)
        refine ⟨v, Ev.succ step (Ev.bind hd (Ev.congr (fun k => if_neg c) ?_)), hs⟩
        rw [w64p _ (by omega)]
        exact hv
  have l2 : 0 < R.length → R.length ≤ 1000 → G.length ≤ 10000 → ∀ (n : Nat) (i : Int), 0 ≤ i → i.toNat + n = G.length → (∀ j : Int, 0 ≤ j → j < i → Made R.length (nodeAt G j)) → ∃ v, Ev (fun k => vetchref05_Check.l2 k i R G) v ∧ (v.2.1 = 0 → WF R G) := by
    intro hr1 hr2 hg n
    induction n with
    | zero =>
      intro i h0 hn hm
      obtain ⟨b, hb, hbs⟩ := ordered_ev R G hR.1 hG.1 hk
      have step : ∀ k, vetchref05_Check.l2 (k + 1) i R G = (vetchref05_Ordered.f k R G).bind fun t => if t = true then vetchref05_Check.l3 k 0 R G else some ((⟨#[]⟩ : ByteArray), 10, 0) := fun k => by rw [vetchref05_Check.l2, if_neg (by omega)]
      cases b with
      | false => exact no (by decide) (Ev.succ step (Ev.bind hb (Ev.of_eq fun _ => if_neg (by decide))))
      | true =>
        obtain ⟨hkids, hroots⟩ := hbs rfl
        obtain ⟨v, hv, _⟩ := l3 hkids G.length 0 (by omega) (by simp)
        refine ⟨v, Ev.succ step (Ev.bind hb (Ev.congr (fun k => if_pos rfl) hv)), fun _ => ⟨⟨hr1, hr2⟩, ⟨?_, hg⟩, fun j h1 h2 => hm j h1 (by omega), hkids, hroots⟩⟩
        have := hroots 0 (by omega) (by omega)
        omega
    | succ n ih =>
      intro i h0 hn hm
      obtain ⟨b, hb, hbs⟩ := made_ev R.length (nodeAt G i)
      have step : ∀ k, vetchref05_Check.l2 (k + 1) i R G = (vetchref05_Made.f k (nodeAt G i).f0 (nodeAt G i).f1 (nodeAt G i).f2 (nodeAt G i).f3.f0 (nodeAt G i).f3.f1 (nodeAt G i).f3.f2 (nodeAt G i).f3.f3 (R.length : Int)).bind fun t => if t = true then vetchref05_Check.l2 k (wrap64 (i + 1)) R G else some ((⟨#[110, 111, 100, 101, 115]⟩ : ByteArray), 10, i) := fun k => by rw [vetchref05_Check.l2, if_pos (by omega), if_pos h0]
      cases b with
      | false => exact no (by decide) (Ev.succ step (Ev.bind hb (Ev.of_eq fun _ => if_neg (by decide))))
      | true =>
        obtain ⟨v, hv, hs⟩ := ih (i + 1) (by omega) (by omega) (fun j h1 h2 => by
          by_cases hji : j = i
          · subst hji; exact hbs rfl
          · exact hm j h1 (by omega))
        refine ⟨v, Ev.succ step (Ev.bind hb (Ev.congr (fun k => if_pos rfl) ?_)), hs⟩
        rw [w64p _ (by omega)]
        exact hv
  have l0 : 0 < R.length → R.length ≤ 1000 → G.length ≤ 10000 → ∀ (n : Nat) (i : Int), 0 ≤ i → i.toNat + n = R.length → ∃ v, Ev (fun k => vetchref05_Check.l0 k i R G) v ∧ (v.2.1 = 0 → WF R G) := by
    intro hr1 hr2 hg n
    induction n with
    | zero =>
      intro i h0 hn
      obtain ⟨v, hv, hs⟩ := l2 hr1 hr2 hg G.length 0 (by omega) (by simp) (fun j h1 h2 => absurd h2 (by omega))
      exact ⟨v, Ev.succ (fun k => by rw [vetchref05_Check.l0, if_neg (by omega)]) hv, hs⟩
    | succ n ih =>
      intro i h0 hn
      have l1 : ∀ (m : Nat) (j : Int), 0 ≤ j → j ≤ i → j.toNat + m = i.toNat → ∃ v, Ev (fun k => vetchref05_Check.l1 k i j R G) v ∧ (v.2.1 = 0 → WF R G) := by
        intro m
        induction m with
        | zero =>
          intro j hj0 hj hm
          obtain ⟨v, hv, hs⟩ := ih (i + 1) (by omega) (by omega)
          refine ⟨v, Ev.succ (fun k => by rw [vetchref05_Check.l1, if_neg (by omega)]) ?_, hs⟩
          rw [w64p _ (by omega)]
          exact hv
        | succ m ihm =>
          intro j hj0 hj hm
          by_cases c : ((ruleAt R j).f0).toList = ((ruleAt R i).f0).toList
          · exact no (c := 10) (by decide) (Ev.succ (g := fun _ => some ((⟨#[114, 117, 108, 101, 115]⟩ : ByteArray), 10, i)) (fun k => by rw [vetchref05_Check.l1, if_pos (by omega), if_pos hj0, if_pos (by omega), if_pos h0, if_pos (by omega), if_pos c]) (Ev.const _))
          · obtain ⟨v, hv, hs⟩ := ihm (j + 1) (by omega) (by omega) (by omega)
            refine ⟨v, Ev.succ (fun k => by rw [vetchref05_Check.l1, if_pos (by omega), if_pos hj0, if_pos (by omega), if_pos h0, if_pos (by omega), if_neg c]) ?_, hs⟩
            rw [w64p _ (by omega)]
            exact hv
      obtain ⟨b, hb⟩ := name_ev (ruleAt R i).f0 (hR.2 _ (memR i h0 (by omega))).1
      have step : ∀ k, vetchref05_Check.l0 (k + 1) i R G = (vetchref04_Name.f k (ruleAt R i).f0).bind fun t => if t = true then vetchref05_Check.l1 k i 0 R G else some ((⟨#[114, 117, 108, 101, 115]⟩ : ByteArray), 10, i) := fun k => by rw [vetchref05_Check.l0, if_pos (by omega), if_pos h0]
      cases b with
      | false => exact no (by decide) (Ev.succ step (Ev.bind hb (Ev.of_eq fun _ => if_neg (by decide))))
      | true =>
        obtain ⟨v, hv, hs⟩ := l1 i.toNat 0 (by omega) h0 (by simp)
        exact ⟨v, Ev.succ step (Ev.bind hb (Ev.congr (fun k => if_pos rfl) hv)), hs⟩
  unfold vetchref05_Check.f
  by_cases c1 : (R.length : Int) > 1000
  · exact no (c := 4) (by decide) (Ev.congr (fun k => if_pos c1) (Ev.succ (g := fun _ => some ((⟨#[]⟩ : ByteArray), 4, 0)) (fun k => by rw [vetchref05_Check.j0, if_pos rfl]) (Ev.const _)))
  by_cases c2 : (G.length : Int) > 10000
  · exact no (c := 4) (by decide) (Ev.congr (fun k => if_neg c1) (Ev.succ (g := fun _ => some ((⟨#[]⟩ : ByteArray), 4, 0)) (fun k => by rw [vetchref05_Check.j0, if_pos (by simpa using c2)]) (Ev.const _)))
  by_cases c3 : (R.length : Int) = 0
  · exact no (c := 10) (by decide) (Ev.congr (fun k => if_neg c1) (Ev.succ (g := fun _ => some ((⟨#[114, 117, 108, 101, 115]⟩ : ByteArray), 10, 0)) (fun k => by rw [vetchref05_Check.j0, if_neg (by simpa using c2), if_pos c3]) (Ev.const _)))
  obtain ⟨v, hv, hs⟩ := l0 (by omega) (by omega) (by omega) R.length 0 (by omega) (by simp)
  exact ⟨v, Ev.congr (fun k => if_neg c1) (Ev.succ (fun k => by rw [vetchref05_Check.j0, if_neg (by simpa using c2), if_neg c3]) hv), hs⟩
theorem valid_ev (R : List RuleT) (G : List NodeT) (hR : R.length ≤ maxLen ∧ ∀ y ∈ R, Ok51 y) (hG : G.length ≤ maxLen ∧ ∀ y ∈ G, Ok56 y) :
    ∃ v, Ev (fun k => vetchref05_Valid.f k R G) v ∧ (v = true → WF R G) := by
  obtain ⟨v, hv, hs⟩ := check_ev R G hR hG
  exact ⟨v.2.1 == 0, Ev.bind hv (Ev.const _), fun h => hs (beq_iff_eq.1 h)⟩
end Go.Proofs.Ythgedejnpgcacaa.V
namespace Go.Proofs.Ythgedejnpgcacaa.V
open Go.RowKit Go.Proofs.YthgedejnpgcacaaW.PrintWords
set_option linter.unusedVariables false
theorem has_l0 : ∀ (n : Nat) (c v i : Int), 0 ≤ i → i.toNat + n = (c % 64).toNat → Ev (fun k => vetchref01_Has.l0 k c v i) (v / 2 ^ n % 2 == 1) := by
  intro n
  induction n with
  | zero =>
    intro c v i h0 hn
    exact Ev.succ (g := fun _ => some _) (fun k => by rw [vetchref01_Has.l0, if_neg (by omega), Int.pow_zero, Int.ediv_one]) (Ev.const _)
  | succ n ih =>
    intro c v i h0 hn
    have := ih c (v / 2) (i + 1) (by omega) (by omega)
    rw [Int.ediv_ediv_of_nonneg (by decide), show (2 : Int) * 2 ^ n = 2 ^ (n + 1) by rw [Int.pow_succ, Int.mul_comm]] at this
    exact Ev.succ (fun k => by rw [vetchref01_Has.l0, if_pos (by omega)]) this
theorem has_ev (s : S54) (hs : Ok54 s) (c : Int) (h0 : 0 ≤ c) (h1 : c ≤ 255) :
    ∃ b, byteset_Has.f s.f0 s.f1 s.f2 s.f3 c = some b ∧ Ev (fun k => vetchref01_Has.f k s.f0 s.f1 s.f2 s.f3 c) b := by
  obtain ⟨w0, w1, w2, w3⟩ := hs
  simp [Lit.wf, IntKind.min, IntKind.max, IntKind.signed, IntKind.bits] at w0 w1 w2 w3
  have hv : 0 ≤ arr4 s.f0 s.f1 s.f2 s.f3 (c / 64) ∧ arr4 s.f0 s.f1 s.f2 s.f3 (c / 64) ≤ 18446744073709551615 := by unfold arr4; repeat' split <;> omega
  generalize hvv : arr4 s.f0 s.f1 s.f2 s.f3 (c / 64) = v at hv
  have hl := has_l0 (c % 64).toNat c v 0 (by omega) (by omega)
  refine ⟨_, by unfold byteset_Has.f; rw [if_pos h0, if_pos h1, hvv], ?_⟩
  have e : (bits .and .u64 (v / 2 ^ (c % 64).toNat) 1 == 1) = (v / 2 ^ (c % 64).toNat % 2 == 1) := by
    have hp : (0 : Int) < 2 ^ (c % 64).toNat := Int.pow_pos (by decide)
    have h2 : 0 ≤ v / 2 ^ (c % 64).toNat := Int.ediv_nonneg hv.1 (by omega)
    have h3 : v / 2 ^ (c % 64).toNat ≤ v := Int.ediv_le_self _ hv.1
    generalize v / 2 ^ (c % 64).toNat = y at h2 h3
    obtain ⟨m, rfl⟩ := Int.eq_ofNat_of_zero_le h2
    have := bits_and_u64_nat m 1 (by omega) (by decide)
    rw [show ((1 : Nat) : Int) = 1 from rfl] at this
    rw [this, Nat.and_one_is_mod, Int.natCast_emod]
    rfl
  rw [e]
  exact Ev.congr (fun k => by unfold vetchref01_Has.f; rw [if_pos h0, if_pos h1, if_pos ⟨⟨w0.1, w0.2⟩, ⟨w1.1, w1.2⟩, ⟨w2.1, w2.2⟩, ⟨w3.1, w3.2⟩⟩, hvv]) hl
end Go.Proofs.Ythgedejnpgcacaa.V
namespace Go.Proofs.Ythgedejnpgcacaa.V
open Go.RowKit Go.Proofs.YthgedejnpgcacaaW.PrintWords
set_option linter.unusedVariables false
set_option linter.unusedSimpArgs false
set_option linter.unusedSectionVars false
structure Good (x : ByteArray) (a u : Int) (r : Bool × Int × Int) : Prop where
  known : r.1 = true → 0 ≤ r.2.2 ∧ r.2.2 ≤ u ∧ -1 ≤ r.2.1 ∧ r.2.1 ≤ (x.size : Int) ∧ (0 ≤ r.2.1 → a ≤ r.2.1)
  unk : r.1 = false → r.2.1 = 0 ∧ r.2.2 = 0
def Sim (x : ByteArray) (r : Bool × Int × Int) (q : Int × ByteArray × Int) : Prop := q.1 = (if r.1 = true then r.2.1 else -2) ∧ q.2.1 = x ∧ (r.1 = true → q.2.2 = r.2.2)
def NodeRel (R : List RuleT) (G : List NodeT) (x : ByteArray) (i a u : Int) : Prop :=
  ∃ r q, Ev (fun k => vetchref18_Node.f k R G i x a u) r ∧ Ev (fun k => naive_evaluator_node.f k R G x u i a) q ∧ Sim x r q ∧ Good x a (u - 1) r
section
variable {R : List RuleT} {G : List NodeT} {x : ByteArray} (hx : x.size ≤ 1000000) (hR : R.length ≤ 1000000) (hG : G.length ≤ 1000000) (hw : WF R G) (hok : ∀ y ∈ G, Ok56 y) (hkl : ∀ i : Int, 0 ≤ i → i < (G.length : Int) → (nodeAt G i).f1.length ≤ 9223372036854775807)
include hx hG hw hok hkl
theorem rd_in (xs : List Int) (j : Int) (h0 : 0 ≤ j) (h1 : j < (xs.length : Int)) : rd xs j ∈ xs := by
  have h : j.toNat < xs.length := by omega
  unfold rd
  rw [List.getD_eq_getElem?_getD, List.getElem?_eq_getElem h]
  exact List.getElem_mem h
omit hx hG hw hok hkl in
theorem rd_mem56 (G : List NodeT) (i : Int) (h0 : 0 ≤ i) (h1 : i < (G.length : Int)) : nodeAt G i ∈ G := by
  have h : i.toNat < G.length := by omega
  show G.getD i.toNat _ ∈ G
  rw [List.getD_eq_getElem?_getD, List.getElem?_eq_getElem h]
  exact List.getElem_mem h
omit hx hG hw hok hkl in
theorem good_weaken {a a' u u' : Int} {r : Bool × Int × Int} (h : Good x a u r) (ha : a' ≤ a) (hu : u ≤ u') : Good x a' u' r :=
  ⟨fun hk => by have := h.known hk; omega, h.unk⟩
theorem seq_rel (n : Int) (hn : n ≤ 1000000000) (ih : ∀ u, u ≤ n → ∀ i a, 0 ≤ i → i < (G.length : Int) → 0 ≤ a → a ≤ (x.size : Int) → NodeRel R G x i a u) (kids : List Int) (hk : ∀ c ∈ kids, 0 ≤ c ∧ c < (G.length : Int)) (hl : kids.length ≤ 9223372036854775807) :
    ∀ (m : Nat) (j : Int), 0 ≤ j → j.toNat + m = kids.length → ∀ a u, 0 ≤ u → u ≤ n → 0 ≤ a → a ≤ (x.size : Int) →
      ∃ r q, Ev (fun k => vetchref18_Node.seqF (fun c a u => vetchref18_Node.f k R G c x a u) (kids.drop j.toNat) a u) r ∧ Ev (fun k => naive_evaluator_seq.l0 k a kids (kids.length : Int) j R G x u) q ∧ Sim x r q ∧ Good x a u r := by
  intro m
  induction m with
  | zero =>
    intro j h0 hm a u hu0 hu ha0 ha
    refine ⟨(true, a, u), (a, x, u), Ev.of_eq fun k => by rw [List.drop_eq_nil_of_le (by omega), vetchref18_Node.seqF], Ev.succ (g := fun _ => some _) (fun k => by rw [naive_evaluator_seq.l0, if_neg (by omega)]) (Ev.const _), ⟨by simp, rfl, fun _ => rfl⟩, ⟨fun _ => ?_, fun h => absurd h (by simp)⟩⟩
    exact ⟨hu0, Int.le_refl _, by show -1 ≤ a; omega, ha, fun _ => Int.le_refl _⟩
  | succ m ihm =>
    intro j h0 hm a u hu0 hu ha0 ha
    have hj : j < (kids.length : Int) := by omega
    have hc := hk _ (rd_in hx hG hw hok hkl kids j h0 hj)
    obtain ⟨r, q, hr, hq, hs, hg⟩ := ih u hu (rd kids j) a hc.1 hc.2 ha0 ha
    obtain ⟨r1, r2, r3⟩ := r
    obtain ⟨q1, q2, q3⟩ := q
    obtain ⟨s1, s2, s3⟩ := hs
    dsimp only at s1 s2 s3
    subst s2
    have stepR : ∀ k, vetchref18_Node.seqF (fun c a u => vetchref18_Node.f k R G c q2 a u) (kids.drop j.toNat) a u = (vetchref18_Node.f k R G (rd kids j) q2 a u).bind fun r => if r.1 = true ∧ 0 ≤ r.2.1 then vetchref18_Node.seqF (fun c a u => vetchref18_Node.f k R G c q2 a u) (kids.drop (j + 1).toNat) r.2.1 r.2.2 else some r := fun k => by
      rw [h18_drop kids j h0 hj, vetchref18_Node.seqF]
    have stepQ : ∀ k, naive_evaluator_seq.l0 (k + 1) a kids (kids.length : Int) j R G q2 u = (naive_evaluator_node.f k R G q2 u (rd kids j) a).bind fun t => if t.1 < 0 then some (t.1, t.2.1, t.2.2) else naive_evaluator_seq.l0 k t.1 kids (kids.length : Int) (j + 1) R G t.2.1 t.2.2 := fun k => by
      rw [naive_evaluator_seq.l0, if_pos hj, if_pos h0, if_pos hj, w64p (j + 1) (by omega)]
    by_cases hc2 : r1 = true ∧ 0 ≤ r2
    · obtain ⟨rfl, hr2⟩ := hc2
      obtain ⟨g1, g2, g3, g4, g5⟩ := hg.known rfl
      dsimp only at g1 g2 g3 g4 g5
      obtain ⟨r', q', hr', hq', hs', hg'⟩ := ihm (j + 1) (by omega) (by omega) r2 r3 g1 (by omega) hr2 g4
      have e1 : q1 = r2 := by simpa using s1
      have e3 := s3 rfl
      subst e1 e3
      exact ⟨r', q', Ev.congr stepR (Ev.bind hr (Ev.congr (fun k => if_pos ⟨rfl, hr2⟩) hr')), Ev.succ stepQ (Ev.bind hq (Ev.congr (fun k => if_neg (by show ¬ q1 < 0; omega)) hq')), hs', good_weaken hg' (g5 hr2) (by omega)⟩
    · have hq0 : q1 < 0 := by
        rw [s1]
        split
        · rename_i h; have : ¬ 0 ≤ r2 := fun h2 => hc2 ⟨h, h2⟩; omega
        · omega
      exact ⟨(r1, r2, r3), (q1, q2, q3), Ev.congr stepR (Ev.bind hr (Ev.of_eq fun _ => if_neg hc2)), Ev.succ stepQ (Ev.bind hq (Ev.of_eq fun _ => if_pos hq0)), ⟨s1, rfl, s3⟩, good_weaken hg (Int.le_refl _) (by omega)⟩
theorem cho_rel (n : Int) (hn : n ≤ 1000000000) (ih : ∀ u, u ≤ n → ∀ i a, 0 ≤ i → i < (G.length : Int) → 0 ≤ a → a ≤ (x.size : Int) → NodeRel R G x i a u) (kids : List Int) (hk : ∀ c ∈ kids, 0 ≤ c ∧ c < (G.length : Int)) (hl : kids.length ≤ 9223372036854775807) (a : Int) (ha0 : 0 ≤ a) (ha : a ≤ (x.size : Int)) :
    ∀ (m : Nat) (j : Int), 0 ≤ j → j.toNat + m = kids.length → ∀ e u, 0 ≤ u → u ≤ n → e = -1 →
      ∃ r q, Ev (fun k => vetchref18_Node.choF (fun c u => vetchref18_Node.f k R G c x a u) (kids.drop j.toNat) e u) r ∧ Ev (fun k => naive_evaluator_choice.l0 k a kids (kids.length : Int) j R G x u) q ∧ Sim x r q ∧ Good x a u r := by
  intro m
  induction m with
  | zero =>
    intro j h0 hm e u hu0 hu he
    subst he
    refine ⟨(true, -1, u), (-1, x, u), Ev.of_eq fun k => by rw [List.drop_eq_nil_of_le (by omega), vetchref18_Node.choF], Ev.succ (g := fun _ => some _) (fun k => by rw [naive_evaluator_choice.l0, if_neg (by omega)]) (Ev.const _), ⟨by simp, rfl, fun _ => rfl⟩, ⟨fun _ => ?_, fun h => absurd h (by simp)⟩⟩
    exact ⟨hu0, Int.le_refl _, Int.le_refl _, by show (-1 : Int) ≤ _; omega, fun h => absurd h (by simp)⟩
  | succ m ihm =>
    intro j h0 hm e u hu0 hu he
    have hj : j < (kids.length : Int) := by omega
    have hc := hk _ (rd_in hx hG hw hok hkl kids j h0 hj)
    obtain ⟨r, q, hr, hq, hs, hg⟩ := ih u hu (rd kids j) a hc.1 hc.2 ha0 ha
    obtain ⟨r1, r2, r3⟩ := r
    obtain ⟨q1, q2, q3⟩ := q
    obtain ⟨s1, s2, s3⟩ := hs
    dsimp only at s1 s2 s3
    subst s2
    have stepR : ∀ k, vetchref18_Node.choF (fun c u => vetchref18_Node.f k R G c q2 a u) (kids.drop j.toNat) e u = (vetchref18_Node.f k R G (rd kids j) q2 a u).bind fun r => if r.1 = true ∧ r.2.1 < 0 then vetchref18_Node.choF (fun c u => vetchref18_Node.f k R G c q2 a u) (kids.drop (j + 1).toNat) r.2.1 r.2.2 else some r := fun k => by
      rw [h18_drop kids j h0 hj, vetchref18_Node.choF]
    have stepQ : ∀ k, naive_evaluator_choice.l0 (k + 1) a kids (kids.length : Int) j R G q2 u = (naive_evaluator_node.f k R G q2 u (rd kids j) a).bind fun t => if t.1 = (-1) then naive_evaluator_choice.l0 k a kids (kids.length : Int) (j + 1) R G t.2.1 t.2.2 else some (t.1, t.2.1, t.2.2) := fun k => by
      rw [naive_evaluator_choice.l0, if_pos hj, if_pos h0, if_pos hj, w64p (j + 1) (by omega)]
    by_cases hc2 : r1 = true ∧ r2 < 0
    · obtain ⟨rfl, hr2⟩ := hc2
      obtain ⟨g1, g2, g3, g4, g5⟩ := hg.known rfl
      dsimp only at g1 g2 g3 g4 g5
      have er : r2 = -1 := by omega
      subst er
      obtain ⟨r', q', hr', hq', hs', hg'⟩ := ihm (j + 1) (by omega) (by omega) (-1) r3 g1 (by omega) rfl
      have e1 : q1 = -1 := by simpa using s1
      have e3 := s3 rfl
      subst e1 e3
      exact ⟨r', q', Ev.congr stepR (Ev.bind hr (Ev.congr (fun k => if_pos ⟨rfl, hr2⟩) hr')), Ev.succ stepQ (Ev.bind hq (Ev.congr (fun k => if_pos rfl) hq')), hs', good_weaken hg' (Int.le_refl _) (by omega)⟩
    · have hq0 : q1 ≠ -1 := by
        rw [s1]
        split
        · rename_i h; have : ¬ r2 < 0 := fun h2 => hc2 ⟨h, h2⟩; omega
        · omega
      exact ⟨(r1, r2, r3), (q1, q2, q3), Ev.congr stepR (Ev.bind hr (Ev.of_eq fun _ => if_neg hc2)), Ev.succ stepQ (Ev.bind hq (Ev.of_eq fun _ => if_neg hq0)), ⟨s1, rfl, s3⟩, good_weaken hg (Int.le_refl _) (by omega)⟩
theorem rep_rel (n : Int) (hn : n ≤ 1000000000) (ih : ∀ u, u ≤ n → ∀ i a, 0 ≤ i → i < (G.length : Int) → 0 ≤ a → a ≤ (x.size : Int) → NodeRel R G x i a u) (c : Int) (hc0 : 0 ≤ c) (hc : c < (G.length : Int)) :
    ∀ (m : Nat) (u : Int), u.toNat = m → 0 ≤ u → u ≤ n → ∀ a, 0 ≤ a → a ≤ (x.size : Int) →
      ∃ r q, (∀ b last, Ev (fun k => vetchref18_Node.repF (fun a u => vetchref18_Node.f (k + b) R G c x a u) k last (true, a, u)) r) ∧ Ev (fun k => naive_evaluator_repeat.l0 k c a R G x u) q ∧ Sim x r q ∧ Good x a u r ∧ (r.1 = true → 0 ≤ r.2.1) := by
  intro m
  induction m using Nat.strongRecOn with
  | _ m ihm =>
  intro u hm hu0 hu a ha0 ha
  obtain ⟨r, q, hr, hq, hs, hg⟩ := ih u hu c a hc0 hc ha0 ha
  obtain ⟨r1, r2, r3⟩ := r
  obtain ⟨q1, q2, q3⟩ := q
  obtain ⟨s1, s2, s3⟩ := hs
  dsimp only at s1 s2 s3
  subst s2
  have stepR : ∀ b last k, vetchref18_Node.repF (fun a u => vetchref18_Node.f (k + 1 + b) R G c q2 a u) (k + 1) last (true, a, u) = (vetchref18_Node.f (k + (b + 1)) R G c q2 a u).bind fun t => vetchref18_Node.repF (fun a u => vetchref18_Node.f (k + (b + 1)) R G c q2 a u) k a t := fun b last k => by
    rw [vetchref18_Node.repF, if_pos ⟨rfl, ha0⟩, show k + 1 + b = k + (b + 1) by omega]
  have stepQ : ∀ k, naive_evaluator_repeat.l0 (k + 1) c a R G q2 u = (naive_evaluator_node.f k R G q2 u c a).bind fun t => if t.1 = (-1) then some (a, t.2.1, t.2.2) else if t.1 = (-2) then some ((-2), t.2.1, t.2.2) else naive_evaluator_repeat.l0 k c t.1 R G t.2.1 t.2.2 := fun k => by
    rw [naive_evaluator_repeat.l0]
  cases r1 with
  | false =>
    obtain ⟨u1, u2⟩ := hg.unk rfl
    dsimp only at u1 u2
    subst u1 u2
    have e1 : q1 = -2 := by simpa using s1
    subst e1
    refine ⟨(false, 0, 0), (-2, q2, q3), fun b last => Ev.succ (stepR b last) (Ev.bind (Ev.shift (b + 1) hr) ?_), Ev.succ stepQ (Ev.bind hq (Ev.of_eq fun _ => by rw [if_neg (by show ¬ (-2 : Int) = -1; decide), if_pos rfl])), ⟨by simp, rfl, fun h => absurd h (by simp)⟩, ⟨fun h => absurd h (by simp), fun _ => ⟨rfl, rfl⟩⟩, fun h => absurd h (by simp)⟩
    exact Ev.succ (g := fun _ => some (false, 0, 0)) (fun k => by rw [vetchref18_Node.repF, if_neg (by simp), if_neg (by simp)]) (Ev.const _)
  | true =>
    obtain ⟨g1, g2, g3, g4, g5⟩ := hg.known rfl
    dsimp only at g1 g2 g3 g4 g5
    have e1 : q1 = r2 := by simpa using s1
    have e3 := s3 rfl
    subst e1 e3
    by_cases hr2 : 0 ≤ q1
    · obtain ⟨r', q', hr', hq', hs', hg', hp'⟩ := ihm q3.toNat (by omega) q3 rfl g1 (by omega) q1 hr2 g4
      exact ⟨r', q', fun b last => Ev.succ (stepR b last) (Ev.bind (Ev.shift (b + 1) hr) (hr' (b + 1) a)), Ev.succ stepQ (Ev.bind hq (Ev.congr (fun k => by rw [if_neg (by show ¬ q1 = -1; omega), if_neg (by show ¬ q1 = -2; omega)]) hq')), hs', good_weaken hg' (g5 hr2) (by omega), hp'⟩
    · have e : q1 = -1 := by omega
      subst e
      refine ⟨(true, a, q3), (a, q2, q3), fun b last => Ev.succ (stepR b last) (Ev.bind (Ev.shift (b + 1) hr) ?_), Ev.succ stepQ (Ev.bind hq (Ev.of_eq fun _ => if_pos rfl)), ⟨by simp, rfl, fun _ => rfl⟩, ⟨fun _ => ⟨g1, by show q3 ≤ u; omega, by show -1 ≤ a; omega, ha, fun _ => Int.le_refl _⟩, fun h => absurd h (by simp)⟩, fun _ => ha0⟩
      exact Ev.succ (g := fun _ => some (true, a, q3)) (fun k => by rw [vetchref18_Node.repF, if_neg (by simp), if_pos rfl]) (Ev.const _)
theorem node_rel : ∀ (n : Nat) (u : Int), u ≤ n → u ≤ 100000000 → ∀ i a, 0 ≤ i → i < (G.length : Int) → 0 ≤ a → a ≤ (x.size : Int) → NodeRel R G x i a u := by
  intro n
  induction n with
  | zero =>
    intro u hu _ i a hi0 hi ha0 ha
    refine ⟨(false, 0, 0), (-2, x, u), Ev.succ (g := fun _ => some (false, 0, 0)) (fun k => by rw [vetchref18_Node.f, if_pos (by omega)]) (Ev.const _), Ev.succ (g := fun _ => some (-2, x, u)) (fun k => by rw [naive_evaluator_node.f, if_pos (by omega)]) (Ev.const _), ⟨by simp, rfl, fun h => absurd h (by simp)⟩, ⟨fun h => absurd h (by simp), fun _ => ⟨rfl, rfl⟩⟩⟩
  | succ n ih0 =>
    intro u hu hub i a hi0 hi ha0 ha
    by_cases hu1 : u < 1
    · exact ih0 u (by omega) hub i a hi0 hi ha0 ha
    have ih : ∀ u', u' ≤ u - 1 → ∀ i a, 0 ≤ i → i < (G.length : Int) → 0 ≤ a → a ≤ (x.size : Int) → NodeRel R G x i a u' := fun u' hu' => ih0 u' (by omega) (by omega)
    have hwr : wrap64 (u - 1) = u - 1 := w64p _ (by omega)
    obtain ⟨m0, m1, m2, m3, m4, m5, m6, m7, m8⟩ := hw.made i hi0 hi
    have hkids := hw.kids i hi0 hi
    have hkids' : ∀ c ∈ (nodeAt G i).f1, 0 ≤ c ∧ c < (G.length : Int) := fun c hc => by have := hkids c hc; omega
    have hl := hkl i hi0 hi
    have hn9 : u - 1 ≤ 1000000000 := by omega
    have unit : ∀ (e : Int), -1 ≤ e → e ≤ (x.size : Int) → (0 ≤ e → a ≤ e) → Sim x (true, e, u - 1) (e, x, u - 1) ∧ Good x a (u - 1) (true, e, u - 1) := fun e h1 h2 h3 =>
      ⟨⟨by simp, rfl, fun _ => rfl⟩, ⟨fun _ => ⟨by show 0 ≤ u - 1; omega, Int.le_refl _, h1, h2, h3⟩, fun h => absurd h (by simp)⟩⟩
    by_cases o0 : (nodeAt G i).f0 = 0
    · obtain ⟨h1, h2⟩ := unit a (by omega) ha (fun _ => Int.le_refl _)
      exact ⟨_, _, Ev.succ (g := fun _ => some (true, a, u - 1)) (fun k => by rw [vetchref18_Node.f, if_neg hu1, if_pos ⟨hi0, hi⟩, if_pos o0, hwr]) (Ev.const _), Ev.succ (g := fun _ => some (a, x, u - 1)) (fun k => by rw [naive_evaluator_node.f, if_neg hu1, if_pos hi0, if_pos hi, if_pos o0, hwr]) (Ev.const _), h1, h2⟩
    by_cases o1 : (nodeAt G i).f0 = 1
    · by_cases hlt : a < (x.size : Int)
      · have hset := (hok _ (rd_mem56 G i hi0 hi)).2.2.2
        obtain ⟨b, hb1, hb2⟩ := has_ev (nodeAt G i).f3 hset (bt x a) (bt_range x a).1 (bt_range x a).2
        have stepR : ∀ k, vetchref18_Node.f (k + 1) R G i x a u = (vetchref01_Has.f k (nodeAt G i).f3.f0 (nodeAt G i).f3.f1 (nodeAt G i).f3.f2 (nodeAt G i).f3.f3 (bt x a)).bind fun b => if b = true then some (true, a + 1, u - 1) else some (true, -1, u - 1) := fun k => by
          rw [vetchref18_Node.f, if_neg hu1, if_pos ⟨hi0, hi⟩, if_neg o0, if_pos o1, if_pos hlt, if_pos ha0, hwr, w64p (a + 1) (by omega)]
        have stepQ : ∀ k, naive_evaluator_node.f (k + 1) R G x u i a = if b = true then some (a + 1, x, u - 1) else some (-1, x, u - 1) := fun k => by
          rw [naive_evaluator_node.f, if_neg hu1, if_pos hi0, if_pos hi, if_neg o0, if_pos o1, if_pos hlt, if_pos ha0, hwr, w64p (a + 1) (by omega), hb1, Option.bind_some]
        cases b with
        | true =>
          obtain ⟨h1, h2⟩ := unit (a + 1) (by omega) (by omega) (fun _ => by omega)
          exact ⟨_, _, Ev.succ stepR (Ev.bind hb2 (Ev.of_eq fun _ => if_pos rfl)), Ev.succ stepQ (Ev.of_eq fun _ => if_pos rfl), h1, h2⟩
        | false =>
          obtain ⟨h1, h2⟩ := unit (-1) (by omega) (by omega) (fun h => absurd h (by decide))
          exact ⟨_, _, Ev.succ stepR (Ev.bind hb2 (Ev.of_eq fun _ => if_neg (by decide))), Ev.succ stepQ (Ev.of_eq fun _ => if_neg (by decide)), h1, h2⟩
      · obtain ⟨h1, h2⟩ := unit (-1) (by omega) (by omega) (fun h => absurd h (by decide))
        exact ⟨_, _, Ev.succ (g := fun _ => some (true, -1, u - 1)) (fun k => by rw [vetchref18_Node.f, if_neg hu1, if_pos ⟨hi0, hi⟩, if_neg o0, if_pos o1, if_neg hlt, hwr]) (Ev.const _), Ev.succ (g := fun _ => some (-1, x, u - 1)) (fun k => by rw [naive_evaluator_node.f, if_neg hu1, if_pos hi0, if_pos hi, if_neg o0, if_pos o1, if_neg hlt, hwr]) (Ev.const _), h1, h2⟩
    by_cases o2 : (nodeAt G i).f0 = 2
    · obtain ⟨p0, p1⟩ := m6 o2
      have hroot := hw.roots _ p0 p1
      obtain ⟨r, q, hr, hq, hs, hg⟩ := ih (u - 1) (Int.le_refl _) (ruleAt R (nodeAt G i).f2).f1 a hroot.1 hroot.2 ha0 ha
      exact ⟨r, q, Ev.succ (fun k => by rw [vetchref18_Node.f, if_neg hu1, if_pos ⟨hi0, hi⟩, if_neg o0, if_neg o1, if_pos o2, if_pos ⟨p0, p1⟩, hwr]) hr, Ev.succ (g := fun k => (naive_evaluator_node.f k R G x (u - 1) (ruleAt R (nodeAt G i).f2).f1 a).bind fun t => some (t.1, t.2.1, t.2.2)) (fun k => by rw [naive_evaluator_node.f, if_neg hu1, if_pos hi0, if_pos hi, if_neg o0, if_neg o1, if_pos o2, if_pos p0, if_pos p1, hwr]) (Ev.bind hq (Ev.const _)), hs, good_weaken hg (Int.le_refl _) (by omega)⟩
    by_cases o3 : (nodeAt G i).f0 = 3
    · obtain ⟨r, q, hr, hq, hs, hg⟩ := seq_rel hx hG hw hok hkl (u - 1) hn9 ih (nodeAt G i).f1 hkids' hl (nodeAt G i).f1.length 0 (Int.le_refl _) (by simp) a (u - 1) (by omega) (Int.le_refl _) ha0 ha
      refine ⟨r, q, Ev.succ (fun k => by rw [vetchref18_Node.f, if_neg hu1, if_pos ⟨hi0, hi⟩, if_neg o0, if_neg o1, if_neg o2, if_pos o3, hwr]; rfl) hr, Ev.succ (g := fun k => (naive_evaluator_seq.f k R G x (u - 1) (nodeAt G i).f1 a).bind fun t => some (t.1, t.2.1, t.2.2)) (fun k => by rw [naive_evaluator_node.f, if_neg hu1, if_pos hi0, if_pos hi, if_neg o0, if_neg o1, if_neg o2, if_pos o3, hwr]) (Ev.bind (Ev.succ (fun k => by rw [naive_evaluator_seq.f]) hq) (Ev.const _)), hs, hg⟩
    by_cases o4 : (nodeAt G i).f0 = 4
    · obtain ⟨r, q, hr, hq, hs, hg⟩ := cho_rel hx hG hw hok hkl (u - 1) hn9 ih (nodeAt G i).f1 hkids' hl a ha0 ha (nodeAt G i).f1.length 0 (Int.le_refl _) (by simp) (-1) (u - 1) (by omega) (Int.le_refl _) rfl
      refine ⟨r, q, Ev.succ (fun k => by rw [vetchref18_Node.f, if_neg hu1, if_pos ⟨hi0, hi⟩, if_neg o0, if_neg o1, if_neg o2, if_neg o3, if_pos o4, hwr]; rfl) hr, Ev.succ (g := fun k => (naive_evaluator_choice.f k R G x (u - 1) (nodeAt G i).f1 a).bind fun t => some (t.1, t.2.1, t.2.2)) (fun k => by rw [naive_evaluator_node.f, if_neg hu1, if_pos hi0, if_pos hi, if_neg o0, if_neg o1, if_neg o2, if_neg o3, if_pos o4, hwr]) (Ev.bind (Ev.succ (fun k => by rw [naive_evaluator_choice.f]) hq) (Ev.const _)), hs, hg⟩
    have hop5 : 5 ≤ (nodeAt G i).f0 := by omega
    have hlen := m5 hop5
    have hne : (nodeAt G i).f1 ≠ [] := fun h => by rw [h] at hlen; simp at hlen
    have hl0 : (0 : Int) < ((nodeAt G i).f1.length : Int) := by omega
    have hkid := hkids' _ (rd_in hx hG hw hok hkl (nodeAt G i).f1 0 (Int.le_refl _) hl0)
    obtain ⟨r, q, hr, hq, hs, hg⟩ := ih (u - 1) (Int.le_refl _) (rd (nodeAt G i).f1 0) a hkid.1 hkid.2 ha0 ha
    obtain ⟨r1, r2, r3⟩ := r
    obtain ⟨q1, q2, q3⟩ := q
    have hsim := hs
    obtain ⟨s1, s2, s3⟩ := hs
    dsimp only at s1 s2 s3
    subst s2
    have stepR : ∀ k, vetchref18_Node.f (k + 1) R G i q2 a u = (vetchref18_Node.f k R G (rd (nodeAt G i).f1 0) q2 a (u - 1)).bind fun r =>
        if r.1 = false then some r else
        if (nodeAt G i).f0 = 7 then (if r.2.1 < 0 then some (true, a, r.2.2) else some r) else
        if (nodeAt G i).f0 = 8 then (if r.2.1 < 0 then some r else some (true, a, r.2.2)) else
        if (nodeAt G i).f0 = 9 then (if r.2.1 < 0 then some (true, a, r.2.2) else some (true, -1, r.2.2)) else
        if r.2.1 < 0 ∧ (nodeAt G i).f0 = 6 then some r else vetchref18_Node.repF (fun a u => vetchref18_Node.f k R G (rd (nodeAt G i).f1 0) q2 a u) k a r := fun k => by
      rw [vetchref18_Node.f, if_neg hu1, if_pos ⟨hi0, hi⟩, if_neg o0, if_neg o1, if_neg o2, if_neg o3, if_neg o4, if_neg hne, hwr]
    have stepN : ∀ {v}, Ev (fun k => naive_evaluator_unary.f k R G q2 (u - 1) (nodeAt G i).f0 (nodeAt G i).f1 (nodeAt G i).f2 (nodeAt G i).f3.f0 (nodeAt G i).f3.f1 (nodeAt G i).f3.f2 (nodeAt G i).f3.f3 a) v → Ev (fun k => naive_evaluator_node.f k R G q2 u i a) v := fun hv =>
      Ev.succ (g := fun k => (naive_evaluator_unary.f k R G q2 (u - 1) (nodeAt G i).f0 (nodeAt G i).f1 (nodeAt G i).f2 (nodeAt G i).f3.f0 (nodeAt G i).f3.f1 (nodeAt G i).f3.f2 (nodeAt G i).f3.f3 a).bind fun t => some (t.1, t.2.1, t.2.2)) (fun k => by rw [naive_evaluator_node.f, if_neg hu1, if_pos hi0, if_pos hi, if_neg o0, if_neg o1, if_neg o2, if_neg o3, if_neg o4, hwr]) (Ev.bind hv (Ev.const _))
    have stepRep : ∀ k, naive_evaluator_repeat.l0 (k + 1) (rd (nodeAt G i).f1 0) a R G q2 (u - 1) = (naive_evaluator_node.f k R G q2 (u - 1) (rd (nodeAt G i).f1 0) a).bind fun t => if t.1 = (-1) then some (a, t.2.1, t.2.2) else if t.1 = (-2) then some ((-2), t.2.1, t.2.2) else naive_evaluator_repeat.l0 k (rd (nodeAt G i).f1 0) t.1 R G t.2.1 t.2.2 := fun k => by
      rw [naive_evaluator_repeat.l0]
    have un5 : ∀ {v}, (nodeAt G i).f0 = 5 → Ev (fun k => naive_evaluator_repeat.l0 k (rd (nodeAt G i).f1 0) a R G q2 (u - 1)) v → Ev (fun k => naive_evaluator_unary.f k R G q2 (u - 1) (nodeAt G i).f0 (nodeAt G i).f1 (nodeAt G i).f2 (nodeAt G i).f3.f0 (nodeAt G i).f3.f1 (nodeAt G i).f3.f2 (nodeAt G i).f3.f3 a) v := fun o5 hv =>
      Ev.succ (g := fun k => (naive_evaluator_repeat.f k R G q2 (u - 1) (rd (nodeAt G i).f1 0) a).bind fun t => some (t.1, t.2.1, t.2.2)) (fun k => by rw [naive_evaluator_unary.f, if_pos o5, if_pos hl0]) (Ev.bind (Ev.succ (fun k => by rw [naive_evaluator_repeat.f]) hv) (Ev.const _))
    have un : (nodeAt G i).f0 ≠ 5 → ∀ k, naive_evaluator_unary.f (k + 1) R G q2 (u - 1) (nodeAt G i).f0 (nodeAt G i).f1 (nodeAt G i).f2 (nodeAt G i).f3.f0 (nodeAt G i).f3.f1 (nodeAt G i).f3.f2 (nodeAt G i).f3.f3 a = (naive_evaluator_node.f k R G q2 (u - 1) (rd (nodeAt G i).f1 0) a).bind fun t =>
        if t.1 = (-2) then some ((-2), t.2.1, t.2.2) else if (nodeAt G i).f0 = 6 then (if t.1 = (-1) then some ((-1), t.2.1, t.2.2) else ((naive_evaluator_repeat.f k R G t.2.1 t.2.2 (rd (nodeAt G i).f1 0) t.1).bind fun t => some (t.1, t.2.1, t.2.2))) else
        if (nodeAt G i).f0 = 7 then some (mx t.1 a, t.2.1, t.2.2) else if (nodeAt G i).f0 = 8 then (if t.1 = (-1) then some ((-1), t.2.1, t.2.2) else some (a, t.2.1, t.2.2)) else (if t.1 = (-1) then some (a, t.2.1, t.2.2) else some ((-1), t.2.1, t.2.2)) := fun h5 k => by
      rw [naive_evaluator_unary.f, if_neg h5, if_pos hl0]
    cases r1 with
    | false =>
      obtain ⟨u1, u2⟩ := hg.unk rfl
      dsimp only at u1 u2
      subst u1 u2
      have e1 : q1 = -2 := by simpa using s1
      subst e1
      refine ⟨(false, 0, 0), (-2, q2, q3), Ev.succ stepR (Ev.bind hr (Ev.of_eq fun _ => if_pos rfl)), stepN ?_, hsim, ⟨fun h => absurd h (by simp), fun _ => ⟨rfl, rfl⟩⟩⟩
      by_cases o5 : (nodeAt G i).f0 = 5
      · exact un5 o5 (Ev.succ stepRep (Ev.bind hq (Ev.of_eq fun _ => by rw [if_neg (by show ¬ (-2 : Int) = -1; decide), if_pos rfl])))
      · exact Ev.succ (un o5) (Ev.bind hq (Ev.of_eq fun _ => if_pos rfl))
    | true =>
      obtain ⟨g1, g2, g3, g4, g5⟩ := hg.known rfl
      dsimp only at g1 g2 g3 g4 g5
      have e1 : q1 = r2 := by simpa using s1
      have e3 := s3 rfl
      subst e1 e3
      have fin : ∀ (e : Int), -1 ≤ e → e ≤ (q2.size : Int) → (0 ≤ e → a ≤ e) → Sim q2 (true, e, q3) (e, q2, q3) ∧ Good q2 a (u - 1) (true, e, q3) := fun e h1 h2 h3 =>
        ⟨⟨by simp, rfl, fun _ => rfl⟩, ⟨fun _ => ⟨g1, by show q3 ≤ u - 1; omega, h1, h2, h3⟩, fun h => absurd h (by simp)⟩⟩
      by_cases o7 : (nodeAt G i).f0 = 7
      · have n5 : (nodeAt G i).f0 ≠ 5 := by omega
        by_cases he : q1 < 0
        · have e : q1 = -1 := by omega
          subst e
          obtain ⟨h1, h2⟩ := fin a (by omega) ha (fun _ => Int.le_refl _)
          exact ⟨_, _, Ev.succ stepR (Ev.bind hr (Ev.of_eq fun _ => by rw [if_neg (by simp), if_pos o7, if_pos he])), stepN (Ev.succ (un n5) (Ev.bind hq (Ev.of_eq fun _ => by rw [if_neg (by show ¬ (-1 : Int) = -2; decide), if_neg (by omega), if_pos o7, show mx (-1) a = a by unfold mx; split <;> omega]))), h1, h2⟩
        · obtain ⟨h1, h2⟩ := fin q1 g3 g4 g5
          exact ⟨_, _, Ev.succ stepR (Ev.bind hr (Ev.of_eq fun _ => by rw [if_neg (by simp), if_pos o7, if_neg he])), stepN (Ev.succ (un n5) (Ev.bind hq (Ev.of_eq fun _ => by rw [if_neg (by show ¬ q1 = -2; omega), if_neg (by omega), if_pos o7, show mx q1 a = q1 by have := g5 (by omega); unfold mx; split <;> omega]))), h1, h2⟩
      by_cases o8 : (nodeAt G i).f0 = 8
      · have n5 : (nodeAt G i).f0 ≠ 5 := by omega
        by_cases he : q1 < 0
        · have e : q1 = -1 := by omega
          subst e
          obtain ⟨h1, h2⟩ := fin (-1) (by omega) (by omega) (fun h => absurd h (by decide))
          exact ⟨_, _, Ev.succ stepR (Ev.bind hr (Ev.of_eq fun _ => by rw [if_neg (by simp), if_neg o7, if_pos o8, if_pos he])), stepN (Ev.succ (un n5) (Ev.bind hq (Ev.of_eq fun _ => by rw [if_neg (by show ¬ (-1 : Int) = -2; decide), if_neg (by omega), if_neg o7, if_pos o8, if_pos rfl]))), h1, h2⟩
        · obtain ⟨h1, h2⟩ := fin a (by omega) ha (fun _ => Int.le_refl _)
          exact ⟨_, _, Ev.succ stepR (Ev.bind hr (Ev.of_eq fun _ => by rw [if_neg (by simp), if_neg o7, if_pos o8, if_neg he])), stepN (Ev.succ (un n5) (Ev.bind hq (Ev.of_eq fun _ => by rw [if_neg (by show ¬ q1 = -2; omega), if_neg (by omega), if_neg o7, if_pos o8, if_neg (by show ¬ q1 = -1; omega)]))), h1, h2⟩
      by_cases o9 : (nodeAt G i).f0 = 9
      · have n5 : (nodeAt G i).f0 ≠ 5 := by omega
        by_cases he : q1 < 0
        · have e : q1 = -1 := by omega
          subst e
          obtain ⟨h1, h2⟩ := fin a (by omega) ha (fun _ => Int.le_refl _)
          exact ⟨_, _, Ev.succ stepR (Ev.bind hr (Ev.of_eq fun _ => by rw [if_neg (by simp), if_neg o7, if_neg o8, if_pos o9, if_pos he])), stepN (Ev.succ (un n5) (Ev.bind hq (Ev.of_eq fun _ => by rw [if_neg (by show ¬ (-1 : Int) = -2; decide), if_neg (by omega), if_neg o7, if_neg o8, if_pos rfl]))), h1, h2⟩
        · obtain ⟨h1, h2⟩ := fin (-1) (by omega) (by omega) (fun h => absurd h (by decide))
          exact ⟨_, _, Ev.succ stepR (Ev.bind hr (Ev.of_eq fun _ => by rw [if_neg (by simp), if_neg o7, if_neg o8, if_pos o9, if_neg he])), stepN (Ev.succ (un n5) (Ev.bind hq (Ev.of_eq fun _ => by rw [if_neg (by show ¬ q1 = -2; omega), if_neg (by omega), if_neg o7, if_neg o8, if_neg (by show ¬ q1 = -1; omega)]))), h1, h2⟩
      by_cases he : q1 < 0
      · have e : q1 = -1 := by omega
        subst e
        by_cases o5 : (nodeAt G i).f0 = 5
        · obtain ⟨h1, h2⟩ := fin a (by omega) ha (fun _ => Int.le_refl _)
          exact ⟨_, _, Ev.succ stepR (Ev.bind hr (Ev.succ (g := fun _ => some (true, a, q3)) (fun k => by rw [if_neg (by simp), if_neg o7, if_neg o8, if_neg o9, if_neg (by omega), vetchref18_Node.repF, if_neg (by simp), if_pos rfl]) (Ev.const _))), stepN (un5 o5 (Ev.succ stepRep (Ev.bind hq (Ev.of_eq fun _ => if_pos rfl)))), h1, h2⟩
        · obtain ⟨h1, h2⟩ := fin (-1) (by omega) (by omega) (fun h => absurd h (by decide))
          have o6 : (nodeAt G i).f0 = 6 := by omega
          exact ⟨_, _, Ev.succ stepR (Ev.bind hr (Ev.of_eq fun _ => by rw [if_neg (by simp), if_neg o7, if_neg o8, if_neg o9, if_pos ⟨he, o6⟩])), stepN (Ev.succ (un o5) (Ev.bind hq (Ev.of_eq fun _ => by rw [if_neg (by show ¬ (-1 : Int) = -2; decide), if_pos o6, if_pos rfl]))), h1, h2⟩
      · obtain ⟨r', q', hr', hq', hs', hg', hp'⟩ := rep_rel hx hG hw hok hkl (u - 1) hn9 ih (rd (nodeAt G i).f1 0) hkid.1 hkid.2 q3.toNat q3 rfl g1 (by omega) q1 (by omega) g4
        have hgood := good_weaken hg' (g5 (by omega)) (show q3 ≤ u - 1 by omega)
        have hrr := hr' 0 a
        refine ⟨r', q', Ev.succ stepR (Ev.bind hr (Ev.congr (fun k => by rw [if_neg (by simp), if_neg o7, if_neg o8, if_neg o9, if_neg (fun h_ => he h_.1)]; rfl) hrr)), stepN ?_, hs', hgood⟩
        by_cases o5 : (nodeAt G i).f0 = 5
        · exact un5 o5 (Ev.succ stepRep (Ev.bind hq (Ev.congr (fun k => by rw [if_neg (by show ¬ q1 = -1; omega), if_neg (by show ¬ q1 = -2; omega)]) hq')))
        · have o6 : (nodeAt G i).f0 = 6 := by omega
          exact Ev.succ (un o5) (Ev.bind hq (Ev.congr (fun k => by rw [if_neg (by show ¬ q1 = -2; omega), if_pos o6, if_neg (by show ¬ q1 = -1; omega)]) (Ev.bind (Ev.succ (fun k => by rw [naive_evaluator_repeat.f]) hq') (Ev.const _))))
end
end Go.Proofs.Ythgedejnpgcacaa.V
namespace Go.Proofs.Ythgedejnpgcacaa.V
open Go.RowKit Go.Proofs.YthgedejnpgcacaaW.PrintWords
set_option linter.unusedVariables false
set_option linter.unusedSimpArgs false
set_option linter.unusedSectionVars false
set_option maxRecDepth 100000 in
theorem awake_ev : Ev (fun k => vetchlaw18_awake.f k) true := Ev.of_mono (k := 40) (fun k => vetchlaw18_awake.mono k) (by kernel_rfl)
theorem few_ev (R : List RuleT) (G : List NodeT) (hR : R.length ≤ maxLen) (hG : G.length ≤ maxLen) : ∃ v, Ev (fun k => vetchref05_Few.f k R G) v ∧ (v = true → R.length ≤ 30 ∧ G.length ≤ 300) := by
  have hG' : G.length ≤ 9223372036854775807 := hG
  have hR' : R.length ≤ 9223372036854775807 := hR
  have l1 : ∀ (n : Nat) (i : Int), 0 ≤ i → i.toNat + n = G.length → ∃ v, Ev (fun k => vetchref05_Few.l1 k i R G) v ∧ (v = true → R.length ≤ 30 ∧ G.length ≤ 300) := by
    intro n
    induction n with
    | zero =>
      intro i h0 hn
      by_cases c : (R.length : Int) ≤ 30
      · exact ⟨_, Ev.succ (g := fun _ => some (decide ((G.length : Int) ≤ 300))) (fun k => by rw [vetchref05_Few.l1, if_neg (by omega), if_pos c]) (Ev.const _), fun h => ⟨by omega, by have := of_decide_eq_true h; omega⟩⟩
      · exact ⟨false, Ev.succ (g := fun _ => some false) (fun k => by rw [vetchref05_Few.l1, if_neg (by omega), if_neg c]) (Ev.const _), fun h => absurd h (by decide)⟩
    | succ n ih =>
      intro i h0 hn
      by_cases c : (((nodeAt G i).f1).length : Int) > 60
      · exact ⟨false, Ev.succ (g := fun _ => some false) (fun k => by rw [vetchref05_Few.l1, if_pos (by omega), if_pos h0, if_pos c]) (Ev.const _), fun h => absurd h (by decide)⟩
      · obtain ⟨v, hv, hs⟩ := ih (i + 1) (by omega) (by omega)
        refine ⟨v, Ev.succ (fun k => by rw [vetchref05_Few.l1, if_pos (by omega), if_pos h0, if_neg c]) ?_, hs⟩
        rw [w64p _ (by omega)]
        exact hv
  have l0 : ∀ (n : Nat) (i : Int), 0 ≤ i → i.toNat + n = R.length → ∃ v, Ev (fun k => vetchref05_Few.l0 k i R G) v ∧ (v = true → R.length ≤ 30 ∧ G.length ≤ 300) := by
    intro n
    induction n with
    | zero =>
      intro i h0 hn
      obtain ⟨v, hv, hs⟩ := l1 G.length 0 (Int.le_refl _) (by simp)
      exact ⟨v, Ev.succ (fun k => by rw [vetchref05_Few.l0, if_neg (by omega)]) hv, hs⟩
    | succ n ih =>
      intro i h0 hn
      by_cases c : (((ruleAt R i).f0).size : Int) > 100
      · exact ⟨false, Ev.succ (g := fun _ => some false) (fun k => by rw [vetchref05_Few.l0, if_pos (by omega), if_pos h0, if_pos c]) (Ev.const _), fun h => absurd h (by decide)⟩
      · obtain ⟨v, hv, hs⟩ := ih (i + 1) (by omega) (by omega)
        refine ⟨v, Ev.succ (fun k => by rw [vetchref05_Few.l0, if_pos (by omega), if_pos h0, if_neg c]) ?_, hs⟩
        rw [w64p _ (by omega)]
        exact hv
  obtain ⟨v, hv, hs⟩ := l0 R.length 0 (Int.le_refl _) (by simp)
  exact ⟨v, hv, hs⟩
section
variable {R : List RuleT} {G : List NodeT} (hR : R.length ≤ maxLen ∧ ∀ y ∈ R, Ok51 y) (hG : G.length ≤ maxLen ∧ ∀ y ∈ G, Ok56 y)
include hR hG
theorem small_ev : ∃ v, Ev (fun k => vetchref05_Small.f k R G) v ∧ (v = true → WF R G ∧ R.length ≤ 30 ∧ G.length ≤ 300) := by
  obtain ⟨b, hb, hbs⟩ := few_ev R G hR.1 hG.1
  cases b with
  | false => exact ⟨false, Ev.bind hb (Ev.of_eq fun _ => if_neg (by decide)), fun h => absurd h (by decide)⟩
  | true =>
    obtain ⟨v, hv, hs⟩ := valid_ev R G hR hG
    exact ⟨v, Ev.bind hb (Ev.congr (fun k => if_pos rfl) (Ev.bind hv (Ev.const _))), fun h => ⟨hs h, hbs rfl⟩⟩
theorem fits_ev (x : ByteArray) (u : Int) : ∃ v, Ev (fun k => vetchlaw18_fits.f k R G x u) v ∧ (v = true → WF R G ∧ R.length ≤ 30 ∧ G.length ≤ 300 ∧ x.size ≤ 60 ∧ u ≤ 5000) := by
  obtain ⟨b, hb, hbs⟩ := small_ev hR hG
  cases b with
  | false => exact ⟨false, Ev.bind hb (Ev.of_eq fun _ => if_neg (by decide)), fun h => absurd h (by decide)⟩
  | true =>
    obtain ⟨h1, h2, h3⟩ := hbs rfl
    by_cases c : (x.size : Int) ≤ 60
    · exact ⟨_, Ev.bind hb (Ev.of_eq (v := decide (u ≤ 5000)) fun _ => by rw [if_pos rfl, if_pos c]), fun h => ⟨h1, h2, h3, by omega, of_decide_eq_true h⟩⟩
    · exact ⟨false, Ev.bind hb (Ev.of_eq fun _ => by rw [if_pos rfl, if_neg c]), fun h => absurd h (by decide)⟩
theorem kids_le (hw : WF R G) : ∀ i : Int, 0 ≤ i → i < (G.length : Int) → (nodeAt G i).f1.length ≤ 9223372036854775807 := fun i h0 h1 => (hG.2 _ (rd_mem56 G i h0 h1)).2.1.1
theorem node_ev {x : ByteArray} (hx : x.size ≤ 1000000) (hw : WF R G) (u : Int) (hu : u ≤ 100000000) (i a : Int) (hi0 : 0 ≤ i) (hi : i < (G.length : Int)) (ha0 : 0 ≤ a) (ha : a ≤ (x.size : Int)) :
    ∃ r, Ev (fun k => vetchref18_Node.f k R G i x a u) r ∧ Ev (fun k => naive_Node.f k R G i x a u) r ∧ Good x a (u - 1) r := by
  obtain ⟨r, q, hr, hq, hs, hg⟩ := node_rel hx (by have := hw.nodes; omega) hw hG.2 (kids_le hR hG hw) u.toNat u (by omega) hu i a hi0 hi ha0 ha
  refine ⟨r, hr, Ev.bind hq (Ev.of_eq fun _ => ?_), hg⟩
  obtain ⟨r1, r2, r3⟩ := r
  obtain ⟨q1, q2, q3⟩ := q
  obtain ⟨s1, s2, s3⟩ := hs
  dsimp only at s1 s2 s3 ⊢
  cases r1 with
  | false =>
    obtain ⟨u1, u2⟩ := hg.unk rfl
    dsimp only at u1 u2
    have s1' : q1 = -2 := by simpa using s1
    rw [u1, u2, s1', if_pos rfl]
  | true =>
    obtain ⟨g1, g2, g3, g4, g5⟩ := hg.known rfl
    dsimp only at g1 g2 g3 g4 g5
    have s1' : q1 = r2 := by simpa using s1
    rw [s1', if_neg (by omega), s3 rfl]
theorem run_ev {x : ByteArray} (hx : x.size ≤ 1000000) (hw : WF R G) (u : Int) (hu : u ≤ 100000000) :
    ∃ r, Ev (fun k => vetchref18_Node.f k R G (ruleAt R 0).f1 x 0 u) r ∧ Ev (fun k => naive_Run.f k R G x u) r ∧ Good x 0 (u - 1) r := by
  have h0 : (0 : Int) < (R.length : Int) := by have := hw.rules; omega
  have hr := hw.roots 0 (Int.le_refl _) h0
  obtain ⟨r, h1, h2, h3⟩ := node_ev hR hG hx hw u hu (ruleAt R 0).f1 0 hr.1 hr.2 (Int.le_refl _) (by omega)
  exact ⟨r, h1, Ev.congr (fun k => by unfold naive_Run.f; rw [if_pos h0]) (Ev.bind (g := fun _ t => some (t.1, t.2.1, t.2.2)) h2 (Ev.const _)), h3⟩
end
end Go.Proofs.Ythgedejnpgcacaa.V
namespace Go.Proofs.Ythgedejnpgcacaa.V
open Go.RowKit Go.Proofs.YthgedejnpgcacaaW.PrintWords
set_option linter.unusedVariables false
set_option linter.unusedSectionVars false
def FuelRel (R : List RuleT) (G : List NodeT) (x : ByteArray) (m i a u : Int) : Prop :=
  ∃ r, Ev (fun k => vetchref18_Node.f k R G i x a u) r ∧ Good x a (u - 1) r ∧ (r.1 = true → Ev (fun k => vetchref18_Node.f k R G i x a (u + m)) (true, r.2.1, r.2.2 + m))
theorem seqF_cons (F : Int → Int → Int → Option (Bool × Int × Int)) (c : Int) (cs : List Int) (a u : Int) : vetchref18_Node.seqF F (c :: cs) a u = (F c a u).bind fun r => if r.1 = true ∧ 0 ≤ r.2.1 then vetchref18_Node.seqF F cs r.2.1 r.2.2 else some r := rfl
theorem choF_cons (F : Int → Int → Option (Bool × Int × Int)) (c : Int) (cs : List Int) (e u : Int) : vetchref18_Node.choF F (c :: cs) e u = (F c u).bind fun r => if r.1 = true ∧ r.2.1 < 0 then vetchref18_Node.choF F cs r.2.1 r.2.2 else some r := rfl
section
variable {R : List RuleT} {G : List NodeT} {x : ByteArray} (hx : x.size ≤ 1000000) (hG : G.length ≤ 1000000) (hw : WF R G) (hok : ∀ y ∈ G, Ok56 y) (hkl : ∀ i : Int, 0 ≤ i → i < (G.length : Int) → (nodeAt G i).f1.length ≤ 9223372036854775807) (m : Int) (hm0 : 0 ≤ m) (hm1 : m ≤ 1000000)
include hx hG hw hok hkl hm0 hm1
theorem seq_fuel (n : Int) (ih : ∀ u, u ≤ n → ∀ i a, 0 ≤ i → i < (G.length : Int) → 0 ≤ a → a ≤ (x.size : Int) → FuelRel R G x m i a u) :
    ∀ (kids : List Int), (∀ c ∈ kids, 0 ≤ c ∧ c < (G.length : Int)) → ∀ a u, 0 ≤ u → u ≤ n → 0 ≤ a → a ≤ (x.size : Int) →
      ∃ r, Ev (fun k => vetchref18_Node.seqF (fun c a u => vetchref18_Node.f k R G c x a u) kids a u) r ∧ Good x a u r ∧ (r.1 = true → Ev (fun k => vetchref18_Node.seqF (fun c a u => vetchref18_Node.f k R G c x a u) kids a (u + m)) (true, r.2.1, r.2.2 + m)) := by
  intro kids
  induction kids with
  | nil =>
    intro hk a u hu0 hu ha0 ha
    exact ⟨(true, a, u), Ev.of_eq fun k => by rw [vetchref18_Node.seqF], ⟨fun _ => ⟨hu0, Int.le_refl _, by show -1 ≤ a; omega, ha, fun _ => Int.le_refl _⟩, fun h => absurd h (by simp)⟩, fun _ => Ev.of_eq fun k => by rw [vetchref18_Node.seqF]⟩
  | cons c cs ihk =>
    intro hk a u hu0 hu ha0 ha
    have hc := hk c (by simp)
    obtain ⟨⟨r1, r2, r3⟩, hr, hg, hf⟩ := ih u hu c a hc.1 hc.2 ha0 ha
    by_cases hc2 : r1 = true ∧ 0 ≤ r2
    · obtain ⟨rfl, hr2⟩ := hc2
      obtain ⟨g1, g2, g3, g4, g5⟩ := hg.known rfl
      dsimp only at g1 g2 g3 g4 g5
      obtain ⟨r', hr', hg', hf'⟩ := ihk (fun d hd => hk d (List.mem_cons_of_mem _ hd)) r2 r3 g1 (by omega) hr2 g4
      exact ⟨r', Ev.congr (fun k => seqF_cons _ _ _ _ _) (Ev.bind hr (Ev.congr (fun k => if_pos ⟨rfl, hr2⟩) hr')), good_weaken hg' (g5 hr2) (by omega), fun h => Ev.congr (fun k => seqF_cons _ _ _ _ _) (Ev.bind (hf rfl) (Ev.congr (fun k => if_pos ⟨rfl, hr2⟩) (hf' h)))⟩
    · refine ⟨(r1, r2, r3), Ev.congr (fun k => seqF_cons _ _ _ _ _) (Ev.bind hr (Ev.of_eq fun _ => if_neg hc2)), good_weaken hg (Int.le_refl _) (by omega), fun h => ?_⟩
      have h' : r1 = true := h
      subst h'
      exact Ev.congr (fun k => seqF_cons _ _ _ _ _) (Ev.bind (hf rfl) (Ev.of_eq fun _ => if_neg hc2))
theorem cho_fuel (n : Int) (a : Int) (ha0 : 0 ≤ a) (ha : a ≤ (x.size : Int)) (ih : ∀ u, u ≤ n → ∀ i a, 0 ≤ i → i < (G.length : Int) → 0 ≤ a → a ≤ (x.size : Int) → FuelRel R G x m i a u) :
    ∀ (kids : List Int), (∀ c ∈ kids, 0 ≤ c ∧ c < (G.length : Int)) → ∀ e u, 0 ≤ u → u ≤ n → e = -1 →
      ∃ r, Ev (fun k => vetchref18_Node.choF (fun c u => vetchref18_Node.f k R G c x a u) kids e u) r ∧ Good x a u r ∧ (r.1 = true → Ev (fun k => vetchref18_Node.choF (fun c u => vetchref18_Node.f k R G c x a u) kids e (u + m)) (true, r.2.1, r.2.2 + m)) := by
  intro kids
  induction kids with
  | nil =>
    intro hk e u hu0 hu he
    subst he
    exact ⟨(true, -1, u), Ev.of_eq fun k => by rw [vetchref18_Node.choF], ⟨fun _ => ⟨hu0, Int.le_refl _, Int.le_refl _, by show (-1 : Int) ≤ _; omega, fun h => absurd h (by simp)⟩, fun h => absurd h (by simp)⟩, fun _ => Ev.of_eq fun k => by rw [vetchref18_Node.choF]⟩
  | cons c cs ihk =>
    intro hk e u hu0 hu he
    have hc := hk c (by simp)
    obtain ⟨⟨r1, r2, r3⟩, hr, hg, hf⟩ := ih u hu c a hc.1 hc.2 ha0 ha
    by_cases hc2 : r1 = true ∧ r2 < 0
    · obtain ⟨rfl, hr2⟩ := hc2
      obtain ⟨g1, g2, g3, g4, g5⟩ := hg.known rfl
      dsimp only at g1 g2 g3 g4 g5
      have er : r2 = -1 := by omega
      subst er
      obtain ⟨r', hr', hg', hf'⟩ := ihk (fun d hd => hk d (List.mem_cons_of_mem _ hd)) (-1) r3 g1 (by omega) rfl
      exact ⟨r', Ev.congr (fun k => choF_cons _ _ _ _ _) (Ev.bind hr (Ev.congr (fun k => if_pos ⟨rfl, hr2⟩) hr')), good_weaken hg' (Int.le_refl _) (by omega), fun h => Ev.congr (fun k => choF_cons _ _ _ _ _) (Ev.bind (hf rfl) (Ev.congr (fun k => if_pos ⟨rfl, hr2⟩) (hf' h)))⟩
    · refine ⟨(r1, r2, r3), Ev.congr (fun k => choF_cons _ _ _ _ _) (Ev.bind hr (Ev.of_eq fun _ => if_neg hc2)), good_weaken hg (Int.le_refl _) (by omega), fun h => ?_⟩
      have h' : r1 = true := h
      subst h'
      exact Ev.congr (fun k => choF_cons _ _ _ _ _) (Ev.bind (hf rfl) (Ev.of_eq fun _ => if_neg hc2))
theorem rep_fuel (n : Int) (ih : ∀ u, u ≤ n → ∀ i a, 0 ≤ i → i < (G.length : Int) → 0 ≤ a → a ≤ (x.size : Int) → FuelRel R G x m i a u) (c : Int) (hc0 : 0 ≤ c) (hc : c < (G.length : Int)) :
    ∀ (q : Nat) (u : Int), u.toNat = q → 0 ≤ u → u ≤ n → ∀ a, 0 ≤ a → a ≤ (x.size : Int) →
      ∃ r, (∀ b last, Ev (fun k => vetchref18_Node.repF (fun a u => vetchref18_Node.f (k + b) R G c x a u) k last (true, a, u)) r) ∧ Good x a u r ∧ (r.1 = true → ∀ b last, Ev (fun k => vetchref18_Node.repF (fun a u => vetchref18_Node.f (k + b) R G c x a u) k last (true, a, u + m)) (true, r.2.1, r.2.2 + m)) := by
  intro q
  induction q using Nat.strongRecOn with
  | _ q ihq =>
  intro u hq hu0 hu a ha0 ha
  obtain ⟨⟨r1, r2, r3⟩, hr, hg, hf⟩ := ih u hu c a hc0 hc ha0 ha
  have stepR : ∀ u b last k, vetchref18_Node.repF (fun a u => vetchref18_Node.f (k + 1 + b) R G c x a u) (k + 1) last (true, a, u) = (vetchref18_Node.f (k + (b + 1)) R G c x a u).bind fun t => vetchref18_Node.repF (fun a u => vetchref18_Node.f (k + (b + 1)) R G c x a u) k a t := fun u b last k => by
    rw [vetchref18_Node.repF, if_pos ⟨rfl, ha0⟩, show k + 1 + b = k + (b + 1) by omega]
  cases r1 with
  | false =>
    obtain ⟨u1, u2⟩ := hg.unk rfl
    dsimp only at u1 u2
    subst u1 u2
    refine ⟨(false, 0, 0), fun b last => Ev.succ (stepR u b last) (Ev.bind (Ev.shift (b + 1) hr) ?_), ⟨fun h => absurd h (by simp), fun _ => ⟨rfl, rfl⟩⟩, fun h => absurd h (by simp)⟩
    exact Ev.succ (g := fun _ => some (false, 0, 0)) (fun k => by rw [vetchref18_Node.repF, if_neg (by simp), if_neg (by simp)]) (Ev.const _)
  | true =>
    obtain ⟨g1, g2, g3, g4, g5⟩ := hg.known rfl
    dsimp only at g1 g2 g3 g4 g5
    have hf1 := hf rfl
    dsimp only at hf1
    by_cases hr2 : 0 ≤ r2
    · obtain ⟨r', hr', hg', hf'⟩ := ihq r3.toNat (by omega) r3 rfl g1 (by omega) r2 hr2 g4
      exact ⟨r', fun b last => Ev.succ (stepR u b last) (Ev.bind (Ev.shift (b + 1) hr) (hr' (b + 1) a)), good_weaken hg' (g5 hr2) (by omega), fun h b last => Ev.succ (stepR (u + m) b last) (Ev.bind (Ev.shift (b + 1) hf1) (hf' h (b + 1) a))⟩
    · refine ⟨(true, a, r3), fun b last => Ev.succ (stepR u b last) (Ev.bind (Ev.shift (b + 1) hr) ?_), ⟨fun _ => ⟨g1, by show r3 ≤ u; omega, by show -1 ≤ a; omega, ha, fun _ => Int.le_refl _⟩, fun h => absurd h (by simp)⟩, fun _ b last => Ev.succ (stepR (u + m) b last) (Ev.bind (Ev.shift (b + 1) hf1) ?_)⟩
      · exact Ev.succ (g := fun _ => some (true, a, r3)) (fun k => by rw [vetchref18_Node.repF, if_neg (fun h => hr2 h.2), if_pos rfl]) (Ev.const _)
      · exact Ev.succ (g := fun _ => some (true, a, r3 + m)) (fun k => by rw [vetchref18_Node.repF, if_neg (fun h => hr2 h.2), if_pos rfl]) (Ev.const _)
theorem node_fuel : ∀ (n : Nat) (u : Int), u ≤ n → u ≤ 100000000 → ∀ i a, 0 ≤ i → i < (G.length : Int) → 0 ≤ a → a ≤ (x.size : Int) → FuelRel R G x m i a u := by
  intro n
  induction n with
  | zero =>
    intro u hu _ i a hi0 hi ha0 ha
    exact ⟨(false, 0, 0), Ev.succ (g := fun _ => some (false, 0, 0)) (fun k => by rw [vetchref18_Node.f, if_pos (by omega)]) (Ev.const _), ⟨fun h => absurd h (by simp), fun _ => ⟨rfl, rfl⟩⟩, fun h => absurd h (by simp)⟩
  | succ n ih0 =>
    intro u hu hub i a hi0 hi ha0 ha
    by_cases hu1 : u < 1
    · exact ih0 u (by omega) hub i a hi0 hi ha0 ha
    have hum : ¬ u + m < 1 := by omega
    have ih : ∀ u', u' ≤ u - 1 → ∀ i a, 0 ≤ i → i < (G.length : Int) → 0 ≤ a → a ≤ (x.size : Int) → FuelRel R G x m i a u' := fun u' hu' => ih0 u' (by omega) (by omega)
    have hwr : wrap64 (u - 1) = u - 1 := w64p _ (by omega)
    have hwm : wrap64 (u + m - 1) = u - 1 + m := by rw [w64p _ (by omega)]; omega
    obtain ⟨m0, m1, m2, m3, m4, m5, m6, m7, m8⟩ := hw.made i hi0 hi
    have hkids := hw.kids i hi0 hi
    have hkids' : ∀ c ∈ (nodeAt G i).f1, 0 ≤ c ∧ c < (G.length : Int) := fun c hc => by have := hkids c hc; omega
    have unit : ∀ (e : Int), -1 ≤ e → e ≤ (x.size : Int) → (0 ≤ e → a ≤ e) → Good x a (u - 1) (true, e, u - 1) := fun e h1 h2 h3 =>
      ⟨fun _ => ⟨by show 0 ≤ u - 1; omega, Int.le_refl _, h1, h2, h3⟩, fun h => absurd h (by simp)⟩
    by_cases o0 : (nodeAt G i).f0 = 0
    · exact ⟨_, Ev.succ (g := fun _ => some (true, a, u - 1)) (fun k => by rw [vetchref18_Node.f, if_neg hu1, if_pos ⟨hi0, hi⟩, if_pos o0, hwr]) (Ev.const _), unit a (by omega) ha (fun _ => Int.le_refl _), fun _ => Ev.succ (g := fun _ => some (true, a, u - 1 + m)) (fun k => by rw [vetchref18_Node.f, if_neg hum, if_pos ⟨hi0, hi⟩, if_pos o0, hwm]) (Ev.const _)⟩
    by_cases o1 : (nodeAt G i).f0 = 1
    · by_cases hlt : a < (x.size : Int)
      · have hset := (hok _ (rd_mem56 G i hi0 hi)).2.2.2
        obtain ⟨b, hb1, hb2⟩ := has_ev (nodeAt G i).f3 hset (bt x a) (bt_range x a).1 (bt_range x a).2
        have stepR : ∀ u w : Int, ¬ u < 1 → wrap64 (u - 1) = w → ∀ k, vetchref18_Node.f (k + 1) R G i x a u = (vetchref01_Has.f k (nodeAt G i).f3.f0 (nodeAt G i).f3.f1 (nodeAt G i).f3.f2 (nodeAt G i).f3.f3 (bt x a)).bind fun b => if b = true then some (true, a + 1, w) else some (true, -1, w) := fun u w h1 h2 k => by
          rw [vetchref18_Node.f, if_neg h1, if_pos ⟨hi0, hi⟩, if_neg o0, if_pos o1, if_pos hlt, if_pos ha0, h2, w64p (a + 1) (by omega)]
        cases b with
        | true => exact ⟨_, Ev.succ (stepR u _ hu1 hwr) (Ev.bind hb2 (Ev.of_eq fun _ => if_pos rfl)), unit (a + 1) (by omega) (by omega) (fun _ => by omega), fun _ => Ev.succ (stepR (u + m) _ hum hwm) (Ev.bind hb2 (Ev.of_eq fun _ => if_pos rfl))⟩
        | false => exact ⟨_, Ev.succ (stepR u _ hu1 hwr) (Ev.bind hb2 (Ev.of_eq fun _ => if_neg (by decide))), unit (-1) (by omega) (by omega) (fun h => absurd h (by decide)), fun _ => Ev.succ (stepR (u + m) _ hum hwm) (Ev.bind hb2 (Ev.of_eq fun _ => if_neg (by decide)))⟩
      · exact ⟨_, Ev.succ (g := fun _ => some (true, -1, u - 1)) (fun k => by rw [vetchref18_Node.f, if_neg hu1, if_pos ⟨hi0, hi⟩, if_neg o0, if_pos o1, if_neg hlt, hwr]) (Ev.const _), unit (-1) (by omega) (by omega) (fun h => absurd h (by decide)), fun _ => Ev.succ (g := fun _ => some (true, -1, u - 1 + m)) (fun k => by rw [vetchref18_Node.f, if_neg hum, if_pos ⟨hi0, hi⟩, if_neg o0, if_pos o1, if_neg hlt, hwm]) (Ev.const _)⟩
    by_cases o2 : (nodeAt G i).f0 = 2
    · obtain ⟨p0, p1⟩ := m6 o2
      have hroot := hw.roots _ p0 p1
      obtain ⟨r, hr, hg, hf⟩ := ih (u - 1) (Int.le_refl _) (ruleAt R (nodeAt G i).f2).f1 a hroot.1 hroot.2 ha0 ha
      exact ⟨r, Ev.succ (fun k => by rw [vetchref18_Node.f, if_neg hu1, if_pos ⟨hi0, hi⟩, if_neg o0, if_neg o1, if_pos o2, if_pos ⟨p0, p1⟩, hwr]) hr, good_weaken hg (Int.le_refl _) (by omega), fun h => Ev.succ (fun k => by rw [vetchref18_Node.f, if_neg hum, if_pos ⟨hi0, hi⟩, if_neg o0, if_neg o1, if_pos o2, if_pos ⟨p0, p1⟩, hwm]) (hf h)⟩
    by_cases o3 : (nodeAt G i).f0 = 3
    · obtain ⟨r, hr, hg, hf⟩ := seq_fuel hx hG hw hok hkl m hm0 hm1 (u - 1) ih (nodeAt G i).f1 hkids' a (u - 1) (by omega) (Int.le_refl _) ha0 ha
      exact ⟨r, Ev.succ (fun k => by rw [vetchref18_Node.f, if_neg hu1, if_pos ⟨hi0, hi⟩, if_neg o0, if_neg o1, if_neg o2, if_pos o3, hwr]) hr, hg, fun h => Ev.succ (fun k => by rw [vetchref18_Node.f, if_neg hum, if_pos ⟨hi0, hi⟩, if_neg o0, if_neg o1, if_neg o2, if_pos o3, hwm]) (hf h)⟩
    by_cases o4 : (nodeAt G i).f0 = 4
    · obtain ⟨r, hr, hg, hf⟩ := cho_fuel hx hG hw hok hkl m hm0 hm1 (u - 1) a ha0 ha ih (nodeAt G i).f1 hkids' (-1) (u - 1) (by omega) (Int.le_refl _) rfl
      exact ⟨r, Ev.succ (fun k => by rw [vetchref18_Node.f, if_neg hu1, if_pos ⟨hi0, hi⟩, if_neg o0, if_neg o1, if_neg o2, if_neg o3, if_pos o4, hwr]) hr, hg, fun h => Ev.succ (fun k => by rw [vetchref18_Node.f, if_neg hum, if_pos ⟨hi0, hi⟩, if_neg o0, if_neg o1, if_neg o2, if_neg o3, if_pos o4, hwm]) (hf h)⟩
    have hop5 : 5 ≤ (nodeAt G i).f0 := by omega
    have hlen := m5 hop5
    have hne : (nodeAt G i).f1 ≠ [] := fun h => by rw [h] at hlen; simp at hlen
    have hl0 : (0 : Int) < ((nodeAt G i).f1.length : Int) := by omega
    have hkid := hkids' _ (rd_in hx hG hw hok hkl (nodeAt G i).f1 0 (Int.le_refl _) hl0)
    obtain ⟨⟨r1, r2, r3⟩, hr, hg, hf⟩ := ih (u - 1) (Int.le_refl _) (rd (nodeAt G i).f1 0) a hkid.1 hkid.2 ha0 ha
    have stepR : ∀ u w : Int, ¬ u < 1 → wrap64 (u - 1) = w → ∀ k, vetchref18_Node.f (k + 1) R G i x a u = (vetchref18_Node.f k R G (rd (nodeAt G i).f1 0) x a w).bind fun r =>
        if r.1 = false then some r else
        if (nodeAt G i).f0 = 7 then (if r.2.1 < 0 then some (true, a, r.2.2) else some r) else
        if (nodeAt G i).f0 = 8 then (if r.2.1 < 0 then some r else some (true, a, r.2.2)) else
        if (nodeAt G i).f0 = 9 then (if r.2.1 < 0 then some (true, a, r.2.2) else some (true, -1, r.2.2)) else
        if r.2.1 < 0 ∧ (nodeAt G i).f0 = 6 then some r else vetchref18_Node.repF (fun a u => vetchref18_Node.f k R G (rd (nodeAt G i).f1 0) x a u) k a r := fun u w h1 h2 k => by
      rw [vetchref18_Node.f, if_neg h1, if_pos ⟨hi0, hi⟩, if_neg o0, if_neg o1, if_neg o2, if_neg o3, if_neg o4, if_neg hne, h2]
    cases r1 with
    | false =>
      obtain ⟨u1, u2⟩ := hg.unk rfl
      dsimp only at u1 u2
      subst u1 u2
      exact ⟨(false, 0, 0), Ev.succ (stepR u _ hu1 hwr) (Ev.bind hr (Ev.of_eq fun _ => if_pos rfl)), ⟨fun h => absurd h (by simp), fun _ => ⟨rfl, rfl⟩⟩, fun h => absurd h (by simp)⟩
    | true =>
      obtain ⟨g1, g2, g3, g4, g5⟩ := hg.known rfl
      dsimp only at g1 g2 g3 g4 g5
      have hf1 := hf rfl
      dsimp only at hf1
      have fin : ∀ (e : Int), -1 ≤ e → e ≤ (x.size : Int) → (0 ≤ e → a ≤ e) → Good x a (u - 1) (true, e, r3) := fun e h1 h2 h3 =>
        ⟨fun _ => ⟨g1, by show r3 ≤ u - 1; omega, h1, h2, h3⟩, fun h => absurd h (by simp)⟩
      have both : ∀ (e : Int), -1 ≤ e → e ≤ (x.size : Int) → (0 ≤ e → a ≤ e) → (∀ l : Int, (if (true, r2, l).1 = false then some (true, r2, l) else
        if (nodeAt G i).f0 = 7 then (if (true, r2, l).2.1 < 0 then some (true, a, (true, r2, l).2.2) else some (true, r2, l)) else
        if (nodeAt G i).f0 = 8 then (if (true, r2, l).2.1 < 0 then some (true, r2, l) else some (true, a, (true, r2, l).2.2)) else
        if (nodeAt G i).f0 = 9 then (if (true, r2, l).2.1 < 0 then some (true, a, (true, r2, l).2.2) else some (true, -1, (true, r2, l).2.2)) else
        if (true, r2, l).2.1 < 0 ∧ (nodeAt G i).f0 = 6 then some (true, r2, l) else none) = some (true, e, l)) → FuelRel R G x m i a u := fun e h1 h2 h3 h4 => by
        have ex : ∀ (l : Int) (k : Nat), (if (true, r2, l).1 = false then some (true, r2, l) else
          if (nodeAt G i).f0 = 7 then (if (true, r2, l).2.1 < 0 then some (true, a, (true, r2, l).2.2) else some (true, r2, l)) else
          if (nodeAt G i).f0 = 8 then (if (true, r2, l).2.1 < 0 then some (true, r2, l) else some (true, a, (true, r2, l).2.2)) else
          if (nodeAt G i).f0 = 9 then (if (true, r2, l).2.1 < 0 then some (true, a, (true, r2, l).2.2) else some (true, -1, (true, r2, l).2.2)) else
          if (true, r2, l).2.1 < 0 ∧ (nodeAt G i).f0 = 6 then some (true, r2, l) else vetchref18_Node.repF (fun a u => vetchref18_Node.f k R G (rd (nodeAt G i).f1 0) x a u) k a (true, r2, l)) = some (true, e, l) := fun l k => by
          have := h4 l
          revert this
          repeat' split
          all_goals simp_all
        exact ⟨(true, e, r3), Ev.succ (stepR u _ hu1 hwr) (Ev.bind hr (Ev.of_eq fun k => ex r3 k)), fin e h1 h2 h3, fun _ => Ev.succ (stepR (u + m) _ hum hwm) (Ev.bind hf1 (Ev.of_eq fun k => ex (r3 + m) k))⟩
      by_cases o7 : (nodeAt G i).f0 = 7
      · by_cases he : r2 < 0
        · exact both a (by omega) ha (fun _ => Int.le_refl _) (fun l => by rw [if_neg (by simp), if_pos o7, if_pos he])
        · exact both r2 g3 g4 g5 (fun l => by rw [if_neg (by simp), if_pos o7, if_neg he])
      by_cases o8 : (nodeAt G i).f0 = 8
      · by_cases he : r2 < 0
        · exact both r2 g3 g4 g5 (fun l => by rw [if_neg (by simp), if_neg o7, if_pos o8, if_pos he])
        · exact both a (by omega) ha (fun _ => Int.le_refl _) (fun l => by rw [if_neg (by simp), if_neg o7, if_pos o8, if_neg he])
      by_cases o9 : (nodeAt G i).f0 = 9
      · by_cases he : r2 < 0
        · exact both a (by omega) ha (fun _ => Int.le_refl _) (fun l => by rw [if_neg (by simp), if_neg o7, if_neg o8, if_pos o9, if_pos he])
        · exact both (-1) (by omega) (by omega) (fun h => absurd h (by decide)) (fun l => by rw [if_neg (by simp), if_neg o7, if_neg o8, if_pos o9, if_neg he])
      by_cases h6 : r2 < 0 ∧ (nodeAt G i).f0 = 6
      · exact both r2 g3 g4 g5 (fun l => by rw [if_neg (by simp), if_neg o7, if_neg o8, if_neg o9, if_pos h6])
      by_cases he : 0 ≤ r2
      · obtain ⟨r', hr', hg', hf'⟩ := rep_fuel hx hG hw hok hkl m hm0 hm1 (u - 1) ih (rd (nodeAt G i).f1 0) hkid.1 hkid.2 r3.toNat r3 rfl g1 (by omega) r2 he g4
        exact ⟨r', Ev.succ (stepR u _ hu1 hwr) (Ev.bind hr (Ev.congr (fun k => by rw [if_neg (by simp), if_neg o7, if_neg o8, if_neg o9, if_neg h6]; rfl) (hr' 0 a))), good_weaken hg' (g5 he) (by omega), fun h => Ev.succ (stepR (u + m) _ hum hwm) (Ev.bind hf1 (Ev.congr (fun k => by rw [if_neg (by simp), if_neg o7, if_neg o8, if_neg o9, if_neg h6]; rfl) (hf' h 0 a)))⟩
      · exact ⟨(true, a, r3), Ev.succ (stepR u _ hu1 hwr) (Ev.bind hr (Ev.succ (g := fun _ => some (true, a, r3)) (fun k => by rw [if_neg (by simp), if_neg o7, if_neg o8, if_neg o9, if_neg h6, vetchref18_Node.repF, if_neg (fun h => he h.2), if_pos rfl]) (Ev.const _))), fin a (by omega) ha (fun _ => Int.le_refl _), fun _ => Ev.succ (stepR (u + m) _ hum hwm) (Ev.bind hf1 (Ev.succ (g := fun _ => some (true, a, r3 + m)) (fun k => by rw [if_neg (by simp), if_neg o7, if_neg o8, if_neg o9, if_neg h6, vetchref18_Node.repF, if_neg (fun h => he h.2), if_pos rfl]) (Ev.const _)))⟩
end
theorem Pure.PureNaiveFuel : ∀ (l0_0 : List RuleT) (l0_1 : List NodeT) (a1 : ByteArray) (a2 : Int) (a3 : Int), (l0_0.length ≤ maxLen ∧ ∀ y ∈ l0_0, Ok51 y) → (l0_1.length ≤ maxLen ∧ ∀ y ∈ l0_1, Ok56 y) → (a1.size ≤ maxLen) → ((Lit.int .i64 a2).wf = true) → ((Lit.int .u8 a3).wf = true) → ∃ k, vetchlaw18_NaiveFuel.f k l0_0 l0_1 a1 a2 a3 = some true := by
  intro R G x u m hR hG hx hu hm
  simp [Lit.wf, IntKind.min, IntKind.max, IntKind.signed, IntKind.bits] at hu hm
  obtain ⟨b, hb, hbs⟩ := fits_ev hR hG x u
  have fin : Ev (fun k => vetchlaw18_NaiveFuel.j0 k x u m (!b) R G) true := by
    cases b with
    | false => exact Ev.succ (fun k => by rw [vetchlaw18_NaiveFuel.j0, if_pos (by decide)]) (Ev.bind (g := fun _ t => some t) awake_ev (Ev.const _))
    | true =>
      obtain ⟨hw, h1, h2, h3, h4⟩ := hbs rfl
      have hr0 := hw.rules.1
      have hroot := hw.roots 0 (Int.le_refl _) (by omega)
      obtain ⟨s, e1, f1, g1⟩ := run_ev hR hG (x := x) (by omega) hw u (by omega)
      have hwm : wrap64 (u + wrap64 m) = u + m := by rw [w64p m (by omega), w64p (u + m) (by omega)]
      obtain ⟨s', e2, f2, g2⟩ := run_ev hR hG (x := x) (by omega) hw (u + m) (by omega)
      obtain ⟨r, e3, _, hf⟩ := node_fuel (x := x) (by omega) (by omega) hw hG.2 (kids_le hR hG hw) m hm.1 (by omega) u.toNat u (by omega) (by omega) (ruleAt R 0).f1 0 hroot.1 hroot.2 (Int.le_refl _) (by omega)
      obtain rfl := Ev.uniq e3 e1
      obtain ⟨r1, r2, r3⟩ := r
      obtain ⟨k1, f1⟩ := f1
      obtain ⟨k2, f2⟩ := f2
      dsimp only at f1 f2
      refine ⟨k1 + k2 + 1, fun j hj => ?_⟩
      obtain ⟨k, rfl⟩ : ∃ k, j = k + 1 := ⟨j - 1, by omega⟩
      show vetchlaw18_NaiveFuel.j0 (k + 1) x u m (!true) R G = some true
      rw [vetchlaw18_NaiveFuel.j0, if_neg (by decide), f1 k (by omega), Option.bind_some, hwm, f2 k (by omega), Option.bind_some]
      cases r1 with
      | false =>
        obtain ⟨u1, u2⟩ := g1.unk rfl
        dsimp only at u1 u2
        subst u1 u2
        rfl
      | true =>
        obtain rfl := Ev.uniq (hf rfl) e2
        obtain ⟨q1, q2, q3, q4, q5⟩ := g1.known rfl
        dsimp only at q1 q2 q3 q4 q5 ⊢
        rw [if_pos rfl, if_pos rfl, if_pos rfl, w64p m (by omega), w64p (r3 + m) (by omega), if_pos rfl, if_pos (by omega), if_pos (by omega), if_pos (by omega), decide_eq_true (by omega)]
  exact (Ev.bind awake_ev (Ev.congr (fun k => if_pos rfl) (Ev.bind hb fin))).out
end Go.Proofs.Ythgedejnpgcacaa.V
namespace Go.Proofs.Ythgedejnpgcacaa.naiveFuel
open Go.ChangeShapes Go.WideShapes Go.ChangeAt Go.RowKit Go.Proofs.Ythgedejnpgcacaa.Opens Go.Proofs.Ythgedejnpgcacaa.V Go.Proofs.YthgedejnpgcacaaW.PrintWords
open Go.ChangeMaps (open_string shut_string)
set_option linter.unusedVariables false
theorem own : ownKnob Try.prog.godebug = none := by kernel_rfl
theorem laidOut : laidOutB Try.prog = true := by kernel_rfl
set_option maxRecDepth 100000 in
theorem lifted (os : Os) (started : os.Started) (H : Type) (enc : TypeId × Value → H) :
    ReturnsInHanded {} Try.checked os 4 .any (Rows.naiveFuelSpec.pre6 enc Try.prog Try.f4 Rows.naiveFuelRow.domain false) (Rows.naiveFuelSpec.post enc Try.prog Try.f4 false true false false) := by
  refine returnsInHanded_of_change_sized (C := Try.checked) own started (by kernel_rfl) Try.func4
    (ChangeSpec.witness6 (enc := enc) (C := Try.checked) false ⟨#[], #[.agg #[.slice none 0 0, .slice none 0 0], .string ByteArray.empty, .int .i64 0, .int .u8 0], []⟩ 8 (by kernel_rfl) (by kernel_rfl) (by kernel_rfl) (by kernel_rfl)) ?_
  intro W base args ds gs before hval0 hW hcnd hsz0 _
  have hval : ∀ (j : Nat) t v, Try.f4.params[j]? = some t → args[j]? = some v → Value.okWide Try.prog W .any base t v := hval0
  have hW' := hW
  obtain ⟨p, q, hA0, hV, rfl, hfz, hnd⟩ := hW
  have hA : DataW.TrodAll enc Try.prog W 0 (fun _ => true) true Try.f4.params.toList args.toList ds p := hA0
  rw [Try.params4] at hA hval
  obtain ⟨v0, vs0, d0, ds0, p0, q0, hargs, rfl, rfl, h0, r0⟩ := trodAll_cons hA
  obtain ⟨v1, vs1, d1, ds1, p1, q1, rfl, rfl, rfl, h1, r1⟩ := trodAll_cons r0
  obtain ⟨v2, vs2, d2, ds2, p2, q2, rfl, rfl, rfl, h2, r2⟩ := trodAll_cons r1
  obtain ⟨v3, vs3, d3, ds3, p3, q3, rfl, rfl, rfl, h3, r3⟩ := trodAll_cons r2
  obtain ⟨rfl, rfl, rfl⟩ := trodAll_nil r3
  obtain rfl : args = #[v0, v1, v2, v3] := by cases args; simp_all
  obtain ⟨rfl, rfl⟩ := trodVars_none hV
  have lt0 := trod_lts h0
  obtain ⟨cs0, rfl, _⟩ := okWide_struct Try.underlying25 (hval 0 25 v0 rfl rfl)
  obtain ⟨b0, hK0, ok0⟩ := Opn.arg (opn25 W) h0
  obtain ⟨L0, hL0⟩ : ∃ L, L = cs0.toList := ⟨_, rfl⟩
  replace hK0 : ((Kd.pair (Kd.slice 51 k51) (Kd.slice 56 k56))).K W b0 L0 := by rw [hL0]; exact hK0
  obtain ⟨l0_0, l0_1⟩ := b0
  obtain ⟨_, _, rfl, ⟨A0_0, c0_0, rfl, lc0_0, g0_0⟩, ⟨A0_1, c0_1, rfl, lc0_1, g0_1⟩⟩ := hK0
  obtain ⟨w0_0, w0_1⟩ := ok0
  obtain rfl : cs0 = #[.slice A0_0 l0_0.length c0_0, .slice A0_1 l0_1.length c0_1] := by cases cs0; simp_all
  obtain ⟨a1, rfl, rfl, rfl, w1⟩ := open_string Try.underlying9 (hval 1 9 v1 rfl rfl) h1
  obtain ⟨a2, rfl, rfl, rfl, w2⟩ := open_int Try.underlying3 (hval 2 3 v2 rfl rfl) h2
  obtain ⟨a3, rfl, rfl, rfl, w3⟩ := open_int Try.underlying5 (hval 3 5 v3 rfl rfl) h3
  clear hA0 hval0 hsz0
  obtain ⟨k, hk⟩ := Pure.PureNaiveFuel l0_0 l0_1 a1 a2 a3 w0_0 w0_1 w1 w2 w3
  refine (vetchlaw18_NaiveFuel.calls k A0_0 c0_0 l0_0 A0_1 c0_1 l0_1 a1 a2 a3 true W g0_0 lc0_0 g0_1 lc0_1 hk).mono fun e W' ⟨he, bel⟩ => ?_
  subst he
  exact ⟨_, rfl, _, _, _, [], _, [], hW', trodAll_mk1 (shut_bool Try.underlying4 _), (trodAll_cons_mk (Below.trod laidOut (by kernel_rfl) (of_decide_eq_true (by kernel_rfl)) h0 bel lt0) (trodAll_cons_mk (shut_string Try.underlying9 w1) (trodAll_cons_mk (shut_int Try.underlying3 w2) (trodAll_cons_mk (shut_int Try.underlying5 w3) trodAll_mk0)))), rfl, bel.frame _, fun h => by cases h⟩
theorem over : Rows.naiveFuelRow.holds Try.pinned (OpenSpec.ofChange Rows.naiveFuelSpec) :=
  OpenClaim.holds_of_wide 4 Try.f4 rfl rfl rfl rfl rfl rfl rfl ⟨rfl, rfl, rfl, rfl, rfl⟩ rfl rfl rfl rfl rfl (by kernel_rfl) Try.func4 (by kernel_rfl)
    (of_decide_eq_true (by kernel_rfl)) (by unfold Func.isWrapper; first | (rw [if_pos (by decide +kernel)]; kernel_rfl) | (rw [if_neg (by decide +kernel)]; exact ⟨rfl, rfl⟩))
    (fun os started H enc _ => lifted os started H enc)
end Go.Proofs.Ythgedejnpgcacaa.naiveFuel
namespace Go.Proofs.Ythgedejnpgcacaa
theorem naiveFuel_holds : Rows.NaiveFuelSaid := naiveFuel.over
#print axioms naiveFuel_holds
end Go.Proofs.Ythgedejnpgcacaa
