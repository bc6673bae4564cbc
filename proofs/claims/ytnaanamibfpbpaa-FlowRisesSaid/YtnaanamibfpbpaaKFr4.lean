/- The law FlowRises returns true whatever comes in, and leaves its arguments as they were. No condition. -/
import Derived.Test.YtnaanamibfpbpaaKFr3
namespace Go.Proofs.Ytnaanamibfpbpaa.V
open Go.RowKit Go.Proofs.YtnaanamibfpbpaaW.PrintWords Go.Proofs.YtnaanamibfpbpaaW.PrintLast Go.Proofs.YtnaanamibfpbpaaW.PrintMore
set_option linter.unusedVariables false
set_option linter.unusedSimpArgs false
def qswap_T0 : Bool × List (List Nat × List Nat) := (true, [([], []), ([0], [0]), ([1], [1]), ([2], [2]), ([], []), ([], []), ([5], [5]), ([6], [6]), ([7], [7]), ([], []), ([], []), ([10], [10]), ([11], [11]), ([12], [12]), ([], []), ([13, 14], [13, 14]), ([15], [15]), ([], []), ([17], [17]), ([18], [18]), ([19], [19]), ([], []), ([20, 21], [20, 21]), ([22], [22]), ([3, 4, 0, 1, 2, 3, 4, 8, 10, 11, 12, 13, 14, 15, 16, 20, 23], [3, 4]), ([24, 16, 0, 1, 2, 3, 4, 8, 10, 11, 12, 13, 14, 15, 16, 20, 23], [16, 24]), ([8, 9, 0, 1, 2, 3, 4, 5, 6, 7, 8, 9, 10, 11, 12, 13, 14, 15, 16, 17, 18, 19, 20, 21, 22, 23, 24, 25], [8, 9]), ([26, 23, 25, 0, 1, 2, 3, 4, 5, 6, 7, 8, 9, 10, 11, 12, 13, 14, 15, 16, 17, 18, 19, 20, 21, 22, 23, 24, 25], [23, 26])])
def qswap_B0 : List Nat := [0, 1, 3, 7, 0, 0, 32, 96, 224, 0, 0, 1024, 3072, 7168, 0, 31744, 64512, 0, 131072, 393216, 917504, 0, 4063232, 8257536, 16776703, 33553919, 67108863, 134217727]
theorem qswap_tab0 : rtab .any (opsOf Try.f62 0) = qswap_T0 := by kernel_rfl
theorem qswap_bits0 : waitsOk qswap_T0.2 qswap_B0 = true := by kernel_rfl
def swapL (l : List Int) (i k : Int) : List Int := (l.set i.toNat (rd l k)).set k.toNat (rd l i)
theorem swapL_length (l : List Int) (i k : Int) : (swapL l i k).length = l.length := by simp [swapL]
set_option maxHeartbeats 4000000 in
set_option maxRecDepth 100000 in
theorem queue_Swap {base : Nat} {w : World} {g : Nat} {l : List Int} {b : List Bool} (h : IsQ base w g l b) (i k : Int) (hi0 : 0 ≤ i) (hi : i < (l.length : Int)) (hk0 : 0 ≤ k) (hk : k < (l.length : Int)) :
    Calls Try.prog 62 #[.pointer (some ⟨g, 0, none⟩), .int .i64 i, .int .i64 k] w fun e w' => e = .returned (.tuple #[]) ∧ IsQ base w' g (swapL l i k) b ∧ Below base w w' := by
  obtain ⟨gl, c, vb, h1, h2, h3, h4, h5, h6, h7⟩ := h.form (by omega)
  have x0 : w.cell? ⟨g, 0, none⟩ = some (.slice (some ⟨gl, 0, none⟩) l.length c) := (Qe h1 0).trans rfl
  have y0 := own_at h5 i hi0 hi
  have y1 := own_at h5 k hk0 hk
  have HE : Qa (IsQ base (((w.drew).setCell ⟨gl, i.toNat, none⟩ (.int .i64 (rd l k))).setCell ⟨gl, k.toNat, none⟩ (.int .i64 (rd l i))) g (swapL l i k) b ∧ Below base w (((w.drew).setCell ⟨gl, i.toNat, none⟩ (.int .i64 (rd l k))).setCell ⟨gl, k.toNat, none⟩ (.int .i64 (rd l i)))) := by
    refine ⟨⟨_, vb, Qn (Qn (Qb h1) h4.symm _) h4.symm _, h2, ?_, ?_⟩, ?_⟩
    · have q1 := own_put (W := w.drew) (pw_own_drewN h5 1) i (rd l k)
      rw [List.length_set] at q1
      have q2 := own_put (xs := l.set i.toNat (rd l k)) (by rw [List.length_set]; exact q1) k (rd l i)
      rw [List.length_set] at q2
      exact q2
    · exact own_setCell (own_setCell (pw_own_drewN h6 1) (fun e => h7 e.symm) _) (fun e => h7 e.symm) _
    · exact ((Ql (Below.refl _ _) 1).setCell (p := ⟨gl, i.toNat, none⟩) h3 _).setCell (p := ⟨gl, k.toNat, none⟩) h3 _
  have z0 : w.drew.frozen? ⟨gl, i.toNat, none⟩ = false := y0.2
  have q1 := own_put (W := w.drew) (pw_own_drewN h5 1) i (rd l k)
  have z1 := own_at (n := l.length) (xs := l.set i.toNat (rd l k)) (by rw [List.length_set] at q1; exact q1) k hk0 hk
  replace hi0 := eq_true hi0
  replace hk0 := eq_true hk0
  replace hi := eq_true hi
  replace hk := eq_true hk
  clear h h1 h2 h3 h4 h5 h6 h7 q1
  have hu51 := Try.underlying51
  go_enter Try.func62, Try.ntmps62
  go_upto_region 0 with (fail)
  refine start_ (n := 28) (S := fun w' => w'.cell? ⟨g, 0, none⟩ = some (.slice (some ⟨gl, 0, none⟩) l.length c) ∧ w'.cell? ⟨gl, i.toNat, none⟩ = some (.int .i64 (rd l i)) ∧ w'.cell? ⟨gl, k.toNat, none⟩ = some (.int .i64 (rd l k))) (ds := [25, 27]) #[Y, Y, Y, Y, Y, Y, Y, Y, Y, Y, Y, Y, Y, Y, Y, Y, Y, Y, Y, Y, Y, Y, Y, Y, Y, Y, Y, Y] (by kernel_rfl) rfl rfl ⟨x0, y0.1, y1.1⟩ (fun hHeld => ?_); refine with_tabW qswap_tab0 qswap_bits0 (fun HT_ HW_ => ?_)
  clear y0 y1
  generalize w.drew = W0 at HE z0 z1 hHeld ⊢
  refine pure_ (i := 0) (N := (some 6)) (v := ?_) (a' := ?_) #[J, Y, Y, Y, Y, Y, Y, Y, Y, Y, Y, Y, Y, Y, Y, Y, Y, Y, Y, Y, Y, Y, Y, Y, Y, Y, Y, Y] rfl rfl (Qm HT_.out (by kernel_rfl)) (fun _ _ _ h => h) (Or.inl ⟨by rfl, ?_⟩) ?_ ?_
  rotate_left
  ·
   intro w'
   go_simp
   with_reducible rfl
  rotate_left
  ·
   simp only [Act.put, List.setIfInBounds_toArray, List.set_cons_zero, List.set_cons_succ, i64_w, i32_w]
   rfl
  refine pure_ (i := 1) (N := (some 7)) (v := ?_) (a' := ?_) #[J, J, Y, Y, Y, Y, Y, Y, Y, Y, Y, Y, Y, Y, Y, Y, Y, Y, Y, Y, Y, Y, Y, Y, Y, Y, Y, Y] rfl rfl (Qm HT_.out (by kernel_rfl)) (fun _ _ _ h => h) (Or.inl ⟨by rfl, ?_⟩) ?_ ?_
  rotate_left
  ·
   intro w'
   go_simp
   with_reducible rfl
  rotate_left
  ·
   simp only [Act.put, List.setIfInBounds_toArray, List.set_cons_zero, List.set_cons_succ, i64_w, i32_w]
   rfl
  refine pure_ (i := 2) (N := (some 8)) (v := ?_) (a' := ?_) #[J, J, J, Y, Y, Y, Y, Y, Y, Y, Y, Y, Y, Y, Y, Y, Y, Y, Y, Y, Y, Y, Y, Y, Y, Y, Y, Y] rfl rfl (Qm HT_.out (by kernel_rfl)) (fun _ _ _ h => h) (Or.inl ⟨by rfl, ?_⟩) ?_ ?_
  rotate_left
  ·
   intro w'
   go_simp
   with_reducible rfl
  rotate_left
  ·
   simp only [Act.put, List.setIfInBounds_toArray, List.set_cons_zero, List.set_cons_succ, i64_w, i32_w]
   rfl
  refine take_ (i := 3) (N := (some 9)) (v := ?_) (a' := ?_) #[J, J, J, J, Y, Y, Y, Y, Y, Y, Y, Y, Y, Y, Y, Y, Y, Y, Y, Y, Y, Y, Y, Y, Y, Y, Y, Y] rfl rfl (Qm1 HT_.out HW_.out (by kernel_rfl)) (fun _ _ _ h => h) (Or.inl ⟨by rfl, ?_⟩) hHeld ?_ ?_
  rotate_left
  ·
   rintro w' ⟨s0, s1, s2⟩
   go_simp
   with_reducible rfl
  rotate_left
  ·
   simp only [Act.put, List.setIfInBounds_toArray, List.set_cons_zero, List.set_cons_succ, i64_w, i32_w]
   rfl
  refine pure_ (i := 4) (N := (some 10)) (v := ?_) (a' := ?_) #[J, J, J, J, J, Y, Y, Y, Y, Y, Y, Y, Y, Y, Y, Y, Y, Y, Y, Y, Y, Y, Y, Y, Y, Y, Y, Y] rfl rfl (Qm HT_.out (by kernel_rfl)) (fun _ _ _ h => h) (Or.inl ⟨by rfl, ?_⟩) ?_ ?_
  rotate_left
  ·
   intro w'
   go_simp
   with_reducible rfl
  rotate_left
  ·
   simp only [Act.put, List.setIfInBounds_toArray, List.set_cons_zero, List.set_cons_succ, i64_w, i32_w]
   rfl
  refine pure_ (i := 5) (N := (some 11)) (v := ?_) (a' := ?_) #[J, J, J, J, J, J, Y, Y, Y, Y, Y, Y, Y, Y, Y, Y, Y, Y, Y, Y, Y, Y, Y, Y, Y, Y, Y, Y] rfl rfl (Qm HT_.out (by kernel_rfl)) (fun _ _ _ h => h) (Or.inl ⟨by rfl, ?_⟩) ?_ ?_
  rotate_left
  ·
   intro w'
   go_simp
   with_reducible rfl
  rotate_left
  ·
   simp only [Act.put, List.setIfInBounds_toArray, List.set_cons_zero, List.set_cons_succ, i64_w, i32_w]
   rfl
  refine pure_ (i := 6) (N := (some 12)) (v := ?_) (a' := ?_) #[J, J, J, J, J, J, J, Y, Y, Y, Y, Y, Y, Y, Y, Y, Y, Y, Y, Y, Y, Y, Y, Y, Y, Y, Y, Y] rfl rfl (Qm HT_.out (by kernel_rfl)) (fun _ _ _ h => h) (Or.inl ⟨by rfl, ?_⟩) ?_ ?_
  rotate_left
  ·
   intro w'
   go_simp
   with_reducible rfl
  rotate_left
  ·
   simp only [Act.put, List.setIfInBounds_toArray, List.set_cons_zero, List.set_cons_succ, i64_w, i32_w]
   rfl
  refine pure_ (i := 7) (N := (some 13)) (v := ?_) (a' := ?_) #[J, J, J, J, J, J, J, J, Y, Y, Y, Y, Y, Y, Y, Y, Y, Y, Y, Y, Y, Y, Y, Y, Y, Y, Y, Y] rfl rfl (Qm HT_.out (by kernel_rfl)) (fun _ _ _ h => h) (Or.inl ⟨by rfl, ?_⟩) ?_ ?_
  rotate_left
  ·
   intro w'
   go_simp
   with_reducible rfl
  rotate_left
  ·
   simp only [Act.put, List.setIfInBounds_toArray, List.set_cons_zero, List.set_cons_succ, i64_w, i32_w]
   rfl
  refine take_ (i := 8) (N := (some 14)) (v := ?_) (a' := ?_) #[J, J, J, J, J, J, J, J, J, Y, Y, Y, Y, Y, Y, Y, Y, Y, Y, Y, Y, Y, Y, Y, Y, Y, Y, Y] rfl rfl (Qm1 HT_.out HW_.out (by kernel_rfl)) (fun _ _ _ h => h) (Or.inl ⟨by rfl, ?_⟩) hHeld ?_ ?_
  rotate_left
  ·
   rintro w' ⟨s0, s1, s2⟩
   go_simp
   with_reducible rfl
  rotate_left
  ·
   simp only [Act.put, List.setIfInBounds_toArray, List.set_cons_zero, List.set_cons_succ, i64_w, i32_w]
   rfl
  refine pure_ (i := 9) (N := (some 15)) (v := ?_) (a' := ?_) #[J, J, J, J, J, J, J, J, J, J, Y, Y, Y, Y, Y, Y, Y, Y, Y, Y, Y, Y, Y, Y, Y, Y, Y, Y] rfl rfl (Qm HT_.out (by kernel_rfl)) (fun _ _ _ h => h) (Or.inl ⟨by rfl, ?_⟩) ?_ ?_
  rotate_left
  ·
   intro w'
   go_simp
   with_reducible rfl
  rotate_left
  ·
   simp only [Act.put, List.setIfInBounds_toArray, List.set_cons_zero, List.set_cons_succ, i64_w, i32_w]
   rfl
  refine pure_ (i := 10) (N := (some 16)) (v := ?_) (a' := ?_) #[J, J, J, J, J, J, J, J, J, J, J, Y, Y, Y, Y, Y, Y, Y, Y, Y, Y, Y, Y, Y, Y, Y, Y, Y] rfl rfl (Qm HT_.out (by kernel_rfl)) (fun _ _ _ h => h) (Or.inl ⟨by rfl, ?_⟩) ?_ ?_
  rotate_left
  ·
   intro w'
   go_simp
   with_reducible rfl
  rotate_left
  ·
   simp only [Act.put, List.setIfInBounds_toArray, List.set_cons_zero, List.set_cons_succ, i64_w, i32_w]
   rfl
  refine pure_ (i := 11) (N := (some 17)) (v := ?_) (a' := ?_) #[J, J, J, J, J, J, J, J, J, J, J, J, Y, Y, Y, Y, Y, Y, Y, Y, Y, Y, Y, Y, Y, Y, Y, Y] rfl rfl (Qm HT_.out (by kernel_rfl)) (fun _ _ _ h => h) (Or.inl ⟨by rfl, ?_⟩) ?_ ?_
  rotate_left
  ·
   intro w'
   go_simp
   with_reducible rfl
  rotate_left
  ·
   simp only [Act.put, List.setIfInBounds_toArray, List.set_cons_zero, List.set_cons_succ, i64_w, i32_w]
   rfl
  refine pure_ (i := 12) (N := (some 18)) (v := ?_) (a' := ?_) #[J, J, J, J, J, J, J, J, J, J, J, J, J, Y, Y, Y, Y, Y, Y, Y, Y, Y, Y, Y, Y, Y, Y, Y] rfl rfl (Qm HT_.out (by kernel_rfl)) (fun _ _ _ h => h) (Or.inl ⟨by rfl, ?_⟩) ?_ ?_
  rotate_left
  ·
   intro w'
   go_simp
   with_reducible rfl
  rotate_left
  ·
   simp only [Act.put, List.setIfInBounds_toArray, List.set_cons_zero, List.set_cons_succ, i64_w, i32_w]
   rfl
  refine take_ (i := 13) (N := (some 19)) (v := ?_) (a' := ?_) #[J, J, J, J, J, J, J, J, J, J, J, J, J, J, Y, Y, Y, Y, Y, Y, Y, Y, Y, Y, Y, Y, Y, Y] rfl rfl (Qm1 HT_.out HW_.out (by kernel_rfl)) (fun _ _ _ h => h) (Or.inl ⟨by rfl, ?_⟩) hHeld ?_ ?_
  rotate_left
  ·
   rintro w' ⟨s0, s1, s2⟩
   go_simp
   with_reducible rfl
  rotate_left
  ·
   simp only [Act.put, List.setIfInBounds_toArray, List.set_cons_zero, List.set_cons_succ, i64_w, i32_w]
   rfl
  refine pure_ (i := 14) (N := (some 20)) (v := ?_) (a' := ?_) #[J, J, J, J, J, J, J, J, J, J, J, J, J, J, J, Y, Y, Y, Y, Y, Y, Y, Y, Y, Y, Y, Y, Y] rfl rfl (Qm HT_.out (by kernel_rfl)) (fun _ _ _ h => h) (Or.inl ⟨by rfl, ?_⟩) ?_ ?_
  rotate_left
  ·
   intro w'
   go_simp
   with_reducible rfl
  rotate_left
  ·
   simp only [Act.put, List.setIfInBounds_toArray, List.set_cons_zero, List.set_cons_succ, i64_w, i32_w]
   rfl
  refine pure_ (i := 15) (N := (some 21)) (v := ?_) (a' := ?_) #[J, J, J, J, J, J, J, J, J, J, J, J, J, J, J, J, Y, Y, Y, Y, Y, Y, Y, Y, Y, Y, Y, Y] rfl rfl (Qm HT_.out (by kernel_rfl)) (fun _ _ _ h => h) (Or.inl ⟨by rfl, ?_⟩) ?_ ?_
  rotate_left
  ·
   intro w'
   go_simp
   with_reducible rfl
  rotate_left
  ·
   simp only [Act.put, List.setIfInBounds_toArray, List.set_cons_zero, List.set_cons_succ, i64_w, i32_w]
   rfl
  refine take_ (i := 16) (N := (some 22)) (v := ?_) (a' := ?_) #[J, J, J, J, J, J, J, J, J, J, J, J, J, J, J, J, J, Y, Y, Y, Y, Y, Y, Y, Y, Y, Y, Y] rfl rfl (Qm1 HT_.out HW_.out (by kernel_rfl)) (fun _ _ _ h => h) (Or.inl ⟨by rfl, ?_⟩) hHeld ?_ ?_
  rotate_left
  ·
   rintro w' ⟨s0, s1, s2⟩
   go_simp
   with_reducible rfl
  rotate_left
  ·
   simp only [Act.put, List.setIfInBounds_toArray, List.set_cons_zero, List.set_cons_succ, i64_w, i32_w]
   rfl
  refine pure_ (i := 17) (N := (some 23)) (v := ?_) (a' := ?_) #[J, J, J, J, J, J, J, J, J, J, J, J, J, J, J, J, J, J, Y, Y, Y, Y, Y, Y, Y, Y, Y, Y] rfl rfl (Qm HT_.out (by kernel_rfl)) (fun _ _ _ h => h) (Or.inl ⟨by rfl, ?_⟩) ?_ ?_
  rotate_left
  ·
   intro w'
   go_simp
   with_reducible rfl
  rotate_left
  ·
   simp only [Act.put, List.setIfInBounds_toArray, List.set_cons_zero, List.set_cons_succ, i64_w, i32_w]
   rfl
  refine pure_ (i := 18) (N := (some 24)) (v := ?_) (a' := ?_) #[J, J, J, J, J, J, J, J, J, J, J, J, J, J, J, J, J, J, J, Y, Y, Y, Y, Y, Y, Y, Y, Y] rfl rfl (Qm HT_.out (by kernel_rfl)) (fun _ _ _ h => h) (Or.inl ⟨by rfl, ?_⟩) ?_ ?_
  rotate_left
  ·
   intro w'
   go_simp
   with_reducible rfl
  rotate_left
  ·
   simp only [Act.put, List.setIfInBounds_toArray, List.set_cons_zero, List.set_cons_succ, i64_w, i32_w]
   rfl
  refine pure_ (i := 19) (N := (some 25)) (v := ?_) (a' := ?_) #[J, J, J, J, J, J, J, J, J, J, J, J, J, J, J, J, J, J, J, J, Y, Y, Y, Y, Y, Y, Y, Y] rfl rfl (Qm HT_.out (by kernel_rfl)) (fun _ _ _ h => h) (Or.inl ⟨by rfl, ?_⟩) ?_ ?_
  rotate_left
  ·
   intro w'
   go_simp
   with_reducible rfl
  rotate_left
  ·
   simp only [Act.put, List.setIfInBounds_toArray, List.set_cons_zero, List.set_cons_succ, i64_w, i32_w]
   rfl
  refine take_ (i := 20) (N := (some 26)) (v := ?_) (a' := ?_) #[J, J, J, J, J, J, J, J, J, J, J, J, J, J, J, J, J, J, J, J, J, Y, Y, Y, Y, Y, Y, Y] rfl rfl (Qm1 HT_.out HW_.out (by kernel_rfl)) (fun _ _ _ h => h) (Or.inl ⟨by rfl, ?_⟩) hHeld ?_ ?_
  rotate_left
  ·
   rintro w' ⟨s0, s1, s2⟩
   go_simp
   with_reducible rfl
  rotate_left
  ·
   simp only [Act.put, List.setIfInBounds_toArray, List.set_cons_zero, List.set_cons_succ, i64_w, i32_w]
   rfl
  refine pure_ (i := 21) (N := (some 27)) (v := ?_) (a' := ?_) #[J, J, J, J, J, J, J, J, J, J, J, J, J, J, J, J, J, J, J, J, J, J, Y, Y, Y, Y, Y, Y] rfl rfl (Qm HT_.out (by kernel_rfl)) (fun _ _ _ h => h) (Or.inl ⟨by rfl, ?_⟩) ?_ ?_
  rotate_left
  ·
   intro w'
   go_simp
   with_reducible rfl
  rotate_left
  ·
   simp only [Act.put, List.setIfInBounds_toArray, List.set_cons_zero, List.set_cons_succ, i64_w, i32_w]
   rfl
  refine pure_ (i := 22) (N := (some 28)) (v := ?_) (a' := ?_) #[J, J, J, J, J, J, J, J, J, J, J, J, J, J, J, J, J, J, J, J, J, J, J, Y, Y, Y, Y, Y] rfl rfl (Qm HT_.out (by kernel_rfl)) (fun _ _ _ h => h) (Or.inl ⟨by rfl, ?_⟩) ?_ ?_
  rotate_left
  ·
   intro w'
   go_simp
   with_reducible rfl
  rotate_left
  ·
   simp only [Act.put, List.setIfInBounds_toArray, List.set_cons_zero, List.set_cons_succ, i64_w, i32_w]
   rfl
  refine take_ (i := 23) (N := (some 29)) (v := ?_) (a' := ?_) #[J, J, J, J, J, J, J, J, J, J, J, J, J, J, J, J, J, J, J, J, J, J, J, J, Y, Y, Y, Y] rfl rfl (Qm1 HT_.out HW_.out (by kernel_rfl)) (fun _ _ _ h => h) (Or.inl ⟨by rfl, ?_⟩) hHeld ?_ ?_
  rotate_left
  ·
   rintro w' ⟨s0, s1, s2⟩
   go_simp
   with_reducible rfl
  rotate_left
  ·
   simp only [Act.put, List.setIfInBounds_toArray, List.set_cons_zero, List.set_cons_succ, i64_w, i32_w]
   rfl
  refine pure_ (i := 24) (N := (some 30)) (v := ?_) (a' := ?_) #[J, J, J, J, J, J, J, J, J, J, J, J, J, J, J, J, J, J, J, J, J, J, J, J, J, Y, Y, Y] rfl rfl (Qm HT_.out (by kernel_rfl)) (fun _ _ _ h => h) (Or.inl ⟨by rfl, ?_⟩) ?_ ?_
  rotate_left
  ·
   intro w'
   go_simp
   with_reducible rfl
  rotate_left
  ·
   simp only [Act.put, List.setIfInBounds_toArray, List.set_cons_zero, List.set_cons_succ, i64_w, i32_w]
   rfl
  have s1 := hHeld.2.1
  refine last_ (i := 25) (N := none) #[J, J, J, J, J, J, J, J, J, J, J, J, J, J, J, J, J, J, J, J, J, J, J, J, J, J, Y, Y] rfl rfl (one_of HT_.out (by kernel_rfl)) (by decide) (fun K hK => ?_)
  refine skip_ (w1 := ?_) (by rfl) rfl ?_ ?_
  rotate_left
  ·
   go_simp
   rfl
  refine hK.out _ _ ?_
  clear hK K
  clear s1 hHeld z0
  generalize W0.setCell ⟨gl, i.toNat, none⟩ (.int .i64 (rd l k)) = W1 at HE z1 ⊢
  obtain ⟨z1, z2⟩ := z1
  refine pure_ (i := 26) (N := (some 31)) (v := ?_) (a' := ?_) #[J, J, J, J, J, J, J, J, J, J, J, J, J, J, J, J, J, J, J, J, J, J, J, J, J, J, J, Y] rfl rfl (Qm HT_.out (by kernel_rfl)) (fun _ _ _ h => h) (Or.inl ⟨by rfl, ?_⟩) ?_ ?_
  rotate_left
  ·
   intro w'
   go_simp
   with_reducible rfl
  rotate_left
  ·
   simp only [Act.put, List.setIfInBounds_toArray, List.set_cons_zero, List.set_cons_succ, i64_w, i32_w]
   rfl
  refine last_ (i := 27) (N := none) #[J, J, J, J, J, J, J, J, J, J, J, J, J, J, J, J, J, J, J, J, J, J, J, J, J, J, J, J] rfl rfl (one_of HT_.out (by kernel_rfl)) (by decide) (fun K hK => ?_)
  refine skip_ (w1 := ?_) (by rfl) rfl ?_ ?_
  rotate_left
  ·
   go_simp
   rfl
  refine hK.out _ _ ?_
  clear hK K
  refine done_ (done_of HT_.out (by kernel_rfl)) ?_
  go_wp2
  go_end0
  exact ⟨rfl, HE.out⟩
def qpush_T2 : Bool × List (List Nat × List Nat) := (true, [([], []), ([], []), ([1], [1]), ([2], [2]), ([3], [3]), ([], []), ([], []), ([6], [6]), ([7], [7]), ([8], [8]), ([], []), ([10], [10]), ([9, 11], [9, 11]), ([0, 0, 4, 6, 7, 8, 9, 10, 11, 12], [0]), ([13, 0, 4, 6, 7, 8, 9, 10, 11, 12], [13]), ([14, 12, 12, 0, 4, 6, 7, 8, 9, 10, 11, 12], [12, 14]), ([4, 5, 0, 1, 2, 3, 4, 5, 6, 7, 8, 9, 10, 11, 12, 13, 14, 15], [4, 5]), ([16, 15, 0, 1, 2, 3, 4, 5, 6, 7, 8, 9, 10, 11, 12, 13, 14, 15], [16])])
def qpush_B2 : List Nat := [0, 0, 2, 6, 14, 0, 0, 64, 192, 448, 0, 1024, 4032, 8159, 16351, 32735, 65535, 131071]
theorem qpush_tab2 : rtab .any (opsOf Try.f61 2) = qpush_T2 := by kernel_rfl
theorem qpush_bits2 : waitsOk qpush_T2.2 qpush_B2 = true := by kernel_rfl
set_option maxHeartbeats 4000000 in
set_option maxRecDepth 100000 in
theorem queue_Push {base : Nat} {w : World} {g : Nat} {l : List Int} {b : List Bool} (h : IsQ base w g l b) (hbase : base ≤ w.heap.size) (i : Int) (hi0 : 0 ≤ i) (hi : i < (b.length : Int)) (hl : (l.length + 1) * 8 ≤ 140737488355328) :
    Calls Try.prog 61 #[.pointer (some ⟨g, 0, none⟩), .iface 3 (.int .i64 i)] w fun e w' => e = .returned (.tuple #[]) ∧ IsQ base w' g (l ++ [i]) (b.set i.toNat true) ∧ Below base w w' := by
  obtain ⟨vl, gb, d, h1, h2, h3, h4, h5, h6, h7⟩ := h.marks (by omega)
  obtain ⟨A, c, rfl⟩ := own_slice h5
  have x0 : w.cell? ⟨g, 0, none⟩ = some (.slice A l.length c) := (Qe h1 0).trans rfl
  have x1 : w.cell? ⟨g, 1, none⟩ = some (.slice (some ⟨gb, 0, none⟩) b.length d) := (Qe h1 1).trans rfl
  have H := Qa.mk (And.intro h1 (And.intro h2 (And.intro h3 (And.intro h4 (And.intro h5 (And.intro h6 (And.intro hbase (And.intro hi0 (And.intro hi hl)))))))))
  replace hi0 := eq_true hi0
  replace hi := eq_true hi
  clear h h1 h2 h3 h4 h5 h6 h7 hl hbase
  have hu51 := Try.underlying51
  have hu57 := Try.underlying57
  have hta : ∀ w : World, (Instr.typeAssert (.iface 3 (.int .i64 i)) 20 3 true).run Try.prog w = .ok (.tuple #[.int .i64 i, .bool true]) w := fun _ => by kernel_rfl
  go_enter Try.func61, Try.ntmps61
  go_upto_region 2 with (fail)
  refine start_ (n := 18) (S := fun w' => w'.cell? ⟨g, 0, none⟩ = some (.slice A l.length c) ∧ w'.cell? ⟨g, 1, none⟩ = some (.slice (some ⟨gb, 0, none⟩) b.length d)) (ds := [15, 17]) #[Y, Y, Y, Y, Y, Y, Y, Y, Y, Y, Y, Y, Y, Y, Y, Y, Y, Y] (by kernel_rfl) rfl rfl ⟨x0, x1⟩ (fun hHeld => ?_); refine with_tabW qpush_tab2 qpush_bits2 (fun HT_ HW_ => ?_)
  have K1 := Qa.mk (below_drew (B := base) (Below.refl base w))
  have K2 := Qa.mk (Qb H.out.1)
  have K3 := Qa.mk (pw_own_drewN H.out.2.2.2.2.1 1)
  have K4 := Qa.mk (pw_own_drewN H.out.2.2.2.2.2.1 1)
  have K5 : Qa (base ≤ w.drew.heap.size) := ⟨H.out.2.2.2.2.2.2.1⟩
  clear x0 x1
  change Qa (w.drew.ownsRow _ _ _ _ _ _) at K3 K4
  generalize w.drew = W0 at K1 K2 K3 K4 K5 hHeld ⊢
  refine pure_ (i := 0) (N := (some 12)) (v := ?_) (a' := ?_) #[J, Y, Y, Y, Y, Y, Y, Y, Y, Y, Y, Y, Y, Y, Y, Y, Y, Y] rfl rfl (Qm HT_.out (by kernel_rfl)) (fun _ _ _ h => h) (Or.inl ⟨by rfl, ?_⟩) ?_ ?_
  rotate_left
  ·
   intro w'
   go_simp
   with_reducible rfl
  rotate_left
  ·
   simp only [Act.put, List.setIfInBounds_toArray, List.set_cons_zero, List.set_cons_succ, i64_w, i32_w]
   rfl
  refine pure_ (i := 1) (N := (some 13)) (v := ?_) (a' := ?_) #[J, J, Y, Y, Y, Y, Y, Y, Y, Y, Y, Y, Y, Y, Y, Y, Y, Y] rfl rfl (Qm HT_.out (by kernel_rfl)) (fun _ _ _ h => h) (Or.inl ⟨by rfl, ?_⟩) ?_ ?_
  rotate_left
  ·
   intro w'
   go_simp
   with_reducible rfl
  rotate_left
  ·
   simp only [Act.put, List.setIfInBounds_toArray, List.set_cons_zero, List.set_cons_succ, i64_w, i32_w]
   rfl
  refine pure_ (i := 2) (N := (some 14)) (v := ?_) (a' := ?_) #[J, J, J, Y, Y, Y, Y, Y, Y, Y, Y, Y, Y, Y, Y, Y, Y, Y] rfl rfl (Qm HT_.out (by kernel_rfl)) (fun _ _ _ h => h) (Or.inl ⟨by rfl, ?_⟩) ?_ ?_
  rotate_left
  ·
   intro w'
   go_simp
   with_reducible rfl
  rotate_left
  ·
   simp only [Act.put, List.setIfInBounds_toArray, List.set_cons_zero, List.set_cons_succ, i64_w, i32_w]
   rfl
  refine pure_ (i := 3) (N := (some 15)) (v := ?_) (a' := ?_) #[J, J, J, J, Y, Y, Y, Y, Y, Y, Y, Y, Y, Y, Y, Y, Y, Y] rfl rfl (Qm HT_.out (by kernel_rfl)) (fun _ _ _ h => h) (Or.inl ⟨by rfl, ?_⟩) ?_ ?_
  rotate_left
  ·
   intro w'
   go_simp
   with_reducible rfl
  rotate_left
  ·
   simp only [Act.put, List.setIfInBounds_toArray, List.set_cons_zero, List.set_cons_succ, i64_w, i32_w]
   rfl
  refine take_ (i := 4) (N := (some 16)) (v := ?_) (a' := ?_) #[J, J, J, J, J, Y, Y, Y, Y, Y, Y, Y, Y, Y, Y, Y, Y, Y] rfl rfl (Qm1 HT_.out HW_.out (by kernel_rfl)) (fun _ _ _ h => h) (Or.inl ⟨by rfl, ?_⟩) hHeld ?_ ?_
  rotate_left
  ·
   rintro w' ⟨s0, s1⟩
   go_simp
   with_reducible rfl
  rotate_left
  ·
   simp only [Act.put, List.setIfInBounds_toArray, List.set_cons_zero, List.set_cons_succ, i64_w, i32_w]
   rfl
  refine pure_ (i := 5) (N := (some 17)) (v := ?_) (a' := ?_) #[J, J, J, J, J, J, Y, Y, Y, Y, Y, Y, Y, Y, Y, Y, Y, Y] rfl rfl (Qm HT_.out (by kernel_rfl)) (fun _ _ _ h => h) (Or.inl ⟨by rfl, ?_⟩) ?_ ?_
  rotate_left
  ·
   intro w'
   go_simp
   with_reducible rfl
  rotate_left
  ·
   simp only [Act.put, List.setIfInBounds_toArray, List.set_cons_zero, List.set_cons_succ, i64_w, i32_w]
   rfl
  refine pure_ (i := 6) (N := (some 18)) (v := ?_) (a' := ?_) #[J, J, J, J, J, J, J, Y, Y, Y, Y, Y, Y, Y, Y, Y, Y, Y] rfl rfl (Qm HT_.out (by kernel_rfl)) (fun _ _ _ h => h) (Or.inl ⟨by rfl, ?_⟩) ?_ ?_
  rotate_left
  ·
   intro w'
   go_simp
   with_reducible rfl
  rotate_left
  ·
   simp only [Act.put, List.setIfInBounds_toArray, List.set_cons_zero, List.set_cons_succ, i64_w, i32_w]
   rfl
  refine pure_ (i := 7) (N := (some 19)) (v := ?_) (a' := ?_) #[J, J, J, J, J, J, J, J, Y, Y, Y, Y, Y, Y, Y, Y, Y, Y] rfl rfl (Qm HT_.out (by kernel_rfl)) (fun _ _ _ h => h) (Or.inl ⟨by rfl, ?_⟩) ?_ ?_
  rotate_left
  ·
   intro w'
   go_simp
   with_reducible rfl
  rotate_left
  ·
   simp only [Act.put, List.setIfInBounds_toArray, List.set_cons_zero, List.set_cons_succ, i64_w, i32_w]
   rfl
  refine pure_ (i := 8) (N := (some 20)) (v := ?_) (a' := ?_) #[J, J, J, J, J, J, J, J, J, Y, Y, Y, Y, Y, Y, Y, Y, Y] rfl rfl (Qm HT_.out (by kernel_rfl)) (fun _ _ _ h => h) (Or.inl ⟨by rfl, ?_⟩) ?_ ?_
  rotate_left
  ·
   intro w'
   go_simp
   with_reducible rfl
  rotate_left
  ·
   simp only [Act.put, List.setIfInBounds_toArray, List.set_cons_zero, List.set_cons_succ, i64_w, i32_w]
   rfl
  refine take_ (i := 9) (N := (some 21)) (v := ?_) (a' := ?_) #[J, J, J, J, J, J, J, J, J, J, Y, Y, Y, Y, Y, Y, Y, Y] rfl rfl (Qm1 HT_.out HW_.out (by kernel_rfl)) (fun _ _ _ h => h) (Or.inl ⟨by rfl, ?_⟩) hHeld ?_ ?_
  rotate_left
  ·
   rintro w' ⟨s0, s1⟩
   go_simp
   with_reducible rfl
  rotate_left
  ·
   simp only [Act.put, List.setIfInBounds_toArray, List.set_cons_zero, List.set_cons_succ, i64_w, i32_w]
   rfl
  refine pure_ (i := 10) (N := (some 22)) (v := ?_) (a' := ?_) #[J, J, J, J, J, J, J, J, J, J, J, Y, Y, Y, Y, Y, Y, Y] rfl rfl (Qm HT_.out (by kernel_rfl)) (fun _ _ _ h => h) (Or.inl ⟨by rfl, ?_⟩) ?_ ?_
  rotate_left
  ·
   intro w'
   go_simp
   with_reducible rfl
  rotate_left
  ·
   simp only [Act.put, List.setIfInBounds_toArray, List.set_cons_zero, List.set_cons_succ, i64_w, i32_w]
   rfl
  refine one_ (i := 11) (N := (some 23)) #[J, J, J, J, J, J, J, J, J, J, J, J, Y, Y, Y, Y, Y, Y] rfl rfl (one_of HT_.out (by kernel_rfl)) (by decide) (fun K hK => ?_)
  refine value_ (w1 := ?_) (v := ?_) (by rfl) rfl ?_ ?_
  rotate_left 2
  · go_simp
    constructor
    · rfl
    · rfl
  refine hK.out _ _ ⟨(World.cell?_alloc_lt _ _ _ (World.block_lt_of_cell? _ _ hHeld.1)).trans hHeld.1, (World.cell?_alloc_lt _ _ _ (World.block_lt_of_cell? _ _ hHeld.2)).trans hHeld.2⟩ (fun hHeld2 => ?_)
  clear hK K
  refine norm_ (a' := ?_) ?_ ?_
  rotate_left
  ·
   show Act.put _ (some 23) _ = _
   simp only [Act.put, List.setIfInBounds_toArray, List.set_cons_zero, List.set_cons_succ, i64_w, i32_w]
   rfl
  refine one_ (i := 12) (N := (some 24)) #[J, J, J, J, J, J, J, J, J, J, J, J, J, Y, Y, Y, Y, Y] rfl rfl (one_of HT_.out (by kernel_rfl)) (by decide) (fun K hK => ?_)
  refine step_append_cells (w0 := w) (W := W0) base (by rfl) (.tmp 21) (.tmp 23) 51 3 (.int .i64 0) 1 8 rfl Try.underlying51 info3 rfl (by decide) (by decide) (.slice A l.length c) l.length (nums .i64 l) [.int .i64 i] (by rfl) (by rfl) rfl (by simp [Value.oneCell']) K3.out K1.out K5.out H.out.2.2.2.2.2.2.2.2.2 ?_
  intro v1 w1 own1 hb1 hg1 hat1
  obtain ⟨A1, c1, rfl⟩ := own_slice own1
  have B1 := Qa.mk (blk_grown K2.out hg1 (own_ne K3.out K2.out (by decide)))
  have O2 := Qa.mk (own_other K4.out hg1 (own_type_ne K4.out K3.out (by decide)))
  have O1 : Qa (w1.ownsRow base 3 1 (.slice A1 (l.length + 1) c1) (l ++ [i]).length (nums .i64 (l ++ [i]))) := ⟨by rw [List.length_append, List.length_singleton, nums_append]; exact own1⟩
  have B0 := Qa.mk hb1
  clear own1 hb1 hat1 hg1
  refine hK.out _ _ ⟨(Qe B1.out 0).trans rfl, (Qe B1.out 1).trans rfl⟩ (fun hHeld3 => ?_)
  clear hK K hHeld hHeld2 K1 K2 K3 K4 K5
  refine norm_ (a' := ?_) ?_ ?_
  rotate_left
  ·
   show Act.put _ (some 24) _ = _
   simp only [Act.put, List.setIfInBounds_toArray, List.set_cons_zero, List.set_cons_succ, i64_w, i32_w]
   rfl
  refine pure_ (i := 13) (N := (some 25)) (v := ?_) (a' := ?_) #[J, J, J, J, J, J, J, J, J, J, J, J, J, J, Y, Y, Y, Y] rfl rfl (Qm HT_.out (by kernel_rfl)) (fun _ _ _ h => h) (Or.inl ⟨by rfl, ?_⟩) ?_ ?_
  rotate_left
  ·
   intro w'
   go_simp
   with_reducible rfl
  rotate_left
  ·
   simp only [Act.put, List.setIfInBounds_toArray, List.set_cons_zero, List.set_cons_succ, i64_w, i32_w]
   rfl
  refine pure_ (i := 14) (N := (some 26)) (v := ?_) (a' := ?_) #[J, J, J, J, J, J, J, J, J, J, J, J, J, J, J, Y, Y, Y] rfl rfl (Qm HT_.out (by kernel_rfl)) (fun _ _ _ h => h) (Or.inl ⟨by rfl, ?_⟩) ?_ ?_
  rotate_left
  ·
   intro w'
   go_simp
   with_reducible rfl
  rotate_left
  ·
   simp only [Act.put, List.setIfInBounds_toArray, List.set_cons_zero, List.set_cons_succ, i64_w, i32_w]
   rfl
  have s0 := hHeld3.1
  have f0 : w1.frozen? ⟨g, 0, none⟩ = false := Qf B1.out 0
  refine last_ (i := 15) (N := none) #[J, J, J, J, J, J, J, J, J, J, J, J, J, J, J, J, Y, Y] rfl rfl (one_of HT_.out (by kernel_rfl)) (by decide) (fun K hK => ?_)
  refine skip_ (w1 := ?_) (by rfl) rfl ?_ ?_
  rotate_left
  ·
   go_simp
   rfl
  refine hK.out _ _ ?_
  clear hK K
  clear s0 f0 hHeld3
  have y := own_at_of (d := false) (own_setCell (p := ⟨g, 0, none⟩) O2.out (fun e => H.out.2.2.2.1 (by simpa [Value.ownBlock] using e.symm)) (.slice A1 (l.length + 1) c1)) i (of_eq_true hi0) (of_eq_true hi)
  obtain ⟨y0, y1⟩ := y
  have HE := Qa.mk (IsQ.put B1.out H.out.2.1 O1.out O2.out H.out.2.2.2.1 i true)
  have HB : Qa (Below base w ((w1.setCell ⟨g, 0, none⟩ (.slice A1 (l.length + 1) c1)).setCell ⟨gb, i.toNat, none⟩ (.bool true))) := ⟨(B0.out.setCell (p := ⟨g, 0, none⟩) H.out.2.1 _).setCell (p := ⟨gb, i.toNat, none⟩) H.out.2.2.1 _⟩
  generalize w1.setCell ⟨g, 0, none⟩ (.slice A1 (l.length + 1) c1) = W2 at HE HB y0 y1 ⊢
  refine pure_ (i := 16) (N := (some 27)) (v := ?_) (a' := ?_) #[J, J, J, J, J, J, J, J, J, J, J, J, J, J, J, J, J, Y] rfl rfl (Qm HT_.out (by kernel_rfl)) (fun _ _ _ h => h) (Or.inl ⟨by rfl, ?_⟩) ?_ ?_
  rotate_left
  ·
   intro w'
   go_simp
   with_reducible rfl
  rotate_left
  ·
   simp only [Act.put, List.setIfInBounds_toArray, List.set_cons_zero, List.set_cons_succ, i64_w, i32_w]
   rfl
  refine last_ (i := 17) (N := none) #[J, J, J, J, J, J, J, J, J, J, J, J, J, J, J, J, J, J] rfl rfl (one_of HT_.out (by kernel_rfl)) (by decide) (fun K hK => ?_)
  refine skip_ (w1 := ?_) (by rfl) rfl ?_ ?_
  rotate_left
  ·
   go_simp
   rfl
  refine hK.out _ _ ?_
  clear hK K
  refine done_ (done_of HT_.out (by kernel_rfl)) ?_
  go_wp2
  go_end0
  exact ⟨rfl, HE.out, HB.out⟩
def qpop_T2 : Bool × List (List Nat × List Nat) := (true, [([], []), ([], []), ([1], [1]), ([2], [2]), ([3], [3]), ([], []), ([], []), ([6], [6]), ([7], [7]), ([8], [8]), ([], []), ([10], [10]), ([11], [11]), ([12], [12]), ([13], [13]), ([14], [14]), ([9, 15], [9, 15]), ([0, 0, 4, 6, 7, 8, 9, 10, 11, 12, 13, 14, 15, 16], [0]), ([17, 0, 4, 6, 7, 8, 9, 10, 11, 12, 13, 14, 15, 16], [17]), ([18, 16, 0, 4, 6, 7, 8, 9, 10, 11, 12, 13, 14, 15, 16], [16, 18]), ([4, 5, 0, 1, 2, 3, 4, 5, 6, 7, 8, 9, 10, 11, 12, 13, 14, 15, 16, 17, 18, 19], [4, 5]), ([20, 19, 0, 1, 2, 3, 4, 5, 6, 7, 8, 9, 10, 11, 12, 13, 14, 15, 16, 17, 18, 19], [20])])
def qpop_B2 : List Nat := [0, 0, 2, 6, 14, 0, 0, 64, 192, 448, 0, 1024, 3072, 7168, 15360, 31744, 65472, 131039, 262111, 524255, 1048575, 2097151]
theorem qpop_tab2 : rtab .any (opsOf Try.f60 2) = qpop_T2 := by kernel_rfl
theorem qpop_bits2 : waitsOk qpop_T2.2 qpop_B2 = true := by kernel_rfl
set_option maxHeartbeats 4000000 in
set_option maxRecDepth 100000 in
theorem queue_Pop {base : Nat} {w : World} {g : Nat} {l : List Int} {b : List Bool} (h : IsQ base w g l b) (hl : 0 < l.length) (hi0 : 0 ≤ rd l ((l.length : Int) - 1)) (hi : rd l ((l.length : Int) - 1) < (b.length : Int)) :
    Calls Try.prog 60 #[.pointer (some ⟨g, 0, none⟩)] w fun e w' => e = .returned (.iface 3 (.int .i64 (rd l ((l.length : Int) - 1)))) ∧ IsQ base w' g (l.take ((l.length : Int) - 1).toNat) (b.set (rd l ((l.length : Int) - 1)).toNat false) ∧ Below base w w' := by
  obtain ⟨vl, gb, d, h1, h2, h3, h4, h5, h6, h7⟩ := h.marks (by omega)
  obtain ⟨hx1, gl, c, cur, rfl, h8, h9, h10, h11, h12, h13⟩ : (nums .i64 l).length = l.length * 1 ∧ ∃ gl c cur, vl = .slice (some ⟨gl, 0, none⟩) l.length c ∧ base ≤ gl ∧ w.heap[gl]? = some (.cells cur 3 (0, 0)) ∧ l.length ≤ c ∧ c ≤ maxLen ∧ cur.size = c * 1 ∧ cur.toList.take (l.length * 1) = nums .i64 l := by
    refine ⟨h5.1, ?_⟩
    rcases h5.2 with ⟨_, hn⟩ | h
    · omega
    · exact h
  have hm : l.length ≤ 9223372036854775807 := by have : c ≤ 9223372036854775807 := h11; omega
  have y0 := (own_at h5 ((l.length : Int) - 1) (by omega) (by omega)).1
  rw [show ((l.length : Int) - 1).toNat = l.length - 1 by omega] at y0
  have hcut := (print_take_int (P := Try.prog) (k := .i64) 51 3 Try.underlying51 (Option.some_get (by kernel_rfl : (Try.prog.info? 3).isSome = true)).symm (by kernel_rfl) (some ⟨gl, 0, none⟩) c l ((l.length : Int) - 1) (by omega) (by omega) h10).1
  have hlen : (l.take ((l.length : Int) - 1).toNat).length = l.length - 1 := by rw [List.length_take]; omega
  rw [hlen] at hcut
  have hown : w.ownsRow base 3 1 (.slice (some ⟨gl, 0, none⟩) (l.length - 1) c) (l.take ((l.length : Int) - 1).toNat).length (nums .i64 (l.take ((l.length : Int) - 1).toNat)) := by
    refine ⟨by simp [nums], .inr ⟨gl, c, cur, by rw [hlen], h8, h9, by rw [hlen]; omega, h11, h12, ?_⟩⟩
    rw [hlen]
    have := congrArg (List.take ((l.length : Int) - 1).toNat) h13
    rw [List.take_take] at this
    rw [show nums .i64 (l.take ((l.length : Int) - 1).toNat) = (nums .i64 l).take ((l.length : Int) - 1).toNat by simp [nums, List.map_take], ← this]
    congr 1
    omega
  have x0 : w.cell? ⟨g, 0, none⟩ = some (.slice (some ⟨gl, 0, none⟩) l.length c) := (Qe h1 0).trans rfl
  have x1 : w.cell? ⟨g, 1, none⟩ = some (.slice (some ⟨gb, 0, none⟩) b.length d) := (Qe h1 1).trans rfl
  have HCUT := Qa.mk hcut
  have H := Qa.mk (And.intro h1 (And.intro h2 (And.intro h3 (And.intro h4 (And.intro hown (And.intro h6 (And.intro hi0 hi)))))))
  have k0 : (0 ≤ (l.length : Int) - 1) = True := eq_true (by omega)
  have k1 : ((l.length : Int) - 1 < (l.length : Int)) = True := eq_true (by omega)
  have k3 : (1 ≤ (l.length : Int)) = True := eq_true (by omega)
  have k4 : (0 < l.length) = True := eq_true hl
  have k2 : IntKind.i64.wrap ((l.length : Int) - 1) = (l.length : Int) - 1 := IntWalk.i64_in _ (by omega)
  replace hi0 := eq_true hi0
  replace hi := eq_true hi
  have HX : Qa (w.cell? ⟨g, 0, none⟩ = some (.slice (some ⟨gl, 0, none⟩) l.length c) ∧ w.cell? ⟨g, 1, none⟩ = some (.slice (some ⟨gb, 0, none⟩) b.length d)) := ⟨x0, x1⟩
  clear h h1 h2 h3 h4 h5 h6 h7 h8 h9 h10 h11 h12 h13 hx1 hm hlen hown hcut hl
  have hu51 := Try.underlying51
  have hu57 := Try.underlying57
  go_enter Try.func60, Try.ntmps60
  go_wp2
  go_quiet (fail)
  have hcut := HCUT.out
  clear HCUT
  go_upto_region 2 with (fail)
  generalize hW : w.drewN _ = W1
  have HX1 : W1.drew.cell? ⟨g, 0, none⟩ = some (.slice (some ⟨gl, 0, none⟩) l.length c) ∧ W1.drew.cell? ⟨g, 1, none⟩ = some (.slice (some ⟨gb, 0, none⟩) b.length d) := by rw [← hW]; exact HX.out
  have K1 : Qa (Below base w W1.drew) := ⟨by rw [← hW]; exact below_drew (Ql (Below.refl _ _) _)⟩
  have K2 : Qa (W1.drew.heap[g]? = some (.cells #[.slice (some ⟨gl, 0, none⟩) l.length c, .slice (some ⟨gb, 0, none⟩) b.length d] 59 (0, 0))) := ⟨by rw [← hW]; exact H.out.1⟩
  have K3 : Qa (W1.drew.ownsRow base 3 1 (.slice (some ⟨gl, 0, none⟩) (l.length - 1) c) (l.take ((l.length : Int) - 1).toNat).length (nums .i64 (l.take ((l.length : Int) - 1).toNat))) := ⟨by rw [← hW]; exact H.out.2.2.2.2.1⟩
  have K4 : Qa (W1.drew.ownsRow base 4 1 (.slice (some ⟨gb, 0, none⟩) b.length d) b.length (encs Value.bool b)) := ⟨by rw [← hW]; exact H.out.2.2.2.2.2.1⟩
  clear hW y0 x0 x1
  refine start_ (n := 22) (S := fun w' => w'.cell? ⟨g, 0, none⟩ = some (.slice (some ⟨gl, 0, none⟩) l.length c) ∧ w'.cell? ⟨g, 1, none⟩ = some (.slice (some ⟨gb, 0, none⟩) b.length d)) (ds := [19, 21]) #[Y, Y, Y, Y, Y, Y, Y, Y, Y, Y, Y, Y, Y, Y, Y, Y, Y, Y, Y, Y, Y, Y] (by kernel_rfl) rfl rfl HX1 (fun hHeld => ?_); refine with_tabW qpop_tab2 qpop_bits2 (fun HT_ HW_ => ?_)
  clear HX1
  generalize W1.drew = W0 at K1 K2 K3 K4 hHeld ⊢
  refine pure_ (i := 0) (N := (some 16)) (v := ?_) (a' := ?_) #[J, Y, Y, Y, Y, Y, Y, Y, Y, Y, Y, Y, Y, Y, Y, Y, Y, Y, Y, Y, Y, Y] rfl rfl (Qm HT_.out (by kernel_rfl)) (fun _ _ _ h => h) (Or.inl ⟨by rfl, ?_⟩) ?_ ?_
  rotate_left
  ·
   intro w'
   go_simp
   with_reducible rfl
  rotate_left
  ·
   simp only [Act.put, List.setIfInBounds_toArray, List.set_cons_zero, List.set_cons_succ, i64_w, i32_w]
   rfl
  refine pure_ (i := 1) (N := (some 17)) (v := ?_) (a' := ?_) #[J, J, Y, Y, Y, Y, Y, Y, Y, Y, Y, Y, Y, Y, Y, Y, Y, Y, Y, Y, Y, Y] rfl rfl (Qm HT_.out (by kernel_rfl)) (fun _ _ _ h => h) (Or.inl ⟨by rfl, ?_⟩) ?_ ?_
  rotate_left
  ·
   intro w'
   go_simp
   with_reducible rfl
  rotate_left
  ·
   simp only [Act.put, List.setIfInBounds_toArray, List.set_cons_zero, List.set_cons_succ, i64_w, i32_w]
   rfl
  refine pure_ (i := 2) (N := (some 18)) (v := ?_) (a' := ?_) #[J, J, J, Y, Y, Y, Y, Y, Y, Y, Y, Y, Y, Y, Y, Y, Y, Y, Y, Y, Y, Y] rfl rfl (Qm HT_.out (by kernel_rfl)) (fun _ _ _ h => h) (Or.inl ⟨by rfl, ?_⟩) ?_ ?_
  rotate_left
  ·
   intro w'
   go_simp
   with_reducible rfl
  rotate_left
  ·
   simp only [Act.put, List.setIfInBounds_toArray, List.set_cons_zero, List.set_cons_succ, i64_w, i32_w]
   rfl
  refine pure_ (i := 3) (N := (some 19)) (v := ?_) (a' := ?_) #[J, J, J, J, Y, Y, Y, Y, Y, Y, Y, Y, Y, Y, Y, Y, Y, Y, Y, Y, Y, Y] rfl rfl (Qm HT_.out (by kernel_rfl)) (fun _ _ _ h => h) (Or.inl ⟨by rfl, ?_⟩) ?_ ?_
  rotate_left
  ·
   intro w'
   go_simp
   with_reducible rfl
  rotate_left
  ·
   simp only [Act.put, List.setIfInBounds_toArray, List.set_cons_zero, List.set_cons_succ, i64_w, i32_w]
   rfl
  refine take_ (i := 4) (N := (some 20)) (v := ?_) (a' := ?_) #[J, J, J, J, J, Y, Y, Y, Y, Y, Y, Y, Y, Y, Y, Y, Y, Y, Y, Y, Y, Y] rfl rfl (Qm1 HT_.out HW_.out (by kernel_rfl)) (fun _ _ _ h => h) (Or.inl ⟨by rfl, ?_⟩) hHeld ?_ ?_
  rotate_left
  ·
   rintro w' ⟨s0, s1⟩
   go_simp
   with_reducible rfl
  rotate_left
  ·
   simp only [Act.put, List.setIfInBounds_toArray, List.set_cons_zero, List.set_cons_succ, i64_w, i32_w]
   rfl
  refine pure_ (i := 5) (N := (some 21)) (v := ?_) (a' := ?_) #[J, J, J, J, J, J, Y, Y, Y, Y, Y, Y, Y, Y, Y, Y, Y, Y, Y, Y, Y, Y] rfl rfl (Qm HT_.out (by kernel_rfl)) (fun _ _ _ h => h) (Or.inl ⟨by rfl, ?_⟩) ?_ ?_
  rotate_left
  ·
   intro w'
   go_simp
   with_reducible rfl
  rotate_left
  ·
   simp only [Act.put, List.setIfInBounds_toArray, List.set_cons_zero, List.set_cons_succ, i64_w, i32_w]
   rfl
  refine pure_ (i := 6) (N := (some 22)) (v := ?_) (a' := ?_) #[J, J, J, J, J, J, J, Y, Y, Y, Y, Y, Y, Y, Y, Y, Y, Y, Y, Y, Y, Y] rfl rfl (Qm HT_.out (by kernel_rfl)) (fun _ _ _ h => h) (Or.inl ⟨by rfl, ?_⟩) ?_ ?_
  rotate_left
  ·
   intro w'
   go_simp
   with_reducible rfl
  rotate_left
  ·
   simp only [Act.put, List.setIfInBounds_toArray, List.set_cons_zero, List.set_cons_succ, i64_w, i32_w]
   rfl
  refine pure_ (i := 7) (N := (some 23)) (v := ?_) (a' := ?_) #[J, J, J, J, J, J, J, J, Y, Y, Y, Y, Y, Y, Y, Y, Y, Y, Y, Y, Y, Y] rfl rfl (Qm HT_.out (by kernel_rfl)) (fun _ _ _ h => h) (Or.inl ⟨by rfl, ?_⟩) ?_ ?_
  rotate_left
  ·
   intro w'
   go_simp
   with_reducible rfl
  rotate_left
  ·
   simp only [Act.put, List.setIfInBounds_toArray, List.set_cons_zero, List.set_cons_succ, i64_w, i32_w]
   rfl
  refine pure_ (i := 8) (N := (some 24)) (v := ?_) (a' := ?_) #[J, J, J, J, J, J, J, J, J, Y, Y, Y, Y, Y, Y, Y, Y, Y, Y, Y, Y, Y] rfl rfl (Qm HT_.out (by kernel_rfl)) (fun _ _ _ h => h) (Or.inl ⟨by rfl, ?_⟩) ?_ ?_
  rotate_left
  ·
   intro w'
   go_simp
   with_reducible rfl
  rotate_left
  ·
   simp only [Act.put, List.setIfInBounds_toArray, List.set_cons_zero, List.set_cons_succ, i64_w, i32_w]
   rfl
  refine take_ (i := 9) (N := (some 25)) (v := ?_) (a' := ?_) #[J, J, J, J, J, J, J, J, J, J, Y, Y, Y, Y, Y, Y, Y, Y, Y, Y, Y, Y] rfl rfl (Qm1 HT_.out HW_.out (by kernel_rfl)) (fun _ _ _ h => h) (Or.inl ⟨by rfl, ?_⟩) hHeld ?_ ?_
  rotate_left
  ·
   rintro w' ⟨s0, s1⟩
   go_simp
   with_reducible rfl
  rotate_left
  ·
   simp only [Act.put, List.setIfInBounds_toArray, List.set_cons_zero, List.set_cons_succ, i64_w, i32_w]
   rfl
  refine pure_ (i := 10) (N := (some 26)) (v := ?_) (a' := ?_) #[J, J, J, J, J, J, J, J, J, J, J, Y, Y, Y, Y, Y, Y, Y, Y, Y, Y, Y] rfl rfl (Qm HT_.out (by kernel_rfl)) (fun _ _ _ h => h) (Or.inl ⟨by rfl, ?_⟩) ?_ ?_
  rotate_left
  ·
   intro w'
   go_simp
   with_reducible rfl
  rotate_left
  ·
   simp only [Act.put, List.setIfInBounds_toArray, List.set_cons_zero, List.set_cons_succ, i64_w, i32_w]
   rfl
  refine pure_ (i := 11) (N := (some 27)) (v := ?_) (a' := ?_) #[J, J, J, J, J, J, J, J, J, J, J, J, Y, Y, Y, Y, Y, Y, Y, Y, Y, Y] rfl rfl (Qm HT_.out (by kernel_rfl)) (fun _ _ _ h => h) (Or.inl ⟨by rfl, ?_⟩) ?_ ?_
  rotate_left
  ·
   intro w'
   go_simp
   with_reducible rfl
  rotate_left
  ·
   simp only [Act.put, List.setIfInBounds_toArray, List.set_cons_zero, List.set_cons_succ, i64_w, i32_w]
   rfl
  refine pure_ (i := 12) (N := (some 28)) (v := ?_) (a' := ?_) #[J, J, J, J, J, J, J, J, J, J, J, J, J, Y, Y, Y, Y, Y, Y, Y, Y, Y] rfl rfl (Qm HT_.out (by kernel_rfl)) (fun _ _ _ h => h) (Or.inl ⟨by rfl, ?_⟩) ?_ ?_
  rotate_left
  ·
   intro w'
   go_simp
   with_reducible rfl
  rotate_left
  ·
   simp only [Act.put, List.setIfInBounds_toArray, List.set_cons_zero, List.set_cons_succ, i64_w, i32_w]
   rfl
  refine take_ (i := 13) (N := (some 29)) (v := ?_) (a' := ?_) #[J, J, J, J, J, J, J, J, J, J, J, J, J, J, Y, Y, Y, Y, Y, Y, Y, Y] rfl rfl (Qm1 HT_.out HW_.out (by kernel_rfl)) (fun _ _ _ h => h) (Or.inl ⟨by rfl, ?_⟩) hHeld ?_ ?_
  rotate_left
  ·
   rintro w' ⟨s0, s1⟩
   go_simp
   with_reducible rfl
  rotate_left
  ·
   simp only [Act.put, List.setIfInBounds_toArray, List.set_cons_zero, List.set_cons_succ, i64_w, i32_w]
   rfl
  refine pure_ (i := 14) (N := (some 30)) (v := ?_) (a' := ?_) #[J, J, J, J, J, J, J, J, J, J, J, J, J, J, J, Y, Y, Y, Y, Y, Y, Y] rfl rfl (Qm HT_.out (by kernel_rfl)) (fun _ _ _ h => h) (Or.inl ⟨by rfl, ?_⟩) ?_ ?_
  rotate_left
  ·
   intro w'
   go_simp
   with_reducible rfl
  rotate_left
  ·
   simp only [Act.put, List.setIfInBounds_toArray, List.set_cons_zero, List.set_cons_succ, i64_w, i32_w]
   rfl
  refine pure_ (i := 15) (N := (some 31)) (v := ?_) (a' := ?_) #[J, J, J, J, J, J, J, J, J, J, J, J, J, J, J, J, Y, Y, Y, Y, Y, Y] rfl rfl (Qm HT_.out (by kernel_rfl)) (fun _ _ _ h => h) (Or.inl ⟨by rfl, ?_⟩) ?_ ?_
  rotate_left
  ·
   intro w'
   go_simp
   with_reducible rfl
  rotate_left
  ·
   simp only [Act.put, List.setIfInBounds_toArray, List.set_cons_zero, List.set_cons_succ, i64_w, i32_w]
   rfl
  refine pure_ (i := 16) (N := (some 32)) (v := ?_) (a' := ?_) #[J, J, J, J, J, J, J, J, J, J, J, J, J, J, J, J, J, Y, Y, Y, Y, Y] rfl rfl (Qm HT_.out (by kernel_rfl)) (fun _ _ _ h => h) (Or.inl ⟨by rfl, ?_⟩) ?_ ?_
  rotate_left
  ·
   intro w'
   go_simp
   with_reducible rfl
  rotate_left
  ·
   simp only [Act.put, List.setIfInBounds_toArray, List.set_cons_zero, List.set_cons_succ, i64_w, i32_w]
   rfl
  refine pure_ (i := 17) (N := (some 33)) (v := ?_) (a' := ?_) #[J, J, J, J, J, J, J, J, J, J, J, J, J, J, J, J, J, J, Y, Y, Y, Y] rfl rfl (Qm HT_.out (by kernel_rfl)) (fun _ _ _ h => h) (Or.inl ⟨by rfl, ?_⟩) ?_ ?_
  rotate_left
  ·
   intro w'
   go_simp
   with_reducible rfl
  rotate_left
  ·
   simp only [Act.put, List.setIfInBounds_toArray, List.set_cons_zero, List.set_cons_succ, i64_w, i32_w]
   rfl
  refine pure_ (i := 18) (N := (some 34)) (v := ?_) (a' := ?_) #[J, J, J, J, J, J, J, J, J, J, J, J, J, J, J, J, J, J, J, Y, Y, Y] rfl rfl (Qm HT_.out (by kernel_rfl)) (fun _ _ _ h => h) (Or.inl ⟨by rfl, ?_⟩) ?_ ?_
  rotate_left
  ·
   intro w'
   go_simp
   with_reducible rfl
  rotate_left
  ·
   simp only [Act.put, List.setIfInBounds_toArray, List.set_cons_zero, List.set_cons_succ, i64_w, i32_w]
   rfl
  have s0 := hHeld.1
  have f0 : W0.frozen? ⟨g, 0, none⟩ = false := Qf K2.out 0
  refine last_ (i := 19) (N := none) #[J, J, J, J, J, J, J, J, J, J, J, J, J, J, J, J, J, J, J, J, Y, Y] rfl rfl (one_of HT_.out (by kernel_rfl)) (by decide) (fun K hK => ?_)
  refine skip_ (w1 := ?_) (by rfl) rfl ?_ ?_
  rotate_left
  ·
   go_simp
   rfl
  refine hK.out _ _ ?_
  clear hK K
  clear s0 f0 hHeld
  have y := own_at_of (d := false) (own_setCell (p := ⟨g, 0, none⟩) K4.out (fun e => H.out.2.2.2.1 (by simpa [Value.ownBlock] using e.symm)) (.slice (some ⟨gl, 0, none⟩) (l.length - 1) c)) (rd l ((l.length : Int) - 1)) (of_eq_true hi0) (of_eq_true hi)
  obtain ⟨y0, y1⟩ := y
  have HE := Qa.mk (IsQ.put K2.out H.out.2.1 K3.out K4.out H.out.2.2.2.1 (rd l ((l.length : Int) - 1)) false)
  have HB : Qa (Below base w ((W0.setCell ⟨g, 0, none⟩ (.slice (some ⟨gl, 0, none⟩) (l.length - 1) c)).setCell ⟨gb, (rd l ((l.length : Int) - 1)).toNat, none⟩ (.bool false))) := ⟨(K1.out.setCell (p := ⟨g, 0, none⟩) H.out.2.1 _).setCell (p := ⟨gb, _, none⟩) H.out.2.2.1 _⟩
  generalize W0.setCell ⟨g, 0, none⟩ (.slice (some ⟨gl, 0, none⟩) (l.length - 1) c) = W2 at HE HB y0 y1 ⊢
  refine pure_ (i := 20) (N := (some 35)) (v := ?_) (a' := ?_) #[J, J, J, J, J, J, J, J, J, J, J, J, J, J, J, J, J, J, J, J, J, Y] rfl rfl (Qm HT_.out (by kernel_rfl)) (fun _ _ _ h => h) (Or.inl ⟨by rfl, ?_⟩) ?_ ?_
  rotate_left
  ·
   intro w'
   go_simp
   with_reducible rfl
  rotate_left
  ·
   simp only [Act.put, List.setIfInBounds_toArray, List.set_cons_zero, List.set_cons_succ, i64_w, i32_w]
   rfl
  refine last_ (i := 21) (N := none) #[J, J, J, J, J, J, J, J, J, J, J, J, J, J, J, J, J, J, J, J, J, J] rfl rfl (one_of HT_.out (by kernel_rfl)) (by decide) (fun K hK => ?_)
  refine skip_ (w1 := ?_) (by rfl) rfl ?_ ?_
  rotate_left
  ·
   go_simp
   rfl
  refine hK.out _ _ ?_
  clear hK K
  refine done_ (done_of HT_.out (by kernel_rfl)) ?_
  go_wp2
  go_ret
  exact ⟨rfl, HE.out, HB.out⟩
end Go.Proofs.Ytnaanamibfpbpaa.V
namespace Go.Proofs.Ytnaanamibfpbpaa.V
open Go.RowKit Go.Proofs.YtnaanamibfpbpaaW.PrintWords Go.Proofs.YtnaanamibfpbpaaW.PrintLast Go.Proofs.YtnaanamibfpbpaaW.PrintMore
set_option linter.unusedVariables false
set_option linter.unusedSimpArgs false
abbrev qiface (g : Nat) : Value := .iface 56 (.pointer (some ⟨g, 0, none⟩))
def QPost (base : Nat) (w : World) (g : Nat) (l : List Int) (b : List Bool) (e : Ending) (w' : World) : Prop := e = .returned (.tuple #[]) ∧ ∃ l', l'.Perm l ∧ IsQ base w' g l' b ∧ Below base w w'
theorem IsQ.base_le {base : Nat} {w : World} {g : Nat} {l : List Int} {b : List Bool} (h : IsQ base w g l b) : base ≤ w.heap.size := by
  obtain ⟨_, _, hh, hg, _⟩ := h
  have := Qy hh
  omega
theorem swap_perm (l : List Int) (i k : Int) (hi0 : 0 ≤ i) (hi : i < (l.length : Int)) (hk0 : 0 ≤ k) (hk : k < (l.length : Int)) : (swapL l i k).Perm l := by
  have hi' : i.toNat < l.length := by omega
  have hk' : k.toNat < l.length := by omega
  have e1 : rd l i = l[i.toNat] := by unfold rd; rw [List.getD_eq_getElem?_getD, List.getElem?_eq_getElem hi']; rfl
  have e2 : rd l k = l[k.toNat] := by unfold rd; rw [List.getD_eq_getElem?_getD, List.getElem?_eq_getElem hk']; rfl
  unfold swapL
  rw [e1, e2]
  exact List.set_set_perm hi' hk'
set_option maxHeartbeats 4000000 in
set_option maxRecDepth 100000 in
theorem heap_up {base : Nat} {w : World} {g : Nat} {l : List Int} {b : List Bool} (h : IsQ base w g l b) (j : Int) (hj0 : 0 ≤ j) (hj : j < (l.length : Int)) (hl : l.length ≤ 9223372036854775807) :
    Calls Try.prog 39 #[qiface g, .int .i64 j] w (QPost base w g l b) := by
  have hm1 : ∀ w : World, (method 201 56 (.pointer (some ⟨g, 0, none⟩)) "Less").run Try.prog w = .ok (59, .pointer (some ⟨g, 0, none⟩)) w := fun _ => by kernel_rfl
  have hm2 : ∀ w : World, (method 201 56 (.pointer (some ⟨g, 0, none⟩)) "Swap").run Try.prog w = .ok (62, .pointer (some ⟨g, 0, none⟩)) w := fun _ => by kernel_rfl
  have H := Qa.mk h
  have HL := Qa.mk hl
  have HJ := Qa.mk hj
  clear h hl hj
  go_enter Try.func39, Try.ntmps39
  go_wp2
  go_loopg [1] (j.toNat + 1) (fun kq v1 w' => ∃ (j1 : Int) (l1 : List Int), v1 = .int .i64 j1 ∧ 0 ≤ j1 ∧ Qa (j1.toNat < kq) ∧ Qa (j1 < (l1.length : Int)) ∧ Qa (l1.Perm l) ∧ Qa (IsQ base w' g l1 b) ∧ Qa (Below base w w'))
  case atStart => exact ⟨j, l, rfl, hj0, ⟨by omega⟩, HJ, ⟨List.Perm.refl _⟩, H, ⟨Below.refl _ _⟩⟩
  case round =>
    clear H HJ hj0
    obtain ⟨j1, l1, rfl, h0, hk, hjl, hp, hq, hb⟩ := hrel
    have hll : j1 ≤ 9223372036854775807 := by have := hp.out.length_eq; have := HL.out; have := hjl.out; omega
    by_cases c : j1 = 0
    · subst c
      go_wp2
      go_end0
      exact ⟨rfl, l1, hp.out, hq.out, hb.out⟩
    · have h1 : 1 ≤ j1 := by omega
      have h2 : 0 ≤ (j1 - 1) / 2 := by omega
      have h3 : (j1 - 1) / 2 < j1 := by omega
      have h4 : ((j1 - 1) / 2 == j1) = false := beq_eq_false_iff_ne.2 (by omega)
      have H5 := Qa.mk (show (j1 - 1) / 2 < (l1.length : Int) by have := hjl.out; omega)
      clear c
      by_cases hlt : rd l1 j1 < rd l1 ((j1 - 1) / 2)
      · have hltb : decide (rd l1 j1 < rd l1 ((j1 - 1) / 2)) = true := decide_eq_true hlt
        clear hlt
        go_wp2_with (first
          | (go_at_call 59; refine (queue_Less hq.out j1 ((j1 - 1) / 2) h0 hjl.out h2 H5.out).mono ?_; rintro e w2 ⟨rfl, hd⟩; have HQ2 := Qa.mk (hq.out.below hd.below); have HB2 := Qa.mk (below_then hb.out (by have := hb.out.size; obtain ⟨_, _, hh, hg, _⟩ := hq.out; have := Qy hh; omega) hd.below); clear hd)
          | (go_at_call 62; refine (queue_Swap HQ2.out ((j1 - 1) / 2) j1 h2 H5.out h0 hjl.out).mono ?_; rintro e w3 ⟨rfl, hq3, hb3⟩))
        go_roundg (gk - 1)
        case measure => have := hk.out; omega
        case rel =>
          have hl1 := swapL_length l1 ((j1 - 1) / 2) j1
          exact ⟨(j1 - 1) / 2, swapL l1 ((j1 - 1) / 2) j1, rfl, h2, ⟨by have := hk.out; omega⟩, ⟨by rw [hl1]; exact H5.out⟩, ⟨(swap_perm l1 _ _ h2 H5.out h0 hjl.out).trans hp.out⟩, ⟨hq3⟩, ⟨HB2.out.trans hb3⟩⟩
      · have hltb : decide (rd l1 j1 < rd l1 ((j1 - 1) / 2)) = false := decide_eq_false hlt
        clear hlt
        go_wp2_with (go_at_call 59; refine (queue_Less hq.out j1 ((j1 - 1) / 2) h0 hjl.out h2 H5.out).mono ?_; rintro e w2 ⟨rfl, hd⟩; have HQ2 := Qa.mk (hq.out.below hd.below); have HB2 := Qa.mk (below_then hb.out (by have := hb.out.size; obtain ⟨_, _, hh, hg, _⟩ := hq.out; have := Qy hh; omega) hd.below); clear hd)
        go_end0
        exact ⟨rfl, l1, hp.out, HQ2.out, HB2.out⟩
def DPost (base : Nat) (w : World) (g : Nat) (l : List Int) (b : List Bool) (e : Ending) (w' : World) : Prop := ∃ r, e = .returned (.bool r) ∧ ∃ l', l'.Perm l ∧ IsQ base w' g l' b ∧ Below base w w'
set_option maxHeartbeats 8000000 in
set_option maxRecDepth 100000 in
theorem heap_down {base : Nat} {w : World} {g : Nat} {l : List Int} {b : List Bool} (h : IsQ base w g l b) (i0 n : Int) (hi0 : 0 ≤ i0) (hi1 : i0 ≤ (l.length : Int)) (hn : n ≤ (l.length : Int)) (hl : l.length ≤ 140737488355328) :
    Calls Try.prog 30 #[qiface g, .int .i64 i0, .int .i64 n] w (DPost base w g l b) := by
  have hm1 : ∀ w : World, (method 201 56 (.pointer (some ⟨g, 0, none⟩)) "Less").run Try.prog w = .ok (59, .pointer (some ⟨g, 0, none⟩)) w := fun _ => by kernel_rfl
  have hm2 : ∀ w : World, (method 201 56 (.pointer (some ⟨g, 0, none⟩)) "Swap").run Try.prog w = .ok (62, .pointer (some ⟨g, 0, none⟩)) w := fun _ => by kernel_rfl
  have H := Qa.mk h
  have HL := Qa.mk hl
  have HN := Qa.mk hn
  have HI := Qa.mk hi1
  clear h hl hn hi1
  go_enter Try.func30, Try.ntmps30
  go_wp2
  go_loopg [7] ((l.length : Int) - i0).toNat (fun kq v7 w' => ∃ (i : Int) (l1 : List Int), v7 = .int .i64 i ∧ 0 ≤ i ∧ Qa (((l.length : Int) - i).toNat ≤ kq) ∧ Qa (i ≤ (l1.length : Int)) ∧ Qa (l1.Perm l) ∧ Qa (IsQ base w' g l1 b) ∧ Qa (Below base w w'))
  case atStart => exact ⟨i0, l, rfl, hi0, ⟨Nat.le_refl _⟩, HI, ⟨List.Perm.refl _⟩, H, ⟨Below.refl _ _⟩⟩
  case round =>
    clear H HI
    obtain ⟨i, l1, rfl, h0, hk, hil, hp, hq, hb⟩ := hrel
    have HLE := Qa.mk hp.out.length_eq
    have hib : i ≤ 140737488355328 := by have := HLE.out; have := HL.out; have := hil.out; omega
    have hj0 : 0 ≤ 2 * i + 1 := by omega
    have hj1 : 2 * i + 1 ≤ 281474976710657 := by omega
    have hjn : decide (2 * i + 1 < 0) = false := decide_eq_false (by omega)
    by_cases c1 : 2 * i + 1 ≥ n
    · have c1b : decide (2 * i + 1 ≥ n) = true := decide_eq_true c1
      clear c1
      go_wp2
      go_ret
      exact ⟨_, rfl, l1, hp.out, hq.out, hb.out⟩
    have c1b : decide (2 * i + 1 ≥ n) = false := decide_eq_false c1
    have HJ1 := Qa.mk (show 2 * i + 1 < (l1.length : Int) by have := HN.out; have := HLE.out; omega)
    have HIL := Qa.mk (show i < (l1.length : Int) by have := HJ1.out; omega)
    clear c1
    by_cases c2 : 2 * i + 1 + 1 < n
    · have c2b : decide (2 * i + 1 + 1 < n) = true := decide_eq_true c2
      have hj2 : 0 ≤ 2 * i + 1 + 1 := by omega
      have HJ2 := Qa.mk (show 2 * i + 1 + 1 < (l1.length : Int) by have := HN.out; have := HLE.out; omega)
      clear c2
      by_cases hl2 : rd l1 (2 * i + 1 + 1) < rd l1 (2 * i + 1)
      · have hl2b : decide (rd l1 (2 * i + 1 + 1) < rd l1 (2 * i + 1)) = true := decide_eq_true hl2
        clear hl2
        by_cases hlt : rd l1 (2 * i + 1 + 1) < rd l1 i
        · have hltb : decide (rd l1 (2 * i + 1 + 1) < rd l1 i) = true := decide_eq_true hlt
          clear hlt
          go_wp2_with fail
          (go_at_call 59; refine (queue_Less hq.out (2 * i + 1 + 1) (2 * i + 1) hj2 HJ2.out hj0 HJ1.out).mono ?_; rintro e w2 ⟨rfl, hd⟩; have HQ2 := Qa.mk (IsQ.below hq.out hd.below); have HB2 := Qa.mk (below_then hb.out (IsQ.base_le hq.out) hd.below); clear hd)
          go_wp2_with fail
          (go_at_call 59; refine (queue_Less HQ2.out (2 * i + 1 + 1) i hj2 HJ2.out h0 HIL.out).mono ?_; rintro e w3 ⟨rfl, hd⟩; have HQ3 := Qa.mk (IsQ.below HQ2.out hd.below); have HB3 := Qa.mk (below_then HB2.out (IsQ.base_le HQ2.out) hd.below); clear hd)
          go_wp2_with fail
          (go_at_call 62; refine (queue_Swap HQ3.out i (2 * i + 1 + 1) h0 HIL.out hj2 HJ2.out).mono ?_; rintro e w4 ⟨rfl, hq4, hb4⟩)
          go_wp2
          go_roundg (gk - 1)
          case measure => have := hk.out; have := HLE.out; have := (HJ2.out); omega
          case rel => exact ⟨2 * i + 1 + 1, swapL l1 i (2 * i + 1 + 1), rfl, hj2, ⟨by have := hk.out; have := HLE.out; have := (HJ2.out); omega⟩, ⟨by rw [swapL_length]; have := (HJ2.out); omega⟩, ⟨(swap_perm l1 _ _ h0 HIL.out hj2 HJ2.out).trans hp.out⟩, ⟨hq4⟩, ⟨HB3.out.trans hb4⟩⟩
        · have hltb : decide (rd l1 (2 * i + 1 + 1) < rd l1 i) = false := decide_eq_false hlt
          clear hlt
          go_wp2_with fail
          (go_at_call 59; refine (queue_Less hq.out (2 * i + 1 + 1) (2 * i + 1) hj2 HJ2.out hj0 HJ1.out).mono ?_; rintro e w2 ⟨rfl, hd⟩; have HQ2 := Qa.mk (IsQ.below hq.out hd.below); have HB2 := Qa.mk (below_then hb.out (IsQ.base_le hq.out) hd.below); clear hd)
          go_wp2_with fail
          (go_at_call 59; refine (queue_Less HQ2.out (2 * i + 1 + 1) i hj2 HJ2.out h0 HIL.out).mono ?_; rintro e w3 ⟨rfl, hd⟩; have HQ3 := Qa.mk (IsQ.below HQ2.out hd.below); have HB3 := Qa.mk (below_then HB2.out (IsQ.base_le HQ2.out) hd.below); clear hd)
          go_wp2
          go_ret
          exact ⟨_, rfl, l1, hp.out, HQ3.out, HB3.out⟩
      · have hl2b : decide (rd l1 (2 * i + 1 + 1) < rd l1 (2 * i + 1)) = false := decide_eq_false hl2
        clear hl2
        by_cases hlt : rd l1 (2 * i + 1) < rd l1 i
        · have hltb : decide (rd l1 (2 * i + 1) < rd l1 i) = true := decide_eq_true hlt
          clear hlt
          go_wp2_with fail
          (go_at_call 59; refine (queue_Less hq.out (2 * i + 1 + 1) (2 * i + 1) hj2 HJ2.out hj0 HJ1.out).mono ?_; rintro e w2 ⟨rfl, hd⟩; have HQ2 := Qa.mk (IsQ.below hq.out hd.below); have HB2 := Qa.mk (below_then hb.out (IsQ.base_le hq.out) hd.below); clear hd)
          go_wp2_with fail
          (go_at_call 59; refine (queue_Less HQ2.out (2 * i + 1) i hj0 HJ1.out h0 HIL.out).mono ?_; rintro e w3 ⟨rfl, hd⟩; have HQ3 := Qa.mk (IsQ.below HQ2.out hd.below); have HB3 := Qa.mk (below_then HB2.out (IsQ.base_le HQ2.out) hd.below); clear hd)
          go_wp2_with fail
          (go_at_call 62; refine (queue_Swap HQ3.out i (2 * i + 1) h0 HIL.out hj0 HJ1.out).mono ?_; rintro e w4 ⟨rfl, hq4, hb4⟩)
          go_wp2
          go_roundg (gk - 1)
          case measure => have := hk.out; have := HLE.out; have := (HJ1.out); omega
          case rel => exact ⟨2 * i + 1, swapL l1 i (2 * i + 1), rfl, hj0, ⟨by have := hk.out; have := HLE.out; have := (HJ1.out); omega⟩, ⟨by rw [swapL_length]; have := (HJ1.out); omega⟩, ⟨(swap_perm l1 _ _ h0 HIL.out hj0 HJ1.out).trans hp.out⟩, ⟨hq4⟩, ⟨HB3.out.trans hb4⟩⟩
        · have hltb : decide (rd l1 (2 * i + 1) < rd l1 i) = false := decide_eq_false hlt
          clear hlt
          go_wp2_with fail
          (go_at_call 59; refine (queue_Less hq.out (2 * i + 1 + 1) (2 * i + 1) hj2 HJ2.out hj0 HJ1.out).mono ?_; rintro e w2 ⟨rfl, hd⟩; have HQ2 := Qa.mk (IsQ.below hq.out hd.below); have HB2 := Qa.mk (below_then hb.out (IsQ.base_le hq.out) hd.below); clear hd)
          go_wp2_with fail
          (go_at_call 59; refine (queue_Less HQ2.out (2 * i + 1) i hj0 HJ1.out h0 HIL.out).mono ?_; rintro e w3 ⟨rfl, hd⟩; have HQ3 := Qa.mk (IsQ.below HQ2.out hd.below); have HB3 := Qa.mk (below_then HB2.out (IsQ.base_le HQ2.out) hd.below); clear hd)
          go_wp2
          go_ret
          exact ⟨_, rfl, l1, hp.out, HQ3.out, HB3.out⟩
    · have c2b : decide (2 * i + 1 + 1 < n) = false := decide_eq_false c2
      clear c2
      by_cases hlt : rd l1 (2 * i + 1) < rd l1 i
      · have hltb : decide (rd l1 (2 * i + 1) < rd l1 i) = true := decide_eq_true hlt
        clear hlt
        go_wp2_with fail
        (go_at_call 59; refine (queue_Less hq.out (2 * i + 1) i hj0 HJ1.out h0 HIL.out).mono ?_; rintro e w3 ⟨rfl, hd⟩; have HQ3 := Qa.mk (IsQ.below hq.out hd.below); have HB3 := Qa.mk (below_then hb.out (IsQ.base_le hq.out) hd.below); clear hd)
        go_wp2_with fail
        (go_at_call 62; refine (queue_Swap HQ3.out i (2 * i + 1) h0 HIL.out hj0 HJ1.out).mono ?_; rintro e w4 ⟨rfl, hq4, hb4⟩)
        go_wp2
        go_roundg (gk - 1)
        case measure => have := hk.out; have := HLE.out; have := (HJ1.out); omega
        case rel => exact ⟨2 * i + 1, swapL l1 i (2 * i + 1), rfl, hj0, ⟨by have := hk.out; have := HLE.out; have := (HJ1.out); omega⟩, ⟨by rw [swapL_length]; have := (HJ1.out); omega⟩, ⟨(swap_perm l1 _ _ h0 HIL.out hj0 HJ1.out).trans hp.out⟩, ⟨hq4⟩, ⟨HB3.out.trans hb4⟩⟩
      · have hltb : decide (rd l1 (2 * i + 1) < rd l1 i) = false := decide_eq_false hlt
        clear hlt
        go_wp2_with fail
        (go_at_call 59; refine (queue_Less hq.out (2 * i + 1) i hj0 HJ1.out h0 HIL.out).mono ?_; rintro e w3 ⟨rfl, hd⟩; have HQ3 := Qa.mk (IsQ.below hq.out hd.below); have HB3 := Qa.mk (below_then hb.out (IsQ.base_le hq.out) hd.below); clear hd)
        go_wp2
        go_ret
        exact ⟨_, rfl, l1, hp.out, HQ3.out, HB3.out⟩
end Go.Proofs.Ytnaanamibfpbpaa.V
namespace Go.Proofs.Ytnaanamibfpbpaa.V
open Go.RowKit Go.Proofs.YtnaanamibfpbpaaW.PrintWords Go.Proofs.YtnaanamibfpbpaaW.PrintLast Go.Proofs.YtnaanamibfpbpaaW.PrintMore
set_option linter.unusedVariables false
set_option linter.unusedSimpArgs false
set_option maxHeartbeats 4000000 in
set_option maxRecDepth 100000 in
theorem heap_Push {base : Nat} {w : World} {g : Nat} {l : List Int} {b : List Bool} (h : IsQ base w g l b) (i : Int) (hi0 : 0 ≤ i) (hi : i < (b.length : Int)) (hl : (l.length + 1) * 8 ≤ 140737488355328) :
    Calls Try.prog 29 #[qiface g, .iface 3 (.int .i64 i)] w (QPost base w g (l ++ [i]) (b.set i.toNat true)) := by
  have hm1 : ∀ w : World, (method 201 56 (.pointer (some ⟨g, 0, none⟩)) "Len").run Try.prog w = .ok (24, .pointer (some ⟨g, 0, none⟩)) w := fun _ => by kernel_rfl
  have hm2 : ∀ w : World, (method 201 56 (.pointer (some ⟨g, 0, none⟩)) "Push").run Try.prog w = .ok (61, .pointer (some ⟨g, 0, none⟩)) w := fun _ => by kernel_rfl
  have H := Qa.mk h
  have HI := Qa.mk (And.intro hi0 (And.intro hi hl))
  have HL := Qa.mk (show (l ++ [i]).length ≤ 140737488355328 by rw [List.length_append, List.length_singleton]; omega)
  have hb0 : 0 ≤ ((l ++ [i]).length : Int) - 1 := by rw [List.length_append, List.length_singleton]; omega
  have HB1 := Qa.mk (show ((l ++ [i]).length : Int) - 1 < ((l ++ [i]).length : Int) by omega)
  clear h hi0 hi hl
  go_enter Try.func29, Try.ntmps29
  go_wp2_with fail
  (go_at_call 61; refine (queue_Push H.out H.out.base_le i HI.out.1 HI.out.2.1 HI.out.2.2).mono ?_; rintro e w2 ⟨rfl, hq2, hb2⟩)
  have HQ2 := Qa.mk hq2
  have HB2 := Qa.mk hb2
  clear hq2 hb2
  generalize hG : l ++ [i] = L at HQ2 HL hb0 HB1
  have HG := Qa.mk hG
  clear hG
  have hbL : (L.length : Int) ≤ 140737488355328 := by have := HL.out; omega
  go_wp2_with fail
  (go_at_call 24; refine (queue_Len HQ2.out).mono ?_; rintro e w3 ⟨rfl, rfl⟩)
  go_wp2_with fail
  (go_at_call 39; refine (heap_up HQ2.out ((L.length : Int) - 1) hb0 HB1.out (by have := HL.out; omega)).mono ?_; rintro e w4 ⟨rfl, l4, hp4, hq4, hb4⟩)
  go_wp2
  go_end0
  exact ⟨rfl, l4, by rw [HG.out]; exact hp4, hq4, HB2.out.trans hb4⟩
def PPost (base : Nat) (w : World) (g : Nat) (l : List Int) (b : List Bool) (e : Ending) (w' : World) : Prop := ∃ x l', e = .returned (.iface 3 (.int .i64 x)) ∧ (x :: l').Perm l ∧ IsQ base w' g l' (b.set x.toNat false) ∧ Below base w w'
theorem take_last (l : List Int) (hl : 0 < l.length) : (rd l ((l.length : Int) - 1) :: l.take ((l.length : Int) - 1).toNat).Perm l := by
  have e : ((l.length : Int) - 1).toNat = l.length - 1 := by omega
  have h : l.length - 1 < l.length := by omega
  have e2 : rd l ((l.length : Int) - 1) = l[l.length - 1] := by unfold rd; rw [e, List.getD_eq_getElem?_getD, List.getElem?_eq_getElem h]; rfl
  rw [e, e2]
  have h3 : l.take (l.length - 1) ++ [l[l.length - 1]] = l := by
    rw [← List.take_succ_eq_append_getElem h, List.take_of_length_le (by omega)]
  exact (List.perm_append_singleton _ _).symm.trans (by rw [h3])
set_option maxHeartbeats 4000000 in
set_option maxRecDepth 100000 in
theorem heap_Pop {base : Nat} {w : World} {g : Nat} {l : List Int} {b : List Bool} (h : IsQ base w g l b) (hl0 : 0 < l.length) (hl : l.length ≤ 140737488355328) (hall : ∀ x ∈ l, 0 ≤ x ∧ x < (b.length : Int)) :
    Calls Try.prog 25 #[qiface g] w (PPost base w g l b) := by
  have hm1 : ∀ w : World, (method 201 56 (.pointer (some ⟨g, 0, none⟩)) "Len").run Try.prog w = .ok (24, .pointer (some ⟨g, 0, none⟩)) w := fun _ => by kernel_rfl
  have hm2 : ∀ w : World, (method 201 56 (.pointer (some ⟨g, 0, none⟩)) "Swap").run Try.prog w = .ok (62, .pointer (some ⟨g, 0, none⟩)) w := fun _ => by kernel_rfl
  have hm3 : ∀ w : World, (method 201 56 (.pointer (some ⟨g, 0, none⟩)) "Pop").run Try.prog w = .ok (60, .pointer (some ⟨g, 0, none⟩)) w := fun _ => by kernel_rfl
  have H := Qa.mk h
  have HA := Qa.mk hall
  have HL := Qa.mk (And.intro hl0 hl)
  have hbL : (l.length : Int) ≤ 140737488355328 := by omega
  have hb0 : 0 ≤ (l.length : Int) - 1 := by omega
  clear h hl0 hl hall
  go_enter Try.func25, Try.ntmps25
  go_wp2_with fail
  (go_at_call 24; refine (queue_Len H.out).mono ?_; rintro e w3 ⟨rfl, rfl⟩)
  go_wp2_with fail
  (go_at_call 62; refine (queue_Swap H.out 0 ((l.length : Int) - 1) (Int.le_refl 0) (by have := HL.out.1; omega) hb0 (by omega)).mono ?_; rintro e w4 ⟨rfl, hq4, hb4⟩)
  have HQ4 := Qa.mk hq4
  have HB4 := Qa.mk hb4
  have HP4 := Qa.mk (swap_perm l 0 ((l.length : Int) - 1) (Int.le_refl 0) (by have := HL.out.1; omega) hb0 (by omega))
  clear hq4 hb4
  generalize swapL l 0 ((l.length : Int) - 1) = l4 at HQ4 HP4
  have HL4 := Qa.mk HP4.out.length_eq
  go_wp2_with fail
  (go_at_call 30; refine (heap_down HQ4.out 0 ((l.length : Int) - 1) (Int.le_refl 0) (by omega) (by have := HL4.out; omega) (by have := HL4.out; have := HL.out.2; omega)).mono ?_; rintro e w5 ⟨r, rfl, l5, hp5, hq5, hb5⟩)
  have HQ5 := Qa.mk hq5
  have HB5 := Qa.mk hb5
  have HP5 := Qa.mk (hp5.trans HP4.out)
  have HL5 := Qa.mk HP5.out.length_eq
  clear hq5 hb5 hp5
  have HR : Qa (0 ≤ rd l5 ((l5.length : Int) - 1) ∧ rd l5 ((l5.length : Int) - 1) < (b.length : Int)) := ⟨HA.out _ (HP5.out.mem_iff.1 ((take_last l5 (by have := HL5.out; have := HL.out.1; omega)).mem_iff.1 (by simp)))⟩
  go_wp2_with fail
  (go_at_call 60; refine (queue_Pop HQ5.out (by have := HL5.out; have := HL.out.1; omega) HR.out.1 HR.out.2).mono ?_; rintro e w6 ⟨rfl, hq6, hb6⟩)
  go_wp2
  go_ret
  exact ⟨_, _, rfl, (take_last l5 (by have := HL5.out; have := HL.out.1; omega)).trans HP5.out, hq6, (HB4.out.trans HB5.out).trans hb6⟩
def APost (base : Nat) (w : World) (g : Nat) (l : List Int) (b : List Bool) (i : Int) (e : Ending) (w' : World) : Prop :=
  e = .returned (.tuple #[]) ∧ ∃ l', (if rdOf false b i = true then l'.Perm l else l'.Perm (l ++ [i])) ∧ IsQ base w' g l' (b.set i.toNat true) ∧ Below base w w'
set_option maxHeartbeats 4000000 in
set_option maxRecDepth 100000 in
theorem queue_add {base : Nat} {w : World} {g : Nat} {l : List Int} {b : List Bool} (h : IsQ base w g l b) (i : Int) (hi0 : 0 ≤ i) (hi : i < (b.length : Int)) (hl : (l.length + 1) * 8 ≤ 140737488355328) :
    Calls Try.prog 23 #[.pointer (some ⟨g, 0, none⟩), .int .i64 i] w (APost base w g l b i) := by
  obtain ⟨vl, gb, d, h1, h2, h3, h4, h5, h6, h7⟩ := h.marks (by omega)
  have x1 : w.cell? ⟨g, 1, none⟩ = some (.slice (some ⟨gb, 0, none⟩) b.length d) := (Qe h1 1).trans rfl
  have y := (own_at_of (d := false) h6 i hi0 hi).1
  have H := Qa.mk h
  have HI := Qa.mk (And.intro hi0 (And.intro hi hl))
  replace hi0 := eq_true hi0
  replace hi := eq_true hi
  clear h h1 h2 h3 h4 h5 h6 h7 hl
  by_cases c : rdOf false b i = true
  · have hs : b.set i.toNat true = b := by
      have hlt : i.toNat < b.length := by have := HI.out; omega
      have e : b[i.toNat] = true := by
        unfold rdOf at c
        rw [List.getD_eq_getElem?_getD, List.getElem?_eq_getElem hlt] at c
        exact c
      rw [← e]
      exact List.set_getElem_self hlt
    have HS := Qa.mk hs
    rw [c] at y
    have HC := Qa.mk c
    clear hs c
    go_enter Try.func23, Try.ntmps23
    go_wp2
    go_end0
    exact ⟨rfl, l, by rw [if_pos HC.out], by rw [HS.out]; exact H.out, Below.refl _ _⟩
  · rw [Bool.eq_false_iff.2 c] at y
    have HC := Qa.mk c
    clear c
    go_enter Try.func23, Try.ntmps23
    go_wp2_with fail
    (go_at_call 29; refine (heap_Push H.out i HI.out.1 HI.out.2.1 HI.out.2.2).mono ?_; rintro e w4 ⟨rfl, l4, hp4, hq4, hb4⟩)
    go_wp2
    go_end0
    exact ⟨rfl, l4, by rw [if_neg HC.out]; exact hp4, hq4, hb4⟩
end Go.Proofs.Ytnaanamibfpbpaa.V
namespace Go.Proofs.Ytnaanamibfpbpaa.V
open Go.RowKit Go.Proofs.YtnaanamibfpbpaaW.PrintWords Go.Proofs.YtnaanamibfpbpaaW.PrintLast Go.Proofs.YtnaanamibfpbpaaW.PrintMore
attribute [local go_sem] max2_int min2_int max_two min_two max_three min_three max_four min_four tdiv_most
set_option linter.unusedVariables false
set_option linter.unusedSimpArgs false
theorem eqA36 (d : Nat) (w : World) (x0 y0 : Bool) (x1 y1 : Bool) (x2 y2 : Bool) :
    (Op.equalIn (d + 2) 36 (.agg #[.bool x0, .bool x1, .bool x2]) (.agg #[.bool y0, .bool y1, .bool y2])).run Try.prog w = .ok (x0 == y0 && (x1 == y1 && (x2 == y2))) w := by
  refine eqA_of Try.underlying36 (by kernel_rfl) ?_
  refine eqf_cons (by rfl) (by go_simp; rfl) (by go_simp; rfl) (by go_simp) ?_
  refine eqf_cons (by rfl) (by go_simp; rfl) (by go_simp; rfl) (by go_simp) ?_
  exact eqf_last (by rfl) (by go_simp; rfl) (by go_simp; rfl) (by go_simp)
end Go.Proofs.Ytnaanamibfpbpaa.V
namespace Go.Proofs.Ytnaanamibfpbpaa.V
open Go.RowKit Go.Proofs.YtnaanamibfpbpaaW.PrintWords Go.Proofs.YtnaanamibfpbpaaW.PrintLast Go.Proofs.YtnaanamibfpbpaaW.PrintMore
set_option linter.unusedVariables false
set_option linter.unusedSimpArgs false
attribute [local go_sem high] eqA36
structure EnvO (w w1 W : World) (go cO q : Nat) (O : List FlowT) (l : List Int) (b : List Bool) : Prop where
  hk : KeepBut w1 W go none
  hb : Below w.heap.size w W
  ho : Kd.R k36 36 W w.heap.size (fun k => k = go) (.slice (some ⟨go, 0, none⟩) O.length cO) O
  hq : IsQ w1.heap.size W q l b
  hl : w.heap.size ≤ w1.heap.size
  hg : go < w1.heap.size
theorem keep_base {w1 W W' : World} {go : Nat} (h : KeepBut w1 W go none) (k : Below w1.heap.size W W') : KeepBut w1 W' go none :=
  ⟨Nat.le_trans h.1 k.size, fun i hi hn hr => (k.block i hi).trans (h.2 i hi hn hr)⟩
theorem EnvO.q {w w1 W W' : World} {go cO q : Nat} {O : List FlowT} {l l' : List Int} {b b' : List Bool} (h : EnvO w w1 W go cO q O l b) (hb : Below w1.heap.size W W') (hq : IsQ w1.heap.size W' q l' b') : EnvO w w1 W' go cO q O l' b' :=
  ⟨keep_base h.hk hb, h.hb.trans (hb.mono h.hl), Kd.R_step h.ho (fun k hk _ => by subst hk; exact hb.block _ h.hg), hq, h.hl, h.hg⟩
theorem EnvO.below {w w1 W W' : World} {go cO q : Nat} {O : List FlowT} {l : List Int} {b : List Bool} (h : EnvO w w1 W go cO q O l b) (hb : Below W.heap.size W W') : EnvO w w1 W' go cO q O l b :=
  ⟨KeepBut.trans h.hk (KeepBut.of_below hb go none) (.inl rfl), Qv h.hb hb, Kd.Qd1 h.ho hb, h.hq.below hb, h.hl, h.hg⟩
theorem EnvO.blk {w w1 W : World} {go cO q : Nat} {O : List FlowT} {l : List Int} {b : List Bool} (h : EnvO w w1 W go cO q O l b) {g : Nat} {o : Obj} (hg : w1.heap[g]? = some o) (hne : g ≠ go) : W.heap[g]? = some o := h.hk.blk hg hne (by simp)
theorem qinv_nil (n : Nat) : QInv n [] (List.replicate n false) := by
  refine ⟨by simp, by simp, fun x => ⟨fun h => (by cases h), fun h => ?_⟩⟩
  have := h.2.2
  unfold rdOf at this
  rw [List.getD_eq_getElem?_getD, List.getElem?_replicate] at this
  split at this <;> cases this
theorem put3 {W : World} {g t : Nat} {a b c : Value} (h : W.heap[g]? = some (.cells #[a, b, c] t (0, 0))) (x y z : Value) : (((W.setCell ⟨g, 0, none⟩ x).setCell ⟨g, 1, none⟩ y).setCell ⟨g, 2, none⟩ z).heap[g]? = some (.cells #[x, y, z] t (0, 0)) := Qt (Qt (Qt h 0 x rfl) 1 y rfl) 2 z rfl
def phi (n : Nat) (O : List FlowT) (l : List Int) : Nat := (3 * n - cnt (O.map toR)) * (n + 1) + l.length
theorem phi_lt {n : Nat} {O O' : List FlowT} {l l1 : List Int} (h : cnt (O.map toR) < cnt (O'.map toR)) (h3 : cnt (O'.map toR) ≤ 3 * n) (hl : l1.length ≤ n) : phi n O' l1 < phi n O l := by
  unfold phi
  have h1 : (3 * n - cnt (O'.map toR)) + 1 ≤ 3 * n - cnt (O.map toR) := by omega
  have h2 := Nat.mul_le_mul_right (n + 1) h1
  rw [Nat.add_mul, Nat.one_mul] at h2
  omega
theorem IsQ.far {base : Nat} {w : World} {g : Nat} {l : List Int} {b : List Bool} (h : IsQ base w g l b) {p : Addr} (hp : p.block < base) (u : Value) : IsQ base (w.setCell p u) g l b := by
  obtain ⟨vl, vb, h1, h2, h3, h4⟩ := h
  exact ⟨vl, vb, Qn h1 (by omega) u, h2, own_setCell h3 (fun e => by have := own_base h3 _ e.symm; omega) u, own_setCell h4 (fun e => by have := own_base h4 _ e.symm; omega) u⟩
theorem EnvO.store {w w1 W : World} {go cO q : Nat} {O : List FlowT} {l : List Int} {b : List Bool} (h : EnvO w w1 W go cO q O l b) (x : Int) (hx0 : 0 ≤ x) (hx1 : x < (O.length : Int)) (v : FlowT) :
    EnvO w w1 (((W.setCell ⟨go, x.toNat * 3, none⟩ (.bool v.f0)).setCell ⟨go, x.toNat * 3 + 1, none⟩ (.bool v.f1)).setCell ⟨go, x.toNat * 3 + 2, none⟩ (.bool v.f2)) go cO q (O.set x.toNat v) l b := by
  have hgo : w.heap.size ≤ go := Kd.R_base h.ho go rfl
  obtain ⟨ce, hcl, hM, hcc, hfr⟩ := Kd.R_elem h.ho z36 x hx0 hx1
  have HP := Kd.R_seg h.ho x hx0 hx1 (seg := [.bool v.f0, .bool v.f1, .bool v.f2]) (j := 0) hcl hcc (show 3 ≤ 3 from by decide) (x' := v) (by
    rw [List.take_zero, List.nil_append, show (0 + [Value.bool v.f0, .bool v.f1, .bool v.f2].length) = ce.length from hcl.symm, List.drop_length, List.append_nil]
    exact k36_mkM _ _ _ v) (fun _ hk => hk)
  refine ⟨((h.hk.set_ _ _).set_ _ _).set_ _ _, ((h.hb.setCell (p := ⟨go, x.toNat * 3, none⟩) hgo _).setCell (p := ⟨go, x.toNat * 3 + 1, none⟩) hgo _).setCell (p := ⟨go, x.toNat * 3 + 2, none⟩) hgo _, ?_, ((h.hq.far (p := ⟨go, x.toNat * 3, none⟩) h.hg _).far (p := ⟨go, x.toNat * 3 + 1, none⟩) h.hg _).far (p := ⟨go, x.toNat * 3 + 2, none⟩) h.hg _, h.hl, h.hg⟩
  rw [List.length_set]
  exact Kd.R_mono HP.1 (fun k hk => hk)
set_option maxHeartbeats 8000000 in
set_option maxRecDepth 100000 in
theorem flow_Of.calls (k : Nat) (A0_0 : Option Addr) (c0_0 : Nat) (l0_0 : List RuleT) (A0_1 : Option Addr) (c0_1 : Nat) (l0_1 : List NodeT) (r : List FlowT) (w : World) (hr0_0 : Kd.C k39 w A0_0 l0_0.length l0_0) (hc0_0 : l0_0.length ≤ c0_0) (hr0_1 : Kd.C k53 w A0_1 l0_1.length l0_1) (hc0_1 : l0_1.length ≤ c0_1) (h : flow_Of.f k l0_0 l0_1 = some r) :
    Calls Try.prog 13 #[.agg #[.slice A0_0 l0_0.length c0_0, .slice A0_1 l0_1.length c0_1]] w fun e w' => ∃ v0_ : Value, e = .returned (v0_) ∧ Kd.R k36 36 w' w.heap.size (fun _ => True) v0_ r ∧ Below w.heap.size w w' := by
  unfold flow_Of.f at h
  have hc : fitB l0_0 l0_1 = true ∧ 20000 ≤ k := by
    by_cases hc : fitB l0_0 l0_1 = true ∧ 20000 ≤ k
    · exact hc
    · rw [if_neg hc] at h; cases h
  rw [if_pos hc] at h
  obtain rfl := Option.some.inj h
  have FIT := Qa.mk (fit_of hc.1)
  have HK := Qa.mk hc.2
  have hn1 : 0 < l0_1.length := FIT.out.pos
  have hn3 : l0_1.length ≤ 300 := FIT.out.nodes
  have HN := Qa.mk (And.intro hn1 hn3)
  obtain ⟨U, hU, hUok⟩ := users_val FIT.out k HK.out
  have HU := Qa.mk hU
  have HUO := Qa.mk hUok
  have HR0 := Qa.mk hr0_0
  have HC0 := Qa.mk hc0_0
  have HR1 := Qa.mk hr0_1
  have HC1 := Qa.mk hc0_1
  clear hc h hn1 hn3 hU hUok hr0_0 hr0_1 hc0_0 hc0_1
  have hu25 := Try.underlying25
  have hu36 := Try.underlying36
  have hu59 := Try.underlying59
  have hu32 := Try.underlying32
  have hu57 := Try.underlying57
  have hu51 := Try.underlying51
  have hu54 := Try.underlying54
  have hta : ∀ (w : World) (x : Int), (Instr.typeAssert (.iface 3 (.int .i64 x)) 20 3 true).run Try.prog w = .ok (.tuple #[.int .i64 x, .bool true]) w := fun _ _ => by kernel_rfl
  go_enter Try.func13, Try.ntmps13
  go_upto_region 1 with ((with_reducible refine Qg1 (N := 1) rfl ?_); refine Qh1 ?hg (N := 1) ?hd (cs := #[.slice A0_0 l0_0.length c0_0, .slice A0_1 l0_1.length c0_1]) (t := 25) ?hr ?_; (case hd => rfl); (case hg => rfl); (case hr => first | (go_simp; done) | (go_simp; rfl)); intro gb hg w2 hbox hb; have GB := Qa.mk hbox; have HB2 := Qa.mk hb; have HG := Qa.mk hg; clear hbox hb hg)
  have z0 : w2.cell? ⟨gb, 0, none⟩ = some (.slice A0_0 l0_0.length c0_0) := (Qe GB.out 0).trans rfl
  have z1 : w2.cell? ⟨gb, 1, none⟩ = some (.slice A0_1 l0_1.length c0_1) := (Qe GB.out 1).trans rfl
  go_upto_region 2 with ((with_reducible refine Qg1 (N := 16) rfl ?_); refine Kd.R_make k36 _ 36 rfl (N := 16) rfl 32 _ _ rfl (l0_1.length : Int) rfl rfl Try.underlying32 (.agg #[(.bool false), (.bool false), (.bool false)]) 3 info36 rfl (by decide) (by omega) z36 (ok := fun _ => True) (okp := fun _ => True) (k36_mkM _ _ _ z36) (fun _ hk => hk) trivial (by omega) (by have := HN.out; omega) (Below.refl _ _) (Nat.le_refl _) ?_; intro vO w3 ho hb hg_ hnew_; have HO := Qa.mk ho; have HB3 := Qa.mk hb; clear ho hb hg_ hnew_)
  have hlen : (List.replicate (l0_1.length : Int).toNat z36).length = l0_1.length := by simp
  obtain ⟨go, cO, eO, go1, go2, cells, go3⟩ := Kd.R_form HO.out (by rw [hlen]; exact HN.out.1)
  rw [hlen] at eO
  subst eO
  have GOB := Qa.mk go1
  have GOL := Qa.mk go2
  have GOC := Qa.mk go3
  clear go1 go2 go3 z0 z1 hlen
  have GB3 := Qa.mk (Qs GB.out HB3.out)
  have z0 : w3.cell? ⟨gb, 0, none⟩ = some (.slice A0_0 l0_0.length c0_0) := (Qe GB3.out 0).trans rfl
  have z1 : w3.cell? ⟨gb, 1, none⟩ = some (.slice A0_1 l0_1.length c0_1) := (Qe GB3.out 1).trans rfl
  have HBW3 := Qa.mk (Qv HB2.out HB3.out)
  go_wp2_with fail
  refine (flow_users.calls k A0_0 c0_0 l0_0 A0_1 c0_1 l0_1 U _ (Kd.C_below HR0.out HBW3.out) HC0.out (Kd.C_below HR1.out HBW3.out) HC1.out HU.out).mono ?_
  rintro e w4 ⟨vU, rfl, hsu, hb4⟩
  have HB4 := Qa.mk hb4
  have GO4 := Qa.mk (Qs GOC.out HB4.out)
  have HSU := Qa.mk (Kd.S_types hsu GO4.out (by decide))
  clear hsu hb4 z0 z1
  obtain ⟨gU, cU, eU, hU1, hU2, cellsU, hU3⟩ := Kd.S_form HSU.out (by rw [HUO.out.1]; exact HN.out.1)
  rw [HUO.out.1] at eU
  subst eU
  clear hU1 hU2 hU3
  have GB4 := Qa.mk (Qs GB3.out HB4.out)
  have HBW4 := Qa.mk (Qv HBW3.out HB4.out)
  have z0 : w4.cell? ⟨gb, 0, none⟩ = some (.slice A0_0 l0_0.length c0_0) := (Qe GB4.out 0).trans rfl
  have z1 : w4.cell? ⟨gb, 1, none⟩ = some (.slice A0_1 l0_1.length c0_1) := (Qe GB4.out 1).trans rfl
  have HO4 : Qa (Kd.R k36 36 w4 w.heap.size (fun k => k = go) (.slice (some ⟨go, 0, none⟩) (List.replicate l0_1.length z36).length cO) (List.replicate l0_1.length z36)) := ⟨by
    have h1 := Kd.R_lower (Kd.Qd1 HO.out HB4.out) (Qb1 HB2.out)
    obtain ⟨h2, h3⟩ := h1
    rw [show (l0_1.length : Int).toNat = l0_1.length by omega] at h3
    rw [List.length_replicate]
    exact ⟨fun k hk => by simpa [Value.ownBlock] using hk.symm, h3.imp_ (fun p c hp => by obtain rfl := k36_openM hp; exact k36_mkM _ _ _ p)⟩⟩
  clear HO GB GB3
  go_upto_region 4 with (first
    | ((with_reducible refine Qg1 (N := 22) rfl ?_); refine Kd.R_make Kd.bool _ 4 rfl (N := 22) rfl 57 _ _ rfl (l0_1.length : Int) rfl rfl Try.underlying57 (.bool false) 1 info4 rfl (by decide) (by omega) false (ok := fun _ => True) (okp := fun _ => True) rfl (fun _ hk => hk) trivial (by omega) (by have := HN.out; omega) (Below.refl _ _) (Nat.le_refl _) ?_; intro vB w5 hob hb hg_ hnew_; have HOB := Qa.mk hob; have HB5 := Qa.mk hb; clear hob hb hg_ hnew_; obtain ⟨gk, cB, eB, hk1, hk2, cellsK, hk3⟩ := Kd.R_form HOB.out (by simp; exact HN.out.1); rw [List.length_replicate] at eB; subst eB; clear hk1 hk2 hk3)
    | ((with_reducible refine Qg1 (N := 24) rfl ?_); refine Qh1 ?hg (N := 24) ?hd (cs := #[.slice none 0 0, .slice (some ⟨gk, 0, none⟩) (l0_1.length : Int).toNat cB]) (t := 59) ?hr ?_; (case hd => rfl); (case hg => rfl); (case hr => first | (go_simp; done) | (go_simp; rfl)); intro q hg w6 hbox hb; have QB := Qa.mk hbox; have HB6 := Qa.mk hb; have HGQ := Qa.mk hg; clear hbox hb hg))
  have HE : Qa (EnvO w w4 w6 go cO q (List.replicate l0_1.length z36) [] (List.replicate l0_1.length false)) := ⟨by
    have b56 : Below w4.heap.size w4 w6 := Qv HB5.out HB6.out
    refine ⟨KeepBut.of_below b56 go none, Qv HBW4.out b56, Kd.Qd1 HO4.out b56, ⟨_, _, QB.out, by rw [HGQ.out]; exact HB5.out.size, own_nil _ _ _ _, ?_⟩, HBW4.out.size, Qy GO4.out⟩
    have h1 := Kd.own_of_R HOB.out
    rw [show (l0_1.length : Int).toNat = l0_1.length by omega] at h1
    rw [List.length_replicate] at h1 ⊢
    exact pw_own_below h1 HB6.out⟩
  clear z0 z1
  have GB6 := Qa.mk (HE.out.blk GB4.out (by intro e; subst e; have := GB4.out.symm.trans GO4.out; simp at this))
  have z0 : w6.cell? ⟨gb, 0, none⟩ = some (.slice A0_0 l0_0.length c0_0) := (Qe GB6.out 0).trans rfl
  have z1 : w6.cell? ⟨gb, 1, none⟩ = some (.slice A0_1 l0_1.length c0_1) := (Qe GB6.out 1).trans rfl
  have HNE : Qa (gb ≠ go) := ⟨by intro e; subst e; have := GB4.out.symm.trans GO4.out; simp at this⟩
  clear HB6 HB5 HOB QB HGQ HO4 HB4 HB3 HB2 GOB GOL GOC HBW3
  have HE0 := HE
  clear HE
  go_wp2
  have hnn : 0 ≤ (l0_1.length : Int) := by omega
  have hn3 : (l0_1.length : Int) ≤ 300 := by have := HN.out; omega
  go_loopg [30] (l0_1.length + 1) (fun kq v30 w' => ∃ (i : Int) (l : List Int) (b : List Bool), v30 = .int .i64 i ∧ 0 ≤ i ∧ Qa (i ≤ (l0_1.length : Int)) ∧ Qa (((l0_1.length : Int) - i).toNat < kq) ∧ Qa (EnvO w w4 w' go cO q (List.replicate l0_1.length z36) l b) ∧ Qa (QInv l0_1.length l b) ∧ Qa (∀ y : Int, 0 ≤ y → y < i → y ∈ l))
  case atStart => exact ⟨0, [], List.replicate l0_1.length false, rfl, Int.le_refl 0, ⟨by omega⟩, ⟨by omega⟩, HE0, ⟨qinv_nil _⟩, ⟨fun y h1 h2 => by omega⟩⟩
  case round =>
    clear HE0 z0 z1 GB6
    obtain ⟨i, l, b, rfl, hi0, hin, hgk, HE, HQ, HM⟩ := hrel
    by_cases c : i < (l0_1.length : Int)
    · have cb : decide (i < (l0_1.length : Int)) = true := decide_eq_true c
      have HC := Qa.mk c
      have hi1 : i + 1 ≤ 300 := by omega
      clear c
      go_wp2_with fail
      refine (queue_add HE.out.hq i hi0 (by rw [HQ.out.1]; exact HC.out) (by have := HQ.out.le; have := HN.out; omega)).mono ?_
      rintro e w7 ⟨rfl, l7, hp7, hq7, hb7⟩
      have HA := Qa.mk (HQ.out.add hi0 HC.out hp7)
      have HE7 := Qa.mk (HE.out.q hb7 hq7)
      clear hp7 hq7 hb7
      go_wp2
      go_roundg (gk - 1)
      case measure => have := hgk.out; omega
      case rel => exact ⟨i + 1, l7, b.set i.toNat true, rfl, by omega, ⟨by have := HC.out; omega⟩, ⟨by have := hgk.out; have := HC.out; omega⟩, HE7, ⟨HA.out.1⟩, ⟨fun y h1 h2 => by
        by_cases e : y = i
        · subst e; exact HA.out.2.1
        · exact HA.out.2.2 y (HM.out y h1 (by omega))⟩⟩
    · have cb : decide (i < (l0_1.length : Int)) = false := decide_eq_false c
      have HI : Qa (OInv l0_0 l0_1 (List.replicate l0_1.length z36) l) := ⟨OInv.start l0_0 l0_1 l (fun y h1 h2 => HM.out y h1 (by omega))⟩
      clear c HM
      clear hi0 hin hgk
      generalize hO : List.replicate l0_1.length z36 = O at HE HI
      clear hO
      go_wp2
      go_loopg [] (phi l0_1.length O l + 1) (fun kq w' => ∃ (O : List FlowT) (l : List Int) (b : List Bool), Qa (phi l0_1.length O l < kq) ∧ Qa (EnvO w w4 w' go cO q O l b) ∧ Qa (QInv l0_1.length l b) ∧ Qa (OInv l0_0 l0_1 O l))
      case atStart => exact ⟨O, l, b, ⟨by omega⟩, HE, HQ, HI⟩
      case round =>
        clear HE HQ HI cb
        clear O l b
        obtain ⟨O, l, b, hgk, HE, HQ, HI⟩ := hrel
        go_wp2_with fail
        refine (queue_Len HE.out.hq).mono ?_
        rintro e w7 ⟨rfl, rfl⟩
        have HOL := Qa.mk HI.out.len
        by_cases c : l.length = 0
        · have cb : decide ((l.length : Int) > 0) = false := decide_eq_false (by omega)
          have cb2 : decide (0 < l.length) = false := decide_eq_false (by omega)
          have hl : l = [] := List.length_eq_zero_iff.1 c
          have HF : Qa (O = (leastL l0_0 l0_1).map ofR) := ⟨OInv.fin (by rw [← hl]; exact HI.out)⟩
          clear c hl
          go_wp2
          go_ret
          refine ⟨_, rfl, ?_, HE.out.hb⟩
          have := HE.out.ho
          rw [HOL.out, HF.out] at this
          exact Kd.R_mono this (fun _ _ => trivial)
        · have cb : decide ((l.length : Int) > 0) = true := decide_eq_true (by omega)
          have cb2 : decide (0 < l.length) = true := decide_eq_true (by omega)
          have HLP := Qa.mk (show 0 < l.length by omega)
          clear c
          go_wp2_with fail
          refine (heap_Pop HE.out.hq HLP.out (by have := HQ.out.le; have := HN.out; omega) (fun x hx => by have := (HQ.out.2.2 x).1 hx; rw [HQ.out.1]; exact ⟨this.1, this.2.1⟩)).mono ?_
          rintro e w8 ⟨x, l8, rfl, hp8, hq8, hb8⟩
          have HP8 := Qa.mk hp8
          have HQ8 := Qa.mk (HQ.out.pop hp8)
          have HE8 := Qa.mk (HE.out.q hb8 hq8)
          have hx0 : 0 ≤ x := HQ8.out.2.1
          have HX1 := Qa.mk HQ8.out.2.2
          clear hp8 hq8 hb8 cb cb2
          have GB8 := Qa.mk (HE8.out.blk GB4.out HNE.out)
          have z0 : w8.cell? ⟨gb, 0, none⟩ = some (.slice A0_0 l0_0.length c0_0) := (Qe GB8.out 0).trans rfl
          have z1 : w8.cell? ⟨gb, 1, none⟩ = some (.slice A0_1 l0_1.length c0_1) := (Qe GB8.out 1).trans rfl
          have hta1 := hta
          go_wp2_with fail
          obtain ⟨⟨p1, p2, p3⟩, hp⟩ : ∃ p, p = Ql1.p l0_0 (O.map toR) (nodeAt l0_1 x) := ⟨_, rfl⟩
          have HPV := Qa.mk hp
          clear hp
          have HCO := Qa.mk (Kd.R_reads' HE8.out.ho)
          have hcall := flow_node.calls k A0_0 c0_0 l0_0 A0_1 c0_1 l0_1 x (some ⟨go, 0, none⟩) cO O p1 p2 p3 w8 (Kd.C_below HR0.out HE8.out.hb) HC0.out (Kd.C_below HR1.out HE8.out.hb) HC1.out HCO.out.2.2 HCO.out.2.1 (by
            rw [node_val FIT.out O HOL.out x hx0 HX1.out k (by have := HK.out; omega)]
            exact congrArg some HPV.out.symm)
          rw [HOL.out] at hcall
          (with_reducible refine hcall.mono ?_)
          clear hcall
          rintro e w9 ⟨rfl, hb9⟩
          have HE9 := Qa.mk (HE8.out.below hb9)
          clear hb9 z0 z1 GB8 HCO hta1
          have HE8' := HE8
          clear HE8 HE8'
          go_upto_region 14 with ((with_reducible refine Qg1 (N := 10) rfl ?_); refine Qh1 ?hg (N := 10) ?hd (cs := #[.bool false, .bool false, .bool false]) (t := 36) ?hr ?_; (case hd => rfl); (case hg => rfl); (case hr => first | (go_simp; done) | (go_simp; rfl)); intro gt hg w10 hbox hb; have BT := Qa.mk hbox; have HGT := Qa.mk hg; have HB10 := Qa.mk hb; clear hbox hb hg; have v0 : w10.cell? ⟨gt, 0, none⟩ = some (.bool false) := (Qe BT.out 0).trans rfl; have v1 : w10.cell? ⟨gt, 1, none⟩ = some (.bool false) := (Qe BT.out 1).trans rfl; have v2 : w10.cell? ⟨gt, 2, none⟩ = some (.bool false) := (Qe BT.out 2).trans rfl; have f0 := Qf BT.out 0; have f1 := Qf BT.out 1; have f2 := Qf BT.out 2)
          have BT2 := Qa.mk (put3 BT.out (.bool p1) (.bool p2) (.bool p3))
          have HE11 : Qa (EnvO w w4 (((w10.setCell ⟨gt, 0, none⟩ (.bool p1)).setCell ⟨gt, 1, none⟩ (.bool p2)).setCell ⟨gt, 2, none⟩ (.bool p3)) go cO q O l8 (b.set x.toNat false)) := ⟨HE9.out.below (((HB10.out.setCell (p := ⟨gt, 0, none⟩) (Nat.le_of_eq HGT.out.symm) _).setCell (p := ⟨gt, 1, none⟩) (Nat.le_of_eq HGT.out.symm) _).setCell (p := ⟨gt, 2, none⟩) (Nat.le_of_eq HGT.out.symm) _)⟩
          have HTN : Qa (gt ≠ go ∧ w4.heap.size ≤ gt) := ⟨by have h1 := HE9.out.hg; have h2 := HE9.out.hk.1; rw [HGT.out]; omega, by have h2 := HE9.out.hk.1; rw [HGT.out]; omega⟩
          clear v0 v1 v2 f0 f1 f2 BT HB10 HGT HE9
          generalize (((w10.setCell ⟨gt, 0, none⟩ (.bool p1)).setCell ⟨gt, 1, none⟩ (.bool p2)).setCell ⟨gt, 2, none⟩ (.bool p3)) = w11 at BT2 HE11 ⊢
          obtain ⟨o1, o2, o3, hov⟩ : ∃ o1 o2 o3, flowAt O x = ⟨o1, o2, o3⟩ := ⟨_, _, _, rfl⟩
          obtain ⟨ce, hcl, hM, hcc, hfr⟩ := Kd.R_elem HE11.out.ho z36 x hx0 (by rw [HOL.out]; exact HX1.out)
          change k36.M w11 w.heap.size _ (flowAt O x) ce at hM
          obtain rfl := k36_openM hM
          rw [hov] at hcc
          have y0 : w11.cell? ⟨go, x.toNat * 3, none⟩ = some (.bool o1) := hcc 0 _ rfl
          have y1 : w11.cell? ⟨go, x.toNat * 3 + 1, none⟩ = some (.bool o2) := hcc 1 _ rfl
          have y2 : w11.cell? ⟨go, x.toNat * 3 + 2, none⟩ = some (.bool o3) := hcc 2 _ rfl
          have HFR := Qa.mk hfr
          have HOV := Qa.mk hov
          clear hcl hM hcc hfr hov
          obtain ⟨k2, hk2⟩ : ∃ m, gk = m + 1 := ⟨gk - 1, by have := hgk.out; omega⟩
          subst hk2
          have v0 : w11.cell? ⟨gt, 0, none⟩ = some (.bool p1) := (Qe BT2.out 0).trans rfl
          have v1 : w11.cell? ⟨gt, 1, none⟩ = some (.bool p2) := (Qe BT2.out 1).trans rfl
          have v2 : w11.cell? ⟨gt, 2, none⟩ = some (.bool p3) := (Qe BT2.out 2).trans rfl
          replace hx0 := eq_true hx0
          have hx1 := eq_true HX1.out
          by_cases he : (p1 == o1 && (p2 == o2 && (p3 == o3))) = true
          · have HSAME : Qa (toR (flowAt O x) = mkF (Ql1.p l0_0 (O.map toR) (nodeAt l0_1 x))) := ⟨by
              rw [HOV.out, ← HPV.out]
              simp only [Bool.and_eq_true, beq_iff_eq] at he
              obtain ⟨rfl, rfl, rfl⟩ := he
              rfl⟩
            go_quiet (fail)
            go_wp2
            go_roundg k2
            case measure => omega
            case rel => exact ⟨O, l8, b.set x.toNat false, ⟨by have h1 := hgk.out; have h2 := HP8.out.length_eq; rw [List.length_cons] at h2; unfold phi at h1 ⊢; omega⟩, ⟨HE11.out.below (Ql (Below.refl _ _) _)⟩, ⟨HQ8.out.1⟩, ⟨HI.out.same HP8.out (of_eq_true hx0) HX1.out HSAME.out⟩⟩
          · have he := Bool.eq_false_iff.2 he
            have HDIFF : Qa ((⟨p1, p2, p3⟩ : FlowT) ≠ flowAt O x) := ⟨fun e => by
              rw [HOV.out] at e
              simp only [S36.mk.injEq] at e
              obtain ⟨rfl, rfl, rfl⟩ := e
              simp at he⟩
            go_quiet (fail)
            go_upto_region 15 with (fail)
            generalize hW : w11.drewN _ = w12
            have HE12 : Qa (EnvO w w4 w12 go cO q O l8 (b.set x.toNat false)) := ⟨by rw [← hW]; exact HE11.out.below (Ql (Below.refl _ _) _)⟩
            have v0' : w12.cell? ⟨gt, 0, none⟩ = some (.bool p1) := by rw [← hW]; exact v0
            have v1' : w12.cell? ⟨gt, 1, none⟩ = some (.bool p2) := by rw [← hW]; exact v1
            have v2' : w12.cell? ⟨gt, 2, none⟩ = some (.bool p3) := by rw [← hW]; exact v2
            have y0' : w12.cell? ⟨go, x.toNat * 3, none⟩ = some (.bool o1) := by rw [← hW]; exact y0
            have y1' : w12.cell? ⟨go, x.toNat * 3 + 1, none⟩ = some (.bool o2) := by rw [← hW]; exact y1
            have y2' : w12.cell? ⟨go, x.toNat * 3 + 2, none⟩ = some (.bool o3) := by rw [← hW]; exact y2
            have f0 : w12.frozen? ⟨go, x.toNat * 3, none⟩ = false := by rw [← hW]; exact HFR.out 0
            have f1 : w12.frozen? ⟨go, x.toNat * 3 + 1, none⟩ = false := by rw [← hW]; exact HFR.out 1
            have f2 : w12.frozen? ⟨go, x.toNat * 3 + 2, none⟩ = false := by rw [← hW]; exact HFR.out 2
            clear hW v0 v1 v2 y0 y1 y2 HE11 BT2 HFR
            go_upto_region 16 with (fail)
            have HE13 := Qa.mk (HE12.out.store x (of_eq_true hx0) (by rw [HOL.out]; exact HX1.out) ⟨p1, p2, p3⟩)
            generalize (((w12.setCell ⟨go, x.toNat * 3, none⟩ (.bool p1)).setCell ⟨go, x.toNat * 3 + 1, none⟩ (.bool p2)).setCell ⟨go, x.toNat * 3 + 2, none⟩ (.bool p3)) = w13 at HE13 ⊢
            clear v0' v1' v2' y0' y1' y2' f0 f1 f2 HE12
            obtain ⟨cu, hcu1, hcuM, hcuc⟩ := Kd.S_get HSU.out [] x (of_eq_true hx0) HX1.out
            obtain ⟨vr, rfl, hr⟩ := hcuM
            obtain ⟨Ar, cr, rfl⟩ := Kd.R_slice hr
            have hgU : gU ≠ go := ((Kd.S_R HSU.out).1 gU rfl).2
            have hcell := hcuc 0 _ rfl
            rw [Nat.add_zero, show ((Kd.slice 3 (Kd.int .i64))).sz = 1 from rfl, Nat.mul_one, add_plain] at hcell
            have u0 := keep_cell HE13.out.hk hcell hgU
            have HRR := Qa.mk hr
            have hrng := HUO.out.2.1 x (of_eq_true hx0)
            have hrl := HUO.out.2.2.1 x (of_eq_true hx0)
            have HOI := Qa.mk (fun l1 h1 h2 => HI.out.diff FIT.out HUO.out (l1 := l1) HP8.out (of_eq_true hx0) HX1.out ⟨p1, p2, p3⟩ (by rw [← HPV.out]; rfl) h1 h2)
            change ∀ y ∈ U.getD x.toNat [], _ at hrng
            change (U.getD x.toNat []).length ≤ _ at hrl
            generalize hrow : U.getD x.toNat [] = row at u0 HRR hrng hrl
            have HROW := Qa.mk hrow
            have HRNG := Qa.mk hrng
            clear hrow hrng hr hcu1 hcuc hcell hgU
            clear he
            have hrl' : (row.length : Int) ≤ 20000 := by omega
            go_wp2
            go_loopg [68] (row.length + 1) (fun kq v68 w' => ∃ (j : Int) (l1 : List Int) (b1 : List Bool), v68 = .int .i64 j ∧ 0 ≤ j ∧ Qa (j ≤ (row.length : Int)) ∧ Qa (((row.length : Int) - j).toNat < kq) ∧ Qa (EnvO w w4 w' go cO q (O.set x.toNat ⟨p1, p2, p3⟩) l1 b1) ∧ Qa (QInv l0_1.length l1 b1) ∧ Qa ((∀ y ∈ l8, y ∈ l1) ∧ ∀ y ∈ row.take j.toNat, y ∈ l1))
            case atStart => exact ⟨0, l8, b.set x.toNat false, rfl, Int.le_refl 0, ⟨by omega⟩, ⟨by omega⟩, HE13, ⟨HQ8.out.1⟩, ⟨fun y hy => hy, fun y hy => by simp at hy⟩⟩
            case round =>
              clear HE13 u0
              obtain ⟨j, l1, b1, rfl, hj0, hjn, hgk3, HE14, HQ14, HM14⟩ := hrel
              by_cases c : j < (row.length : Int)
              · have cb : decide (j < (row.length : Int)) = true := decide_eq_true c
                have HC := Qa.mk c
                have hj1 : j + 1 ≤ 20000 := by omega
                have HRW := Qa.mk (Kd.R_keep HRR.out HE14.out.hk (fun k hk => hk.1.2))
                obtain ⟨adr, eqr, hcr⟩ := Kd.at_int (Kd.R_reads' HRW.out).2.2 j hj0 c
                cases eqr
                have HY := Qa.mk (HRNG.out (rd row j) (by
                  unfold rd
                  rw [List.getD_eq_getElem?_getD, List.getElem?_eq_getElem (show j.toNat < row.length by omega)]
                  exact List.getElem_mem _))
                replace hj0 := eq_true hj0
                have hjlt := eq_true c
                clear c
                go_wp2_with fail
                refine (queue_add HE14.out.hq (rd row j) HY.out.1 (by rw [HQ14.out.1]; exact HY.out.2) (by have := HQ14.out.le; have := HN.out; omega)).mono ?_
                rintro e w15 ⟨rfl, l15, hp15, hq15, hb15⟩
                have HA := Qa.mk (HQ14.out.add HY.out.1 HY.out.2 hp15)
                have HE15 := Qa.mk (HE14.out.q hb15 hq15)
                clear hp15 hq15 hb15 hcr
                go_wp2
                go_roundg (gk - 1)
                case measure => have := hgk3.out; omega
                case rel => exact ⟨j + 1, l15, b1.set (rd row j).toNat true, by first | rfl | (rw [w64p _ (by have := of_eq_true hj0; omega)]), by have := of_eq_true hj0; omega, ⟨by have := HC.out; omega⟩, ⟨by have := hgk3.out; have := HC.out; have := of_eq_true hj0; omega⟩, HE15, ⟨HA.out.1⟩, ⟨fun y hy => HA.out.2.2 y (HM14.out.1 y hy), fun y hy => by
                  have h0 := of_eq_true hj0
                  have hjl : j.toNat < row.length := by have := HC.out; omega
                  rw [show (j + 1).toNat = j.toNat + 1 by omega, List.take_succ_eq_append_getElem hjl, List.mem_append, List.mem_singleton] at hy
                  rcases hy with hy | rfl
                  · exact HA.out.2.2 y (HM14.out.2 y hy)
                  · have e : rd row j = row[j.toNat] := by
                      unfold rd
                      rw [List.getD_eq_getElem?_getD, List.getElem?_eq_getElem hjl]
                      rfl
                    rw [← e]
                    exact HA.out.2.1⟩⟩
              · have cb : decide (j < (row.length : Int)) = false := decide_eq_false c
                have HFIN := Qa.mk (HOI.out l1 HM14.out.1 (fun y hy => HM14.out.2 y (by
                  rw [List.take_of_length_le (by omega)]
                  change y ∈ U.getD x.toNat [] at hy
                  rw [HROW.out] at hy
                  exact hy)))
                clear c
                go_wp2
                go_roundg k2
                case measure => omega
                case rel => exact ⟨O.set x.toNat ⟨p1, p2, p3⟩, l1, b1, ⟨by
                  have h1 := HFIN.out.2 HDIFF.out
                  have h2 := cnt_le ((O.set x.toNat (⟨p1, p2, p3⟩ : FlowT)).map toR)
                  rw [List.length_map, List.length_set, HOL.out] at h2
                  have h3 := phi_lt (n := l0_1.length) (l := l) h1 h2 HQ14.out.le
                  have h4 := hgk.out
                  omega⟩, HE14, HQ14, ⟨HFIN.out.1⟩⟩
end Go.Proofs.Ytnaanamibfpbpaa.V
namespace Go.Proofs.Ytnaanamibfpbpaa.V
open Go.RowKit Go.Proofs.YtnaanamibfpbpaaW.PrintWords Go.Proofs.YtnaanamibfpbpaaW.PrintLast Go.Proofs.YtnaanamibfpbpaaW.PrintMore
attribute [local go_sem] max2_int min2_int max_two min_two max_three min_three max_four min_four tdiv_most
set_option linter.unusedVariables false
set_option linter.unusedSimpArgs false
def flow_Rule.f (k : Nat) (l0_0 : List (S39)) (l0_1 : List (S53)) (a1 : Int) : Option (Bool × Bool × Bool) := (flow_Of.f k l0_0 l0_1).bind fun t158 => (if 0 ≤ a1 then (if a1 < (l0_0.length : Int) then (if 0 ≤ ((Qa1 l0_0 a1).f1) then (if ((Qa1 l0_0 a1).f1) < (t158.length : Int) then (some ((Qg t158 ((Qa1 l0_0 a1).f1)).f0, (Qg t158 ((Qa1 l0_0 a1).f1)).f1, (Qg t158 ((Qa1 l0_0 a1).f1)).f2)) else (none)) else (none)) else (none)) else (none))
theorem flow_Rule.mono : ∀ a0 a1 a2 k, LeO (flow_Rule.f k a0 a1 a2) (flow_Rule.f (k + 1) a0 a1 a2) := by
 intro a0 a1 a2 k
 unfold flow_Rule.f
 repeat' first
  | (with_reducible exact flow_Of.mono _ _ _)
  | (with_reducible exact LeO.refl _)
  | (with_reducible exact LeO.none _)
  | (with_reducible refine LeO.ite ?_ ?_)
  | (with_reducible refine LeO.bind ?_ (fun _ => ?_))
  | exact LeO.none _
  | refine LeO.ite ?_ ?_
  | refine LeO.bind ?_ (fun _ => ?_)
def flow_Rule.T1 : Bool × List (List Nat × List Nat) := (true, [([], []), ([0], [0]), ([], []), ([2], [2]), ([], []), ([3, 4], [3, 4]), ([5], [5]), ([6], [6]), ([1, 7], [1, 7]), ([8], [8]), ([9, 1, 0, 1, 2, 3, 4, 5, 6, 7, 8, 9], [9])])
def flow_Rule.B1 : List Nat := [0, 1, 0, 4, 0, 28, 60, 124, 255, 511, 1023]
theorem flow_Rule.tab1 : rtab .any (opsOf Try.f14 1) = flow_Rule.T1 := by kernel_rfl
theorem flow_Rule.bits1 : waitsOk flow_Rule.T1.2 flow_Rule.B1 = true := by kernel_rfl
set_option maxHeartbeats 8000000 in
set_option maxRecDepth 100000 in
theorem flow_Rule.calls (k : Nat) (A0_0 : Option Addr) (c0_0 : Nat) (l0_0 : List (S39)) (A0_1 : Option Addr) (c0_1 : Nat) (l0_1 : List (S53)) (a1 : Int) (r1 : Bool) (r2 : Bool) (r3 : Bool) (w : World) (hr0_0 : Kd.C k39 w A0_0 l0_0.length l0_0) (hc0_0 : l0_0.length ≤ c0_0) (hr0_1 : Kd.C k53 w A0_1 l0_1.length l0_1) (hc0_1 : l0_1.length ≤ c0_1) (h : flow_Rule.f k l0_0 l0_1 a1 = some (r1, r2, r3)) :
 Calls Try.prog 14 #[.agg #[.slice A0_0 l0_0.length c0_0, .slice A0_1 l0_1.length c0_1], .int .i64 a1] w fun e w' => e = .returned (.agg #[.bool r1, .bool r2, .bool r3]) ∧ Below w.heap.size w w' := by
 have hu25 := Try.underlying25
 have hu36 := Try.underlying36
 have HR0_0 := Qa.mk hr0_0
 have HC0_0 := Qa.mk hc0_0
 clear hr0_0 hc0_0
 have HR0_1 := Qa.mk hr0_1
 have HC0_1 := Qa.mk hc0_1
 clear hr0_1 hc0_1
 have HB := Qa.mk (Below.refl w.heap.size w)
 have H : ((flow_Of.f k l0_0 l0_1).bind fun t158 => (if 0 ≤ a1 then (if a1 < (l0_0.length : Int) then (if 0 ≤ ((Qa1 l0_0 a1).f1) then (if ((Qa1 l0_0 a1).f1) < (t158.length : Int) then (some ((Qg t158 ((Qa1 l0_0 a1).f1)).f0, (Qg t158 ((Qa1 l0_0 a1).f1)).f1, (Qg t158 ((Qa1 l0_0 a1).f1)).f2)) else (none)) else (none)) else (none)) else (none))) = some (r1, r2, r3) := h
 clear h
 replace H := Option.bind_eq_some_iff.mp H
 obtain ⟨t158, A30, H⟩ := H
 replace H : (if 0 ≤ a1 then (if a1 < (l0_0.length : Int) then (if 0 ≤ ((Qa1 l0_0 a1).f1) then (if ((Qa1 l0_0 a1).f1) < (t158.length : Int) then (some ((Qg t158 ((Qa1 l0_0 a1).f1)).f0, (Qg t158 ((Qa1 l0_0 a1).f1)).f1, (Qg t158 ((Qa1 l0_0 a1).f1)).f2)) else (none)) else (none)) else (none)) else (none)) = some (r1, r2, r3) := H
 have A3 := Qa.mk A30
 clear A30
 by_cases c4 : 0 ≤ a1
 rotate_left
 ·
  rw [if_neg c4] at H
  exact absurd H (by simp)
 rw [if_pos c4] at H
 have c4b0 : decide (0 ≤ a1) = true := decide_eq_true c4
 clear c4
 by_cases c5 : a1 < (l0_0.length : Int)
 rotate_left
 ·
  rw [if_neg c5] at H
  exact absurd H (by simp)
 rw [if_pos c5] at H
 have c5b0 : decide (a1 < (l0_0.length : Int)) = true := decide_eq_true c5
 clear c5
 by_cases c6 : 0 ≤ ((Qa1 l0_0 a1).f1)
 rotate_left
 ·
  rw [if_neg c6] at H
  exact absurd H (by simp)
 rw [if_pos c6] at H
 have c6b0 : decide (0 ≤ ((Qa1 l0_0 a1).f1)) = true := decide_eq_true c6
 clear c6
 by_cases c7 : ((Qa1 l0_0 a1).f1) < (t158.length : Int)
 rotate_left
 ·
  rw [if_neg c7] at H
  exact absurd H (by simp)
 rw [if_pos c7] at H
 have c7b0 : decide (((Qa1 l0_0 a1).f1) < (t158.length : Int)) = true := decide_eq_true c7
 clear c7
 simp only [Option.some.injEq, Prod.mk.injEq] at H
 obtain ⟨rfl, rfl, rfl⟩ := H
 go_enter Try.func14, Try.ntmps14
 try go_wp2_with (first | ((with_reducible refine Qg1 (N := 2) rfl ?_); refine Qh1 ?hg (N := 2) ?hd (cs := #[.slice A0_0 l0_0.length c0_0, .slice A0_1 l0_1.length c0_1]) (t := 25) ?hr ?_; (case hd => rfl); (case hg => rfl); (case hr => first | (go_simp; done) | (go_simp; rfl)); intro gb156 hg w8 hbox hb; have n0_ := Qa.mk (Qv (by with_reducible repeat (first | exact HB.out | apply Qk | apply Ql | apply Qj)) hb); have n1_ := Qa.mk (hbox); have n2_ := Qa.mk ((by rw [hg]; exact (Qb1 (by with_reducible repeat (first | exact HB.out | apply Qk | apply Ql | apply Qj))) : w.heap.size ≤ gb156)); have n3_ := n2_; clear HB; have HB := n0_; have BK156 := n1_; have GW156 := n2_; have GE156 := n3_; clear n0_ n1_ n2_ n3_; clear hb hbox hg) | ((with_reducible refine Qg1 (N := 4) rfl ?_); refine Qh1 ?hg (N := 4) ?hd (cs := #[.bool false, .bool false, .bool false]) (t := 36) ?hr ?_; (case hd => rfl); (case hg => rfl); (case hr => first | (go_simp; done) | (go_simp; rfl)); intro gb157 hg w9 hbox hb; have n0_ := Qa.mk (Qs (g := gb156) (o := .cells #[.slice A0_0 l0_0.length c0_0, .slice A0_1 l0_1.length c0_1] 25 (0, 0)) (by (with_reducible repeat (first | refine Qd ?_ _ | refine Qb ?_ | refine Qc ?_ _)); exact BK156.out) hb); have n1_ := Qa.mk (Qv (by with_reducible repeat (first | exact HB.out | apply Qk | apply Ql | apply Qj | refine Qi ?_ GE156.out)) hb); have n2_ := Qa.mk (hbox); have n3_ := Qa.mk ((by rw [hg]; exact (Qb1 (by with_reducible repeat (first | exact HB.out | apply Qk | apply Ql | apply Qj | refine Qi ?_ GE156.out))) : w.heap.size ≤ gb157)); have n4_ := n3_; have n5_ := Qa.mk ((by rw [hg]; exact Nat.ne_of_lt (Qy (g := gb156) (o := .cells #[.slice A0_0 l0_0.length c0_0, .slice A0_1 l0_1.length c0_1] 25 (0, 0)) (by (with_reducible repeat (first | refine Qd ?_ _ | refine Qb ?_ | refine Qc ?_ _)); exact BK156.out)) : gb156 ≠ gb157)); have n6_ := Qa.mk ((by rw [hg]; exact Nat.ne_of_gt (Qy (g := gb156) (o := .cells #[.slice A0_0 l0_0.length c0_0, .slice A0_1 l0_1.length c0_1] 25 (0, 0)) (by (with_reducible repeat (first | refine Qd ?_ _ | refine Qb ?_ | refine Qc ?_ _)); exact BK156.out)) : gb157 ≠ gb156)); clear BK156; clear HB; have BK156 := n0_; have HB := n1_; have BK157 := n2_; have GW157 := n3_; have GE157 := n4_; have NB156_157 := n5_; have NB157_156 := n6_; clear n0_ n1_ n2_ n3_ n4_ n5_ n6_; clear hb hbox hg))
 have n0_ := Qa.mk (Qb BK156.out)
 have n1_ := Qa.mk (Qb BK157.out)
 have n2_ := Qa.mk (Qj HB.out)
 clear BK156
 clear BK157
 clear HB
 have BK156 := n0_
 have BK157 := n1_
 have HB := n2_
 clear n0_ n1_ n2_
 have p161 : 0 ≤ (a1 : Int) := of_decide_eq_true (by assumption)
 have q161 : a1 < (l0_0.length : Int) := of_decide_eq_true (by assumption)
 obtain ⟨ad161, e161, hx161_0, hx161_1⟩ := at_T39 HR0_0.out a1 p161 q161
 have hw161_1 := hx161_1
 have hw161_0 := hx161_0
 cases e161
 replace hx161_0 := (HB.out.cell (World.block_lt_of_cell? w _ hx161_0)).trans hx161_0
 replace hx161_1 := (HB.out.cell (World.block_lt_of_cell? w _ hx161_1)).trans hx161_1
 replace p161 := eq_true p161
 replace q161 := eq_true q161
 refine start_ (n := 11) (S := fun w' => w'.cell? ⟨gb156, 0, none⟩ = some (.slice (some ad161) l0_0.length c0_0) ∧ w'.cell? ⟨gb156, 1, none⟩ = some (.slice A0_1 l0_1.length c0_1) ∧ w'.cell? (ad161.add ((a1).toNat * 2)) = some (.string ((Qa1 l0_0 a1).f0)) ∧ w'.cell? ⟨(ad161.add ((a1).toNat * 2)).block, (ad161.add ((a1).toNat * 2)).off + 1, none⟩ = some (.int .i64 ((Qa1 l0_0 a1).f1))) (ds := [9, 10]) #[Y, Y, Y, Y, Y, Y, Y, Y, Y, Y, Y] (by kernel_rfl) rfl rfl ⟨(Qe BK156.out 0).trans rfl, (Qe BK156.out 1).trans rfl, ((HB.out.cell (World.block_lt_of_cell? w _ hw161_0)).trans hw161_0), ((HB.out.cell (World.block_lt_of_cell? w _ hw161_1)).trans hw161_1)⟩ (fun hHeld => ?_); refine with_tabW flow_Rule.tab1 flow_Rule.bits1 (fun HT_ HW_ => ?_)
 generalize w9.drew = w10 at BK156 BK157 HB hx161_0 hx161_1 hHeld ⊢
 refine pure_ (i := 2) (N := some 7) (v := ?_) (a' := ?_) #[Y, Y, J, Y, Y, Y, Y, Y, Y, Y, Y] rfl rfl (Qm HT_.out (by kernel_rfl)) (fun _ _ _ h => h) (Or.inl ⟨by rfl, ?_⟩) ?_ ?_
 rotate_left
 ·
  intro w'
  go_simp
  with_reducible rfl
 rotate_left
 ·
  simp only [Act.put, List.setIfInBounds_toArray, List.set_cons_zero, List.set_cons_succ, i64_w, i32_w]
  rfl
 refine pure_ (i := 4) (N := some 9) (v := ?_) (a' := ?_) #[Y, Y, J, Y, J, Y, Y, Y, Y, Y, Y] rfl rfl (Qm HT_.out (by kernel_rfl)) (fun _ _ _ h => h) (Or.inl ⟨by rfl, ?_⟩) ?_ ?_
 rotate_left
 ·
  intro w'
  go_simp
  with_reducible rfl
 rotate_left
 ·
  simp only [Act.put, List.setIfInBounds_toArray, List.set_cons_zero, List.set_cons_succ, i64_w, i32_w]
  rfl
 refine take_ (i := 0) (N := some 5) (v := ?_) (a' := ?_) #[J, Y, J, Y, J, Y, Y, Y, Y, Y, Y] rfl rfl (Qm1 HT_.out HW_.out (by kernel_rfl)) (fun _ _ _ h => h) (Or.inl ⟨by rfl, ?_⟩) hHeld ?_ ?_
 rotate_left
 ·
  rintro w' ⟨s0, s1, s2, s3⟩
  go_simp
  with_reducible rfl
 rotate_left
 ·
  simp only [Act.put, List.setIfInBounds_toArray, List.set_cons_zero, List.set_cons_succ, i64_w, i32_w]
  rfl
 refine take_ (i := 3) (N := some 8) (v := ?_) (a' := ?_) #[J, Y, J, J, J, Y, Y, Y, Y, Y, Y] rfl rfl (Qm1 HT_.out HW_.out (by kernel_rfl)) (fun _ _ _ h => h) (Or.inl ⟨by rfl, ?_⟩) hHeld ?_ ?_
 rotate_left
 ·
  rintro w' ⟨s0, s1, s2, s3⟩
  go_simp
  with_reducible rfl
 rotate_left
 ·
  simp only [Act.put, List.setIfInBounds_toArray, List.set_cons_zero, List.set_cons_succ, i64_w, i32_w]
  rfl
 refine pure_ (i := 5) (N := some 10) (v := ?_) (a' := ?_) #[J, Y, J, J, J, J, Y, Y, Y, Y, Y] rfl rfl (Qm HT_.out (by kernel_rfl)) (fun _ _ _ h => h) (Or.inl ⟨by rfl, ?_⟩) ?_ ?_
 rotate_left
 ·
  intro w'
  go_simp
  with_reducible rfl
 rotate_left
 ·
  simp only [Act.put, List.setIfInBounds_toArray, List.set_cons_zero, List.set_cons_succ, i64_w, i32_w]
  rfl
 refine pure_ (i := 6) (N := some 11) (v := ?_) (a' := ?_) #[J, Y, J, J, J, J, J, Y, Y, Y, Y] rfl rfl (Qm HT_.out (by kernel_rfl)) (fun _ _ _ h => h) (Or.inl ⟨by rfl, ?_⟩) ?_ ?_
 rotate_left
 ·
  intro w'
  go_simp
  with_reducible rfl
 rotate_left
 ·
  simp only [Act.put, List.setIfInBounds_toArray, List.set_cons_zero, List.set_cons_succ, i64_w, i32_w]
  rfl
 refine take_ (i := 7) (N := some 12) (v := ?_) (a' := ?_) #[J, Y, J, J, J, J, J, J, Y, Y, Y] rfl rfl (Qm1 HT_.out HW_.out (by kernel_rfl)) (fun _ _ _ h => h) (Or.inl ⟨by rfl, ?_⟩) hHeld ?_ ?_
 rotate_left
 ·
  rintro w' ⟨s0, s1, s2, s3⟩
  go_simp
  with_reducible rfl
 rotate_left
 ·
  simp only [Act.put, List.setIfInBounds_toArray, List.set_cons_zero, List.set_cons_succ, i64_w, i32_w]
  rfl
 refine one_ (i := 1) (N := some 6) #[J, J, J, J, J, J, J, J, Y, Y, Y] rfl rfl (one_of HT_.out (by kernel_rfl)) (by decide) (fun K hK => ?_)
 refine goes_ Try.func13 (by kernel_rfl) rfl #[.agg #[.slice (some ad161) l0_0.length c0_0, .slice A0_1 l0_1.length c0_1]] (by rfl) rfl rfl (by (try simp only [List.map_toArray, List.map_cons, List.map_nil]); first | done | rfl | (simp only [List.length_drop, List.length_take]; rfl)) ?_
 with_reducible refine (flow_Of.calls k _ _ l0_0 _ _ l0_1 t158 _ ?side1 ?side2 ?side3 ?side4 A3.out).mono ?_
 (case side1 => repeat (first | exact (Kd.C_below HR0_0.out HB.out) | (with_reducible refine Kd.Qf1 ?_ _) | (with_reducible refine Kd.Qe1 ?_ _) | (with_reducible refine Kd.C_drew ?_)))
 (case side2 => exact HC0_0.out)
 (case side3 => repeat (first | exact (Kd.C_below HR0_1.out HB.out) | (with_reducible refine Kd.Qf1 ?_ _) | (with_reducible refine Kd.Qe1 ?_ _) | (with_reducible refine Kd.C_drew ?_)))
 (case side4 => exact HC0_1.out)
 rintro e w11 ⟨v159, rfl, ho0, hb⟩
 refine ⟨_, rfl, ?_⟩
 have n0_ := Qa.mk (Kd.R_lower (Kd.R_newB ho0 (g := gb157) (o := .cells #[.bool false, .bool false, .bool false] 36 (0, 0)) (by (with_reducible repeat (first | refine Qd ?_ _ | refine Qb ?_ | refine Qc ?_ _)); exact BK157.out)) (Qb1 (by with_reducible repeat (first | exact HB.out | apply Qk | apply Ql | apply Qj | refine Qi ?_ GE156.out | refine Qi ?_ GE157.out))))
 have n1_ := Qa.mk (Qs (g := gb156) (o := .cells #[.slice (some ad161) l0_0.length c0_0, .slice A0_1 l0_1.length c0_1] 25 (0, 0)) (by (with_reducible repeat (first | refine Qd ?_ _ | refine Qb ?_ | refine Qc ?_ _)); exact BK156.out) hb)
 have n2_ := Qa.mk (Qs (g := gb157) (o := .cells #[.bool false, .bool false, .bool false] 36 (0, 0)) (by (with_reducible repeat (first | refine Qd ?_ _ | refine Qb ?_ | refine Qc ?_ _)); exact BK157.out) hb)
 have n3_ := Qa.mk (Qv (by with_reducible repeat (first | exact HB.out | apply Qk | apply Ql | apply Qj | refine Qi ?_ GE156.out | refine Qi ?_ GE157.out)) hb)
 clear BK156
 clear BK157
 clear HB
 have HO160 := n0_
 have BK156 := n1_
 have BK157 := n2_
 have HB := n3_
 clear n0_ n1_ n2_ n3_
 (try clear hb; try clear hb2; try clear hk; try clear hi; try clear ho0)
 obtain ⟨Ao12, co12, eo12⟩ := Kd.R_slice HO160.out
 (first | subst eo12 | (injection eo12 with f1_ f2_ f3_; have f4_ := f1_.symm; have f5_ := f3_.symm; clear f1_ f2_ f3_; subst f4_; subst f5_))
 have p162 : 0 ≤ (((Qa1 l0_0 a1).f1) : Int) := of_decide_eq_true (by assumption)
 have q162 : ((Qa1 l0_0 a1).f1) < (t158.length : Int) := of_decide_eq_true (by assumption)
 obtain ⟨ad162, e162, hx162_0, hx162_1, hx162_2⟩ := at_T36 (Kd.R_reads' HO160.out).2.2 ((Qa1 l0_0 a1).f1) p162 q162
 cases e162
 replace p162 := eq_true p162
 replace q162 := eq_true q162
 refine hK.out _ _ ⟨(Qe BK156.out 0).trans rfl, (Qe BK156.out 1).trans rfl, ((HB.out.cell (World.block_lt_of_cell? w _ hw161_0)).trans hw161_0), ((HB.out.cell (World.block_lt_of_cell? w _ hw161_1)).trans hw161_1)⟩ (fun hHeld => ?_)
 clear hK K
 refine norm_ (a' := ?_) ?_ ?_
 rotate_left
 ·
  show Act.put _ (some 6) _ = _
  simp only [Act.put, List.setIfInBounds_toArray, List.set_cons_zero, List.set_cons_succ, i64_w, i32_w]
  rfl
 refine pure_ (i := 8) (N := some 13) (v := ?_) (a' := ?_) #[J, J, J, J, J, J, J, J, J, Y, Y] rfl rfl (Qm HT_.out (by kernel_rfl)) (fun _ _ _ h => h) (Or.inl ⟨by rfl, ?_⟩) ?_ ?_
 rotate_left
 ·
  intro w'
  go_simp
  with_reducible rfl
 rotate_left
 ·
  simp only [Act.put, List.setIfInBounds_toArray, List.set_cons_zero, List.set_cons_succ, i64_w, i32_w]
  rfl
 refine last_ (i := 9) (N := some 14) #[J, J, J, J, J, J, J, J, J, J, Y] rfl rfl (one_of HT_.out (by kernel_rfl)) (by decide) (fun K hK => ?_)
 refine value_ (w1 := ?_) (v := ?_) (by rfl) rfl ?_ ?_
 rotate_left 2
 ·
  go_simp
  constructor
  · rfl
  · rfl
 refine hK.out _ _ ?_
 clear hK K
 refine norm_ (a' := ?_) ?_ ?_
 rotate_left
 ·
  show Act.put _ (some 14) _ = _
  simp only [Act.put, List.setIfInBounds_toArray, List.set_cons_zero, List.set_cons_succ, i64_w, i32_w]
  rfl
 refine last_ (i := 10) (N := none) #[J, J, J, J, J, J, J, J, J, J, J] rfl rfl (one_of HT_.out (by kernel_rfl)) (by decide) (fun K hK => ?_)
 have hs13 : w11.cell? ⟨gb157, 0, none⟩ = some (.bool false) := (Qe BK157.out 0).trans rfl
 have hfs13 := Qf BK157.out 0
 have hns13_0 := NB156_157.out
 have hms13_0 := NB157_156.out
 have hs14 : w11.cell? ⟨gb157, 1, none⟩ = some (.bool false) := (Qe BK157.out 1).trans rfl
 have hfs14 := Qf BK157.out 1
 have hns14_0 := NB156_157.out
 have hms14_0 := NB157_156.out
 have hs15 : w11.cell? ⟨gb157, 2, none⟩ = some (.bool false) := (Qe BK157.out 2).trans rfl
 have hfs15 := Qf BK157.out 2
 have hns15_0 := NB156_157.out
 have hms15_0 := NB157_156.out
 refine skip_ (w1 := ?_) (by rfl) rfl ?_ ?_
 rotate_left
 ·
  go_simp
  rfl
 refine hK.out _ _ ?_
 clear hK K
 refine done_ (done_of HT_.out (by kernel_rfl)) ?_
 try go_wp2
 refine bodyPost_ret (results_cell_row rfl _ _ gb157 36 #[.bool ((Qg t158 ((Qa1 l0_0 a1).f1)).f0), .bool ((Qg t158 ((Qa1 l0_0 a1).f1)).f1), .bool ((Qg t158 ((Qa1 l0_0 a1).f1)).f2)] (0, 0) _ rfl (by (with_reducible repeat (first | refine Qd ?_ _ | refine Qb ?_ | refine Qc ?_ _)); refine Qt (cs := #[.bool ((Qg t158 ((Qa1 l0_0 a1).f1)).f0), .bool ((Qg t158 ((Qa1 l0_0 a1).f1)).f1), .bool false]) ?_ 2 _ rfl; (with_reducible repeat (first | refine Qd ?_ _ | refine Qb ?_ | refine Qc ?_ _)); refine Qt (cs := #[.bool ((Qg t158 ((Qa1 l0_0 a1).f1)).f0), .bool false, .bool false]) ?_ 1 _ rfl; (with_reducible repeat (first | refine Qd ?_ _ | refine Qb ?_ | refine Qc ?_ _)); refine Qt (cs := #[.bool false, .bool false, .bool false]) ?_ 0 _ rfl; (with_reducible repeat (first | refine Qd ?_ _ | refine Qb ?_ | refine Qc ?_ _)); exact BK157.out) Try.underlying36 rfl (by kernel_rfl)) rfl ?_
 exact ⟨by first | rfl | (simp [Qw, Qx] <;> rfl) | (simp [*, Qw, Qx] <;> rfl), by with_reducible repeat (first | exact HB.out | apply Qk | apply Ql | apply Qj | refine Qi ?_ GE156.out | refine Qi ?_ GE157.out)⟩
def flow_Step.l0 : Nat → List (S36) → List (S36) → Int → Int → List (S39) → List (S53) → Option ((List (S36)))
 | 0, _, _, _, _, _, _ => none
 | k + 1, x1, x5, x12, x13, x164000, x164001 => if x13 < x12 then ((flow_node.f k x164000 x164001 x13 x1).bind fun bt167 => (if 0 ≤ x13 then (if x13 < (x5.length : Int) then (flow_Step.l0 k x1 (x5.set (x13 : Int).toNat (⟨bt167.1, bt167.2.1, bt167.2.2⟩ : S36)) x12 (wrap64 (x13 + 1)) x164000 x164001) else (none)) else (none))) else (some x5)
def flow_Step.f (k : Nat) (l0_0 : List (S39)) (l0_1 : List (S53)) (l1 : List (S36)) : Option ((List (S36))) := if 0 ≤ (l0_1.length : Int) then (if ((l0_1.length : Int) : Int).toNat ≤ 93824992236885 then ((some (List.replicate ((l0_1.length : Int) : Int).toNat z36 : List (S36))).bind fun y164 => (flow_Step.l0 k l1 y164 (y164.length : Int) 0 l0_0 l0_1)) else (none)) else (none)
theorem flow_Step.mono_l : ∀ k, (∀ y0 y1 y2 y3 y4 y5, LeO (flow_Step.l0 k y0 y1 y2 y3 y4 y5) (flow_Step.l0 (k + 1) y0 y1 y2 y3 y4 y5))
 | 0 => fun _ _ _ _ _ _ r h => by simp [flow_Step.l0] at h
 | k + 1 => by
  have ih0 := flow_Step.mono_l k
  intro y0 y1 y2 y3 y4 y5
  unfold flow_Step.l0
  repeat' first
  | (with_reducible exact ih0 _ _ _ _ _ _)
  | (with_reducible exact flow_node.mono _ _ _ _ _)
  | (with_reducible exact LeO.refl _)
  | (with_reducible exact LeO.none _)
  | (with_reducible refine LeO.ite ?_ ?_)
  | (with_reducible refine LeO.bind ?_ (fun _ => ?_))
  | exact LeO.none _
  | refine LeO.ite ?_ ?_
  | refine LeO.bind ?_ (fun _ => ?_)
theorem flow_Step.mono : ∀ a0 a1 a2 k, LeO (flow_Step.f k a0 a1 a2) (flow_Step.f (k + 1) a0 a1 a2) := by
 intro a0 a1 a2 k
 have ih0 := flow_Step.mono_l k
 unfold flow_Step.f
 repeat' first
  | (with_reducible exact ih0 _ _ _ _ _ _)
  | (with_reducible exact flow_node.mono _ _ _ _ _)
  | (with_reducible exact LeO.refl _)
  | (with_reducible exact LeO.none _)
  | (with_reducible refine LeO.ite ?_ ?_)
  | (with_reducible refine LeO.bind ?_ (fun _ => ?_))
  | exact LeO.none _
  | refine LeO.ite ?_ ?_
  | refine LeO.bind ?_ (fun _ => ?_)
set_option maxHeartbeats 8000000 in
set_option maxRecDepth 100000 in
theorem flow_Step.calls (k : Nat) (A0_0 : Option Addr) (c0_0 : Nat) (l0_0 : List (S39)) (A0_1 : Option Addr) (c0_1 : Nat) (l0_1 : List (S53)) (A1 : Option Addr) (c1 : Nat) (l1 : List (S36)) (r : List (S36)) (w : World) (hr0_0 : Kd.C k39 w A0_0 l0_0.length l0_0) (hc0_0 : l0_0.length ≤ c0_0) (hr0_1 : Kd.C k53 w A0_1 l0_1.length l0_1) (hc0_1 : l0_1.length ≤ c0_1) (hr1 : Kd.C k36 w A1 l1.length l1) (hc1 : l1.length ≤ c1) (h : flow_Step.f k l0_0 l0_1 l1 = some r) :
 Calls Try.prog 15 #[.agg #[.slice A0_0 l0_0.length c0_0, .slice A0_1 l0_1.length c0_1], .slice A1 l1.length c1] w fun e w' => ∃ v0_ : Value, e = .returned (v0_) ∧ Kd.R k36 36 w' w.heap.size (fun _ => True) v0_ r ∧ Below w.heap.size w w' := by
 have hu25 := Try.underlying25
 have hu36 := Try.underlying36
 have HR0_0 := Qa.mk hr0_0
 have HC0_0 := Qa.mk hc0_0
 clear hr0_0 hc0_0
 have HR0_1 := Qa.mk hr0_1
 have HC0_1 := Qa.mk hc0_1
 clear hr0_1 hc0_1
 have HR1 := Qa.mk hr1
 have HC1 := Qa.mk hc1
 clear hr1 hc1
 have HB := Qa.mk (Below.refl w.heap.size w)
 have H : (if 0 ≤ (l0_1.length : Int) then (if ((l0_1.length : Int) : Int).toNat ≤ 93824992236885 then ((some (List.replicate ((l0_1.length : Int) : Int).toNat z36 : List (S36))).bind fun y164 => (flow_Step.l0 k l1 y164 (y164.length : Int) 0 l0_0 l0_1)) else (none)) else (none)) = some r := h
 clear h
 by_cases c3 : 0 ≤ (l0_1.length : Int)
 rotate_left
 ·
  rw [if_neg c3] at H
  exact absurd H (by simp)
 rw [if_pos c3] at H
 have c3b0 := eq_true c3
 have c3b1 : decide (0 ≤ (l0_1.length : Int)) = true := decide_eq_true c3
 clear c3
 by_cases c4 : ((l0_1.length : Int) : Int).toNat ≤ 93824992236885
 rotate_left
 ·
  rw [if_neg c4] at H
  exact absurd H (by simp)
 rw [if_pos c4] at H
 have c4b0 := eq_true c4
 have c4b1 : decide (((l0_1.length : Int) : Int).toNat ≤ 93824992236885) = true := decide_eq_true c4
 clear c4
 obtain ⟨y164, hy164⟩ : ∃ y_ : List (S36), y_ = (List.replicate ((l0_1.length : Int) : Int).toNat z36) := ⟨_, rfl⟩
 replace H : (flow_Step.l0 k l1 y164 (y164.length : Int) 0 l0_0 l0_1) = some r := by first | (rw [hy164]; with_reducible exact H) | (have H2_ := (Option.bind_some _ _).symm.trans H; rw [hy164]; with_reducible exact H2_) | (have H2_ := (Option.bind_some _ _).symm.trans H; with_reducible exact H2_) | with_reducible exact H | (rw [hy164]; exact H) | exact H
 have Ny164 := Qa.mk hy164
 clear hy164
 have H' := Qa.mk H
 clear H
 go_enter Try.func15, Try.ntmps15
 go_wp2_with (first | ((with_reducible refine Qg1 (N := 2) rfl ?_); refine Qh1 ?hg (N := 2) ?hd (cs := #[.slice A0_0 l0_0.length c0_0, .slice A0_1 l0_1.length c0_1]) (t := 25) ?hr ?_; (case hd => rfl); (case hg => rfl); (case hr => first | (go_simp; done) | (go_simp; rfl)); intro gb163 hg w5 hbox hb; have n0_ := Qa.mk (Qv (by with_reducible repeat (first | exact HB.out | apply Qk | apply Ql | apply Qj)) hb); have n1_ := Qa.mk (hbox); have n2_ := Qa.mk ((by rw [hg]; exact (Qb1 (by with_reducible repeat (first | exact HB.out | apply Qk | apply Ql | apply Qj))) : w.heap.size ≤ gb163)); have n3_ := n2_; clear HB; have HB := n0_; have BK163 := n1_; have GW163 := n2_; have GE163 := n3_; clear n0_ n1_ n2_ n3_; clear hb hbox hg; have hcz6_0 : w5.cell? ⟨gb163, 0, none⟩ = some (.slice A0_0 l0_0.length c0_0) := (Qe BK163.out 0).trans rfl; have hcz6_1 : w5.cell? ⟨gb163, 1, none⟩ = some (.slice A0_1 l0_1.length c0_1) := (Qe BK163.out 1).trans rfl; have hfz6_0 := Qf BK163.out 0; have hfz6_1 := Qf BK163.out 1) | ((with_reducible refine Qg1 (N := 10) rfl ?_); refine Kd.R_make k36 _ 36 rfl (N := 10) rfl 32 _ _ rfl (l0_1.length : Int) rfl rfl Try.underlying32 (.agg #[(.bool false), (.bool false), (.bool false)]) 3 info36 rfl (by decide) (by omega) z36 (ok := fun _ => True) (okp := fun _ => True) (k36_mkM _ _ _ z36 ) (fun _ hk => hk) trivial (of_decide_eq_true (by assumption)) (Nat.le_trans (Nat.mul_le_mul_right _ (of_decide_eq_true (by assumption) : (l0_1.length : Int).toNat ≤ 93824992236885)) (by omega)) (Below.refl _ _) (Nat.le_refl _) ?_; intro v165 w7 ho8 hb hg_ hnew_; clear hg_ hnew_; (first | rw [← Ny164.out] at ho8 | (simp only [Int.reduceToNat] at ho8; rw [← Ny164.out] at ho8)); have n0_ := Qa.mk (Kd.R_lower ho8 (Qb1 (by with_reducible repeat (first | exact HB.out | apply Qk | apply Ql | apply Qj | refine Qi ?_ GE163.out)))); have n1_ := Qa.mk (Qs (g := gb163) (o := .cells #[.slice A0_0 l0_0.length c0_0, .slice A0_1 l0_1.length c0_1] 25 (0, 0)) (by (with_reducible repeat (first | refine Qd ?_ _ | refine Qb ?_ | refine Qc ?_ _)); exact BK163.out) hb); have n2_ := Qa.mk (Qv (by with_reducible repeat (first | exact HB.out | apply Qk | apply Ql | apply Qj | refine Qi ?_ GE163.out)) hb); clear BK163; clear HB; have HO166 := n0_; have BK163 := n1_; have HB := n2_; clear n0_ n1_ n2_; clear hb ho8; obtain ⟨Ao9, co9, eo9⟩ := Kd.R_slice HO166.out; subst eo9))
 go_loopg [13] k (fun kq v13 w' => ∃ (x5_1 : List (S36)) (x13_1 : Int), v13 = .int .i64 x13_1 ∧ Qa (flow_Step.l0 kq l1 x5_1 (y164.length : Int) x13_1 l0_0 l0_1 = some r) ∧ Qa (kq ≤ k) ∧ Qa (Kd.R k36 36 w' w.heap.size (fun _ => True) (.slice Ao9 y164.length co9) x5_1) ∧ Qa (w'.heap[gb163]? = some (.cells #[(.slice A0_0 l0_0.length c0_0), (.slice A0_1 l0_1.length c0_1)] 25 (0, 0))) ∧ Qa (Below w.heap.size w w'))
 case atStart => exact ⟨(y164), (0), (by first | rfl | (simp; done) | (simp [*]; done)), H', ⟨Nat.le_refl _⟩, ⟨by (with_reducible repeat (first | apply Kd.Qq | apply Kd.Qr | apply Kd.Qo)); exact HO166.out⟩, ⟨by (with_reducible repeat (first | refine Qd ?_ _ | refine Qb ?_ | refine Qc ?_ _)); exact BK163.out⟩, ⟨by with_reducible repeat (first | exact HB.out | apply Qk | apply Ql | apply Qj | refine Qi ?_ GE163.out)⟩⟩
 case round =>
  clear H'
  (try clear c1; try clear p2; try clear c3; try clear c3b0; try clear c3b1; try clear c4; try clear c4b0; try clear c4b1; try clear hcz6_0; try clear hcz6_1; try clear hfz6_0; try clear hfz6_1)
  obtain ⟨x5_1, x13_1, rfl, HA, HK1, HO_5, BK163, HB⟩ := hrel
  have hl5_1 := (Kd.R_reads' HO_5.out).1
  rw [hl5_1] at HO_5
  (try simp only [hl5_1])
  (try simp only [hl5_1] at BK163)
  cases gk with
  | zero => exact absurd HA.out (by simp [flow_Step.l0])
  | succ k1 =>
   have H := HA.out
   clear HA
   simp only [flow_Step.l0] at H
   by_cases c10 : x13_1 < (y164.length : Int)
   rotate_left
   ·
    rw [if_neg c10] at H
    have c10b0 : decide (x13_1 < (y164.length : Int)) = false := decide_eq_false c10
    (try (have c10e := c10b0; simp only [hl5_1] at c10e))
    clear c10
    obtain rfl := Option.some.inj H
    go_wp2
    go_ret
    exact ⟨_, by first | rfl | (simp [Qw, Qx] <;> rfl) | (simp [*, Qw, Qx] <;> rfl), by (with_reducible repeat (first | apply Kd.Qq | apply Kd.Qr | apply Kd.Qo)); exact HO_5.out, by with_reducible repeat (first | exact HB.out | apply Qk | apply Ql | apply Qj | refine Qi ?_ GE163.out)⟩
   rw [if_pos c10] at H
   have c10b0 : decide (x13_1 < (y164.length : Int)) = true := decide_eq_true c10
   clear c10
   replace H := Option.bind_eq_some_iff.mp H
   obtain ⟨⟨t167, t168, t169⟩, A110, H⟩ := H
   replace H : (if 0 ≤ x13_1 then (if x13_1 < (x5_1.length : Int) then (flow_Step.l0 k1 l1 (x5_1.set (x13_1 : Int).toNat (⟨t167, t168, t169⟩ : S36)) (y164.length : Int) (wrap64 (x13_1 + 1)) l0_0 l0_1) else (none)) else (none)) = some r := H
   have A11 := Qa.mk A110
   clear A110
   by_cases c12 : 0 ≤ x13_1
   rotate_left
   ·
    rw [if_neg c12] at H
    exact absurd H (by simp)
   rw [if_pos c12] at H
   have c12b0 : decide (0 ≤ x13_1) = true := decide_eq_true c12
   clear c12
   by_cases c13 : x13_1 < (x5_1.length : Int)
   rotate_left
   ·
    rw [if_neg c13] at H
    exact absurd H (by simp)
   rw [if_pos c13] at H
   have c13b0 : decide (x13_1 < (x5_1.length : Int)) = true := decide_eq_true c13
   clear c13
   obtain ⟨y170, hy170⟩ : ∃ y_ : List (S36), y_ = (x5_1.set (x13_1 : Int).toNat (⟨t167, t168, t169⟩ : S36)) := ⟨_, rfl⟩
   replace H : (flow_Step.l0 k1 l1 y170 (y164.length : Int) (wrap64 (x13_1 + 1)) l0_0 l0_1) = some r := by first | (rw [hy170]; with_reducible exact H) | (have H2_ := (Option.bind_some _ _).symm.trans H; rw [hy170]; with_reducible exact H2_) | (have H2_ := (Option.bind_some _ _).symm.trans H; with_reducible exact H2_) | with_reducible exact H | (rw [hy170]; exact H) | exact H
   have Ny170 := Qa.mk hy170
   clear hy170
   have H' := Qa.mk H
   clear H
   have hcz15_0 : wr.cell? ⟨gb163, 0, none⟩ = some (.slice A0_0 l0_0.length c0_0) := (Qe BK163.out 0).trans rfl
   have hcz15_1 : wr.cell? ⟨gb163, 1, none⟩ = some (.slice A0_1 l0_1.length c0_1) := (Qe BK163.out 1).trans rfl
   have hfz15_0 := Qf BK163.out 0
   have hfz15_1 := Qf BK163.out 1
   go_wp2_with (first | ((with_reducible refine gate_callee (f := 26) rfl ?_); refine goesL_ (some 21) rfl rfl Try.func26 (by kernel_rfl) rfl #[.agg #[.slice A0_0 l0_0.length c0_0, .slice A0_1 l0_1.length c0_1], .int .i64 x13_1, .slice A1 l1.length c1] rfl (by (try simp only [List.map_toArray, List.map_cons, List.map_nil]); first | done | rfl | (simp only [List.length_drop, List.length_take]; rfl)) ?_; (with_reducible refine (flow_node.calls k1 _ _ l0_0 _ _ l0_1 x13_1 _ _ l1 t167 t168 t169 _ ?side1 ?side2 ?side3 ?side4 ?side5 ?side6 A11.out).mono ?_); (case side1 => repeat (first | exact (Kd.C_below HR0_0.out HB.out) | (with_reducible refine Kd.Qf1 ?_ _) | (with_reducible refine Kd.Qe1 ?_ _) | (with_reducible refine Kd.C_drew ?_))); (case side2 => exact HC0_0.out); (case side3 => repeat (first | exact (Kd.C_below HR0_1.out HB.out) | (with_reducible refine Kd.Qf1 ?_ _) | (with_reducible refine Kd.Qe1 ?_ _) | (with_reducible refine Kd.C_drew ?_))); (case side4 => exact HC0_1.out); (case side5 => repeat (first | exact (Kd.C_below HR1.out HB.out) | (with_reducible refine Kd.Qf1 ?_ _) | (with_reducible refine Kd.Qe1 ?_ _) | (with_reducible refine Kd.C_drew ?_))); (case side6 => exact HC1.out); rintro e w16 ⟨rfl, hb⟩; refine ⟨_, rfl, ?_⟩; have n0_ := Qa.mk (Kd.Qd1 (by (with_reducible repeat (first | apply Kd.Qq | apply Kd.Qr | apply Kd.Qo)); exact HO_5.out) hb); have n1_ := Qa.mk (Qs (g := gb163) (o := .cells #[.slice A0_0 l0_0.length c0_0, .slice A0_1 l0_1.length c0_1] 25 (0, 0)) (by (with_reducible repeat (first | refine Qd ?_ _ | refine Qb ?_ | refine Qc ?_ _)); exact BK163.out) hb); have n2_ := Qa.mk (Qv (by with_reducible repeat (first | exact HB.out | apply Qk | apply Ql | apply Qj | refine Qi ?_ GE163.out)) hb); clear HO_5; clear BK163; clear HB; have HO_5 := n0_; have BK163 := n1_; have HB := n2_; clear n0_ n1_ n2_; (try clear hb); (try clear hb2); (try clear hk); (try clear hi); have p14 : 0 ≤ (x13_1 : Int) := of_decide_eq_true (by assumption); have q14 : (x13_1 : Int) < ((x5_1.length : Int) : Int) := of_decide_eq_true (by assumption); obtain ⟨go14, co14, eo14, gb14, gl14, cl14, HG14⟩ := Kd.R_form HO_5.out (by omega); (first | cases eo14 | (injection eo14 with ea_ en_ ec_; (first | subst ea_ | (injection ea_ with ea_; subst ea_)); subst ec_; clear en_)); have GB14 := Qa.mk gb14; have GG14 := Qa.mk HG14; clear gb14 gl14 HG14; obtain ⟨ce14, hcl14, hM14, hcc14, hfr14⟩ := Kd.R_elem HO_5.out z36 (x13_1 : Int) p14 q14; obtain rfl := k36_openM hM14; have hx14_0 : w16.cell? ⟨go14, (x13_1 : Int).toNat * 3, none⟩ = some (.bool ((Qg x5_1 x13_1).f0)) := hcc14 0 _ rfl; have hx14_1 : w16.cell? ⟨go14, (x13_1 : Int).toNat * 3 + 1, none⟩ = some (.bool ((Qg x5_1 x13_1).f1)) := hcc14 1 _ rfl; have hx14_2 : w16.cell? ⟨go14, (x13_1 : Int).toNat * 3 + 2, none⟩ = some (.bool ((Qg x5_1 x13_1).f2)) := hcc14 2 _ rfl; have hf14_0 : w16.frozen? ⟨go14, (x13_1 : Int).toNat * 3, none⟩ = false := hfr14 0; have hf14_1 : w16.frozen? ⟨go14, (x13_1 : Int).toNat * 3 + 1, none⟩ = false := hfr14 1; have hf14_2 : w16.frozen? ⟨go14, (x13_1 : Int).toNat * 3 + 2, none⟩ = false := hfr14 2; clear hcl14 hcc14 hfr14 hM14; replace p14 := eq_true p14; replace q14 := eq_true q14; have HX17 := Qa.mk (show Kd.R k36 36 w16 w.heap.size (fun _ => True) (.slice (some ⟨go14, 0, none⟩) x5_1.length co9) x5_1 from (by (with_reducible repeat (first | apply Kd.Qq | apply Kd.Qr | apply Kd.Qo)); exact HO_5.out)); obtain ⟨ce17, hcl17, hM17, hcc17, hfr17⟩ := Kd.R_elem HX17.out z36 (x13_1 : Int) (of_decide_eq_true (by assumption)) (by have h_ : (x13_1 : Int) < ((x5_1.length : Int) : Int) := of_decide_eq_true (by assumption); first | exact h_ | (have e_ := (Kd.R_reads' HO_5.out).1; omega) | simpa using h_); obtain rfl := k36_openM hM17; have HP17 := Kd.R_seg HX17.out (x13_1 : Int) (of_decide_eq_true (by assumption)) (by have h_ : (x13_1 : Int) < ((x5_1.length : Int) : Int) := of_decide_eq_true (by assumption); first | exact h_ | (have e_ := (Kd.R_reads' HO_5.out).1; omega) | simpa using h_) (seg := [.bool t167, .bool t168, .bool t169]) (j := 0) hcl17 hcc17 (show 3 ≤ 3 from by decide) (x' := (⟨t167, t168, t169⟩ : S36)) (k36_mkM _ _ _ (⟨t167, t168, t169⟩ : S36) ) (fun _ hk => hk); have hx17_0 := hcc17 0 _ rfl; (try simp only [show (k36).sz = 3 from rfl, Nat.mul_one, Nat.add_zero] at hx17_0); have hf17_0 := hfr17 0; (try simp only [show (k36).sz = 3 from rfl, Nat.mul_one, Nat.add_zero] at hf17_0); have hx17_1 := hcc17 1 _ rfl; (try simp only [show (k36).sz = 3 from rfl, Nat.mul_one, Nat.add_zero] at hx17_1); have hf17_1 := hfr17 1; (try simp only [show (k36).sz = 3 from rfl, Nat.mul_one, Nat.add_zero] at hf17_1); have hx17_2 := hcc17 2 _ rfl; (try simp only [show (k36).sz = 3 from rfl, Nat.mul_one, Nat.add_zero] at hx17_2); have hf17_2 := hfr17 2; (try simp only [show (k36).sz = 3 from rfl, Nat.mul_one, Nat.add_zero] at hf17_2); clear hcl17 hcc17 hfr17 hM17) | ((with_reducible refine gate_store (t := 36) (p := 22) rfl ?_); refine store_event (t := 36) (p := 22) (v := ?vo_w18) (w1 := (((w16.setCell ⟨go14, (x13_1 : Int).toNat * 3, none⟩ (.bool t167)).setCell ⟨go14, (x13_1 : Int).toNat * 3 + 1, none⟩ (.bool t168)).setCell ⟨go14, (x13_1 : Int).toNat * 3 + 2, none⟩ (.bool t169))) ?hg ?ho ?hn ?hr ?_; (case ho => rfl); (case hg => rfl); (case hn => rfl); (case hr => first | (go_simp; done) | (go_simp; rfl)); intro w18 hw; have hg : w16.grownBy w18 (some go14) := (by rw [hw]; exact HP17.2); have hp_ : Kd.R k36 36 w18 w.heap.size (fun _ => True) (.slice (some ⟨go14, 0, none⟩) x5_1.length co9) y170 := (by rw [hw, Ny170.out]; exact HP17.1); clear HP17; have n0_ := Qa.mk (hp_); have n1_ := Qa.mk (blk_grown (g := gb163) (o := .cells #[.slice A0_0 l0_0.length c0_0, .slice A0_1 l0_1.length c0_1] 25 (0, 0)) (by (with_reducible repeat (first | refine Qd ?_ _ | refine Qb ?_ | refine Qc ?_ _)); exact BK163.out) hg (Kd.R_ne HO_5.out BK163.out (by decide))); have n2_ := Qa.mk ((by rw [hw]; exact Qi (Qi (Qi (HB.out) GB14.out) GB14.out) GB14.out : Below w.heap.size w w18)); clear HO_5; clear BK163; clear HB; have HO_5 := n0_; have BK163 := n1_; have HB := n2_; clear n0_ n1_ n2_; clear hg hw hp_))
   (try simp only [← hl5_1])
   go_roundg k1
   case measure => have := HK1.out; omega
   case rel => exact ⟨(y170), (wrap64 (x13_1 + 1)), (by first | rfl | (simp; done) | (simp [*]; done)), H', ⟨by have := HK1.out; omega⟩, ⟨by (try simp only [hl5_1]); (with_reducible repeat (first | apply Kd.Qq | apply Kd.Qr | apply Kd.Qo)); exact HO_5.out⟩, ⟨by (try simp only [hl5_1]); (with_reducible repeat (first | refine Qd ?_ _ | refine Qb ?_ | refine Qc ?_ _)); exact BK163.out⟩, ⟨by with_reducible repeat (first | exact HB.out | apply Qk | apply Ql | apply Qj | refine Qi ?_ GE163.out)⟩⟩
def flow_Text.l0 : Nat → ByteArray → List Bool → Int → Int → Option (ByteArray)
 | 0, _, _, _, _ => none
 | k + 1, x3, x12, x13, x14 => if x14 < x13 then (if 0 ≤ x14 then (if x14 < (x12.length : Int) then (if rdOf false x12 x14 = true then (if x14 ≤ (wrap64 (x14 + 1)) then (if (wrap64 (x14 + 1)) ≤ 3 then (if x3.size + ((⟨#[110, 101, 102]⟩ : ByteArray).extract (x14 : Int).toNat ((wrap64 (x14 + 1)) : Int).toNat).size ≤ 9223372036854775807 then (flow_Text.l0 k (x3 ++ ((⟨#[110, 101, 102]⟩ : ByteArray).extract (x14 : Int).toNat ((wrap64 (x14 + 1)) : Int).toNat)) x12 x13 (wrap64 (x14 + 1))) else (none)) else (none)) else (none)) else (flow_Text.l0 k x3 x12 x13 (wrap64 (x14 + 1)))) else (none)) else (none)) else (if x3.toList = ([] : List UInt8) then (some (⟨#[45]⟩ : ByteArray)) else (some x3))
def flow_Text.f (k : Nat) (a0_0 : Bool) (a0_1 : Bool) (a0_2 : Bool) : Option (ByteArray) := (some (([a0_0, a0_1, a0_2] : List Bool) : List Bool)).bind fun y172 => (flow_Text.l0 k (⟨#[]⟩ : ByteArray) y172 (y172.length : Int) 0)
theorem flow_Text.mono_l : ∀ k, (∀ y0 y1 y2 y3, LeO (flow_Text.l0 k y0 y1 y2 y3) (flow_Text.l0 (k + 1) y0 y1 y2 y3))
 | 0 => fun _ _ _ _ r h => by simp [flow_Text.l0] at h
 | k + 1 => by
  have ih0 := flow_Text.mono_l k
  intro y0 y1 y2 y3
  unfold flow_Text.l0
  repeat' first
  | (with_reducible exact ih0 _ _ _ _)
  | (with_reducible exact LeO.refl _)
  | (with_reducible exact LeO.none _)
  | (with_reducible refine LeO.ite ?_ ?_)
  | (with_reducible refine LeO.bind ?_ (fun _ => ?_))
  | exact LeO.none _
  | refine LeO.ite ?_ ?_
  | refine LeO.bind ?_ (fun _ => ?_)
theorem flow_Text.mono : ∀ a0 a1 a2 k, LeO (flow_Text.f k a0 a1 a2) (flow_Text.f (k + 1) a0 a1 a2) := by
 intro a0 a1 a2 k
 have ih0 := flow_Text.mono_l k
 unfold flow_Text.f
 repeat' first
  | (with_reducible exact ih0 _ _ _ _)
  | (with_reducible exact LeO.refl _)
  | (with_reducible exact LeO.none _)
  | (with_reducible refine LeO.ite ?_ ?_)
  | (with_reducible refine LeO.bind ?_ (fun _ => ?_))
  | exact LeO.none _
  | refine LeO.ite ?_ ?_
  | refine LeO.bind ?_ (fun _ => ?_)
set_option maxHeartbeats 8000000 in
set_option maxRecDepth 100000 in
theorem flow_Text.calls (k : Nat) (a0_0 : Bool) (a0_1 : Bool) (a0_2 : Bool) (r : ByteArray) (w : World) (h : flow_Text.f k a0_0 a0_1 a0_2 = some r) :
 Calls Try.prog 19 #[.agg #[.bool a0_0, .bool a0_1, .bool a0_2]] w fun e w' => e = .returned (.string r) ∧ Below w.heap.size w w' := by
 have hu36 := Try.underlying36
 have HB := Qa.mk (Below.refl w.heap.size w)
 have H : ((some (([a0_0, a0_1, a0_2] : List Bool) : List Bool)).bind fun y172 => (flow_Text.l0 k (⟨#[]⟩ : ByteArray) y172 (y172.length : Int) 0)) = some r := h
 clear h
 obtain ⟨y172, hy172⟩ : ∃ y_ : List Bool, y_ = (([a0_0, a0_1, a0_2] : List Bool)) := ⟨_, rfl⟩
 replace H : (flow_Text.l0 k (⟨#[]⟩ : ByteArray) y172 (y172.length : Int) 0) = some r := by first | (rw [hy172]; with_reducible exact H) | (have H2_ := (Option.bind_some _ _).symm.trans H; rw [hy172]; with_reducible exact H2_) | (have H2_ := (Option.bind_some _ _).symm.trans H; with_reducible exact H2_) | with_reducible exact H | (rw [hy172]; exact H) | exact H
 have Ny172 := Qa.mk hy172
 clear hy172
 have H' := Qa.mk H
 clear H
 go_enter Try.func19, Try.ntmps19
 go_wp2_with (first | ((with_reducible refine Qg1 (N := 1) rfl ?_); refine Qh1 ?hg (N := 1) ?hd (cs := #[.bool a0_0, .bool a0_1, .bool a0_2]) (t := 36) ?hr ?_; (case hd => rfl); (case hg => rfl); (case hr => first | (go_simp; done) | (go_simp; rfl)); intro gb171 hg w2 hbox hb; have n0_ := Qa.mk (Qv (by with_reducible repeat (first | exact HB.out | apply Qk | apply Ql | apply Qj)) hb); have n1_ := Qa.mk (hbox); have n2_ := Qa.mk ((by rw [hg]; exact (Qb1 (by with_reducible repeat (first | exact HB.out | apply Qk | apply Ql | apply Qj))) : w.heap.size ≤ gb171)); have n3_ := n2_; clear HB; have HB := n0_; have BK171 := n1_; have GW171 := n2_; have GE171 := n3_; clear n0_ n1_ n2_ n3_; clear hb hbox hg; have hcz3_0 : w2.cell? ⟨gb171, 0, none⟩ = some (.bool a0_0) := (Qe BK171.out 0).trans rfl; have hcz3_1 : w2.cell? ⟨gb171, 1, none⟩ = some (.bool a0_1) := (Qe BK171.out 1).trans rfl; have hcz3_2 : w2.cell? ⟨gb171, 2, none⟩ = some (.bool a0_2) := (Qe BK171.out 2).trans rfl; have hfz3_0 := Qf BK171.out 0; have hfz3_1 := Qf BK171.out 1; have hfz3_2 := Qf BK171.out 2) | ((with_reducible refine Qg1 (N := 12) rfl ?_); refine Kd.R_lit Kd.bool _ 4 ?hg (N := 12) ?hd (xs := ([a0_0, a0_1, a0_2] : List Bool)) (inner := [.bool a0_0, .bool a0_1, .bool a0_2]) (ok := fun _ => True) (okp := fun _ => True) ?hr ?hp (fun _ hk => hk) trivial (Below.refl _ _) (Nat.le_refl _) (by simp) ?_; (case hd => rfl); (case hg => rfl); (case hr => first | (go_simp; done) | (go_simp; rfl)); (case hp => exact (Reps.one (show Kd.M Kd.bool _ _ _ a0_0 [.bool a0_0] from rfl) (Reps.one (show Kd.M Kd.bool _ _ _ a0_1 [.bool a0_1] from rfl) (Reps.one (show Kd.M Kd.bool _ _ _ a0_2 [.bool a0_2] from rfl) (Reps.none _ _))))); intro v173 w4 ho5 hb hg_ hnew_; clear hg_ hnew_; (first | rw [← Ny172.out] at ho5 | (simp only [Int.reduceToNat] at ho5; rw [← Ny172.out] at ho5)); have n0_ := Qa.mk (Kd.R_lower ho5 (Qb1 (by with_reducible repeat (first | exact HB.out | apply Qk | apply Ql | apply Qj | refine Qi ?_ GE171.out)))); have n1_ := Qa.mk (Qs (g := gb171) (o := .cells #[.bool a0_0, .bool a0_1, .bool a0_2] 36 (0, 0)) (by (with_reducible repeat (first | refine Qd ?_ _ | refine Qb ?_ | refine Qc ?_ _)); exact BK171.out) hb); have n2_ := Qa.mk (Qv (by with_reducible repeat (first | exact HB.out | apply Qk | apply Ql | apply Qj | refine Qi ?_ GE171.out)) hb); clear BK171; clear HB; have HO174 := n0_; have BK171 := n1_; have HB := n2_; clear n0_ n1_ n2_; clear hb ho5; obtain ⟨Ao6, co6, eo6⟩ := Kd.R_slice HO174.out; subst eo6))
 go_loopg [3, 14] k (fun kq v3 v14 w' => ∃ (x3_1 : ByteArray) (x14_1 : Int), v3 = .string x3_1 ∧ v14 = .int .i64 x14_1 ∧ Qa (flow_Text.l0 kq x3_1 y172 (y172.length : Int) x14_1 = some r) ∧ Qa (kq ≤ k) ∧ Qa (Kd.R Kd.bool 4 w' w.heap.size (fun _ => True) (.slice Ao6 y172.length co6) y172) ∧ Qa (w'.heap[gb171]? = some (.cells #[.bool a0_0, .bool a0_1, .bool a0_2] 36 (0, 0))) ∧ Qa (Below w.heap.size w w'))
 case atStart => exact ⟨((⟨#[]⟩ : ByteArray)), (0), (by first | rfl | (simp; done) | (simp [*]; done)), (by first | rfl | (simp; done) | (simp [*]; done)), H', ⟨Nat.le_refl _⟩, ⟨by (with_reducible repeat (first | apply Kd.Qq | apply Kd.Qr | apply Kd.Qo)); exact HO174.out⟩, ⟨by (with_reducible repeat (first | refine Qd ?_ _ | refine Qb ?_ | refine Qc ?_ _)); exact BK171.out⟩, ⟨by with_reducible repeat (first | exact HB.out | apply Qk | apply Ql | apply Qj | refine Qi ?_ GE171.out)⟩⟩
 case round =>
  clear H'
  (try clear c1; try clear p2; try clear hcz3_0; try clear hcz3_1; try clear hcz3_2; try clear hfz3_0; try clear hfz3_1; try clear hfz3_2)
  obtain ⟨x3_1, x14_1, rfl, rfl, HA, HK1, HO_12, BK171, HB⟩ := hrel
  cases gk with
  | zero => exact absurd HA.out (by simp [flow_Text.l0])
  | succ k1 =>
   have H := HA.out
   clear HA
   simp only [flow_Text.l0] at H
   by_cases c7 : x14_1 < (y172.length : Int)
   rotate_left
   ·
    rw [if_neg c7] at H
    have c7b0 : decide (x14_1 < (y172.length : Int)) = false := decide_eq_false c7
    (try (have c7e := c7b0; simp only [hl5_1] at c7e))
    clear c7
    by_cases c16 : x3_1.toList = ([] : List UInt8)
    ·
     rw [if_pos c16] at H
     have c16b0 : (x3_1.toList == ([] : List UInt8)) = true := beq_iff_eq.mpr c16
     have c16b1 : (x3_1.toList != ([] : List UInt8)) = false := bne_eq_false_iff_eq.mpr c16
     clear c16
     obtain rfl := Option.some.inj H
     go_wp2
     go_ret
     exact ⟨by first | rfl | (simp [Qw, Qx] <;> rfl) | (simp [*, Qw, Qx] <;> rfl), by with_reducible repeat (first | exact HB.out | apply Qk | apply Ql | apply Qj | refine Qi ?_ GE171.out)⟩
    ·
     rw [if_neg c16] at H
     have c16b0 : (x3_1.toList == ([] : List UInt8)) = false := beq_eq_false_iff_ne.mpr c16
     have c16b1 : (x3_1.toList != ([] : List UInt8)) = true := bne_iff_ne.mpr c16
     obtain rfl := Option.some.inj H
     go_wp2
     go_ret
     exact ⟨by first | rfl | (simp [Qw, Qx] <;> rfl) | (simp [*, Qw, Qx] <;> rfl), by with_reducible repeat (first | exact HB.out | apply Qk | apply Ql | apply Qj | refine Qi ?_ GE171.out)⟩
   rw [if_pos c7] at H
   have c7b0 : decide (x14_1 < (y172.length : Int)) = true := decide_eq_true c7
   clear c7
   by_cases c8 : 0 ≤ x14_1
   rotate_left
   ·
    rw [if_neg c8] at H
    exact absurd H (by simp)
   rw [if_pos c8] at H
   have c8b0 : decide (0 ≤ x14_1) = true := decide_eq_true c8
   clear c8
   by_cases c9 : x14_1 < (y172.length : Int)
   rotate_left
   ·
    rw [if_neg c9] at H
    exact absurd H (by simp)
   rw [if_pos c9] at H
   have c9b0 : decide (x14_1 < (y172.length : Int)) = true := decide_eq_true c9
   clear c9
   obtain ⟨bq10, hbq10⟩ : ∃ b_ : Bool, b_ = (rdOf false y172 x14_1) := ⟨_, rfl⟩
   replace H : (if bq10 = true then (if x14_1 ≤ (wrap64 (x14_1 + 1)) then (if (wrap64 (x14_1 + 1)) ≤ 3 then (if x3_1.size + ((⟨#[110, 101, 102]⟩ : ByteArray).extract (x14_1 : Int).toNat ((wrap64 (x14_1 + 1)) : Int).toNat).size ≤ 9223372036854775807 then (flow_Text.l0 k1 (x3_1 ++ ((⟨#[110, 101, 102]⟩ : ByteArray).extract (x14_1 : Int).toNat ((wrap64 (x14_1 + 1)) : Int).toNat)) y172 (y172.length : Int) (wrap64 (x14_1 + 1))) else (none)) else (none)) else (none)) else (flow_Text.l0 k1 x3_1 y172 (y172.length : Int) (wrap64 (x14_1 + 1)))) = some r := by rw [← hbq10] at H; exact H
   have Nbq10 := Qa.mk hbq10
   clear hbq10
   by_cases c11 : bq10 = true
   rotate_left
   ·
    replace c11 := Bool.eq_false_iff.mpr c11
    subst c11
    have H1 : (flow_Text.l0 k1 x3_1 y172 (y172.length : Int) (wrap64 (x14_1 + 1))) = some r := by rw [if_neg (show ¬ (false = true) by decide)] at H; exact H
    clear H
    have H := H1
    clear H1
    have H' := Qa.mk H
    clear H
    have p175 : 0 ≤ (x14_1 : Int) := of_decide_eq_true (by assumption)
    have q175 : x14_1 < (y172.length : Int) := of_decide_eq_true (by assumption)
    obtain ⟨ad175, e175, hx175_0⟩ := Kd.at_bool (Kd.R_reads' HO_12.out).2.2 x14_1 p175 q175
    (try rw [← Nbq10.out] at hx175_0)
    cases e175
    replace p175 := eq_true p175
    replace q175 := eq_true q175
    go_wp2
    go_roundg k1
    case measure => have := HK1.out; omega
    case rel => exact ⟨(x3_1), (wrap64 (x14_1 + 1)), (by first | rfl | (simp; done) | (simp [*]; done)), (by first | rfl | (simp; done) | (simp [*]; done)), H', ⟨by have := HK1.out; omega⟩, ⟨by (with_reducible repeat (first | apply Kd.Qq | apply Kd.Qr | apply Kd.Qo)); exact HO_12.out⟩, ⟨by (with_reducible repeat (first | refine Qd ?_ _ | refine Qb ?_ | refine Qc ?_ _)); exact BK171.out⟩, ⟨by with_reducible repeat (first | exact HB.out | apply Qk | apply Ql | apply Qj | refine Qi ?_ GE171.out)⟩⟩
   subst c11
   have H1 : (if x14_1 ≤ (wrap64 (x14_1 + 1)) then (if (wrap64 (x14_1 + 1)) ≤ 3 then (if x3_1.size + ((⟨#[110, 101, 102]⟩ : ByteArray).extract (x14_1 : Int).toNat ((wrap64 (x14_1 + 1)) : Int).toNat).size ≤ 9223372036854775807 then (flow_Text.l0 k1 (x3_1 ++ ((⟨#[110, 101, 102]⟩ : ByteArray).extract (x14_1 : Int).toNat ((wrap64 (x14_1 + 1)) : Int).toNat)) y172 (y172.length : Int) (wrap64 (x14_1 + 1))) else (none)) else (none)) else (none)) = some r := by rw [if_pos rfl] at H; exact H
   clear H
   have H := H1
   clear H1
   have c12b0 := eq_true (of_decide_eq_true (by assumption) : 0 ≤ x14_1)
   by_cases c13 : x14_1 ≤ (wrap64 (x14_1 + 1))
   rotate_left
   ·
    rw [if_neg c13] at H
    exact absurd H (by simp)
   rw [if_pos c13] at H
   have c13b0 := eq_true c13
   have c13b1 : decide (x14_1 ≤ (wrap64 (x14_1 + 1))) = true := decide_eq_true c13
   by_cases c14 : (wrap64 (x14_1 + 1)) ≤ 3
   rotate_left
   ·
    rw [if_neg c14] at H
    exact absurd H (by simp)
   rw [if_pos c14] at H
   have c14b0 := eq_true c14
   have c14b1 : decide ((wrap64 (x14_1 + 1)) ≤ 3) = true := decide_eq_true c14
   by_cases c15 : x3_1.size + ((⟨#[110, 101, 102]⟩ : ByteArray).extract (x14_1 : Int).toNat ((wrap64 (x14_1 + 1)) : Int).toNat).size ≤ 9223372036854775807
   rotate_left
   ·
    rw [if_neg c15] at H
    exact absurd H (by simp)
   rw [if_pos c15] at H
   have c15b0 := eq_true c15
   have c15b1 : decide (x3_1.size + ((⟨#[110, 101, 102]⟩ : ByteArray).extract (x14_1 : Int).toNat ((wrap64 (x14_1 + 1)) : Int).toNat).size ≤ 9223372036854775807) = true := decide_eq_true c15
   try have c15b2 : (9223372036854775807 < x3_1.size + ((⟨#[110, 101, 102]⟩ : ByteArray).extract (x14_1 : Int).toNat ((wrap64 (x14_1 + 1)) : Int).toNat).size) = False := eq_false (Nat.not_lt.2 c15)
   have H' := Qa.mk H
   clear H
   have p175 : 0 ≤ (x14_1 : Int) := of_decide_eq_true (by assumption)
   have q175 : x14_1 < (y172.length : Int) := of_decide_eq_true (by assumption)
   obtain ⟨ad175, e175, hx175_0⟩ := Kd.at_bool (Kd.R_reads' HO_12.out).2.2 x14_1 p175 q175
   (try rw [← Nbq10.out] at hx175_0)
   cases e175
   replace p175 := eq_true p175
   replace q175 := eq_true q175
   go_wp2
   go_roundg k1
   case measure => have := HK1.out; omega
   case rel => exact ⟨(x3_1 ++ ((⟨#[110, 101, 102]⟩ : ByteArray).extract (x14_1 : Int).toNat ((wrap64 (x14_1 + 1)) : Int).toNat)), (wrap64 (x14_1 + 1)), (by first | rfl | (simp; done) | (simp [*]; done)), (by first | rfl | (simp; done) | (simp [*]; done)), H', ⟨by have := HK1.out; omega⟩, ⟨by (with_reducible repeat (first | apply Kd.Qq | apply Kd.Qr | apply Kd.Qo)); exact HO_12.out⟩, ⟨by (with_reducible repeat (first | refine Qd ?_ _ | refine Qb ?_ | refine Qc ?_ _)); exact BK171.out⟩, ⟨by with_reducible repeat (first | exact HB.out | apply Qk | apply Ql | apply Qj | refine Qi ?_ GE171.out)⟩⟩
end Go.Proofs.Ytnaanamibfpbpaa.V
