/- The product does not depend on the order of numbers; a factor 1 does not change it, and a factor that is negative has none: the law LimitOrders over its printed functions. Conditions: none beyond the kinds of the three numbers. -/
import Derived.Test.YthabnmnhmioheaaPLimitOrdersx3
import Derived.Laws.MathBits
import Derived.KernelRfl
namespace Go.Proofs.Ythabnmnhmioheaa.Pure
open Go.RowKit Go.Proofs.Ythabnmnhmioheaa.PLimitOrders Go.Proofs.YthabnmnhmioheaaW.PrintWords Go.Proofs.YthabnmnhmioheaaW.PrintLast
theorem mul_parts (a b : Int) : a * b = (a / 4294967296) * (b / 4294967296) * 18446744073709551616 + ((a / 4294967296) * (b % 4294967296) + (a % 4294967296) * (b / 4294967296)) * 4294967296 + (a % 4294967296) * (b % 4294967296) := by
  have ha : a = (a / 4294967296) * 4294967296 + a % 4294967296 := by omega
  have hb : b = (b / 4294967296) * 4294967296 + b % 4294967296 := by omega
  generalize hx : a / 4294967296 = x at *
  generalize hy : a % 4294967296 = y at *
  generalize hz : b / 4294967296 = z at *
  generalize hw : b % 4294967296 = w at *
  subst ha hb
  simp only [Int.add_mul, Int.mul_add]
  have e1 : x * 4294967296 * (z * 4294967296) = x * z * 18446744073709551616 := by
    rw [Int.mul_assoc x, Int.mul_left_comm 4294967296 z, ← Int.mul_assoc x z]; rfl
  have e2 : x * 4294967296 * w = x * w * 4294967296 := by rw [Int.mul_assoc, Int.mul_comm 4294967296 w, Int.mul_assoc]
  have e3 : y * (z * 4294967296) = y * z * 4294967296 := by rw [Int.mul_assoc]
  rw [e1, e2, e3]
  omega
theorem bd (x y : Int) (hx : 0 ≤ x ∧ x < 4294967296) (hy : 0 ≤ y ∧ y < 4294967296) : 0 ≤ x * y ∧ x * y ≤ 18446744065119617025 := by
  constructor
  · exact Int.mul_nonneg hx.1 hy.1
  · have := Int.mul_le_mul (show x ≤ 4294967295 by omega) (show y ≤ 4294967295 by omega) hy.1 (by omega)
    omega
theorem mul_hi (a b : Int) (ha : 0 ≤ a ∧ a < 18446744073709551616) (hb : 0 ≤ b ∧ b < 18446744073709551616) :
   let t := (a / 4294967296) * (b % 4294967296) + ((a % 4294967296) * (b % 4294967296)) / 4294967296
   t < 18446744073709551616 ∧ 0 ≤ t ∧ (t % 4294967296 + (a % 4294967296) * (b / 4294967296)) < 18446744073709551616 ∧ 0 ≤ (t % 4294967296 + (a % 4294967296) * (b / 4294967296)) ∧
   (a / 4294967296) * (b / 4294967296) + t / 4294967296 + (t % 4294967296 + (a % 4294967296) * (b / 4294967296)) / 4294967296 = a * b / 18446744073709551616 ∧
   0 ≤ a * b / 18446744073709551616 ∧ a * b / 18446744073709551616 < 18446744073709551616 := by
  have hm := mul_parts a b
  have h1 := bd (a / 4294967296) (b / 4294967296) (by omega) (by omega)
  have h2 := bd (a / 4294967296) (b % 4294967296) (by omega) (by omega)
  have h3 := bd (a % 4294967296) (b / 4294967296) (by omega) (by omega)
  have h4 := bd (a % 4294967296) (b % 4294967296) (by omega) (by omega)
  generalize (a / 4294967296) * (b / 4294967296) = p at *
  generalize (a / 4294967296) * (b % 4294967296) = q at *
  generalize (a % 4294967296) * (b / 4294967296) = r at *
  generalize (a % 4294967296) * (b % 4294967296) = s at *
  generalize a * b = m at *
  intro t
  have ht : t = q + s / 4294967296 := rfl
  clear_value t
  refine ⟨?_, ?_, ?_, ?_, ?_, ?_, ?_⟩ <;> omega
/-- one step of the product: the product modulo 2^63, and whether it still fits -/
def tStep (s : Int × Bool) (n : Int) : Int × Bool := ((s.1 * n) % 9223372036854775808, s.2 && decide (s.1 * n < 9223372036854775808))
def tStart (l : List Int) : Int := if l.any (· == 0) then 0 else 1
def tRun (l : List Int) : Int × Bool := l.foldl tStep (tStart l, true)
def timesP (l : List Int) : Int × Bool :=
  if l.any (· < 0) then (0, false) else if (tRun l).2 then ((tRun l).1, true) else (0, false)
def prodL (l : List Int) : Int := l.foldl (· * ·) 1
/-- what the product is: said without rounds -/
def timesS (l : List Int) : Int × Bool :=
  if l.any (· < 0) then (0, false) else if l.any (· == 0) then (0, true) else if prodL l < 9223372036854775808 then (prodL l, true) else (0, false)

theorem foldl_mul (l : List Int) (a : Int) : l.foldl (· * ·) a = a * prodL l := by
  unfold prodL
  induction l generalizing a with
  | nil => simp
  | cons x l ih => simp only [List.foldl_cons]; rw [ih (a * x), ih (1 * x)]; rw [Int.one_mul, Int.mul_assoc]
theorem prodL_cons (x : Int) (l : List Int) : prodL (x :: l) = x * prodL l := by
  unfold prodL; rw [List.foldl_cons, foldl_mul, Int.one_mul]; rfl
theorem prodL_pos (l : List Int) (h : ∀ x ∈ l, 1 ≤ x) : 1 ≤ prodL l := by
  induction l with
  | nil => decide
  | cons x l ih =>
    rw [prodL_cons]
    have h1 := h x (by simp)
    have h2 := ih (fun y hy => h y (by simp [hy]))
    have := Int.mul_le_mul h1 h2 (by omega) (by omega)
    omega
theorem tRun_zero (l : List Int) (h : ∀ x ∈ l, 0 ≤ x) (b : Bool) : l.foldl tStep (0, b) = (0, b) := by
  induction l with
  | nil => rfl
  | cons x l ih =>
    rw [List.foldl_cons]
    have : tStep (0, b) x = (0, b) := by simp [tStep]
    rw [this]; exact ih (fun y hy => h y (by simp [hy]))
theorem tRun_bad (l : List Int) (a : Int) : (l.foldl tStep (a, false)).2 = false := by
  induction l generalizing a with
  | nil => rfl
  | cons x l ih => rw [List.foldl_cons]; simp only [tStep, Bool.false_and]; exact ih _
theorem tRun_pos (l : List Int) (h : ∀ x ∈ l, 1 ≤ x) (a : Int) (ha : 1 ≤ a) (hb : a < 9223372036854775808) :
    (a * prodL l < 9223372036854775808 → l.foldl tStep (a, true) = (a * prodL l, true)) ∧ (9223372036854775808 ≤ a * prodL l → (l.foldl tStep (a, true)).2 = false) := by
  induction l generalizing a with
  | nil => simp [prodL]; omega
  | cons x l ih =>
    have h1 := h x (by simp)
    have h2 := prodL_pos l (fun y hy => h y (by simp [hy]))
    have hax : 1 ≤ a * x := by have := Int.mul_le_mul ha h1 (by omega) (by omega); omega
    rw [prodL_cons, ← Int.mul_assoc, List.foldl_cons]
    by_cases hs : a * x < 9223372036854775808
    · have e : tStep (a, true) x = (a * x, true) := by
        simp only [tStep, Bool.true_and, hs, decide_true]
        rw [Int.emod_eq_of_lt (by omega) hs]
      rw [e]
      exact ih (fun y hy => h y (by simp [hy])) _ hax hs
    · have e : tStep (a, true) x = ((a * x) % 9223372036854775808, false) := by simp [tStep, hs]
      rw [e]
      refine ⟨fun hlt => ?_, fun _ => tRun_bad _ _⟩
      have : a * x * 1 ≤ a * x * prodL l := Int.mul_le_mul_of_nonneg_left h2 (by omega)
      omega
theorem timesP_eq (l : List Int) : timesP l = timesS l := by
  unfold timesP timesS
  by_cases hn : l.any (· < 0) = true
  · rw [if_pos hn, if_pos hn]
  · rw [if_neg hn, if_neg hn]
    have h0 : ∀ x ∈ l, 0 ≤ x := by
      intro x hx
      have : ¬ x < 0 := fun hlt => hn (List.any_eq_true.2 ⟨x, hx, by simpa using hlt⟩)
      omega
    by_cases hz : l.any (· == 0) = true
    · rw [if_pos hz]
      have e : tRun l = (0, true) := by unfold tRun tStart; rw [if_pos hz]; exact tRun_zero l h0 true
      rw [e]; rfl
    · rw [if_neg hz]
      have h1 : ∀ x ∈ l, 1 ≤ x := by
        intro x hx
        have h2 := h0 x hx
        have : ¬ x = 0 := fun hlt => hz (List.any_eq_true.2 ⟨x, hx, by simpa using hlt⟩)
        omega
      obtain ⟨ha, hb⟩ := tRun_pos l h1 1 (by omega) (by omega)
      rw [Int.one_mul] at ha hb
      have e : tRun l = l.foldl tStep (1, true) := by unfold tRun tStart; rw [if_neg hz]
      by_cases hp : prodL l < 9223372036854775808
      · rw [if_pos hp, e, ha hp]; rfl
      · rw [if_neg hp, e, hb (by omega)]; rfl
theorem mul64_f (a b : Int) (ha : 0 ≤ a ∧ a < 18446744073709551616) (hb : 0 ≤ b ∧ b < 18446744073709551616) :
    bits_Mul64.f a b = some (a * b / 18446744073709551616, a * b % 18446744073709551616) := by
  have h1 := bd (a / 4294967296) (b / 4294967296) (by omega) (by omega)
  have h2 := bd (a / 4294967296) (b % 4294967296) (by omega) (by omega)
  have h3 := bd (a % 4294967296) (b / 4294967296) (by omega) (by omega)
  have h4 := bd (a % 4294967296) (b % 4294967296) (by omega) (by omega)
  obtain ⟨t1, t2, t3, t4, t5, t6, t7⟩ := mul_hi a b ha hb
  unfold bits_Mul64.f
  rw [and_low32 a ha.1 ha.2, and_low32 b hb.1 hb.2]
  rw [IntWalk.u64_in (a / 4294967296 * (b / 4294967296)) (by omega), IntWalk.u64_in (a / 4294967296 * (b % 4294967296)) (by omega), IntWalk.u64_in (a % 4294967296 * (b % 4294967296)) (by omega), IntWalk.u64_in (a % 4294967296 * (b / 4294967296)) (by omega)]
  generalize (a / 4294967296) * (b / 4294967296) = p at *
  generalize (a / 4294967296) * (b % 4294967296) = q at *
  generalize (a % 4294967296) * (b / 4294967296) = r at *
  generalize (a % 4294967296) * (b % 4294967296) = s at *
  rw [IntWalk.u64_in (q + s / 4294967296) (by omega)]
  rw [and_low32 _ t2 t1, IntWalk.u64_in (_ % 4294967296 + r) (by omega), IntWalk.u64_in (p + _) (by omega), IntWalk.u64_in (p + _ + _) (by omega), t5]
  have e : IntKind.u64.wrap (a * b) = a * b % 18446744073709551616 := by simp [IntKind.wrap, IntKind.bits, IntKind.signed]
  rw [e]
theorem and_low63 (z : Int) (h0 : 0 ≤ z) (h1 : z < 18446744073709551616) : bits .and .u64 z 9223372036854775807 = z % 9223372036854775808 := by
  rw [u64_and z _ h0 h1 (by omega) (by omega)]
  obtain ⟨n, rfl⟩ := Int.eq_ofNat_of_zero_le h0
  rw [show (9223372036854775807 : Int).toNat = 2 ^ 63 - 1 from rfl, Int.toNat_natCast, Nat.and_two_pow_sub_one_eq_mod]
  rfl
def tEnd (s : Int × Bool) : Int × Bool := if s.2 then (s.1, true) else (0, false)
theorem drop_cons (xs : List Int) (i : Int) (h0 : 0 ≤ i) (h1 : i < xs.length) : xs.drop i.toNat = rd xs i :: xs.drop (i + 1).toNat := by
  have e : (i + 1).toNat = i.toNat + 1 := by omega
  have hl : i.toNat < xs.length := by omega
  rw [e, List.drop_eq_getElem_cons hl]
  simp [rd, List.getD_eq_getElem?_getD, List.getElem?_eq_getElem hl]
theorem rd_mem (xs : List Int) (i : Int) (h0 : 0 ≤ i) (h1 : i < xs.length) : rd xs i ∈ xs := by
  have hl : i.toNat < xs.length := by omega
  simp [rd, List.getD_eq_getElem?_getD, List.getElem?_eq_getElem hl]
theorem w64 (n : Int) (h : -9223372036854775808 ≤ n ∧ n ≤ 9223372036854775807) : wrap64 n = n := by unfold wrap64; omega
theorem times_l1 (xs : List Int) (hx : ∀ x ∈ xs, 0 ≤ x ∧ x ≤ 9223372036854775807) (hl : xs.length ≤ 9223372036854775807) (d : Nat) : ∀ (k : Nat) (a : Int) (b : Bool) (i : Int), 0 ≤ i → i ≤ xs.length → (xs.length : Int) - i = d → d < k → 0 ≤ a → a < 9223372036854775808 →
    limit_Times.l1 k a b xs (xs.length : Int) i = some (tEnd ((xs.drop i.toNat).foldl tStep (a, b))) := by
  induction d with
  | zero =>
    intro k a b i h0 h1 hd hk ha hb
    obtain ⟨k, rfl⟩ : ∃ m, k = m + 1 := ⟨k - 1, by omega⟩
    have e : xs.drop i.toNat = [] := List.drop_eq_nil_of_le (by omega)
    simp only [limit_Times.l1]; rw [if_neg (by omega), e]
    cases b <;> rfl
  | succ d ih =>
    intro k a b i h0 h1 hd hk ha hb
    obtain ⟨k, rfl⟩ : ∃ m, k = m + 1 := ⟨k - 1, by omega⟩
    have hlt : i < xs.length := by omega
    obtain ⟨hn0, hn1⟩ := hx _ (rd_mem xs i h0 hlt)
    have hab : 0 ≤ a * rd xs i := Int.mul_nonneg ha hn0
    have hab2 : a * rd xs i ≤ 9223372036854775807 * 9223372036854775807 := Int.mul_le_mul (by omega) hn1 hn0 (by omega)
    simp only [limit_Times.l1]; rw [if_pos (by omega), if_pos h0, if_pos hlt, IntWalk.u64_in a (by omega), IntWalk.u64_in (rd xs i) (by omega), mul64_f _ _ (by omega) (by omega)]
    simp only [Option.bind_some]
    rw [drop_cons xs i h0 hlt, List.foldl_cons, and_low63 _ (by omega) (by omega), w64 (_ % _) (by omega), w64 (i + 1) (by omega)]
    have em : a * rd xs i % 18446744073709551616 % 9223372036854775808 = (a * rd xs i) % 9223372036854775808 := by omega
    rw [em]
    have ht : tStep (a, b) (rd xs i) = ((a * rd xs i) % 9223372036854775808, b && decide (a * rd xs i < 9223372036854775808)) := rfl
    rw [ht]
    cases b with
    | false =>
      rw [if_neg (by decide)]
      rw [ih k _ _ (i + 1) (by omega) (by omega) (by omega) (by omega) (by omega) (by omega)]
      rfl
    | true =>
      rw [if_pos rfl]
      by_cases hc : a * rd xs i / 18446744073709551616 = 0
      · rw [if_pos hc, ih k _ _ (i + 1) (by omega) (by omega) (by omega) (by omega) (by omega) (by omega)]
        have : decide (a * rd xs i % 18446744073709551616 ≤ 9223372036854775807) = (true && decide (a * rd xs i < 9223372036854775808)) := by
          rw [Bool.true_and]; exact decide_eq_decide.2 (by omega)
        rw [this]
      · rw [if_neg hc, ih k _ _ (i + 1) (by omega) (by omega) (by omega) (by omega) (by omega) (by omega)]
        have : false = (true && decide (a * rd xs i < 9223372036854775808)) := by
          rw [Bool.true_and]; exact (decide_eq_false (by omega)).symm
        rw [← this]
def tHead (a : Int) (l : List Int) : Int := if l.any (· == 0) then 0 else a
theorem times_l0 (xs : List Int) (hl : xs.length ≤ 9223372036854775807) (d : Nat) : ∀ (k : Nat) (a : Int) (b : Bool) (i : Int), 0 ≤ i → i ≤ xs.length → (xs.length : Int) - i = d → d < k →
    (∀ j : Int, 0 ≤ j → j < i → 0 ≤ rd xs j) →
    (((xs.drop i.toNat).any (· < 0) = true → limit_Times.l0 k xs a b xs (xs.length : Int) i = some (0, false)) ∧
     ((xs.drop i.toNat).any (· < 0) = false → ∃ k', k ≤ k' + d + 1 ∧ limit_Times.l0 k xs a b xs (xs.length : Int) i = limit_Times.l1 k' (tHead a (xs.drop i.toNat)) b xs (xs.length : Int) 0)) := by
  induction d with
  | zero =>
    intro k a b i h0 h1 hd hk hp
    obtain ⟨k, rfl⟩ : ∃ m, k = m + 1 := ⟨k - 1, by omega⟩
    have e : xs.drop i.toNat = [] := List.drop_eq_nil_of_le (by omega)
    rw [e]
    refine ⟨fun h => by simp at h, fun _ => ⟨k, by omega, ?_⟩⟩
    simp only [limit_Times.l0]; rw [if_neg (by omega)]; rfl
  | succ d ih =>
    intro k a b i h0 h1 hd hk hp
    obtain ⟨k, rfl⟩ : ∃ m, k = m + 1 := ⟨k - 1, by omega⟩
    have hlt : i < xs.length := by omega
    rw [drop_cons xs i h0 hlt]
    simp only [limit_Times.l0]; rw [if_pos (by omega), if_pos h0, if_pos hlt]
    by_cases hn : rd xs i < 0
    · rw [if_pos hn]
      refine ⟨fun _ => rfl, fun h => ?_⟩
      simp [hn] at h
    · rw [if_neg hn, w64 (i + 1) (by omega)]
      have hp' : ∀ j : Int, 0 ≤ j → j < i + 1 → 0 ≤ rd xs j := by
        intro j j0 j1
        by_cases hj : j < i
        · exact hp j j0 hj
        · obtain rfl : j = i := by omega
          omega
      have e1 : ((rd xs i :: xs.drop (i + 1).toNat).any (· < 0)) = (xs.drop (i + 1).toNat).any (· < 0) := by simp [hn]
      rw [e1]
      by_cases hz : rd xs i = 0
      · rw [if_pos hz]
        obtain ⟨g1, g2⟩ := ih k 0 b (i + 1) (by omega) (by omega) (by omega) (by omega) hp'
        refine ⟨g1, fun h => ?_⟩
        obtain ⟨k', hk', he⟩ := g2 h
        refine ⟨k', by omega, ?_⟩
        rw [he]
        congr 1
        unfold tHead
        simp [hz]
      · rw [if_neg hz]
        obtain ⟨g1, g2⟩ := ih k a b (i + 1) (by omega) (by omega) (by omega) (by omega) hp'
        refine ⟨g1, fun h => ?_⟩
        obtain ⟨k', hk', he⟩ := g2 h
        refine ⟨k', by omega, ?_⟩
        rw [he]
        congr 1
        unfold tHead
        simp [hz]
theorem times_f (k : Nat) (xs : List Int) (hx : ∀ x ∈ xs, x ≤ 9223372036854775807) (hl : xs.length ≤ 9223372036854775807) (hk : 2 * xs.length + 2 ≤ k) : limit_Times.f k xs = some (timesS xs) := by
  rw [← timesP_eq]
  unfold limit_Times.f timesP
  obtain ⟨g1, g2⟩ := times_l0 xs hl xs.length k 1 true 0 (by omega) (by omega) (by omega) (by omega) (by omega)
  by_cases hn : xs.any (· < 0) = true
  · rw [if_pos hn]; exact g1 hn
  · rw [if_neg hn]
    obtain ⟨k', hk', he⟩ := g2 (by simpa using hn)
    rw [he]
    have h0 : ∀ x ∈ xs, 0 ≤ x ∧ x ≤ 9223372036854775807 := by
      intro x hm
      have : ¬ x < 0 := fun hlt => hn (List.any_eq_true.2 ⟨x, hm, by simpa using hlt⟩)
      exact ⟨by omega, hx x hm⟩
    have ht : 0 ≤ tHead 1 (xs.drop (0 : Int).toNat) ∧ tHead 1 (xs.drop (0 : Int).toNat) ≤ 1 := by unfold tHead; split <;> omega
    rw [times_l1 xs h0 hl xs.length k' _ _ 0 (by omega) (by omega) (by omega) (by omega) (by omega) (by omega)]
    rfl
theorem wf64 {n : Int} (h : (Lit.int .i64 n).wf = true) : -9223372036854775808 ≤ n ∧ n ≤ 9223372036854775807 := by
  simp [Lit.wf, IntKind.min, IntKind.max, IntKind.signed, IntKind.bits] at h; omega
theorem awake_20 : vetchlaw17_awake.f 20 = some true := by decide +kernel
theorem awake_f (k : Nat) (hk : 20 ≤ k) : vetchlaw17_awake.f k = some true := at_rounds vetchlaw17_awake.mono hk awake_20
theorem orders_swap (a b c : Int) : timesS [a, b, c] = timesS [c, a, b] := by
  have e : prodL [a, b, c] = prodL [c, a, b] := by simp only [prodL, List.foldl]; rw [Int.one_mul, Int.one_mul, Int.mul_assoc c, Int.mul_comm c]
  have e1 : [a, b, c].any (· < 0) = [c, a, b].any (· < 0) := by simp only [List.any_cons, List.any_nil, Bool.or_false]; rw [← Bool.or_assoc, Bool.or_comm]
  have e2 : [a, b, c].any (· == 0) = [c, a, b].any (· == 0) := by simp only [List.any_cons, List.any_nil, Bool.or_false]; rw [← Bool.or_assoc, Bool.or_comm]
  unfold timesS
  rw [e, e1, e2]
theorem orders_one (a b c : Int) : timesS [a, b, c] = timesS [a, 1, b, c, 1] := by
  have e : prodL [a, b, c] = prodL [a, 1, b, c, 1] := by simp [prodL]
  have e1 : [a, b, c].any (· < 0) = [a, 1, b, c, 1].any (· < 0) := by simp
  have e2 : [a, b, c].any (· == 0) = [a, 1, b, c, 1].any (· == 0) := by simp
  unfold timesS
  rw [e, e1, e2]
theorem orders_neg (a b c : Int) : timesS [a, b, c, -1] = (0, false) := by
  unfold timesS
  rw [if_pos (by simp)]
theorem LimitOrders : vetchlaw17_LimitOrders.Pure := by
  intro a0 a1 a2 h0 h1 h2
  have w0 := wf64 h0
  have w1 := wf64 h1
  have w2 := wf64 h2
  refine ⟨40, ?_⟩
  unfold vetchlaw17_LimitOrders.f
  rw [awake_f 40 (by omega), times_f 40 [a0, a1, a2] (by simp; omega) (by simp) (by simp), times_f 40 [a2, a0, a1] (by simp; omega) (by simp) (by simp), times_f 40 [a0, 1, a1, a2, 1] (by simp; omega) (by simp) (by simp),
    times_f 40 [a0, a1, a2, -1] (by simp; omega) (by simp) (by simp), ← orders_swap a0 a1 a2, ← orders_one a0 a1 a2, orders_neg a0 a1 a2]
  simp
end Go.Proofs.Ythabnmnhmioheaa.Pure
