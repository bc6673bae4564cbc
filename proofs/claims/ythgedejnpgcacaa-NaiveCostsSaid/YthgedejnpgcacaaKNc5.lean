/- The law NaiveCosts returns true whatever comes in, and leaves its arguments as they were. No condition. -/
import Derived.Test.YthgedejnpgcacaaKNc4
import Derived.Laws.Bits64b
import Derived.Test.YthgedejnpgcacaaRows
import Derived.WalkKit
import Derived.ProofKit
import Derived.OpenShut
import Derived.ShutString
import Derived.ChangeOld
import Derived.Below
import Derived.SizedLaws
import Derived.Carry
namespace Go.Proofs.Ythgedejnpgcacaa.V
open Go.RowKit Go.Proofs.YthgedejnpgcacaaW.PrintWords
set_option linter.unusedVariables false
set_option linter.unusedSimpArgs false
abbrev RuleT := S51
abbrev NodeT := S56
abbrev nodeAt (G : List NodeT) (i : Int) : NodeT := rd_T56 G i
abbrev ruleAt (R : List RuleT) (i : Int) : RuleT := rd_T51 R i
def Made (n : Int) (x : NodeT) : Prop :=
  0 ≤ x.f0 ∧ x.f0 ≤ 9 ∧ (x.f0 ≤ 2 → x.f1 = []) ∧ (x.f0 = 3 → 2 ≤ x.f1.length) ∧ (x.f0 = 4 → 2 ≤ x.f1.length) ∧ (5 ≤ x.f0 → x.f1.length = 1) ∧ (x.f0 = 2 → 0 ≤ x.f2 ∧ x.f2 < n) ∧ (x.f0 ≠ 2 → x.f2 = 0) ∧ (x.f0 ≠ 1 → x.f3.f0 = 0 ∧ x.f3.f1 = 0 ∧ x.f3.f2 = 0 ∧ x.f3.f3 = 0)
def KidsOk (G : List NodeT) (i : Int) : Prop := ∀ c ∈ (nodeAt G i).f1, 0 ≤ c ∧ c < i
structure WF (R : List RuleT) (G : List NodeT) : Prop where
  rules : 0 < R.length ∧ R.length ≤ 1000
  nodes : 0 < G.length ∧ G.length ≤ 10000
  made : ∀ i : Int, 0 ≤ i → i < (G.length : Int) → Made R.length (nodeAt G i)
  kids : ∀ i : Int, 0 ≤ i → i < (G.length : Int) → KidsOk G i
  roots : ∀ r : Int, 0 ≤ r → r < (R.length : Int) → 0 ≤ (ruleAt R r).f1 ∧ (ruleAt R r).f1 < (G.length : Int)
theorem letter_ev (c : Int) (b : Bool) : ∃ v, ∀ k : Nat, vetchref04_Letter.f c b = some v := by
  unfold vetchref04_Letter.f
  repeat' split
  all_goals exact ⟨_, fun _ => rfl⟩
theorem name_l0 (x : ByteArray) (hx : x.size ≤ maxLen) : ∀ (n : Nat) (i : Int), 0 ≤ i → i.toNat + n = x.size → ∃ v, Ev (fun k => vetchref04_Name.l0 k x i) v := by
  intro n
  induction n with
  | zero =>
    intro i h0 hn
    exact ⟨_, Ev.succ (g := fun _ => some _) (fun k => by rw [vetchref04_Name.l0, if_neg (by omega)]) (Ev.const _)⟩
  | succ n ih =>
    intro i h0 hn
    have hm : x.size ≤ 9223372036854775807 := hx
    obtain ⟨b, hb⟩ := letter_ev (bt x i) (i == 0)
    cases b with
    | true =>
      obtain ⟨v, hv⟩ := ih (wrap64 (i + 1)) (by rw [w64p _ (by omega)]; omega) (by rw [w64p _ (by omega)]; omega)
      exact ⟨v, Ev.succ (fun k => by rw [vetchref04_Name.l0, if_pos (by omega), if_pos h0, hb k, Option.bind_some, if_pos rfl]) hv⟩
    | false => exact ⟨false, Ev.succ (g := fun _ => some false) (fun k => by rw [vetchref04_Name.l0, if_pos (by omega), if_pos h0, hb k, Option.bind_some, if_neg (by decide)]) (Ev.const _)⟩
theorem name_ev (x : ByteArray) (hx : x.size ≤ maxLen) : ∃ v, Ev (fun k => vetchref04_Name.f k x) v := by
  obtain ⟨v, hv⟩ := name_l0 x hx x.size 0 (by omega) (by simp)
  exact ⟨v, hv⟩
theorem made_ev (n : Int) (x : NodeT) : ∃ v, Ev (fun k => vetchref05_Made.f k x.f0 x.f1 x.f2 x.f3.f0 x.f3.f1 x.f3.f2 x.f3.f3 n) v ∧ (v = true → Made n x) := by
  obtain ⟨op, kids, rule, s0, s1, s2, s3⟩ := x
  have hj1 : ∀ b : Bool, ∃ v, (∀ k, vetchref05_Made.j1 (k + 1) n b op kids rule s0 s1 s2 s3 = some v) ∧ (v = true → b = false ∧ (op = 2 → 0 ≤ rule ∧ rule < n) ∧ (op ≠ 2 → rule = 0) ∧ (op ≠ 1 → s0 = 0 ∧ s1 = 0 ∧ s2 = 0 ∧ s3 = 0)) := by
    intro b
    simp only [vetchref05_Made.j1]
    repeat' split
    all_goals refine ⟨_, fun _ => rfl, ?_⟩
    all_goals simp_all
    all_goals omega
  have hj0 : ∀ b : Bool, ∃ v, (∀ k, vetchref05_Made.j0 (k + 2) n b op kids rule s0 s1 s2 s3 = some v) ∧ (v = true → b = false ∧ (op ≤ 2 → kids.length = 0) ∧ (op = 3 → 2 ≤ kids.length) ∧ (op = 4 → 2 ≤ kids.length) ∧ (5 ≤ op → kids.length = 1) ∧ (op = 2 → 0 ≤ rule ∧ rule < n) ∧ (op ≠ 2 → rule = 0) ∧ (op ≠ 1 → s0 = 0 ∧ s1 = 0 ∧ s2 = 0 ∧ s3 = 0)) := by
    intro b
    simp only [vetchref05_Made.j0]
    repeat' split
    all_goals first
      | exact ⟨_, fun _ => rfl, fun h => absurd h (by decide)⟩
      | (obtain ⟨v, h1, h2⟩ := hj1 true; exact ⟨v, h1, fun h => absurd (h2 h).1 (by decide)⟩)
      | (obtain ⟨v, h1, h2⟩ := hj1 false; refine ⟨v, h1, fun h => ?_⟩; obtain ⟨_, h3, h4, h5⟩ := h2 h; refine ⟨by simp_all, by omega, by omega, by omega, by omega, h3, h4, h5⟩)
      | (obtain ⟨v, h1, h2⟩ := hj1 ((kids.length : Int) != 1); refine ⟨v, h1, fun h => ?_⟩; obtain ⟨h6, h3, h4, h5⟩ := h2 h; have h7 : (kids.length : Int) = 1 := by simpa using h6
         refine ⟨by simp_all, by omega, by omega, by omega, by omega, h3, h4, h5⟩)
  have hf : ∃ v, (∀ k, vetchref05_Made.f (k + 2) op kids rule s0 s1 s2 s3 n = some v) ∧ (v = true → 0 ≤ op ∧ op ≤ 9 ∧ (op ≤ 2 → kids.length = 0) ∧ (op = 3 → 2 ≤ kids.length) ∧ (op = 4 → 2 ≤ kids.length) ∧ (5 ≤ op → kids.length = 1) ∧ (op = 2 → 0 ≤ rule ∧ rule < n) ∧ (op ≠ 2 → rule = 0) ∧ (op ≠ 1 → s0 = 0 ∧ s1 = 0 ∧ s2 = 0 ∧ s3 = 0)) := by
    unfold vetchref05_Made.f
    split
    · obtain ⟨v, h1, h2⟩ := hj0 true
      exact ⟨v, h1, fun h => absurd (h2 h).1 (by decide)⟩
    · rename_i h0
      obtain ⟨v, h1, h2⟩ := hj0 (decide (op > 9))
      refine ⟨v, h1, fun h => ?_⟩
      obtain ⟨h3, h4⟩ := h2 h
      have h5 : ¬ op > 9 := by simpa using h3
      exact ⟨by omega, by omega, h4⟩
  obtain ⟨v, h1, h2⟩ := hf
  refine ⟨v, ⟨2, fun j hj => ?_⟩, fun h => ?_⟩
  · obtain ⟨k, rfl⟩ : ∃ k, j = k + 2 := ⟨j - 2, by omega⟩
    exact h1 k
  · obtain ⟨a, b, c, d⟩ := h2 h
    exact ⟨a, b, fun h => List.length_eq_zero_iff.1 (c h), d⟩
theorem expr_ev (R : List RuleT) (G : List NodeT) (hG : G.length ≤ maxLen) (hk : ∀ i : Int, 0 ≤ i → i < (G.length : Int) → (nodeAt G i).f1.length ≤ maxLen) :
    ∀ (n : Nat) (i : Int), i < (G.length : Int) → i < (n : Int) → ∃ v, Ev (fun k => vetchref05_Expression.f k R G i) v ∧ (v = -2 ∨ (-1 ≤ v ∧ v < i ∧ ∀ j, v < j → j ≤ i → KidsOk G j)) := by
  have hG' : G.length ≤ 9223372036854775807 := hG
  have neg : ∀ i : Int, i < 0 → ∃ v, Ev (fun k => vetchref05_Expression.f k R G i) v ∧ (v = -2 ∨ (-1 ≤ v ∧ v < i ∧ ∀ j, v < j → j ≤ i → KidsOk G j)) := fun i hi =>
    ⟨-2, Ev.succ (g := fun _ => some (-2)) (fun k => by rw [vetchref05_Expression.f, if_pos hi]) (Ev.const _), .inl rfl⟩
  intro n
  induction n with
  | zero => exact fun i _ hi => neg i (by omega)
  | succ n ih =>
    intro i hl hi
    by_cases h0 : i < 0
    · exact neg i h0
    have hkl : (nodeAt G i).f1.length ≤ 9223372036854775807 := hk i (by omega) hl
    have loop : ∀ (m : Nat) (a : Int), m ≤ (nodeAt G i).f1.length → -1 ≤ a → a < i → (∀ j, a < j → j < i → KidsOk G j) → (∀ p : Nat, m ≤ p → p < (nodeAt G i).f1.length → a < rd (nodeAt G i).f1 p ∧ rd (nodeAt G i).f1 p < i) →
        ∃ v, Ev (fun k => vetchref05_Expression.l0 k i a ((m : Int) - 1) R G) v ∧ (v = -2 ∨ (-1 ≤ v ∧ v < i ∧ (∀ j, v < j → j < i → KidsOk G j) ∧ ∀ p : Nat, p < (nodeAt G i).f1.length → v < rd (nodeAt G i).f1 p ∧ rd (nodeAt G i).f1 p < i)) := by
      intro m
      induction m with
      | zero =>
        intro a hm ha1 ha2 hn hp
        exact ⟨a, Ev.succ (g := fun _ => some a) (fun k => by rw [vetchref05_Expression.l0, if_neg (by omega)]) (Ev.const _), .inr ⟨ha1, ha2, hn, fun p hp' => hp p (by omega) hp'⟩⟩
      | succ m ihm =>
        intro a hm ha1 ha2 hn hp
        by_cases hkid : rd (nodeAt G i).f1 ((m : Int) + 1 - 1) = a
        · obtain ⟨v, hv, hs⟩ := ih a (by omega) (by omega)
          have step : ∀ k, vetchref05_Expression.l0 (k + 1) i a (((m + 1 : Nat) : Int) - 1) R G = (vetchref05_Expression.f k R G a).bind fun t => if t = (-2) then some (-2) else vetchref05_Expression.l0 k i t (wrap64 (((m + 1 : Nat) : Int) - 1 - 1)) R G := fun k => by
            rw [vetchref05_Expression.l0, if_pos (by omega), if_pos (by omega), if_pos hl, if_pos (by omega), if_pos (by show _ < ((nodeAt G i).f1.length : Int); omega), if_pos (by push_cast; exact hkid)]
          rcases hs with rfl | ⟨h1, h2, h3⟩
          · exact ⟨-2, Ev.succ step (Ev.bind hv (Ev.of_eq fun _ => if_pos rfl)), .inl rfl⟩
          · obtain ⟨u, hu, hus⟩ := ihm v (by omega) h1 (by omega) (fun j hj1 hj2 => by
                by_cases hja : j ≤ a
                · exact h3 j hj1 hja
                · exact hn j (by omega) hj2) (fun p hp1 hp2 => by
                by_cases hpm : p = m
                · subst hpm
                  rw [show ((p : Nat) : Int) = (p : Int) + 1 - 1 by omega, hkid]
                  omega
                · have := hp p (by omega) hp2
                  omega)
            refine ⟨u, Ev.succ step (Ev.bind hv (Ev.congr (fun k => if_neg (by omega)) ?_)), hus⟩
            rw [w64p _ (by omega), show ((m + 1 : Nat) : Int) - 1 - 1 = (m : Int) - 1 by omega]
            exact hu
        · refine ⟨-2, Ev.succ (g := fun _ => some (-2)) (fun k => by
            rw [vetchref05_Expression.l0, if_pos (by omega), if_pos (by omega), if_pos hl, if_pos (by omega), if_pos (by show _ < ((nodeAt G i).f1.length : Int); omega), if_neg (by push_cast; exact hkid)]) (Ev.const _), .inl rfl⟩
    obtain ⟨v, hv, hs⟩ := loop (nodeAt G i).f1.length (i - 1) (Nat.le_refl _) (by omega) (by omega) (fun j h1 h2 => absurd h2 (by omega)) (fun p h1 h2 => absurd h2 (by omega))
    refine ⟨v, Ev.succ (fun k => by rw [vetchref05_Expression.f, if_neg h0, if_pos (by omega), if_pos hl, w64p _ (by omega), w64p _ (by show _ ≤ ((nodeAt G i).f1.length : Int) - 1 ∧ ((nodeAt G i).f1.length : Int) - 1 ≤ _; omega)]) hv, ?_⟩
    rcases hs with rfl | ⟨h1, h2, h3, h4⟩
    · exact .inl rfl
    · refine .inr ⟨h1, h2, fun j hj1 hj2 => ?_⟩
      by_cases hji : j = i
      · subst hji
        intro c hc
        obtain ⟨p, hp, rfl⟩ := List.getElem_of_mem hc
        have := h4 p hp
        have e : rd (nodeAt G j).f1 p = (nodeAt G j).f1[p] := by
          unfold rd
          rw [List.getD_eq_getElem?_getD, show (p : Int).toNat = p by omega, List.getElem?_eq_getElem hp]
          rfl
        rw [e] at this
        omega
      · exact h3 j hj1 (by omega)
theorem ordered_ev (R : List RuleT) (G : List NodeT) (hR : R.length ≤ maxLen) (hG : G.length ≤ maxLen) (hk : ∀ i : Int, 0 ≤ i → i < (G.length : Int) → (nodeAt G i).f1.length ≤ maxLen) :
    ∃ v, Ev (fun k => vetchref05_Ordered.f k R G) v ∧ (v = true → (∀ i : Int, 0 ≤ i → i < (G.length : Int) → KidsOk G i) ∧ ∀ r : Int, 0 ≤ r → r < (R.length : Int) → 0 ≤ (ruleAt R r).f1 ∧ (ruleAt R r).f1 < (G.length : Int)) := by
  have hG' : G.length ≤ 9223372036854775807 := hG
  have hR' : R.length ≤ 9223372036854775807 := hR
  have loop : ∀ (n : Nat) (i b : Int), 0 ≤ i → i.toNat + n = R.length → -1 ≤ b → b < (G.length : Int) → (∀ j, 0 ≤ j → j ≤ b → KidsOk G j) → (∀ r, 0 ≤ r → r < i → 0 ≤ (ruleAt R r).f1 ∧ (ruleAt R r).f1 < (G.length : Int)) →
      ∃ v, Ev (fun k => vetchref05_Ordered.l0 k b i R G) v ∧ (v = true → (∀ i : Int, 0 ≤ i → i < (G.length : Int) → KidsOk G i) ∧ ∀ r : Int, 0 ≤ r → r < (R.length : Int) → 0 ≤ (ruleAt R r).f1 ∧ (ruleAt R r).f1 < (G.length : Int)) := by
    intro n
    induction n with
    | zero =>
      intro i b h0 hn hb1 hb2 hj hr
      refine ⟨b == wrap64 ((G.length : Int) - 1), Ev.succ (g := fun _ => some _) (fun k => by rw [vetchref05_Ordered.l0, if_neg (by omega)]) (Ev.const _), fun hv => ?_⟩
      have hb : b = (G.length : Int) - 1 := by
        have := beq_iff_eq.1 hv
        rwa [w64p _ (by omega)] at this
      exact ⟨fun j h1 h2 => hj j h1 (by omega), fun r h1 h2 => hr r h1 (by omega)⟩
    | succ n ih =>
      intro i b h0 hn hb1 hb2 hj hr
      by_cases c1 : (ruleAt R i).f1 ≤ b
      · exact ⟨false, Ev.succ (g := fun _ => some false) (fun k => by rw [vetchref05_Ordered.l0, if_pos (by omega), if_pos h0, if_pos c1]) (Ev.const _), fun h => absurd h (by decide)⟩
      by_cases c2 : (ruleAt R i).f1 ≥ (G.length : Int)
      · exact ⟨false, Ev.succ (g := fun _ => some false) (fun k => by rw [vetchref05_Ordered.l0, if_pos (by omega), if_pos h0, if_neg c1, if_pos c2]) (Ev.const _), fun h => absurd h (by decide)⟩
      obtain ⟨v, hv, hs⟩ := expr_ev R G hG hk G.length (ruleAt R i).f1 (by omega) (by omega)
      have step : ∀ k, vetchref05_Ordered.l0 (k + 1) b i R G = (vetchref05_Expression.f k R G (ruleAt R i).f1).bind fun t => if t = b then vetchref05_Ordered.l0 k (ruleAt R i).f1 (wrap64 (i + 1)) R G else some false := fun k => by
        rw [vetchref05_Ordered.l0, if_pos (by omega), if_pos h0, if_neg c1, if_neg c2]
      by_cases c3 : v = b
      · obtain ⟨u, hu, hus⟩ := ih (i + 1) (ruleAt R i).f1 (by omega) (by omega) (by omega) (by omega) (fun j h1 h2 => by
            by_cases hjb : j ≤ b
            · exact hj j h1 hjb
            · rcases hs with rfl | ⟨_, _, h5⟩
              · omega
              · exact h5 j (by omega) h2) (fun r h1 h2 => by
            by_cases hri : r = i
            · subst hri; omega
            · exact hr r h1 (by omega))
        refine ⟨u, Ev.succ step (Ev.bind hv (Ev.congr (fun k => if_pos c3) ?_)), hus⟩
        rw [w64p _ (by omega)]
        exact hu
      · exact ⟨false, Ev.succ step (Ev.bind hv (Ev.of_eq fun _ => if_neg c3)), fun h => absurd h (by decide)⟩
  obtain ⟨v, hv, hs⟩ := loop R.length 0 (-1) (by omega) (by simp) (by omega) (by omega) (fun j h1 h2 => absurd h2 (by omega)) (fun r h1 h2 => absurd h2 (by omega))
  exact ⟨v, hv, hs⟩
theorem depth_ev (R : List RuleT) (G : List NodeT) (hG : G.length ≤ maxLen) (hk : ∀ i : Int, 0 ≤ i → i < (G.length : Int) → (nodeAt G i).f1.length ≤ maxLen) (ho : ∀ i : Int, 0 ≤ i → i < (G.length : Int) → KidsOk G i) :
    ∀ (n : Nat) (i : Int), 0 ≤ i → i < (G.length : Int) → n ≤ 1000 → ∃ v, Ev (fun k => vetchref05_Depth.f k R G i (n : Int)) v := by
  intro n
  induction n with
  | zero =>
    intro i h0 h1 _
    refine ⟨wrap64 (0 + 1), Ev.succ (fun k => by rw [vetchref05_Depth.f]) (Ev.succ (g := fun _ => some _) (fun k => ?_) (Ev.const _))⟩
    rw [vetchref05_Depth.l0, if_pos h0, if_pos h1]
    split
    · rfl
    · rfl
  | succ n ih =>
    intro i h0 h1 hn
    have hkl : (nodeAt G i).f1.length ≤ 9223372036854775807 := hk i h0 h1
    have loop : ∀ (m : Nat) (j d : Int), 0 ≤ j → j.toNat + m = (nodeAt G i).f1.length → ∃ v, Ev (fun k => vetchref05_Depth.l0 k i ((n + 1 : Nat) : Int) d j R G) v := by
      intro m
      induction m with
      | zero =>
        intro j d hj hm
        exact ⟨wrap64 (d + 1), Ev.succ (g := fun _ => some _) (fun k => by rw [vetchref05_Depth.l0, if_pos h0, if_pos h1, if_neg (by show ¬ _ < ((nodeAt G i).f1.length : Int); omega)]) (Ev.const _)⟩
      | succ m ihm =>
        intro j d hj hm
        have hjl : j < ((nodeAt G i).f1.length : Int) := by omega
        have hmem : rd (nodeAt G i).f1 j ∈ (nodeAt G i).f1 := by
          have h : j.toNat < (nodeAt G i).f1.length := by omega
          unfold rd
          rw [List.getD_eq_getElem?_getD, List.getElem?_eq_getElem h]
          exact List.getElem_mem h
        have hc := ho i h0 h1 _ hmem
        obtain ⟨v, hv⟩ := ih (rd (nodeAt G i).f1 j) hc.1 (by omega) (by omega)
        obtain ⟨u, hu⟩ := ihm (j + 1) (mx d v) (by omega) (by omega)
        refine ⟨u, Ev.succ (g := fun k => (vetchref05_Depth.f k R G (rd (nodeAt G i).f1 j) (n : Int)).bind fun t => vetchref05_Depth.l0 k i ((n + 1 : Nat) : Int) (mx d t) (j + 1) R G) (fun k => ?_) (Ev.bind hv hu)⟩
        rw [vetchref05_Depth.l0, if_pos h0, if_pos h1, if_pos hjl, if_pos (by omega), if_pos hj, w64p (((n + 1 : Nat) : Int) - 1) (by omega), w64p (j + 1) (by omega), show ((n + 1 : Nat) : Int) - 1 = (n : Int) by omega]
    obtain ⟨v, hv⟩ := loop (nodeAt G i).f1.length 0 0 (by omega) (by simp)
    exact ⟨v, Ev.succ (fun k => by rw [vetchref05_Depth.f]) hv⟩
theorem check_ev (R : List RuleT) (G : List NodeT) (hR : R.length ≤ maxLen ∧ ∀ y ∈ R, Ok51 y) (hG : G.length ≤ maxLen ∧ ∀ y ∈ G, Ok56 y) :
    ∃ v, Ev (fun k => vetchref05_Check.f k R G) v ∧ (v.2.1 = 0 → WF R G) := by
  have hG' : G.length ≤ 9223372036854775807 := hG.1
  have hR' : R.length ≤ 9223372036854775807 := hR.1
  have memR : ∀ r : Int, 0 ≤ r → r < (R.length : Int) → ruleAt R r ∈ R := fun r h0 h1 => by
    have h : r.toNat < R.length := by omega
    show R.getD r.toNat _ ∈ R
    rw [List.getD_eq_getElem?_getD, List.getElem?_eq_getElem h]
    exact List.getElem_mem h
  have memG : ∀ r : Int, 0 ≤ r → r < (G.length : Int) → nodeAt G r ∈ G := fun r h0 h1 => by
    have h : r.toNat < G.length := by omega
    show G.getD r.toNat _ ∈ G
    rw [List.getD_eq_getElem?_getD, List.getElem?_eq_getElem h]
    exact List.getElem_mem h
  have hk : ∀ i : Int, 0 ≤ i → i < (G.length : Int) → (nodeAt G i).f1.length ≤ maxLen := fun i h0 h1 => (hG.2 _ (memG i h0 h1)).2.1.1
  have no : ∀ {f : Nat → Option (ByteArray × Int × Int)} {a : ByteArray} {c o : Int} {p : Prop}, c ≠ 0 → Ev f (a, c, o) → ∃ v, Ev f v ∧ (v.2.1 = 0 → p) := fun hc h => ⟨_, h, fun h' => absurd h' hc⟩
  have l3 : (∀ i : Int, 0 ≤ i → i < (G.length : Int) → KidsOk G i) → ∀ (n : Nat) (i : Int), 0 ≤ i → i.toNat + n = G.length → ∃ v, Ev (fun k => vetchref05_Check.l3 k i R G) v ∧ (v.2.1 = 0 → True) := by
    intro ho n
    induction n with
    | zero => exact fun i h0 hn => ⟨_, Ev.succ (g := fun _ => some _) (fun k => by rw [vetchref05_Check.l3, if_neg (by omega)]) (Ev.const _), fun _ => trivial⟩
    | succ n ih =>
      intro i h0 hn
      obtain ⟨d, hd⟩ := depth_ev R G hG.1 hk ho 205 i h0 (by omega) (by omega)
      have step : ∀ k, vetchref05_Check.l3 (k + 1) i R G = (vetchref05_Depth.f k R G i 205).bind fun t => if t > 200 then some ((⟨#[110, 111, 100, 101, 115]⟩ : ByteArray), 5, i) else vetchref05_Check.l3 k (wrap64 (i + 1)) R G := fun k => by rw [vetchref05_Check.l3, if_pos (by omega)]
      by_cases c : d > 200
      · exact ⟨_, Ev.succ step (Ev.bind hd (Ev.of_eq fun _ => if_pos c)), fun _ => trivial⟩
      · obtain ⟨v, hv, hs⟩ := ih (i + 1) (by omega) (by omega)
        refine ⟨v, Ev.succ step (Ev.bind hd (Ev.congr (fun k => if_neg c) ?_)), hs⟩
        rw [w64p _ (by omega)]
        exact hv
  have l2 : 0 < R.length → R.length ≤ 1000 → G.length ≤ 10000 → ∀ (n : Nat) (i : Int), 0 ≤ i → i.toNat + n = G.length → (∀ j : Int, 0 ≤ j → j < i → Made R.length (nodeAt G j)) → ∃ v, Ev (fun k => vetchref05_Check.l2 k i R G) v ∧ (v.2.1 = 0 → WF R G) := by
    intro hr1 hr2 hg n
    induction n with
    | zero =>
      intro i h0 hn hm
      obtain ⟨b, hb, hbs⟩ := ordered_ev R G hR.1 hG.1 hk
      have step : ∀ k, vetchref05_Check.l2 (k + 1) i R G = (vetchref05_Ordered.f k R G).bind fun t => if t = true then vetchref05_Check.l3 k 0 R G else some ((⟨#[]⟩ : ByteArray), 10, 0) := fun k => by rw [vetchref05_Check.l2, if_neg (by omega)]
      cases b with
      | false => exact no (by decide) (Ev.succ step (Ev.bind hb (Ev.of_eq fun _ => if_neg (by decide))))
      | true =>
        obtain ⟨hkids, hroots⟩ := hbs rfl
        obtain ⟨v, hv, _⟩ := l3 hkids G.length 0 (by omega) (by simp)
        refine ⟨v, Ev.succ step (Ev.bind hb (Ev.congr (fun k => if_pos rfl) hv)), fun _ => ⟨⟨hr1, hr2⟩, ⟨?_, hg⟩, fun j h1 h2 => hm j h1 (by omega), hkids, hroots⟩⟩
        have := hroots 0 (by omega) (by omega)
        omega
    | succ n ih =>
      intro i h0 hn hm
      obtain ⟨b, hb, hbs⟩ := made_ev R.length (nodeAt G i)
      have step : ∀ k, vetchref05_Check.l2 (k + 1) i R G = (vetchref05_Made.f k (nodeAt G i).f0 (nodeAt G i).f1 (nodeAt G i).f2 (nodeAt G i).f3.f0 (nodeAt G i).f3.f1 (nodeAt G i).f3.f2 (nodeAt G i).f3.f3 (R.length : Int)).bind fun t => if t = true then vetchref05_Check.l2 k (wrap64 (i + 1)) R G else some ((⟨#[110, 111, 100, 101, 115]⟩ : ByteArray), 10, i) := fun k => by rw [vetchref05_Check.l2, if_pos (by omega), if_pos h0]
      cases b with
      | false => exact no (by decide) (Ev.succ step (Ev.bind hb (Ev.of_eq fun _ => if_neg (by decide))))
      | true =>
        obtain ⟨v, hv, hs⟩ := ih (i + 1) (by omega) (by omega) (fun j h1 h2 => by
          by_cases hji : j = i
          · subst hji; exact hbs rfl
          · exact hm j h1 (by omega))
        refine ⟨v, Ev.succ step (Ev.bind hb (Ev.congr (fun k => if_pos rfl) ?_)), hs⟩
        rw [w64p _ (by omega)]
        exact hv
  have l0 : 0 < R.length → R.length ≤ 1000 → G.length ≤ 10000 → ∀ (n : Nat) (i : Int), 0 ≤ i → i.toNat + n = R.length → ∃ v, Ev (fun k => vetchref05_Check.l0 k i R G) v ∧ (v.2.1 = 0 → WF R G) := by
    intro hr1 hr2 hg n
    induction n with
    | zero =>
      intro i h0 hn
      obtain ⟨v, hv, hs⟩ := l2 hr1 hr2 hg G.length 0 (by omega) (by simp) (fun j h1 h2 => absurd h2 (by omega))
      exact ⟨v, Ev.succ (fun k => by rw [vetchref05_Check.l0, if_neg (by omega)]) hv, hs⟩
    | succ n ih =>
      intro i h0 hn
      have l1 : ∀ (m : Nat) (j : Int), 0 ≤ j → j ≤ i → j.toNat + m = i.toNat → ∃ v, Ev (fun k => vetchref05_Check.l1 k i j R G) v ∧ (v.2.1 = 0 → WF R G) := by
        intro m
        induction m with
        | zero =>
          intro j hj0 hj hm
          obtain ⟨v, hv, hs⟩ := ih (i + 1) (by omega) (by omega)
          refine ⟨v, Ev.succ (fun k => by rw [vetchref05_Check.l1, if_neg (by omega)]) ?_, hs⟩
          rw [w64p _ (by omega)]
          exact hv
        | succ m ihm =>
          intro j hj0 hj hm
          by_cases c : ((ruleAt R j).f0).toList = ((ruleAt R i).f0).toList
          · exact no (c := 10) (by decide) (Ev.succ (g := fun _ => some ((⟨#[114, 117, 108, 101, 115]⟩ : ByteArray), 10, i)) (fun k => by rw [vetchref05_Check.l1, if_pos (by omega), if_pos hj0, if_pos (by omega), if_pos h0, if_pos (by omega), if_pos c]) (Ev.const _))
          · obtain ⟨v, hv, hs⟩ := ihm (j + 1) (by omega) (by omega) (by omega)
            refine ⟨v, Ev.succ (fun k => by rw [vetchref05_Check.l1, if_pos (by omega), if_pos hj0, if_pos (by omega), if_pos h0, if_pos (by omega), if_neg c]) ?_, hs⟩
            rw [w64p _ (by omega)]
            exact hv
      obtain ⟨b, hb⟩ := name_ev (ruleAt R i).f0 (hR.2 _ (memR i h0 (by omega))).1
      have step : ∀ k, vetchref05_Check.l0 (k + 1) i R G = (vetchref04_Name.f k (ruleAt R i).f0).bind fun t => if t = true then vetchref05_Check.l1 k i 0 R G else some ((⟨#[114, 117, 108, 101, 115]⟩ : ByteArray), 10, i) := fun k => by rw [vetchref05_Check.l0, if_pos (by omega), if_pos h0]
      cases b with
      | false => exact no (by decide) (Ev.succ step (Ev.bind hb (Ev.of_eq fun _ => if_neg (by decide))))
      | true =>
        obtain ⟨v, hv, hs⟩ := l1 i.toNat 0 (by omega) h0 (by simp)
        exact ⟨v, Ev.succ step (Ev.bind hb (Ev.congr (fun k => if_pos rfl) hv)), hs⟩
  unfold vetchref05_Check.f
  by_cases c1 : (R.length : Int) > 1000
  · exact no (c := 4) (by decide) (Ev.congr (fun k => if_pos c1) (Ev.succ (g := fun _ => some ((⟨#[]⟩ : ByteArray), 4, 0)) (fun k => by rw [vetchref05_Check.j0, if_pos rfl]) (Ev.const _)))
  by_cases c2 : (G.length : Int) > 10000
  · exact no (c := 4) (by decide) (Ev.congr (fun k => if_neg c1) (Ev.succ (g := fun _ => some ((⟨#[]⟩ : ByteArray), 4, 0)) (fun k => by rw [vetchref05_Check.j0, if_pos (by simpa using c2)]) (Ev.const _)))
  by_cases c3 : (R.length : Int) = 0
  · exact no (c := 10) (by decide) (Ev.congr (fun k => if_neg c1) (Ev.succ (g := fun _ => some ((⟨#[114, 117, 108, 101, 115]⟩ : ByteArray), 10, 0)) (fun k => by rw [vetchref05_Check.j0, if_neg (by simpa using c2), if_pos c3]) (Ev.const _)))
  obtain ⟨v, hv, hs⟩ := l0 (by omega) (by omega) (by omega) R.length 0 (by omega) (by simp)
  exact ⟨v, Ev.congr (fun k => if_neg c1) (Ev.succ (fun k => by rw [vetchref05_Check.j0, if_neg (by simpa using c2), if_neg c3]) hv), hs⟩
theorem valid_ev (R : List RuleT) (G : List NodeT) (hR : R.length ≤ maxLen ∧ ∀ y ∈ R, Ok51 y) (hG : G.length ≤ maxLen ∧ ∀ y ∈ G, Ok56 y) :
    ∃ v, Ev (fun k => vetchref05_Valid.f k R G) v ∧ (v = true → WF R G) := by
  obtain ⟨v, hv, hs⟩ := check_ev R G hR hG
  exact ⟨v.2.1 == 0, Ev.bind hv (Ev.const _), fun h => hs (beq_iff_eq.1 h)⟩
end Go.Proofs.Ythgedejnpgcacaa.V
namespace Go.Proofs.Ythgedejnpgcacaa.V
open Go.RowKit Go.Proofs.YthgedejnpgcacaaW.PrintWords
set_option linter.unusedVariables false
theorem has_l0 : ∀ (n : Nat) (c v i : Int), 0 ≤ i → i.toNat + n = (c % 64).toNat → Ev (fun k => vetchref01_Has.l0 k c v i) (v / 2 ^ n % 2 == 1) := by
  intro n
  induction n with
  | zero =>
    intro c v i h0 hn
    exact Ev.succ (g := fun _ => some _) (fun k => by rw [vetchref01_Has.l0, if_neg (by omega), Int.pow_zero, Int.ediv_one]) (Ev.const _)
  | succ n ih =>
    intro c v i h0 hn
    have := ih c (v / 2) (i + 1) (by omega) (by omega)
    rw [Int.ediv_ediv_of_nonneg (by decide), show (2 : Int) * 2 ^ n = 2 ^ (n + 1) by rw [Int.pow_succ, Int.mul_comm]] at this
    exact Ev.succ (fun k => by rw [vetchref01_Has.l0, if_pos (by omega)]) this
theorem has_ev (s : S54) (hs : Ok54 s) (c : Int) (h0 : 0 ≤ c) (h1 : c ≤ 255) :
    ∃ b, byteset_Has.f s.f0 s.f1 s.f2 s.f3 c = some b ∧ Ev (fun k => vetchref01_Has.f k s.f0 s.f1 s.f2 s.f3 c) b := by
  obtain ⟨w0, w1, w2, w3⟩ := hs
  simp [Lit.wf, IntKind.min, IntKind.max, IntKind.signed, IntKind.bits] at w0 w1 w2 w3
  have hv : 0 ≤ arr4 s.f0 s.f1 s.f2 s.f3 (c / 64) ∧ arr4 s.f0 s.f1 s.f2 s.f3 (c / 64) ≤ 18446744073709551615 := by unfold arr4; repeat' split <;> omega
  generalize hvv : arr4 s.f0 s.f1 s.f2 s.f3 (c / 64) = v at hv
  have hl := has_l0 (c % 64).toNat c v 0 (by omega) (by omega)
  refine ⟨_, by unfold byteset_Has.f; rw [if_pos h0, if_pos h1, hvv], ?_⟩
  have e : (bits .and .u64 (v / 2 ^ (c % 64).toNat) 1 == 1) = (v / 2 ^ (c % 64).toNat % 2 == 1) := by
    have hp : (0 : Int) < 2 ^ (c % 64).toNat := Int.pow_pos (by decide)
    have h2 : 0 ≤ v / 2 ^ (c % 64).toNat := Int.ediv_nonneg hv.1 (by omega)
    have h3 : v / 2 ^ (c % 64).toNat ≤ v := Int.ediv_le_self _ hv.1
    generalize v / 2 ^ (c % 64).toNat = y at h2 h3
    obtain ⟨m, rfl⟩ := Int.eq_ofNat_of_zero_le h2
    have := bits_and_u64_nat m 1 (by omega) (by decide)
    rw [show ((1 : Nat) : Int) = 1 from rfl] at this
    rw [this, Nat.and_one_is_mod, Int.natCast_emod]
    rfl
  rw [e]
  exact Ev.congr (fun k => by unfold vetchref01_Has.f; rw [if_pos h0, if_pos h1, if_pos ⟨⟨w0.1, w0.2⟩, ⟨w1.1, w1.2⟩, ⟨w2.1, w2.2⟩, ⟨w3.1, w3.2⟩⟩, hvv]) hl
end Go.Proofs.Ythgedejnpgcacaa.V
namespace Go.Proofs.Ythgedejnpgcacaa.V
open Go.RowKit Go.Proofs.YthgedejnpgcacaaW.PrintWords
set_option linter.unusedVariables false
set_option linter.unusedSimpArgs false
set_option linter.unusedSectionVars false
structure Good (x : ByteArray) (a u : Int) (r : Bool × Int × Int) : Prop where
  known : r.1 = true → 0 ≤ r.2.2 ∧ r.2.2 ≤ u ∧ -1 ≤ r.2.1 ∧ r.2.1 ≤ (x.size : Int) ∧ (0 ≤ r.2.1 → a ≤ r.2.1)
  unk : r.1 = false → r.2.1 = 0 ∧ r.2.2 = 0
def Sim (x : ByteArray) (r : Bool × Int × Int) (q : Int × ByteArray × Int) : Prop := q.1 = (if r.1 = true then r.2.1 else -2) ∧ q.2.1 = x ∧ (r.1 = true → q.2.2 = r.2.2)
def NodeRel (R : List RuleT) (G : List NodeT) (x : ByteArray) (i a u : Int) : Prop :=
  ∃ r q, Ev (fun k => vetchref18_Node.f k R G i x a u) r ∧ Ev (fun k => naive_evaluator_node.f k R G x u i a) q ∧ Sim x r q ∧ Good x a (u - 1) r
section
variable {R : List RuleT} {G : List NodeT} {x : ByteArray} (hx : x.size ≤ 1000000) (hR : R.length ≤ 1000000) (hG : G.length ≤ 1000000) (hw : WF R G) (hok : ∀ y ∈ G, Ok56 y) (hkl : ∀ i : Int, 0 ≤ i → i < (G.length : Int) → (nodeAt G i).f1.length ≤ 9223372036854775807)
include hx hG hw hok hkl
theorem rd_in (xs : List Int) (j : Int) (h0 : 0 ≤ j) (h1 : j < (xs.length : Int)) : rd xs j ∈ xs := by
  have h : j.toNat < xs.length := by omega
  unfold rd
  rw [List.getD_eq_getElem?_getD, List.getElem?_eq_getElem h]
  exact List.getElem_mem h
omit hx hG hw hok hkl in
theorem rd_mem56 (G : List NodeT) (i : Int) (h0 : 0 ≤ i) (h1 : i < (G.length : Int)) : nodeAt G i ∈ G := by
  have h : i.toNat < G.length := by omega
  show G.getD i.toNat _ ∈ G
  rw [List.getD_eq_getElem?_getD, List.getElem?_eq_getElem h]
  exact List.getElem_mem h
omit hx hG hw hok hkl in
theorem good_weaken {a a' u u' : Int} {r : Bool × Int × Int} (h : Good x a u r) (ha : a' ≤ a) (hu : u ≤ u') : Good x a' u' r :=
  ⟨fun hk => by have := h.known hk; omega, h.unk⟩
theorem seq_rel (n : Int) (hn : n ≤ 1000000000) (ih : ∀ u, u ≤ n → ∀ i a, 0 ≤ i → i < (G.length : Int) → 0 ≤ a → a ≤ (x.size : Int) → NodeRel R G x i a u) (kids : List Int) (hk : ∀ c ∈ kids, 0 ≤ c ∧ c < (G.length : Int)) (hl : kids.length ≤ 9223372036854775807) :
    ∀ (m : Nat) (j : Int), 0 ≤ j → j.toNat + m = kids.length → ∀ a u, 0 ≤ u → u ≤ n → 0 ≤ a → a ≤ (x.size : Int) →
      ∃ r q, Ev (fun k => vetchref18_Node.seqF (fun c a u => vetchref18_Node.f k R G c x a u) (kids.drop j.toNat) a u) r ∧ Ev (fun k => naive_evaluator_seq.l0 k a kids (kids.length : Int) j R G x u) q ∧ Sim x r q ∧ Good x a u r := by
  intro m
  induction m with
  | zero =>
    intro j h0 hm a u hu0 hu ha0 ha
    refine ⟨(true, a, u), (a, x, u), Ev.of_eq fun k => by rw [List.drop_eq_nil_of_le (by omega), vetchref18_Node.seqF], Ev.succ (g := fun _ => some _) (fun k => by rw [naive_evaluator_seq.l0, if_neg (by omega)]) (Ev.const _), ⟨by simp, rfl, fun _ => rfl⟩, ⟨fun _ => ?_, fun h => absurd h (by simp)⟩⟩
    exact ⟨hu0, Int.le_refl _, by show -1 ≤ a; omega, ha, fun _ => Int.le_refl _⟩
  | succ m ihm =>
    intro j h0 hm a u hu0 hu ha0 ha
    have hj : j < (kids.length : Int) := by omega
    have hc := hk _ (rd_in hx hG hw hok hkl kids j h0 hj)
    obtain ⟨r, q, hr, hq, hs, hg⟩ := ih u hu (rd kids j) a hc.1 hc.2 ha0 ha
    obtain ⟨r1, r2, r3⟩ := r
    obtain ⟨q1, q2, q3⟩ := q
    obtain ⟨s1, s2, s3⟩ := hs
    dsimp only at s1 s2 s3
    subst s2
    have stepR : ∀ k, vetchref18_Node.seqF (fun c a u => vetchref18_Node.f k R G c q2 a u) (kids.drop j.toNat) a u = (vetchref18_Node.f k R G (rd kids j) q2 a u).bind fun r => if r.1 = true ∧ 0 ≤ r.2.1 then vetchref18_Node.seqF (fun c a u => vetchref18_Node.f k R G c q2 a u) (kids.drop (j + 1).toNat) r.2.1 r.2.2 else some r := fun k => by
      rw [h18_drop kids j h0 hj, vetchref18_Node.seqF]
    have stepQ : ∀ k, naive_evaluator_seq.l0 (k + 1) a kids (kids.length : Int) j R G q2 u = (naive_evaluator_node.f k R G q2 u (rd kids j) a).bind fun t => if t.1 < 0 then some (t.1, t.2.1, t.2.2) else naive_evaluator_seq.l0 k t.1 kids (kids.length : Int) (j + 1) R G t.2.1 t.2.2 := fun k => by
      rw [naive_evaluator_seq.l0, if_pos hj, if_pos h0, if_pos hj, w64p (j + 1) (by omega)]
    by_cases hc2 : r1 = true ∧ 0 ≤ r2
    · obtain ⟨rfl, hr2⟩ := hc2
      obtain ⟨g1, g2, g3, g4, g5⟩ := hg.known rfl
      dsimp only at g1 g2 g3 g4 g5
      obtain ⟨r', q', hr', hq', hs', hg'⟩ := ihm (j + 1) (by omega) (by omega) r2 r3 g1 (by omega) hr2 g4
      have e1 : q1 = r2 := by simpa using s1
      have e3 := s3 rfl
      subst e1 e3
      exact ⟨r', q', Ev.congr stepR (Ev.bind hr (Ev.congr (fun k => if_pos ⟨rfl, hr2⟩) hr')), Ev.succ stepQ (Ev.bind hq (Ev.congr (fun k => if_neg (by show ¬ q1 < 0; omega)) hq')), hs', good_weaken hg' (g5 hr2) (by omega)⟩
    · have hq0 : q1 < 0 := by
        rw [s1]
        split
        · rename_i h; have : ¬ 0 ≤ r2 := fun h2 => hc2 ⟨h, h2⟩; omega
        · omega
      exact ⟨(r1, r2, r3), (q1, q2, q3), Ev.congr stepR (Ev.bind hr (Ev.of_eq fun _ => if_neg hc2)), Ev.succ stepQ (Ev.bind hq (Ev.of_eq fun _ => if_pos hq0)), ⟨s1, rfl, s3⟩, good_weaken hg (Int.le_refl _) (by omega)⟩
theorem cho_rel (n : Int) (hn : n ≤ 1000000000) (ih : ∀ u, u ≤ n → ∀ i a, 0 ≤ i → i < (G.length : Int) → 0 ≤ a → a ≤ (x.size : Int) → NodeRel R G x i a u) (kids : List Int) (hk : ∀ c ∈ kids, 0 ≤ c ∧ c < (G.length : Int)) (hl : kids.length ≤ 9223372036854775807) (a : Int) (ha0 : 0 ≤ a) (ha : a ≤ (x.size : Int)) :
    ∀ (m : Nat) (j : Int), 0 ≤ j → j.toNat + m = kids.length → ∀ e u, 0 ≤ u → u ≤ n → e = -1 →
      ∃ r q, Ev (fun k => vetchref18_Node.choF (fun c u => vetchref18_Node.f k R G c x a u) (kids.drop j.toNat) e u) r ∧ Ev (fun k => naive_evaluator_choice.l0 k a kids (kids.length : Int) j R G x u) q ∧ Sim x r q ∧ Good x a u r := by
  intro m
  induction m with
  | zero =>
    intro j h0 hm e u hu0 hu he
    subst he
    refine ⟨(true, -1, u), (-1, x, u), Ev.of_eq fun k => by rw [List.drop_eq_nil_of_le (by omega), vetchref18_Node.choF], Ev.succ (g := fun _ => some _) (fun k => by rw [naive_evaluator_choice.l0, if_neg (by omega)]) (Ev.const _), ⟨by simp, rfl, fun _ => rfl⟩, ⟨fun _ => ?_, fun h => absurd h (by simp)⟩⟩
    exact ⟨hu0, Int.le_refl _, Int.le_refl _, by show (-1 : Int) ≤ _; omega, fun h => absurd h (by simp)⟩
  | succ m ihm =>
    intro j h0 hm e u hu0 hu he
    have hj : j < (kids.length : Int) := by omega
    have hc := hk _ (rd_in hx hG hw hok hkl kids j h0 hj)
    obtain ⟨r, q, hr, hq, hs, hg⟩ := ih u hu (rd kids j) a hc.1 hc.2 ha0 ha
    obtain ⟨r1, r2, r3⟩ := r
    obtain ⟨q1, q2, q3⟩ := q
    obtain ⟨s1, s2, s3⟩ := hs
    dsimp only at s1 s2 s3
    subst s2
    have stepR : ∀ k, vetchref18_Node.choF (fun c u => vetchref18_Node.f k R G c q2 a u) (kids.drop j.toNat) e u = (vetchref18_Node.f k R G (rd kids j) q2 a u).bind fun r => if r.1 = true ∧ r.2.1 < 0 then vetchref18_Node.choF (fun c u => vetchref18_Node.f k R G c q2 a u) (kids.drop (j + 1).toNat) r.2.1 r.2.2 else some r := fun k => by
      rw [h18_drop kids j h0 hj, vetchref18_Node.choF]
    have stepQ : ∀ k, naive_evaluator_choice.l0 (k + 1) a kids (kids.length : Int) j R G q2 u = (naive_evaluator_node.f k R G q2 u (rd kids j) a).bind fun t => if t.1 = (-1) then naive_evaluator_choice.l0 k a kids (kids.length : Int) (j + 1) R G t.2.1 t.2.2 else some (t.1, t.2.1, t.2.2) := fun k => by
      rw [naive_evaluator_choice.l0, if_pos hj, if_pos h0, if_pos hj, w64p (j + 1) (by omega)]
    by_cases hc2 : r1 = true ∧ r2 < 0
    · obtain ⟨rfl, hr2⟩ := hc2
      obtain ⟨g1, g2, g3, g4, g5⟩ := hg.known rfl
      dsimp only at g1 g2 g3 g4 g5
      have er : r2 = -1 := by omega
      subst er
      obtain ⟨r', q', hr', hq', hs', hg'⟩ := ihm (j + 1) (by omega) (by omega) (-1) r3 g1 (by omega) rfl
      have e1 : q1 = -1 := by simpa using s1
      have e3 := s3 rfl
      subst e1 e3
      exact ⟨r', q', Ev.congr stepR (Ev.bind hr (Ev.congr (fun k => if_pos ⟨rfl, hr2⟩) hr')), Ev.succ stepQ (Ev.bind hq (Ev.congr (fun k => if_pos rfl) hq')), hs', good_weaken hg' (Int.le_refl _) (by omega)⟩
    · have hq0 : q1 ≠ -1 := by
        rw [s1]
        split
        · rename_i h; have : ¬ r2 < 0 := fun h2 => hc2 ⟨h, h2⟩; omega
        · omega
      exact ⟨(r1, r2, r3), (q1, q2, q3), Ev.congr stepR (Ev.bind hr (Ev.of_eq fun _ => if_neg hc2)), Ev.succ stepQ (Ev.bind hq (Ev.of_eq fun _ => if_neg hq0)), ⟨s1, rfl, s3⟩, good_weaken hg (Int.le_refl _) (by omega)⟩
theorem rep_rel (n : Int) (hn : n ≤ 1000000000) (ih : ∀ u, u ≤ n → ∀ i a, 0 ≤ i → i < (G.length : Int) → 0 ≤ a → a ≤ (x.size : Int) → NodeRel R G x i a u) (c : Int) (hc0 : 0 ≤ c) (hc : c < (G.length : Int)) :
    ∀ (m : Nat) (u : Int), u.toNat = m → 0 ≤ u → u ≤ n → ∀ a, 0 ≤ a → a ≤ (x.size : Int) →
      ∃ r q, (∀ b last, Ev (fun k => vetchref18_Node.repF (fun a u => vetchref18_Node.f (k + b) R G c x a u) k last (true, a, u)) r) ∧ Ev (fun k => naive_evaluator_repeat.l0 k c a R G x u) q ∧ Sim x r q ∧ Good x a u r ∧ (r.1 = true → 0 ≤ r.2.1) := by
  intro m
  induction m using Nat.strongRecOn with
  | _ m ihm =>
  intro u hm hu0 hu a ha0 ha
  obtain ⟨r, q, hr, hq, hs, hg⟩ := ih u hu c a hc0 hc ha0 ha
  obtain ⟨r1, r2, r3⟩ := r
  obtain ⟨q1, q2, q3⟩ := q
  obtain ⟨s1, s2, s3⟩ := hs
  dsimp only at s1 s2 s3
  subst s2
  have stepR : ∀ b last k, vetchref18_Node.repF (fun a u => vetchref18_Node.f (k + 1 + b) R G c q2 a u) (k + 1) last (true, a, u) = (vetchref18_Node.f (k + (b + 1)) R G c q2 a u).bind fun t => vetchref18_Node.repF (fun a u => vetchref18_Node.f (k + (b + 1)) R G c q2 a u) k a t := fun b last k => by
    rw [vetchref18_Node.repF, if_pos ⟨rfl, ha0⟩, show k + 1 + b = k + (b + 1) by omega]
  have stepQ : ∀ k, naive_evaluator_repeat.l0 (k + 1) c a R G q2 u = (naive_evaluator_node.f k R G q2 u c a).bind fun t => if t.1 = (-1) then some (a, t.2.1, t.2.2) else if t.1 = (-2) then some ((-2), t.2.1, t.2.2) else naive_evaluator_repeat.l0 k c t.1 R G t.2.1 t.2.2 := fun k => by
    rw [naive_evaluator_repeat.l0]
  cases r1 with
  | false =>
    obtain ⟨u1, u2⟩ := hg.unk rfl
    dsimp only at u1 u2
    subst u1 u2
    have e1 : q1 = -2 := by simpa using s1
    subst e1
    refine ⟨(false, 0, 0), (-2, q2, q3), fun b last => Ev.succ (stepR b last) (Ev.bind (Ev.shift (b + 1) hr) ?_), Ev.succ stepQ (Ev.bind hq (Ev.of_eq fun _ => by rw [if_neg (by show ¬ (-2 : Int) = -1; decide), if_pos rfl])), ⟨by simp, rfl, fun h => absurd h (by simp)⟩, ⟨fun h => absurd h (by simp), fun _ => ⟨rfl, rfl⟩⟩, fun h => absurd h (by simp)⟩
    exact Ev.succ (g := fun _ => some (false, 0, 0)) (fun k => by rw [vetchref18_Node.repF, if_neg (by simp), if_neg (by simp)]) (Ev.const _)
  | true =>
    obtain ⟨g1, g2, g3, g4, g5⟩ := hg.known rfl
    dsimp only at g1 g2 g3 g4 g5
    have e1 : q1 = r2 := by simpa using s1
    have e3 := s3 rfl
    subst e1 e3
    by_cases hr2 : 0 ≤ q1
    · obtain ⟨r', q', hr', hq', hs', hg', hp'⟩ := ihm q3.toNat (by omega) q3 rfl g1 (by omega) q1 hr2 g4
      exact ⟨r', q', fun b last => Ev.succ (stepR b last) (Ev.bind (Ev.shift (b + 1) hr) (hr' (b + 1) a)), Ev.succ stepQ (Ev.bind hq (Ev.congr (fun k => by rw [if_neg (by show ¬ q1 = -1; omega), if_neg (by show ¬ q1 = -2; omega)]) hq')), hs', good_weaken hg' (g5 hr2) (by omega), hp'⟩
    · have e : q1 = -1 := by omega
      subst e
      refine ⟨(true, a, q3), (a, q2, q3), fun b last => Ev.succ (stepR b last) (Ev.bind (Ev.shift (b + 1) hr) ?_), Ev.succ stepQ (Ev.bind hq (Ev.of_eq fun _ => if_pos rfl)), ⟨by simp, rfl, fun _ => rfl⟩, ⟨fun _ => ⟨g1, by show q3 ≤ u; omega, by show -1 ≤ a; omega, ha, fun _ => Int.le_refl _⟩, fun h => absurd h (by simp)⟩, fun _ => ha0⟩
      exact Ev.succ (g := fun _ => some (true, a, q3)) (fun k => by rw [vetchref18_Node.repF, if_neg (by simp), if_pos rfl]) (Ev.const _)
theorem node_rel : ∀ (n : Nat) (u : Int), u ≤ n → u ≤ 100000000 → ∀ i a, 0 ≤ i → i < (G.length : Int) → 0 ≤ a → a ≤ (x.size : Int) → NodeRel R G x i a u := by
  intro n
  induction n with
  | zero =>
    intro u hu _ i a hi0 hi ha0 ha
    refine ⟨(false, 0, 0), (-2, x, u), Ev.succ (g := fun _ => some (false, 0, 0)) (fun k => by rw [vetchref18_Node.f, if_pos (by omega)]) (Ev.const _), Ev.succ (g := fun _ => some (-2, x, u)) (fun k => by rw [naive_evaluator_node.f, if_pos (by omega)]) (Ev.const _), ⟨by simp, rfl, fun h => absurd h (by simp)⟩, ⟨fun h => absurd h (by simp), fun _ => ⟨rfl, rfl⟩⟩⟩
  | succ n ih0 =>
    intro u hu hub i a hi0 hi ha0 ha
    by_cases hu1 : u < 1
    · exact ih0 u (by omega) hub i a hi0 hi ha0 ha
    have ih : ∀ u', u' ≤ u - 1 → ∀ i a, 0 ≤ i → i < (G.length : Int) → 0 ≤ a → a ≤ (x.size : Int) → NodeRel R G x i a u' := fun u' hu' => ih0 u' (by omega) (by omega)
    have hwr : wrap64 (u - 1) = u - 1 := w64p _ (by omega)
    obtain ⟨m0, m1, m2, m3, m4, m5, m6, m7, m8⟩ := hw.made i hi0 hi
    have hkids := hw.kids i hi0 hi
    have hkids' : ∀ c ∈ (nodeAt G i).f1, 0 ≤ c ∧ c < (G.length : Int) := fun c hc => by have := hkids c hc; omega
    have hl := hkl i hi0 hi
    have hn9 : u - 1 ≤ 1000000000 := by omega
    have unit : ∀ (e : Int), -1 ≤ e → e ≤ (x.size : Int) → (0 ≤ e → a ≤ e) → Sim x (true, e, u - 1) (e, x, u - 1) ∧ Good x a (u - 1) (true, e, u - 1) := fun e h1 h2 h3 =>
      ⟨⟨by simp, rfl, fun _ => rfl⟩, ⟨fun _ => ⟨by show 0 ≤ u - 1; omega, Int.le_refl _, h1, h2, h3⟩, fun h => absurd h (by simp)⟩⟩
    by_cases o0 : (nodeAt G i).f0 = 0
    · obtain ⟨h1, h2⟩ := unit a (by omega) ha (fun _ => Int.le_refl _)
      exact ⟨_, _, Ev.succ (g := fun _ => some (true, a, u - 1)) (fun k => by rw [vetchref18_Node.f, if_neg hu1, if_pos ⟨hi0, hi⟩, if_pos o0, hwr]) (Ev.const _), Ev.succ (g := fun _ => some (a, x, u - 1)) (fun k => by rw [naive_evaluator_node.f, if_neg hu1, if_pos hi0, if_pos hi, if_pos o0, hwr]) (Ev.const _), h1, h2⟩
    by_cases o1 : (nodeAt G i).f0 = 1
    · by_cases hlt : a < (x.size : Int)
      · have hset := (hok _ (rd_mem56 G i hi0 hi)).2.2.2
        obtain ⟨b, hb1, hb2⟩ := has_ev (nodeAt G i).f3 hset (bt x a) (bt_range x a).1 (bt_range x a).2
        have stepR : ∀ k, vetchref18_Node.f (k + 1) R G i x a u = (vetchref01_Has.f k (nodeAt G i).f3.f0 (nodeAt G i).f3.f1 (nodeAt G i).f3.f2 (nodeAt G i).f3.f3 (bt x a)).bind fun b => if b = true then some (true, a + 1, u - 1) else some (true, -1, u - 1) := fun k => by
          rw [vetchref18_Node.f, if_neg hu1, if_pos ⟨hi0, hi⟩, if_neg o0, if_pos o1, if_pos hlt, if_pos ha0, hwr, w64p (a + 1) (by omega)]
        have stepQ : ∀ k, naive_evaluator_node.f (k + 1) R G x u i a = if b = true then some (a + 1, x, u - 1) else some (-1, x, u - 1) := fun k => by
          rw [naive_evaluator_node.f, if_neg hu1, if_pos hi0, if_pos hi, if_neg o0, if_pos o1, if_pos hlt, if_pos ha0, hwr, w64p (a + 1) (by omega), hb1, Option.bind_some]
        cases b with
        | true =>
          obtain ⟨h1, h2⟩ := unit (a + 1) (by omega) (by omega) (fun _ => by omega)
          exact ⟨_, _, Ev.succ stepR (Ev.bind hb2 (Ev.of_eq fun _ => if_pos rfl)), Ev.succ stepQ (Ev.of_eq fun _ => if_pos rfl), h1, h2⟩
        | false =>
          obtain ⟨h1, h2⟩ := unit (-1) (by omega) (by omega) (fun h => absurd h (by decide))
          exact ⟨_, _, Ev.succ stepR (Ev.bind hb2 (Ev.of_eq fun _ => if_neg (by decide))), Ev.succ stepQ (Ev.of_eq fun _ => if_neg (by decide)), h1, h2⟩
      · obtain ⟨h1, h2⟩ := unit (-1) (by omega) (by omega) (fun h => absurd h (by decide))
        exact ⟨_, _, Ev.succ (g := fun _ => some (true, -1, u - 1)) (fun k => by rw [vetchref18_Node.f, if_neg hu1, if_pos ⟨hi0, hi⟩, if_neg o0, if_pos o1, if_neg hlt, hwr]) (Ev.const _), Ev.succ (g := fun _ => some (-1, x, u - 1)) (fun k => by rw [naive_evaluator_node.f, if_neg hu1, if_pos hi0, if_pos hi, if_neg o0, if_pos o1, if_neg hlt, hwr]) (Ev.const _), h1, h2⟩
    by_cases o2 : (nodeAt G i).f0 = 2
    · obtain ⟨p0, p1⟩ := m6 o2
      have hroot := hw.roots _ p0 p1
      obtain ⟨r, q, hr, hq, hs, hg⟩ := ih (u - 1) (Int.le_refl _) (ruleAt R (nodeAt G i).f2).f1 a hroot.1 hroot.2 ha0 ha
      exact ⟨r, q, Ev.succ (fun k => by rw [vetchref18_Node.f, if_neg hu1, if_pos ⟨hi0, hi⟩, if_neg o0, if_neg o1, if_pos o2, if_pos ⟨p0, p1⟩, hwr]) hr, Ev.succ (g := fun k => (naive_evaluator_node.f k R G x (u - 1) (ruleAt R (nodeAt G i).f2).f1 a).bind fun t => some (t.1, t.2.1, t.2.2)) (fun k => by rw [naive_evaluator_node.f, if_neg hu1, if_pos hi0, if_pos hi, if_neg o0, if_neg o1, if_pos o2, if_pos p0, if_pos p1, hwr]) (Ev.bind hq (Ev.const _)), hs, good_weaken hg (Int.le_refl _) (by omega)⟩
    by_cases o3 : (nodeAt G i).f0 = 3
    · obtain ⟨r, q, hr, hq, hs, hg⟩ := seq_rel hx hG hw hok hkl (u - 1) hn9 ih (nodeAt G i).f1 hkids' hl (nodeAt G i).f1.length 0 (Int.le_refl _) (by simp) a (u - 1) (by omega) (Int.le_refl _) ha0 ha
      refine ⟨r, q, Ev.succ (fun k => by rw [vetchref18_Node.f, if_neg hu1, if_pos ⟨hi0, hi⟩, if_neg o0, if_neg o1, if_neg o2, if_pos o3, hwr]; rfl) hr, Ev.succ (g := fun k => (naive_evaluator_seq.f k R G x (u - 1) (nodeAt G i).f1 a).bind fun t => some (t.1, t.2.1, t.2.2)) (fun k => by rw [naive_evaluator_node.f, if_neg hu1, if_pos hi0, if_pos hi, if_neg o0, if_neg o1, if_neg o2, if_pos o3, hwr]) (Ev.bind (Ev.succ (fun k => by rw [naive_evaluator_seq.f]) hq) (Ev.const _)), hs, hg⟩
    by_cases o4 : (nodeAt G i).f0 = 4
    · obtain ⟨r, q, hr, hq, hs, hg⟩ := cho_rel hx hG hw hok hkl (u - 1) hn9 ih (nodeAt G i).f1 hkids' hl a ha0 ha (nodeAt G i).f1.length 0 (Int.le_refl _) (by simp) (-1) (u - 1) (by omega) (Int.le_refl _) rfl
      refine ⟨r, q, Ev.succ (fun k => by rw [vetchref18_Node.f, if_neg hu1, if_pos ⟨hi0, hi⟩, if_neg o0, if_neg o1, if_neg o2, if_neg o3, if_pos o4, hwr]; rfl) hr, Ev.succ (g := fun k => (naive_evaluator_choice.f k R G x (u - 1) (nodeAt G i).f1 a).bind fun t => some (t.1, t.2.1, t.2.2)) (fun k => by rw [naive_evaluator_node.f, if_neg hu1, if_pos hi0, if_pos hi, if_neg o0, if_neg o1, if_neg o2, if_neg o3, if_pos o4, hwr]) (Ev.bind (Ev.succ (fun k => by rw [naive_evaluator_choice.f]) hq) (Ev.const _)), hs, hg⟩
    have hop5 : 5 ≤ (nodeAt G i).f0 := by omega
    have hlen := m5 hop5
    have hne : (nodeAt G i).f1 ≠ [] := fun h => by rw [h] at hlen; simp at hlen
    have hl0 : (0 : Int) < ((nodeAt G i).f1.length : Int) := by omega
    have hkid := hkids' _ (rd_in hx hG hw hok hkl (nodeAt G i).f1 0 (Int.le_refl _) hl0)
    obtain ⟨r, q, hr, hq, hs, hg⟩ := ih (u - 1) (Int.le_refl _) (rd (nodeAt G i).f1 0) a hkid.1 hkid.2 ha0 ha
    obtain ⟨r1, r2, r3⟩ := r
    obtain ⟨q1, q2, q3⟩ := q
    have hsim := hs
    obtain ⟨s1, s2, s3⟩ := hs
    dsimp only at s1 s2 s3
    subst s2
    have stepR : ∀ k, vetchref18_Node.f (k + 1) R G i q2 a u = (vetchref18_Node.f k R G (rd (nodeAt G i).f1 0) q2 a (u - 1)).bind fun r =>
        if r.1 = false then some r else
        if (nodeAt G i).f0 = 7 then (if r.2.1 < 0 then some (true, a, r.2.2) else some r) else
        if (nodeAt G i).f0 = 8 then (if r.2.1 < 0 then some r else some (true, a, r.2.2)) else
        if (nodeAt G i).f0 = 9 then (if r.2.1 < 0 then some (true, a, r.2.2) else some (true, -1, r.2.2)) else
        if r.2.1 < 0 ∧ (nodeAt G i).f0 = 6 then some r else vetchref18_Node.repF (fun a u => vetchref18_Node.f k R G (rd (nodeAt G i).f1 0) q2 a u) k a r := fun k => by
      rw [vetchref18_Node.f, if_neg hu1, if_pos ⟨hi0, hi⟩, if_neg o0, if_neg o1, if_neg o2, if_neg o3, if_neg o4, if_neg hne, hwr]
    have stepN : ∀ {v}, Ev (fun k => naive_evaluator_unary.f k R G q2 (u - 1) (nodeAt G i).f0 (nodeAt G i).f1 (nodeAt G i).f2 (nodeAt G i).f3.f0 (nodeAt G i).f3.f1 (nodeAt G i).f3.f2 (nodeAt G i).f3.f3 a) v → Ev (fun k => naive_evaluator_node.f k R G q2 u i a) v := fun hv =>
      Ev.succ (g := fun k => (naive_evaluator_unary.f k R G q2 (u - 1) (nodeAt G i).f0 (nodeAt G i).f1 (nodeAt G i).f2 (nodeAt G i).f3.f0 (nodeAt G i).f3.f1 (nodeAt G i).f3.f2 (nodeAt G i).f3.f3 a).bind fun t => some (t.1, t.2.1, t.2.2)) (fun k => by rw [naive_evaluator_node.f, if_neg hu1, if_pos hi0, if_pos hi, if_neg o0, if_neg o1, if_neg o2, if_neg o3, if_neg o4, hwr]) (Ev.bind hv (Ev.const _))
    have stepRep : ∀ k, naive_evaluator_repeat.l0 (k + 1) (rd (nodeAt G i).f1 0) a R G q2 (u - 1) = (naive_evaluator_node.f k R G q2 (u - 1) (rd (nodeAt G i).f1 0) a).bind fun t => if t.1 = (-1) then some (a, t.2.1, t.2.2) else if t.1 = (-2) then some ((-2), t.2.1, t.2.2) else naive_evaluator_repeat.l0 k (rd (nodeAt G i).f1 0) t.1 R G t.2.1 t.2.2 := fun k => by
      rw [naive_evaluator_repeat.l0]
    have un5 : ∀ {v}, (nodeAt G i).f0 = 5 → Ev (fun k => naive_evaluator_repeat.l0 k (rd (nodeAt G i).f1 0) a R G q2 (u - 1)) v → Ev (fun k => naive_evaluator_unary.f k R G q2 (u - 1) (nodeAt G i).f0 (nodeAt G i).f1 (nodeAt G i).f2 (nodeAt G i).f3.f0 (nodeAt G i).f3.f1 (nodeAt G i).f3.f2 (nodeAt G i).f3.f3 a) v := fun o5 hv =>
      Ev.succ (g := fun k => (naive_evaluator_repeat.f k R G q2 (u - 1) (rd (nodeAt G i).f1 0) a).bind fun t => some (t.1, t.2.1, t.2.2)) (fun k => by rw [naive_evaluator_unary.f, if_pos o5, if_pos hl0]) (Ev.bind (Ev.succ (fun k => by rw [naive_evaluator_repeat.f]) hv) (Ev.const _))
    have un : (nodeAt G i).f0 ≠ 5 → ∀ k, naive_evaluator_unary.f (k + 1) R G q2 (u - 1) (nodeAt G i).f0 (nodeAt G i).f1 (nodeAt G i).f2 (nodeAt G i).f3.f0 (nodeAt G i).f3.f1 (nodeAt G i).f3.f2 (nodeAt G i).f3.f3 a = (naive_evaluator_node.f k R G q2 (u - 1) (rd (nodeAt G i).f1 0) a).bind fun t =>
        if t.1 = (-2) then some ((-2), t.2.1, t.2.2) else if (nodeAt G i).f0 = 6 then (if t.1 = (-1) then some ((-1), t.2.1, t.2.2) else ((naive_evaluator_repeat.f k R G t.2.1 t.2.2 (rd (nodeAt G i).f1 0) t.1).bind fun t => some (t.1, t.2.1, t.2.2))) else
        if (nodeAt G i).f0 = 7 then some (mx t.1 a, t.2.1, t.2.2) else if (nodeAt G i).f0 = 8 then (if t.1 = (-1) then some ((-1), t.2.1, t.2.2) else some (a, t.2.1, t.2.2)) else (if t.1 = (-1) then some (a, t.2.1, t.2.2) else some ((-1), t.2.1, t.2.2)) := fun h5 k => by
      rw [naive_evaluator_unary.f, if_neg h5, if_pos hl0]
    cases r1 with
    | false =>
      obtain ⟨u1, u2⟩ := hg.unk rfl
      dsimp only at u1 u2
      subst u1 u2
      have e1 : q1 = -2 := by simpa using s1
      subst e1
      refine ⟨(false, 0, 0), (-2, q2, q3), Ev.succ stepR (Ev.bind hr (Ev.of_eq fun _ => if_pos rfl)), stepN ?_, hsim, ⟨fun h => absurd h (by simp), fun _ => ⟨rfl, rfl⟩⟩⟩
      by_cases o5 : (nodeAt G i).f0 = 5
      · exact un5 o5 (Ev.succ stepRep (Ev.bind hq (Ev.of_eq fun _ => by rw [if_neg (by show ¬ (-2 : Int) = -1; decide), if_pos rfl])))
      · exact Ev.succ (un o5) (Ev.bind hq (Ev.of_eq fun _ => if_pos rfl))
    | true =>
      obtain ⟨g1, g2, g3, g4, g5⟩ := hg.known rfl
      dsimp only at g1 g2 g3 g4 g5
      have e1 : q1 = r2 := by simpa using s1
      have e3 := s3 rfl
      subst e1 e3
      have fin : ∀ (e : Int), -1 ≤ e → e ≤ (q2.size : Int) → (0 ≤ e → a ≤ e) → Sim q2 (true, e, q3) (e, q2, q3) ∧ Good q2 a (u - 1) (true, e, q3) := fun e h1 h2 h3 =>
        ⟨⟨by simp, rfl, fun _ => rfl⟩, ⟨fun _ => ⟨g1, by show q3 ≤ u - 1; omega, h1, h2, h3⟩, fun h => absurd h (by simp)⟩⟩
      by_cases o7 : (nodeAt G i).f0 = 7
      · have n5 : (nodeAt G i).f0 ≠ 5 := by omega
        by_cases he : q1 < 0
        · have e : q1 = -1 := by omega
          subst e
          obtain ⟨h1, h2⟩ := fin a (by omega) ha (fun _ => Int.le_refl _)
          exact ⟨_, _, Ev.succ stepR (Ev.bind hr (Ev.of_eq fun _ => by rw [if_neg (by simp), if_pos o7, if_pos he])), stepN (Ev.succ (un n5) (Ev.bind hq (Ev.of_eq fun _ => by rw [if_neg (by show ¬ (-1 : Int) = -2; decide), if_neg (by omega), if_pos o7, show mx (-1) a = a by unfold mx; split <;> omega]))), h1, h2⟩
        · obtain ⟨h1, h2⟩ := fin q1 g3 g4 g5
          exact ⟨_, _, Ev.succ stepR (Ev.bind hr (Ev.of_eq fun _ => by rw [if_neg (by simp), if_pos o7, if_neg he])), stepN (Ev.succ (un n5) (Ev.bind hq (Ev.of_eq fun _ => by rw [if_neg (by show ¬ q1 = -2; omega), if_neg (by omega), if_pos o7, show mx q1 a = q1 by have := g5 (by omega); unfold mx; split <;> omega]))), h1, h2⟩
      by_cases o8 : (nodeAt G i).f0 = 8
      · have n5 : (nodeAt G i).f0 ≠ 5 := by omega
        by_cases he : q1 < 0
        · have e : q1 = -1 := by omega
          subst e
          obtain ⟨h1, h2⟩ := fin (-1) (by omega) (by omega) (fun h => absurd h (by decide))
          exact ⟨_, _, Ev.succ stepR (Ev.bind hr (Ev.of_eq fun _ => by rw [if_neg (by simp), if_neg o7, if_pos o8, if_pos he])), stepN (Ev.succ (un n5) (Ev.bind hq (Ev.of_eq fun _ => by rw [if_neg (by show ¬ (-1 : Int) = -2; decide), if_neg (by omega), if_neg o7, if_pos o8, if_pos rfl]))), h1, h2⟩
        · obtain ⟨h1, h2⟩ := fin a (by omega) ha (fun _ => Int.le_refl _)
          exact ⟨_, _, Ev.succ stepR (Ev.bind hr (Ev.of_eq fun _ => by rw [if_neg (by simp), if_neg o7, if_pos o8, if_neg he])), stepN (Ev.succ (un n5) (Ev.bind hq (Ev.of_eq fun _ => by rw [if_neg (by show ¬ q1 = -2; omega), if_neg (by omega), if_neg o7, if_pos o8, if_neg (by show ¬ q1 = -1; omega)]))), h1, h2⟩
      by_cases o9 : (nodeAt G i).f0 = 9
      · have n5 : (nodeAt G i).f0 ≠ 5 := by omega
        by_cases he : q1 < 0
        · have e : q1 = -1 := by omega
          subst e
          obtain ⟨h1, h2⟩ := fin a (by omega) ha (fun _ => Int.le_refl _)
          exact ⟨_, _, Ev.succ stepR (Ev.bind hr (Ev.of_eq fun _ => by rw [if_neg (by simp), if_neg o7, if_neg o8, if_pos o9, if_pos he])), stepN (Ev.succ (un n5) (Ev.bind hq (Ev.of_eq fun _ => by rw [if_neg (by show ¬ (-1 : Int) = -2; decide), if_neg (by omega), if_neg o7, if_neg o8, if_pos rfl]))), h1, h2⟩
        · obtain ⟨h1, h2⟩ := fin (-1) (by omega) (by omega) (fun h => absurd h (by decide))
          exact ⟨_, _, Ev.succ stepR (Ev.bind hr (Ev.of_eq fun _ => by rw [if_neg (by simp), if_neg o7, if_neg o8, if_pos o9, if_neg he])), stepN (Ev.succ (un n5) (Ev.bind hq (Ev.of_eq fun _ => by rw [if_neg (by show ¬ q1 = -2; omega), if_neg (by omega), if_neg o7, if_neg o8, if_neg (by show ¬ q1 = -1; omega)]))), h1, h2⟩
      by_cases he : q1 < 0
      · have e : q1 = -1 := by omega
        subst e
        by_cases o5 : (nodeAt G i).f0 = 5
        · obtain ⟨h1, h2⟩ := fin a (by omega) ha (fun _ => Int.le_refl _)
          exact ⟨_, _, Ev.succ stepR (Ev.bind hr (Ev.succ (g := fun _ => some (true, a, q3)) (fun k => by rw [if_neg (by simp), if_neg o7, if_neg o8, if_neg o9, if_neg (by omega), vetchref18_Node.repF, if_neg (by simp), if_pos rfl]) (Ev.const _))), stepN (un5 o5 (Ev.succ stepRep (Ev.bind hq (Ev.of_eq fun _ => if_pos rfl)))), h1, h2⟩
        · obtain ⟨h1, h2⟩ := fin (-1) (by omega) (by omega) (fun h => absurd h (by decide))
          have o6 : (nodeAt G i).f0 = 6 := by omega
          exact ⟨_, _, Ev.succ stepR (Ev.bind hr (Ev.of_eq fun _ => by rw [if_neg (by simp), if_neg o7, if_neg o8, if_neg o9, if_pos ⟨he, o6⟩])), stepN (Ev.succ (un o5) (Ev.bind hq (Ev.of_eq fun _ => by rw [if_neg (by show ¬ (-1 : Int) = -2; decide), if_pos o6, if_pos rfl]))), h1, h2⟩
      · obtain ⟨r', q', hr', hq', hs', hg', hp'⟩ := rep_rel hx hG hw hok hkl (u - 1) hn9 ih (rd (nodeAt G i).f1 0) hkid.1 hkid.2 q3.toNat q3 rfl g1 (by omega) q1 (by omega) g4
        have hgood := good_weaken hg' (g5 (by omega)) (show q3 ≤ u - 1 by omega)
        have hrr := hr' 0 a
        refine ⟨r', q', Ev.succ stepR (Ev.bind hr (Ev.congr (fun k => by rw [if_neg (by simp), if_neg o7, if_neg o8, if_neg o9, if_neg (fun h_ => he h_.1)]; rfl) hrr)), stepN ?_, hs', hgood⟩
        by_cases o5 : (nodeAt G i).f0 = 5
        · exact un5 o5 (Ev.succ stepRep (Ev.bind hq (Ev.congr (fun k => by rw [if_neg (by show ¬ q1 = -1; omega), if_neg (by show ¬ q1 = -2; omega)]) hq')))
        · have o6 : (nodeAt G i).f0 = 6 := by omega
          exact Ev.succ (un o5) (Ev.bind hq (Ev.congr (fun k => by rw [if_neg (by show ¬ q1 = -2; omega), if_pos o6, if_neg (by show ¬ q1 = -1; omega)]) (Ev.bind (Ev.succ (fun k => by rw [naive_evaluator_repeat.f]) hq') (Ev.const _))))
end
end Go.Proofs.Ythgedejnpgcacaa.V
namespace Go.Proofs.Ythgedejnpgcacaa.V
open Go.RowKit Go.Proofs.YthgedejnpgcacaaW.PrintWords
set_option linter.unusedVariables false
set_option linter.unusedSimpArgs false
set_option linter.unusedSectionVars false
set_option maxRecDepth 100000 in
theorem awake_ev : Ev (fun k => vetchlaw18_awake.f k) true := Ev.of_mono (k := 40) (fun k => vetchlaw18_awake.mono k) (by kernel_rfl)
theorem few_ev (R : List RuleT) (G : List NodeT) (hR : R.length ≤ maxLen) (hG : G.length ≤ maxLen) : ∃ v, Ev (fun k => vetchref05_Few.f k R G) v ∧ (v = true → R.length ≤ 30 ∧ G.length ≤ 300) := by
  have hG' : G.length ≤ 9223372036854775807 := hG
  have hR' : R.length ≤ 9223372036854775807 := hR
  have l1 : ∀ (n : Nat) (i : Int), 0 ≤ i → i.toNat + n = G.length → ∃ v, Ev (fun k => vetchref05_Few.l1 k i R G) v ∧ (v = true → R.length ≤ 30 ∧ G.length ≤ 300) := by
    intro n
    induction n with
    | zero =>
      intro i h0 hn
      by_cases c : (R.length : Int) ≤ 30
      · exact ⟨_, Ev.succ (g := fun _ => some (decide ((G.length : Int) ≤ 300))) (fun k => by rw [vetchref05_Few.l1, if_neg (by omega), if_pos c]) (Ev.const _), fun h => ⟨by omega, by have := of_decide_eq_true h; omega⟩⟩
      · exact ⟨false, Ev.succ (g := fun _ => some false) (fun k => by rw [vetchref05_Few.l1, if_neg (by omega), if_neg c]) (Ev.const _), fun h => absurd h (by decide)⟩
    | succ n ih =>
      intro i h0 hn
      by_cases c : (((nodeAt G i).f1).length : Int) > 60
      · exact ⟨false, Ev.succ (g := fun _ => some false) (fun k => by rw [vetchref05_Few.l1, if_pos (by omega), if_pos h0, if_pos c]) (Ev.const _), fun h => absurd h (by decide)⟩
      · obtain ⟨v, hv, hs⟩ := ih (i + 1) (by omega) (by omega)
        refine ⟨v, Ev.succ (fun k => by rw [vetchref05_Few.l1, if_pos (by omega), if_pos h0, if_neg c]) ?_, hs⟩
        rw [w64p _ (by omega)]
        exact hv
  have l0 : ∀ (n : Nat) (i : Int), 0 ≤ i → i.toNat + n = R.length → ∃ v, Ev (fun k => vetchref05_Few.l0 k i R G) v ∧ (v = true → R.length ≤ 30 ∧ G.length ≤ 300) := by
    intro n
    induction n with
    | zero =>
      intro i h0 hn
      obtain ⟨v, hv, hs⟩ := l1 G.length 0 (Int.le_refl _) (by simp)
      exact ⟨v, Ev.succ (fun k => by rw [vetchref05_Few.l0, if_neg (by omega)]) hv, hs⟩
    | succ n ih =>
      intro i h0 hn
      by_cases c : (((ruleAt R i).f0).size : Int) > 100
      · exact ⟨false, Ev.succ (g := fun _ => some false) (fun k => by rw [vetchref05_Few.l0, if_pos (by omega), if_pos h0, if_pos c]) (Ev.const _), fun h => absurd h (by decide)⟩
      · obtain ⟨v, hv, hs⟩ := ih (i + 1) (by omega) (by omega)
        refine ⟨v, Ev.succ (fun k => by rw [vetchref05_Few.l0, if_pos (by omega), if_pos h0, if_neg c]) ?_, hs⟩
        rw [w64p _ (by omega)]
        exact hv
  obtain ⟨v, hv, hs⟩ := l0 R.length 0 (Int.le_refl _) (by simp)
  exact ⟨v, hv, hs⟩
section
variable {R : List RuleT} {G : List NodeT} (hR : R.length ≤ maxLen ∧ ∀ y ∈ R, Ok51 y) (hG : G.length ≤ maxLen ∧ ∀ y ∈ G, Ok56 y)
include hR hG
theorem small_ev : ∃ v, Ev (fun k => vetchref05_Small.f k R G) v ∧ (v = true → WF R G ∧ R.length ≤ 30 ∧ G.length ≤ 300) := by
  obtain ⟨b, hb, hbs⟩ := few_ev R G hR.1 hG.1
  cases b with
  | false => exact ⟨false, Ev.bind hb (Ev.of_eq fun _ => if_neg (by decide)), fun h => absurd h (by decide)⟩
  | true =>
    obtain ⟨v, hv, hs⟩ := valid_ev R G hR hG
    exact ⟨v, Ev.bind hb (Ev.congr (fun k => if_pos rfl) (Ev.bind hv (Ev.const _))), fun h => ⟨hs h, hbs rfl⟩⟩
theorem fits_ev (x : ByteArray) (u : Int) : ∃ v, Ev (fun k => vetchlaw18_fits.f k R G x u) v ∧ (v = true → WF R G ∧ R.length ≤ 30 ∧ G.length ≤ 300 ∧ x.size ≤ 60 ∧ u ≤ 5000) := by
  obtain ⟨b, hb, hbs⟩ := small_ev hR hG
  cases b with
  | false => exact ⟨false, Ev.bind hb (Ev.of_eq fun _ => if_neg (by decide)), fun h => absurd h (by decide)⟩
  | true =>
    obtain ⟨h1, h2, h3⟩ := hbs rfl
    by_cases c : (x.size : Int) ≤ 60
    · exact ⟨_, Ev.bind hb (Ev.of_eq (v := decide (u ≤ 5000)) fun _ => by rw [if_pos rfl, if_pos c]), fun h => ⟨h1, h2, h3, by omega, of_decide_eq_true h⟩⟩
    · exact ⟨false, Ev.bind hb (Ev.of_eq fun _ => by rw [if_pos rfl, if_neg c]), fun h => absurd h (by decide)⟩
theorem kids_le (hw : WF R G) : ∀ i : Int, 0 ≤ i → i < (G.length : Int) → (nodeAt G i).f1.length ≤ 9223372036854775807 := fun i h0 h1 => (hG.2 _ (rd_mem56 G i h0 h1)).2.1.1
theorem node_ev {x : ByteArray} (hx : x.size ≤ 1000000) (hw : WF R G) (u : Int) (hu : u ≤ 100000000) (i a : Int) (hi0 : 0 ≤ i) (hi : i < (G.length : Int)) (ha0 : 0 ≤ a) (ha : a ≤ (x.size : Int)) :
    ∃ r, Ev (fun k => vetchref18_Node.f k R G i x a u) r ∧ Ev (fun k => naive_Node.f k R G i x a u) r ∧ Good x a (u - 1) r := by
  obtain ⟨r, q, hr, hq, hs, hg⟩ := node_rel hx (by have := hw.nodes; omega) hw hG.2 (kids_le hR hG hw) u.toNat u (by omega) hu i a hi0 hi ha0 ha
  refine ⟨r, hr, Ev.bind hq (Ev.of_eq fun _ => ?_), hg⟩
  obtain ⟨r1, r2, r3⟩ := r
  obtain ⟨q1, q2, q3⟩ := q
  obtain ⟨s1, s2, s3⟩ := hs
  dsimp only at s1 s2 s3 ⊢
  cases r1 with
  | false =>
    obtain ⟨u1, u2⟩ := hg.unk rfl
    dsimp only at u1 u2
    have s1' : q1 = -2 := by simpa using s1
    rw [u1, u2, s1', if_pos rfl]
  | true =>
    obtain ⟨g1, g2, g3, g4, g5⟩ := hg.known rfl
    dsimp only at g1 g2 g3 g4 g5
    have s1' : q1 = r2 := by simpa using s1
    rw [s1', if_neg (by omega), s3 rfl]
theorem run_ev {x : ByteArray} (hx : x.size ≤ 1000000) (hw : WF R G) (u : Int) (hu : u ≤ 100000000) :
    ∃ r, Ev (fun k => vetchref18_Node.f k R G (ruleAt R 0).f1 x 0 u) r ∧ Ev (fun k => naive_Run.f k R G x u) r ∧ Good x 0 (u - 1) r := by
  have h0 : (0 : Int) < (R.length : Int) := by have := hw.rules; omega
  have hr := hw.roots 0 (Int.le_refl _) h0
  obtain ⟨r, h1, h2, h3⟩ := node_ev hR hG hx hw u hu (ruleAt R 0).f1 0 hr.1 hr.2 (Int.le_refl _) (by omega)
  exact ⟨r, h1, Ev.congr (fun k => by unfold naive_Run.f; rw [if_pos h0]) (Ev.bind (g := fun _ t => some (t.1, t.2.1, t.2.2)) h2 (Ev.const _)), h3⟩
end
end Go.Proofs.Ythgedejnpgcacaa.V
namespace Go.Proofs.Ythgedejnpgcacaa.V
open Go.RowKit Go.Proofs.YthgedejnpgcacaaW.PrintWords
set_option linter.unusedVariables false
set_option linter.unusedSectionVars false
inductive Task
  | node (i : Int)
  | seq (cs : List Int)
  | cho (cs : List Int)
  | rep (c : Int)
inductive Run (R : List RuleT) (G : List NodeT) (x : ByteArray) : Task → Int → Int → Int → Int → Prop
  | empty {i a u} : (nodeAt G i).f0 = 0 → 1 ≤ u → Run R G x (.node i) a u a (u - 1)
  | hit {i a u} : (nodeAt G i).f0 = 1 → 1 ≤ u → a < (x.size : Int) → byteset_Has.f (nodeAt G i).f3.f0 (nodeAt G i).f3.f1 (nodeAt G i).f3.f2 (nodeAt G i).f3.f3 (bt x a) = some true → Run R G x (.node i) a u (a + 1) (u - 1)
  | miss {i a u} : (nodeAt G i).f0 = 1 → 1 ≤ u → (a < (x.size : Int) → byteset_Has.f (nodeAt G i).f3.f0 (nodeAt G i).f3.f1 (nodeAt G i).f3.f2 (nodeAt G i).f3.f3 (bt x a) = some false) → Run R G x (.node i) a u (-1) (u - 1)
  | call {i a u e l} : (nodeAt G i).f0 = 2 → 1 ≤ u → Run R G x (.node (ruleAt R (nodeAt G i).f2).f1) a (u - 1) e l → Run R G x (.node i) a u e l
  | seq {i a u e l} : (nodeAt G i).f0 = 3 → 1 ≤ u → Run R G x (.seq (nodeAt G i).f1) a (u - 1) e l → Run R G x (.node i) a u e l
  | cho {i a u e l} : (nodeAt G i).f0 = 4 → 1 ≤ u → Run R G x (.cho (nodeAt G i).f1) a (u - 1) e l → Run R G x (.node i) a u e l
  | star {i a u e l} : (nodeAt G i).f0 = 5 → 1 ≤ u → Run R G x (.rep (rd (nodeAt G i).f1 0)) a (u - 1) e l → Run R G x (.node i) a u e l
  | plusNo {i a u b l} : (nodeAt G i).f0 = 6 → 1 ≤ u → Run R G x (.node (rd (nodeAt G i).f1 0)) a (u - 1) b l → b < 0 → Run R G x (.node i) a u b l
  | plus {i a u b m e l} : (nodeAt G i).f0 = 6 → 1 ≤ u → Run R G x (.node (rd (nodeAt G i).f1 0)) a (u - 1) b m → 0 ≤ b → Run R G x (.rep (rd (nodeAt G i).f1 0)) b m e l → Run R G x (.node i) a u e l
  | optNo {i a u b l} : (nodeAt G i).f0 = 7 → 1 ≤ u → Run R G x (.node (rd (nodeAt G i).f1 0)) a (u - 1) b l → b < 0 → Run R G x (.node i) a u a l
  | opt {i a u b l} : (nodeAt G i).f0 = 7 → 1 ≤ u → Run R G x (.node (rd (nodeAt G i).f1 0)) a (u - 1) b l → 0 ≤ b → Run R G x (.node i) a u b l
  | andNo {i a u b l} : (nodeAt G i).f0 = 8 → 1 ≤ u → Run R G x (.node (rd (nodeAt G i).f1 0)) a (u - 1) b l → b < 0 → Run R G x (.node i) a u b l
  | and {i a u b l} : (nodeAt G i).f0 = 8 → 1 ≤ u → Run R G x (.node (rd (nodeAt G i).f1 0)) a (u - 1) b l → 0 ≤ b → Run R G x (.node i) a u a l
  | notNo {i a u b l} : (nodeAt G i).f0 = 9 → 1 ≤ u → Run R G x (.node (rd (nodeAt G i).f1 0)) a (u - 1) b l → 0 ≤ b → Run R G x (.node i) a u (-1) l
  | not {i a u b l} : (nodeAt G i).f0 = 9 → 1 ≤ u → Run R G x (.node (rd (nodeAt G i).f1 0)) a (u - 1) b l → b < 0 → Run R G x (.node i) a u a l
  | seqNil {a u} : Run R G x (.seq []) a u a u
  | seqNo {c cs a u b l} : Run R G x (.node c) a u b l → b < 0 → Run R G x (.seq (c :: cs)) a u b l
  | seqGo {c cs a u b m e l} : Run R G x (.node c) a u b m → 0 ≤ b → Run R G x (.seq cs) b m e l → Run R G x (.seq (c :: cs)) a u e l
  | choNil {a u} : Run R G x (.cho []) a u (-1) u
  | choYes {c cs a u b l} : Run R G x (.node c) a u b l → 0 ≤ b → Run R G x (.cho (c :: cs)) a u b l
  | choGo {c cs a u b m e l} : Run R G x (.node c) a u b m → b < 0 → Run R G x (.cho cs) a m e l → Run R G x (.cho (c :: cs)) a u e l
  | repEnd {c a u b l} : Run R G x (.node c) a u b l → b < 0 → Run R G x (.rep c) a u a l
  | repGo {c a u b m e l} : Run R G x (.node c) a u b m → 0 ≤ b → Run R G x (.rep c) b m e l → Run R G x (.rep c) a u e l
def RunRel (R : List RuleT) (G : List NodeT) (x : ByteArray) (i a u : Int) : Prop :=
  ∃ r, Ev (fun k => vetchref18_Node.f k R G i x a u) r ∧ Good x a (u - 1) r ∧ (r.1 = true → Run R G x (.node i) a u r.2.1 r.2.2)
theorem seqF_cons (F : Int → Int → Int → Option (Bool × Int × Int)) (c : Int) (cs : List Int) (a u : Int) : vetchref18_Node.seqF F (c :: cs) a u = (F c a u).bind fun r => if r.1 = true ∧ 0 ≤ r.2.1 then vetchref18_Node.seqF F cs r.2.1 r.2.2 else some r := rfl
theorem choF_cons (F : Int → Int → Option (Bool × Int × Int)) (c : Int) (cs : List Int) (e u : Int) : vetchref18_Node.choF F (c :: cs) e u = (F c u).bind fun r => if r.1 = true ∧ r.2.1 < 0 then vetchref18_Node.choF F cs r.2.1 r.2.2 else some r := rfl
section
variable {R : List RuleT} {G : List NodeT} {x : ByteArray} (hx : x.size ≤ 1000000) (hG : G.length ≤ 1000000) (hw : WF R G) (hok : ∀ y ∈ G, Ok56 y) (hkl : ∀ i : Int, 0 ≤ i → i < (G.length : Int) → (nodeAt G i).f1.length ≤ 9223372036854775807)
include hx hG hw hok hkl
theorem seq_run (n : Int) (ih : ∀ u, u ≤ n → ∀ i a, 0 ≤ i → i < (G.length : Int) → 0 ≤ a → a ≤ (x.size : Int) → RunRel R G x i a u) :
    ∀ (kids : List Int), (∀ c ∈ kids, 0 ≤ c ∧ c < (G.length : Int)) → ∀ a u, 0 ≤ u → u ≤ n → 0 ≤ a → a ≤ (x.size : Int) →
      ∃ r, Ev (fun k => vetchref18_Node.seqF (fun c a u => vetchref18_Node.f k R G c x a u) kids a u) r ∧ Good x a u r ∧ (r.1 = true → Run R G x (.seq kids) a u r.2.1 r.2.2) := by
  intro kids
  induction kids with
  | nil =>
    intro hk a u hu0 hu ha0 ha
    exact ⟨(true, a, u), Ev.of_eq fun k => by rw [vetchref18_Node.seqF], ⟨fun _ => ⟨hu0, Int.le_refl _, by show -1 ≤ a; omega, ha, fun _ => Int.le_refl _⟩, fun h => absurd h (by simp)⟩, fun _ => .seqNil⟩
  | cons c cs ihk =>
    intro hk a u hu0 hu ha0 ha
    have hc := hk c (by simp)
    obtain ⟨⟨r1, r2, r3⟩, hr, hg, hf⟩ := ih u hu c a hc.1 hc.2 ha0 ha
    by_cases hc2 : r1 = true ∧ 0 ≤ r2
    · obtain ⟨rfl, hr2⟩ := hc2
      obtain ⟨g1, g2, g3, g4, g5⟩ := hg.known rfl
      dsimp only at g1 g2 g3 g4 g5
      obtain ⟨r', hr', hg', hf'⟩ := ihk (fun d hd => hk d (List.mem_cons_of_mem _ hd)) r2 r3 g1 (by omega) hr2 g4
      exact ⟨r', Ev.congr (fun k => seqF_cons _ _ _ _ _) (Ev.bind hr (Ev.congr (fun k => if_pos ⟨rfl, hr2⟩) hr')), good_weaken hg' (g5 hr2) (by omega), fun h => .seqGo (hf rfl) hr2 (hf' h)⟩
    · refine ⟨(r1, r2, r3), Ev.congr (fun k => seqF_cons _ _ _ _ _) (Ev.bind hr (Ev.of_eq fun _ => if_neg hc2)), good_weaken hg (Int.le_refl _) (by omega), fun h => ?_⟩
      have h' : r1 = true := h
      subst h'
      exact .seqNo (hf rfl) (by have : ¬ 0 ≤ r2 := fun h2 => hc2 ⟨rfl, h2⟩; show r2 < 0; omega)
theorem cho_run (n : Int) (a : Int) (ha0 : 0 ≤ a) (ha : a ≤ (x.size : Int)) (ih : ∀ u, u ≤ n → ∀ i a, 0 ≤ i → i < (G.length : Int) → 0 ≤ a → a ≤ (x.size : Int) → RunRel R G x i a u) :
    ∀ (kids : List Int), (∀ c ∈ kids, 0 ≤ c ∧ c < (G.length : Int)) → ∀ e u, 0 ≤ u → u ≤ n → e = -1 →
      ∃ r, Ev (fun k => vetchref18_Node.choF (fun c u => vetchref18_Node.f k R G c x a u) kids e u) r ∧ Good x a u r ∧ (r.1 = true → Run R G x (.cho kids) a u r.2.1 r.2.2) := by
  intro kids
  induction kids with
  | nil =>
    intro hk e u hu0 hu he
    subst he
    exact ⟨(true, -1, u), Ev.of_eq fun k => by rw [vetchref18_Node.choF], ⟨fun _ => ⟨hu0, Int.le_refl _, Int.le_refl _, by show (-1 : Int) ≤ _; omega, fun h => absurd h (by simp)⟩, fun h => absurd h (by simp)⟩, fun _ => .choNil⟩
  | cons c cs ihk =>
    intro hk e u hu0 hu he
    have hc := hk c (by simp)
    obtain ⟨⟨r1, r2, r3⟩, hr, hg, hf⟩ := ih u hu c a hc.1 hc.2 ha0 ha
    by_cases hc2 : r1 = true ∧ r2 < 0
    · obtain ⟨rfl, hr2⟩ := hc2
      obtain ⟨g1, g2, g3, g4, g5⟩ := hg.known rfl
      dsimp only at g1 g2 g3 g4 g5
      have er : r2 = -1 := by omega
      subst er
      obtain ⟨r', hr', hg', hf'⟩ := ihk (fun d hd => hk d (List.mem_cons_of_mem _ hd)) (-1) r3 g1 (by omega) rfl
      exact ⟨r', Ev.congr (fun k => choF_cons _ _ _ _ _) (Ev.bind hr (Ev.congr (fun k => if_pos ⟨rfl, hr2⟩) hr')), good_weaken hg' (Int.le_refl _) (by omega), fun h => .choGo (hf rfl) hr2 (hf' h)⟩
    · refine ⟨(r1, r2, r3), Ev.congr (fun k => choF_cons _ _ _ _ _) (Ev.bind hr (Ev.of_eq fun _ => if_neg hc2)), good_weaken hg (Int.le_refl _) (by omega), fun h => ?_⟩
      have h' : r1 = true := h
      subst h'
      exact .choYes (hf rfl) (by have : ¬ r2 < 0 := fun h2 => hc2 ⟨rfl, h2⟩; show 0 ≤ r2; omega)
theorem rep_run (n : Int) (ih : ∀ u, u ≤ n → ∀ i a, 0 ≤ i → i < (G.length : Int) → 0 ≤ a → a ≤ (x.size : Int) → RunRel R G x i a u) (c : Int) (hc0 : 0 ≤ c) (hc : c < (G.length : Int)) :
    ∀ (q : Nat) (u : Int), u.toNat = q → 0 ≤ u → u ≤ n → ∀ a, 0 ≤ a → a ≤ (x.size : Int) →
      ∃ r, (∀ b last, Ev (fun k => vetchref18_Node.repF (fun a u => vetchref18_Node.f (k + b) R G c x a u) k last (true, a, u)) r) ∧ Good x a u r ∧ (r.1 = true → Run R G x (.rep c) a u r.2.1 r.2.2) := by
  intro q
  induction q using Nat.strongRecOn with
  | _ q ihq =>
  intro u hq hu0 hu a ha0 ha
  obtain ⟨⟨r1, r2, r3⟩, hr, hg, hf⟩ := ih u hu c a hc0 hc ha0 ha
  have stepR : ∀ u b last k, vetchref18_Node.repF (fun a u => vetchref18_Node.f (k + 1 + b) R G c x a u) (k + 1) last (true, a, u) = (vetchref18_Node.f (k + (b + 1)) R G c x a u).bind fun t => vetchref18_Node.repF (fun a u => vetchref18_Node.f (k + (b + 1)) R G c x a u) k a t := fun u b last k => by
    rw [vetchref18_Node.repF, if_pos ⟨rfl, ha0⟩, show k + 1 + b = k + (b + 1) by omega]
  cases r1 with
  | false =>
    obtain ⟨u1, u2⟩ := hg.unk rfl
    dsimp only at u1 u2
    subst u1 u2
    refine ⟨(false, 0, 0), fun b last => Ev.succ (stepR u b last) (Ev.bind (Ev.shift (b + 1) hr) ?_), ⟨fun h => absurd h (by simp), fun _ => ⟨rfl, rfl⟩⟩, fun h => absurd h (by simp)⟩
    exact Ev.succ (g := fun _ => some (false, 0, 0)) (fun k => by rw [vetchref18_Node.repF, if_neg (by simp), if_neg (by simp)]) (Ev.const _)
  | true =>
    obtain ⟨g1, g2, g3, g4, g5⟩ := hg.known rfl
    dsimp only at g1 g2 g3 g4 g5
    by_cases hr2 : 0 ≤ r2
    · obtain ⟨r', hr', hg', hf'⟩ := ihq r3.toNat (by omega) r3 rfl g1 (by omega) r2 hr2 g4
      exact ⟨r', fun b last => Ev.succ (stepR u b last) (Ev.bind (Ev.shift (b + 1) hr) (hr' (b + 1) a)), good_weaken hg' (g5 hr2) (by omega), fun h => .repGo (hf rfl) hr2 (hf' h)⟩
    · refine ⟨(true, a, r3), fun b last => Ev.succ (stepR u b last) (Ev.bind (Ev.shift (b + 1) hr) ?_), ⟨fun _ => ⟨g1, by show r3 ≤ u; omega, by show -1 ≤ a; omega, ha, fun _ => Int.le_refl _⟩, fun h => absurd h (by simp)⟩, fun _ => .repEnd (hf rfl) (by show r2 < 0; omega)⟩
      exact Ev.succ (g := fun _ => some (true, a, r3)) (fun k => by rw [vetchref18_Node.repF, if_neg (fun h => hr2 h.2), if_pos rfl]) (Ev.const _)
theorem node_run : ∀ (n : Nat) (u : Int), u ≤ n → u ≤ 100000000 → ∀ i a, 0 ≤ i → i < (G.length : Int) → 0 ≤ a → a ≤ (x.size : Int) → RunRel R G x i a u := by
  intro n
  induction n with
  | zero =>
    intro u hu _ i a hi0 hi ha0 ha
    exact ⟨(false, 0, 0), Ev.succ (g := fun _ => some (false, 0, 0)) (fun k => by rw [vetchref18_Node.f, if_pos (by omega)]) (Ev.const _), ⟨fun h => absurd h (by simp), fun _ => ⟨rfl, rfl⟩⟩, fun h => absurd h (by simp)⟩
  | succ n ih0 =>
    intro u hu hub i a hi0 hi ha0 ha
    by_cases hu1 : u < 1
    · exact ih0 u (by omega) hub i a hi0 hi ha0 ha
    have hu2 : 1 ≤ u := by omega
    have ih : ∀ u', u' ≤ u - 1 → ∀ i a, 0 ≤ i → i < (G.length : Int) → 0 ≤ a → a ≤ (x.size : Int) → RunRel R G x i a u' := fun u' hu' => ih0 u' (by omega) (by omega)
    have hwr : wrap64 (u - 1) = u - 1 := w64p _ (by omega)
    obtain ⟨m0, m1, m2, m3, m4, m5, m6, m7, m8⟩ := hw.made i hi0 hi
    have hkids := hw.kids i hi0 hi
    have hkids' : ∀ c ∈ (nodeAt G i).f1, 0 ≤ c ∧ c < (G.length : Int) := fun c hc => by have := hkids c hc; omega
    have unit : ∀ (e : Int), -1 ≤ e → e ≤ (x.size : Int) → (0 ≤ e → a ≤ e) → Good x a (u - 1) (true, e, u - 1) := fun e h1 h2 h3 =>
      ⟨fun _ => ⟨by show 0 ≤ u - 1; omega, Int.le_refl _, h1, h2, h3⟩, fun h => absurd h (by simp)⟩
    by_cases o0 : (nodeAt G i).f0 = 0
    · exact ⟨_, Ev.succ (g := fun _ => some (true, a, u - 1)) (fun k => by rw [vetchref18_Node.f, if_neg hu1, if_pos ⟨hi0, hi⟩, if_pos o0, hwr]) (Ev.const _), unit a (by omega) ha (fun _ => Int.le_refl _), fun _ => .empty o0 hu2⟩
    by_cases o1 : (nodeAt G i).f0 = 1
    · by_cases hlt : a < (x.size : Int)
      · have hset := (hok _ (rd_mem56 G i hi0 hi)).2.2.2
        obtain ⟨b, hb1, hb2⟩ := has_ev (nodeAt G i).f3 hset (bt x a) (bt_range x a).1 (bt_range x a).2
        have stepR : ∀ k, vetchref18_Node.f (k + 1) R G i x a u = (vetchref01_Has.f k (nodeAt G i).f3.f0 (nodeAt G i).f3.f1 (nodeAt G i).f3.f2 (nodeAt G i).f3.f3 (bt x a)).bind fun b => if b = true then some (true, a + 1, u - 1) else some (true, -1, u - 1) := fun k => by
          rw [vetchref18_Node.f, if_neg hu1, if_pos ⟨hi0, hi⟩, if_neg o0, if_pos o1, if_pos hlt, if_pos ha0, hwr, w64p (a + 1) (by omega)]
        cases b with
        | true => exact ⟨_, Ev.succ stepR (Ev.bind hb2 (Ev.of_eq fun _ => if_pos rfl)), unit (a + 1) (by omega) (by omega) (fun _ => by omega), fun _ => .hit o1 hu2 hlt hb1⟩
        | false => exact ⟨_, Ev.succ stepR (Ev.bind hb2 (Ev.of_eq fun _ => if_neg (by decide))), unit (-1) (by omega) (by omega) (fun h => absurd h (by decide)), fun _ => .miss o1 hu2 (fun _ => hb1)⟩
      · exact ⟨_, Ev.succ (g := fun _ => some (true, -1, u - 1)) (fun k => by rw [vetchref18_Node.f, if_neg hu1, if_pos ⟨hi0, hi⟩, if_neg o0, if_pos o1, if_neg hlt, hwr]) (Ev.const _), unit (-1) (by omega) (by omega) (fun h => absurd h (by decide)), fun _ => .miss o1 hu2 (fun h => absurd h hlt)⟩
    by_cases o2 : (nodeAt G i).f0 = 2
    · obtain ⟨p0, p1⟩ := m6 o2
      have hroot := hw.roots _ p0 p1
      obtain ⟨r, hr, hg, hf⟩ := ih (u - 1) (Int.le_refl _) (ruleAt R (nodeAt G i).f2).f1 a hroot.1 hroot.2 ha0 ha
      exact ⟨r, Ev.succ (fun k => by rw [vetchref18_Node.f, if_neg hu1, if_pos ⟨hi0, hi⟩, if_neg o0, if_neg o1, if_pos o2, if_pos ⟨p0, p1⟩, hwr]) hr, good_weaken hg (Int.le_refl _) (by omega), fun h => .call o2 hu2 (hf h)⟩
    by_cases o3 : (nodeAt G i).f0 = 3
    · obtain ⟨r, hr, hg, hf⟩ := seq_run hx hG hw hok hkl (u - 1) ih (nodeAt G i).f1 hkids' a (u - 1) (by omega) (Int.le_refl _) ha0 ha
      exact ⟨r, Ev.succ (fun k => by rw [vetchref18_Node.f, if_neg hu1, if_pos ⟨hi0, hi⟩, if_neg o0, if_neg o1, if_neg o2, if_pos o3, hwr]) hr, hg, fun h => .seq o3 hu2 (hf h)⟩
    by_cases o4 : (nodeAt G i).f0 = 4
    · obtain ⟨r, hr, hg, hf⟩ := cho_run hx hG hw hok hkl (u - 1) a ha0 ha ih (nodeAt G i).f1 hkids' (-1) (u - 1) (by omega) (Int.le_refl _) rfl
      exact ⟨r, Ev.succ (fun k => by rw [vetchref18_Node.f, if_neg hu1, if_pos ⟨hi0, hi⟩, if_neg o0, if_neg o1, if_neg o2, if_neg o3, if_pos o4, hwr]) hr, hg, fun h => .cho o4 hu2 (hf h)⟩
    have hop5 : 5 ≤ (nodeAt G i).f0 := by omega
    have hlen := m5 hop5
    have hne : (nodeAt G i).f1 ≠ [] := fun h => by rw [h] at hlen; simp at hlen
    have hl0 : (0 : Int) < ((nodeAt G i).f1.length : Int) := by omega
    have hkid := hkids' _ (rd_in hx hG hw hok hkl (nodeAt G i).f1 0 (Int.le_refl _) hl0)
    obtain ⟨⟨r1, r2, r3⟩, hr, hg, hf⟩ := ih (u - 1) (Int.le_refl _) (rd (nodeAt G i).f1 0) a hkid.1 hkid.2 ha0 ha
    have stepR : ∀ k, vetchref18_Node.f (k + 1) R G i x a u = (vetchref18_Node.f k R G (rd (nodeAt G i).f1 0) x a (u - 1)).bind fun r =>
        if r.1 = false then some r else
        if (nodeAt G i).f0 = 7 then (if r.2.1 < 0 then some (true, a, r.2.2) else some r) else
        if (nodeAt G i).f0 = 8 then (if r.2.1 < 0 then some r else some (true, a, r.2.2)) else
        if (nodeAt G i).f0 = 9 then (if r.2.1 < 0 then some (true, a, r.2.2) else some (true, -1, r.2.2)) else
        if r.2.1 < 0 ∧ (nodeAt G i).f0 = 6 then some r else vetchref18_Node.repF (fun a u => vetchref18_Node.f k R G (rd (nodeAt G i).f1 0) x a u) k a r := fun k => by
      rw [vetchref18_Node.f, if_neg hu1, if_pos ⟨hi0, hi⟩, if_neg o0, if_neg o1, if_neg o2, if_neg o3, if_neg o4, if_neg hne, hwr]
    cases r1 with
    | false =>
      obtain ⟨u1, u2⟩ := hg.unk rfl
      dsimp only at u1 u2
      subst u1 u2
      exact ⟨(false, 0, 0), Ev.succ stepR (Ev.bind hr (Ev.of_eq fun _ => if_pos rfl)), ⟨fun h => absurd h (by simp), fun _ => ⟨rfl, rfl⟩⟩, fun h => absurd h (by simp)⟩
    | true =>
      obtain ⟨g1, g2, g3, g4, g5⟩ := hg.known rfl
      dsimp only at g1 g2 g3 g4 g5
      have hf1 := hf rfl
      dsimp only at hf1
      have fin : ∀ (e : Int), -1 ≤ e → e ≤ (x.size : Int) → (0 ≤ e → a ≤ e) → Good x a (u - 1) (true, e, r3) := fun e h1 h2 h3 =>
        ⟨fun _ => ⟨g1, by show r3 ≤ u - 1; omega, h1, h2, h3⟩, fun h => absurd h (by simp)⟩
      by_cases o7 : (nodeAt G i).f0 = 7
      · by_cases he : r2 < 0
        · exact ⟨_, Ev.succ stepR (Ev.bind hr (Ev.of_eq fun _ => by rw [if_neg (by simp), if_pos o7, if_pos he])), fin a (by omega) ha (fun _ => Int.le_refl _), fun _ => .optNo o7 hu2 hf1 he⟩
        · exact ⟨_, Ev.succ stepR (Ev.bind hr (Ev.of_eq fun _ => by rw [if_neg (by simp), if_pos o7, if_neg he])), fin r2 g3 g4 g5, fun _ => .opt o7 hu2 hf1 (show 0 ≤ r2 by omega)⟩
      by_cases o8 : (nodeAt G i).f0 = 8
      · by_cases he : r2 < 0
        · exact ⟨_, Ev.succ stepR (Ev.bind hr (Ev.of_eq fun _ => by rw [if_neg (by simp), if_neg o7, if_pos o8, if_pos he])), fin r2 g3 g4 g5, fun _ => .andNo o8 hu2 hf1 he⟩
        · exact ⟨_, Ev.succ stepR (Ev.bind hr (Ev.of_eq fun _ => by rw [if_neg (by simp), if_neg o7, if_pos o8, if_neg he])), fin a (by omega) ha (fun _ => Int.le_refl _), fun _ => .and o8 hu2 hf1 (by omega)⟩
      by_cases o9 : (nodeAt G i).f0 = 9
      · by_cases he : r2 < 0
        · exact ⟨_, Ev.succ stepR (Ev.bind hr (Ev.of_eq fun _ => by rw [if_neg (by simp), if_neg o7, if_neg o8, if_pos o9, if_pos he])), fin a (by omega) ha (fun _ => Int.le_refl _), fun _ => .not o9 hu2 hf1 he⟩
        · exact ⟨_, Ev.succ stepR (Ev.bind hr (Ev.of_eq fun _ => by rw [if_neg (by simp), if_neg o7, if_neg o8, if_pos o9, if_neg he])), fin (-1) (by omega) (by omega) (fun h => absurd h (by decide)), fun _ => .notNo o9 hu2 hf1 (by omega)⟩
      by_cases h6 : r2 < 0 ∧ (nodeAt G i).f0 = 6
      · exact ⟨_, Ev.succ stepR (Ev.bind hr (Ev.of_eq fun _ => by rw [if_neg (by simp), if_neg o7, if_neg o8, if_neg o9, if_pos h6])), fin r2 g3 g4 g5, fun _ => .plusNo h6.2 hu2 hf1 h6.1⟩
      by_cases he : 0 ≤ r2
      · obtain ⟨r', hr', hg', hf'⟩ := rep_run hx hG hw hok hkl (u - 1) ih (rd (nodeAt G i).f1 0) hkid.1 hkid.2 r3.toNat r3 rfl g1 (by omega) r2 he g4
        refine ⟨r', Ev.succ stepR (Ev.bind hr (Ev.congr (fun k => by rw [if_neg (by simp), if_neg o7, if_neg o8, if_neg o9, if_neg h6]; rfl) (hr' 0 a))), good_weaken hg' (g5 he) (by omega), fun h => ?_⟩
        by_cases o5 : (nodeAt G i).f0 = 5
        · exact .star o5 hu2 (.repGo hf1 he (hf' h))
        · exact .plus (by omega) hu2 hf1 he (hf' h)
      · have o5 : (nodeAt G i).f0 = 5 := by
          have : ¬ (nodeAt G i).f0 = 6 := fun h => h6 ⟨by omega, h⟩
          omega
        exact ⟨(true, a, r3), Ev.succ stepR (Ev.bind hr (Ev.succ (g := fun _ => some (true, a, r3)) (fun k => by rw [if_neg (by simp), if_neg o7, if_neg o8, if_neg o9, if_neg h6, vetchref18_Node.repF, if_neg (fun h => he h.2), if_pos rfl]) (Ev.const _))), fin a (by omega) ha (fun _ => Int.le_refl _), fun _ => .star o5 hu2 (.repEnd hf1 (by omega))⟩
end
end Go.Proofs.Ythgedejnpgcacaa.V
namespace Go.Proofs.Ythgedejnpgcacaa.V
open Go.RowKit Go.Proofs.YthgedejnpgcacaaW.PrintWords
set_option linter.unusedVariables false
theorem run_left {R : List RuleT} {G : List NodeT} {x : ByteArray} {t : Task} {a u e l : Int} (h : Run R G x t a u e l) : l ≤ u ∧ (∀ i, t = .node i → l < u) := by
  induction h with
  | empty o hu => exact ⟨by omega, fun i _ => by omega⟩
  | hit o hu _ _ => exact ⟨by omega, fun i _ => by omega⟩
  | miss o hu _ => exact ⟨by omega, fun i _ => by omega⟩
  | call o hu _ ih => exact ⟨by omega, fun i _ => by omega⟩
  | seq o hu _ ih => exact ⟨by omega, fun i _ => by omega⟩
  | cho o hu _ ih => exact ⟨by omega, fun i _ => by omega⟩
  | star o hu _ ih => exact ⟨by omega, fun i _ => by omega⟩
  | plusNo o hu _ _ ih => exact ⟨by omega, fun i _ => by omega⟩
  | plus o hu _ _ _ ih1 ih2 => exact ⟨by omega, fun i _ => by omega⟩
  | optNo o hu _ _ ih => exact ⟨by omega, fun i _ => by omega⟩
  | opt o hu _ _ ih => exact ⟨by omega, fun i _ => by omega⟩
  | andNo o hu _ _ ih => exact ⟨by omega, fun i _ => by omega⟩
  | and o hu _ _ ih => exact ⟨by omega, fun i _ => by omega⟩
  | notNo o hu _ _ ih => exact ⟨by omega, fun i _ => by omega⟩
  | not o hu _ _ ih => exact ⟨by omega, fun i _ => by omega⟩
  | seqNil => exact ⟨Int.le_refl _, fun i h => by cases h⟩
  | seqNo _ _ ih => exact ⟨ih.1, fun i h => by cases h⟩
  | seqGo _ _ _ ih1 ih2 => exact ⟨by omega, fun i h => by cases h⟩
  | choNil => exact ⟨Int.le_refl _, fun i h => by cases h⟩
  | choYes _ _ ih => exact ⟨ih.1, fun i h => by cases h⟩
  | choGo _ _ _ ih1 ih2 => exact ⟨by omega, fun i h => by cases h⟩
  | repEnd _ _ ih => exact ⟨ih.1, fun i h => by cases h⟩
  | repGo _ _ _ ih1 ih2 => exact ⟨by omega, fun i h => by cases h⟩
theorem run_less {R : List RuleT} {G : List NodeT} {x : ByteArray} {t : Task} {a u e l : Int} (h : Run R G x t a u e l) : ∀ d, d ≤ l → Run R G x t a (u - d) e (l - d) := by
  have sub : ∀ u d : Int, u - d - 1 = u - 1 - d := fun u d => by omega
  induction h with
  | empty o hu => intro d hd; rw [← sub]; exact .empty o (by omega)
  | hit o hu h1 h2 => intro d hd; rw [← sub]; exact .hit o (by omega) h1 h2
  | miss o hu h1 => intro d hd; rw [← sub]; exact .miss o (by omega) h1
  | call o hu h ih => intro d hd; have := run_left h; exact .call o (by omega) (by rw [sub]; exact ih d hd)
  | seq o hu h ih => intro d hd; have := run_left h; exact .seq o (by omega) (by rw [sub]; exact ih d hd)
  | cho o hu h ih => intro d hd; have := run_left h; exact .cho o (by omega) (by rw [sub]; exact ih d hd)
  | star o hu h ih => intro d hd; have := run_left h; exact .star o (by omega) (by rw [sub]; exact ih d hd)
  | plusNo o hu h hb ih => intro d hd; have := run_left h; exact .plusNo o (by omega) (by rw [sub]; exact ih d hd) hb
  | plus o hu h1 hb h2 ih1 ih2 => intro d hd; have := run_left h1; have := run_left h2; exact .plus o (by omega) (by rw [sub]; exact ih1 d (by omega)) hb (ih2 d hd)
  | optNo o hu h hb ih => intro d hd; have := run_left h; exact .optNo o (by omega) (by rw [sub]; exact ih d hd) hb
  | opt o hu h hb ih => intro d hd; have := run_left h; exact .opt o (by omega) (by rw [sub]; exact ih d hd) hb
  | andNo o hu h hb ih => intro d hd; have := run_left h; exact .andNo o (by omega) (by rw [sub]; exact ih d hd) hb
  | and o hu h hb ih => intro d hd; have := run_left h; exact .and o (by omega) (by rw [sub]; exact ih d hd) hb
  | notNo o hu h hb ih => intro d hd; have := run_left h; exact .notNo o (by omega) (by rw [sub]; exact ih d hd) hb
  | not o hu h hb ih => intro d hd; have := run_left h; exact .not o (by omega) (by rw [sub]; exact ih d hd) hb
  | seqNil => exact fun d hd => .seqNil
  | seqNo h hb ih => exact fun d hd => .seqNo (ih d hd) hb
  | seqGo h1 hb h2 ih1 ih2 => intro d hd; have := run_left h2; exact .seqGo (ih1 d (by omega)) hb (ih2 d hd)
  | choNil => exact fun d hd => .choNil
  | choYes h hb ih => exact fun d hd => .choYes (ih d hd) hb
  | choGo h1 hb h2 ih1 ih2 => intro d hd; have := run_left h2; exact .choGo (ih1 d (by omega)) hb (ih2 d hd)
  | repEnd h hb ih => exact fun d hd => .repEnd (ih d hd) hb
  | repGo h1 hb h2 ih1 ih2 => intro d hd; have := run_left h2; exact .repGo (ih1 d (by omega)) hb (ih2 d hd)
theorem run_range {R : List RuleT} {G : List NodeT} {x : ByteArray} {t : Task} {a u e l : Int} (h : Run R G x t a u e l) : 0 ≤ a → a ≤ (x.size : Int) → -1 ≤ e ∧ e ≤ (x.size : Int) ∧ (0 ≤ e → a ≤ e) := by
  induction h with
  | empty o hu => exact fun h0 h1 => ⟨by omega, h1, fun _ => Int.le_refl _⟩
  | hit o hu _ _ => exact fun h0 h1 => ⟨by omega, by omega, fun _ => by omega⟩
  | miss o hu _ => exact fun h0 h1 => ⟨by omega, by omega, fun h => absurd h (by decide)⟩
  | call o hu _ ih => exact ih
  | seq o hu _ ih => exact ih
  | cho o hu _ ih => exact ih
  | star o hu _ ih => exact ih
  | plusNo o hu _ _ ih => exact ih
  | plus o hu _ hb _ ih1 ih2 =>
    intro h0 h1
    obtain ⟨q1, q2, q3⟩ := ih1 h0 h1
    obtain ⟨p1, p2, p3⟩ := ih2 hb q2
    exact ⟨p1, p2, fun h => by have := q3 hb; have := p3 h; omega⟩
  | optNo o hu _ _ ih => exact fun h0 h1 => ⟨by omega, h1, fun _ => Int.le_refl _⟩
  | opt o hu _ _ ih => exact ih
  | andNo o hu _ _ ih => exact ih
  | and o hu _ _ ih => exact fun h0 h1 => ⟨by omega, h1, fun _ => Int.le_refl _⟩
  | notNo o hu _ _ ih => exact fun h0 h1 => ⟨by omega, by omega, fun h => absurd h (by decide)⟩
  | not o hu _ _ ih => exact fun h0 h1 => ⟨by omega, h1, fun _ => Int.le_refl _⟩
  | seqNil => exact fun h0 h1 => ⟨by omega, h1, fun _ => Int.le_refl _⟩
  | seqNo _ _ ih => exact ih
  | seqGo _ hb _ ih1 ih2 =>
    intro h0 h1
    obtain ⟨q1, q2, q3⟩ := ih1 h0 h1
    obtain ⟨p1, p2, p3⟩ := ih2 hb q2
    exact ⟨p1, p2, fun h => by have := q3 hb; have := p3 h; omega⟩
  | choNil => exact fun h0 h1 => ⟨by omega, by omega, fun h => absurd h (by decide)⟩
  | choYes _ _ ih => exact ih
  | choGo _ _ _ ih1 ih2 => exact ih2
  | repEnd _ _ ih => exact fun h0 h1 => ⟨by omega, h1, fun _ => Int.le_refl _⟩
  | repGo _ hb _ ih1 ih2 =>
    intro h0 h1
    obtain ⟨q1, q2, q3⟩ := ih1 h0 h1
    obtain ⟨p1, p2, p3⟩ := ih2 hb q2
    exact ⟨p1, p2, fun h => by have := q3 hb; have := p3 h; omega⟩
def Does (R : List RuleT) (G : List NodeT) (x : ByteArray) (a u e l : Int) : Task → Prop
  | .node i => 0 ≤ i → i < (G.length : Int) → Ev (fun k => vetchref18_Node.f k R G i x a u) (true, e, l)
  | .seq cs => (∀ c ∈ cs, 0 ≤ c ∧ c < (G.length : Int)) → Ev (fun k => vetchref18_Node.seqF (fun c a u => vetchref18_Node.f k R G c x a u) cs a u) (true, e, l)
  | .cho cs => (∀ c ∈ cs, 0 ≤ c ∧ c < (G.length : Int)) → Ev (fun k => vetchref18_Node.choF (fun c u => vetchref18_Node.f k R G c x a u) cs (-1) u) (true, e, l)
  | .rep c => 0 ≤ c → c < (G.length : Int) → (∀ b last, Ev (fun k => vetchref18_Node.repF (fun a u => vetchref18_Node.f (k + b) R G c x a u) k last (true, a, u)) (true, e, l)) ∧
      ∃ r2 r3, Ev (fun k => vetchref18_Node.f k R G c x a u) (true, r2, r3) ∧ ∀ b, Ev (fun k => vetchref18_Node.repF (fun a u => vetchref18_Node.f (k + b) R G c x a u) k a (true, r2, r3)) (true, e, l)
theorem run_does {R : List RuleT} {G : List NodeT} {x : ByteArray} (hx : x.size ≤ 1000000) (hw : WF R G) (hok : ∀ y ∈ G, Ok56 y) {t : Task} {a u e l : Int} (h : Run R G x t a u e l) : 0 ≤ a → a ≤ (x.size : Int) → u ≤ 100000000 → Does R G x a u e l t := by
  have kids : ∀ i : Int, 0 ≤ i → i < (G.length : Int) → ∀ c ∈ (nodeAt G i).f1, 0 ≤ c ∧ c < (G.length : Int) := fun i h0 h1 c hc => by
    have := hw.kids i h0 h1 c hc
    omega
  have kid : ∀ i : Int, 0 ≤ i → i < (G.length : Int) → 5 ≤ (nodeAt G i).f0 → (nodeAt G i).f1 ≠ [] ∧ 0 ≤ rd (nodeAt G i).f1 0 ∧ rd (nodeAt G i).f1 0 < (G.length : Int) := fun i h0 h1 h5 => by
    have hl := (hw.made i h0 h1).2.2.2.2.2.1 h5
    have hm : rd (nodeAt G i).f1 0 ∈ (nodeAt G i).f1 := by
      unfold rd
      rw [List.getD_eq_getElem?_getD, List.getElem?_eq_getElem (by simp; omega)]
      exact List.getElem_mem _
    refine ⟨fun h => by rw [h] at hl; simp at hl, kids i h0 h1 _ hm⟩
  have one : ∀ i a u : Int, 0 ≤ i → i < (G.length : Int) → 1 ≤ u → u ≤ 100000000 → 5 ≤ (nodeAt G i).f0 → ∀ k, vetchref18_Node.f (k + 1) R G i x a u = (vetchref18_Node.f k R G (rd (nodeAt G i).f1 0) x a (u - 1)).bind fun r =>
      if r.1 = false then some r else
      if (nodeAt G i).f0 = 7 then (if r.2.1 < 0 then some (true, a, r.2.2) else some r) else
      if (nodeAt G i).f0 = 8 then (if r.2.1 < 0 then some r else some (true, a, r.2.2)) else
      if (nodeAt G i).f0 = 9 then (if r.2.1 < 0 then some (true, a, r.2.2) else some (true, -1, r.2.2)) else
      if r.2.1 < 0 ∧ (nodeAt G i).f0 = 6 then some r else vetchref18_Node.repF (fun a u => vetchref18_Node.f k R G (rd (nodeAt G i).f1 0) x a u) k a r := fun i a u h0 h1 hu hub h5 k => by
    rw [vetchref18_Node.f, if_neg (by omega), if_pos ⟨h0, h1⟩, if_neg (show ¬ (nodeAt G i).f0 = 0 by omega), if_neg (show ¬ (nodeAt G i).f0 = 1 by omega), if_neg (show ¬ (nodeAt G i).f0 = 2 by omega), if_neg (show ¬ (nodeAt G i).f0 = 3 by omega), if_neg (show ¬ (nodeAt G i).f0 = 4 by omega), if_neg (kid i h0 h1 h5).1, w64p (u - 1) (by omega)]
  induction h with
  | @empty i a u o hu =>
    intro ha0 ha hub h0 h1
    exact Ev.succ (g := fun _ => some (true, a, u - 1)) (fun k => by rw [vetchref18_Node.f, if_neg (by omega), if_pos ⟨h0, h1⟩, if_pos o, w64p (u - 1) (by omega)]) (Ev.const _)
  | @hit i a u o hu hlt hh =>
    intro ha0 ha hub h0 h1
    obtain ⟨b, hb1, hb2⟩ := has_ev (nodeAt G i).f3 (hok _ (rd_mem56 G i h0 h1)).2.2.2 (bt x a) (bt_range x a).1 (bt_range x a).2
    rw [hh] at hb1
    obtain rfl := Option.some.inj hb1
    exact Ev.succ (fun k => by rw [vetchref18_Node.f, if_neg (by omega), if_pos ⟨h0, h1⟩, if_neg (show ¬ (nodeAt G i).f0 = 0 by omega), if_pos o, if_pos hlt, if_pos ha0, w64p (u - 1) (by omega), w64p (a + 1) (by omega)]) (Ev.bind (g := fun _ b => if b = true then some (true, a + 1, u - 1) else some (true, -1, u - 1)) hb2 (Ev.of_eq fun _ => if_pos rfl))
  | @miss i a u o hu hm =>
    intro ha0 ha hub h0 h1
    by_cases hlt : a < (x.size : Int)
    · obtain ⟨b, hb1, hb2⟩ := has_ev (nodeAt G i).f3 (hok _ (rd_mem56 G i h0 h1)).2.2.2 (bt x a) (bt_range x a).1 (bt_range x a).2
      rw [hm hlt] at hb1
      obtain rfl := Option.some.inj hb1
      exact Ev.succ (fun k => by rw [vetchref18_Node.f, if_neg (by omega), if_pos ⟨h0, h1⟩, if_neg (show ¬ (nodeAt G i).f0 = 0 by omega), if_pos o, if_pos hlt, if_pos ha0, w64p (u - 1) (by omega), w64p (a + 1) (by omega)]) (Ev.bind (g := fun _ b => if b = true then some (true, a + 1, u - 1) else some (true, -1, u - 1)) hb2 (Ev.of_eq fun _ => if_neg (by decide)))
    · exact Ev.succ (g := fun _ => some (true, -1, u - 1)) (fun k => by rw [vetchref18_Node.f, if_neg (by omega), if_pos ⟨h0, h1⟩, if_neg (show ¬ (nodeAt G i).f0 = 0 by omega), if_pos o, if_neg hlt, w64p (u - 1) (by omega)]) (Ev.const _)
  | @call i a u e l o hu _ ih =>
    intro ha0 ha hub h0 h1
    obtain ⟨p0, p1⟩ := (hw.made _ h0 h1).2.2.2.2.2.2.1 o
    have hr := hw.roots _ p0 p1
    exact Ev.succ (fun k => by rw [vetchref18_Node.f, if_neg (by omega), if_pos ⟨h0, h1⟩, if_neg (show ¬ (nodeAt G i).f0 = 0 by omega), if_neg (show ¬ (nodeAt G i).f0 = 1 by omega), if_pos o, if_pos ⟨p0, p1⟩, w64p (u - 1) (by omega)]) (ih ha0 ha (by omega) hr.1 hr.2)
  | @seq i a u e l o hu _ ih =>
    intro ha0 ha hub h0 h1
    exact Ev.succ (fun k => by rw [vetchref18_Node.f, if_neg (by omega), if_pos ⟨h0, h1⟩, if_neg (show ¬ (nodeAt G i).f0 = 0 by omega), if_neg (show ¬ (nodeAt G i).f0 = 1 by omega), if_neg (show ¬ (nodeAt G i).f0 = 2 by omega), if_pos o, w64p (u - 1) (by omega)]) (ih ha0 ha (by omega) (kids _ h0 h1))
  | @cho i a u e l o hu _ ih =>
    intro ha0 ha hub h0 h1
    exact Ev.succ (fun k => by rw [vetchref18_Node.f, if_neg (by omega), if_pos ⟨h0, h1⟩, if_neg (show ¬ (nodeAt G i).f0 = 0 by omega), if_neg (show ¬ (nodeAt G i).f0 = 1 by omega), if_neg (show ¬ (nodeAt G i).f0 = 2 by omega), if_neg (show ¬ (nodeAt G i).f0 = 3 by omega), if_pos o, w64p (u - 1) (by omega)]) (ih ha0 ha (by omega) (kids _ h0 h1))
  | @star i a u e l o hu hrun ih =>
    intro ha0 ha hub h0 h1
    obtain ⟨_, k0, k1⟩ := kid _ h0 h1 (by omega)
    obtain ⟨_, r2, r3, hr, hrep⟩ := ih ha0 ha (by omega) k0 k1
    exact Ev.succ (one i a u h0 h1 hu hub (by omega)) (Ev.bind hr (Ev.congr (fun k => by rw [if_neg (by simp), if_neg (by omega), if_neg (by omega), if_neg (by omega), if_neg (fun h => by have := h.2; omega)]; rfl) (hrep 0)))
  | @plusNo i a u b l o hu _ hb ih =>
    intro ha0 ha hub h0 h1
    obtain ⟨_, k0, k1⟩ := kid _ h0 h1 (by omega)
    exact Ev.succ (one i a u h0 h1 hu hub (by omega)) (Ev.bind (ih ha0 ha (by omega) k0 k1) (Ev.of_eq fun k => by rw [if_neg (by simp), if_neg (by omega), if_neg (by omega), if_neg (by omega), if_pos ⟨hb, o⟩]))
  | @plus i a u b m e l o hu hr1 hb _ ih1 ih2 =>
    intro ha0 ha hub h0 h1
    obtain ⟨_, k0, k1⟩ := kid _ h0 h1 (by omega)
    have hrg := run_range hr1 ha0 ha
    have hlf := run_left hr1
    have hrep := (ih2 hb hrg.2.1 (by omega) k0 k1).1 0 a
    exact Ev.succ (one i a u h0 h1 hu hub (by omega)) (Ev.bind (ih1 ha0 ha (by omega) k0 k1) (Ev.congr (fun k => by rw [if_neg (by simp), if_neg (by omega), if_neg (by omega), if_neg (by omega), if_neg (fun h => by have := h.1; dsimp only at this; omega)]; rfl) hrep))
  | @optNo i a u b l o hu _ hb ih =>
    intro ha0 ha hub h0 h1
    obtain ⟨_, k0, k1⟩ := kid _ h0 h1 (by omega)
    exact Ev.succ (one i a u h0 h1 hu hub (by omega)) (Ev.bind (ih ha0 ha (by omega) k0 k1) (Ev.of_eq fun k => by rw [if_neg (by simp), if_pos o, if_pos hb]))
  | @opt i a u b l o hu _ hb ih =>
    intro ha0 ha hub h0 h1
    obtain ⟨_, k0, k1⟩ := kid _ h0 h1 (by omega)
    exact Ev.succ (one i a u h0 h1 hu hub (by omega)) (Ev.bind (ih ha0 ha (by omega) k0 k1) (Ev.of_eq fun k => by rw [if_neg (by simp), if_pos o, if_neg (by dsimp only; omega)]))
  | @andNo i a u b l o hu _ hb ih =>
    intro ha0 ha hub h0 h1
    obtain ⟨_, k0, k1⟩ := kid _ h0 h1 (by omega)
    exact Ev.succ (one i a u h0 h1 hu hub (by omega)) (Ev.bind (ih ha0 ha (by omega) k0 k1) (Ev.of_eq fun k => by rw [if_neg (by simp), if_neg (by omega), if_pos o, if_pos hb]))
  | @and i a u b l o hu _ hb ih =>
    intro ha0 ha hub h0 h1
    obtain ⟨_, k0, k1⟩ := kid _ h0 h1 (by omega)
    exact Ev.succ (one i a u h0 h1 hu hub (by omega)) (Ev.bind (ih ha0 ha (by omega) k0 k1) (Ev.of_eq fun k => by rw [if_neg (by simp), if_neg (by omega), if_pos o, if_neg (by dsimp only; omega)]))
  | @notNo i a u b l o hu _ hb ih =>
    intro ha0 ha hub h0 h1
    obtain ⟨_, k0, k1⟩ := kid _ h0 h1 (by omega)
    exact Ev.succ (one i a u h0 h1 hu hub (by omega)) (Ev.bind (ih ha0 ha (by omega) k0 k1) (Ev.of_eq fun k => by rw [if_neg (by simp), if_neg (by omega), if_neg (by omega), if_pos o, if_neg (by dsimp only; omega)]))
  | @not i a u b l o hu _ hb ih =>
    intro ha0 ha hub h0 h1
    obtain ⟨_, k0, k1⟩ := kid _ h0 h1 (by omega)
    exact Ev.succ (one i a u h0 h1 hu hub (by omega)) (Ev.bind (ih ha0 ha (by omega) k0 k1) (Ev.of_eq fun k => by rw [if_neg (by simp), if_neg (by omega), if_neg (by omega), if_pos o, if_pos hb]))
  | seqNil => exact fun ha0 ha hub _ => Ev.of_eq fun k => by rw [vetchref18_Node.seqF]
  | @seqNo c cs a u b l _ hb ih =>
    intro ha0 ha hub hk
    have hc := hk c (by simp)
    exact Ev.congr (fun k => seqF_cons _ _ _ _ _) (Ev.bind (ih ha0 ha hub hc.1 hc.2) (Ev.of_eq fun _ => if_neg (fun h => by have := h.2; dsimp only at this; omega)))
  | @seqGo c cs a u b m e l hr1 hb _ ih1 ih2 =>
    intro ha0 ha hub hk
    have hc := hk c (by simp)
    have hrg := run_range hr1 ha0 ha
    have hlf := run_left hr1
    exact Ev.congr (fun k => seqF_cons _ _ _ _ _) (Ev.bind (ih1 ha0 ha hub hc.1 hc.2) (Ev.congr (fun _ => if_pos ⟨rfl, hb⟩) (ih2 hb hrg.2.1 (by omega) (fun d hd => hk d (List.mem_cons_of_mem _ hd)))))
  | choNil => exact fun ha0 ha hub _ => Ev.of_eq fun k => by rw [vetchref18_Node.choF]
  | @choYes c cs a u b l _ hb ih =>
    intro ha0 ha hub hk
    have hc := hk c (by simp)
    exact Ev.congr (fun k => choF_cons _ _ _ _ _) (Ev.bind (ih ha0 ha hub hc.1 hc.2) (Ev.of_eq fun _ => if_neg (fun h => by have := h.2; dsimp only at this; omega)))
  | @choGo c cs a u b m e l hr1 hb _ ih1 ih2 =>
    intro ha0 ha hub hk
    have hc := hk c (by simp)
    have hrg := run_range hr1 ha0 ha
    have hlf := run_left hr1
    have eb : b = -1 := by omega
    subst eb
    exact Ev.congr (fun k => choF_cons _ _ _ _ _) (Ev.bind (ih1 ha0 ha hub hc.1 hc.2) (Ev.congr (fun _ => if_pos ⟨rfl, hb⟩) (ih2 ha0 ha (by omega) (fun d hd => hk d (List.mem_cons_of_mem _ hd)))))
  | @repEnd c a u b l _ hb ih =>
    intro ha0 ha hub h0 h1
    have hr := ih ha0 ha hub h0 h1
    have fin : ∀ q : Nat, Ev (fun k => vetchref18_Node.repF (fun a u => vetchref18_Node.f (k + q) R G c x a u) k a (true, b, l)) (true, a, l) := fun q =>
      Ev.succ (g := fun _ => some (true, a, l)) (fun k => by rw [vetchref18_Node.repF, if_neg (fun h => by have := h.2; dsimp only at this; omega), if_pos rfl]) (Ev.const _)
    refine ⟨fun q last => Ev.succ (fun k => ?_) (Ev.bind (g := fun k t => vetchref18_Node.repF (fun a u => vetchref18_Node.f (k + (q + 1)) R G c x a u) k a t) (Ev.shift (q + 1) hr) (fin (q + 1))), b, l, hr, fin⟩
    rw [vetchref18_Node.repF, if_pos ⟨rfl, ha0⟩, show k + 1 + q = k + (q + 1) by omega]
  | @repGo c a u b m e l hr1 hb _ ih1 ih2 =>
    intro ha0 ha hub h0 h1
    have hr := ih1 ha0 ha hub h0 h1
    have hrg := run_range hr1 ha0 ha
    have hlf := run_left hr1
    obtain ⟨hrep, _⟩ := ih2 hb hrg.2.1 (by omega) h0 h1
    refine ⟨fun q last => Ev.succ (fun k => ?_) (Ev.bind (g := fun k t => vetchref18_Node.repF (fun a u => vetchref18_Node.f (k + (q + 1)) R G c x a u) k a t) (Ev.shift (q + 1) hr) (hrep (q + 1) a)), b, m, hr, fun q => hrep q a⟩
    rw [vetchref18_Node.repF, if_pos ⟨rfl, ha0⟩, show k + 1 + q = k + (q + 1) by omega]
end Go.Proofs.Ythgedejnpgcacaa.V
namespace Go.Proofs.Ythgedejnpgcacaa.V
open Go.RowKit Go.Proofs.YthgedejnpgcacaaW.PrintWords
set_option linter.unusedVariables false
theorem Pure.PureNaiveCosts : ∀ (l0_0 : List RuleT) (l0_1 : List NodeT) (a1 : ByteArray) (a2 : Int), (l0_0.length ≤ maxLen ∧ ∀ y ∈ l0_0, Ok51 y) → (l0_1.length ≤ maxLen ∧ ∀ y ∈ l0_1, Ok56 y) → (a1.size ≤ maxLen) → ((Lit.int .i64 a2).wf = true) → ∃ k, vetchlaw18_NaiveCosts.f k l0_0 l0_1 a1 a2 = some true := by
  intro R G x u hR hG hx hu
  simp [Lit.wf, IntKind.min, IntKind.max, IntKind.signed, IntKind.bits] at hu
  obtain ⟨b, hb, hbs⟩ := fits_ev hR hG x u
  have fin : Ev (fun k => vetchlaw18_NaiveCosts.j0 k x u (!b) R G) true := by
    cases b with
    | false => exact Ev.succ (fun k => by rw [vetchlaw18_NaiveCosts.j0, if_pos (by decide)]) (Ev.bind (g := fun _ t => some t) awake_ev (Ev.const _))
    | true =>
      obtain ⟨hw, h1, h2, h3, h4⟩ := hbs rfl
      have hr0 := hw.rules.1
      have hroot := hw.roots 0 (Int.le_refl _) (by omega)
      obtain ⟨r, e1, ⟨k1, f1⟩, g1⟩ := run_ev hR hG (x := x) (by omega) hw u (by omega)
      obtain ⟨s, e2, g2, hrun⟩ := node_run (x := x) (by omega) (by omega) hw hG.2 (kids_le hR hG hw) u.toNat u (by omega) (by omega) (ruleAt R 0).f1 0 hroot.1 hroot.2 (Int.le_refl _) (by omega)
      obtain rfl := Ev.uniq e2 e1
      obtain ⟨k2, e1⟩ := e1
      dsimp only at f1 e1
      have ref : ∀ k, k2 ≤ k → vetchref18_Run.f k R G x u = some s := fun k hk => by
        unfold vetchref18_Run.f
        rw [if_pos (by omega), e1 k hk]
        rfl
      obtain ⟨r1, r2, r3⟩ := s
      cases r1 with
      | false =>
        obtain ⟨u1, u2⟩ := g1.unk rfl
        dsimp only at u1 u2
        subst u1 u2
        refine ⟨k1 + k2 + 1, fun j hj => ?_⟩
        obtain ⟨k, rfl⟩ : ∃ k, j = k + 1 := ⟨j - 1, by omega⟩
        show vetchlaw18_NaiveCosts.j0 (k + 1) x u (!true) R G = some true
        have hc : naive_Cost.f k R G x u = some (0, false) := by
          unfold naive_Cost.f
          rw [f1 k (by omega), Option.bind_some]
          rfl
        rw [vetchlaw18_NaiveCosts.j0, if_neg (by decide), hc, Option.bind_some, ref k (by omega), Option.bind_some]
        rfl
      | true =>
        obtain ⟨q1, q2, q3, q4, q5⟩ := g1.known rfl
        dsimp only at q1 q2 q3 q4 q5
        have hrn := hrun rfl
        dsimp only at hrn
        have hn := run_less hrn r3 (Int.le_refl _)
        rw [Int.sub_self] at hn
        have hdo := run_does (x := x) (by omega) hw hG.2 hn (Int.le_refl _) (by omega) (by omega) hroot.1 hroot.2
        obtain ⟨t, e3, ⟨k3, f3⟩, g3⟩ := run_ev hR hG (x := x) (by omega) hw (u - r3) (by omega)
        obtain rfl := Ev.uniq hdo e3
        obtain ⟨v, e4, ⟨k4, f4⟩, g4⟩ := run_ev hR hG (x := x) (by omega) hw (u - r3 - 1) (by omega)
        obtain ⟨v', e5, g5, hrun5⟩ := node_run (x := x) (by omega) (by omega) hw hG.2 (kids_le hR hG hw) (u - r3 - 1).toNat (u - r3 - 1) (by omega) (by omega) (ruleAt R 0).f1 0 hroot.1 hroot.2 (Int.le_refl _) (by omega)
        obtain rfl := Ev.uniq e5 e4
        have hv : v'.1 = false := by
          cases h : v'.1 with
          | false => rfl
          | true =>
            have hk5 := g4.known h
            have hm := run_less (hrun5 h) (-1) (by omega)
            have hd2 := run_does (x := x) (by omega) hw hG.2 hm (Int.le_refl _) (by omega) (by omega) hroot.1 hroot.2
            rw [show u - r3 - 1 - -1 = u - r3 by omega] at hd2
            have := Ev.uniq hd2 e3
            simp only [Prod.mk.injEq] at this
            omega
        dsimp only at f3 f4
        refine ⟨k1 + k2 + k3 + k4 + 1, fun j hj => ?_⟩
        obtain ⟨k, rfl⟩ : ∃ k, j = k + 1 := ⟨j - 1, by omega⟩
        show vetchlaw18_NaiveCosts.j0 (k + 1) x u (!true) R G = some true
        have hc : naive_Cost.f k R G x u = some (u - r3, true) := by
          unfold naive_Cost.f
          rw [f1 k (by omega), Option.bind_some, if_neg (by simp), w64p (u - r3) (by omega)]
        rw [vetchlaw18_NaiveCosts.j0, if_neg (by decide), hc, Option.bind_some, ref k (by omega), Option.bind_some]
        dsimp only
        rw [if_pos rfl, f3 k (by omega), Option.bind_some, if_pos rfl, w64p (u - r3) (by omega), if_pos rfl, if_pos rfl, if_pos rfl, if_pos rfl, w64p (u - r3 - 1) (by omega), f4 k (by omega), Option.bind_some, hv]
        rfl
  exact (Ev.bind awake_ev (Ev.congr (fun k => if_pos rfl) (Ev.bind hb fin))).out
end Go.Proofs.Ythgedejnpgcacaa.V
namespace Go.Proofs.Ythgedejnpgcacaa.naiveCosts
open Go.ChangeShapes Go.WideShapes Go.ChangeAt Go.RowKit Go.Proofs.Ythgedejnpgcacaa.Opens Go.Proofs.Ythgedejnpgcacaa.V Go.Proofs.YthgedejnpgcacaaW.PrintWords
open Go.ChangeMaps (open_string shut_string)
set_option linter.unusedVariables false
theorem own : ownKnob Try.prog.godebug = none := by kernel_rfl
theorem laidOut : laidOutB Try.prog = true := by kernel_rfl
set_option maxRecDepth 100000 in
theorem lifted (os : Os) (started : os.Started) (H : Type) (enc : TypeId × Value → H) :
    ReturnsInHanded {} Try.checked os 5 .any (Rows.naiveCostsSpec.pre6 enc Try.prog Try.f5 Rows.naiveCostsRow.domain false) (Rows.naiveCostsSpec.post enc Try.prog Try.f5 false true false false) := by
  refine returnsInHanded_of_change_sized (C := Try.checked) own started (by kernel_rfl) Try.func5
    (ChangeSpec.witness6 (enc := enc) (C := Try.checked) false ⟨#[], #[.agg #[.slice none 0 0, .slice none 0 0], .string ByteArray.empty, .int .i64 0], []⟩ 8 (by kernel_rfl) (by kernel_rfl) (by kernel_rfl) (by kernel_rfl)) ?_
  intro W base args ds gs before hval0 hW hcnd hsz0 _
  have hval : ∀ (j : Nat) t v, Try.f5.params[j]? = some t → args[j]? = some v → Value.okWide Try.prog W .any base t v := hval0
  have hW' := hW
  obtain ⟨p, q, hA0, hV, rfl, hfz, hnd⟩ := hW
  have hA : DataW.TrodAll enc Try.prog W 0 (fun _ => true) true Try.f5.params.toList args.toList ds p := hA0
  rw [Try.params5] at hA hval
  obtain ⟨v0, vs0, d0, ds0, p0, q0, hargs, rfl, rfl, h0, r0⟩ := trodAll_cons hA
  obtain ⟨v1, vs1, d1, ds1, p1, q1, rfl, rfl, rfl, h1, r1⟩ := trodAll_cons r0
  obtain ⟨v2, vs2, d2, ds2, p2, q2, rfl, rfl, rfl, h2, r2⟩ := trodAll_cons r1
  obtain ⟨rfl, rfl, rfl⟩ := trodAll_nil r2
  obtain rfl : args = #[v0, v1, v2] := by cases args; simp_all
  obtain ⟨rfl, rfl⟩ := trodVars_none hV
  have lt0 := trod_lts h0
  obtain ⟨cs0, rfl, _⟩ := okWide_struct Try.underlying25 (hval 0 25 v0 rfl rfl)
  obtain ⟨b0, hK0, ok0⟩ := Opn.arg (opn25 W) h0
  obtain ⟨L0, hL0⟩ : ∃ L, L = cs0.toList := ⟨_, rfl⟩
  replace hK0 : ((Kd.pair (Kd.slice 51 k51) (Kd.slice 56 k56))).K W b0 L0 := by rw [hL0]; exact hK0
  obtain ⟨l0_0, l0_1⟩ := b0
  obtain ⟨_, _, rfl, ⟨A0_0, c0_0, rfl, lc0_0, g0_0⟩, ⟨A0_1, c0_1, rfl, lc0_1, g0_1⟩⟩ := hK0
  obtain ⟨w0_0, w0_1⟩ := ok0
  obtain rfl : cs0 = #[.slice A0_0 l0_0.length c0_0, .slice A0_1 l0_1.length c0_1] := by cases cs0; simp_all
  obtain ⟨a1, rfl, rfl, rfl, w1⟩ := open_string Try.underlying9 (hval 1 9 v1 rfl rfl) h1
  obtain ⟨a2, rfl, rfl, rfl, w2⟩ := open_int Try.underlying3 (hval 2 3 v2 rfl rfl) h2
  clear hA0 hval0 hsz0
  obtain ⟨k, hk⟩ := Pure.PureNaiveCosts l0_0 l0_1 a1 a2 w0_0 w0_1 w1 w2
  refine (vetchlaw18_NaiveCosts.calls k A0_0 c0_0 l0_0 A0_1 c0_1 l0_1 a1 a2 true W g0_0 lc0_0 g0_1 lc0_1 hk).mono fun e W' ⟨he, bel⟩ => ?_
  subst he
  exact ⟨_, rfl, _, _, _, [], _, [], hW', trodAll_mk1 (shut_bool Try.underlying4 _), (trodAll_cons_mk (Below.trod laidOut (by kernel_rfl) (of_decide_eq_true (by kernel_rfl)) h0 bel lt0) (trodAll_cons_mk (shut_string Try.underlying9 w1) (trodAll_cons_mk (shut_int Try.underlying3 w2) trodAll_mk0))), rfl, bel.frame _, fun h => by cases h⟩
theorem over : Rows.naiveCostsRow.holds Try.pinned (OpenSpec.ofChange Rows.naiveCostsSpec) :=
  OpenClaim.holds_of_wide 5 Try.f5 rfl rfl rfl rfl rfl rfl rfl ⟨rfl, rfl, rfl, rfl, rfl⟩ rfl rfl rfl rfl rfl (by kernel_rfl) Try.func5 (by kernel_rfl)
    (of_decide_eq_true (by kernel_rfl)) (by unfold Func.isWrapper; first | (rw [if_pos (by decide +kernel)]; kernel_rfl) | (rw [if_neg (by decide +kernel)]; exact ⟨rfl, rfl⟩))
    (fun os started H enc _ => lifted os started H enc)
end Go.Proofs.Ythgedejnpgcacaa.naiveCosts
namespace Go.Proofs.Ythgedejnpgcacaa
theorem naiveCosts_holds : Rows.NaiveCostsSaid := naiveCosts.over
#print axioms naiveCosts_holds
end Go.Proofs.Ythgedejnpgcacaa
