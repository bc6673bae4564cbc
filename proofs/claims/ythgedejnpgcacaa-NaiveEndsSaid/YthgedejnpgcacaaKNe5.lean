/- The law NaiveEnds returns true whatever comes in, and leaves its arguments as they were. No condition. -/
import Derived.Test.YthgedejnpgcacaaKNe4
import Derived.Test.YthgedejnpgcacaaRows
import Derived.WalkKit
import Derived.ProofKit
import Derived.OpenShut
import Derived.ShutString
import Derived.ChangeOld
import Derived.Below
import Derived.SizedLaws
import Derived.Carry
namespace Go.Proofs.Ythgedejnpgcacaa.V
open Go.RowKit Go.Proofs.YthgedejnpgcacaaW.PrintWords
set_option linter.unusedVariables false
set_option linter.unusedSimpArgs false
set_option linter.unusedSectionVars false
structure Good (x : ByteArray) (a u : Int) (r : Bool × Int × Int) : Prop where
  known : r.1 = true → 0 ≤ r.2.2 ∧ r.2.2 ≤ u ∧ -1 ≤ r.2.1 ∧ r.2.1 ≤ (x.size : Int) ∧ (0 ≤ r.2.1 → a ≤ r.2.1)
  unk : r.1 = false → r.2.1 = 0 ∧ r.2.2 = 0
def Sim (x : ByteArray) (r : Bool × Int × Int) (q : Int × ByteArray × Int) : Prop := q.1 = (if r.1 = true then r.2.1 else -2) ∧ q.2.1 = x ∧ (r.1 = true → q.2.2 = r.2.2)
def NodeRel (R : List RuleT) (G : List NodeT) (x : ByteArray) (i a u : Int) : Prop :=
  ∃ r q, Ev (fun k => vetchref18_Node.f k R G i x a u) r ∧ Ev (fun k => naive_evaluator_node.f k R G x u i a) q ∧ Sim x r q ∧ Good x a (u - 1) r
section
variable {R : List RuleT} {G : List NodeT} {x : ByteArray} (hx : x.size ≤ 1000000) (hR : R.length ≤ 1000000) (hG : G.length ≤ 1000000) (hw : WF R G) (hok : ∀ y ∈ G, Ok56 y) (hkl : ∀ i : Int, 0 ≤ i → i < (G.length : Int) → (nodeAt G i).f1.length ≤ 9223372036854775807)
include hx hG hw hok hkl
theorem rd_in (xs : List Int) (j : Int) (h0 : 0 ≤ j) (h1 : j < (xs.length : Int)) : rd xs j ∈ xs := by
  have h : j.toNat < xs.length := by omega
  unfold rd
  rw [List.getD_eq_getElem?_getD, List.getElem?_eq_getElem h]
  exact List.getElem_mem h
omit hx hG hw hok hkl in
theorem rd_mem56 (G : List NodeT) (i : Int) (h0 : 0 ≤ i) (h1 : i < (G.length : Int)) : nodeAt G i ∈ G := by
  have h : i.toNat < G.length := by omega
  show G.getD i.toNat _ ∈ G
  rw [List.getD_eq_getElem?_getD, List.getElem?_eq_getElem h]
  exact List.getElem_mem h
omit hx hG hw hok hkl in
theorem good_weaken {a a' u u' : Int} {r : Bool × Int × Int} (h : Good x a u r) (ha : a' ≤ a) (hu : u ≤ u') : Good x a' u' r :=
  ⟨fun hk => by have := h.known hk; omega, h.unk⟩
theorem seq_rel (n : Int) (hn : n ≤ 1000000000) (ih : ∀ u, u ≤ n → ∀ i a, 0 ≤ i → i < (G.length : Int) → 0 ≤ a → a ≤ (x.size : Int) → NodeRel R G x i a u) (kids : List Int) (hk : ∀ c ∈ kids, 0 ≤ c ∧ c < (G.length : Int)) (hl : kids.length ≤ 9223372036854775807) :
    ∀ (m : Nat) (j : Int), 0 ≤ j → j.toNat + m = kids.length → ∀ a u, 0 ≤ u → u ≤ n → 0 ≤ a → a ≤ (x.size : Int) →
      ∃ r q, Ev (fun k => vetchref18_Node.seqF (fun c a u => vetchref18_Node.f k R G c x a u) (kids.drop j.toNat) a u) r ∧ Ev (fun k => naive_evaluator_seq.l0 k a kids (kids.length : Int) j R G x u) q ∧ Sim x r q ∧ Good x a u r := by
  intro m
  induction m with
  | zero =>
    intro j h0 hm a u hu0 hu ha0 ha
    refine ⟨(true, a, u), (a, x, u), Ev.of_eq fun k => by rw [List.drop_eq_nil_of_le (by omega), vetchref18_Node.seqF], Ev.succ (g := fun _ => some _) (fun k => by rw [naive_evaluator_seq.l0, if_neg (by omega)]) (Ev.const _), ⟨by simp, rfl, fun _ => rfl⟩, ⟨fun _ => ?_, fun h => absurd h (by simp)⟩⟩
    exact ⟨hu0, Int.le_refl _, by show -1 ≤ a; omega, ha, fun _ => Int.le_refl _⟩
  | succ m ihm =>
    intro j h0 hm a u hu0 hu ha0 ha
    have hj : j < (kids.length : Int) := by omega
    have hc := hk _ (rd_in hx hG hw hok hkl kids j h0 hj)
    obtain ⟨r, q, hr, hq, hs, hg⟩ := ih u hu (rd kids j) a hc.1 hc.2 ha0 ha
    obtain ⟨r1, r2, r3⟩ := r
    obtain ⟨q1, q2, q3⟩ := q
    obtain ⟨s1, s2, s3⟩ := hs
    dsimp only at s1 s2 s3
    subst s2
    have stepR : ∀ k, vetchref18_Node.seqF (fun c a u => vetchref18_Node.f k R G c q2 a u) (kids.drop j.toNat) a u = (vetchref18_Node.f k R G (rd kids j) q2 a u).bind fun r => if r.1 = true ∧ 0 ≤ r.2.1 then vetchref18_Node.seqF (fun c a u => vetchref18_Node.f k R G c q2 a u) (kids.drop (j + 1).toNat) r.2.1 r.2.2 else some r := fun k => by
      rw [h18_drop kids j h0 hj, vetchref18_Node.seqF]
    have stepQ : ∀ k, naive_evaluator_seq.l0 (k + 1) a kids (kids.length : Int) j R G q2 u = (naive_evaluator_node.f k R G q2 u (rd kids j) a).bind fun t => if t.1 < 0 then some (t.1, t.2.1, t.2.2) else naive_evaluator_seq.l0 k t.1 kids (kids.length : Int) (j + 1) R G t.2.1 t.2.2 := fun k => by
      rw [naive_evaluator_seq.l0, if_pos hj, if_pos h0, if_pos hj, w64p (j + 1) (by omega)]
    by_cases hc2 : r1 = true ∧ 0 ≤ r2
    · obtain ⟨rfl, hr2⟩ := hc2
      obtain ⟨g1, g2, g3, g4, g5⟩ := hg.known rfl
      dsimp only at g1 g2 g3 g4 g5
      obtain ⟨r', q', hr', hq', hs', hg'⟩ := ihm (j + 1) (by omega) (by omega) r2 r3 g1 (by omega) hr2 g4
      have e1 : q1 = r2 := by simpa using s1
      have e3 := s3 rfl
      subst e1 e3
      exact ⟨r', q', Ev.congr stepR (Ev.bind hr (Ev.congr (fun k => if_pos ⟨rfl, hr2⟩) hr')), Ev.succ stepQ (Ev.bind hq (Ev.congr (fun k => if_neg (by show ¬ q1 < 0; omega)) hq')), hs', good_weaken hg' (g5 hr2) (by omega)⟩
    · have hq0 : q1 < 0 := by
        rw [s1]
        split
        · rename_i h; have : ¬ 0 ≤ r2 := fun h2 => hc2 ⟨h, h2⟩; omega
        · omega
      exact ⟨(r1, r2, r3), (q1, q2, q3), Ev.congr stepR (Ev.bind hr (Ev.of_eq fun _ => if_neg hc2)), Ev.succ stepQ (Ev.bind hq (Ev.of_eq fun _ => if_pos hq0)), ⟨s1, rfl, s3⟩, good_weaken hg (Int.le_refl _) (by omega)⟩
theorem cho_rel (n : Int) (hn : n ≤ 1000000000) (ih : ∀ u, u ≤ n → ∀ i a, 0 ≤ i → i < (G.length : Int) → 0 ≤ a → a ≤ (x.size : Int) → NodeRel R G x i a u) (kids : List Int) (hk : ∀ c ∈ kids, 0 ≤ c ∧ c < (G.length : Int)) (hl : kids.length ≤ 9223372036854775807) (a : Int) (ha0 : 0 ≤ a) (ha : a ≤ (x.size : Int)) :
    ∀ (m : Nat) (j : Int), 0 ≤ j → j.toNat + m = kids.length → ∀ e u, 0 ≤ u → u ≤ n → e = -1 →
      ∃ r q, Ev (fun k => vetchref18_Node.choF (fun c u => vetchref18_Node.f k R G c x a u) (kids.drop j.toNat) e u) r ∧ Ev (fun k => naive_evaluator_choice.l0 k a kids (kids.length : Int) j R G x u) q ∧ Sim x r q ∧ Good x a u r := by
  intro m
  induction m with
  | zero =>
    intro j h0 hm e u hu0 hu he
    subst he
    refine ⟨(true, -1, u), (-1, x, u), Ev.of_eq fun k => by rw [List.drop_eq_nil_of_le (by omega), vetchref18_Node.choF], Ev.succ (g := fun _ => some _) (fun k => by rw [naive_evaluator_choice.l0, if_neg (by omega)]) (Ev.const _), ⟨by simp, rfl, fun _ => rfl⟩, ⟨fun _ => ?_, fun h => absurd h (by simp)⟩⟩
    exact ⟨hu0, Int.le_refl _, Int.le_refl _, by show (-1 : Int) ≤ _; omega, fun h => absurd h (by simp)⟩
  | succ m ihm =>
    intro j h0 hm e u hu0 hu he
    have hj : j < (kids.length : Int) := by omega
    have hc := hk _ (rd_in hx hG hw hok hkl kids j h0 hj)
    obtain ⟨r, q, hr, hq, hs, hg⟩ := ih u hu (rd kids j) a hc.1 hc.2 ha0 ha
    obtain ⟨r1, r2, r3⟩ := r
    obtain ⟨q1, q2, q3⟩ := q
    obtain ⟨s1, s2, s3⟩ := hs
    dsimp only at s1 s2 s3
    subst s2
    have stepR : ∀ k, vetchref18_Node.choF (fun c u => vetchref18_Node.f k R G c q2 a u) (kids.drop j.toNat) e u = (vetchref18_Node.f k R G (rd kids j) q2 a u).bind fun r => if r.1 = true ∧ r.2.1 < 0 then vetchref18_Node.choF (fun c u => vetchref18_Node.f k R G c q2 a u) (kids.drop (j + 1).toNat) r.2.1 r.2.2 else some r := fun k => by
      rw [h18_drop kids j h0 hj, vetchref18_Node.choF]
    have stepQ : ∀ k, naive_evaluator_choice.l0 (k + 1) a kids (kids.length : Int) j R G q2 u = (naive_evaluator_node.f k R G q2 u (rd kids j) a).bind fun t => if t.1 = (-1) then naive_evaluator_choice.l0 k a kids (kids.length : Int) (j + 1) R G t.2.1 t.2.2 else some (t.1, t.2.1, t.2.2) := fun k => by
      rw [naive_evaluator_choice.l0, if_pos hj, if_pos h0, if_pos hj, w64p (j + 1) (by omega)]
    by_cases hc2 : r1 = true ∧ r2 < 0
    · obtain ⟨rfl, hr2⟩ := hc2
      obtain ⟨g1, g2, g3, g4, g5⟩ := hg.known rfl
      dsimp only at g1 g2 g3 g4 g5
      have er : r2 = -1 := by omega
      subst er
      obtain ⟨r', q', hr', hq', hs', hg'⟩ := ihm (j + 1) (by omega) (by omega) (-1) r3 g1 (by omega) rfl
      have e1 : q1 = -1 := by simpa using s1
      have e3 := s3 rfl
      subst e1 e3
      exact ⟨r', q', Ev.congr stepR (Ev.bind hr (Ev.congr (fun k => if_pos ⟨rfl, hr2⟩) hr')), Ev.succ stepQ (Ev.bind hq (Ev.congr (fun k => if_pos rfl) hq')), hs', good_weaken hg' (Int.le_refl _) (by omega)⟩
    · have hq0 : q1 ≠ -1 := by
        rw [s1]
        split
        · rename_i h; have : ¬ r2 < 0 := fun h2 => hc2 ⟨h, h2⟩; omega
        · omega
      exact ⟨(r1, r2, r3), (q1, q2, q3), Ev.congr stepR (Ev.bind hr (Ev.of_eq fun _ => if_neg hc2)), Ev.succ stepQ (Ev.bind hq (Ev.of_eq fun _ => if_neg hq0)), ⟨s1, rfl, s3⟩, good_weaken hg (Int.le_refl _) (by omega)⟩
theorem rep_rel (n : Int) (hn : n ≤ 1000000000) (ih : ∀ u, u ≤ n → ∀ i a, 0 ≤ i → i < (G.length : Int) → 0 ≤ a → a ≤ (x.size : Int) → NodeRel R G x i a u) (c : Int) (hc0 : 0 ≤ c) (hc : c < (G.length : Int)) :
    ∀ (m : Nat) (u : Int), u.toNat = m → 0 ≤ u → u ≤ n → ∀ a, 0 ≤ a → a ≤ (x.size : Int) →
      ∃ r q, (∀ b last, Ev (fun k => vetchref18_Node.repF (fun a u => vetchref18_Node.f (k + b) R G c x a u) k last (true, a, u)) r) ∧ Ev (fun k => naive_evaluator_repeat.l0 k c a R G x u) q ∧ Sim x r q ∧ Good x a u r ∧ (r.1 = true → 0 ≤ r.2.1) := by
  intro m
  induction m using Nat.strongRecOn with
  | _ m ihm =>
  intro u hm hu0 hu a ha0 ha
  obtain ⟨r, q, hr, hq, hs, hg⟩ := ih u hu c a hc0 hc ha0 ha
  obtain ⟨r1, r2, r3⟩ := r
  obtain ⟨q1, q2, q3⟩ := q
  obtain ⟨s1, s2, s3⟩ := hs
  dsimp only at s1 s2 s3
  subst s2
  have stepR : ∀ b last k, vetchref18_Node.repF (fun a u => vetchref18_Node.f (k + 1 + b) R G c q2 a u) (k + 1) last (true, a, u) = (vetchref18_Node.f (k + (b + 1)) R G c q2 a u).bind fun t => vetchref18_Node.repF (fun a u => vetchref18_Node.f (k + (b + 1)) R G c q2 a u) k a t := fun b last k => by
    rw [vetchref18_Node.repF, if_pos ⟨rfl, ha0⟩, show k + 1 + b = k + (b + 1) by omega]
  have stepQ : ∀ k, naive_evaluator_repeat.l0 (k + 1) c a R G q2 u = (naive_evaluator_node.f k R G q2 u c a).bind fun t => if t.1 = (-1) then some (a, t.2.1, t.2.2) else if t.1 = (-2) then some ((-2), t.2.1, t.2.2) else naive_evaluator_repeat.l0 k c t.1 R G t.2.1 t.2.2 := fun k => by
    rw [naive_evaluator_repeat.l0]
  cases r1 with
  | false =>
    obtain ⟨u1, u2⟩ := hg.unk rfl
    dsimp only at u1 u2
    subst u1 u2
    have e1 : q1 = -2 := by simpa using s1
    subst e1
    refine ⟨(false, 0, 0), (-2, q2, q3), fun b last => Ev.succ (stepR b last) (Ev.bind (Ev.shift (b + 1) hr) ?_), Ev.succ stepQ (Ev.bind hq (Ev.of_eq fun _ => by rw [if_neg (by show ¬ (-2 : Int) = -1; decide), if_pos rfl])), ⟨by simp, rfl, fun h => absurd h (by simp)⟩, ⟨fun h => absurd h (by simp), fun _ => ⟨rfl, rfl⟩⟩, fun h => absurd h (by simp)⟩
    exact Ev.succ (g := fun _ => some (false, 0, 0)) (fun k => by rw [vetchref18_Node.repF, if_neg (by simp), if_neg (by simp)]) (Ev.const _)
  | true =>
    obtain ⟨g1, g2, g3, g4, g5⟩ := hg.known rfl
    dsimp only at g1 g2 g3 g4 g5
    have e1 : q1 = r2 := by simpa using s1
    have e3 := s3 rfl
    subst e1 e3
    by_cases hr2 : 0 ≤ q1
    · obtain ⟨r', q', hr', hq', hs', hg', hp'⟩ := ihm q3.toNat (by omega) q3 rfl g1 (by omega) q1 hr2 g4
      exact ⟨r', q', fun b last => Ev.succ (stepR b last) (Ev.bind (Ev.shift (b + 1) hr) (hr' (b + 1) a)), Ev.succ stepQ (Ev.bind hq (Ev.congr (fun k => by rw [if_neg (by show ¬ q1 = -1; omega), if_neg (by show ¬ q1 = -2; omega)]) hq')), hs', good_weaken hg' (g5 hr2) (by omega), hp'⟩
    · have e : q1 = -1 := by omega
      subst e
      refine ⟨(true, a, q3), (a, q2, q3), fun b last => Ev.succ (stepR b last) (Ev.bind (Ev.shift (b + 1) hr) ?_), Ev.succ stepQ (Ev.bind hq (Ev.of_eq fun _ => if_pos rfl)), ⟨by simp, rfl, fun _ => rfl⟩, ⟨fun _ => ⟨g1, by show q3 ≤ u; omega, by show -1 ≤ a; omega, ha, fun _ => Int.le_refl _⟩, fun h => absurd h (by simp)⟩, fun _ => ha0⟩
      exact Ev.succ (g := fun _ => some (true, a, q3)) (fun k => by rw [vetchref18_Node.repF, if_neg (by simp), if_pos rfl]) (Ev.const _)
theorem node_rel : ∀ (n : Nat) (u : Int), u ≤ n → u ≤ 100000000 → ∀ i a, 0 ≤ i → i < (G.length : Int) → 0 ≤ a → a ≤ (x.size : Int) → NodeRel R G x i a u := by
  intro n
  induction n with
  | zero =>
    intro u hu _ i a hi0 hi ha0 ha
    refine ⟨(false, 0, 0), (-2, x, u), Ev.succ (g := fun _ => some (false, 0, 0)) (fun k => by rw [vetchref18_Node.f, if_pos (by omega)]) (Ev.const _), Ev.succ (g := fun _ => some (-2, x, u)) (fun k => by rw [naive_evaluator_node.f, if_pos (by omega)]) (Ev.const _), ⟨by simp, rfl, fun h => absurd h (by simp)⟩, ⟨fun h => absurd h (by simp), fun _ => ⟨rfl, rfl⟩⟩⟩
  | succ n ih0 =>
    intro u hu hub i a hi0 hi ha0 ha
    by_cases hu1 : u < 1
    · exact ih0 u (by omega) hub i a hi0 hi ha0 ha
    have ih : ∀ u', u' ≤ u - 1 → ∀ i a, 0 ≤ i → i < (G.length : Int) → 0 ≤ a → a ≤ (x.size : Int) → NodeRel R G x i a u' := fun u' hu' => ih0 u' (by omega) (by omega)
    have hwr : wrap64 (u - 1) = u - 1 := w64p _ (by omega)
    obtain ⟨m0, m1, m2, m3, m4, m5, m6, m7, m8⟩ := hw.made i hi0 hi
    have hkids := hw.kids i hi0 hi
    have hkids' : ∀ c ∈ (nodeAt G i).f1, 0 ≤ c ∧ c < (G.length : Int) := fun c hc => by have := hkids c hc; omega
    have hl := hkl i hi0 hi
    have hn9 : u - 1 ≤ 1000000000 := by omega
    have unit : ∀ (e : Int), -1 ≤ e → e ≤ (x.size : Int) → (0 ≤ e → a ≤ e) → Sim x (true, e, u - 1) (e, x, u - 1) ∧ Good x a (u - 1) (true, e, u - 1) := fun e h1 h2 h3 =>
      ⟨⟨by simp, rfl, fun _ => rfl⟩, ⟨fun _ => ⟨by show 0 ≤ u - 1; omega, Int.le_refl _, h1, h2, h3⟩, fun h => absurd h (by simp)⟩⟩
    by_cases o0 : (nodeAt G i).f0 = 0
    · obtain ⟨h1, h2⟩ := unit a (by omega) ha (fun _ => Int.le_refl _)
      exact ⟨_, _, Ev.succ (g := fun _ => some (true, a, u - 1)) (fun k => by rw [vetchref18_Node.f, if_neg hu1, if_pos ⟨hi0, hi⟩, if_pos o0, hwr]) (Ev.const _), Ev.succ (g := fun _ => some (a, x, u - 1)) (fun k => by rw [naive_evaluator_node.f, if_neg hu1, if_pos hi0, if_pos hi, if_pos o0, hwr]) (Ev.const _), h1, h2⟩
    by_cases o1 : (nodeAt G i).f0 = 1
    · by_cases hlt : a < (x.size : Int)
      · have hset := (hok _ (rd_mem56 G i hi0 hi)).2.2.2
        obtain ⟨b, hb1, hb2⟩ := has_ev (nodeAt G i).f3 hset (bt x a) (bt_range x a).1 (bt_range x a).2
        have stepR : ∀ k, vetchref18_Node.f (k + 1) R G i x a u = (vetchref01_Has.f k (nodeAt G i).f3.f0 (nodeAt G i).f3.f1 (nodeAt G i).f3.f2 (nodeAt G i).f3.f3 (bt x a)).bind fun b => if b = true then some (true, a + 1, u - 1) else some (true, -1, u - 1) := fun k => by
          rw [vetchref18_Node.f, if_neg hu1, if_pos ⟨hi0, hi⟩, if_neg o0, if_pos o1, if_pos hlt, if_pos ha0, hwr, w64p (a + 1) (by omega)]
        have stepQ : ∀ k, naive_evaluator_node.f (k + 1) R G x u i a = if b = true then some (a + 1, x, u - 1) else some (-1, x, u - 1) := fun k => by
          rw [naive_evaluator_node.f, if_neg hu1, if_pos hi0, if_pos hi, if_neg o0, if_pos o1, if_pos hlt, if_pos ha0, hwr, w64p (a + 1) (by omega), hb1, Option.bind_some]
        cases b with
        | true =>
          obtain ⟨h1, h2⟩ := unit (a + 1) (by omega) (by omega) (fun _ => by omega)
          exact ⟨_, _, Ev.succ stepR (Ev.bind hb2 (Ev.of_eq fun _ => if_pos rfl)), Ev.succ stepQ (Ev.of_eq fun _ => if_pos rfl), h1, h2⟩
        | false =>
          obtain ⟨h1, h2⟩ := unit (-1) (by omega) (by omega) (fun h => absurd h (by decide))
          exact ⟨_, _, Ev.succ stepR (Ev.bind hb2 (Ev.of_eq fun _ => if_neg (by decide))), Ev.succ stepQ (Ev.of_eq fun _ => if_neg (by decide)), h1, h2⟩
      · obtain ⟨h1, h2⟩ := unit (-1) (by omega) (by omega) (fun h => absurd h (by decide))
        exact ⟨_, _, Ev.succ (g := fun _ => some (true, -1, u - 1)) (fun k => by rw [vetchref18_Node.f, if_neg hu1, if_pos ⟨hi0, hi⟩, if_neg o0, if_pos o1, if_neg hlt, hwr]) (Ev.const _), Ev.succ (g := fun _ => some (-1, x, u - 1)) (fun k => by rw [naive_evaluator_node.f, if_neg hu1, if_pos hi0, if_pos hi, if_neg o0, if_pos o1, if_neg hlt, hwr]) (Ev.const _), h1, h2⟩
    by_cases o2 : (nodeAt G i).f0 = 2
    · obtain ⟨p0, p1⟩ := m6 o2
      have hroot := hw.roots _ p0 p1
      obtain ⟨r, q, hr, hq, hs, hg⟩ := ih (u - 1) (Int.le_refl _) (ruleAt R (nodeAt G i).f2).f1 a hroot.1 hroot.2 ha0 ha
      exact ⟨r, q, Ev.succ (fun k => by rw [vetchref18_Node.f, if_neg hu1, if_pos ⟨hi0, hi⟩, if_neg o0, if_neg o1, if_pos o2, if_pos ⟨p0, p1⟩, hwr]) hr, Ev.succ (g := fun k => (naive_evaluator_node.f k R G x (u - 1) (ruleAt R (nodeAt G i).f2).f1 a).bind fun t => some (t.1, t.2.1, t.2.2)) (fun k => by rw [naive_evaluator_node.f, if_neg hu1, if_pos hi0, if_pos hi, if_neg o0, if_neg o1, if_pos o2, if_pos p0, if_pos p1, hwr]) (Ev.bind hq (Ev.const _)), hs, good_weaken hg (Int.le_refl _) (by omega)⟩
    by_cases o3 : (nodeAt G i).f0 = 3
    · obtain ⟨r, q, hr, hq, hs, hg⟩ := seq_rel hx hG hw hok hkl (u - 1) hn9 ih (nodeAt G i).f1 hkids' hl (nodeAt G i).f1.length 0 (Int.le_refl _) (by simp) a (u - 1) (by omega) (Int.le_refl _) ha0 ha
      refine ⟨r, q, Ev.succ (fun k => by rw [vetchref18_Node.f, if_neg hu1, if_pos ⟨hi0, hi⟩, if_neg o0, if_neg o1, if_neg o2, if_pos o3, hwr]; rfl) hr, Ev.succ (g := fun k => (naive_evaluator_seq.f k R G x (u - 1) (nodeAt G i).f1 a).bind fun t => some (t.1, t.2.1, t.2.2)) (fun k => by rw [naive_evaluator_node.f, if_neg hu1, if_pos hi0, if_pos hi, if_neg o0, if_neg o1, if_neg o2, if_pos o3, hwr]) (Ev.bind (Ev.succ (fun k => by rw [naive_evaluator_seq.f]) hq) (Ev.const _)), hs, hg⟩
    by_cases o4 : (nodeAt G i).f0 = 4
    · obtain ⟨r, q, hr, hq, hs, hg⟩ := cho_rel hx hG hw hok hkl (u - 1) hn9 ih (nodeAt G i).f1 hkids' hl a ha0 ha (nodeAt G i).f1.length 0 (Int.le_refl _) (by simp) (-1) (u - 1) (by omega) (Int.le_refl _) rfl
      refine ⟨r, q, Ev.succ (fun k => by rw [vetchref18_Node.f, if_neg hu1, if_pos ⟨hi0, hi⟩, if_neg o0, if_neg o1, if_neg o2, if_neg o3, if_pos o4, hwr]; rfl) hr, Ev.succ (g := fun k => (naive_evaluator_choice.f k R G x (u - 1) (nodeAt G i).f1 a).bind fun t => some (t.1, t.2.1, t.2.2)) (fun k => by rw [naive_evaluator_node.f, if_neg hu1, if_pos hi0, if_pos hi, if_neg o0, if_neg o1, if_neg o2, if_neg o3, if_pos o4, hwr]) (Ev.bind (Ev.succ (fun k => by rw [naive_evaluator_choice.f]) hq) (Ev.const _)), hs, hg⟩
    have hop5 : 5 ≤ (nodeAt G i).f0 := by omega
    have hlen := m5 hop5
    have hne : (nodeAt G i).f1 ≠ [] := fun h => by rw [h] at hlen; simp at hlen
    have hl0 : (0 : Int) < ((nodeAt G i).f1.length : Int) := by omega
    have hkid := hkids' _ (rd_in hx hG hw hok hkl (nodeAt G i).f1 0 (Int.le_refl _) hl0)
    obtain ⟨r, q, hr, hq, hs, hg⟩ := ih (u - 1) (Int.le_refl _) (rd (nodeAt G i).f1 0) a hkid.1 hkid.2 ha0 ha
    obtain ⟨r1, r2, r3⟩ := r
    obtain ⟨q1, q2, q3⟩ := q
    have hsim := hs
    obtain ⟨s1, s2, s3⟩ := hs
    dsimp only at s1 s2 s3
    subst s2
    have stepR : ∀ k, vetchref18_Node.f (k + 1) R G i q2 a u = (vetchref18_Node.f k R G (rd (nodeAt G i).f1 0) q2 a (u - 1)).bind fun r =>
        if r.1 = false then some r else
        if (nodeAt G i).f0 = 7 then (if r.2.1 < 0 then some (true, a, r.2.2) else some r) else
        if (nodeAt G i).f0 = 8 then (if r.2.1 < 0 then some r else some (true, a, r.2.2)) else
        if (nodeAt G i).f0 = 9 then (if r.2.1 < 0 then some (true, a, r.2.2) else some (true, -1, r.2.2)) else
        if r.2.1 < 0 ∧ (nodeAt G i).f0 = 6 then some r else vetchref18_Node.repF (fun a u => vetchref18_Node.f k R G (rd (nodeAt G i).f1 0) q2 a u) k a r := fun k => by
      rw [vetchref18_Node.f, if_neg hu1, if_pos ⟨hi0, hi⟩, if_neg o0, if_neg o1, if_neg o2, if_neg o3, if_neg o4, if_neg hne, hwr]
    have stepN : ∀ {v}, Ev (fun k => naive_evaluator_unary.f k R G q2 (u - 1) (nodeAt G i).f0 (nodeAt G i).f1 (nodeAt G i).f2 (nodeAt G i).f3.f0 (nodeAt G i).f3.f1 (nodeAt G i).f3.f2 (nodeAt G i).f3.f3 a) v → Ev (fun k => naive_evaluator_node.f k R G q2 u i a) v := fun hv =>
      Ev.succ (g := fun k => (naive_evaluator_unary.f k R G q2 (u - 1) (nodeAt G i).f0 (nodeAt G i).f1 (nodeAt G i).f2 (nodeAt G i).f3.f0 (nodeAt G i).f3.f1 (nodeAt G i).f3.f2 (nodeAt G i).f3.f3 a).bind fun t => some (t.1, t.2.1, t.2.2)) (fun k => by rw [naive_evaluator_node.f, if_neg hu1, if_pos hi0, if_pos hi, if_neg o0, if_neg o1, if_neg o2, if_neg o3, if_neg o4, hwr]) (Ev.bind hv (Ev.const _))
    have stepRep : ∀ k, naive_evaluator_repeat.l0 (k + 1) (rd (nodeAt G i).f1 0) a R G q2 (u - 1) = (naive_evaluator_node.f k R G q2 (u - 1) (rd (nodeAt G i).f1 0) a).bind fun t => if t.1 = (-1) then some (a, t.2.1, t.2.2) else if t.1 = (-2) then some ((-2), t.2.1, t.2.2) else naive_evaluator_repeat.l0 k (rd (nodeAt G i).f1 0) t.1 R G t.2.1 t.2.2 := fun k => by
      rw [naive_evaluator_repeat.l0]
    have un5 : ∀ {v}, (nodeAt G i).f0 = 5 → Ev (fun k => naive_evaluator_repeat.l0 k (rd (nodeAt G i).f1 0) a R G q2 (u - 1)) v → Ev (fun k => naive_evaluator_unary.f k R G q2 (u - 1) (nodeAt G i).f0 (nodeAt G i).f1 (nodeAt G i).f2 (nodeAt G i).f3.f0 (nodeAt G i).f3.f1 (nodeAt G i).f3.f2 (nodeAt G i).f3.f3 a) v := fun o5 hv =>
      Ev.succ (g := fun k => (naive_evaluator_repeat.f k R G q2 (u - 1) (rd (nodeAt G i).f1 0) a).bind fun t => some (t.1, t.2.1, t.2.2)) (fun k => by rw [naive_evaluator_unary.f, if_pos o5, if_pos hl0]) (Ev.bind (Ev.succ (fun k => by rw [naive_evaluator_repeat.f]) hv) (Ev.const _))
    have un : (nodeAt G i).f0 ≠ 5 → ∀ k, naive_evaluator_unary.f (k + 1) R G q2 (u - 1) (nodeAt G i).f0 (nodeAt G i).f1 (nodeAt G i).f2 (nodeAt G i).f3.f0 (nodeAt G i).f3.f1 (nodeAt G i).f3.f2 (nodeAt G i).f3.f3 a = (naive_evaluator_node.f k R G q2 (u - 1) (rd (nodeAt G i).f1 0) a).bind fun t =>
        if t.1 = (-2) then some ((-2), t.2.1, t.2.2) else if (nodeAt G i).f0 = 6 then (if t.1 = (-1) then some ((-1), t.2.1, t.2.2) else ((naive_evaluator_repeat.f k R G t.2.1 t.2.2 (rd (nodeAt G i).f1 0) t.1).bind fun t => some (t.1, t.2.1, t.2.2))) else
        if (nodeAt G i).f0 = 7 then some (mx t.1 a, t.2.1, t.2.2) else if (nodeAt G i).f0 = 8 then (if t.1 = (-1) then some ((-1), t.2.1, t.2.2) else some (a, t.2.1, t.2.2)) else (if t.1 = (-1) then some (a, t.2.1, t.2.2) else some ((-1), t.2.1, t.2.2)) := fun h5 k => by
      rw [naive_evaluator_unary.f, if_neg h5, if_pos hl0]
    cases r1 with
    | false =>
      obtain ⟨u1, u2⟩ := hg.unk rfl
      dsimp only at u1 u2
      subst u1 u2
      have e1 : q1 = -2 := by simpa using s1
      subst e1
      refine ⟨(false, 0, 0), (-2, q2, q3), Ev.succ stepR (Ev.bind hr (Ev.of_eq fun _ => if_pos rfl)), stepN ?_, hsim, ⟨fun h => absurd h (by simp), fun _ => ⟨rfl, rfl⟩⟩⟩
      by_cases o5 : (nodeAt G i).f0 = 5
      · exact un5 o5 (Ev.succ stepRep (Ev.bind hq (Ev.of_eq fun _ => by rw [if_neg (by show ¬ (-2 : Int) = -1; decide), if_pos rfl])))
      · exact Ev.succ (un o5) (Ev.bind hq (Ev.of_eq fun _ => if_pos rfl))
    | true =>
      obtain ⟨g1, g2, g3, g4, g5⟩ := hg.known rfl
      dsimp only at g1 g2 g3 g4 g5
      have e1 : q1 = r2 := by simpa using s1
      have e3 := s3 rfl
      subst e1 e3
      have fin : ∀ (e : Int), -1 ≤ e → e ≤ (q2.size : Int) → (0 ≤ e → a ≤ e) → Sim q2 (true, e, q3) (e, q2, q3) ∧ Good q2 a (u - 1) (true, e, q3) := fun e h1 h2 h3 =>
        ⟨⟨by simp, rfl, fun _ => rfl⟩, ⟨fun _ => ⟨g1, by show q3 ≤ u - 1; omega, h1, h2, h3⟩, fun h => absurd h (by simp)⟩⟩
      by_cases o7 : (nodeAt G i).f0 = 7
      · have n5 : (nodeAt G i).f0 ≠ 5 := by omega
        by_cases he : q1 < 0
        · have e : q1 = -1 := by omega
          subst e
          obtain ⟨h1, h2⟩ := fin a (by omega) ha (fun _ => Int.le_refl _)
          exact ⟨_, _, Ev.succ stepR (Ev.bind hr (Ev.of_eq fun _ => by rw [if_neg (by simp), if_pos o7, if_pos he])), stepN (Ev.succ (un n5) (Ev.bind hq (Ev.of_eq fun _ => by rw [if_neg (by show ¬ (-1 : Int) = -2; decide), if_neg (by omega), if_pos o7, show mx (-1) a = a by unfold mx; split <;> omega]))), h1, h2⟩
        · obtain ⟨h1, h2⟩ := fin q1 g3 g4 g5
          exact ⟨_, _, Ev.succ stepR (Ev.bind hr (Ev.of_eq fun _ => by rw [if_neg (by simp), if_pos o7, if_neg he])), stepN (Ev.succ (un n5) (Ev.bind hq (Ev.of_eq fun _ => by rw [if_neg (by show ¬ q1 = -2; omega), if_neg (by omega), if_pos o7, show mx q1 a = q1 by have := g5 (by omega); unfold mx; split <;> omega]))), h1, h2⟩
      by_cases o8 : (nodeAt G i).f0 = 8
      · have n5 : (nodeAt G i).f0 ≠ 5 := by omega
        by_cases he : q1 < 0
        · have e : q1 = -1 := by omega
          subst e
          obtain ⟨h1, h2⟩ := fin (-1) (by omega) (by omega) (fun h => absurd h (by decide))
          exact ⟨_, _, Ev.succ stepR (Ev.bind hr (Ev.of_eq fun _ => by rw [if_neg (by simp), if_neg o7, if_pos o8, if_pos he])), stepN (Ev.succ (un n5) (Ev.bind hq (Ev.of_eq fun _ => by rw [if_neg (by show ¬ (-1 : Int) = -2; decide), if_neg (by omega), if_neg o7, if_pos o8, if_pos rfl]))), h1, h2⟩
        · obtain ⟨h1, h2⟩ := fin a (by omega) ha (fun _ => Int.le_refl _)
          exact ⟨_, _, Ev.succ stepR (Ev.bind hr (Ev.of_eq fun _ => by rw [if_neg (by simp), if_neg o7, if_pos o8, if_neg he])), stepN (Ev.succ (un n5) (Ev.bind hq (Ev.of_eq fun _ => by rw [if_neg (by show ¬ q1 = -2; omega), if_neg (by omega), if_neg o7, if_pos o8, if_neg (by show ¬ q1 = -1; omega)]))), h1, h2⟩
      by_cases o9 : (nodeAt G i).f0 = 9
      · have n5 : (nodeAt G i).f0 ≠ 5 := by omega
        by_cases he : q1 < 0
        · have e : q1 = -1 := by omega
          subst e
          obtain ⟨h1, h2⟩ := fin a (by omega) ha (fun _ => Int.le_refl _)
          exact ⟨_, _, Ev.succ stepR (Ev.bind hr (Ev.of_eq fun _ => by rw [if_neg (by simp), if_neg o7, if_neg o8, if_pos o9, if_pos he])), stepN (Ev.succ (un n5) (Ev.bind hq (Ev.of_eq fun _ => by rw [if_neg (by show ¬ (-1 : Int) = -2; decide), if_neg (by omega), if_neg o7, if_neg o8, if_pos rfl]))), h1, h2⟩
        · obtain ⟨h1, h2⟩ := fin (-1) (by omega) (by omega) (fun h => absurd h (by decide))
          exact ⟨_, _, Ev.succ stepR (Ev.bind hr (Ev.of_eq fun _ => by rw [if_neg (by simp), if_neg o7, if_neg o8, if_pos o9, if_neg he])), stepN (Ev.succ (un n5) (Ev.bind hq (Ev.of_eq fun _ => by rw [if_neg (by show ¬ q1 = -2; omega), if_neg (by omega), if_neg o7, if_neg o8, if_neg (by show ¬ q1 = -1; omega)]))), h1, h2⟩
      by_cases he : q1 < 0
      · have e : q1 = -1 := by omega
        subst e
        by_cases o5 : (nodeAt G i).f0 = 5
        · obtain ⟨h1, h2⟩ := fin a (by omega) ha (fun _ => Int.le_refl _)
          exact ⟨_, _, Ev.succ stepR (Ev.bind hr (Ev.succ (g := fun _ => some (true, a, q3)) (fun k => by rw [if_neg (by simp), if_neg o7, if_neg o8, if_neg o9, if_neg (by omega), vetchref18_Node.repF, if_neg (by simp), if_pos rfl]) (Ev.const _))), stepN (un5 o5 (Ev.succ stepRep (Ev.bind hq (Ev.of_eq fun _ => if_pos rfl)))), h1, h2⟩
        · obtain ⟨h1, h2⟩ := fin (-1) (by omega) (by omega) (fun h => absurd h (by decide))
          have o6 : (nodeAt G i).f0 = 6 := by omega
          exact ⟨_, _, Ev.succ stepR (Ev.bind hr (Ev.of_eq fun _ => by rw [if_neg (by simp), if_neg o7, if_neg o8, if_neg o9, if_pos ⟨he, o6⟩])), stepN (Ev.succ (un o5) (Ev.bind hq (Ev.of_eq fun _ => by rw [if_neg (by show ¬ (-1 : Int) = -2; decide), if_pos o6, if_pos rfl]))), h1, h2⟩
      · obtain ⟨r', q', hr', hq', hs', hg', hp'⟩ := rep_rel hx hG hw hok hkl (u - 1) hn9 ih (rd (nodeAt G i).f1 0) hkid.1 hkid.2 q3.toNat q3 rfl g1 (by omega) q1 (by omega) g4
        have hgood := good_weaken hg' (g5 (by omega)) (show q3 ≤ u - 1 by omega)
        have hrr := hr' 0 a
        refine ⟨r', q', Ev.succ stepR (Ev.bind hr (Ev.congr (fun k => by rw [if_neg (by simp), if_neg o7, if_neg o8, if_neg o9, if_neg (fun h_ => he h_.1)]; rfl) hrr)), stepN ?_, hs', hgood⟩
        by_cases o5 : (nodeAt G i).f0 = 5
        · exact un5 o5 (Ev.succ stepRep (Ev.bind hq (Ev.congr (fun k => by rw [if_neg (by show ¬ q1 = -1; omega), if_neg (by show ¬ q1 = -2; omega)]) hq')))
        · have o6 : (nodeAt G i).f0 = 6 := by omega
          exact Ev.succ (un o5) (Ev.bind hq (Ev.congr (fun k => by rw [if_neg (by show ¬ q1 = -2; omega), if_pos o6, if_neg (by show ¬ q1 = -1; omega)]) (Ev.bind (Ev.succ (fun k => by rw [naive_evaluator_repeat.f]) hq') (Ev.const _))))
end
end Go.Proofs.Ythgedejnpgcacaa.V
namespace Go.Proofs.Ythgedejnpgcacaa.V
open Go.RowKit Go.Proofs.YthgedejnpgcacaaW.PrintWords
set_option linter.unusedVariables false
set_option linter.unusedSimpArgs false
set_option linter.unusedSectionVars false
set_option maxRecDepth 100000 in
theorem awake_ev : Ev (fun k => vetchlaw18_awake.f k) true := Ev.of_mono (k := 40) (fun k => vetchlaw18_awake.mono k) (by kernel_rfl)
theorem few_ev (R : List RuleT) (G : List NodeT) (hR : R.length ≤ maxLen) (hG : G.length ≤ maxLen) : ∃ v, Ev (fun k => vetchref05_Few.f k R G) v ∧ (v = true → R.length ≤ 30 ∧ G.length ≤ 300) := by
  have hG' : G.length ≤ 9223372036854775807 := hG
  have hR' : R.length ≤ 9223372036854775807 := hR
  have l1 : ∀ (n : Nat) (i : Int), 0 ≤ i → i.toNat + n = G.length → ∃ v, Ev (fun k => vetchref05_Few.l1 k i R G) v ∧ (v = true → R.length ≤ 30 ∧ G.length ≤ 300) := by
    intro n
    induction n with
    | zero =>
      intro i h0 hn
      by_cases c : (R.length : Int) ≤ 30
      · exact ⟨_, Ev.succ (g := fun _ => some (decide ((G.length : Int) ≤ 300))) (fun k => by rw [vetchref05_Few.l1, if_neg (by omega), if_pos c]) (Ev.const _), fun h => ⟨by omega, by have := of_decide_eq_true h; omega⟩⟩
      · exact ⟨false, Ev.succ (g := fun _ => some false) (fun k => by rw [vetchref05_Few.l1, if_neg (by omega), if_neg c]) (Ev.const _), fun h => absurd h (by decide)⟩
    | succ n ih =>
      intro i h0 hn
      by_cases c : (((nodeAt G i).f1).length : Int) > 60
      · exact ⟨false, Ev.succ (g := fun _ => some false) (fun k => by rw [vetchref05_Few.l1, if_pos (by omega), if_pos h0, if_pos c]) (Ev.const _), fun h => absurd h (by decide)⟩
      · obtain ⟨v, hv, hs⟩ := ih (i + 1) (by omega) (by omega)
        refine ⟨v, Ev.succ (fun k => by rw [vetchref05_Few.l1, if_pos (by omega), if_pos h0, if_neg c]) ?_, hs⟩
        rw [w64p _ (by omega)]
        exact hv
  have l0 : ∀ (n : Nat) (i : Int), 0 ≤ i → i.toNat + n = R.length → ∃ v, Ev (fun k => vetchref05_Few.l0 k i R G) v ∧ (v = true → R.length ≤ 30 ∧ G.length ≤ 300) := by
    intro n
    induction n with
    | zero =>
      intro i h0 hn
      obtain ⟨v, hv, hs⟩ := l1 G.length 0 (Int.le_refl _) (by simp)
      exact ⟨v, Ev.succ (fun k => by rw [vetchref05_Few.l0, if_neg (by omega)]) hv, hs⟩
    | succ n ih =>
      intro i h0 hn
      by_cases c : (((ruleAt R i).f0).size : Int) > 100
      · exact ⟨false, Ev.succ (g := fun _ => some false) (fun k => by rw [vetchref05_Few.l0, if_pos (by omega), if_pos h0, if_pos c]) (Ev.const _), fun h => absurd h (by decide)⟩
      · obtain ⟨v, hv, hs⟩ := ih (i + 1) (by omega) (by omega)
        refine ⟨v, Ev.succ (fun k => by rw [vetchref05_Few.l0, if_pos (by omega), if_pos h0, if_neg c]) ?_, hs⟩
        rw [w64p _ (by omega)]
        exact hv
  obtain ⟨v, hv, hs⟩ := l0 R.length 0 (Int.le_refl _) (by simp)
  exact ⟨v, hv, hs⟩
section
variable {R : List RuleT} {G : List NodeT} (hR : R.length ≤ maxLen ∧ ∀ y ∈ R, Ok51 y) (hG : G.length ≤ maxLen ∧ ∀ y ∈ G, Ok56 y)
include hR hG
theorem small_ev : ∃ v, Ev (fun k => vetchref05_Small.f k R G) v ∧ (v = true → WF R G ∧ R.length ≤ 30 ∧ G.length ≤ 300) := by
  obtain ⟨b, hb, hbs⟩ := few_ev R G hR.1 hG.1
  cases b with
  | false => exact ⟨false, Ev.bind hb (Ev.of_eq fun _ => if_neg (by decide)), fun h => absurd h (by decide)⟩
  | true =>
    obtain ⟨v, hv, hs⟩ := valid_ev R G hR hG
    exact ⟨v, Ev.bind hb (Ev.congr (fun k => if_pos rfl) (Ev.bind hv (Ev.const _))), fun h => ⟨hs h, hbs rfl⟩⟩
theorem fits_ev (x : ByteArray) (u : Int) : ∃ v, Ev (fun k => vetchlaw18_fits.f k R G x u) v ∧ (v = true → WF R G ∧ R.length ≤ 30 ∧ G.length ≤ 300 ∧ x.size ≤ 60 ∧ u ≤ 5000) := by
  obtain ⟨b, hb, hbs⟩ := small_ev hR hG
  cases b with
  | false => exact ⟨false, Ev.bind hb (Ev.of_eq fun _ => if_neg (by decide)), fun h => absurd h (by decide)⟩
  | true =>
    obtain ⟨h1, h2, h3⟩ := hbs rfl
    by_cases c : (x.size : Int) ≤ 60
    · exact ⟨_, Ev.bind hb (Ev.of_eq (v := decide (u ≤ 5000)) fun _ => by rw [if_pos rfl, if_pos c]), fun h => ⟨h1, h2, h3, by omega, of_decide_eq_true h⟩⟩
    · exact ⟨false, Ev.bind hb (Ev.of_eq fun _ => by rw [if_pos rfl, if_neg c]), fun h => absurd h (by decide)⟩
theorem kids_le (hw : WF R G) : ∀ i : Int, 0 ≤ i → i < (G.length : Int) → (nodeAt G i).f1.length ≤ 9223372036854775807 := fun i h0 h1 => (hG.2 _ (rd_mem56 G i h0 h1)).2.1.1
theorem node_ev {x : ByteArray} (hx : x.size ≤ 1000000) (hw : WF R G) (u : Int) (hu : u ≤ 100000000) (i a : Int) (hi0 : 0 ≤ i) (hi : i < (G.length : Int)) (ha0 : 0 ≤ a) (ha : a ≤ (x.size : Int)) :
    ∃ r, Ev (fun k => vetchref18_Node.f k R G i x a u) r ∧ Ev (fun k => naive_Node.f k R G i x a u) r ∧ Good x a (u - 1) r := by
  obtain ⟨r, q, hr, hq, hs, hg⟩ := node_rel hx (by have := hw.nodes; omega) hw hG.2 (kids_le hR hG hw) u.toNat u (by omega) hu i a hi0 hi ha0 ha
  refine ⟨r, hr, Ev.bind hq (Ev.of_eq fun _ => ?_), hg⟩
  obtain ⟨r1, r2, r3⟩ := r
  obtain ⟨q1, q2, q3⟩ := q
  obtain ⟨s1, s2, s3⟩ := hs
  dsimp only at s1 s2 s3 ⊢
  cases r1 with
  | false =>
    obtain ⟨u1, u2⟩ := hg.unk rfl
    dsimp only at u1 u2
    have s1' : q1 = -2 := by simpa using s1
    rw [u1, u2, s1', if_pos rfl]
  | true =>
    obtain ⟨g1, g2, g3, g4, g5⟩ := hg.known rfl
    dsimp only at g1 g2 g3 g4 g5
    have s1' : q1 = r2 := by simpa using s1
    rw [s1', if_neg (by omega), s3 rfl]
end
end Go.Proofs.Ythgedejnpgcacaa.V
namespace Go.Proofs.Ythgedejnpgcacaa.V
open Go.RowKit Go.Proofs.YthgedejnpgcacaaW.PrintWords
set_option linter.unusedVariables false
theorem Pure.PureNaiveEnds : ∀ (l0_0 : List RuleT) (l0_1 : List NodeT) (a1 : Int) (a2 : ByteArray) (a3 : Int), (l0_0.length ≤ maxLen ∧ ∀ y ∈ l0_0, Ok51 y) → (l0_1.length ≤ maxLen ∧ ∀ y ∈ l0_1, Ok56 y) → ((Lit.int .u16 a1).wf = true) → (a2.size ≤ maxLen) → ((Lit.int .i64 a3).wf = true) → ∃ k, vetchlaw18_NaiveEnds.f k l0_0 l0_1 a1 a2 a3 = some true := by
  intro R G p x u hR hG hp hx hu
  simp [Lit.wf, IntKind.min, IntKind.max, IntKind.signed, IntKind.bits] at hp hu
  obtain ⟨b, hb, hbs⟩ := fits_ev hR hG x u
  have triv : Ev (fun k => vetchlaw18_NaiveEnds.j0 k p x u true R G) true := Ev.succ (fun k => by rw [vetchlaw18_NaiveEnds.j0, if_pos rfl]) (Ev.bind (g := fun _ t => some t) awake_ev (Ev.const _))
  have fin : Ev (fun k => if b = true then vetchlaw18_NaiveEnds.j0 k p x u (decide ((x.size : Int) > 20)) R G else vetchlaw18_NaiveEnds.j0 k p x u true R G) true := by
    cases b with
    | false => exact Ev.congr (fun k => if_neg (by decide)) triv
    | true =>
      refine Ev.congr (fun k => if_pos rfl) ?_
      by_cases hs : (x.size : Int) > 20
      · rw [decide_eq_true hs]; exact triv
      obtain ⟨hw, h1, h2, h3, h4⟩ := hbs rfl
      have hg0 := hw.nodes.1
      rw [decide_eq_false hs]
      have hi := Int.tmod_nonneg (G.length : Int) hp.1
      have hi2 := Int.tmod_lt_of_pos p (show (0 : Int) < (G.length : Int) by omega)
      generalize hgi : Int.tmod p (G.length : Int) = i at hi hi2
      have hex : ∀ a : Nat, ∃ r, a ≤ x.size → Ev (fun k => vetchref18_Node.f k R G i x a u) r ∧ Ev (fun k => naive_Node.f k R G i x a u) r := fun a => by
        by_cases ha : a ≤ x.size
        · obtain ⟨r, e1, e2, _⟩ := node_ev hR hG (x := x) (by omega) hw u (by omega) i a hi hi2 (by omega) (by omega)
          exact ⟨r, fun _ => ⟨e1, e2⟩⟩
        · exact ⟨(false, 0, 0), fun h => absurd h ha⟩
      obtain ⟨r, hr⟩ := Classical.axiomOfChoice hex
      have ends : ∀ (n j : Nat), j + n = x.size + 1 → Ev (fun k => naive_Ends.l0 k i x u ((List.range j).map fun a => if (r a).1 = true then (r a).2.1 else -2) ((x.size : Int) + 1) (j : Int) R G) ((List.range (x.size + 1)).map fun a => if (r a).1 = true then (r a).2.1 else -2) := by
        intro n
        induction n with
        | zero =>
          intro j hj
          obtain rfl : j = x.size + 1 := by omega
          exact Ev.succ (g := fun _ => some _) (fun k => by rw [naive_Ends.l0, if_neg (by omega)]) (Ev.const _)
        | succ n ih =>
          intro j hj
          obtain ⟨e1, e2⟩ := hr j (by omega)
          refine Ev.succ (g := fun k => (naive_Node.f k R G i x j u).bind fun t => naive_Ends.l0 k i x u ((List.range j).map (fun a => if (r a).1 = true then (r a).2.1 else -2) ++ [if t.1 = true then t.2.1 else -2]) ((x.size : Int) + 1) ((j + 1 : Nat) : Int) R G) (fun k => ?_) (Ev.bind e2 ?_)
          · rw [naive_Ends.l0, if_pos (by omega), w64p ((j : Int) + 1) (by omega)]
            congr 1
            funext t
            have hl : ((List.range j).map fun a => if (r a).1 = true then (r a).2.1 else -2).length < 17592186044416 := by simp; omega
            by_cases ht : t.1 = true
            · rw [if_pos ht, if_pos hl, if_pos ht]; rfl
            · rw [if_neg ht, if_pos hl, if_neg ht]; rfl
          · have := ih (j + 1) (by omega)
            rw [List.range_succ, List.map_append] at this
            exact this
      have scan : ∀ (n j : Nat), j + n = x.size + 1 → Ev (fun k => vetchlaw18_NaiveEnds.l0 k x u i ((List.range (x.size + 1)).map fun a => if (r a).1 = true then (r a).2.1 else -2) (j : Int) R G) true := by
        intro n
        induction n with
        | zero =>
          intro j hj
          exact Ev.succ (g := fun _ => some true) (fun k => by rw [vetchlaw18_NaiveEnds.l0, if_neg (by simp; omega)]) (Ev.const _)
        | succ n ih =>
          intro j hj
          obtain ⟨e1, e2⟩ := hr j (by omega)
          have hrd : rd ((List.range (x.size + 1)).map fun a => if (r a).1 = true then (r a).2.1 else -2) (j : Int) = if (r j).1 = true then (r j).2.1 else -2 := by
            unfold rd
            rw [List.getD_eq_getElem?_getD, show (j : Int).toNat = j by omega, List.getElem?_map, List.getElem?_range (by omega)]
            rfl
          refine Ev.succ (g := fun k => (vetchref18_Node.f k R G i x j u).bind fun t => if t.1 = true then (if (if (r j).1 = true then (r j).2.1 else -2) = t.2.1 then vetchlaw18_NaiveEnds.l0 k x u i ((List.range (x.size + 1)).map fun a => if (r a).1 = true then (r a).2.1 else -2) ((j + 1 : Nat) : Int) R G else some false) else (if (if (r j).1 = true then (r j).2.1 else -2) = -2 then vetchlaw18_NaiveEnds.l0 k x u i ((List.range (x.size + 1)).map fun a => if (r a).1 = true then (r a).2.1 else -2) ((j + 1 : Nat) : Int) R G else some false)) (fun k => ?_) (Ev.bind e1 ?_)
          · rw [vetchlaw18_NaiveEnds.l0, if_pos (by simp; omega), w64p ((j : Int) + 1) (by omega), hrd]
            simp only [if_pos (show (0 : Int) ≤ (j : Int) by omega)]
            rfl
          · have := ih (j + 1) (by omega)
            by_cases ht : (r j).1 = true
            · exact Ev.congr (fun k => by rw [if_pos ht, if_pos ht, if_pos rfl]) this
            · exact Ev.congr (fun k => by rw [if_neg ht, if_neg ht, if_pos rfl]) this
      obtain ⟨k1, f1⟩ := ends (x.size + 1) 0 (by omega)
      obtain ⟨k2, f2⟩ := scan (x.size + 1) 0 (by omega)
      dsimp only at f1 f2
      refine ⟨k1 + k2 + 1, fun j hj => ?_⟩
      obtain ⟨k, rfl⟩ : ∃ k, j = k + 1 := ⟨j - 1, by omega⟩
      show vetchlaw18_NaiveEnds.j0 (k + 1) p x u false R G = some true
      rw [vetchlaw18_NaiveEnds.j0, if_neg (by decide), if_neg (by omega), w64p p (by omega), hgi]
      unfold naive_Ends.f
      have := f1 k (by omega)
      simp only [List.range_zero, List.map_nil] at this
      rw [w64p ((x.size : Int) + 1) (by omega)]
      rw [show (0 : Int) = ((0 : Nat) : Int) from rfl, this, Option.bind_some, if_pos (by simp), f2 k (by omega)]
  exact (Ev.bind awake_ev (Ev.congr (fun k => if_pos rfl) (Ev.bind hb fin))).out
end Go.Proofs.Ythgedejnpgcacaa.V
namespace Go.Proofs.Ythgedejnpgcacaa.naiveEnds
open Go.ChangeShapes Go.WideShapes Go.ChangeAt Go.RowKit Go.Proofs.Ythgedejnpgcacaa.Opens Go.Proofs.Ythgedejnpgcacaa.V Go.Proofs.YthgedejnpgcacaaW.PrintWords
open Go.ChangeMaps (open_string shut_string)
set_option linter.unusedVariables false
theorem own : ownKnob Try.prog.godebug = none := by kernel_rfl
theorem laidOut : laidOutB Try.prog = true := by kernel_rfl
set_option maxRecDepth 100000 in
theorem lifted (os : Os) (started : os.Started) (H : Type) (enc : TypeId × Value → H) :
    ReturnsInHanded {} Try.checked os 6 .any (Rows.naiveEndsSpec.pre6 enc Try.prog Try.f6 Rows.naiveEndsRow.domain false) (Rows.naiveEndsSpec.post enc Try.prog Try.f6 false true false false) := by
  refine returnsInHanded_of_change_sized (C := Try.checked) own started (by kernel_rfl) Try.func6
    (ChangeSpec.witness6 (enc := enc) (C := Try.checked) false ⟨#[], #[.agg #[.slice none 0 0, .slice none 0 0], .int .u16 0, .string ByteArray.empty, .int .i64 0], []⟩ 8 (by kernel_rfl) (by kernel_rfl) (by kernel_rfl) (by kernel_rfl)) ?_
  intro W base args ds gs before hval0 hW hcnd hsz0 _
  have hval : ∀ (j : Nat) t v, Try.f6.params[j]? = some t → args[j]? = some v → Value.okWide Try.prog W .any base t v := hval0
  have hW' := hW
  obtain ⟨p, q, hA0, hV, rfl, hfz, hnd⟩ := hW
  have hA : DataW.TrodAll enc Try.prog W 0 (fun _ => true) true Try.f6.params.toList args.toList ds p := hA0
  rw [Try.params6] at hA hval
  obtain ⟨v0, vs0, d0, ds0, p0, q0, hargs, rfl, rfl, h0, r0⟩ := trodAll_cons hA
  obtain ⟨v1, vs1, d1, ds1, p1, q1, rfl, rfl, rfl, h1, r1⟩ := trodAll_cons r0
  obtain ⟨v2, vs2, d2, ds2, p2, q2, rfl, rfl, rfl, h2, r2⟩ := trodAll_cons r1
  obtain ⟨v3, vs3, d3, ds3, p3, q3, rfl, rfl, rfl, h3, r3⟩ := trodAll_cons r2
  obtain ⟨rfl, rfl, rfl⟩ := trodAll_nil r3
  obtain rfl : args = #[v0, v1, v2, v3] := by cases args; simp_all
  obtain ⟨rfl, rfl⟩ := trodVars_none hV
  have lt0 := trod_lts h0
  obtain ⟨cs0, rfl, _⟩ := okWide_struct Try.underlying25 (hval 0 25 v0 rfl rfl)
  obtain ⟨b0, hK0, ok0⟩ := Opn.arg (opn25 W) h0
  obtain ⟨L0, hL0⟩ : ∃ L, L = cs0.toList := ⟨_, rfl⟩
  replace hK0 : ((Kd.pair (Kd.slice 51 k51) (Kd.slice 56 k56))).K W b0 L0 := by rw [hL0]; exact hK0
  obtain ⟨l0_0, l0_1⟩ := b0
  obtain ⟨_, _, rfl, ⟨A0_0, c0_0, rfl, lc0_0, g0_0⟩, ⟨A0_1, c0_1, rfl, lc0_1, g0_1⟩⟩ := hK0
  obtain ⟨w0_0, w0_1⟩ := ok0
  obtain rfl : cs0 = #[.slice A0_0 l0_0.length c0_0, .slice A0_1 l0_1.length c0_1] := by cases cs0; simp_all
  obtain ⟨a1, rfl, rfl, rfl, w1⟩ := open_int Try.underlying26 (hval 1 26 v1 rfl rfl) h1
  obtain ⟨a2, rfl, rfl, rfl, w2⟩ := open_string Try.underlying9 (hval 2 9 v2 rfl rfl) h2
  obtain ⟨a3, rfl, rfl, rfl, w3⟩ := open_int Try.underlying3 (hval 3 3 v3 rfl rfl) h3
  clear hA0 hval0 hsz0
  obtain ⟨k, hk⟩ := Pure.PureNaiveEnds l0_0 l0_1 a1 a2 a3 w0_0 w0_1 w1 w2 w3
  refine (vetchlaw18_NaiveEnds.calls k A0_0 c0_0 l0_0 A0_1 c0_1 l0_1 a1 a2 a3 true W g0_0 lc0_0 g0_1 lc0_1 hk).mono fun e W' ⟨he, bel⟩ => ?_
  subst he
  exact ⟨_, rfl, _, _, _, [], _, [], hW', trodAll_mk1 (shut_bool Try.underlying4 _), (trodAll_cons_mk (Below.trod laidOut (by kernel_rfl) (of_decide_eq_true (by kernel_rfl)) h0 bel lt0) (trodAll_cons_mk (shut_int Try.underlying26 w1) (trodAll_cons_mk (shut_string Try.underlying9 w2) (trodAll_cons_mk (shut_int Try.underlying3 w3) trodAll_mk0)))), rfl, bel.frame _, fun h => by cases h⟩
theorem over : Rows.naiveEndsRow.holds Try.pinned (OpenSpec.ofChange Rows.naiveEndsSpec) :=
  OpenClaim.holds_of_wide 6 Try.f6 rfl rfl rfl rfl rfl rfl rfl ⟨rfl, rfl, rfl, rfl, rfl⟩ rfl rfl rfl rfl rfl (by kernel_rfl) Try.func6 (by kernel_rfl)
    (of_decide_eq_true (by kernel_rfl)) (by unfold Func.isWrapper; first | (rw [if_pos (by decide +kernel)]; kernel_rfl) | (rw [if_neg (by decide +kernel)]; exact ⟨rfl, rfl⟩))
    (fun os started H enc _ => lifted os started H enc)
end Go.Proofs.Ythgedejnpgcacaa.naiveEnds
namespace Go.Proofs.Ythgedejnpgcacaa
theorem naiveEnds_holds : Rows.NaiveEndsSaid := naiveEnds.over
#print axioms naiveEnds_holds
end Go.Proofs.Ythgedejnpgcacaa
