/- The law NaiveEnough returns true whatever comes in, and leaves its arguments as they were. No condition. -/
import Derived.Test.YthgedejnpgcacaaKNn4
import Derived.Test.YthgedejnpgcacaaRows
import Derived.WalkKit
import Derived.ProofKit
import Derived.OpenShut
import Derived.ShutString
import Derived.ChangeOld
import Derived.Below
import Derived.SizedLaws
import Derived.Carry
namespace Go.Proofs.Ythgedejnpgcacaa.V
open Go.RowKit Go.Proofs.YthgedejnpgcacaaW.PrintWords
set_option linter.unusedVariables false
theorem run_left {R : List RuleT} {G : List NodeT} {x : ByteArray} {t : Task} {a u e l : Int} (h : Run R G x t a u e l) : l ≤ u ∧ (∀ i, t = .node i → l < u) := by
  induction h with
  | empty o hu => exact ⟨by omega, fun i _ => by omega⟩
  | hit o hu _ _ => exact ⟨by omega, fun i _ => by omega⟩
  | miss o hu _ => exact ⟨by omega, fun i _ => by omega⟩
  | call o hu _ ih => exact ⟨by omega, fun i _ => by omega⟩
  | seq o hu _ ih => exact ⟨by omega, fun i _ => by omega⟩
  | cho o hu _ ih => exact ⟨by omega, fun i _ => by omega⟩
  | star o hu _ ih => exact ⟨by omega, fun i _ => by omega⟩
  | plusNo o hu _ _ ih => exact ⟨by omega, fun i _ => by omega⟩
  | plus o hu _ _ _ ih1 ih2 => exact ⟨by omega, fun i _ => by omega⟩
  | optNo o hu _ _ ih => exact ⟨by omega, fun i _ => by omega⟩
  | opt o hu _ _ ih => exact ⟨by omega, fun i _ => by omega⟩
  | andNo o hu _ _ ih => exact ⟨by omega, fun i _ => by omega⟩
  | and o hu _ _ ih => exact ⟨by omega, fun i _ => by omega⟩
  | notNo o hu _ _ ih => exact ⟨by omega, fun i _ => by omega⟩
  | not o hu _ _ ih => exact ⟨by omega, fun i _ => by omega⟩
  | seqNil => exact ⟨Int.le_refl _, fun i h => by cases h⟩
  | seqNo _ _ ih => exact ⟨ih.1, fun i h => by cases h⟩
  | seqGo _ _ _ ih1 ih2 => exact ⟨by omega, fun i h => by cases h⟩
  | choNil => exact ⟨Int.le_refl _, fun i h => by cases h⟩
  | choYes _ _ ih => exact ⟨ih.1, fun i h => by cases h⟩
  | choGo _ _ _ ih1 ih2 => exact ⟨by omega, fun i h => by cases h⟩
  | repEnd _ _ ih => exact ⟨ih.1, fun i h => by cases h⟩
  | repGo _ _ _ ih1 ih2 => exact ⟨by omega, fun i h => by cases h⟩
theorem run_range {R : List RuleT} {G : List NodeT} {x : ByteArray} {t : Task} {a u e l : Int} (h : Run R G x t a u e l) : 0 ≤ a → a ≤ (x.size : Int) → -1 ≤ e ∧ e ≤ (x.size : Int) ∧ (0 ≤ e → a ≤ e) := by
  induction h with
  | empty o hu => exact fun h0 h1 => ⟨by omega, h1, fun _ => Int.le_refl _⟩
  | hit o hu _ _ => exact fun h0 h1 => ⟨by omega, by omega, fun _ => by omega⟩
  | miss o hu _ => exact fun h0 h1 => ⟨by omega, by omega, fun h => absurd h (by decide)⟩
  | call o hu _ ih => exact ih
  | seq o hu _ ih => exact ih
  | cho o hu _ ih => exact ih
  | star o hu _ ih => exact ih
  | plusNo o hu _ _ ih => exact ih
  | plus o hu _ hb _ ih1 ih2 =>
    intro h0 h1
    obtain ⟨q1, q2, q3⟩ := ih1 h0 h1
    obtain ⟨p1, p2, p3⟩ := ih2 hb q2
    exact ⟨p1, p2, fun h => by have := q3 hb; have := p3 h; omega⟩
  | optNo o hu _ _ ih => exact fun h0 h1 => ⟨by omega, h1, fun _ => Int.le_refl _⟩
  | opt o hu _ _ ih => exact ih
  | andNo o hu _ _ ih => exact ih
  | and o hu _ _ ih => exact fun h0 h1 => ⟨by omega, h1, fun _ => Int.le_refl _⟩
  | notNo o hu _ _ ih => exact fun h0 h1 => ⟨by omega, by omega, fun h => absurd h (by decide)⟩
  | not o hu _ _ ih => exact fun h0 h1 => ⟨by omega, h1, fun _ => Int.le_refl _⟩
  | seqNil => exact fun h0 h1 => ⟨by omega, h1, fun _ => Int.le_refl _⟩
  | seqNo _ _ ih => exact ih
  | seqGo _ hb _ ih1 ih2 =>
    intro h0 h1
    obtain ⟨q1, q2, q3⟩ := ih1 h0 h1
    obtain ⟨p1, p2, p3⟩ := ih2 hb q2
    exact ⟨p1, p2, fun h => by have := q3 hb; have := p3 h; omega⟩
  | choNil => exact fun h0 h1 => ⟨by omega, by omega, fun h => absurd h (by decide)⟩
  | choYes _ _ ih => exact ih
  | choGo _ _ _ ih1 ih2 => exact ih2
  | repEnd _ _ ih => exact fun h0 h1 => ⟨by omega, h1, fun _ => Int.le_refl _⟩
  | repGo _ hb _ ih1 ih2 =>
    intro h0 h1
    obtain ⟨q1, q2, q3⟩ := ih1 h0 h1
    obtain ⟨p1, p2, p3⟩ := ih2 hb q2
    exact ⟨p1, p2, fun h => by have := q3 hb; have := p3 h; omega⟩
def Does (R : List RuleT) (G : List NodeT) (x : ByteArray) (a u e l : Int) : Task → Prop
  | .node i => 0 ≤ i → i < (G.length : Int) → Ev (fun k => vetchref18_Node.f k R G i x a u) (true, e, l)
  | .seq cs => (∀ c ∈ cs, 0 ≤ c ∧ c < (G.length : Int)) → Ev (fun k => vetchref18_Node.seqF (fun c a u => vetchref18_Node.f k R G c x a u) cs a u) (true, e, l)
  | .cho cs => (∀ c ∈ cs, 0 ≤ c ∧ c < (G.length : Int)) → Ev (fun k => vetchref18_Node.choF (fun c u => vetchref18_Node.f k R G c x a u) cs (-1) u) (true, e, l)
  | .rep c => 0 ≤ c → c < (G.length : Int) → (∀ b last, Ev (fun k => vetchref18_Node.repF (fun a u => vetchref18_Node.f (k + b) R G c x a u) k last (true, a, u)) (true, e, l)) ∧
      ∃ r2 r3, Ev (fun k => vetchref18_Node.f k R G c x a u) (true, r2, r3) ∧ ∀ b, Ev (fun k => vetchref18_Node.repF (fun a u => vetchref18_Node.f (k + b) R G c x a u) k a (true, r2, r3)) (true, e, l)
theorem run_does {R : List RuleT} {G : List NodeT} {x : ByteArray} (hx : x.size ≤ 1000000) (hw : WF R G) (hok : ∀ y ∈ G, Ok56 y) {t : Task} {a u e l : Int} (h : Run R G x t a u e l) : 0 ≤ a → a ≤ (x.size : Int) → u ≤ 100000000 → Does R G x a u e l t := by
  have kids : ∀ i : Int, 0 ≤ i → i < (G.length : Int) → ∀ c ∈ (nodeAt G i).f1, 0 ≤ c ∧ c < (G.length : Int) := fun i h0 h1 c hc => by
    have := hw.kids i h0 h1 c hc
    omega
  have kid : ∀ i : Int, 0 ≤ i → i < (G.length : Int) → 5 ≤ (nodeAt G i).f0 → (nodeAt G i).f1 ≠ [] ∧ 0 ≤ rd (nodeAt G i).f1 0 ∧ rd (nodeAt G i).f1 0 < (G.length : Int) := fun i h0 h1 h5 => by
    have hl := (hw.made i h0 h1).2.2.2.2.2.1 h5
    have hm : rd (nodeAt G i).f1 0 ∈ (nodeAt G i).f1 := by
      unfold rd
      rw [List.getD_eq_getElem?_getD, List.getElem?_eq_getElem (by simp; omega)]
      exact List.getElem_mem _
    refine ⟨fun h => by rw [h] at hl; simp at hl, kids i h0 h1 _ hm⟩
  have one : ∀ i a u : Int, 0 ≤ i → i < (G.length : Int) → 1 ≤ u → u ≤ 100000000 → 5 ≤ (nodeAt G i).f0 → ∀ k, vetchref18_Node.f (k + 1) R G i x a u = (vetchref18_Node.f k R G (rd (nodeAt G i).f1 0) x a (u - 1)).bind fun r =>
      if r.1 = false then some r else
      if (nodeAt G i).f0 = 7 then (if r.2.1 < 0 then some (true, a, r.2.2) else some r) else
      if (nodeAt G i).f0 = 8 then (if r.2.1 < 0 then some r else some (true, a, r.2.2)) else
      if (nodeAt G i).f0 = 9 then (if r.2.1 < 0 then some (true, a, r.2.2) else some (true, -1, r.2.2)) else
      if r.2.1 < 0 ∧ (nodeAt G i).f0 = 6 then some r else vetchref18_Node.repF (fun a u => vetchref18_Node.f k R G (rd (nodeAt G i).f1 0) x a u) k a r := fun i a u h0 h1 hu hub h5 k => by
    rw [vetchref18_Node.f, if_neg (by omega), if_pos ⟨h0, h1⟩, if_neg (show ¬ (nodeAt G i).f0 = 0 by omega), if_neg (show ¬ (nodeAt G i).f0 = 1 by omega), if_neg (show ¬ (nodeAt G i).f0 = 2 by omega), if_neg (show ¬ (nodeAt G i).f0 = 3 by omega), if_neg (show ¬ (nodeAt G i).f0 = 4 by omega), if_neg (kid i h0 h1 h5).1, w64p (u - 1) (by omega)]
  induction h with
  | @empty i a u o hu =>
    intro ha0 ha hub h0 h1
    exact Ev.succ (g := fun _ => some (true, a, u - 1)) (fun k => by rw [vetchref18_Node.f, if_neg (by omega), if_pos ⟨h0, h1⟩, if_pos o, w64p (u - 1) (by omega)]) (Ev.const _)
  | @hit i a u o hu hlt hh =>
    intro ha0 ha hub h0 h1
    obtain ⟨b, hb1, hb2⟩ := has_ev (nodeAt G i).f3 (hok _ (rd_mem56 G i h0 h1)).2.2.2 (bt x a) (bt_range x a).1 (bt_range x a).2
    rw [hh] at hb1
    obtain rfl := Option.some.inj hb1
    exact Ev.succ (fun k => by rw [vetchref18_Node.f, if_neg (by omega), if_pos ⟨h0, h1⟩, if_neg (show ¬ (nodeAt G i).f0 = 0 by omega), if_pos o, if_pos hlt, if_pos ha0, w64p (u - 1) (by omega), w64p (a + 1) (by omega)]) (Ev.bind (g := fun _ b => if b = true then some (true, a + 1, u - 1) else some (true, -1, u - 1)) hb2 (Ev.of_eq fun _ => if_pos rfl))
  | @miss i a u o hu hm =>
    intro ha0 ha hub h0 h1
    by_cases hlt : a < (x.size : Int)
    · obtain ⟨b, hb1, hb2⟩ := has_ev (nodeAt G i).f3 (hok _ (rd_mem56 G i h0 h1)).2.2.2 (bt x a) (bt_range x a).1 (bt_range x a).2
      rw [hm hlt] at hb1
      obtain rfl := Option.some.inj hb1
      exact Ev.succ (fun k => by rw [vetchref18_Node.f, if_neg (by omega), if_pos ⟨h0, h1⟩, if_neg (show ¬ (nodeAt G i).f0 = 0 by omega), if_pos o, if_pos hlt, if_pos ha0, w64p (u - 1) (by omega), w64p (a + 1) (by omega)]) (Ev.bind (g := fun _ b => if b = true then some (true, a + 1, u - 1) else some (true, -1, u - 1)) hb2 (Ev.of_eq fun _ => if_neg (by decide)))
    · exact Ev.succ (g := fun _ => some (true, -1, u - 1)) (fun k => by rw [vetchref18_Node.f, if_neg (by omega), if_pos ⟨h0, h1⟩, if_neg (show ¬ (nodeAt G i).f0 = 0 by omega), if_pos o, if_neg hlt, w64p (u - 1) (by omega)]) (Ev.const _)
  | @call i a u e l o hu _ ih =>
    intro ha0 ha hub h0 h1
    obtain ⟨p0, p1⟩ := (hw.made _ h0 h1).2.2.2.2.2.2.1 o
    have hr := hw.roots _ p0 p1
    exact Ev.succ (fun k => by rw [vetchref18_Node.f, if_neg (by omega), if_pos ⟨h0, h1⟩, if_neg (show ¬ (nodeAt G i).f0 = 0 by omega), if_neg (show ¬ (nodeAt G i).f0 = 1 by omega), if_pos o, if_pos ⟨p0, p1⟩, w64p (u - 1) (by omega)]) (ih ha0 ha (by omega) hr.1 hr.2)
  | @seq i a u e l o hu _ ih =>
    intro ha0 ha hub h0 h1
    exact Ev.succ (fun k => by rw [vetchref18_Node.f, if_neg (by omega), if_pos ⟨h0, h1⟩, if_neg (show ¬ (nodeAt G i).f0 = 0 by omega), if_neg (show ¬ (nodeAt G i).f0 = 1 by omega), if_neg (show ¬ (nodeAt G i).f0 = 2 by omega), if_pos o, w64p (u - 1) (by omega)]) (ih ha0 ha (by omega) (kids _ h0 h1))
  | @cho i a u e l o hu _ ih =>
    intro ha0 ha hub h0 h1
    exact Ev.succ (fun k => by rw [vetchref18_Node.f, if_neg (by omega), if_pos ⟨h0, h1⟩, if_neg (show ¬ (nodeAt G i).f0 = 0 by omega), if_neg (show ¬ (nodeAt G i).f0 = 1 by omega), if_neg (show ¬ (nodeAt G i).f0 = 2 by omega), if_neg (show ¬ (nodeAt G i).f0 = 3 by omega), if_pos o, w64p (u - 1) (by omega)]) (ih ha0 ha (by omega) (kids _ h0 h1))
  | @star i a u e l o hu hrun ih =>
    intro ha0 ha hub h0 h1
    obtain ⟨_, k0, k1⟩ := kid _ h0 h1 (by omega)
    obtain ⟨_, r2, r3, hr, hrep⟩ := ih ha0 ha (by omega) k0 k1
    exact Ev.succ (one i a u h0 h1 hu hub (by omega)) (Ev.bind hr (Ev.congr (fun k => by rw [if_neg (by simp), if_neg (by omega), if_neg (by omega), if_neg (by omega), if_neg (fun h => by have := h.2; omega)]; rfl) (hrep 0)))
  | @plusNo i a u b l o hu _ hb ih =>
    intro ha0 ha hub h0 h1
    obtain ⟨_, k0, k1⟩ := kid _ h0 h1 (by omega)
    exact Ev.succ (one i a u h0 h1 hu hub (by omega)) (Ev.bind (ih ha0 ha (by omega) k0 k1) (Ev.of_eq fun k => by rw [if_neg (by simp), if_neg (by omega), if_neg (by omega), if_neg (by omega), if_pos ⟨hb, o⟩]))
  | @plus i a u b m e l o hu hr1 hb _ ih1 ih2 =>
    intro ha0 ha hub h0 h1
    obtain ⟨_, k0, k1⟩ := kid _ h0 h1 (by omega)
    have hrg := run_range hr1 ha0 ha
    have hlf := run_left hr1
    have hrep := (ih2 hb hrg.2.1 (by omega) k0 k1).1 0 a
    exact Ev.succ (one i a u h0 h1 hu hub (by omega)) (Ev.bind (ih1 ha0 ha (by omega) k0 k1) (Ev.congr (fun k => by rw [if_neg (by simp), if_neg (by omega), if_neg (by omega), if_neg (by omega), if_neg (fun h => by have := h.1; dsimp only at this; omega)]; rfl) hrep))
  | @optNo i a u b l o hu _ hb ih =>
    intro ha0 ha hub h0 h1
    obtain ⟨_, k0, k1⟩ := kid _ h0 h1 (by omega)
    exact Ev.succ (one i a u h0 h1 hu hub (by omega)) (Ev.bind (ih ha0 ha (by omega) k0 k1) (Ev.of_eq fun k => by rw [if_neg (by simp), if_pos o, if_pos hb]))
  | @opt i a u b l o hu _ hb ih =>
    intro ha0 ha hub h0 h1
    obtain ⟨_, k0, k1⟩ := kid _ h0 h1 (by omega)
    exact Ev.succ (one i a u h0 h1 hu hub (by omega)) (Ev.bind (ih ha0 ha (by omega) k0 k1) (Ev.of_eq fun k => by rw [if_neg (by simp), if_pos o, if_neg (by dsimp only; omega)]))
  | @andNo i a u b l o hu _ hb ih =>
    intro ha0 ha hub h0 h1
    obtain ⟨_, k0, k1⟩ := kid _ h0 h1 (by omega)
    exact Ev.succ (one i a u h0 h1 hu hub (by omega)) (Ev.bind (ih ha0 ha (by omega) k0 k1) (Ev.of_eq fun k => by rw [if_neg (by simp), if_neg (by omega), if_pos o, if_pos hb]))
  | @and i a u b l o hu _ hb ih =>
    intro ha0 ha hub h0 h1
    obtain ⟨_, k0, k1⟩ := kid _ h0 h1 (by omega)
    exact Ev.succ (one i a u h0 h1 hu hub (by omega)) (Ev.bind (ih ha0 ha (by omega) k0 k1) (Ev.of_eq fun k => by rw [if_neg (by simp), if_neg (by omega), if_pos o, if_neg (by dsimp only; omega)]))
  | @notNo i a u b l o hu _ hb ih =>
    intro ha0 ha hub h0 h1
    obtain ⟨_, k0, k1⟩ := kid _ h0 h1 (by omega)
    exact Ev.succ (one i a u h0 h1 hu hub (by omega)) (Ev.bind (ih ha0 ha (by omega) k0 k1) (Ev.of_eq fun k => by rw [if_neg (by simp), if_neg (by omega), if_neg (by omega), if_pos o, if_neg (by dsimp only; omega)]))
  | @not i a u b l o hu _ hb ih =>
    intro ha0 ha hub h0 h1
    obtain ⟨_, k0, k1⟩ := kid _ h0 h1 (by omega)
    exact Ev.succ (one i a u h0 h1 hu hub (by omega)) (Ev.bind (ih ha0 ha (by omega) k0 k1) (Ev.of_eq fun k => by rw [if_neg (by simp), if_neg (by omega), if_neg (by omega), if_pos o, if_pos hb]))
  | seqNil => exact fun ha0 ha hub _ => Ev.of_eq fun k => by rw [vetchref18_Node.seqF]
  | @seqNo c cs a u b l _ hb ih =>
    intro ha0 ha hub hk
    have hc := hk c (by simp)
    exact Ev.congr (fun k => seqF_cons _ _ _ _ _) (Ev.bind (ih ha0 ha hub hc.1 hc.2) (Ev.of_eq fun _ => if_neg (fun h => by have := h.2; dsimp only at this; omega)))
  | @seqGo c cs a u b m e l hr1 hb _ ih1 ih2 =>
    intro ha0 ha hub hk
    have hc := hk c (by simp)
    have hrg := run_range hr1 ha0 ha
    have hlf := run_left hr1
    exact Ev.congr (fun k => seqF_cons _ _ _ _ _) (Ev.bind (ih1 ha0 ha hub hc.1 hc.2) (Ev.congr (fun _ => if_pos ⟨rfl, hb⟩) (ih2 hb hrg.2.1 (by omega) (fun d hd => hk d (List.mem_cons_of_mem _ hd)))))
  | choNil => exact fun ha0 ha hub _ => Ev.of_eq fun k => by rw [vetchref18_Node.choF]
  | @choYes c cs a u b l _ hb ih =>
    intro ha0 ha hub hk
    have hc := hk c (by simp)
    exact Ev.congr (fun k => choF_cons _ _ _ _ _) (Ev.bind (ih ha0 ha hub hc.1 hc.2) (Ev.of_eq fun _ => if_neg (fun h => by have := h.2; dsimp only at this; omega)))
  | @choGo c cs a u b m e l hr1 hb _ ih1 ih2 =>
    intro ha0 ha hub hk
    have hc := hk c (by simp)
    have hrg := run_range hr1 ha0 ha
    have hlf := run_left hr1
    have eb : b = -1 := by omega
    subst eb
    exact Ev.congr (fun k => choF_cons _ _ _ _ _) (Ev.bind (ih1 ha0 ha hub hc.1 hc.2) (Ev.congr (fun _ => if_pos ⟨rfl, hb⟩) (ih2 ha0 ha (by omega) (fun d hd => hk d (List.mem_cons_of_mem _ hd)))))
  | @repEnd c a u b l _ hb ih =>
    intro ha0 ha hub h0 h1
    have hr := ih ha0 ha hub h0 h1
    have fin : ∀ q : Nat, Ev (fun k => vetchref18_Node.repF (fun a u => vetchref18_Node.f (k + q) R G c x a u) k a (true, b, l)) (true, a, l) := fun q =>
      Ev.succ (g := fun _ => some (true, a, l)) (fun k => by rw [vetchref18_Node.repF, if_neg (fun h => by have := h.2; dsimp only at this; omega), if_pos rfl]) (Ev.const _)
    refine ⟨fun q last => Ev.succ (fun k => ?_) (Ev.bind (g := fun k t => vetchref18_Node.repF (fun a u => vetchref18_Node.f (k + (q + 1)) R G c x a u) k a t) (Ev.shift (q + 1) hr) (fin (q + 1))), b, l, hr, fin⟩
    rw [vetchref18_Node.repF, if_pos ⟨rfl, ha0⟩, show k + 1 + q = k + (q + 1) by omega]
  | @repGo c a u b m e l hr1 hb _ ih1 ih2 =>
    intro ha0 ha hub h0 h1
    have hr := ih1 ha0 ha hub h0 h1
    have hrg := run_range hr1 ha0 ha
    have hlf := run_left hr1
    obtain ⟨hrep, _⟩ := ih2 hb hrg.2.1 (by omega) h0 h1
    refine ⟨fun q last => Ev.succ (fun k => ?_) (Ev.bind (g := fun k t => vetchref18_Node.repF (fun a u => vetchref18_Node.f (k + (q + 1)) R G c x a u) k a t) (Ev.shift (q + 1) hr) (hrep (q + 1) a)), b, m, hr, fun q => hrep q a⟩
    rw [vetchref18_Node.repF, if_pos ⟨rfl, ha0⟩, show k + 1 + q = k + (q + 1) by omega]
end Go.Proofs.Ythgedejnpgcacaa.V
namespace Go.Proofs.Ythgedejnpgcacaa.V
open Go.RowKit Go.Proofs.YthgedejnpgcacaaW.PrintWords
set_option linter.unusedVariables false
set_option linter.unusedSectionVars false
abbrev FactT := S45
abbrev factAt (l : List FactT) (i : Int) : FactT := rd_T45 l i
instance decFactT : DecidableEq FactT := fun a b => if h : a.f0 = b.f0 ∧ a.f1 = b.f1 ∧ a.f2 = b.f2 then isTrue (by obtain ⟨a1, a2, a3⟩ := a; obtain ⟨b1, b2, b3⟩ := b; obtain ⟨h1, h2, h3⟩ := h; dsimp only at h1 h2 h3; subst h1 h2 h3; rfl) else isFalse (fun e => h (by subst e; exact ⟨rfl, rfl, rfl⟩))
def FLe (a b : FactT) : Prop := (a.f0 = true → b.f0 = true) ∧ (a.f1 = true → b.f1 = true) ∧ (a.f2 = true → b.f2 = true)
def LLe (a b : List FactT) : Prop := a.length = b.length ∧ ∀ i : Int, FLe (factAt a i) (factAt b i)
def mkF (t : Bool × Bool × Bool) : FactT := ⟨t.1, t.2.1, t.2.2⟩
def stepL (R : List RuleT) (G : List NodeT) (l : List FactT) : List FactT := G.map fun nd => mkF (vetchref11_Node.p R l nd)
theorem FLe.refl (a : FactT) : FLe a a := ⟨id, id, id⟩
theorem FLe.trans {a b c : FactT} (h : FLe a b) (k : FLe b c) : FLe a c := ⟨fun x => k.1 (h.1 x), fun x => k.2.1 (h.2.1 x), fun x => k.2.2 (h.2.2 x)⟩
theorem seqF_mono {l m : List FactT} (h : ∀ i, FLe (factAt l i) (factAt m i)) : ∀ (cs : List Int) (n e f al n' e' f' al' : Bool), (n = true → n' = true) → (e = true → e' = true) → (f = true → f' = true) → (al = true → al' = true) →
    FLe (mkF (vetchref11_Node.seqF l cs n e f al)) (mkF (vetchref11_Node.seqF m cs n' e' f' al')) := by
  intro cs
  induction cs with
  | nil =>
    intro n e f al n' e' f' al' h1 h2 h3 h4
    refine ⟨h1, fun hx => ?_, h3⟩
    simp only [vetchref11_Node.seqF, mkF, Bool.and_eq_true] at hx ⊢
    exact ⟨h2 hx.1, h4 hx.2⟩
  | cons c cs ih =>
    intro n e f al n' e' f' al' h1 h2 h3 h4
    obtain ⟨k1, k2, k3⟩ := h c
    refine ih _ _ _ _ _ _ _ _ ?_ ?_ ?_ ?_
    · simp only [Bool.and_eq_true]; exact fun hx => ⟨h1 hx.1, k1 hx.2⟩
    · simp only [Bool.or_eq_true]; exact fun hx => hx.imp h2 k2
    · simp only [Bool.or_eq_true, Bool.and_eq_true]; exact fun hx => hx.imp h3 (fun hy => ⟨k3 hy.1, h4 hy.2⟩)
    · simp only [Bool.or_eq_true, Bool.and_eq_true]; exact fun hx => ⟨h4 hx.1, hx.2.imp k1 k2⟩
theorem choF_mono' {l m : List FactT} (h : ∀ i, FLe (factAt l i) (factAt m i)) : ∀ (cs : List Int) (n e f n' e' f' : Bool), (n = true → n' = true) → (e = true → e' = true) → (f = true → f' = true) →
    FLe (mkF (vetchref11_Node.choF l cs n e f)) (mkF (vetchref11_Node.choF m cs n' e' f')) := by
  intro cs
  induction cs with
  | nil => exact fun n e f n' e' f' h1 h2 h3 => ⟨h1, h2, h3⟩
  | cons c cs ih =>
    intro n e f n' e' f' h1 h2 h3
    obtain ⟨k1, k2, k3⟩ := h c
    refine ih _ _ _ _ _ _ ?_ ?_ ?_
    · simp only [Bool.or_eq_true, Bool.and_eq_true]; exact fun hx => hx.imp h1 (fun hy => ⟨k1 hy.1, h3 hy.2⟩)
    · simp only [Bool.or_eq_true, Bool.and_eq_true]; exact fun hx => hx.imp h2 (fun hy => ⟨k2 hy.1, h3 hy.2⟩)
    · simp only [Bool.and_eq_true]; exact fun hx => ⟨h3 hx.1, k3 hx.2⟩
theorem p_mono (R : List RuleT) {l m : List FactT} (h : ∀ i, FLe (factAt l i) (factAt m i)) (nd : NodeT) : FLe (mkF (vetchref11_Node.p R l nd)) (mkF (vetchref11_Node.p R m nd)) := by
  have hk := h (rd nd.f1 0)
  have hr := h (rd_T51 R nd.f2).f1
  obtain ⟨k1, k2, k3⟩ := hk
  have e1 : ∀ {a b a' b' : Bool}, (a = true → a' = true) → (b = true → b' = true) → (a || b) = true → (a' || b') = true := fun ha hb hx => by rw [Bool.or_eq_true] at hx ⊢; exact hx.imp ha hb
  have e2 : ∀ {a b a' b' : Bool}, (a = true → a' = true) → (b = true → b' = true) → (a && b) = true → (a' && b') = true := fun ha hb hx => by rw [Bool.and_eq_true] at hx ⊢; exact ⟨ha hx.1, hb hx.2⟩
  unfold vetchref11_Node.p
  by_cases c0 : nd.f0 = 0
  · rw [if_pos c0, if_pos c0]; exact FLe.refl _
  rw [if_neg c0, if_neg c0]
  by_cases c1 : nd.f0 = 1
  · rw [if_pos c1, if_pos c1]; exact FLe.refl _
  rw [if_neg c1, if_neg c1]
  by_cases c2 : nd.f0 = 2
  · rw [if_pos c2, if_pos c2]; exact hr
  rw [if_neg c2, if_neg c2]
  by_cases c3 : nd.f0 = 3
  · rw [if_pos c3, if_pos c3]; exact seqF_mono h _ _ _ _ _ _ _ _ _ id id id id
  rw [if_neg c3, if_neg c3]
  by_cases c4 : nd.f0 = 4
  · rw [if_pos c4, if_pos c4]; exact choF_mono' h _ _ _ _ _ _ _ id id id
  rw [if_neg c4, if_neg c4]
  dsimp only
  by_cases c5 : nd.f0 = 5
  · rw [if_pos c5, if_pos c5]; exact ⟨k3, k2, id⟩
  rw [if_neg c5, if_neg c5]
  by_cases c6 : nd.f0 = 6
  · rw [if_pos c6, if_pos c6]; exact ⟨e2 k1 k3, k2, k3⟩
  rw [if_neg c6, if_neg c6]
  by_cases c7 : nd.f0 = 7
  · rw [if_pos c7, if_pos c7]; exact ⟨e1 k1 k3, k2, id⟩
  rw [if_neg c7, if_neg c7]
  by_cases c8 : nd.f0 = 8
  · rw [if_pos c8, if_pos c8]; exact ⟨e1 k1 k2, id, k3⟩
  rw [if_neg c8, if_neg c8]
  by_cases c9 : nd.f0 = 9
  · rw [if_pos c9, if_pos c9]; exact ⟨k3, id, e1 k1 k2⟩
  rw [if_neg c9, if_neg c9]
  exact FLe.refl _
theorem fact_out (l : List FactT) (i : Int) (h : ¬ i.toNat < l.length) : factAt l i = z45 := by
  show l.getD i.toNat _ = _
  rw [List.getD_eq_getElem?_getD, List.getElem?_eq_none (by omega)]
  rfl
theorem fact_step (R : List RuleT) (G : List NodeT) (l : List FactT) (i : Int) (h0 : 0 ≤ i) (h1 : i < (G.length : Int)) : factAt (stepL R G l) i = mkF (vetchref11_Node.p R l (nodeAt G i)) := by
  have h : i.toNat < G.length := by omega
  show (G.map _).getD i.toNat _ = mkF (vetchref11_Node.p R l (G.getD i.toNat _))
  rw [List.getD_eq_getElem?_getD, List.getD_eq_getElem?_getD, List.getElem?_map, List.getElem?_eq_getElem h]
  rfl
theorem step_length (R : List RuleT) (G : List NodeT) (l : List FactT) : (stepL R G l).length = G.length := by simp [stepL]
theorem step_mono (R : List RuleT) (G : List NodeT) {l m : List FactT} (h : ∀ i, FLe (factAt l i) (factAt m i)) (i : Int) : FLe (factAt (stepL R G l) i) (factAt (stepL R G m) i) := by
  by_cases hi : i.toNat < G.length
  · have e : factAt (stepL R G l) i = mkF (vetchref11_Node.p R l (G.getD i.toNat z56)) := by
      show (G.map _).getD i.toNat _ = _
      rw [List.getD_eq_getElem?_getD, List.getD_eq_getElem?_getD, List.getElem?_map, List.getElem?_eq_getElem hi]
      rfl
    have e' : factAt (stepL R G m) i = mkF (vetchref11_Node.p R m (G.getD i.toNat z56)) := by
      show (G.map _).getD i.toNat _ = _
      rw [List.getD_eq_getElem?_getD, List.getD_eq_getElem?_getD, List.getElem?_map, List.getElem?_eq_getElem hi]
      rfl
    rw [e, e']
    exact p_mono R h _
  · rw [fact_out _ _ (by rw [step_length]; exact hi), fact_out _ _ (by rw [step_length]; exact hi)]
    exact FLe.refl _
def cntF (a : FactT) : Nat := a.f0.toNat + a.f1.toNat + a.f2.toNat
def cnt (l : List FactT) : Nat := (l.map cntF).sum
theorem cntF_le (a : FactT) : cntF a ≤ 3 := by obtain ⟨a, b, c⟩ := a; cases a <;> cases b <;> cases c <;> decide
theorem cntF_mono {a b : FactT} (h : FLe a b) : cntF a ≤ cntF b ∧ (cntF b ≤ cntF a → a = b) := by
  obtain ⟨a1, a2, a3⟩ := a
  obtain ⟨b1, b2, b3⟩ := b
  obtain ⟨h1, h2, h3⟩ := h
  cases a1 <;> cases a2 <;> cases a3 <;> cases b1 <;> cases b2 <;> cases b3 <;> simp_all [cntF]
theorem cnt_le : ∀ l : List FactT, cnt l ≤ 3 * l.length
  | [] => by simp [cnt]
  | a :: l => by
    have := cnt_le l
    have := cntF_le a
    simp only [cnt, List.map_cons, List.sum_cons, List.length_cons] at *
    omega
theorem cnt_mono : ∀ (a b : List FactT), a.length = b.length → (∀ i : Nat, ∀ x y, a[i]? = some x → b[i]? = some y → FLe x y) → cnt a ≤ cnt b ∧ (cnt b ≤ cnt a → a = b)
  | [], [], _, _ => ⟨Nat.le_refl _, fun _ => rfl⟩
  | [], _ :: _, h, _ => by simp at h
  | _ :: _, [], h, _ => by simp at h
  | x :: a, y :: b, hl, h => by
    have h1 := cntF_mono (h 0 x y rfl rfl)
    have h2 := cnt_mono a b (by simpa using hl) (fun i u v hu hv => h (i + 1) u v (by simpa using hu) (by simpa using hv))
    simp only [cnt, List.map_cons, List.sum_cons] at *
    refine ⟨by omega, fun hc => ?_⟩
    rw [h1.2 (by omega), h2.2 (by omega)]
theorem lle_cnt {a b : List FactT} (h : LLe a b) : cnt a ≤ cnt b ∧ (cnt b ≤ cnt a → a = b) := cnt_mono a b h.1 (fun i x y hx hy => by
  have := h.2 (i : Int)
  have e : factAt a (i : Int) = x := by
    show a.getD ((i : Int).toNat) _ = x
    rw [List.getD_eq_getElem?_getD, show ((i : Int).toNat) = i by omega, hx]
    rfl
  have e' : factAt b (i : Int) = y := by
    show b.getD ((i : Int).toNat) _ = y
    rw [List.getD_eq_getElem?_getD, show ((i : Int).toNat) = i by omega, hy]
    rfl
  rwa [e, e'] at this)
section
variable {R : List RuleT} {G : List NodeT} (hw : WF R G)
include hw
theorem fit_ok (l : List FactT) (hl : l.length = G.length) (i : Int) (h0 : 0 ≤ i) (h1 : i < (G.length : Int)) : vetchref11_Node.fit R l (nodeAt G i) := by
  obtain ⟨m0, m1, m2, m3, m4, m5, m6, m7, m8⟩ := hw.made i h0 h1
  refine ⟨fun c hc => ?_, fun h5 _ he => ?_, fun h2 => ?_⟩
  · have := hw.kids i h0 h1 c hc
    omega
  · have := m5 h5
    rw [show (nodeAt G i).f1 = [] from he] at this
    simp at this
  · obtain ⟨p0, p1⟩ := m6 h2
    have := hw.roots _ p0 p1
    exact ⟨p0, p1, this.1, by have := this.2; show (ruleAt R (nodeAt G i).f2).f1 < _; omega⟩
theorem node11_ev (l : List FactT) (hl : l.length = G.length) (i : Int) (h0 : 0 ≤ i) (h1 : i < (G.length : Int)) : vetchref11_Node.f R G i l = some (vetchref11_Node.p R l (nodeAt G i)) := by
  unfold vetchref11_Node.f
  rw [if_pos ⟨h0, h1, fit_ok hw l hl i h0 h1⟩]
theorem step_ev (l : List FactT) (hl : l.length = G.length) : Ev (fun k => vetchref11_Step.f k R G l) (stepL R G l) := by
  have hn := hw.nodes
  have loop : ∀ (n j : Nat), j + n = G.length → Ev (fun k => vetchref11_Step.l0 k l ((G.take j).map fun nd => mkF (vetchref11_Node.p R l nd)) (j : Int) R G) (stepL R G l) := by
    intro n
    induction n with
    | zero =>
      intro j hj
      refine Ev.succ (g := fun _ => some (stepL R G l)) (fun k => ?_) (Ev.const _)
      rw [vetchref11_Step.l0, if_neg (by omega), List.take_of_length_le (by omega)]
      rfl
    | succ n ih =>
      intro j hj
      have h := ih (j + 1) (by omega)
      refine Ev.succ (fun k => ?_) h
      rw [vetchref11_Step.l0, if_pos (by omega), node11_ev hw l hl j (by omega) (by omega), Option.bind_some, if_pos (by rw [List.length_map, List.length_take]; omega), w64p ((j : Int) + 1) (by omega)]
      have e : G.take (j + 1) = G.take j ++ [nodeAt G j] := by
        have hj' : j < G.length := by omega
        rw [List.take_succ_eq_append_getElem hj']
        congr 2
        show _ = G.getD ((j : Int).toNat) _
        rw [List.getD_eq_getElem?_getD, show ((j : Int).toNat) = j by omega, List.getElem?_eq_getElem hj']
        rfl
      rw [e, List.map_append]
      rfl
  have := loop G.length 0 (by omega)
  exact this
omit hw in
theorem same_ev (a b : List FactT) (hl : a.length = b.length) (hb : a.length ≤ 1000000) : Ev (fun k => vetchref11_Same.f k a b) (decide (a = b)) := by
  have loop : ∀ (n j : Nat), j + n = a.length → a.take j = b.take j → Ev (fun k => vetchref11_Same.l0 k a b (j : Int)) (decide (a = b)) := by
    intro n
    induction n with
    | zero =>
      intro j hj ht
      have e : a = b := by rwa [List.take_of_length_le (by omega), List.take_of_length_le (by omega)] at ht
      rw [decide_eq_true e]
      exact Ev.succ (g := fun _ => some true) (fun k => by rw [vetchref11_Same.l0, if_neg (by omega)]) (Ev.const _)
    | succ n ih =>
      intro j hj ht
      have hja : j < a.length := by omega
      have hjb : j < b.length := by omega
      have ea : factAt a (j : Int) = a[j] := by
        show a.getD ((j : Int).toNat) _ = _
        rw [List.getD_eq_getElem?_getD, show ((j : Int).toNat) = j by omega, List.getElem?_eq_getElem hja]
        rfl
      have eb : factAt b (j : Int) = b[j] := by
        show b.getD ((j : Int).toNat) _ = _
        rw [List.getD_eq_getElem?_getD, show ((j : Int).toNat) = j by omega, List.getElem?_eq_getElem hjb]
        rfl
      by_cases c : a[j] = b[j]
      · refine Ev.succ (fun k => ?_) (ih (j + 1) (by omega) (by rw [List.take_succ_eq_append_getElem hja, List.take_succ_eq_append_getElem hjb, ht, c]))
        rw [vetchref11_Same.l0, if_pos (by omega), if_pos (by omega), if_pos (by omega), if_neg, w64p ((j : Int) + 1) (by omega)]
        · rfl
        · show ¬ (!((factAt a (j : Int)).f0 == (factAt b (j : Int)).f0) || (!((factAt a (j : Int)).f1 == (factAt b (j : Int)).f1) || !((factAt a (j : Int)).f2 == (factAt b (j : Int)).f2))) = true
          rw [ea, eb, c]
          simp
      · have hne : ¬ a = b := fun h => c (by subst h; rfl)
        rw [decide_eq_false hne]
        refine Ev.succ (g := fun _ => some false) (fun k => ?_) (Ev.const _)
        rw [vetchref11_Same.l0, if_pos (by omega), if_pos (by omega), if_pos (by omega), if_pos]
        show (!((factAt a (j : Int)).f0 == (factAt b (j : Int)).f0) || (!((factAt a (j : Int)).f1 == (factAt b (j : Int)).f1) || !((factAt a (j : Int)).f2 == (factAt b (j : Int)).f2))) = true
        rw [ea, eb]
        revert c
        generalize a[j] = p
        generalize b[j] = q
        obtain ⟨p1, p2, p3⟩ := p
        obtain ⟨q1, q2, q3⟩ := q
        intro c
        cases p1 <;> cases p2 <;> cases p3 <;> cases q1 <;> cases q2 <;> cases q3 <;> simp_all
  have := loop a.length 0 (by omega) rfl
  exact Ev.congr (fun k => by unfold vetchref11_Same.f; rw [if_pos (by omega)]; rfl) this
theorem of_ev : ∃ l, Ev (fun k => vetchref11_Of.f k R G) l ∧ l.length = G.length ∧ stepL R G l = l ∧ (∀ m : List FactT, (∀ i, FLe (factAt (stepL R G m) i) (factAt m i)) → ∀ i, FLe (factAt l i) (factAt m i)) := by
  have hn := hw.nodes
  have loop : ∀ (n : Nat) (l : List FactT), 3 * G.length - cnt l = n → l.length = G.length → (∀ i, FLe (factAt l i) (factAt (stepL R G l) i)) → (∀ m : List FactT, (∀ i, FLe (factAt (stepL R G m) i) (factAt m i)) → ∀ i, FLe (factAt l i) (factAt m i)) →
      ∃ r, Ev (fun k => vetchref11_Of.l0 k l R G) r ∧ r.length = G.length ∧ stepL R G r = r ∧ (∀ m : List FactT, (∀ i, FLe (factAt (stepL R G m) i) (factAt m i)) → ∀ i, FLe (factAt r i) (factAt m i)) := by
    intro n
    induction n using Nat.strongRecOn with
    | _ n ih =>
      intro l hc hl hle hmin
      have hs := step_ev hw l hl
      have hsame := same_ev l (stepL R G l) (by rw [step_length, hl]) (by omega)
      have stepO : ∀ k, vetchref11_Of.l0 (k + 1) l R G = (vetchref11_Step.f k R G l).bind fun t => (vetchref11_Same.f k l t).bind fun s => if s = true then some l else vetchref11_Of.l0 k t R G := fun k => by rw [vetchref11_Of.l0]
      by_cases e : l = stepL R G l
      · rw [decide_eq_true e] at hsame
        exact ⟨l, Ev.succ stepO (Ev.bind hs (Ev.bind hsame (Ev.of_eq fun _ => if_pos rfl))), hl, e.symm, hmin⟩
      · rw [decide_eq_false e] at hsame
        have hcc := lle_cnt (a := l) (b := stepL R G l) ⟨by rw [step_length, hl], hle⟩
        have hlt : cnt l < cnt (stepL R G l) := by
          rcases Nat.lt_or_ge (cnt l) (cnt (stepL R G l)) with h | h
          · exact h
          · exact absurd (hcc.2 h) e
        have hb := cnt_le (stepL R G l)
        rw [step_length] at hb
        obtain ⟨r, hr, h2⟩ := ih (3 * G.length - cnt (stepL R G l)) (by omega) (stepL R G l) rfl (step_length R G l) (step_mono R G hle) (fun m hm i => (step_mono R G (hmin m hm) i).trans (hm i))
        exact ⟨r, Ev.succ stepO (Ev.bind hs (Ev.bind hsame (Ev.congr (fun _ => if_neg (by decide)) hr))), h2⟩
  have bot : ∀ i, factAt (List.replicate G.length z45) i = z45 := fun i => by
    show (List.replicate G.length _).getD i.toNat _ = _
    rw [List.getD_eq_getElem?_getD, List.getElem?_replicate]
    split <;> rfl
  have hz : ∀ a : FactT, FLe z45 a := fun a => ⟨fun h => absurd h (by decide), fun h => absurd h (by decide), fun h => absurd h (by decide)⟩
  obtain ⟨r, hr, h2⟩ := loop _ (List.replicate G.length z45) rfl (by simp) (fun i => by rw [bot]; exact hz _) (fun m _ i => by rw [bot]; exact hz _)
  refine ⟨r, Ev.congr (fun k => ?_) hr, h2⟩
  unfold vetchref11_Of.f
  rw [if_pos (by omega), if_pos (by omega), show ((G.length : Int) : Int).toNat = G.length by omega]
end
end Go.Proofs.Ythgedejnpgcacaa.V
namespace Go.Proofs.Ythgedejnpgcacaa.V
open Go.RowKit Go.Proofs.YthgedejnpgcacaaW.PrintWords Go.Proofs.YthgedejnpgcacaaW.PrintLast Go.Proofs.YthgedejnpgcacaaW.PrintMore
attribute [local go_sem] max2_int min2_int max_two min_two max_three min_three max_four min_four tdiv_most
set_option linter.unusedVariables false
set_option linter.unusedSimpArgs false
end Go.Proofs.Ythgedejnpgcacaa.V
namespace Go.Proofs.Ythgedejnpgcacaa.V
open Go.RowKit Go.Proofs.YthgedejnpgcacaaW.PrintWords
set_option linter.unusedVariables false
theorem seqF_keeps (l : List FactT) : ∀ (cs : List Int) (n e f al : Bool), f = true → (vetchref11_Node.seqF l cs n e f al).2.2 = true
  | [], n, e, f, al, h => h
  | c :: cs, n, e, f, al, h => seqF_keeps l cs _ _ _ _ (by rw [h]; rfl)
theorem choF_keeps (l : List FactT) : ∀ (cs : List Int) (n e f : Bool), (n = true → (vetchref11_Node.choF l cs n e f).1 = true) ∧ (e = true → (vetchref11_Node.choF l cs n e f).2.1 = true)
  | [], n, e, f => ⟨id, id⟩
  | c :: cs, n, e, f => ⟨fun h => (choF_keeps l cs _ _ _).1 (by rw [h]; rfl), fun h => (choF_keeps l cs _ _ _).2 (by rw [h]; rfl)⟩
theorem has_zero (s : S54) (c : Int) (h : (!(s.f0 == 0) || (!(s.f1 == 0) || (!(s.f2 == 0) || !(s.f3 == 0)))) = false) : byteset_Has.f s.f0 s.f1 s.f2 s.f3 c ≠ some true := by
  simp only [Bool.or_eq_false_iff, Bool.not_eq_false', beq_iff_eq] at h
  obtain ⟨h0, h1, h2, h3⟩ := h
  unfold byteset_Has.f
  rw [h0, h1, h2, h3]
  have : arr4 0 0 0 0 (c / 64) = 0 := by
    unfold arr4
    by_cases q0 : c / 64 = 0
    · rw [if_pos q0]
    · rw [if_neg q0]
      by_cases q1 : c / 64 = 1
      · rw [if_pos q1]
      · rw [if_neg q1]
        by_cases q2 : c / 64 = 2
        · rw [if_pos q2]
        · rw [if_neg q2]
  rw [this, Int.zero_ediv]
  split
  · split
    · rw [show (bits .and .u64 0 1 == 1) = false by decide]; simp
    · simp
  · simp
def Says (f : FactT) (a e : Int) : Prop := (e < 0 → f.f2 = true) ∧ (0 ≤ e → a ≤ e ∧ (e = a → f.f0 = true) ∧ (a < e → f.f1 = true))
def Tells (G : List NodeT) (L : List FactT) (a e : Int) : Task → Prop
  | .node i => 0 ≤ i → i < (G.length : Int) → Says (factAt L i) a e
  | .seq cs => (∀ c ∈ cs, 0 ≤ c ∧ c < (G.length : Int)) → ∀ a0 n en f, 0 ≤ a0 → a0 ≤ a → (a = a0 → n = true) → (a0 < a → en = true) → Says (mkF (vetchref11_Node.seqF L cs n en f true)) a0 e
  | .cho cs => (∀ c ∈ cs, 0 ≤ c ∧ c < (G.length : Int)) → ∀ n en, Says (mkF (vetchref11_Node.choF L cs n en true)) a e
  | .rep c => 0 ≤ c → c < (G.length : Int) → a ≤ e ∧ (factAt L c).f2 = true ∧ (a < e → (factAt L c).f1 = true)
theorem run_tells {R : List RuleT} {G : List NodeT} (hw : WF R G) {L : List FactT} (hL : stepL R G L = L) {x : ByteArray} {t : Task} {a u e l : Int} (h : Run R G x t a u e l) : 0 ≤ a → Tells G L a e t := by
  have hf : ∀ i : Int, 0 ≤ i → i < (G.length : Int) → factAt L i = mkF (vetchref11_Node.p R L (nodeAt G i)) := fun i h0 h1 => by
    have := fact_step R G L i h0 h1
    rwa [hL] at this
  have kid : ∀ i : Int, 0 ≤ i → i < (G.length : Int) → 5 ≤ (nodeAt G i).f0 → 0 ≤ rd (nodeAt G i).f1 0 ∧ rd (nodeAt G i).f1 0 < (G.length : Int) := fun i h0 h1 h5 => by
    have hl := (hw.made i h0 h1).2.2.2.2.2.1 h5
    have hm : rd (nodeAt G i).f1 0 ∈ (nodeAt G i).f1 := by
      unfold rd
      rw [List.getD_eq_getElem?_getD, List.getElem?_eq_getElem (by simp; omega)]
      exact List.getElem_mem _
    have := hw.kids i h0 h1 _ hm
    omega
  have kids : ∀ i : Int, 0 ≤ i → i < (G.length : Int) → ∀ c ∈ (nodeAt G i).f1, 0 ≤ c ∧ c < (G.length : Int) := fun i h0 h1 c hc => by
    have := hw.kids i h0 h1 c hc
    omega
  have pk : ∀ i : Int, 0 ≤ i → i < (G.length : Int) → ((nodeAt G i).f0 = 5 → factAt L i = mkF ((factAt L (rd (nodeAt G i).f1 0)).f2, (factAt L (rd (nodeAt G i).f1 0)).f1, false)) ∧
      ((nodeAt G i).f0 = 6 → factAt L i = mkF ((factAt L (rd (nodeAt G i).f1 0)).f0 && (factAt L (rd (nodeAt G i).f1 0)).f2, (factAt L (rd (nodeAt G i).f1 0)).f1, (factAt L (rd (nodeAt G i).f1 0)).f2)) ∧
      ((nodeAt G i).f0 = 7 → factAt L i = mkF ((factAt L (rd (nodeAt G i).f1 0)).f0 || (factAt L (rd (nodeAt G i).f1 0)).f2, (factAt L (rd (nodeAt G i).f1 0)).f1, false)) ∧
      ((nodeAt G i).f0 = 8 → factAt L i = mkF ((factAt L (rd (nodeAt G i).f1 0)).f0 || (factAt L (rd (nodeAt G i).f1 0)).f1, false, (factAt L (rd (nodeAt G i).f1 0)).f2)) ∧
      ((nodeAt G i).f0 = 9 → factAt L i = mkF ((factAt L (rd (nodeAt G i).f1 0)).f2, false, (factAt L (rd (nodeAt G i).f1 0)).f0 || (factAt L (rd (nodeAt G i).f1 0)).f1)) := fun i h0 h1 => by
    rw [hf i h0 h1]
    unfold vetchref11_Node.p
    generalize (nodeAt G i).f0 = op
    refine ⟨fun h => ?_, fun h => ?_, fun h => ?_, fun h => ?_, fun h => ?_⟩ <;> subst h <;> rfl
  induction h with
  | empty o hu =>
    intro ha h0 h1
    rw [hf _ h0 h1, vetchref11_Node.p, if_pos o]
    exact ⟨fun h => absurd h (by omega), fun _ => ⟨Int.le_refl _, fun _ => rfl, fun h => absurd h (by omega)⟩⟩
  | @hit i a u o hu hlt hh =>
    intro ha h0 h1
    rw [hf _ h0 h1, vetchref11_Node.p, if_neg (by omega), if_pos o]
    refine ⟨fun h => absurd h (by omega), fun _ => ⟨by omega, fun h => absurd h (by omega), fun _ => ?_⟩⟩
    cases hb : (!((nodeAt G i).f3.f0 == 0) || (!((nodeAt G i).f3.f1 == 0) || (!((nodeAt G i).f3.f2 == 0) || !((nodeAt G i).f3.f3 == 0)))) with
    | true => rfl
    | false => exact absurd hh (has_zero _ _ hb)
  | miss o hu hm =>
    intro ha h0 h1
    rw [hf _ h0 h1, vetchref11_Node.p, if_neg (by omega), if_pos o]
    exact ⟨fun _ => rfl, fun h => absurd h (by decide)⟩
  | call o hu _ ih =>
    intro ha h0 h1
    obtain ⟨p0, p1⟩ := (hw.made _ h0 h1).2.2.2.2.2.2.1 o
    have hr := hw.roots _ p0 p1
    have := ih ha hr.1 hr.2
    rw [hf _ h0 h1, vetchref11_Node.p, if_neg (by omega), if_neg (by omega), if_pos o]
    exact this
  | seq o hu _ ih =>
    intro ha h0 h1
    have := ih ha (kids _ h0 h1) _ true false false ha (Int.le_refl _) (fun _ => rfl) (fun h => absurd h (by omega))
    rw [hf _ h0 h1, vetchref11_Node.p, if_neg (by omega), if_neg (by omega), if_neg (by omega), if_pos o]
    exact this
  | cho o hu _ ih =>
    intro ha h0 h1
    have := ih ha (kids _ h0 h1) false false
    rw [hf _ h0 h1, vetchref11_Node.p, if_neg (by omega), if_neg (by omega), if_neg (by omega), if_neg (by omega), if_pos o]
    exact this
  | star o hu _ ih =>
    intro ha h0 h1
    obtain ⟨k0, k1⟩ := kid _ h0 h1 (by omega)
    obtain ⟨g1, g2, g3⟩ := ih ha k0 k1
    rw [(pk _ h0 h1).1 o]
    exact ⟨fun h => absurd h (by omega), fun _ => ⟨g1, fun _ => g2, g3⟩⟩
  | plusNo o hu _ hb ih =>
    intro ha h0 h1
    obtain ⟨k0, k1⟩ := kid _ h0 h1 (by omega)
    have g := ih ha k0 k1
    rw [(pk _ h0 h1).2.1 o]
    exact ⟨fun _ => g.1 hb, fun h => absurd h (by omega)⟩
  | @plus i a u b m e l o hu _ hb _ ih1 ih2 =>
    intro ha h0 h1
    obtain ⟨k0, k1⟩ := kid _ h0 h1 (by omega)
    obtain ⟨g1, g2, g3⟩ := (ih1 ha k0 k1).2 hb
    obtain ⟨q1, q2, q3⟩ := ih2 hb k0 k1
    rw [(pk _ h0 h1).2.1 o]
    refine ⟨fun h => absurd h (by omega), fun _ => ⟨by omega, fun he => ?_, fun he => ?_⟩⟩
    · show (_ && _) = true
      rw [g2 (by omega), q2]; rfl
    · by_cases c : a < b
      · exact g3 c
      · exact q3 (by omega)
  | optNo o hu _ hb ih =>
    intro ha h0 h1
    obtain ⟨k0, k1⟩ := kid _ h0 h1 (by omega)
    have g := ih ha k0 k1
    rw [(pk _ h0 h1).2.2.1 o]
    refine ⟨fun h => absurd h (by omega), fun _ => ⟨Int.le_refl _, fun _ => ?_, fun h => absurd h (by omega)⟩⟩
    show (_ || _) = true
    rw [g.1 hb, Bool.or_true]
  | opt o hu _ hb ih =>
    intro ha h0 h1
    obtain ⟨k0, k1⟩ := kid _ h0 h1 (by omega)
    obtain ⟨g1, g2, g3⟩ := (ih ha k0 k1).2 hb
    rw [(pk _ h0 h1).2.2.1 o]
    refine ⟨fun h => absurd h (by omega), fun _ => ⟨g1, fun he => ?_, g3⟩⟩
    show (_ || _) = true
    rw [g2 he, Bool.true_or]
  | andNo o hu _ hb ih =>
    intro ha h0 h1
    obtain ⟨k0, k1⟩ := kid _ h0 h1 (by omega)
    have g := ih ha k0 k1
    rw [(pk _ h0 h1).2.2.2.1 o]
    exact ⟨fun _ => g.1 hb, fun h => absurd h (by omega)⟩
  | @and i a u b l o hu _ hb ih =>
    intro ha h0 h1
    obtain ⟨k0, k1⟩ := kid _ h0 h1 (by omega)
    obtain ⟨g1, g2, g3⟩ := (ih ha k0 k1).2 hb
    rw [(pk _ h0 h1).2.2.2.1 o]
    refine ⟨fun h => absurd h (by omega), fun _ => ⟨Int.le_refl _, fun _ => ?_, fun h => absurd h (by omega)⟩⟩
    show (_ || _) = true
    by_cases c : b = a
    · rw [g2 c, Bool.true_or]
    · rw [g3 (by omega), Bool.or_true]
  | @notNo i a u b l o hu _ hb ih =>
    intro ha h0 h1
    obtain ⟨k0, k1⟩ := kid _ h0 h1 (by omega)
    obtain ⟨g1, g2, g3⟩ := (ih ha k0 k1).2 hb
    rw [(pk _ h0 h1).2.2.2.2 o]
    refine ⟨fun _ => ?_, fun h => absurd h (by decide)⟩
    show (_ || _) = true
    by_cases c : b = a
    · rw [g2 c, Bool.true_or]
    · rw [g3 (by omega), Bool.or_true]
  | not o hu _ hb ih =>
    intro ha h0 h1
    obtain ⟨k0, k1⟩ := kid _ h0 h1 (by omega)
    have g := ih ha k0 k1
    rw [(pk _ h0 h1).2.2.2.2 o]
    exact ⟨fun h => absurd h (by omega), fun _ => ⟨Int.le_refl _, fun _ => g.1 hb, fun h => absurd h (by omega)⟩⟩
  | seqNil =>
    intro ha _ a0 n en f h0 h1 h2 h3
    refine ⟨fun h => absurd h (by omega), fun _ => ⟨h1, h2, fun h => ?_⟩⟩
    show (_ && true) = true
    rw [h3 h]; rfl
  | @seqNo c cs a u b l _ hb ih =>
    intro ha hk a0 n en f h0 h1 h2 h3
    have hc := hk c (by simp)
    have g := (ih ha hc.1 hc.2).1 hb
    refine ⟨fun _ => seqF_keeps L cs _ _ _ _ ?_, fun h => absurd h (by omega)⟩
    show (f || ((factAt L c).f2 && true)) = true
    rw [g]; simp
  | @seqGo c cs a u b m e l _ hb _ ih1 ih2 =>
    intro ha hk a0 n en f h0 h1 h2 h3
    have hc := hk c (by simp)
    obtain ⟨g1, g2, g3⟩ := (ih1 ha hc.1 hc.2).2 hb
    have hok : (true && ((factAt L c).f0 || (factAt L c).f1)) = true := by
      by_cases q : b = a
      · rw [g2 q]; rfl
      · rw [g3 (by omega)]; simp
    have := ih2 hb (fun d hd => hk d (List.mem_cons_of_mem _ hd)) a0 (n && (factAt L c).f0) (en || (factAt L c).f1) (f || ((factAt L c).f2 && true)) h0 (by omega) (fun q => by rw [h2 (by omega), g2 (by omega)]; rfl) (fun q => by
      by_cases q1 : a0 < a
      · rw [h3 q1]; rfl
      · rw [g3 (by omega)]; simp)
    show Says (mkF (vetchref11_Node.seqF L cs (n && (factAt L c).f0) (en || (factAt L c).f1) (f || ((factAt L c).f2 && true)) (true && ((factAt L c).f0 || (factAt L c).f1)))) a0 e
    rw [hok]
    exact this
  | choNil => exact fun ha _ n en => ⟨fun _ => rfl, fun h => absurd h (by decide)⟩
  | @choYes c cs a u b l _ hb ih =>
    intro ha hk n en
    have hc := hk c (by simp)
    obtain ⟨g1, g2, g3⟩ := (ih ha hc.1 hc.2).2 hb
    refine ⟨fun h => absurd h (by omega), fun _ => ⟨g1, fun q => (choF_keeps L cs _ _ _).1 ?_, fun q => (choF_keeps L cs _ _ _).2 ?_⟩⟩
    · show (n || ((factAt L c).f0 && true)) = true
      rw [g2 q]; simp
    · show (en || ((factAt L c).f1 && true)) = true
      rw [g3 q]; simp
  | @choGo c cs a u b m e l _ hb _ ih1 ih2 =>
    intro ha hk n en
    have hc := hk c (by simp)
    have g := (ih1 ha hc.1 hc.2).1 hb
    have := ih2 ha (fun d hd => hk d (List.mem_cons_of_mem _ hd)) (n || ((factAt L c).f0 && true)) (en || ((factAt L c).f1 && true))
    show Says (mkF (vetchref11_Node.choF L cs (n || ((factAt L c).f0 && true)) (en || ((factAt L c).f1 && true)) (true && (factAt L c).f2))) a e
    rw [g]
    exact this
  | repEnd _ hb ih => exact fun ha h0 h1 => ⟨Int.le_refl _, (ih ha h0 h1).1 hb, fun h => absurd h (by omega)⟩
  | @repGo c a u b m e l _ hb _ ih1 ih2 =>
    intro ha h0 h1
    obtain ⟨g1, g2, g3⟩ := (ih1 ha h0 h1).2 hb
    obtain ⟨q1, q2, q3⟩ := ih2 hb h0 h1
    refine ⟨by omega, q2, fun h => ?_⟩
    by_cases c : a < b
    · exact g3 c
    · exact q3 (by omega)
end Go.Proofs.Ythgedejnpgcacaa.V
namespace Go.Proofs.Ythgedejnpgcacaa.V
open Go.RowKit Go.Proofs.YthgedejnpgcacaaW.PrintWords
set_option linter.unusedVariables false
set_option linter.unusedSectionVars false
abbrev nullAt (L : List FactT) (c : Int) : Bool := (factAt L c).f0
def seqNeeds (L : List FactT) : List Int → List Int
  | [] => []
  | c :: cs => c :: (if nullAt L c = true then seqNeeds L cs else [])
def needsL (R : List RuleT) (L : List FactT) (nd : NodeT) : List Int :=
  if nd.f0 = 2 then [(ruleAt R nd.f2).f1] else if nd.f0 = 3 then seqNeeds L nd.f1 else nd.f1
def loopB (L : List FactT) (nd : NodeT) : Bool := (nd.f0 == 5 || nd.f0 == 6) && nullAt L (rd nd.f1 0)
def holdsB (R : List RuleT) (L : List FactT) (ok : List Bool) (nd : NodeT) : Bool := (needsL R L nd).all (fun s => rdOf false ok s) && !loopB L nd
def okStep (R : List RuleT) (G : List NodeT) (L : List FactT) (ok : List Bool) : List Bool := G.map (holdsB R L ok)
def okIt (R : List RuleT) (G : List NodeT) (L : List FactT) : Nat → List Bool
  | 0 => List.replicate G.length false
  | t + 1 => okStep R G L (okIt R G L t)
theorem okIt_length (R : List RuleT) (G : List NodeT) (L : List FactT) : ∀ t, (okIt R G L t).length = G.length
  | 0 => by simp [okIt]
  | t + 1 => by simp [okIt, okStep]
theorem rdOf_map {α : Type} (f : α → Bool) (xs : List α) (d : α) (i : Int) (h0 : 0 ≤ i) (h1 : i < (xs.length : Int)) : rdOf false (xs.map f) i = f (xs.getD i.toNat d) := by
  have h : i.toNat < xs.length := by omega
  unfold rdOf
  rw [List.getD_eq_getElem?_getD, List.getElem?_map, List.getElem?_eq_getElem h, List.getD_eq_getElem?_getD, List.getElem?_eq_getElem h]
  rfl
theorem okIt_succ (R : List RuleT) (G : List NodeT) (L : List FactT) (t : Nat) (i : Int) (h0 : 0 ≤ i) (h1 : i < (G.length : Int)) : rdOf false (okIt R G L (t + 1)) i = holdsB R L (okIt R G L t) (nodeAt G i) := rdOf_map _ G _ i h0 h1
theorem okIt_out (R : List RuleT) (G : List NodeT) (L : List FactT) (t : Nat) (i : Int) (h : (G.length : Int) ≤ i) : rdOf false (okIt R G L t) i = false := by
  unfold rdOf
  rw [List.getD_eq_getElem?_getD, List.getElem?_eq_none (by rw [okIt_length]; omega)]
  rfl
theorem holds_mono (R : List RuleT) (L : List FactT) {a b : List Bool} (h : ∀ i, rdOf false a i = true → rdOf false b i = true) (nd : NodeT) (hh : holdsB R L a nd = true) : holdsB R L b nd = true := by
  unfold holdsB at hh ⊢
  rw [Bool.and_eq_true, List.all_eq_true] at hh ⊢
  exact ⟨fun s hs => h s (hh.1 s hs), hh.2⟩
theorem rdOf_nat {α : Type} (d : α) (xs : List α) (i : Int) : rdOf d xs i = rdOf d xs (i.toNat : Int) := by unfold rdOf; rw [Int.toNat_natCast]
theorem okIt_mono (R : List RuleT) (G : List NodeT) (L : List FactT) : ∀ t i, rdOf false (okIt R G L t) i = true → rdOf false (okIt R G L (t + 1)) i = true
  | 0, i, h => by
    unfold rdOf at h
    simp only [okIt] at h
    rw [List.getD_eq_getElem?_getD, List.getElem?_replicate] at h
    split at h <;> cases h
  | t + 1, i, h => by
    rw [rdOf_nat] at h ⊢
    have hj : (0 : Int) ≤ (i.toNat : Int) := by omega
    generalize (i.toNat : Int) = j at h hj ⊢
    by_cases q : j < (G.length : Int)
    · rw [okIt_succ R G L _ j hj q] at h ⊢
      exact holds_mono R L (fun i hi => okIt_mono R G L t i hi) _ h
    · rw [okIt_out R G L _ j (by omega)] at h
      cases h
theorem rd_getElem (xs : List Int) (j : Nat) (h : j < xs.length) : rd xs (j : Int) = xs[j] := by
  unfold rd
  rw [List.getD_eq_getElem?_getD, Int.toNat_natCast, List.getElem?_eq_getElem h]
  rfl
section
variable {R : List RuleT} {G : List NodeT} (hw : WF R G) (hkl : ∀ i : Int, 0 ≤ i → i < (G.length : Int) → (nodeAt G i).f1.length ≤ 9223372036854775807)
include hw hkl
theorem holds_ev (L : List FactT) (hL : L.length = G.length) (ok : List Bool) (hok : ok.length = G.length) (i : Int) (h0 : 0 ≤ i) (h1 : i < (G.length : Int)) :
    Ev (fun k => vetchref12_holds.f k R G L ok i) (holdsB R L ok (nodeAt G i)) := by
  have hm := hw.made i h0 h1
  have hkid : ∀ c ∈ (nodeAt G i).f1, 0 ≤ c ∧ c < (G.length : Int) := fun c hc => by have := hw.kids i h0 h1 c hc; omega
  have hlen := hkl i h0 h1
  have hroot : (nodeAt G i).f0 = 2 → 0 ≤ (nodeAt G i).f2 ∧ (nodeAt G i).f2 < (R.length : Int) ∧ 0 ≤ (ruleAt R (nodeAt G i).f2).f1 ∧ (ruleAt R (nodeAt G i).f2).f1 < (G.length : Int) := fun h => by
    obtain ⟨a, b⟩ := hm.2.2.2.2.2.2.1 h
    have := hw.roots _ a b
    exact ⟨a, b, this.1, this.2⟩
  have hone : 5 ≤ (nodeAt G i).f0 → (nodeAt G i).f1.length = 1 := hm.2.2.2.2.2.1
  generalize hn : nodeAt G i = nd at hm hkid hlen hroot hone ⊢
  obtain ⟨op, kids, rule, s⟩ := nd
  dsimp only at hkid hlen hroot hone
  have kat : ∀ j : Nat, j < kids.length → 0 ≤ rd kids (j : Int) ∧ rd kids (j : Int) < (G.length : Int) := fun j hj => by rw [rd_getElem kids j hj]; exact hkid _ (List.getElem_mem hj)
  have l2 : ∀ (d j : Nat), j + d = kids.length → (∀ c ∈ kids.take j, rdOf false ok c = true) → Ev (fun k => vetchref12_holds.l2 k L ok (j : Int) op kids rule s.f0 s.f1 s.f2 s.f3) (kids.all (fun c => rdOf false ok c) && !loopB L ⟨op, kids, rule, s⟩) := by
    intro d
    induction d with
    | zero =>
      intro j hj ht
      rw [List.take_of_length_le (by omega)] at ht
      have ha : kids.all (fun c => rdOf false ok c) = true := List.all_eq_true.2 ht
      rw [ha, Bool.true_and]
      unfold loopB
      dsimp only
      by_cases o5 : op = 5
      · have hl := hone (by omega)
        have h0 : 0 ≤ rd kids 0 ∧ rd kids 0 < (G.length : Int) := kat 0 (by omega)
        exact Ev.succ (g := fun _ => some (!nullAt L (rd kids 0))) (fun k => by rw [vetchref12_holds.l2, if_neg (by omega), if_pos o5, if_pos (by omega), if_pos h0.1, if_pos (by rw [hL]; exact h0.2)]) (by
          rw [o5]; exact Ev.const _)
      · by_cases o6 : op = 6
        · have hl := hone (by omega)
          have h0 : 0 ≤ rd kids 0 ∧ rd kids 0 < (G.length : Int) := kat 0 (by omega)
          exact Ev.succ (g := fun _ => some (!nullAt L (rd kids 0))) (fun k => by rw [vetchref12_holds.l2, if_neg (by omega), if_neg o5, if_pos o6, if_pos (by omega), if_pos h0.1, if_pos (by rw [hL]; exact h0.2)]) (by
            rw [o6]; exact Ev.const _)
        · rw [beq_eq_false_iff_ne.2 o5, beq_eq_false_iff_ne.2 o6]
          exact Ev.succ (g := fun _ => some true) (fun k => by rw [vetchref12_holds.l2, if_neg (by omega), if_neg o5, if_neg o6]) (Ev.const _)
    | succ d ih =>
      intro j hj ht
      have hjl : j < kids.length := by omega
      have hk := kat j hjl
      by_cases c : rdOf false ok (rd kids (j : Int)) = true
      · have := ih (j + 1) (by omega) (fun x hx => by
          rw [List.take_succ_eq_append_getElem hjl, List.mem_append, List.mem_singleton] at hx
          rcases hx with hx | rfl
          · exact ht x hx
          · rw [← rd_getElem kids j hjl]; exact c)
        exact Ev.succ (fun k => by rw [vetchref12_holds.l2, if_pos (by omega), if_pos (by omega), if_pos hk.1, if_pos (by rw [hok]; exact hk.2), if_pos c, w64p _ (by omega), show (j : Int) + 1 = ((j + 1 : Nat) : Int) by omega]) this
      · have ha : kids.all (fun c => rdOf false ok c) = false := by
          rw [List.all_eq_false]
          exact ⟨_, List.getElem_mem hjl, by rw [← rd_getElem kids j hjl]; exact c⟩
        rw [ha, Bool.false_and]
        exact Ev.succ (g := fun _ => some false) (fun k => by rw [vetchref12_holds.l2, if_pos (by omega), if_pos (by omega), if_pos hk.1, if_pos (by rw [hok]; exact hk.2), if_neg c]) (Ev.const _)
  have l0 : ∀ (d j : Nat), j + d = kids.length → Ev (fun k => vetchref12_holds.l0 k L ok (j : Int) op kids rule s.f0 s.f1 s.f2 s.f3) (if (kids.take j).all (fun c => nullAt L c) = true then (seqNeeds L (kids.drop j)).all (fun c => rdOf false ok c) else true) := by
    intro d
    induction d with
    | zero =>
      intro j hj
      rw [List.drop_of_length_le (by omega)]
      refine Ev.succ (g := fun _ => some true) (fun k => by rw [vetchref12_holds.l0, if_neg (by omega)]) ?_
      split
      · exact Ev.const _
      · exact Ev.const _
    | succ d ih =>
      intro j hj
      have hjl : j < kids.length := by omega
      have hk := kat j hjl
      have hrest := ih (j + 1) (by omega)
      have htake : (kids.take (j + 1)).all (fun c => nullAt L c) = ((kids.take j).all (fun c => nullAt L c) && nullAt L (rd kids (j : Int))) := by
        rw [List.take_succ_eq_append_getElem hjl, List.all_append, rd_getElem kids j hjl]; simp
      have hdrop : kids.drop j = rd kids (j : Int) :: kids.drop (j + 1) := by rw [List.drop_eq_getElem_cons hjl, rd_getElem kids j hjl]
      have l1 : ∀ (e m : Nat) (b : Bool), m + e = j → b = (kids.take m).all (fun c => nullAt L c) → Ev (fun k => vetchref12_holds.l1 k L ok (j : Int) b (m : Int) op kids rule s.f0 s.f1 s.f2 s.f3) (if (kids.take j).all (fun c => nullAt L c) = true then (seqNeeds L (kids.drop j)).all (fun c => rdOf false ok c) else true) := by
        intro e
        induction e with
        | zero =>
          intro m b hm hb
          obtain rfl : m = j := by omega
          rw [← hb]
          cases b with
          | false =>
            rw [if_neg (by decide)]
            rw [htake, ← hb, Bool.false_and, if_neg (by decide)] at hrest
            exact Ev.succ (fun k => by rw [vetchref12_holds.l1, if_neg (by omega), if_neg (by decide), w64p _ (by omega), show (m : Int) + 1 = ((m + 1 : Nat) : Int) by omega]) hrest
          | true =>
            rw [if_pos rfl, hdrop, seqNeeds, List.all_cons]
            rw [htake, ← hb, Bool.true_and] at hrest
            by_cases c : rdOf false ok (rd kids (m : Int)) = true
            · rw [c, Bool.true_and]
              refine Ev.succ (fun k => by rw [vetchref12_holds.l1, if_neg (by omega), if_pos rfl, if_pos (by omega), if_pos (by omega), if_pos hk.1, if_pos (by rw [hok]; exact hk.2), if_pos c, w64p _ (by omega), show (m : Int) + 1 = ((m + 1 : Nat) : Int) by omega]) ?_
              by_cases q : nullAt L (rd kids (m : Int)) = true
              · rw [if_pos q] at hrest ⊢; exact hrest
              · rw [if_neg q] at hrest ⊢; exact hrest
            · rw [Bool.eq_false_iff.2 c, Bool.false_and]
              exact Ev.succ (g := fun _ => some false) (fun k => by rw [vetchref12_holds.l1, if_neg (by omega), if_pos rfl, if_pos (by omega), if_pos (by omega), if_pos hk.1, if_pos (by rw [hok]; exact hk.2), if_neg c]) (Ev.const _)
        | succ e ihe =>
          intro m b hm hb
          have hml : m < kids.length := by omega
          have hkm := kat m hml
          have htm : (kids.take (m + 1)).all (fun c => nullAt L c) = ((kids.take m).all (fun c => nullAt L c) && nullAt L (rd kids (m : Int))) := by
            rw [List.take_succ_eq_append_getElem hml, List.all_append, rd_getElem kids m hml]; simp
          cases b with
          | false => exact Ev.succ (fun k => by rw [vetchref12_holds.l1, if_pos (by omega), if_neg (by decide), w64p _ (by omega), show (m : Int) + 1 = ((m + 1 : Nat) : Int) by omega]) (ihe (m + 1) false (by omega) (by rw [htm, ← hb]; rfl))
          | true => exact Ev.succ (fun k => by rw [vetchref12_holds.l1, if_pos (by omega), if_pos rfl, if_pos (by omega), if_pos (by omega), if_pos hkm.1, if_pos (by rw [hL]; exact hkm.2), w64p _ (by omega), show (m : Int) + 1 = ((m + 1 : Nat) : Int) by omega]) (ihe (m + 1) (nullAt L (rd kids (m : Int))) (by omega) (by rw [htm, ← hb, Bool.true_and]))
      exact Ev.succ (fun k => by rw [vetchref12_holds.l0, if_pos (by omega)]; rfl) (l1 j 0 true (by omega) (by simp))
  unfold holdsB needsL
  dsimp only
  by_cases o2 : op = 2
  · obtain ⟨a1, a2, a3, a4⟩ := hroot o2
    rw [if_pos o2]
    have hl : loopB L ⟨op, kids, rule, s⟩ = false := by unfold loopB; rw [o2]; rfl
    rw [hl]
    refine Ev.of_eq fun k => ?_
    unfold vetchref12_holds.f
    show (if 0 ≤ i then if i < (G.length : Int) then if (nodeAt G i).f0 = 2 then if 0 ≤ (nodeAt G i).f2 then if (nodeAt G i).f2 < (R.length : Int) then if 0 ≤ (ruleAt R (nodeAt G i).f2).f1 then if (ruleAt R (nodeAt G i).f2).f1 < (ok.length : Int) then _ else _ else _ else _ else _ else _ else _ else _) = _
    rw [if_pos h0, if_pos h1, hn, if_pos o2, if_pos a1, if_pos a2, if_pos a3, if_pos (by rw [hok]; exact a4)]
    simp
    show rdOf false ok (ruleAt R (nodeAt G i).f2).f1 = _
    rw [hn]
  · rw [if_neg o2]
    have hf : ∀ k, vetchref12_holds.f k R G L ok i = if op = 3 then vetchref12_holds.l0 k L ok 0 op kids rule s.f0 s.f1 s.f2 s.f3 else vetchref12_holds.l2 k L ok 0 op kids rule s.f0 s.f1 s.f2 s.f3 := fun k => by
      unfold vetchref12_holds.f
      show (if 0 ≤ i then if i < (G.length : Int) then if (nodeAt G i).f0 = 2 then _ else (if (nodeAt G i).f0 = 3 then vetchref12_holds.l0 k L ok 0 (nodeAt G i).f0 (nodeAt G i).f1 (nodeAt G i).f2 (nodeAt G i).f3.f0 (nodeAt G i).f3.f1 (nodeAt G i).f3.f2 (nodeAt G i).f3.f3 else vetchref12_holds.l2 k L ok 0 (nodeAt G i).f0 (nodeAt G i).f1 (nodeAt G i).f2 (nodeAt G i).f3.f0 (nodeAt G i).f3.f1 (nodeAt G i).f3.f2 (nodeAt G i).f3.f3) else _ else _) = _
      rw [if_pos h0, if_pos h1, hn, if_neg o2]
    by_cases o3 : op = 3
    · rw [if_pos o3]
      have hl : loopB L ⟨op, kids, rule, s⟩ = false := by unfold loopB; rw [o3]; rfl
      rw [hl, Bool.not_false, Bool.and_true]
      have := l0 kids.length 0 (by omega)
      rw [List.take_zero, List.all_nil, if_pos rfl, List.drop_zero] at this
      exact Ev.congr (fun k => by rw [hf, if_pos o3]; rfl) this
    · rw [if_neg o3]
      exact Ev.congr (fun k => by rw [hf, if_neg o3]; rfl) (l2 kids.length 0 (by omega) (by simp))
theorem of12_ev (hn : G.length ≤ 10000) : ∃ L, Ev (fun k => vetchref11_Of.f k R G) L ∧ L.length = G.length ∧ stepL R G L = L ∧ Ev (fun k => vetchref12_Of.f k R G) (okIt R G L (G.length + 1)) := by
  obtain ⟨L, hL, hl, hfix, _⟩ := of_ev hw
  refine ⟨L, hL, hl, hfix, ?_⟩
  have l0 : ∀ (d t : Nat), t + d = G.length + 1 → Ev (fun k => vetchref12_Of.l0 k L (okIt R G L t) (t : Int) R G) (okIt R G L (G.length + 1)) := by
    intro d
    induction d with
    | zero =>
      intro t ht
      obtain rfl : t = G.length + 1 := by omega
      exact Ev.succ (g := fun _ => some _) (fun k => by rw [vetchref12_Of.l0, if_neg (by omega)]) (Ev.const _)
    | succ d ih =>
      intro t ht
      have hnext := ih (t + 1) (by omega)
      have l1 : ∀ (e j : Nat), j + e = G.length → Ev (fun k => vetchref12_Of.l1 k L (okIt R G L t) (t : Int) ((okStep R G L (okIt R G L t)).take j) (j : Int) R G) (okIt R G L (G.length + 1)) := by
        intro e
        induction e with
        | zero =>
          intro j hj
          rw [List.take_of_length_le (by simp [okStep]; omega)]
          exact Ev.succ (fun k => by rw [vetchref12_Of.l1, if_neg (by omega), w64p _ (by omega), show (t : Int) + 1 = ((t + 1 : Nat) : Int) by omega]; rfl) hnext
        | succ e ihe =>
          intro j hj
          have hjl : j < (okStep R G L (okIt R G L t)).length := by simp [okStep]; omega
          have hh := holds_ev hw hkl L hl (okIt R G L t) (okIt_length R G L t) (j : Int) (by omega) (by omega)
          have hlt : ((okStep R G L (okIt R G L t)).take j).length < 140737488355328 := by simp [okStep]; omega
          have e1 : holdsB R L (okIt R G L t) (nodeAt G (j : Int)) = (okStep R G L (okIt R G L t))[j] := by
            have := okIt_succ R G L t (j : Int) (by omega) (by omega)
            rw [← this]
            show rdOf false (okStep R G L (okIt R G L t)) (j : Int) = _
            unfold rdOf
            rw [List.getD_eq_getElem?_getD, Int.toNat_natCast, List.getElem?_eq_getElem hjl]
            rfl
          refine Ev.succ (fun k => by rw [vetchref12_Of.l1, if_pos (by omega)]) (Ev.bind hh (Ev.congr (fun k => by rw [if_pos hlt]) ?_))
          rw [w64p _ (by omega), e1, ← List.take_succ_eq_append_getElem hjl, show (j : Int) + 1 = ((j + 1 : Nat) : Int) by omega]
          exact ihe (j + 1) (by omega)
      exact Ev.succ (fun k => by rw [vetchref12_Of.l0, if_pos (by omega)]; rfl) (l1 G.length 0 (by omega))
  unfold vetchref12_Of.f
  refine Ev.bind hL (Ev.congr (fun k => ?_) (l0 (G.length + 1) 0 (by omega)))
  rw [if_pos (by omega), if_pos (by omega), show ((G.length : Int) : Int).toNat = G.length by omega]
  rfl
theorem first12_l0 (ok : List Bool) (hb : ok.length ≤ 1000000) : ∀ (d j : Nat), j + d = ok.length → (∀ i : Int, 0 ≤ i → i < (j : Int) → rdOf false ok i = true) →
    ∃ v, Ev (fun k => vetchref12_First.l0 k ok (j : Int)) v ∧ ((v = -1 ∧ ∀ i : Int, 0 ≤ i → i < (ok.length : Int) → rdOf false ok i = true) ∨ (0 ≤ v ∧ v < (ok.length : Int) ∧ rdOf false ok v = false ∧ ∀ i : Int, 0 ≤ i → i < v → rdOf false ok i = true)) := by
  intro d
  induction d with
  | zero =>
    intro j hj ht
    exact ⟨-1, Ev.succ (g := fun _ => some (-1)) (fun k => by rw [vetchref12_First.l0, if_neg (by omega)]) (Ev.const _), .inl ⟨rfl, fun i h0 h1 => ht i h0 (by omega)⟩⟩
  | succ d ih =>
    intro j hj ht
    by_cases c : rdOf false ok (j : Int) = true
    · obtain ⟨v, hv, h⟩ := ih (j + 1) (by omega) (fun i h0 h1 => by
        by_cases e : i = j
        · rw [e]; exact c
        · exact ht i h0 (by omega))
      exact ⟨v, Ev.succ (fun k => by rw [vetchref12_First.l0, if_pos (by omega), if_pos (by omega), if_pos c, w64p _ (by omega), show (j : Int) + 1 = ((j + 1 : Nat) : Int) by omega]) hv, h⟩
    · exact ⟨j, Ev.succ (g := fun _ => some (j : Int)) (fun k => by rw [vetchref12_First.l0, if_pos (by omega), if_pos (by omega), if_neg c]) (Ev.const _), .inr ⟨by omega, by omega, Bool.eq_false_iff.2 c, ht⟩⟩
theorem first12_ev (hn : G.length ≤ 10000) : ∃ L v, Ev (fun k => vetchref11_Of.f k R G) L ∧ L.length = G.length ∧ stepL R G L = L ∧ Ev (fun k => vetchref12_Of.f k R G) (okIt R G L (G.length + 1)) ∧ Ev (fun k => vetchref12_First.f k R G) v ∧
    ((v = -1 ∧ ∀ i : Int, 0 ≤ i → i < (G.length : Int) → rdOf false (okIt R G L (G.length + 1)) i = true) ∨ (0 ≤ v ∧ v < (G.length : Int) ∧ rdOf false (okIt R G L (G.length + 1)) v = false ∧ ∀ i : Int, 0 ≤ i → i < v → rdOf false (okIt R G L (G.length + 1)) i = true)) := by
  obtain ⟨L, hL, hl, hfix, hok⟩ := of12_ev hw hkl hn
  obtain ⟨v, hv, h⟩ := first12_l0 hw hkl (okIt R G L (G.length + 1)) (by rw [okIt_length]; omega) G.length 0 (by rw [okIt_length]; omega) (fun i h0 h1 => absurd h1 (by omega))
  rw [okIt_length] at h
  exact ⟨L, v, hL, hl, hfix, hok, Ev.bind hok hv, h⟩
theorem right_ev (hn : G.length ≤ 10000) : ∃ L b, Ev (fun k => vetchref11_Of.f k R G) L ∧ L.length = G.length ∧ stepL R G L = L ∧ Ev (fun k => vetchref12_Right.f k R G) b ∧ (b = true → ∀ i : Int, 0 ≤ i → i < (G.length : Int) → rdOf false (okIt R G L (G.length + 1)) i = true) := by
  obtain ⟨L, v, hL, hl, hfix, _, hv, h⟩ := first12_ev hw hkl hn
  refine ⟨L, decide (v < 0), hL, hl, hfix, Ev.bind hv (Ev.const _), fun hb => ?_⟩
  have hb := of_decide_eq_true hb
  rcases h with ⟨_, h⟩ | ⟨h, _⟩
  · exact h
  · omega
end
end Go.Proofs.Ythgedejnpgcacaa.V
namespace Go.Proofs.Ythgedejnpgcacaa.V
open Go.RowKit Go.Proofs.YthgedejnpgcacaaW.PrintWords
set_option linter.unusedVariables false
def ExprEnd (R : List RuleT) (G : List NodeT) (i v : Int) : Prop := ∃ k, vetchref05_Expression.f k R G i = some v
theorem ExprEnd.uniq {R : List RuleT} {G : List NodeT} {i v u : Int} (h : ExprEnd R G i v) (h' : ExprEnd R G i u) : v = u := by
  obtain ⟨k, hk⟩ := h
  obtain ⟨m, hm⟩ := h'
  exact Ev.uniq (Ev.of_mono (fun k => vetchref05_Expression.mono _ _ _ k) hk) (Ev.of_mono (fun k => vetchref05_Expression.mono _ _ _ k) hm)
def ChainE (R : List RuleT) (G : List NodeT) : Int → List Int → Int → Prop
  | b, [], e => b = e
  | b, c :: cs, e => ExprEnd R G c b ∧ b < c ∧ ChainE R G c cs e
def SpanOk (R : List RuleT) (G : List NodeT) (i v : Int) : Prop := ExprEnd R G i v ∧ 0 ≤ i ∧ -1 ≤ v ∧ v < i ∧ ChainE R G v (nodeAt G i).f1 (i - 1)
section
variable {R : List RuleT} {G : List NodeT}
theorem rd_drop (xs : List Int) (m : Nat) (h : m < xs.length) : xs.drop m = rd xs m :: xs.drop (m + 1) := by
  rw [List.drop_eq_getElem_cons h]
  congr 1
  unfold rd
  rw [List.getD_eq_getElem?_getD, show ((m : Nat) : Int).toNat = m by omega, List.getElem?_eq_getElem h]
  rfl
theorem expr_span (hG : G.length ≤ maxLen) (hk : ∀ i : Int, 0 ≤ i → i < (G.length : Int) → (nodeAt G i).f1.length ≤ maxLen) : ∀ k,
    (∀ i v, vetchref05_Expression.f k R G i = some v → v ≠ -2 → 0 ≤ i ∧ i < (G.length : Int) ∧ -1 ≤ v ∧ v < i ∧ ∀ j, v < j → j ≤ i → ∃ u, SpanOk R G j u) ∧
    (∀ i a (m : Nat) v, 0 ≤ i → i < (G.length : Int) → vetchref05_Expression.l0 k i a ((m : Int) - 1) R G = some v → v ≠ -2 → m ≤ (nodeAt G i).f1.length → -1 ≤ a → a < i → ChainE R G a ((nodeAt G i).f1.drop m) (i - 1) →
      (∀ j, a < j → j < i → ∃ u, SpanOk R G j u) → -1 ≤ v ∧ v < i ∧ ChainE R G v (nodeAt G i).f1 (i - 1) ∧ ∀ j, v < j → j < i → ∃ u, SpanOk R G j u) := by
  have hG' : G.length ≤ 9223372036854775807 := hG
  intro k
  induction k with
  | zero => exact ⟨fun i v h => by simp [vetchref05_Expression.f] at h, fun i a m v _ _ h => by simp [vetchref05_Expression.l0] at h⟩
  | succ k ih =>
    obtain ⟨ihf, ihl⟩ := ih
    constructor
    · intro i v h hv
      have h0 := h
      rw [vetchref05_Expression.f] at h
      by_cases c0 : i < 0
      · rw [if_pos c0] at h
        exact absurd (Option.some.inj h).symm hv
      rw [if_neg c0, if_pos (by omega)] at h
      by_cases c1 : i < (G.length : Int)
      · rw [if_pos c1] at h
        have hkl : (nodeAt G i).f1.length ≤ 9223372036854775807 := hk i (by omega) c1
        rw [w64p _ (by omega), w64p _ (by show _ ≤ ((nodeAt G i).f1.length : Int) - 1 ∧ ((nodeAt G i).f1.length : Int) - 1 ≤ _; omega)] at h
        obtain ⟨g1, g2, g3, g4⟩ := ihl i (i - 1) (nodeAt G i).f1.length v (by omega) c1 h hv (Nat.le_refl _) (by omega) (by omega) (by rw [List.drop_length]; rfl) (fun j h1 h2 => absurd h2 (by omega))
        refine ⟨by omega, c1, g1, g2, fun j h1 h2 => ?_⟩
        by_cases e : j = i
        · subst e
          exact ⟨v, ⟨k + 1, h0⟩, by omega, g1, g2, g3⟩
        · exact g4 j h1 (by omega)
      · rw [if_neg c1] at h
        cases h
    · intro i a m v h0 h1 h hv hm ha hai hch hsp
      have hkl : (nodeAt G i).f1.length ≤ 9223372036854775807 := hk i h0 h1
      rw [vetchref05_Expression.l0] at h
      cases m with
      | zero =>
        rw [if_neg (by omega)] at h
        obtain rfl := Option.some.inj h
        exact ⟨ha, hai, by rwa [List.drop_zero] at hch, hsp⟩
      | succ m =>
        rw [show ((m + 1 : Nat) : Int) - 1 = (m : Int) by omega, if_pos (by omega), if_pos h0, if_pos h1, if_pos (by omega), if_pos (by show (m : Int) < ((nodeAt G i).f1.length : Int); omega)] at h
        by_cases c : rd (nodeAt G i).f1 (m : Int) = a
        · rw [if_pos c] at h
          obtain ⟨t, ht, h⟩ := Option.bind_eq_some_iff.1 h
          by_cases c2 : t = -2
          · rw [if_pos c2] at h
            exact absurd (Option.some.inj h).symm hv
          rw [if_neg c2, w64p _ (by omega)] at h
          obtain ⟨g0, g1, g2, g3, g4⟩ := ihf a t ht c2
          refine ihl i t m v h0 h1 h hv (by omega) g2 (by omega) ?_ (fun j h1 h2 => ?_)
          · rw [rd_drop _ m (by omega), c]
            exact ⟨⟨k, ht⟩, g3, hch⟩
          · by_cases q : j ≤ a
            · exact g4 j h1 q
            · exact hsp j (by omega) h2
        · rw [if_neg c] at h
          exact absurd (Option.some.inj h).symm hv
structure Tree (R : List RuleT) (G : List NodeT) : Prop where
  span : ∀ j, 0 ≤ j → j < (G.length : Int) → ∃ u, SpanOk R G j u
  root0 : 0 < R.length → ExprEnd R G (ruleAt R 0).f1 (-1) ∧ -1 < (ruleAt R 0).f1
  rootS : ∀ r, 0 ≤ r → r + 1 < (R.length : Int) → ExprEnd R G (ruleAt R (r + 1)).f1 (ruleAt R r).f1 ∧ (ruleAt R r).f1 < (ruleAt R (r + 1)).f1
  last : 0 < R.length → (ruleAt R ((R.length : Int) - 1)).f1 = (G.length : Int) - 1
theorem ordered_tree (hR : R.length ≤ maxLen) (hG : G.length ≤ maxLen) (hk : ∀ i : Int, 0 ≤ i → i < (G.length : Int) → (nodeAt G i).f1.length ≤ maxLen) {k : Nat} (h : vetchref05_Ordered.f k R G = some true) : Tree R G := by
  have hG' : G.length ≤ 9223372036854775807 := hG
  have hR' : R.length ≤ 9223372036854775807 := hR
  have loop : ∀ (k : Nat) (b i : Int), vetchref05_Ordered.l0 k b i R G = some true → 0 ≤ i → i ≤ (R.length : Int) → -1 ≤ b → b < (G.length : Int) → (i = 0 → b = -1) → (0 < i → b = (ruleAt R (i - 1)).f1) → (∀ j, 0 ≤ j → j ≤ b → ∃ u, SpanOk R G j u) →
      (0 < i → ExprEnd R G (ruleAt R 0).f1 (-1) ∧ -1 < (ruleAt R 0).f1) → (∀ r, 0 ≤ r → r + 1 < i → ExprEnd R G (ruleAt R (r + 1)).f1 (ruleAt R r).f1 ∧ (ruleAt R r).f1 < (ruleAt R (r + 1)).f1) → Tree R G := by
    intro k
    induction k with
    | zero => intro b i h; simp [vetchref05_Ordered.l0] at h
    | succ k ih =>
      intro b i h h0 hi hb hb2 hz hp hs hr0 hrs
      rw [vetchref05_Ordered.l0] at h
      by_cases c0 : i < (R.length : Int)
      · rw [if_pos c0, if_pos h0] at h
        by_cases c1 : (ruleAt R i).f1 ≤ b
        · rw [if_pos c1] at h; cases h
        rw [if_neg c1] at h
        by_cases c2 : (ruleAt R i).f1 ≥ (G.length : Int)
        · rw [if_pos c2] at h; cases h
        rw [if_neg c2] at h
        obtain ⟨t, ht, h3⟩ := Option.bind_eq_some_iff.1 h
        clear h
        by_cases c3 : t = b
        · rw [if_pos c3, w64p _ (by omega)] at h3
          subst c3
          obtain ⟨g0, g1, g2, g3, g4⟩ := (expr_span hG hk k).1 _ _ ht (by omega)
          refine ih _ _ h3 (by omega) (by omega) (by omega) (by omega) (fun q => by omega) (fun q => by rw [show i + 1 - 1 = i by omega]) (fun j h1 h2 => ?_) (fun _ => ?_) (fun r q1 q2 => ?_)
          · by_cases q : j ≤ t
            · exact hs j h1 q
            · exact g4 j (by omega) h2
          · by_cases q : i = 0
            · subst q
              rw [hz rfl] at ht g3
              exact ⟨⟨k, ht⟩, g3⟩
            · exact hr0 (by omega)
          · by_cases q : r + 1 = i
            · have hb' := hp (by omega)
              rw [show i - 1 = r by omega] at hb'
              rw [hb'] at ht g3
              rw [q]
              exact ⟨⟨k, ht⟩, g3⟩
            · exact hrs r q1 (by omega)
        · rw [if_neg c3] at h3; cases h3
      · rw [if_neg c0] at h
        have hb3 : b = (G.length : Int) - 1 := by
          have := beq_iff_eq.1 (Option.some.inj h)
          rwa [w64p _ (by omega)] at this
        obtain rfl : i = (R.length : Int) := by omega
        exact ⟨fun j h1 h2 => hs j h1 (by omega), fun q => hr0 (by omega), hrs, fun q => by rw [← hb3]; exact (hp (by omega)).symm⟩
  exact loop k (-1) 0 h (Int.le_refl _) (by omega) (by omega) (by omega) (fun _ => rfl) (fun q => absurd q (by decide)) (fun j h1 h2 => absurd h1 (by omega)) (fun q => absurd q (by decide)) (fun r q1 q2 => absurd q2 (by omega))
theorem small_tree (hR : R.length ≤ maxLen ∧ ∀ y ∈ R, Ok51 y) (hG : G.length ≤ maxLen ∧ ∀ y ∈ G, Ok56 y) {k : Nat} (h : vetchref05_Valid.f k R G = some true) : Tree R G := by
  have memG : ∀ r : Int, 0 ≤ r → r < (G.length : Int) → nodeAt G r ∈ G := fun r h0 h1 => by
    have h : r.toNat < G.length := by omega
    show G.getD r.toNat _ ∈ G
    rw [List.getD_eq_getElem?_getD, List.getElem?_eq_getElem h]
    exact List.getElem_mem h
  have hk : ∀ i : Int, 0 ≤ i → i < (G.length : Int) → (nodeAt G i).f1.length ≤ maxLen := fun i h0 h1 => (hG.2 _ (memG i h0 h1)).2.1.1
  have g2 : ∀ k i v, vetchref05_Check.l2 k i R G = some v → v.2.1 = 0 → ∃ m, vetchref05_Ordered.f m R G = some true := by
    intro k
    induction k with
    | zero => intro i v h; simp [vetchref05_Check.l2] at h
    | succ k ih =>
      intro i v h hv
      rw [vetchref05_Check.l2] at h
      split at h
      · split at h
        · obtain ⟨t, ht, h⟩ := Option.bind_eq_some_iff.1 h
          split at h
          · exact ih _ _ h hv
          · obtain rfl := Option.some.inj h; cases hv
        · cases h
      · obtain ⟨t, ht, h⟩ := Option.bind_eq_some_iff.1 h
        split at h
        · rename_i c; subst c; exact ⟨_, ht⟩
        · obtain rfl := Option.some.inj h; cases hv
  have g01 : ∀ k, (∀ i v, vetchref05_Check.l0 k i R G = some v → v.2.1 = 0 → ∃ m, vetchref05_Ordered.f m R G = some true) ∧ (∀ i j v, vetchref05_Check.l1 k i j R G = some v → v.2.1 = 0 → ∃ m, vetchref05_Ordered.f m R G = some true) := by
    intro k
    induction k with
    | zero => exact ⟨fun i v h => by simp [vetchref05_Check.l0] at h, fun i j v h => by simp [vetchref05_Check.l1] at h⟩
    | succ k ih =>
      constructor
      · intro i v h hv
        rw [vetchref05_Check.l0] at h
        split at h
        · split at h
          · obtain ⟨t, ht, h⟩ := Option.bind_eq_some_iff.1 h
            split at h
            · exact ih.2 _ _ _ h hv
            · obtain rfl := Option.some.inj h; cases hv
          · cases h
        · exact g2 _ _ _ h hv
      · intro i j v h hv
        rw [vetchref05_Check.l1] at h
        split at h
        · repeat' split at h
          all_goals first
            | (cases h; done)
            | (obtain rfl := Option.some.inj h; cases hv; done)
            | exact ih.2 _ _ _ h hv
        · exact ih.1 _ _ h hv
  unfold vetchref05_Valid.f at h
  obtain ⟨v, hv, h⟩ := Option.bind_eq_some_iff.1 h
  have h0 : v.2.1 = 0 := beq_iff_eq.1 (Option.some.inj h)
  have gj : ∀ b, vetchref05_Check.j0 k b R G = some v → ∃ m, vetchref05_Ordered.f m R G = some true := by
    intro b hj
    cases k with
    | zero => simp [vetchref05_Check.j0] at hj
    | succ k =>
      rw [vetchref05_Check.j0] at hj
      split at hj
      · obtain rfl := Option.some.inj hj; cases h0
      · split at hj
        · obtain rfl := Option.some.inj hj; cases h0
        · exact (g01 k).1 _ _ hj h0
  have hm : ∃ m, vetchref05_Ordered.f m R G = some true := by
    unfold vetchref05_Check.f at hv
    split at hv
    · exact gj _ hv
    · exact gj _ hv
  obtain ⟨m, hm⟩ := hm
  exact ordered_tree hR.1 hG.1 hk hm
theorem ChainE.le : ∀ {cs : List Int} {b e : Int}, ChainE R G b cs e → b ≤ e
  | [], b, e, h => Int.le_of_eq h
  | c :: cs, b, e, h => by have := ChainE.le h.2.2; have := h.2.1; omega
theorem ChainE.mem : ∀ {cs : List Int} {b e c : Int}, ChainE R G b cs e → c ∈ cs → b < c ∧ c ≤ e ∧ ∃ u, ExprEnd R G c u ∧ b ≤ u ∧ u < c
  | d :: cs, b, e, c, h, hc => by
    have hle := ChainE.le h.2.2
    have h21 := h.2.1
    rcases List.mem_cons.1 hc with rfl | hc
    · exact ⟨h.2.1, hle, b, h.1, Int.le_refl _, h.2.1⟩
    · obtain ⟨g1, g2, u, g3, g4, g5⟩ := ChainE.mem h.2.2 hc
      exact ⟨by omega, g2, u, g3, by omega, g5⟩
theorem ChainE.cover : ∀ {cs : List Int} {b e j : Int}, ChainE R G b cs e → b < j → j ≤ e → ∃ c ∈ cs, ∃ u, ExprEnd R G c u ∧ b ≤ u ∧ u < j ∧ j ≤ c
  | [], b, e, j, h, h1, h2 => by have h : b = e := h; omega
  | d :: cs, b, e, j, h, h1, h2 => by
    by_cases q : j ≤ d
    · exact ⟨d, by simp, b, h.1, Int.le_refl _, h1, q⟩
    · obtain ⟨c, hc, u, g1, g2, g3, g4⟩ := ChainE.cover h.2.2 (by omega) h2
      exact ⟨c, List.mem_cons_of_mem _ hc, u, g1, by have := h.2.1; omega, g3, g4⟩
theorem ChainE.apart : ∀ {cs : List Int} {b e c d u v j : Int}, ChainE R G b cs e → c ∈ cs → d ∈ cs → ExprEnd R G c u → ExprEnd R G d v → u < j → j ≤ c → v < j → j ≤ d → c = d
  | x :: cs, b, e, c, d, u, v, j, h, hc, hd, hu, hv, a1, a2, a3, a4 => by
    rcases List.mem_cons.1 hc with rfl | hc'
    · rcases List.mem_cons.1 hd with rfl | hd'
      · rfl
      · obtain ⟨_, _, w, g1, g2, g3⟩ := ChainE.mem h.2.2 hd'
        obtain rfl := ExprEnd.uniq hv g1
        omega
    · rcases List.mem_cons.1 hd with rfl | hd'
      · obtain ⟨_, _, w, g1, g2, g3⟩ := ChainE.mem h.2.2 hc'
        obtain rfl := ExprEnd.uniq hu g1
        omega
      · exact ChainE.apart h.2.2 hc' hd' hu hv a1 a2 a3 a4
theorem ChainE.nodup : ∀ {cs : List Int} {b e : Int}, ChainE R G b cs e → cs.Nodup
  | [], b, e, h => List.nodup_nil
  | c :: cs, b, e, h => List.nodup_cons.2 ⟨fun hc => by have := (ChainE.mem h.2.2 hc).1; omega, ChainE.nodup h.2.2⟩
theorem Tree.inside (ht : Tree R G) : ∀ (n : Nat) {i v j u : Int}, i < (n : Int) → i < (G.length : Int) → ExprEnd R G i v → v < j → j ≤ i → 0 ≤ j → ExprEnd R G j u → v ≤ u := by
  intro n
  induction n with
  | zero => intro i v j u h _ _ h1 h2 h3; omega
  | succ n ih =>
    intro i v j u hn hi hv h1 h2 h3 hu
    by_cases q : j = i
    · subst q; exact Int.le_of_eq (ExprEnd.uniq hv hu)
    · obtain ⟨v', s1, s2, s3, s4, s5⟩ := ht.span i (by omega) hi
      obtain rfl := ExprEnd.uniq hv s1
      obtain ⟨c, hc, w, g1, g2, g3, g4⟩ := ChainE.cover s5 h1 (by omega)
      have hm := ChainE.mem s5 hc
      have := ih (by omega) (by omega) g1 g3 g4 h3 hu
      omega
theorem Tree.nodup (ht : Tree R G) {i : Int} (h0 : 0 ≤ i) (h1 : i < (G.length : Int)) : (nodeAt G i).f1.Nodup := by
  obtain ⟨v, _, _, _, _, s⟩ := ht.span i h0 h1
  exact s.nodup
theorem Tree.one_lt (ht : Tree R G) {i j s : Int} (hi0 : 0 ≤ i) (hj : j < (G.length : Int)) (h : i < j) (hs : s ∈ (nodeAt G i).f1) (hs' : s ∈ (nodeAt G j).f1) : False := by
  obtain ⟨vi, i1, i2, i3, i4, i5⟩ := ht.span i hi0 (by omega)
  obtain ⟨vj, j1, j2, j3, j4, j5⟩ := ht.span j (by omega) hj
  obtain ⟨a1, a2, us, a3, a4, a5⟩ := ChainE.mem i5 hs
  obtain ⟨b1, b2, us', b3, b4, b5⟩ := ChainE.mem j5 hs'
  obtain ⟨c, hc, u, g1, g2, g3, g4⟩ := ChainE.cover j5 (show vj < i by omega) (by omega)
  have hcm := ChainE.mem j5 hc
  have hin := ht.inside G.length (by omega) (by omega) g1 g3 g4 hi0 i1
  have := ChainE.apart j5 hs' hc b3 g1 b5 (Int.le_refl _) (show u < s by omega) (by omega)
  omega
theorem Tree.one (ht : Tree R G) {i j s : Int} (hi0 : 0 ≤ i) (hi : i < (G.length : Int)) (hj0 : 0 ≤ j) (hj : j < (G.length : Int)) (hs : s ∈ (nodeAt G i).f1) (hs' : s ∈ (nodeAt G j).f1) : i = j := by
  rcases Int.lt_trichotomy i j with h | h | h
  · exact (ht.one_lt hi0 hj h hs hs').elim
  · exact h
  · exact (ht.one_lt hj0 hi h hs' hs).elim
theorem Tree.roots_lt (ht : Tree R G) : ∀ (n : Nat) (r : Int), 0 ≤ r → r + 1 + n < (R.length : Int) → (ruleAt R r).f1 < (ruleAt R (r + 1 + n)).f1
  | 0, r, h0, h1 => by have := (ht.rootS r h0 (by omega)).2; rwa [show r + 1 + ((0 : Nat) : Int) = r + 1 by omega]
  | n + 1, r, h0, h1 => by
    have := Tree.roots_lt ht n r h0 (by omega)
    have := (ht.rootS (r + 1 + n) (by omega) (by omega)).2
    rw [show r + 1 + ((n + 1 : Nat) : Int) = r + 1 + n + 1 by omega]
    omega
theorem Tree.roots_mono (ht : Tree R G) {r s : Int} (h0 : 0 ≤ r) (h : r < s) (hs : s < (R.length : Int)) : (ruleAt R r).f1 < (ruleAt R s).f1 := by
  have := Tree.roots_lt ht (s - r - 1).toNat r h0 (by omega)
  rwa [show r + 1 + (((s - r - 1).toNat : Nat) : Int) = s by omega] at this
theorem Tree.root_top (ht : Tree R G) {r i : Int} (h0 : 0 ≤ r) (h1 : r < (R.length : Int)) (hi0 : 0 ≤ i) (hi : i < (G.length : Int)) (hs : (ruleAt R r).f1 ∈ (nodeAt G i).f1) : False := by
  obtain ⟨vi, i1, i2, i3, i4, i5⟩ := ht.span i hi0 hi
  obtain ⟨a1, a2, us, a3, a4, a5⟩ := ChainE.mem i5 hs
  have hlast := ht.last (by omega)
  have find : ∀ (n : Nat) (q : Int), q + n = (R.length : Int) - 1 → r ≤ q → (ruleAt R q).f1 < i → False := by
    intro n
    induction n with
    | zero => intro q h _ h2; obtain rfl : q = (R.length : Int) - 1 := by omega
              omega
    | succ n ih =>
      intro q hq hr h2
      obtain ⟨g1, g2⟩ := ht.rootS q (by omega) (by omega)
      by_cases c : (ruleAt R (q + 1)).f1 < i
      · exact ih (q + 1) (by omega) (by omega) c
      · have hb : (ruleAt R (q + 1)).f1 < (G.length : Int) := by
          by_cases e : q + 1 = (R.length : Int) - 1
          · rw [e]; omega
          · have := ht.roots_mono (r := q + 1) (s := (R.length : Int) - 1) (by omega) (by omega) (by omega); omega
        have := ht.inside G.length (by omega) hb g1 h2 (by omega) hi0 i1
        by_cases e : r = q
        · subst e; omega
        · have := ht.roots_mono h0 (show r < q by omega) (by omega); omega
  exact find ((R.length : Int) - 1 - r).toNat r (by omega) (Int.le_refl _) (by omega)
end
end Go.Proofs.Ythgedejnpgcacaa.V
namespace Go.Proofs.Ythgedejnpgcacaa.V
open Go.RowKit Go.Proofs.YthgedejnpgcacaaW.PrintWords
set_option linter.unusedVariables false
set_option linter.unusedSectionVars false
theorem pig : ∀ (n : Nat) (l : List Int), l.Nodup → (∀ s ∈ l, 0 ≤ s ∧ s < (n : Int)) → l.length ≤ n
  | 0, [], _, _ => Nat.le_refl _
  | 0, s :: l, _, h => by have := h s (by simp); omega
  | n + 1, l, hd, h => by
    have h1 := pig n (l.erase (n : Int)) (hd.erase _) (fun s hs => by
      have hm := (hd.mem_erase_iff).1 hs
      have := h s hm.2
      have := hm.1
      omega)
    rw [List.length_erase] at h1
    split at h1 <;> omega
theorem seqNeeds_sub (L : List FactT) : ∀ cs, (seqNeeds L cs).Sublist cs
  | [] => List.Sublist.slnil
  | c :: cs => by
    unfold seqNeeds
    split
    · exact (seqNeeds_sub L cs).cons_cons c
    · exact (List.nil_sublist cs).cons_cons c
def fB : Nat → Int
  | 0 => 1 | 1 => 1 | 2 => 6 | 3 => 10 | 4 => 15 | 5 => 22 | _ => 31
theorem fB_pos (n : Nat) : 1 ≤ fB n ∧ fB n ≤ 31 := by unfold fB; split <;> decide
theorem fB_mono (a b : Nat) (h : a ≤ b) : fB a ≤ fB b := by
  have key : ∀ a : Fin 8, ∀ b : Fin 8, a.1 ≤ b.1 → fB a.1 ≤ fB b.1 := by decide
  by_cases hb : b < 8
  · exact key ⟨a, by omega⟩ ⟨b, hb⟩ h
  · have e : fB b = 31 := by
      unfold fB
      split <;> first | omega | rfl
    rw [e]
    exact (fB_pos a).2
theorem fB_seq (l q m : Nat) (h : l + m ≤ 6) (hl : 1 ≤ l) (hq : 1 ≤ q) (hqm : q ≤ m) (hm : 2 ≤ m) : 1 + (q : Int) * fB l + ((m : Int) - q) ≤ fB (l + q) := by
  have key : ∀ l : Fin 7, ∀ q : Fin 7, ∀ m : Fin 7, l.1 + m.1 ≤ 6 → 1 ≤ l.1 → 1 ≤ q.1 → q.1 ≤ m.1 → 2 ≤ m.1 → 1 + (q.1 : Int) * fB l.1 + ((m.1 : Int) - q.1) ≤ fB (l.1 + q.1) := by decide
  exact key ⟨l, by omega⟩ ⟨q, by omega⟩ ⟨m, by omega⟩ h hl hq hqm hm
theorem fB_loop (l : Nat) (h : l + 1 ≤ 6) (hl : 1 ≤ l) : 4 + fB l ≤ fB (l + 1) := by
  have key : ∀ l : Fin 7, l.1 + 1 ≤ 6 → 1 ≤ l.1 → 4 + fB l.1 ≤ fB (l.1 + 1) := by decide
  exact key ⟨l, by omega⟩ h hl
theorem pow31 : ∀ n : Nat, (1 : Int) ≤ 31 ^ n
  | 0 => by decide
  | n + 1 => by have := pow31 n; rw [Int.pow_succ]; omega
def Ends (R : List RuleT) (G : List NodeT) (x : ByteArray) (t : Task) (a c : Int) : Prop := ∃ e d, 0 ≤ d ∧ d ≤ c ∧ ∀ u, d ≤ u → Run R G x t a u e (u - d)
section
variable {R : List RuleT} {G : List NodeT} {x : ByteArray}
theorem Ends.le {t : Task} {a c c' : Int} (h : Ends R G x t a c) (hc : c ≤ c') : Ends R G x t a c' := by
  obtain ⟨e, d, h1, h2, h3⟩ := h
  exact ⟨e, d, h1, by omega, h3⟩
theorem sub_one_sub (u d : Int) : u - 1 - d = u - (d + 1) := by omega
theorem Ends.seq {i a c : Int} (o : (nodeAt G i).f0 = 3) (h : Ends R G x (.seq (nodeAt G i).f1) a c) : Ends R G x (.node i) a (c + 1) := by
  obtain ⟨e, d, h1, h2, h3⟩ := h
  exact ⟨e, d + 1, by omega, by omega, fun u hu => .seq o (by omega) (by rw [← sub_one_sub]; exact h3 _ (by omega))⟩
theorem Ends.cho {i a c : Int} (o : (nodeAt G i).f0 = 4) (h : Ends R G x (.cho (nodeAt G i).f1) a c) : Ends R G x (.node i) a (c + 1) := by
  obtain ⟨e, d, h1, h2, h3⟩ := h
  exact ⟨e, d + 1, by omega, by omega, fun u hu => .cho o (by omega) (by rw [← sub_one_sub]; exact h3 _ (by omega))⟩
theorem Ends.star {i a c : Int} (o : (nodeAt G i).f0 = 5) (h : Ends R G x (.rep (rd (nodeAt G i).f1 0)) a c) : Ends R G x (.node i) a (c + 1) := by
  obtain ⟨e, d, h1, h2, h3⟩ := h
  exact ⟨e, d + 1, by omega, by omega, fun u hu => .star o (by omega) (by rw [← sub_one_sub]; exact h3 _ (by omega))⟩
theorem Ends.call {i a c : Int} (o : (nodeAt G i).f0 = 2) (h : Ends R G x (.node (ruleAt R (nodeAt G i).f2).f1) a c) : Ends R G x (.node i) a (c + 1) := by
  obtain ⟨e, d, h1, h2, h3⟩ := h
  exact ⟨e, d + 1, by omega, by omega, fun u hu => .call o (by omega) (by rw [← sub_one_sub]; exact h3 _ (by omega))⟩
theorem Ends.one {i a c : Int} (o : (nodeAt G i).f0 = 7 ∨ (nodeAt G i).f0 = 8 ∨ (nodeAt G i).f0 = 9) (h : Ends R G x (.node (rd (nodeAt G i).f1 0)) a c) : Ends R G x (.node i) a (c + 1) := by
  obtain ⟨e, d, h1, h2, h3⟩ := h
  have run : ∀ u, d + 1 ≤ u → Run R G x (.node (rd (nodeAt G i).f1 0)) a (u - 1) e (u - (d + 1)) := fun u hu => by rw [← sub_one_sub]; exact h3 _ (by omega)
  rcases o with o | o | o
  · by_cases he : e < 0
    · exact ⟨a, d + 1, by omega, by omega, fun u hu => .optNo o (by omega) (run u hu) he⟩
    · exact ⟨e, d + 1, by omega, by omega, fun u hu => .opt o (by omega) (run u hu) (by omega)⟩
  · by_cases he : e < 0
    · exact ⟨e, d + 1, by omega, by omega, fun u hu => .andNo o (by omega) (run u hu) he⟩
    · exact ⟨a, d + 1, by omega, by omega, fun u hu => .and o (by omega) (run u hu) (by omega)⟩
  · by_cases he : e < 0
    · exact ⟨a, d + 1, by omega, by omega, fun u hu => .not o (by omega) (run u hu) he⟩
    · exact ⟨-1, d + 1, by omega, by omega, fun u hu => .notNo o (by omega) (run u hu) (by omega)⟩
theorem Ends.leaf {i a : Int} (hs : ∀ y ∈ G, Ok56 y) (h0 : 0 ≤ i) (h1 : i < (G.length : Int)) (o : (nodeAt G i).f0 = 0 ∨ (nodeAt G i).f0 = 1) : Ends R G x (.node i) a 1 := by
  rcases o with o | o
  · exact ⟨a, 1, by omega, by omega, fun u hu => .empty o hu⟩
  · by_cases hlt : a < (x.size : Int)
    · obtain ⟨b, hb, _⟩ := has_ev (nodeAt G i).f3 (hs _ (rd_mem56 G i h0 h1)).2.2.2 (bt x a) (bt_range x a).1 (bt_range x a).2
      cases b with
      | true => exact ⟨a + 1, 1, by omega, by omega, fun u hu => .hit o hu hlt hb⟩
      | false => exact ⟨-1, 1, by omega, by omega, fun u hu => .miss o hu (fun _ => hb)⟩
    · exact ⟨-1, 1, by omega, by omega, fun u hu => .miss o hu (fun h => absurd h hlt)⟩
def Lst (R : List RuleT) (G : List NodeT) (L : List FactT) (x : ByteArray) (a P : Int) (t : Nat) (i : Int) (l : List Int) : Prop :=
  i ∈ l ∧ l.Nodup ∧ (∀ s ∈ l, 0 ≤ s ∧ s < (G.length : Int)) ∧ (∀ s ∈ l, s = i ∨ ∃ j, 0 ≤ j ∧ j < (G.length : Int) ∧ rdOf false (okIt R G L t) j = true ∧ s ∈ needsL R L (nodeAt G j)) ∧ Ends R G x (.node i) a (fB l.length * P)
theorem best {R : List RuleT} {G : List NodeT} {L : List FactT} {x : ByteArray} {a P : Int} {t : Nat} (hP : 0 ≤ P) : ∀ (ns : List Int), ns ≠ [] → (∀ s ∈ ns, ∃ l, Lst R G L x a P t s l) → ∃ k ∈ ns, ∃ l, Lst R G L x a P t k l ∧ ∀ s ∈ ns, Ends R G x (.node s) a (fB l.length * P)
  | [], h, _ => absurd rfl h
  | [s], _, h => by
    obtain ⟨l, hl⟩ := h s (by simp)
    exact ⟨s, by simp, l, hl, fun s' hs' => (List.mem_singleton.1 hs') ▸ hl.2.2.2.2⟩
  | s :: s2 :: ns, _, h => by
    obtain ⟨k, hk, l, hl, hall⟩ := best hP (s2 :: ns) (by simp) (fun s' hs' => h s' (List.mem_cons_of_mem _ hs'))
    obtain ⟨l', hl'⟩ := h s (by simp)
    rcases Nat.le_total l'.length l.length with hle | hle
    · refine ⟨k, List.mem_cons_of_mem _ hk, l, hl, fun s' hs' => ?_⟩
      rcases List.mem_cons.1 hs' with rfl | hs'
      · exact hl'.2.2.2.2.le (Int.mul_le_mul_of_nonneg_right (fB_mono _ _ hle) hP)
      · exact hall s' hs'
    · refine ⟨s, by simp, l', hl', fun s' hs' => ?_⟩
      rcases List.mem_cons.1 hs' with rfl | hs'
      · exact hl'.2.2.2.2
      · exact (hall s' hs').le (Int.mul_le_mul_of_nonneg_right (fB_mono _ _ hle) hP)
section
variable (hw : WF R G) (ht : Tree R G) (hok : ∀ y ∈ G, Ok56 y) {L : List FactT} (hL : stepL R G L = L) (hn6 : G.length ≤ 6) (hx3 : x.size ≤ 3)
include hw hL
theorem step_on {c a u e l : Int} (h : Run R G x (.node c) a u e l) (ha0 : 0 ≤ a) (ha : a ≤ (x.size : Int)) (hc0 : 0 ≤ c) (hc : c < (G.length : Int)) : e ≤ (x.size : Int) ∧ (0 ≤ e → a ≤ e ∧ (nullAt L c = false → a < e)) := by
  have hr := run_range h ha0 ha
  have hs := run_tells hw hL h ha0 hc0 hc
  refine ⟨hr.2.1, fun he => ⟨hr.2.2 he, fun hn => ?_⟩⟩
  obtain ⟨q1, q2, q3⟩ := hs.2 he
  by_cases c : e = a
  · rw [show nullAt L _ = true from q2 c] at hn; cases hn
  · omega
theorem seq_after (P b : Int) (hP : 0 ≤ P) (hsm : ∀ a', b ≤ a' → a' ≤ (x.size : Int) → ∀ i, 0 ≤ i → i < (G.length : Int) → Ends R G x (.node i) a' P) : ∀ (cs : List Int), (∀ c ∈ cs, 0 ≤ c ∧ c < (G.length : Int)) → ∀ a, 0 ≤ a → b ≤ a → a ≤ (x.size : Int) → Ends R G x (.seq cs) a ((cs.length : Int) * P)
  | [], _, a, _, _, _ => ⟨a, 0, by omega, by simp, fun u _ => by rw [Int.sub_zero]; exact .seqNil⟩
  | c :: cs, hk, a, ha0, hb, ha => by
    have hc := hk c (by simp)
    obtain ⟨e, d, h1, h2, h3⟩ := hsm a hb ha c hc.1 hc.2
    have hmul : ((c :: cs).length : Int) * P = P + (cs.length : Int) * P := by rw [List.length_cons, Int.natCast_add, Int.add_mul]; omega
    have hnn : 0 ≤ (cs.length : Int) * P := Int.mul_nonneg (by omega) hP
    by_cases he : e < 0
    · exact ⟨e, d, h1, by omega, fun u hu => .seqNo (h3 u hu) he⟩
    · have hs := step_on hw hL (h3 d (Int.le_refl _)) ha0 ha hc.1 hc.2
      have hse := (hs.2 (by omega)).1
      obtain ⟨e', d', g1, g2, g3⟩ := seq_after P b hP hsm cs (fun c hc => hk c (List.mem_cons_of_mem _ hc)) e (by omega) (by omega) hs.1
      exact ⟨e', d + d', by omega, by omega, fun u hu => .seqGo (h3 u (by omega)) (by omega) (by rw [show u - (d + d') = u - d - d' by omega]; exact g3 _ (by omega))⟩
theorem seq_cost (P Y a : Int) (hP : 0 ≤ P) (hY : 0 ≤ Y) (hPY : P ≤ Y) (ha0 : 0 ≤ a) (ha : a ≤ (x.size : Int)) (hsm : ∀ a', a + 1 ≤ a' → a' ≤ (x.size : Int) → ∀ i, 0 ≤ i → i < (G.length : Int) → Ends R G x (.node i) a' P) : ∀ (cs : List Int), (∀ c ∈ cs, 0 ≤ c ∧ c < (G.length : Int)) → (∀ s ∈ seqNeeds L cs, Ends R G x (.node s) a Y) →
    Ends R G x (.seq cs) a (((seqNeeds L cs).length : Int) * Y + ((cs.length : Int) - ((seqNeeds L cs).length : Int)) * P)
  | [], _, _ => ⟨a, 0, by omega, by simp [seqNeeds], fun u _ => by rw [Int.sub_zero]; exact .seqNil⟩
  | c :: cs, hk, hY' => by
    have hc := hk c (by simp)
    obtain ⟨e, d, h1, h2, h3⟩ := hY' c (by simp [seqNeeds])
    have hs := step_on hw hL (h3 d (Int.le_refl _)) ha0 ha hc.1 hc.2
    have hcl : ((c :: cs).length : Int) = (cs.length : Int) + 1 := by simp
    have hsub := (seqNeeds_sub L cs).length_le
    by_cases hnull : nullAt L c = true
    · have e1 : seqNeeds L (c :: cs) = c :: seqNeeds L cs := by rw [seqNeeds, if_pos hnull]
      have e2 : (((seqNeeds L (c :: cs)).length : Int)) = ((seqNeeds L cs).length : Int) + 1 := by rw [e1]; simp
      have e3 : (((seqNeeds L (c :: cs)).length : Int)) * Y + (((c :: cs).length : Int) - ((seqNeeds L (c :: cs)).length : Int)) * P = Y + (((seqNeeds L cs).length : Int) * Y + ((cs.length : Int) - ((seqNeeds L cs).length : Int)) * P) := by
        rw [e2, hcl, Int.add_mul, show (cs.length : Int) + 1 - (((seqNeeds L cs).length : Int) + 1) = (cs.length : Int) - ((seqNeeds L cs).length : Int) by omega]; omega
      rw [e3]
      have n1 : 0 ≤ ((seqNeeds L cs).length : Int) * Y := Int.mul_nonneg (by omega) hY
      have n2 : 0 ≤ ((cs.length : Int) - ((seqNeeds L cs).length : Int)) * P := Int.mul_nonneg (by omega) hP
      by_cases he : e < 0
      · exact ⟨e, d, h1, by omega, fun u hu => .seqNo (h3 u hu) he⟩
      · by_cases hea : e = a
        · subst hea
          obtain ⟨e', d', g1, g2, g3⟩ := seq_cost P Y e hP hY hPY ha0 ha hsm cs (fun c hc => hk c (List.mem_cons_of_mem _ hc)) (fun s hs => hY' s (by rw [e1]; exact List.mem_cons_of_mem _ hs))
          exact ⟨e', d + d', by omega, by omega, fun u hu => .seqGo (h3 u (by omega)) (by omega) (by rw [show u - (d + d') = u - d - d' by omega]; exact g3 _ (by omega))⟩
        · have hse := (hs.2 (by omega)).1
          obtain ⟨e', d', g1, g2, g3⟩ := seq_after hw hL P (a + 1) hP hsm cs (fun c hc => hk c (List.mem_cons_of_mem _ hc)) e (by omega) (by omega) hs.1
          have m1 : ((seqNeeds L cs).length : Int) * P ≤ ((seqNeeds L cs).length : Int) * Y := Int.mul_le_mul_of_nonneg_left hPY (by omega)
          have m2 : (cs.length : Int) * P = ((seqNeeds L cs).length : Int) * P + ((cs.length : Int) - ((seqNeeds L cs).length : Int)) * P := by rw [← Int.add_mul]; congr 1; omega
          exact ⟨e', d + d', by omega, by omega, fun u hu => .seqGo (h3 u (by omega)) (by omega) (by rw [show u - (d + d') = u - d - d' by omega]; exact g3 _ (by omega))⟩
    · have hnf : nullAt L c = false := Bool.eq_false_iff.2 hnull
      have e1 : seqNeeds L (c :: cs) = [c] := by rw [seqNeeds, if_neg hnull]
      rw [e1, hcl, show (([c] : List Int).length : Int) = 1 from rfl, show (cs.length : Int) + 1 - 1 = (cs.length : Int) by omega, Int.one_mul]
      have n2 : 0 ≤ (cs.length : Int) * P := Int.mul_nonneg (by omega) hP
      by_cases he : e < 0
      · exact ⟨e, d, h1, by omega, fun u hu => .seqNo (h3 u hu) he⟩
      · have hse := (hs.2 (by omega)).2 hnf
        obtain ⟨e', d', g1, g2, g3⟩ := seq_after hw hL P (a + 1) hP hsm cs (fun c hc => hk c (List.mem_cons_of_mem _ hc)) e (by omega) (by omega) hs.1
        exact ⟨e', d + d', by omega, by omega, fun u hu => .seqGo (h3 u (by omega)) (by omega) (by rw [show u - (d + d') = u - d - d' by omega]; exact g3 _ (by omega))⟩
theorem cho_cost (Y a : Int) (hY : 0 ≤ Y) (ha0 : 0 ≤ a) (ha : a ≤ (x.size : Int)) : ∀ (cs : List Int), (∀ s ∈ cs, Ends R G x (.node s) a Y) → Ends R G x (.cho cs) a ((cs.length : Int) * Y)
  | [], _ => ⟨-1, 0, by omega, by simp, fun u _ => by rw [Int.sub_zero]; exact .choNil⟩
  | c :: cs, h => by
    obtain ⟨e, d, h1, h2, h3⟩ := h c (by simp)
    have hmul : ((c :: cs).length : Int) * Y = Y + (cs.length : Int) * Y := by rw [List.length_cons, Int.natCast_add, Int.add_mul]; omega
    have hnn : 0 ≤ (cs.length : Int) * Y := Int.mul_nonneg (by omega) hY
    by_cases he : e < 0
    · obtain ⟨e', d', g1, g2, g3⟩ := cho_cost Y a hY ha0 ha cs (fun s hs => h s (List.mem_cons_of_mem _ hs))
      exact ⟨e', d + d', by omega, by omega, fun u hu => .choGo (h3 u (by omega)) he (by rw [show u - (d + d') = u - d - d' by omega]; exact g3 _ (by omega))⟩
    · exact ⟨e, d, h1, by omega, fun u hu => .choYes (h3 u hu) (by omega)⟩
theorem rep_after (c P b : Int) (hP : 0 ≤ P) (hc0 : 0 ≤ c) (hc : c < (G.length : Int)) (hnull : nullAt L c = false) (hsm : ∀ a', b ≤ a' → a' ≤ (x.size : Int) → Ends R G x (.node c) a' P) : ∀ (n : Nat) (a : Int), (x.size : Int) - a ≤ n → 0 ≤ a → b ≤ a → a ≤ (x.size : Int) → Ends R G x (.rep c) a (((n : Int) + 1) * P) := by
  intro n
  induction n with
  | zero =>
    intro a hn ha0 hb ha
    obtain ⟨e, d, h1, h2, h3⟩ := hsm a hb ha
    by_cases he : e < 0
    · exact ⟨a, d, h1, by simp; omega, fun u hu => .repEnd (h3 u hu) he⟩
    · have hs := step_on hw hL (h3 d (Int.le_refl _)) ha0 ha hc0 hc
      have := (hs.2 (by omega)).2 hnull
      omega
  | succ n ih =>
    intro a hn ha0 hb ha
    obtain ⟨e, d, h1, h2, h3⟩ := hsm a hb ha
    have hmul : (((n + 1 : Nat) : Int) + 1) * P = P + ((n : Int) + 1) * P := by rw [show (((n + 1 : Nat) : Int) + 1) = ((n : Int) + 1) + 1 by omega, Int.add_mul ((n : Int) + 1) 1 P]; omega
    have hnn : 0 ≤ ((n : Int) + 1) * P := Int.mul_nonneg (by omega) hP
    by_cases he : e < 0
    · exact ⟨a, d, h1, by omega, fun u hu => .repEnd (h3 u hu) he⟩
    · have hs := step_on hw hL (h3 d (Int.le_refl _)) ha0 ha hc0 hc
      have := (hs.2 (by omega)).2 hnull
      obtain ⟨e', d', g1, g2, g3⟩ := ih e (by omega) (by omega) (by omega) hs.1
      exact ⟨e', d + d', by omega, by omega, fun u hu => .repGo (h3 u (by omega)) (by omega) (by rw [show u - (d + d') = u - d - d' by omega]; exact g3 _ (by omega))⟩
include hx3
theorem loop_cost {i : Int} (c P Y a : Int) (hP : 0 ≤ P) (hY : 0 ≤ Y) (ha0 : 0 ≤ a) (ha : a ≤ (x.size : Int)) (hc : c = rd (nodeAt G i).f1 0) (hc0 : 0 ≤ c) (hcG : c < (G.length : Int)) (hnull : nullAt L c = false) (o : (nodeAt G i).f0 = 5 ∨ (nodeAt G i).f0 = 6)
    (hsm : ∀ a', a + 1 ≤ a' → a' ≤ (x.size : Int) → Ends R G x (.node c) a' P) (h : Ends R G x (.node c) a Y) : Ends R G x (.node i) a (Y + 3 * P + 1) := by
  obtain ⟨e, d, h1, h2, h3⟩ := h
  by_cases he : e < 0
  · rcases o with o | o
    · exact (Ends.star o (c := Y) (by rw [← hc]; exact ⟨a, d, h1, h2, fun u hu => .repEnd (h3 u hu) he⟩)).le (by omega)
    · exact ⟨e, d + 1, by omega, by omega, fun u hu => .plusNo o (by omega) (by rw [← hc, ← sub_one_sub]; exact h3 _ (by omega)) he⟩
  · have hs := step_on hw hL (h3 d (Int.le_refl _)) ha0 ha hc0 hcG
    have hlt := (hs.2 (by omega)).2 hnull
    obtain ⟨e', d', g1, g2, g3⟩ := rep_after hw hL c P (a + 1) hP hc0 hcG hnull hsm 2 e (by omega) (by omega) (by omega) hs.1
    have g2' : d' ≤ 3 * P := g2
    rcases o with o | o
    · exact (Ends.star o (c := Y + 3 * P) (by rw [← hc]; exact ⟨e', d + d', by omega, by omega, fun u hu => .repGo (h3 u (by omega)) (by omega) (by rw [show u - (d + d') = u - d - d' by omega]; exact g3 _ (by omega))⟩)).le (by omega)
    · exact ⟨e', d + d' + 1, by omega, by omega, fun u hu => .plus o (by omega) (by rw [← hc]; exact h3 _ (by omega)) (by omega) (by rw [← hc, show u - (d + d' + 1) = u - 1 - d - d' by omega]; exact g3 _ (by omega))⟩
include ht hok hn6
theorem node_cost (a P : Int) (hP : 1 ≤ P) (ha0 : 0 ≤ a) (ha : a ≤ (x.size : Int)) (hsm : ∀ a', a + 1 ≤ a' → a' ≤ (x.size : Int) → ∀ i, 0 ≤ i → i < (G.length : Int) → Ends R G x (.node i) a' P) :
    ∀ (t : Nat) (i : Int), 0 ≤ i → i < (G.length : Int) → rdOf false (okIt R G L t) i = true → ∃ l, Lst R G L x a P t i l := by
  intro t
  induction t with
  | zero =>
    intro i h0 h1 h
    unfold rdOf at h
    simp only [okIt] at h
    rw [List.getD_eq_getElem?_getD, List.getElem?_replicate] at h
    split at h <;> cases h
  | succ t ih =>
    intro i h0 h1 h
    by_cases hti : rdOf false (okIt R G L t) i = true
    · obtain ⟨l, q1, q2, q3, q4, q5⟩ := ih i h0 h1 hti
      refine ⟨l, q1, q2, q3, fun s hs => ?_, q5⟩
      rcases q4 s hs with rfl | ⟨j, g1, g2, g3, g4⟩
      · exact .inl rfl
      · exact .inr ⟨j, g1, g2, okIt_mono R G L t j g3, g4⟩
    · have hh := h
      rw [okIt_succ R G L t i h0 h1] at hh
      unfold holdsB at hh
      rw [Bool.and_eq_true, List.all_eq_true] at hh
      obtain ⟨hneed, hloop⟩ := hh
      have hm := hw.made i h0 h1
      have hkids : ∀ c ∈ (nodeAt G i).f1, 0 ≤ c ∧ c < (G.length : Int) := fun c hc => by have := hw.kids i h0 h1 c hc; omega
      have notI : ∀ k l, k ∈ needsL R L (nodeAt G i) → Lst R G L x a P t k l → i ∉ l := by
        intro k l hk hl hi
        rcases hl.2.2.2.1 i hi with rfl | ⟨j, g1, g2, g3, g4⟩
        · exact hti (hneed _ hk)
        · cases t with
          | zero =>
            unfold rdOf at g3
            simp only [okIt] at g3
            rw [List.getD_eq_getElem?_getD, List.getElem?_replicate] at g3
            split at g3 <;> cases g3
          | succ t =>
            have g5 := g3
            rw [okIt_succ R G L t j g1 g2] at g5
            unfold holdsB at g5
            rw [Bool.and_eq_true, List.all_eq_true] at g5
            exact hti (okIt_mono R G L t i (g5.1 i g4))
      have notK : ∀ k l s, k ∈ needsL R L (nodeAt G i) → Lst R G L x a P t k l → s ∈ (nodeAt G i).f1 → s ≠ k → s ∉ l := by
        intro k l s hk hl hs hsk hsl
        rcases hl.2.2.2.1 s hsl with rfl | ⟨j, g1, g2, g3, g4⟩
        · exact hsk rfl
        · unfold needsL at g4
          have inKid : s ∈ (nodeAt G j).f1 → False := fun hj => by
            obtain rfl := ht.one h0 h1 g1 g2 hs hj
            exact hti g3
          split at g4
          · rename_i o
            obtain ⟨p0, p1⟩ := (hw.made j g1 g2).2.2.2.2.2.2.1 o
            obtain rfl : s = (ruleAt R (nodeAt G j).f2).f1 := by simpa using g4
            exact ht.root_top p0 p1 h0 h1 hs
          · split at g4
            · exact inKid ((seqNeeds_sub L _).mem g4)
            · exact inKid g4
      have oneL : ∀ k l, k ∈ needsL R L (nodeAt G i) → 0 ≤ k → k < (G.length : Int) → Lst R G L x a P t k l → Ends R G x (.node i) a (fB (l.length + 1) * P) → ∃ l', Lst R G L x a P (t + 1) i l' := by
        intro k l hk hk0 hk1 hl he
        refine ⟨i :: l, by simp, List.nodup_cons.2 ⟨notI k l hk hl, hl.2.1⟩, fun s hs => ?_, fun s hs => ?_, he⟩
        · rcases List.mem_cons.1 hs with rfl | hs
          · exact ⟨h0, h1⟩
          · exact hl.2.2.1 s hs
        · rcases List.mem_cons.1 hs with rfl | hs
          · exact .inl rfl
          · rcases hl.2.2.2.1 s hs with rfl | ⟨j, g1, g2, g3, g4⟩
            · exact .inr ⟨i, h0, h1, h, hk⟩
            · exact .inr ⟨j, g1, g2, okIt_mono R G L t j g3, g4⟩
      have lpos : ∀ k l, Lst R G L x a P t k l → 1 ≤ l.length := fun k l hl => List.length_pos_of_mem hl.1
      have lle : ∀ k l, k ∈ needsL R L (nodeAt G i) → Lst R G L x a P t k l → l.length + 1 ≤ 6 := fun k l hk hl => by
        have := pig G.length (i :: l) (List.nodup_cons.2 ⟨notI k l hk hl, hl.2.1⟩) (fun s hs => by
          rcases List.mem_cons.1 hs with rfl | hs
          · exact ⟨h0, h1⟩
          · exact hl.2.2.1 s hs)
        simp at this
        omega
      have manyL : ∀ ns, ns = needsL R L (nodeAt G i) → ns.Sublist (nodeAt G i).f1 → ns ≠ [] → 2 ≤ (nodeAt G i).f1.length → (∀ Y, P ≤ Y → (∀ s ∈ ns, Ends R G x (.node s) a Y) → Ends R G x (.node i) a ((ns.length : Int) * Y + (((nodeAt G i).f1.length : Int) - ns.length) * P + 1)) → ∃ l', Lst R G L x a P (t + 1) i l' := by
        intro ns hns hsub hne h2 hcost
        obtain ⟨k, hk, l, hl, hall⟩ := best (R := R) (G := G) (L := L) (x := x) (a := a) (P := P) (t := t) (by omega) ns hne (fun s hs => by
          have hs' := hkids s (hsub.mem hs)
          exact ih s hs'.1 hs'.2 (hneed s (hns ▸ hs)))
        have hk' : k ∈ needsL R L (nodeAt G i) := hns ▸ hk
        have hkk : k ∈ (nodeAt G i).f1 := hsub.mem hk
        have hnd := ht.nodup h0 h1
        have hni : i ∉ (nodeAt G i).f1 := fun hi => by have := hw.kids i h0 h1 i hi; omega
        have big : (i :: ((nodeAt G i).f1.erase k ++ l)).Nodup := by
          refine List.nodup_cons.2 ⟨fun hi => ?_, List.nodup_append.2 ⟨hnd.erase _, hl.2.1, fun s hs s' hs' e => ?_⟩⟩
          · rcases List.mem_append.1 hi with hi | hi
            · exact hni (List.mem_of_mem_erase hi)
            · exact notI k l hk' hl hi
          · subst e
            have := (hnd.mem_erase_iff).1 hs
            exact notK k l s hk' hl this.2 this.1 hs'
        have hsm' : (i :: (ns.erase k ++ l)).Sublist (i :: ((nodeAt G i).f1.erase k ++ l)) := ((hsub.erase k).append (List.Sublist.refl l)).cons_cons i
        have hrange : ∀ s ∈ i :: ((nodeAt G i).f1.erase k ++ l), 0 ≤ s ∧ s < (G.length : Int) := fun s hs => by
          rcases List.mem_cons.1 hs with rfl | hs
          · exact ⟨h0, h1⟩
          · rcases List.mem_append.1 hs with hs | hs
            · exact hkids s (List.mem_of_mem_erase hs)
            · exact hl.2.2.1 s hs
        have hpig := pig G.length _ big hrange
        rw [List.length_cons, List.length_append, List.length_erase_of_mem hkk] at hpig
        have hkl := List.length_pos_of_mem hkk
        have hnl := List.length_pos_of_mem hk
        have hle := hsub.length_le
        have hll := lpos k l hl
        have hlen : (i :: (ns.erase k ++ l)).length = l.length + ns.length := by
          rw [List.length_cons, List.length_append, List.length_erase_of_mem hk]; omega
        refine ⟨i :: (ns.erase k ++ l), by simp, hsm'.nodup big, fun s hs => hrange s (hsm'.mem hs), fun s hs => ?_, ?_⟩
        · rcases List.mem_cons.1 hs with rfl | hs
          · exact .inl rfl
          · rcases List.mem_append.1 hs with hs | hs
            · exact .inr ⟨i, h0, h1, h, hns ▸ List.mem_of_mem_erase hs⟩
            · rcases hl.2.2.2.1 s hs with rfl | ⟨j, g1, g2, g3, g4⟩
              · exact .inr ⟨i, h0, h1, h, hk'⟩
              · exact .inr ⟨j, g1, g2, okIt_mono R G L t j g3, g4⟩
        · rw [hlen]
          have hY : P ≤ fB l.length * P := by
            have := Int.mul_le_mul_of_nonneg_right (fB_pos l.length).1 (show 0 ≤ P by omega)
            omega
          refine (hcost (fB l.length * P) hY hall).le ?_
          have hF := fB_seq l.length ns.length (nodeAt G i).f1.length (by omega) hll hnl hle h2
          have hF' := Int.mul_le_mul_of_nonneg_right hF (show 0 ≤ P by omega)
          rw [Int.add_mul, Int.add_mul, Int.one_mul, Int.mul_assoc] at hF'
          omega
      by_cases o01 : (nodeAt G i).f0 = 0 ∨ (nodeAt G i).f0 = 1
      · exact ⟨[i], by simp, by simp, fun s hs => (List.mem_singleton.1 hs) ▸ ⟨h0, h1⟩, fun s hs => .inl (by simpa using hs), (Ends.leaf hok h0 h1 o01).le (by show 1 ≤ 1 * P; omega)⟩
      by_cases o2 : (nodeAt G i).f0 = 2
      · obtain ⟨p0, p1⟩ := hm.2.2.2.2.2.2.1 o2
        have hr := hw.roots _ p0 p1
        have hk : (ruleAt R (nodeAt G i).f2).f1 ∈ needsL R L (nodeAt G i) := by unfold needsL; rw [if_pos o2]; simp
        obtain ⟨l, hl⟩ := ih _ hr.1 hr.2 (hneed _ hk)
        refine oneL _ l hk hr.1 hr.2 hl ((Ends.call o2 hl.2.2.2.2).le ?_)
        have := Int.mul_le_mul_of_nonneg_right (fB_loop l.length (lle _ l hk hl) (lpos _ l hl)) (show 0 ≤ P by omega)
        rw [Int.add_mul] at this
        omega
      by_cases o3 : (nodeAt G i).f0 = 3
      · have e : needsL R L (nodeAt G i) = seqNeeds L (nodeAt G i).f1 := by unfold needsL; rw [if_neg o2, if_pos o3]
        have h2 := hm.2.2.2.1 o3
        refine manyL _ rfl (by rw [e]; exact seqNeeds_sub L _) (by rw [e]; intro q; cases hf : (nodeAt G i).f1 with | nil => rw [hf] at h2; simp at h2 | cons c cs => rw [hf, seqNeeds] at q; cases q) h2 (fun Y hY hall => ?_)
        rw [e] at hall ⊢
        exact (Ends.seq o3 (seq_cost hw hL P Y a (by omega) (by omega) hY ha0 ha hsm _ hkids hall)).le (by omega)
      by_cases o4 : (nodeAt G i).f0 = 4
      · have e : needsL R L (nodeAt G i) = (nodeAt G i).f1 := by unfold needsL; rw [if_neg o2, if_neg o3]
        have h2 := hm.2.2.2.2.1 o4
        refine manyL _ rfl (by rw [e]; exact List.Sublist.refl _) (by rw [e]; intro q; rw [q] at h2; simp at h2) h2 (fun Y hY hall => ?_)
        rw [e] at hall ⊢
        exact (Ends.cho o4 (cho_cost hw hL Y a (by omega) ha0 ha _ hall)).le (by rw [Int.sub_self]; omega)
      have e : needsL R L (nodeAt G i) = (nodeAt G i).f1 := by unfold needsL; rw [if_neg o2, if_neg o3]
      have o5 : 5 ≤ (nodeAt G i).f0 := by have := hm.1; omega
      have hlen := hm.2.2.2.2.2.1 o5
      have hmem : rd (nodeAt G i).f1 0 ∈ (nodeAt G i).f1 := by
        show rd (nodeAt G i).f1 ((0 : Nat) : Int) ∈ _
        rw [rd_getElem _ 0 (by omega)]; exact List.getElem_mem _
      have hk := hkids _ hmem
      have hkn : rd (nodeAt G i).f1 0 ∈ needsL R L (nodeAt G i) := by rw [e]; exact hmem
      obtain ⟨l, hl⟩ := ih _ hk.1 hk.2 (hneed _ hkn)
      have hfl := Int.mul_le_mul_of_nonneg_right (fB_loop l.length (lle _ l hkn hl) (lpos _ l hl)) (show 0 ≤ P by omega)
      rw [Int.add_mul] at hfl
      refine oneL _ l hkn hk.1 hk.2 hl ?_
      by_cases o56 : (nodeAt G i).f0 = 5 ∨ (nodeAt G i).f0 = 6
      · have hnull : nullAt L (rd (nodeAt G i).f1 0) = false := by
          unfold loopB at hloop
          rcases o56 with q | q
          · rw [q] at hloop; simpa using hloop
          · rw [q] at hloop; simpa using hloop
        have hp : 0 ≤ fB l.length * P := Int.mul_nonneg (by have := (fB_pos l.length).1; omega) (by omega)
        exact (loop_cost hw hL hx3 _ P (fB l.length * P) a (by omega) hp ha0 ha rfl hk.1 hk.2 hnull o56 (fun a' q1 q2 => hsm a' q1 q2 _ hk.1 hk.2) hl.2.2.2.2).le (by omega)
      · exact (Ends.one (by have := hm.2.1; omega) hl.2.2.2.2).le (by omega)
theorem all_cost (hall : ∀ i : Int, 0 ≤ i → i < (G.length : Int) → ∃ t, rdOf false (okIt R G L t) i = true) : ∀ (n : Nat) (a : Int), (x.size : Int) - a ≤ n → 0 ≤ a → a ≤ (x.size : Int) → ∀ i, 0 ≤ i → i < (G.length : Int) → Ends R G x (.node i) a (31 ^ (n + 1)) := by
  intro n
  induction n with
  | zero =>
    intro a hn ha0 ha i h0 h1
    obtain ⟨t, ht'⟩ := hall i h0 h1
    obtain ⟨l, hl⟩ := node_cost hw ht hok hL hn6 hx3 a 1 (Int.le_refl _) ha0 ha (fun a' q1 q2 => by omega) t i h0 h1 ht'
    exact hl.2.2.2.2.le (by have := (fB_pos l.length).2; simp; omega)
  | succ n ih =>
    intro a hn ha0 ha i h0 h1
    obtain ⟨t, ht'⟩ := hall i h0 h1
    have hp : (1 : Int) ≤ 31 ^ (n + 1) := pow31 (n + 1)
    obtain ⟨l, hl⟩ := node_cost hw ht hok hL hn6 hx3 a (31 ^ (n + 1)) hp ha0 ha (fun a' q1 q2 => ih a' (by omega) (by omega) q2) t i h0 h1 ht'
    refine hl.2.2.2.2.le ?_
    rw [Int.pow_succ (31 : Int) (n + 1), Int.mul_comm]
    exact Int.mul_le_mul_of_nonneg_left (fB_pos l.length).2 (by omega)
end
end
theorem Pure.PureNaiveEnough : ∀ (l0_0 : List RuleT) (l0_1 : List NodeT) (a1 : ByteArray), (l0_0.length ≤ maxLen ∧ ∀ y ∈ l0_0, Ok51 y) → (l0_1.length ≤ maxLen ∧ ∀ y ∈ l0_1, Ok56 y) → (a1.size ≤ maxLen) → ∃ k, vetchlaw18_NaiveEnough.f k l0_0 l0_1 a1 = some true := by
  intro R G x hR hG hx
  obtain ⟨b, hb, hbs⟩ := small_ev hR hG
  have no : Ev (fun k => vetchlaw18_NaiveEnough.j0 k x true R G) true := Ev.succ (fun k => by rw [vetchlaw18_NaiveEnough.j0, if_pos rfl]) (Ev.bind (g := fun _ t => some t) awake_ev (Ev.const _))
  have fin : Ev (fun k => (vetchref05_Small.f k R G).bind fun t360 => (if t360 = true then ((vetchref12_Right.f k R G).bind fun t361 => (if t361 = true then (if (G.length : Int) > 6 then (vetchlaw18_NaiveEnough.j0 k x true R G) else (vetchlaw18_NaiveEnough.j0 k x (decide ((x.size : Int) > 3)) R G)) else (vetchlaw18_NaiveEnough.j0 k x true R G))) else (vetchlaw18_NaiveEnough.j0 k x true R G))) true := by
    cases b with
    | false => exact Ev.bind hb (Ev.congr (fun k => if_neg (by decide)) no)
    | true =>
      obtain ⟨hw, hr30, hg300⟩ := hbs rfl
      obtain ⟨L, c, hL, hl, hfix, hc, hcs⟩ := right_ev hw (kids_le hR hG hw) (by omega)
      refine Ev.bind hb (Ev.congr (fun k => if_pos rfl) (Ev.bind hc ?_))
      cases c with
      | false => exact Ev.congr (fun k => if_neg (by decide)) no
      | true =>
        refine Ev.congr (fun k => if_pos rfl) ?_
        by_cases h6 : (G.length : Int) > 6
        · exact Ev.congr (fun k => if_pos h6) no
        refine Ev.congr (fun k => if_neg h6) ?_
        by_cases h3 : (x.size : Int) > 3
        · rw [decide_eq_true h3]; exact no
        rw [decide_eq_false h3]
        have htree : Tree R G := by
          obtain ⟨k, hk⟩ := hb
          have := hk k (Nat.le_refl _)
          unfold vetchref05_Small.f at this
          obtain ⟨f, _, this⟩ := Option.bind_eq_some_iff.1 this
          split at this
          · obtain ⟨v, hv, this⟩ := Option.bind_eq_some_iff.1 this
            obtain rfl := Option.some.inj this
            exact small_tree hR hG hv
          · cases this
        have hr0 := hw.rules.1
        have hroot := hw.roots 0 (Int.le_refl _) (by omega)
        obtain ⟨e, d, d0, d1, hrun⟩ := all_cost (x := x) hw htree hG.2 hfix (by omega) (by omega) (fun i h0 h1 => ⟨_, hcs rfl i h0 h1⟩) 3 0 (by omega) (Int.le_refl _) (by omega) (ruleAt R 0).f1 hroot.1 hroot.2
        have d2 : d ≤ 923521 := d1
        have hrun := hrun 1048576 (by omega)
        have hleft := (run_left hrun).2 _ rfl
        have hdo := run_does (x := x) (by omega) hw hG.2 hrun (Int.le_refl _) (by omega) (by omega) hroot.1 hroot.2
        obtain ⟨r, e1, ⟨k1, f1⟩, g1⟩ := run_ev hR hG (x := x) (by omega) hw 1048576 (by omega)
        obtain rfl := Ev.uniq hdo e1
        dsimp only at f1
        refine ⟨k1 + 1, fun j hj => ?_⟩
        obtain ⟨k, rfl⟩ : ∃ k, j = k + 1 := ⟨j - 1, by omega⟩
        show vetchlaw18_NaiveEnough.j0 (k + 1) x false R G = some true
        have hcost : naive_Cost.f k R G x 1048576 = some (d, true) := by
          unfold naive_Cost.f
          rw [f1 k (by omega), Option.bind_some, if_neg (by simp)]
          dsimp only
          rw [w64p _ (by omega), show (1048576 : Int) - (1048576 - d) = d by omega]
        rw [vetchlaw18_NaiveEnough.j0, if_neg (by decide), hcost, Option.bind_some]
        dsimp only
        rw [if_pos rfl, decide_eq_true (by omega)]
  exact (Ev.bind awake_ev (Ev.congr (fun k => if_pos rfl) fin)).out
end Go.Proofs.Ythgedejnpgcacaa.V
namespace Go.Proofs.Ythgedejnpgcacaa.naiveEnough
open Go.ChangeShapes Go.WideShapes Go.ChangeAt Go.RowKit Go.Proofs.Ythgedejnpgcacaa.Opens Go.Proofs.Ythgedejnpgcacaa.V Go.Proofs.YthgedejnpgcacaaW.PrintWords
open Go.ChangeMaps (open_string shut_string)
set_option linter.unusedVariables false
theorem own : ownKnob Try.prog.godebug = none := by kernel_rfl
theorem laidOut : laidOutB Try.prog = true := by kernel_rfl
set_option maxRecDepth 100000 in
theorem lifted (os : Os) (started : os.Started) (H : Type) (enc : TypeId × Value → H) :
    ReturnsInHanded {} Try.checked os 8 .any (Rows.naiveEnoughSpec.pre6 enc Try.prog Try.f8 Rows.naiveEnoughRow.domain false) (Rows.naiveEnoughSpec.post enc Try.prog Try.f8 false true false false) := by
  refine returnsInHanded_of_change_sized (C := Try.checked) own started (by kernel_rfl) Try.func8
    (ChangeSpec.witness6 (enc := enc) (C := Try.checked) false ⟨#[], #[.agg #[.slice none 0 0, .slice none 0 0], .string ByteArray.empty], []⟩ 8 (by kernel_rfl) (by kernel_rfl) (by kernel_rfl) (by kernel_rfl)) ?_
  intro W base args ds gs before hval0 hW hcnd hsz0 _
  have hval : ∀ (j : Nat) t v, Try.f8.params[j]? = some t → args[j]? = some v → Value.okWide Try.prog W .any base t v := hval0
  have hW' := hW
  obtain ⟨p, q, hA0, hV, rfl, hfz, hnd⟩ := hW
  have hA : DataW.TrodAll enc Try.prog W 0 (fun _ => true) true Try.f8.params.toList args.toList ds p := hA0
  rw [Try.params8] at hA hval
  obtain ⟨v0, vs0, d0, ds0, p0, q0, hargs, rfl, rfl, h0, r0⟩ := trodAll_cons hA
  obtain ⟨v1, vs1, d1, ds1, p1, q1, rfl, rfl, rfl, h1, r1⟩ := trodAll_cons r0
  obtain ⟨rfl, rfl, rfl⟩ := trodAll_nil r1
  obtain rfl : args = #[v0, v1] := by cases args; simp_all
  obtain ⟨rfl, rfl⟩ := trodVars_none hV
  have lt0 := trod_lts h0
  obtain ⟨cs0, rfl, _⟩ := okWide_struct Try.underlying25 (hval 0 25 v0 rfl rfl)
  obtain ⟨b0, hK0, ok0⟩ := Opn.arg (opn25 W) h0
  obtain ⟨L0, hL0⟩ : ∃ L, L = cs0.toList := ⟨_, rfl⟩
  replace hK0 : ((Kd.pair (Kd.slice 51 k51) (Kd.slice 56 k56))).K W b0 L0 := by rw [hL0]; exact hK0
  obtain ⟨l0_0, l0_1⟩ := b0
  obtain ⟨_, _, rfl, ⟨A0_0, c0_0, rfl, lc0_0, g0_0⟩, ⟨A0_1, c0_1, rfl, lc0_1, g0_1⟩⟩ := hK0
  obtain ⟨w0_0, w0_1⟩ := ok0
  obtain rfl : cs0 = #[.slice A0_0 l0_0.length c0_0, .slice A0_1 l0_1.length c0_1] := by cases cs0; simp_all
  obtain ⟨a1, rfl, rfl, rfl, w1⟩ := open_string Try.underlying9 (hval 1 9 v1 rfl rfl) h1
  clear hA0 hval0 hsz0
  obtain ⟨k, hk⟩ := Pure.PureNaiveEnough l0_0 l0_1 a1 w0_0 w0_1 w1
  refine (vetchlaw18_NaiveEnough.calls k A0_0 c0_0 l0_0 A0_1 c0_1 l0_1 a1 true W g0_0 lc0_0 g0_1 lc0_1 hk).mono fun e W' ⟨he, bel⟩ => ?_
  subst he
  exact ⟨_, rfl, _, _, _, [], _, [], hW', trodAll_mk1 (shut_bool Try.underlying4 _), (trodAll_cons_mk (Below.trod laidOut (by kernel_rfl) (of_decide_eq_true (by kernel_rfl)) h0 bel lt0) (trodAll_cons_mk (shut_string Try.underlying9 w1) trodAll_mk0)), rfl, bel.frame _, fun h => by cases h⟩
theorem over : Rows.naiveEnoughRow.holds Try.pinned (OpenSpec.ofChange Rows.naiveEnoughSpec) :=
  OpenClaim.holds_of_wide 8 Try.f8 rfl rfl rfl rfl rfl rfl rfl ⟨rfl, rfl, rfl, rfl, rfl⟩ rfl rfl rfl rfl rfl (by kernel_rfl) Try.func8 (by kernel_rfl)
    (of_decide_eq_true (by kernel_rfl)) (by unfold Func.isWrapper; first | (rw [if_pos (by decide +kernel)]; kernel_rfl) | (rw [if_neg (by decide +kernel)]; exact ⟨rfl, rfl⟩))
    (fun os started H enc _ => lifted os started H enc)
end Go.Proofs.Ythgedejnpgcacaa.naiveEnough
namespace Go.Proofs.Ythgedejnpgcacaa
theorem naiveEnough_holds : Rows.NaiveEnoughSaid := naiveEnough.over
#print axioms naiveEnough_holds
end Go.Proofs.Ythgedejnpgcacaa
