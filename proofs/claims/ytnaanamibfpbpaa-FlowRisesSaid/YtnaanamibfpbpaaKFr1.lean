/- The law FlowRises returns true whatever comes in, and leaves its arguments as they were. No condition. -/
import Derived.Test.YtnaanamibfpbpaaKFr0
import Derived.Test.YtnaanamibfpbpaaProg
import Derived.Below
import Derived.Deep.Draws
import Derived.Deep.AppendLies
import Derived.Maps.AppendAt
import Derived.OwnWalk
import Derived.Laws.BytesArg
import Derived.Laws.MakeOwn
import Derived.Laws.OwnMore
import Derived.Deep.OwnRows
import Derived.Tactics
import Derived.Lib.ConvBytes
import Derived.Laws.Slices
import Derived.WalkKit
import Derived.KernelRfl
import Derived.RowKit3
import Derived.Deep.LoopGhost
import Derived.Deep.QuietTactic
import Derived.BigQuiet
import Derived.WideLaws
import Derived.Deep.DeepCutAuto
import Derived.Deep.CutBlock
import Derived.Deep.RegionHeld3
import Derived.Laws.Rows
import Derived.Lib.AppendStr
import Derived.ArgAppend
import Derived.Laws.IdiomCopy
import Derived.OrdersHeld
import Derived.Laws.BitsLemmas
import Derived.RowKit
namespace Go.Proofs.Ytnaanamibfpbpaa.V
open Go.RowKit Go.Proofs.YtnaanamibfpbpaaW.PrintWords Go.Proofs.YtnaanamibfpbpaaW.PrintLast Go.Proofs.YtnaanamibfpbpaaW.PrintMore
attribute [local go_sem] max2_int min2_int max_two min_two max_three min_three max_four min_four tdiv_most
set_option linter.unusedVariables false
set_option linter.unusedSimpArgs false
def errW : Option Int → Value
  | none => .nilIface
  | some c => .iface 0 (.int .i64 c)
theorem Qw : errW none = .nilIface := rfl
theorem Qx (c : Int) : errW (some c) = .iface 0 (.int .i64 c) := rfl
theorem info3 : (Try.prog.info? 3).map (fun i => (i.zero, i.size, i.bytes)) = some (some (.int .i64 0), 1, 8) := by kernel_rfl
theorem info4 : (Try.prog.info? 4).map (fun i => (i.zero, i.size, i.bytes)) = some (some (.bool false), 1, 1) := by kernel_rfl
theorem info35 : (Try.prog.info? 35).map (fun i => (i.zero, i.size, i.bytes)) = some (some (.agg #[(.bool false), (.bool false), (.bool false)]), 3, 3) := by kernel_rfl
theorem info36 : (Try.prog.info? 36).map (fun i => (i.zero, i.size, i.bytes)) = some (some (.agg #[(.bool false), (.bool false), (.bool false)]), 3, 3) := by kernel_rfl
theorem info51 : (Try.prog.info? 51).map (fun i => (i.zero, i.size, i.bytes)) = some (some (.slice none 0 0), 1, 24) := by kernel_rfl
def rd_L1 (xs : List (List Int)) (i : Int) : (List Int) := xs.getD i.toNat ([] : List Int)
theorem at_L1 {w : World} {A : Option Addr} {n : Nat} {xs : List (List Int)} (h : Kd.C (Kd.slice 3 (Kd.int .i64)) w A n xs) (i : Int) (h0 : 0 ≤ i) (h1 : i < n) : ∃ ad A0 c0, A = some ad ∧ w.cell? (ad.add i.toNat) = some (.slice A0 (rd_L1 xs i).length c0) ∧ (rd_L1 xs i).length ≤ c0 ∧ (Kd.int .i64).C w A0 (rd_L1 xs i).length (rd_L1 xs i) := by
  obtain ⟨ad, c, e, _, hK, hc0⟩ := Kd.C_get h ([] : List Int) i h0 h1
  have hc : ∀ j u, c[j]? = some u → w.cell? (ad.add (i.toNat * 1 + j)) = some u := hc0
  obtain ⟨A0, c0, rfl, l0, g0⟩ := hK
  exact ⟨ad, A0, c0, e, by have hq := hc 0 _ rfl; rwa [Nat.mul_one, Nat.add_zero] at hq, l0, g0⟩
structure S50 where
  f0 : Int
  f1 : Int
  f2 : Int
  f3 : Int
def z50 : S50 := ⟨(0 : Int), (0 : Int), (0 : Int), (0 : Int)⟩
def k50 : Kd S50 := Kd.iso (Kd.pair (Kd.int .u64) (Kd.pair (Kd.int .u64) (Kd.pair (Kd.int .u64) (Kd.int .u64)))) (fun x : S50 => (x.f0, x.f1, x.f2, x.f3))
theorem k50_open {w : World} {x : S50} {cs : List Value} (h : k50.K w x cs) : cs = [.int .u64 x.f0, .int .u64 x.f1, .int .u64 x.f2, .int .u64 x.f3] := by
  obtain ⟨_, _, rfl, rfl, ⟨_, _, rfl, rfl, ⟨_, _, rfl, rfl, rfl⟩⟩⟩ := h
  exact rfl
theorem k50_mk (w : World) (x : S50)  : k50.K w x [.int .u64 x.f0, .int .u64 x.f1, .int .u64 x.f2, .int .u64 x.f3] := ⟨[.int .u64 x.f0], [.int .u64 x.f1, .int .u64 x.f2, .int .u64 x.f3], rfl, rfl, ⟨[.int .u64 x.f1], [.int .u64 x.f2, .int .u64 x.f3], rfl, rfl, ⟨[.int .u64 x.f2], [.int .u64 x.f3], rfl, rfl, rfl⟩⟩⟩
structure S53 where
  f0 : Int
  f1 : (List Int)
  f2 : Int
  f3 : S50
def z53 : S53 := ⟨(0 : Int), ([] : List Int), (0 : Int), z50⟩
def k53 : Kd S53 := Kd.iso (Kd.pair (Kd.int .i64) (Kd.pair (Kd.slice 3 (Kd.int .i64)) (Kd.pair (Kd.int .i64) k50))) (fun x : S53 => (x.f0, x.f1, x.f2, x.f3))
theorem k53_open {w : World} {x : S53} {cs : List Value} (h : k53.K w x cs) : ∃ A1 c1, cs = [.int .i64 x.f0, .slice A1 x.f1.length c1, .int .i64 x.f2, .int .u64 x.f3.f0, .int .u64 x.f3.f1, .int .u64 x.f3.f2, .int .u64 x.f3.f3] ∧ x.f1.length ≤ c1 ∧ (Kd.int .i64).C w A1 x.f1.length x.f1 := by
  obtain ⟨_, _, rfl, rfl, ⟨_, _, rfl, ⟨A1, c1, rfl, l1, g1⟩, ⟨_, _, rfl, rfl, s3⟩⟩⟩ := h
  obtain rfl := k50_open s3
  exact ⟨A1, c1, rfl, l1, g1⟩
theorem k53_mk (w : World) (x : S53) {A1 : Option Addr} {c1 : Nat} (l1 : x.f1.length ≤ c1) (g1 : (Kd.int .i64).C w A1 x.f1.length x.f1) : k53.K w x [.int .i64 x.f0, .slice A1 x.f1.length c1, .int .i64 x.f2, .int .u64 x.f3.f0, .int .u64 x.f3.f1, .int .u64 x.f3.f2, .int .u64 x.f3.f3] := ⟨[.int .i64 x.f0], [.slice A1 x.f1.length c1, .int .i64 x.f2, .int .u64 x.f3.f0, .int .u64 x.f3.f1, .int .u64 x.f3.f2, .int .u64 x.f3.f3], rfl, rfl, ⟨[.slice A1 x.f1.length c1], [.int .i64 x.f2, .int .u64 x.f3.f0, .int .u64 x.f3.f1, .int .u64 x.f3.f2, .int .u64 x.f3.f3], rfl, ⟨A1, c1, rfl, l1, g1⟩, ⟨[.int .i64 x.f2], [.int .u64 x.f3.f0, .int .u64 x.f3.f1, .int .u64 x.f3.f2, .int .u64 x.f3.f3], rfl, rfl, (k50_mk w x.f3 )⟩⟩⟩
theorem k53_mkF (W : World) (ok : Nat → Prop) (x : S53) {A1 : Option Addr} {c1 : Nat} (l1 : x.f1.length ≤ c1) (g1 : Kd.F (Kd.int .i64) W ok A1 x.f1.length x.f1) : Kd.FK k53 W ok x [.int .i64 x.f0, .slice A1 x.f1.length c1, .int .i64 x.f2, .int .u64 x.f3.f0, .int .u64 x.f3.f1, .int .u64 x.f3.f2, .int .u64 x.f3.f3] := fun W2 hW => k53_mk W2 x l1 (g1 W2 hW)
def Qh (xs : List S53) (i : Int) : S53 := xs.getD i.toNat z53
theorem at_T53 {w : World} {A : Option Addr} {n : Nat} {xs : List S53} (h : Kd.C k53 w A n xs) (i : Int) (h0 : 0 ≤ i) (h1 : i < n) : ∃ ad A1 c1, A = some ad ∧ w.cell? (ad.add (i.toNat * 7)) = some (.int .i64 (Qh xs i).f0) ∧ w.cell? ⟨(ad.add (i.toNat * 7)).block, (ad.add (i.toNat * 7)).off + 1, none⟩ = some (.slice A1 (Qh xs i).f1.length c1) ∧ w.cell? ⟨(ad.add (i.toNat * 7)).block, (ad.add (i.toNat * 7)).off + 2, none⟩ = some (.int .i64 (Qh xs i).f2) ∧ w.cell? ⟨(ad.add (i.toNat * 7)).block, (ad.add (i.toNat * 7)).off + 3, none⟩ = some (.int .u64 (Qh xs i).f3.f0) ∧ w.cell? ⟨(ad.add (i.toNat * 7)).block, (ad.add (i.toNat * 7)).off + 4, none⟩ = some (.int .u64 (Qh xs i).f3.f1) ∧ w.cell? ⟨(ad.add (i.toNat * 7)).block, (ad.add (i.toNat * 7)).off + 5, none⟩ = some (.int .u64 (Qh xs i).f3.f2) ∧ w.cell? ⟨(ad.add (i.toNat * 7)).block, (ad.add (i.toNat * 7)).off + 6, none⟩ = some (.int .u64 (Qh xs i).f3.f3) ∧ (Qh xs i).f1.length ≤ c1 ∧ (Kd.int .i64).C w A1 (Qh xs i).f1.length (Qh xs i).f1 := by
  obtain ⟨ad, c, e, _, hK, hc0⟩ := Kd.C_get h z53 i h0 h1
  have hc : ∀ j u, c[j]? = some u → w.cell? (ad.add (i.toNat * 7 + j)) = some u := hc0
  obtain ⟨A1, c1, rfl, l1, g1⟩ := k53_open hK
  exact ⟨ad, A1, c1, e, hc 0 _ rfl, by rw [← add_field _ _ 1 (by omega)]; exact hc 1 _ rfl, by rw [← add_field _ _ 2 (by omega)]; exact hc 2 _ rfl, by rw [← add_field _ _ 3 (by omega)]; exact hc 3 _ rfl, by rw [← add_field _ _ 4 (by omega)]; exact hc 4 _ rfl, by rw [← add_field _ _ 5 (by omega)]; exact hc 5 _ rfl, by rw [← add_field _ _ 6 (by omega)]; exact hc 6 _ rfl, l1, g1⟩
structure S39 where
  f0 : ByteArray
  f1 : Int
def z39 : S39 := ⟨(⟨#[]⟩ : ByteArray), (0 : Int)⟩
def k39 : Kd S39 := Kd.iso (Kd.pair Kd.string (Kd.int .i64)) (fun x : S39 => (x.f0, x.f1))
theorem k39_open {w : World} {x : S39} {cs : List Value} (h : k39.K w x cs) : cs = [.string x.f0, .int .i64 x.f1] := by
  obtain ⟨_, _, rfl, rfl, rfl⟩ := h
  exact rfl
theorem k39_mkM (w : World) (base : Nat) (ok : Nat → Prop) (x : S39)  : k39.M w base ok x [.string x.f0, .int .i64 x.f1] := ⟨[.string x.f0], [.int .i64 x.f1], rfl, rfl, rfl⟩
def Qa1 (xs : List S39) (i : Int) : S39 := xs.getD i.toNat z39
theorem at_T39 {w : World} {A : Option Addr} {n : Nat} {xs : List S39} (h : Kd.C k39 w A n xs) (i : Int) (h0 : 0 ≤ i) (h1 : i < n) : ∃ ad , A = some ad ∧ w.cell? (ad.add (i.toNat * 2)) = some (.string (Qa1 xs i).f0) ∧ w.cell? ⟨(ad.add (i.toNat * 2)).block, (ad.add (i.toNat * 2)).off + 1, none⟩ = some (.int .i64 (Qa1 xs i).f1) := by
  obtain ⟨ad, c, e, _, hK, hc0⟩ := Kd.C_get h z39 i h0 h1
  have hc : ∀ j u, c[j]? = some u → w.cell? (ad.add (i.toNat * 2 + j)) = some u := hc0
  obtain rfl := k39_open hK
  exact ⟨ad, e, hc 0 _ rfl, by rw [← add_field _ _ 1 (by omega)]; exact hc 1 _ rfl⟩
structure S36 where
  f0 : Bool
  f1 : Bool
  f2 : Bool
def z36 : S36 := ⟨false, false, false⟩
def k36 : Kd S36 := Kd.iso (Kd.pair Kd.bool (Kd.pair Kd.bool Kd.bool)) (fun x : S36 => (x.f0, x.f1, x.f2))
theorem k36_open {w : World} {x : S36} {cs : List Value} (h : k36.K w x cs) : cs = [.bool x.f0, .bool x.f1, .bool x.f2] := by
  obtain ⟨_, _, rfl, rfl, ⟨_, _, rfl, rfl, rfl⟩⟩ := h
  exact rfl
theorem k36_openM {w : World} {base : Nat} {ok : Nat → Prop} {x : S36} {cs : List Value} (h : k36.M w base ok x cs) : cs = [.bool x.f0, .bool x.f1, .bool x.f2] := by
  obtain ⟨_, _, rfl, rfl, ⟨_, _, rfl, rfl, rfl⟩⟩ := h
  exact rfl
theorem k36_mkM (w : World) (base : Nat) (ok : Nat → Prop) (x : S36)  : k36.M w base ok x [.bool x.f0, .bool x.f1, .bool x.f2] := ⟨[.bool x.f0], [.bool x.f1, .bool x.f2], rfl, rfl, ⟨[.bool x.f1], [.bool x.f2], rfl, rfl, rfl⟩⟩
def Qg (xs : List S36) (i : Int) : S36 := xs.getD i.toNat z36
theorem at_T36 {w : World} {A : Option Addr} {n : Nat} {xs : List S36} (h : Kd.C k36 w A n xs) (i : Int) (h0 : 0 ≤ i) (h1 : i < n) : ∃ ad , A = some ad ∧ w.cell? (ad.add (i.toNat * 3)) = some (.bool (Qg xs i).f0) ∧ w.cell? ⟨(ad.add (i.toNat * 3)).block, (ad.add (i.toNat * 3)).off + 1, none⟩ = some (.bool (Qg xs i).f1) ∧ w.cell? ⟨(ad.add (i.toNat * 3)).block, (ad.add (i.toNat * 3)).off + 2, none⟩ = some (.bool (Qg xs i).f2) := by
  obtain ⟨ad, c, e, _, hK, hc0⟩ := Kd.C_get h z36 i h0 h1
  have hc : ∀ j u, c[j]? = some u → w.cell? (ad.add (i.toNat * 3 + j)) = some u := hc0
  obtain rfl := k36_open hK
  exact ⟨ad, e, hc 0 _ rfl, by rw [← add_field _ _ 1 (by omega)]; exact hc 1 _ rfl, by rw [← add_field _ _ 2 (by omega)]; exact hc 2 _ rfl⟩
structure S35 where
  f0 : Bool
  f1 : Bool
  f2 : Bool
def z35 : S35 := ⟨false, false, false⟩
def k35 : Kd S35 := Kd.iso (Kd.pair Kd.bool (Kd.pair Kd.bool Kd.bool)) (fun x : S35 => (x.f0, x.f1, x.f2))
theorem k35_open {w : World} {x : S35} {cs : List Value} (h : k35.K w x cs) : cs = [.bool x.f0, .bool x.f1, .bool x.f2] := by
  obtain ⟨_, _, rfl, rfl, ⟨_, _, rfl, rfl, rfl⟩⟩ := h
  exact rfl
theorem k35_mkM (w : World) (base : Nat) (ok : Nat → Prop) (x : S35)  : k35.M w base ok x [.bool x.f0, .bool x.f1, .bool x.f2] := ⟨[.bool x.f0], [.bool x.f1, .bool x.f2], rfl, rfl, ⟨[.bool x.f1], [.bool x.f2], rfl, rfl, rfl⟩⟩
def Qp (xs : List S35) (i : Int) : S35 := xs.getD i.toNat z35
theorem at_T35 {w : World} {A : Option Addr} {n : Nat} {xs : List S35} (h : Kd.C k35 w A n xs) (i : Int) (h0 : 0 ≤ i) (h1 : i < n) : ∃ ad , A = some ad ∧ w.cell? (ad.add (i.toNat * 3)) = some (.bool (Qp xs i).f0) ∧ w.cell? ⟨(ad.add (i.toNat * 3)).block, (ad.add (i.toNat * 3)).off + 1, none⟩ = some (.bool (Qp xs i).f1) ∧ w.cell? ⟨(ad.add (i.toNat * 3)).block, (ad.add (i.toNat * 3)).off + 2, none⟩ = some (.bool (Qp xs i).f2) := by
  obtain ⟨ad, c, e, _, hK, hc0⟩ := Kd.C_get h z35 i h0 h1
  have hc : ∀ j u, c[j]? = some u → w.cell? (ad.add (i.toNat * 3 + j)) = some u := hc0
  obtain rfl := k35_open hK
  exact ⟨ad, e, hc 0 _ rfl, by rw [← add_field _ _ 1 (by omega)]; exact hc 1 _ rfl, by rw [← add_field _ _ 2 (by omega)]; exact hc 2 _ rfl⟩
end Go.Proofs.Ytnaanamibfpbpaa.V
namespace Go.Proofs.Ytnaanamibfpbpaa.V
open Go.RowKit Go.Proofs.YtnaanamibfpbpaaW.PrintWords Go.Proofs.YtnaanamibfpbpaaW.PrintLast Go.Proofs.YtnaanamibfpbpaaW.PrintMore
attribute [local go_sem] max2_int min2_int max_two min_two max_three min_three max_four min_four tdiv_most
set_option linter.unusedVariables false
set_option linter.unusedSimpArgs false
theorem eqA50 (d : Nat) (w : World) (x0 y0 : Int) (x1 y1 : Int) (x2 y2 : Int) (x3 y3 : Int) :
    (Op.equalIn (d + 2) 50 (.agg #[.int .u64 x0, .int .u64 x1, .int .u64 x2, .int .u64 x3]) (.agg #[.int .u64 y0, .int .u64 y1, .int .u64 y2, .int .u64 y3])).run Try.prog w = .ok (x0 == y0 && (x1 == y1 && (x2 == y2 && (x3 == y3)))) w :=
  eqA_four (k := .u64) Try.underlying50 Try.underlying48 (by kernel_rfl) (by kernel_rfl) d w x0 y0 x1 y1 x2 y2 x3 y3
end Go.Proofs.Ytnaanamibfpbpaa.V
namespace Go.Proofs.Ytnaanamibfpbpaa.V
open Go.RowKit Go.Proofs.YtnaanamibfpbpaaW.PrintWords Go.Proofs.YtnaanamibfpbpaaW.PrintLast Go.Proofs.YtnaanamibfpbpaaW.PrintMore
attribute [local go_sem] max2_int min2_int max_two min_two max_three min_three max_four min_four tdiv_most
set_option linter.unusedVariables false
set_option linter.unusedSimpArgs false
mutual
def flow_users.l0 : Nat → List (List Int) → List (S53) → Int → Int → List (S39) → List (S53) → Option ((List (List Int)))
 | 0, _, _, _, _, _, _ => none
 | k + 1, x3, x14, x15, x16, x102000, x102001 => if x16 < x15 then (if 0 ≤ x16 then (if x16 < (x14.length : Int) then (flow_users.l1 k x3 x16 x14 x15 x16 ((Qh x14 x16).f1) (((Qh x14 x16).f1).length : Int) 0 x102000 x102001 ((Qh x14 x16).f0) ((Qh x14 x16).f1) ((Qh x14 x16).f2) ((Qh x14 x16).f3.f0) ((Qh x14 x16).f3.f1) ((Qh x14 x16).f3.f2) ((Qh x14 x16).f3.f3)) else (none)) else (none)) else (some x3)
def flow_users.l1 : Nat → List (List Int) → Int → List (S53) → Int → Int → List Int → Int → Int → List (S39) → List (S53) → Int → List Int → Int → Int → Int → Int → Int → Option ((List (List Int)))
 | 0, _, _, _, _, _, _, _, _, _, _, _, _, _, _, _, _, _ => none
 | k + 1, x3, x4, x14, x15, x16, x22, x23, x24, x102000, x102001, x107000, x107001, x107002, x107003, x107004, x107005, x107006 => if x24 < x23 then (if 0 ≤ x24 then (if x24 < (x22.length : Int) then (if 0 ≤ (rd x22 x24) then (if (rd x22 x24) < (x3.length : Int) then (if (rd_L1 x3 (rd x22 x24)).length < 17592186044416 then (flow_users.l1 k (x3.set ((rd x22 x24) : Int).toNat ((rd_L1 x3 (rd x22 x24)) ++ [x4])) x4 x14 x15 x16 x22 x23 (wrap64 (x24 + 1)) x102000 x102001 x107000 x107001 x107002 x107003 x107004 x107005 x107006) else (none)) else (none)) else (none)) else (none)) else (none)) else (if x107000 = 2 then (if 0 ≤ x107002 then (if x107002 < (x102000.length : Int) then (if 0 ≤ ((Qa1 x102000 x107002).f1) then (if ((Qa1 x102000 x107002).f1) < (x3.length : Int) then (if (rd_L1 x3 ((Qa1 x102000 x107002).f1)).length < 17592186044416 then (flow_users.l0 k (x3.set (((Qa1 x102000 x107002).f1) : Int).toNat ((rd_L1 x3 ((Qa1 x102000 x107002).f1)) ++ [x4])) x14 x15 (wrap64 (x16 + 1)) x102000 x102001) else (none)) else (none)) else (none)) else (none)) else (none)) else (flow_users.l0 k x3 x14 x15 (wrap64 (x16 + 1)) x102000 x102001))
end
def flow_users.f (k : Nat) (l0_0 : List (S39)) (l0_1 : List (S53)) : Option ((List (List Int))) := if 0 ≤ (l0_1.length : Int) then (if ((l0_1.length : Int) : Int).toNat ≤ 11728124029610 then (flow_users.l0 k (List.replicate ((l0_1.length : Int) : Int).toNat []) l0_1 (l0_1.length : Int) 0 l0_0 l0_1) else (none)) else (none)
set_option maxHeartbeats 8000000 in
set_option maxRecDepth 100000 in
theorem flow_users.calls (k : Nat) (A0_0 : Option Addr) (c0_0 : Nat) (l0_0 : List (S39)) (A0_1 : Option Addr) (c0_1 : Nat) (l0_1 : List (S53)) (r : List (List Int)) (w : World) (hr0_0 : Kd.C k39 w A0_0 l0_0.length l0_0) (hc0_0 : l0_0.length ≤ c0_0) (hr0_1 : Kd.C k53 w A0_1 l0_1.length l0_1) (hc0_1 : l0_1.length ≤ c0_1) (h : flow_users.f k l0_0 l0_1 = some r) :
 Calls Try.prog 22 #[.agg #[.slice A0_0 l0_0.length c0_0, .slice A0_1 l0_1.length c0_1]] w fun e w' => ∃ v0_ : Value, e = .returned (v0_) ∧ Kd.S (Kd.slice 3 (Kd.int .i64)) 51 w' w.heap.size (fun _ => True) v0_ r ∧ Below w.heap.size w w' := by
 have hu25 := Try.underlying25
 have hu53 := Try.underlying53
 have HR0_0 := Qa.mk hr0_0
 have HC0_0 := Qa.mk hc0_0
 clear hr0_0 hc0_0
 have HR0_1 := Qa.mk hr0_1
 have HC0_1 := Qa.mk hc0_1
 clear hr0_1 hc0_1
 have HB := Qa.mk (Below.refl w.heap.size w)
 have H : (if 0 ≤ (l0_1.length : Int) then (if ((l0_1.length : Int) : Int).toNat ≤ 11728124029610 then (flow_users.l0 k (List.replicate ((l0_1.length : Int) : Int).toNat []) l0_1 (l0_1.length : Int) 0 l0_0 l0_1) else (none)) else (none)) = some r := h
 clear h
 by_cases c2 : 0 ≤ (l0_1.length : Int)
 rotate_left
 ·
  rw [if_neg c2] at H
  exact absurd H (by simp)
 rw [if_pos c2] at H
 have c2b0 := eq_true c2
 have c2b1 : decide (0 ≤ (l0_1.length : Int)) = true := decide_eq_true c2
 clear c2
 by_cases c3 : ((l0_1.length : Int) : Int).toNat ≤ 11728124029610
 rotate_left
 ·
  rw [if_neg c3] at H
  exact absurd H (by simp)
 rw [if_pos c3] at H
 have c3b0 := eq_true c3
 have c3b1 : decide (((l0_1.length : Int) : Int).toNat ≤ 11728124029610) = true := decide_eq_true c3
 clear c3
 obtain ⟨y102, hy102⟩ : ∃ y_ : List (List Int), y_ = (List.replicate ((l0_1.length : Int) : Int).toNat []) := ⟨_, rfl⟩
 replace H : (flow_users.l0 k y102 l0_1 (l0_1.length : Int) 0 l0_0 l0_1) = some r := by first | (rw [hy102]; with_reducible exact H) | (have H2_ := (Option.bind_some _ _).symm.trans H; rw [hy102]; with_reducible exact H2_) | (have H2_ := (Option.bind_some _ _).symm.trans H; with_reducible exact H2_) | with_reducible exact H | (rw [hy102]; exact H) | exact H
 have Ny102 := Qa.mk hy102
 clear hy102
 have H' := Qa.mk H
 clear H
 go_enter Try.func22, Try.ntmps22
 go_wp2_with (first | ((with_reducible refine Qg1 (N := 1) rfl ?_); refine Qh1 ?hg (N := 1) ?hd (cs := #[.slice A0_0 l0_0.length c0_0, .slice A0_1 l0_1.length c0_1]) (t := 25) ?hr ?_; (case hd => rfl); (case hg => rfl); (case hr => first | (go_simp; done) | (go_simp; rfl)); intro gb101 hg w4 hbox hb; have n0_ := Qa.mk (Qv (by with_reducible repeat (first | exact HB.out | apply Qk | apply Ql | apply Qj)) hb); have n1_ := Qa.mk (hbox); have n2_ := Qa.mk ((by rw [hg]; exact (Qb1 (by with_reducible repeat (first | exact HB.out | apply Qk | apply Ql | apply Qj))) : w.heap.size ≤ gb101)); have n3_ := n2_; clear HB; have HB := n0_; have BK101 := n1_; have GW101 := n2_; have GE101 := n3_; clear n0_ n1_ n2_ n3_; clear hb hbox hg; have hcz5_0 : w4.cell? ⟨gb101, 0, none⟩ = some (.slice A0_0 l0_0.length c0_0) := (Qe BK101.out 0).trans rfl; have hcz5_1 : w4.cell? ⟨gb101, 1, none⟩ = some (.slice A0_1 l0_1.length c0_1) := (Qe BK101.out 1).trans rfl; have hfz5_0 := Qf BK101.out 0; have hfz5_1 := Qf BK101.out 1) | ((with_reducible refine Qg1 (N := 12) rfl ?_); refine Kd.S_make (Kd.slice 3 (Kd.int .i64)) _ 51 rfl (N := 12) rfl 54 _ _ rfl (l0_1.length : Int) rfl rfl Try.underlying54 (.slice none 0 0) 24 info51 rfl (by decide) (by omega) [] (ok := fun _ => True) (okp := fun _ => True) ⟨_, rfl, Kd.R_nil _ _ _ _ _⟩ (fun _ hk => hk) trivial (of_decide_eq_true (by assumption)) (Nat.le_trans (Nat.mul_le_mul_right _ (of_decide_eq_true (by assumption) : (l0_1.length : Int).toNat ≤ 11728124029610)) (by omega)) (Below.refl _ _) (Nat.le_refl _) ?_; intro v103 w6 ho7 hb hg_ hnew_; clear hg_ hnew_; (first | rw [← Ny102.out] at ho7 | (simp only [Int.reduceToNat] at ho7; rw [← Ny102.out] at ho7)); have n0_ := Qa.mk (Kd.S_lower ho7 (Qb1 (by with_reducible repeat (first | exact HB.out | apply Qk | apply Ql | apply Qj | refine Qi ?_ GE101.out)))); have n1_ := Qa.mk (Qs (g := gb101) (o := .cells #[.slice A0_0 l0_0.length c0_0, .slice A0_1 l0_1.length c0_1] 25 (0, 0)) (by (with_reducible repeat (first | refine Qd ?_ _ | refine Qb ?_ | refine Qc ?_ _)); exact BK101.out) hb); have n2_ := Qa.mk (Qv (by with_reducible repeat (first | exact HB.out | apply Qk | apply Ql | apply Qj | refine Qi ?_ GE101.out)) hb); clear BK101; clear HB; have HO104 := n0_; have BK101 := n1_; have HB := n2_; clear n0_ n1_ n2_; clear hb ho7; have hcz8_0 : w6.cell? ⟨gb101, 0, none⟩ = some (.slice A0_0 l0_0.length c0_0) := (Qe BK101.out 0).trans rfl; have hcz8_1 : w6.cell? ⟨gb101, 1, none⟩ = some (.slice A0_1 l0_1.length c0_1) := (Qe BK101.out 1).trans rfl; have hfz8_0 := Qf BK101.out 0; have hfz8_1 := Qf BK101.out 1))
 go_loopg [16] k (fun kq v16 w' => ∃ (x3_1 : List (List Int)) (x16_1 : Int), v16 = .int .i64 x16_1 ∧ Qa (flow_users.l0 kq x3_1 l0_1 (l0_1.length : Int) x16_1 l0_0 l0_1 = some r) ∧ Qa (kq ≤ k) ∧ Qa (Kd.S (Kd.slice 3 (Kd.int .i64)) 51 w' w.heap.size (fun _ => True) v103 x3_1) ∧ Qa (w'.heap[gb101]? = some (.cells #[(.slice A0_0 l0_0.length c0_0), (.slice A0_1 l0_1.length c0_1)] 25 (0, 0))) ∧ Qa (Below w.heap.size w w'))
 case atStart => exact ⟨(y102), (0), (by first | rfl | (simp; done) | (simp [*]; done)), H', ⟨Nat.le_refl _⟩, ⟨by (with_reducible repeat (first | apply Kd.S_alloc | apply Kd.S_drewN | apply Kd.S_drew)); exact HO104.out⟩, ⟨by (with_reducible repeat (first | refine Qd ?_ _ | refine Qb ?_ | refine Qc ?_ _)); exact BK101.out⟩, ⟨by with_reducible repeat (first | exact HB.out | apply Qk | apply Ql | apply Qj | refine Qi ?_ GE101.out)⟩⟩
 case round =>
  clear H'
  (try clear c2; try clear c2b0; try clear c2b1; try clear p2; try clear c3; try clear c3b0; try clear c3b1; try clear hcz5_0; try clear hcz5_1; try clear hcz8_0; try clear hcz8_1; try clear hfz5_0; try clear hfz5_1; try clear hfz8_0; try clear hfz8_1)
  obtain ⟨x3_1, x16_1, rfl, HA, HK1, HO_3, BK101, HB⟩ := hrel
  cases gk with
  | zero => exact absurd HA.out (by simp [flow_users.l0])
  | succ k1 =>
   have H := HA.out
   clear HA
   simp only [flow_users.l0] at H
   by_cases c9 : x16_1 < (l0_1.length : Int)
   rotate_left
   ·
    rw [if_neg c9] at H
    have c9b0 : decide (x16_1 < (l0_1.length : Int)) = false := decide_eq_false c9
    clear c9
    obtain rfl := Option.some.inj H
    go_wp2
    go_ret
    exact ⟨_, by first | rfl | (simp [Qw, Qx] <;> rfl) | (simp [*, Qw, Qx] <;> rfl), by (with_reducible repeat (first | apply Kd.S_alloc | apply Kd.S_drewN | apply Kd.S_drew)); exact HO_3.out, by with_reducible repeat (first | exact HB.out | apply Qk | apply Ql | apply Qj | refine Qi ?_ GE101.out)⟩
   rw [if_pos c9] at H
   have c9b0 : decide (x16_1 < (l0_1.length : Int)) = true := decide_eq_true c9
   clear c9
   by_cases c10 : 0 ≤ x16_1
   rotate_left
   ·
    rw [if_neg c10] at H
    exact absurd H (by simp)
   rw [if_pos c10] at H
   have c10b0 : decide (0 ≤ x16_1) = true := decide_eq_true c10
   clear c10
   by_cases c11 : x16_1 < (l0_1.length : Int)
   rotate_left
   ·
    rw [if_neg c11] at H
    exact absurd H (by simp)
   rw [if_pos c11] at H
   have c11b0 : decide (x16_1 < (l0_1.length : Int)) = true := decide_eq_true c11
   clear c11
   have H' := Qa.mk H
   clear H
   have p105 : 0 ≤ (x16_1 : Int) := of_decide_eq_true (by assumption)
   have q105 : x16_1 < (l0_1.length : Int) := of_decide_eq_true (by assumption)
   obtain ⟨ad105, A105_1, c105_1, e105, hx105_0, hx105_1, hx105_2, hx105_3, hx105_4, hx105_5, hx105_6, hl105_1, hi105_1⟩ := at_T53 HR0_1.out x16_1 p105 q105
   cases e105
   replace hx105_0 := (HB.out.cell (World.block_lt_of_cell? w _ hx105_0)).trans hx105_0
   replace hx105_1 := (HB.out.cell (World.block_lt_of_cell? w _ hx105_1)).trans hx105_1
   replace hx105_2 := (HB.out.cell (World.block_lt_of_cell? w _ hx105_2)).trans hx105_2
   replace hx105_3 := (HB.out.cell (World.block_lt_of_cell? w _ hx105_3)).trans hx105_3
   replace hx105_4 := (HB.out.cell (World.block_lt_of_cell? w _ hx105_4)).trans hx105_4
   replace hx105_5 := (HB.out.cell (World.block_lt_of_cell? w _ hx105_5)).trans hx105_5
   replace hx105_6 := (HB.out.cell (World.block_lt_of_cell? w _ hx105_6)).trans hx105_6
   have HR105_1 := Qa.mk hi105_1
   have HC105_1 := Qa.mk hl105_1
   clear hi105_1 hl105_1
   replace p105 := eq_true p105
   replace q105 := eq_true q105
   go_wp2_with (first | ((with_reducible refine Qg1 (N := 5) rfl ?_); refine Qh1 ?hg (N := 5) ?hd (cs := #[.int .i64 0, .slice none 0 0, .int .i64 0, .int .u64 0, .int .u64 0, .int .u64 0, .int .u64 0]) (t := 53) ?hr ?_; (case hd => rfl); (case hg => rfl); (case hr => first | (go_simp; done) | (go_simp; rfl)); intro gb106 hg w12 hbox hb; have n0_ := Qa.mk (Kd.S_below (by (with_reducible repeat (first | apply Kd.S_alloc | apply Kd.S_drewN | apply Kd.S_drew)); exact HO_3.out) hb); have n1_ := Qa.mk (Qs (g := gb101) (o := .cells #[.slice A0_0 l0_0.length c0_0, .slice (some ad105) l0_1.length c0_1] 25 (0, 0)) (by (with_reducible repeat (first | refine Qd ?_ _ | refine Qb ?_ | refine Qc ?_ _)); exact BK101.out) hb); have n2_ := Qa.mk (Qv (by with_reducible repeat (first | exact HB.out | apply Qk | apply Ql | apply Qj | refine Qi ?_ GE101.out)) hb); have n3_ := Qa.mk (hbox); have n4_ := Qa.mk ((by rw [hg]; exact (Qb1 (by with_reducible repeat (first | exact HB.out | apply Qk | apply Ql | apply Qj | refine Qi ?_ GE101.out))) : w.heap.size ≤ gb106)); have n5_ := n4_; have n6_ := Qa.mk ((by rw [hg]; exact Nat.ne_of_lt (Qy (g := gb101) (o := .cells #[.slice A0_0 l0_0.length c0_0, .slice (some ad105) l0_1.length c0_1] 25 (0, 0)) (by (with_reducible repeat (first | refine Qd ?_ _ | refine Qb ?_ | refine Qc ?_ _)); exact BK101.out)) : gb101 ≠ gb106)); have n7_ := Qa.mk ((by rw [hg]; exact Nat.ne_of_gt (Qy (g := gb101) (o := .cells #[.slice A0_0 l0_0.length c0_0, .slice (some ad105) l0_1.length c0_1] 25 (0, 0)) (by (with_reducible repeat (first | refine Qd ?_ _ | refine Qb ?_ | refine Qc ?_ _)); exact BK101.out)) : gb106 ≠ gb101)); clear HO_3; clear BK101; clear HB; have HO_3 := n0_; have BK101 := n1_; have HB := n2_; have BK106 := n3_; have GW106 := n4_; have GE106 := n5_; have NB101_106 := n6_; have NB106_101 := n7_; clear n0_ n1_ n2_ n3_ n4_ n5_ n6_ n7_; clear hb hbox hg; have hnb13 := NB106_101.out; have hnc13 := NB101_106.out; have hcz14_0 : w12.cell? ⟨gb106, 0, none⟩ = some (.int .i64 0) := (Qe BK106.out 0).trans rfl; have hcz14_1 : w12.cell? ⟨gb106, 1, none⟩ = some (.slice none 0 0) := (Qe BK106.out 1).trans rfl; have hcz14_2 : w12.cell? ⟨gb106, 2, none⟩ = some (.int .i64 0) := (Qe BK106.out 2).trans rfl; have hcz14_3 : w12.cell? ⟨gb106, 3, none⟩ = some (.int .u64 0) := (Qe BK106.out 3).trans rfl; have hcz14_4 : w12.cell? ⟨gb106, 4, none⟩ = some (.int .u64 0) := (Qe BK106.out 4).trans rfl; have hcz14_5 : w12.cell? ⟨gb106, 5, none⟩ = some (.int .u64 0) := (Qe BK106.out 5).trans rfl; have hcz14_6 : w12.cell? ⟨gb106, 6, none⟩ = some (.int .u64 0) := (Qe BK106.out 6).trans rfl; have hfz14_0 := Qf BK106.out 0; have hfz14_1 := Qf BK106.out 1; have hfz14_2 := Qf BK106.out 2; have hfz14_3 := Qf BK106.out 3; have hfz14_4 := Qf BK106.out 4; have hfz14_5 := Qf BK106.out 5; have hfz14_6 := Qf BK106.out 6))
   go_loopg [24] k1 (fun kq v24 w' => ∃ (x3_2 : List (List Int)) (x24_2 : Int), v24 = .int .i64 x24_2 ∧ Qa (flow_users.l1 kq x3_2 x16_1 l0_1 (l0_1.length : Int) x16_1 ((Qh l0_1 x16_1).f1) (((Qh l0_1 x16_1).f1).length : Int) x24_2 l0_0 l0_1 ((Qh l0_1 x16_1).f0) ((Qh l0_1 x16_1).f1) ((Qh l0_1 x16_1).f2) ((Qh l0_1 x16_1).f3.f0) ((Qh l0_1 x16_1).f3.f1) ((Qh l0_1 x16_1).f3.f2) ((Qh l0_1 x16_1).f3.f3) = some r) ∧ Qa (kq ≤ k1) ∧ Qa (Kd.S (Kd.slice 3 (Kd.int .i64)) 51 w' w.heap.size (fun _ => True) v103 x3_2) ∧ Qa (w'.heap[gb101]? = some (.cells #[(.slice A0_0 l0_0.length c0_0), (.slice (some ad105) l0_1.length c0_1)] 25 (0, 0))) ∧ Qa (w'.heap[gb106]? = some (.cells #[.int .i64 ((Qh l0_1 x16_1).f0), (.slice A105_1 ((Qh l0_1 x16_1).f1).length c105_1), .int .i64 ((Qh l0_1 x16_1).f2), .int .u64 ((Qh l0_1 x16_1).f3.f0), .int .u64 ((Qh l0_1 x16_1).f3.f1), .int .u64 ((Qh l0_1 x16_1).f3.f2), .int .u64 ((Qh l0_1 x16_1).f3.f3)] 53 (0, 0))) ∧ Qa (Below w.heap.size w w'))
   case atStart => exact ⟨(x3_1), (0), (by first | rfl | (simp; done) | (simp [*]; done)), H', ⟨Nat.le_refl _⟩, ⟨by (with_reducible repeat (first | apply Kd.S_alloc | apply Kd.S_drewN | apply Kd.S_drew)); exact Kd.S_mono (Kd.S_far (p := ⟨gb106, 6, none⟩) (Kd.S_far (p := ⟨gb106, 5, none⟩) (Kd.S_far (p := ⟨gb106, 4, none⟩) (Kd.S_far (p := ⟨gb106, 3, none⟩) (Kd.S_far (p := ⟨gb106, 2, none⟩) (Kd.S_far (p := ⟨gb106, 1, none⟩) (Kd.S_far (p := ⟨gb106, 0, none⟩) (Kd.S_types HO_3.out BK106.out (by decide)) (fun _ hk => hk.2) (.int .i64 ((Qh l0_1 x16_1).f0))) (fun _ hk => hk.2) (.slice A105_1 ((Qh l0_1 x16_1).f1).length c105_1)) (fun _ hk => hk.2) (.int .i64 ((Qh l0_1 x16_1).f2))) (fun _ hk => hk.2) (.int .u64 ((Qh l0_1 x16_1).f3.f0))) (fun _ hk => hk.2) (.int .u64 ((Qh l0_1 x16_1).f3.f1))) (fun _ hk => hk.2) (.int .u64 ((Qh l0_1 x16_1).f3.f2))) (fun _ hk => hk.2) (.int .u64 ((Qh l0_1 x16_1).f3.f3))) (fun _ hk => trivial)⟩, ⟨by (with_reducible repeat (first | refine Qd ?_ _ | refine Qb ?_ | refine Qc ?_ _)); refine Qn ?_ NB101_106.out _; (with_reducible repeat (first | refine Qd ?_ _ | refine Qb ?_ | refine Qc ?_ _)); refine Qn ?_ NB101_106.out _; (with_reducible repeat (first | refine Qd ?_ _ | refine Qb ?_ | refine Qc ?_ _)); refine Qn ?_ NB101_106.out _; (with_reducible repeat (first | refine Qd ?_ _ | refine Qb ?_ | refine Qc ?_ _)); refine Qn ?_ NB101_106.out _; (with_reducible repeat (first | refine Qd ?_ _ | refine Qb ?_ | refine Qc ?_ _)); refine Qn ?_ NB101_106.out _; (with_reducible repeat (first | refine Qd ?_ _ | refine Qb ?_ | refine Qc ?_ _)); refine Qn ?_ NB101_106.out _; (with_reducible repeat (first | refine Qd ?_ _ | refine Qb ?_ | refine Qc ?_ _)); refine Qn ?_ NB101_106.out _; (with_reducible repeat (first | refine Qd ?_ _ | refine Qb ?_ | refine Qc ?_ _)); exact BK101.out⟩, ⟨by (with_reducible repeat (first | refine Qd ?_ _ | refine Qb ?_ | refine Qc ?_ _)); refine Qt (cs := #[.int .i64 ((Qh l0_1 x16_1).f0), .slice A105_1 ((Qh l0_1 x16_1).f1).length c105_1, .int .i64 ((Qh l0_1 x16_1).f2), .int .u64 ((Qh l0_1 x16_1).f3.f0), .int .u64 ((Qh l0_1 x16_1).f3.f1), .int .u64 ((Qh l0_1 x16_1).f3.f2), .int .u64 0]) ?_ 6 _ rfl; (with_reducible repeat (first | refine Qd ?_ _ | refine Qb ?_ | refine Qc ?_ _)); refine Qt (cs := #[.int .i64 ((Qh l0_1 x16_1).f0), .slice A105_1 ((Qh l0_1 x16_1).f1).length c105_1, .int .i64 ((Qh l0_1 x16_1).f2), .int .u64 ((Qh l0_1 x16_1).f3.f0), .int .u64 ((Qh l0_1 x16_1).f3.f1), .int .u64 0, .int .u64 0]) ?_ 5 _ rfl; (with_reducible repeat (first | refine Qd ?_ _ | refine Qb ?_ | refine Qc ?_ _)); refine Qt (cs := #[.int .i64 ((Qh l0_1 x16_1).f0), .slice A105_1 ((Qh l0_1 x16_1).f1).length c105_1, .int .i64 ((Qh l0_1 x16_1).f2), .int .u64 ((Qh l0_1 x16_1).f3.f0), .int .u64 0, .int .u64 0, .int .u64 0]) ?_ 4 _ rfl; (with_reducible repeat (first | refine Qd ?_ _ | refine Qb ?_ | refine Qc ?_ _)); refine Qt (cs := #[.int .i64 ((Qh l0_1 x16_1).f0), .slice A105_1 ((Qh l0_1 x16_1).f1).length c105_1, .int .i64 ((Qh l0_1 x16_1).f2), .int .u64 0, .int .u64 0, .int .u64 0, .int .u64 0]) ?_ 3 _ rfl; (with_reducible repeat (first | refine Qd ?_ _ | refine Qb ?_ | refine Qc ?_ _)); refine Qt (cs := #[.int .i64 ((Qh l0_1 x16_1).f0), .slice A105_1 ((Qh l0_1 x16_1).f1).length c105_1, .int .i64 0, .int .u64 0, .int .u64 0, .int .u64 0, .int .u64 0]) ?_ 2 _ rfl; (with_reducible repeat (first | refine Qd ?_ _ | refine Qb ?_ | refine Qc ?_ _)); refine Qt (cs := #[.int .i64 ((Qh l0_1 x16_1).f0), .slice none 0 0, .int .i64 0, .int .u64 0, .int .u64 0, .int .u64 0, .int .u64 0]) ?_ 1 _ rfl; (with_reducible repeat (first | refine Qd ?_ _ | refine Qb ?_ | refine Qc ?_ _)); refine Qt (cs := #[.int .i64 0, .slice none 0 0, .int .i64 0, .int .u64 0, .int .u64 0, .int .u64 0, .int .u64 0]) ?_ 0 _ rfl; (with_reducible repeat (first | refine Qd ?_ _ | refine Qb ?_ | refine Qc ?_ _)); exact BK106.out⟩, ⟨by with_reducible repeat (first | exact HB.out | apply Qk | apply Ql | apply Qj | refine Qi ?_ GE101.out | refine Qi ?_ GE106.out)⟩⟩
   case round =>
    clear H'
    (try clear c1; try clear p1; try clear q1; try clear hx1; try clear c2; try clear c2b0; try clear c2b1; try clear p2; try clear c3; try clear c3b0; try clear c3b1; try clear c9; try clear c9b0; try clear c10; try clear c10b0; try clear p10; try clear q10; try clear hx10; try clear c11; try clear c11b0; try clear c13; try clear hcz14_0; try clear hcz14_1; try clear hcz14_2; try clear hcz14_3; try clear hcz14_4; try clear hcz14_5; try clear hcz14_6; try clear hcz5_0; try clear hcz5_1; try clear hcz8_0; try clear hcz8_1; try clear hfz14_0; try clear hfz14_1; try clear hfz14_2; try clear hfz14_3; try clear hfz14_4; try clear hfz14_5; try clear hfz14_6; try clear hfz5_0; try clear hfz5_1; try clear hfz8_0; try clear hfz8_1; try clear hx105_0; try clear hx105_1; try clear hx105_2; try clear hx105_3; try clear hx105_4; try clear hx105_5; try clear hx105_6; try clear p105; try clear p2; try clear q105)
    obtain ⟨x3_2, x24_2, rfl, HA, HK2, HO_3, BK101, BK106, HB⟩ := hrel
    cases gk with
    | zero => exact absurd HA.out (by simp [flow_users.l1])
    | succ k2 =>
     have H := HA.out
     clear HA
     simp only [flow_users.l1] at H
     by_cases c15 : x24_2 < (((Qh l0_1 x16_1).f1).length : Int)
     ·
      rw [if_pos c15] at H
      have c15b0 : decide (x24_2 < (((Qh l0_1 x16_1).f1).length : Int)) = true := decide_eq_true c15
      clear c15
      by_cases c16 : 0 ≤ x24_2
      rotate_left
      ·
       rw [if_neg c16] at H
       exact absurd H (by simp)
      rw [if_pos c16] at H
      have c16b0 : decide (0 ≤ x24_2) = true := decide_eq_true c16
      clear c16
      by_cases c17 : x24_2 < (((Qh l0_1 x16_1).f1).length : Int)
      rotate_left
      ·
       rw [if_neg c17] at H
       exact absurd H (by simp)
      rw [if_pos c17] at H
      have c17b0 : decide (x24_2 < (((Qh l0_1 x16_1).f1).length : Int)) = true := decide_eq_true c17
      clear c17
      by_cases c18 : 0 ≤ (rd ((Qh l0_1 x16_1).f1) x24_2)
      rotate_left
      ·
       rw [if_neg c18] at H
       exact absurd H (by simp)
      rw [if_pos c18] at H
      have c18b0 : decide (0 ≤ (rd ((Qh l0_1 x16_1).f1) x24_2)) = true := decide_eq_true c18
      clear c18
      by_cases c19 : (rd ((Qh l0_1 x16_1).f1) x24_2) < (x3_2.length : Int)
      rotate_left
      ·
       rw [if_neg c19] at H
       exact absurd H (by simp)
      rw [if_pos c19] at H
      have c19b0 : decide ((rd ((Qh l0_1 x16_1).f1) x24_2) < (x3_2.length : Int)) = true := decide_eq_true c19
      clear c19
      by_cases c20 : (rd_L1 x3_2 (rd ((Qh l0_1 x16_1).f1) x24_2)).length < 17592186044416
      rotate_left
      ·
       rw [if_neg c20] at H
       exact absurd H (by simp)
      rw [if_pos c20] at H
      have LMc20 := Qa.mk c20
      clear c20
      obtain ⟨y109, hy109⟩ : ∃ y_ : List Int, y_ = ((rd_L1 x3_2 (rd ((Qh l0_1 x16_1).f1) x24_2)) ++ [x16_1]) := ⟨_, rfl⟩
      replace H : (flow_users.l1 k2 (x3_2.set ((rd ((Qh l0_1 x16_1).f1) x24_2) : Int).toNat y109) x16_1 l0_1 (l0_1.length : Int) x16_1 ((Qh l0_1 x16_1).f1) (((Qh l0_1 x16_1).f1).length : Int) (wrap64 (x24_2 + 1)) l0_0 l0_1 ((Qh l0_1 x16_1).f0) ((Qh l0_1 x16_1).f1) ((Qh l0_1 x16_1).f2) ((Qh l0_1 x16_1).f3.f0) ((Qh l0_1 x16_1).f3.f1) ((Qh l0_1 x16_1).f3.f2) ((Qh l0_1 x16_1).f3.f3)) = some r := by first | (rw [hy109]; with_reducible exact H) | (have H2_ := (Option.bind_some _ _).symm.trans H; rw [hy109]; with_reducible exact H2_) | (have H2_ := (Option.bind_some _ _).symm.trans H; with_reducible exact H2_) | with_reducible exact H | (rw [hy109]; exact H) | exact H
      have Ny109 := Qa.mk hy109
      clear hy109
      obtain ⟨y112, hy112⟩ : ∃ y_ : List (List Int), y_ = (x3_2.set ((rd ((Qh l0_1 x16_1).f1) x24_2) : Int).toNat y109) := ⟨_, rfl⟩
      replace H : (flow_users.l1 k2 y112 x16_1 l0_1 (l0_1.length : Int) x16_1 ((Qh l0_1 x16_1).f1) (((Qh l0_1 x16_1).f1).length : Int) (wrap64 (x24_2 + 1)) l0_0 l0_1 ((Qh l0_1 x16_1).f0) ((Qh l0_1 x16_1).f1) ((Qh l0_1 x16_1).f2) ((Qh l0_1 x16_1).f3.f0) ((Qh l0_1 x16_1).f3.f1) ((Qh l0_1 x16_1).f3.f2) ((Qh l0_1 x16_1).f3.f3)) = some r := by first | (rw [hy112]; with_reducible exact H) | (have H2_ := (Option.bind_some _ _).symm.trans H; rw [hy112]; with_reducible exact H2_) | (have H2_ := (Option.bind_some _ _).symm.trans H; with_reducible exact H2_) | with_reducible exact H | (rw [hy112]; exact H) | exact H
      have Ny112 := Qa.mk hy112
      clear hy112
      have H' := Qa.mk H
      clear H
      have p107 : 0 ≤ (x24_2 : Int) := of_decide_eq_true (by assumption)
      have q107 : x24_2 < (((Qh l0_1 x16_1).f1).length : Int) := of_decide_eq_true (by assumption)
      obtain ⟨ad107, e107, hx107_0⟩ := Kd.at_int HR105_1.out x24_2 p107 q107
      cases e107
      replace hx107_0 := (HB.out.cell (World.block_lt_of_cell? w _ hx107_0)).trans hx107_0
      replace p107 := eq_true p107
      replace q107 := eq_true q107
      obtain ⟨Ao22, co22, eo22⟩ := Kd.S_slice HO_3.out
      subst eo22
      have p108 : 0 ≤ ((rd ((Qh l0_1 x16_1).f1) x24_2) : Int) := of_decide_eq_true (by assumption)
      have q108 : (rd ((Qh l0_1 x16_1).f1) x24_2) < (x3_2.length : Int) := of_decide_eq_true (by assumption)
      obtain ⟨ad108, A108_0, c108_0, e108, hx108_0, hl108_0, hi108_0⟩ := at_L1 (Kd.S_reads' HO_3.out).2.2 (rd ((Qh l0_1 x16_1).f1) x24_2) p108 q108
      cases e108
      obtain ⟨ce108, hce108, hMe108, hcc108⟩ := Kd.S_get HO_3.out [] (rd ((Qh l0_1 x16_1).f1) x24_2) p108 (by first | exact q108 | exact of_decide_eq_true (by assumption) | (have e_ := (Kd.S_reads' HO_3.out).1; omega))
      obtain ⟨ve108_0, rfl, ge108_0⟩ := hMe108
      have hv108_0 := hcc108 0 _ rfl
      rw [Nat.add_zero, show ((Kd.slice 3 (Kd.int .i64))).sz = 1 from rfl, Nat.mul_one] at hv108_0
      replace hv108_0 := Option.some.inj (hv108_0.symm.trans hx108_0)
      rw [hv108_0] at ge108_0
      have HL108_0 := Qa.mk (show Kd.R (Kd.int .i64) 3 _ _ _ _ (rd_L1 x3_2 (rd ((Qh l0_1 x16_1).f1) x24_2)) from ge108_0)
      clear hv108_0 ge108_0
      have HX108_0 := Qa.mk hx108_0
      clear hcc108 hce108
      have HR108_0 := Qa.mk hi108_0
      have HC108_0 := Qa.mk hl108_0
      clear hi108_0 hl108_0
      replace p108 := eq_true p108
      replace q108 := eq_true q108
      obtain ⟨go23, co23, eo23, gb23, gl23, cl23, HG23⟩ := Kd.S_form HO_3.out (by have h_ : ((rd ((Qh l0_1 x16_1).f1) x24_2) : Int) < ((x3_2.length : Int) : Int) := of_decide_eq_true (by assumption); have h2_ : 0 ≤ ((rd ((Qh l0_1 x16_1).f1) x24_2) : Int) := (of_decide_eq_true (by assumption)); omega)
      (first | cases eo23 | (injection eo23 with ea_ en_ ec_; (first | subst ea_ | (injection ea_ with ea_; subst ea_)); subst ec_; clear en_))
      have GB23 := Qa.mk gb23
      have GG23 := Qa.mk HG23
      clear gb23 gl23 HG23
      (first | simp only [add_plain] at hx108_0 | skip)
      obtain ⟨oki23, ce23, hcl23, hM23, hcc23, _, _, hH23⟩ := Kd.S_elem HO_3.out [] ((rd ((Qh l0_1 x16_1).f1) x24_2) : Int) (of_decide_eq_true (by assumption)) (by have h_ : ((rd ((Qh l0_1 x16_1).f1) x24_2) : Int) < ((x3_2.length : Int) : Int) := of_decide_eq_true (by assumption); first | exact h_ | (have e_ := (Kd.S_reads' HO_3.out).1; omega) | simpa using h_)
      obtain ⟨ve23_0, rfl, ge23_0⟩ := hM23
      have hv23 := hcc23 0 _ rfl
      have hX23 := HX108_0.out
      (try simp only [add_plain] at hX23)
      (try simp only [Nat.add_zero] at hv23)
      (try rw [show ((Kd.slice 3 (Kd.int .i64))).sz = 1 from rfl, Nat.mul_one] at hv23)
      replace hv23 := Option.some.inj (hv23.symm.trans hX23)
      subst hv23
      clear hX23 hcc23 hcl23
      have UU23 := Qa.mk (show Kd.R (Kd.int .i64) 3 _ w.heap.size oki23 (.slice A108_0 (rd_L1 x3_2 (rd ((Qh l0_1 x16_1).f1) x24_2)).length c108_0) (rd_L1 x3_2 (rd ((Qh l0_1 x16_1).f1) x24_2)) from ge23_0)
      have HH23 := Qa.mk hH23
      have HN23 := Qa.mk (Kd.S_reads' HO_3.out).1
      clear hH23 ge23_0
      go_wp2_with (first | ((with_reducible refine gate_builtin (b := .append) (xs := #[.tmp 33, .tmp 35]) rfl ?_); at_builtin; refine Kd.R_append (Kd.int .i64) (w0 := w) w.heap.size rfl (.tmp 33) (.tmp 35) 51 3 (.int .i64 0) 8 rfl Try.underlying51 info3 rfl (by decide) (by omega) (.slice A108_0 (rd_L1 x3_2 (rd ((Qh l0_1 x16_1).f1) x24_2)).length c108_0) (rd_L1 x3_2 (rd ((Qh l0_1 x16_1).f1) x24_2)) x16_1 [.int .i64 x16_1] (fun k_ => oki23 k_ ∨ ((fun _ => True)) k_ ∧ wr.heap.size ≤ k_) (fun _ => False) rfl rfl ?aP (fun _ hk => hk.elim) ?aF ?aO ?aB ?aS ?aL ?_; (case aP => exact rfl); (case aB => exact (by with_reducible repeat (first | exact HB.out | apply Qk | apply Ql | apply Qj | refine Qi ?_ GE101.out | refine Qi ?_ GE106.out))); (case aF => exact (fun k_ hk => .inr ⟨trivial, hk⟩)); (case aO => exact (by (with_reducible repeat (first | apply Kd.Qq | apply Kd.Qr | apply Kd.Qo)); exact Kd.R_mono UU23.out (fun _ hk => .inl hk))); (case aS => exact (Qb1 (by with_reducible repeat (first | exact HB.out | apply Qk | apply Ql | apply Qj | refine Qi ?_ GE101.out | refine Qi ?_ GE106.out)))); (case aL => have := LMc20.out; omega); intro v110 w24 ho hb hg hat; rw [← Ny109.out] at ho; have n0_ := Qa.mk (blk_grown (g := gb101) (o := .cells #[.slice A0_0 l0_0.length c0_0, .slice (some ad105) l0_1.length c0_1] 25 (0, 0)) (by (with_reducible repeat (first | refine Qd ?_ _ | refine Qb ?_ | refine Qc ?_ _)); exact BK101.out) hg (Kd.R_ne HL108_0.out BK101.out (by decide))); have n1_ := Qa.mk (blk_grown (g := gb106) (o := .cells #[.int .i64 ((Qh l0_1 x16_1).f0), .slice (some ad107) ((Qh l0_1 x16_1).f1).length c105_1, .int .i64 ((Qh l0_1 x16_1).f2), .int .u64 ((Qh l0_1 x16_1).f3.f0), .int .u64 ((Qh l0_1 x16_1).f3.f1), .int .u64 ((Qh l0_1 x16_1).f3.f2), .int .u64 ((Qh l0_1 x16_1).f3.f3)] 53 (0, 0)) (by (with_reducible repeat (first | refine Qd ?_ _ | refine Qb ?_ | refine Qc ?_ _)); exact BK106.out) hg (Kd.R_ne HL108_0.out BK106.out (by decide))); have n2_ := Qa.mk (hb); have n3_ := Qa.mk (Kd.H_grown (Kd.H_widen (by repeat (first | exact HH23.out | refine Kd.H_alloc ?_ _ | refine Kd.H_drewN ?_ _ | refine Kd.H_drew ?_))) hg (fun k_ e_ => .inl (UU23.out.1 k_ e_))); have n4_ := Qa.mk (ho); clear BK101; clear BK106; clear HB; clear HH23; clear HO_3; clear UU23; clear HL108_0; have BK101 := n0_; have BK106 := n1_; have HB := n2_; have HH23 := n3_; have HO111 := n4_; clear n0_ n1_ n2_ n3_ n4_; clear ho hb hg hat; have p21 : 0 ≤ ((rd ((Qh l0_1 x16_1).f1) x24_2) : Int) := of_decide_eq_true (by assumption); have q21 : ((rd ((Qh l0_1 x16_1).f1) x24_2) : Int) < ((x3_2.length : Int) : Int) := of_decide_eq_true (by assumption); replace p21 := eq_true p21; replace q21 := eq_true q21; obtain ⟨Ao27, co27, eo27⟩ := Kd.R_slice HO111.out; subst eo27; obtain ⟨_, _, hraw25, _, _, hcc25, _⟩ := Kd.H_raw HH23.out (of_decide_eq_true (by assumption)) (by have h_ : ((rd ((Qh l0_1 x16_1).f1) x24_2) : Int) < ((x3_2.length : Int) : Int) := of_decide_eq_true (by assumption); first | exact h_ | (have e_ := (HN23.out); omega) | simpa using h_); obtain ⟨_, hfr25⟩ := Kd.H_at HH23.out (of_decide_eq_true (by assumption)) (by have h_ : ((rd ((Qh l0_1 x16_1).f1) x24_2) : Int) < ((x3_2.length : Int) : Int) := of_decide_eq_true (by assumption); first | exact h_ | (have e_ := (HN23.out); omega) | simpa using h_); have hx25_0 := hcc25 0 _ rfl; have hf25_0 := hfr25 0; (try simp only [Nat.add_zero] at hx25_0 hf25_0); (try rw [show ((Kd.slice 3 (Kd.int .i64))).sz = 1 from rfl, Nat.mul_one] at hx25_0); (try rw [show ((Kd.slice 3 (Kd.int .i64))).sz = 1 from rfl, Nat.mul_one] at hf25_0); have HP25 := Kd.S_seg0 HH23.out (of_decide_eq_true (by assumption)) (by have h_ : ((rd ((Qh l0_1 x16_1).f1) x24_2) : Int) < ((x3_2.length : Int) : Int) := of_decide_eq_true (by assumption); first | exact h_ | (have e_ := (HN23.out); omega) | simpa using h_) (seg := [.slice Ao27 y109.length co27]) (j := 0) (show 1 ≤ 1 from by decide) (x' := y109) (Kd.M_row HO111.out) (fun _ hk => hk); (try simp only [show ((Kd.slice 3 (Kd.int .i64))).sz = 1 from rfl, Nat.mul_one, Nat.add_zero] at HP25); clear hcc25 hfr25) | ((with_reducible refine gate_store (t := 51) (p := 37) rfl ?_); refine store_event (t := 51) (p := 37) (v := ?vo_w26) (w1 := (w24.setCell ⟨go23, ((rd ((Qh l0_1 x16_1).f1) x24_2) : Int).toNat, none⟩ (.slice Ao27 y109.length co27))) ?hg ?ho ?hn ?hr ?_; (case ho => rfl); (case hg => rfl); (case hn => rfl); (case hr => first | (go_simp; done) | (go_simp; rfl)); intro w26 hw; have hg : w24.grownBy w26 (some go23) := (by rw [hw]; exact HP25.2); have hp_ : Kd.S (Kd.slice 3 (Kd.int .i64)) 51 w26 w.heap.size (fun _ => True) (.slice (some ⟨go23, 0, none⟩) x3_2.length co22) y112 := (by rw [hw, Ny112.out]; exact HP25.1); clear HP25; have n0_ := Qa.mk (blk_grown (g := gb101) (o := .cells #[.slice A0_0 l0_0.length c0_0, .slice (some ad105) l0_1.length c0_1] 25 (0, 0)) (by (with_reducible repeat (first | refine Qd ?_ _ | refine Qb ?_ | refine Qc ?_ _)); exact BK101.out) hg (Kd.R_ne hraw25 BK101.out (by decide))); have n1_ := Qa.mk (blk_grown (g := gb106) (o := .cells #[.int .i64 ((Qh l0_1 x16_1).f0), .slice (some ad107) ((Qh l0_1 x16_1).f1).length c105_1, .int .i64 ((Qh l0_1 x16_1).f2), .int .u64 ((Qh l0_1 x16_1).f3.f0), .int .u64 ((Qh l0_1 x16_1).f3.f1), .int .u64 ((Qh l0_1 x16_1).f3.f2), .int .u64 ((Qh l0_1 x16_1).f3.f3)] 53 (0, 0)) (by (with_reducible repeat (first | refine Qd ?_ _ | refine Qb ?_ | refine Qc ?_ _)); exact BK106.out) hg (Kd.R_ne hraw25 BK106.out (by decide))); have n2_ := Qa.mk ((by rw [hw]; exact Qi HB.out GB23.out : Below w.heap.size w w26)); have n3_ := Qa.mk (hp_); clear BK101; clear BK106; clear HB; clear HO111; clear HH23; have BK101 := n0_; have BK106 := n1_; have HB := n2_; have HO_3 := n3_; clear n0_ n1_ n2_ n3_; clear hg hw hp_ hraw25))
      go_roundg k2
      case measure => have := HK1.out; have := HK2.out; omega
      case rel => exact ⟨(y112), (wrap64 (x24_2 + 1)), (by first | rfl | (simp; done) | (simp [*]; done)), H', ⟨by have := HK1.out; have := HK2.out; omega⟩, ⟨by (with_reducible repeat (first | apply Kd.S_alloc | apply Kd.S_drewN | apply Kd.S_drew)); exact HO_3.out⟩, ⟨by (with_reducible repeat (first | refine Qd ?_ _ | refine Qb ?_ | refine Qc ?_ _)); exact BK101.out⟩, ⟨by (with_reducible repeat (first | refine Qd ?_ _ | refine Qb ?_ | refine Qc ?_ _)); exact BK106.out⟩, ⟨by with_reducible repeat (first | exact HB.out | apply Qk | apply Ql | apply Qj | refine Qi ?_ GE101.out | refine Qi ?_ GE106.out)⟩⟩
     rw [if_neg c15] at H
     have c15b0 : decide (x24_2 < (((Qh l0_1 x16_1).f1).length : Int)) = false := decide_eq_false c15
     clear c15
     by_cases c28 : ((Qh l0_1 x16_1).f0) = 2
     rotate_left
     ·
      rw [if_neg c28] at H
      have c28b0 : (((Qh l0_1 x16_1).f0) == 2) = false := beq_eq_false_iff_ne.mpr c28
      have c28b1 : (((Qh l0_1 x16_1).f0) != 2) = true := bne_iff_ne.mpr c28
      have H' := Qa.mk H
      clear H
      have hnb44 := NB106_101.out
      have hnc44 := NB101_106.out
      have hcz45_0 : wr.cell? ⟨gb106, 0, none⟩ = some (.int .i64 ((Qh l0_1 x16_1).f0)) := (Qe BK106.out 0).trans rfl
      have hcz45_1 : wr.cell? ⟨gb106, 1, none⟩ = some (.slice A105_1 ((Qh l0_1 x16_1).f1).length c105_1) := (Qe BK106.out 1).trans rfl
      have hcz45_2 : wr.cell? ⟨gb106, 2, none⟩ = some (.int .i64 ((Qh l0_1 x16_1).f2)) := (Qe BK106.out 2).trans rfl
      have hcz45_3 : wr.cell? ⟨gb106, 3, none⟩ = some (.int .u64 ((Qh l0_1 x16_1).f3.f0)) := (Qe BK106.out 3).trans rfl
      have hcz45_4 : wr.cell? ⟨gb106, 4, none⟩ = some (.int .u64 ((Qh l0_1 x16_1).f3.f1)) := (Qe BK106.out 4).trans rfl
      have hcz45_5 : wr.cell? ⟨gb106, 5, none⟩ = some (.int .u64 ((Qh l0_1 x16_1).f3.f2)) := (Qe BK106.out 5).trans rfl
      have hcz45_6 : wr.cell? ⟨gb106, 6, none⟩ = some (.int .u64 ((Qh l0_1 x16_1).f3.f3)) := (Qe BK106.out 6).trans rfl
      have hfz45_0 := Qf BK106.out 0
      have hfz45_1 := Qf BK106.out 1
      have hfz45_2 := Qf BK106.out 2
      have hfz45_3 := Qf BK106.out 3
      have hfz45_4 := Qf BK106.out 4
      have hfz45_5 := Qf BK106.out 5
      have hfz45_6 := Qf BK106.out 6
      go_wp2
      go_roundg k2
      case measure => have := HK1.out; have := HK2.out; omega
      case rel => exact ⟨(x3_2), (wrap64 (x16_1 + 1)), (by first | rfl | (simp; done) | (simp [*]; done)), H', ⟨by have := HK1.out; have := HK2.out; omega⟩, ⟨by (with_reducible repeat (first | apply Kd.S_alloc | apply Kd.S_drewN | apply Kd.S_drew)); exact HO_3.out⟩, ⟨by (with_reducible repeat (first | refine Qd ?_ _ | refine Qb ?_ | refine Qc ?_ _)); exact BK101.out⟩, ⟨by with_reducible repeat (first | exact HB.out | apply Qk | apply Ql | apply Qj | refine Qi ?_ GE101.out | refine Qi ?_ GE106.out)⟩⟩
     rw [if_pos c28] at H
     have c28b0 : (((Qh l0_1 x16_1).f0) == 2) = true := beq_iff_eq.mpr c28
     have c28b1 : (((Qh l0_1 x16_1).f0) != 2) = false := bne_eq_false_iff_eq.mpr c28
     clear c28
     by_cases c29 : 0 ≤ ((Qh l0_1 x16_1).f2)
     rotate_left
     ·
      rw [if_neg c29] at H
      exact absurd H (by simp)
     rw [if_pos c29] at H
     have c29b0 : decide (0 ≤ ((Qh l0_1 x16_1).f2)) = true := decide_eq_true c29
     clear c29
     by_cases c30 : ((Qh l0_1 x16_1).f2) < (l0_0.length : Int)
     rotate_left
     ·
      rw [if_neg c30] at H
      exact absurd H (by simp)
     rw [if_pos c30] at H
     have c30b0 : decide (((Qh l0_1 x16_1).f2) < (l0_0.length : Int)) = true := decide_eq_true c30
     clear c30
     by_cases c31 : 0 ≤ ((Qa1 l0_0 ((Qh l0_1 x16_1).f2)).f1)
     rotate_left
     ·
      rw [if_neg c31] at H
      exact absurd H (by simp)
     rw [if_pos c31] at H
     have c31b0 : decide (0 ≤ ((Qa1 l0_0 ((Qh l0_1 x16_1).f2)).f1)) = true := decide_eq_true c31
     clear c31
     by_cases c32 : ((Qa1 l0_0 ((Qh l0_1 x16_1).f2)).f1) < (x3_2.length : Int)
     rotate_left
     ·
      rw [if_neg c32] at H
      exact absurd H (by simp)
     rw [if_pos c32] at H
     have c32b0 : decide (((Qa1 l0_0 ((Qh l0_1 x16_1).f2)).f1) < (x3_2.length : Int)) = true := decide_eq_true c32
     clear c32
     by_cases c33 : (rd_L1 x3_2 ((Qa1 l0_0 ((Qh l0_1 x16_1).f2)).f1)).length < 17592186044416
     rotate_left
     ·
      rw [if_neg c33] at H
      exact absurd H (by simp)
     rw [if_pos c33] at H
     have LMc33 := Qa.mk c33
     clear c33
     obtain ⟨y115, hy115⟩ : ∃ y_ : List Int, y_ = ((rd_L1 x3_2 ((Qa1 l0_0 ((Qh l0_1 x16_1).f2)).f1)) ++ [x16_1]) := ⟨_, rfl⟩
     replace H : (flow_users.l0 k2 (x3_2.set (((Qa1 l0_0 ((Qh l0_1 x16_1).f2)).f1) : Int).toNat y115) l0_1 (l0_1.length : Int) (wrap64 (x16_1 + 1)) l0_0 l0_1) = some r := by first | (rw [hy115]; with_reducible exact H) | (have H2_ := (Option.bind_some _ _).symm.trans H; rw [hy115]; with_reducible exact H2_) | (have H2_ := (Option.bind_some _ _).symm.trans H; with_reducible exact H2_) | with_reducible exact H | (rw [hy115]; exact H) | exact H
     have Ny115 := Qa.mk hy115
     clear hy115
     obtain ⟨y118, hy118⟩ : ∃ y_ : List (List Int), y_ = (x3_2.set (((Qa1 l0_0 ((Qh l0_1 x16_1).f2)).f1) : Int).toNat y115) := ⟨_, rfl⟩
     replace H : (flow_users.l0 k2 y118 l0_1 (l0_1.length : Int) (wrap64 (x16_1 + 1)) l0_0 l0_1) = some r := by first | (rw [hy118]; with_reducible exact H) | (have H2_ := (Option.bind_some _ _).symm.trans H; rw [hy118]; with_reducible exact H2_) | (have H2_ := (Option.bind_some _ _).symm.trans H; with_reducible exact H2_) | with_reducible exact H | (rw [hy118]; exact H) | exact H
     have Ny118 := Qa.mk hy118
     clear hy118
     have H' := Qa.mk H
     clear H
     have hnb35 := NB106_101.out
     have hnc35 := NB101_106.out
     have hcz36_0 : wr.cell? ⟨gb106, 0, none⟩ = some (.int .i64 ((Qh l0_1 x16_1).f0)) := (Qe BK106.out 0).trans rfl
     have hcz36_1 : wr.cell? ⟨gb106, 1, none⟩ = some (.slice A105_1 ((Qh l0_1 x16_1).f1).length c105_1) := (Qe BK106.out 1).trans rfl
     have hcz36_2 : wr.cell? ⟨gb106, 2, none⟩ = some (.int .i64 ((Qh l0_1 x16_1).f2)) := (Qe BK106.out 2).trans rfl
     have hcz36_3 : wr.cell? ⟨gb106, 3, none⟩ = some (.int .u64 ((Qh l0_1 x16_1).f3.f0)) := (Qe BK106.out 3).trans rfl
     have hcz36_4 : wr.cell? ⟨gb106, 4, none⟩ = some (.int .u64 ((Qh l0_1 x16_1).f3.f1)) := (Qe BK106.out 4).trans rfl
     have hcz36_5 : wr.cell? ⟨gb106, 5, none⟩ = some (.int .u64 ((Qh l0_1 x16_1).f3.f2)) := (Qe BK106.out 5).trans rfl
     have hcz36_6 : wr.cell? ⟨gb106, 6, none⟩ = some (.int .u64 ((Qh l0_1 x16_1).f3.f3)) := (Qe BK106.out 6).trans rfl
     have hfz36_0 := Qf BK106.out 0
     have hfz36_1 := Qf BK106.out 1
     have hfz36_2 := Qf BK106.out 2
     have hfz36_3 := Qf BK106.out 3
     have hfz36_4 := Qf BK106.out 4
     have hfz36_5 := Qf BK106.out 5
     have hfz36_6 := Qf BK106.out 6
     have hcz37_0 : wr.cell? ⟨gb101, 0, none⟩ = some (.slice A0_0 l0_0.length c0_0) := (Qe BK101.out 0).trans rfl
     have hcz37_1 : wr.cell? ⟨gb101, 1, none⟩ = some (.slice (some ad105) l0_1.length c0_1) := (Qe BK101.out 1).trans rfl
     have hfz37_0 := Qf BK101.out 0
     have hfz37_1 := Qf BK101.out 1
     have p113 : 0 ≤ (((Qh l0_1 x16_1).f2) : Int) := of_decide_eq_true (by assumption)
     have q113 : ((Qh l0_1 x16_1).f2) < (l0_0.length : Int) := of_decide_eq_true (by assumption)
     obtain ⟨ad113, e113, hx113_0, hx113_1⟩ := at_T39 HR0_0.out ((Qh l0_1 x16_1).f2) p113 q113
     cases e113
     replace hx113_0 := (HB.out.cell (World.block_lt_of_cell? w _ hx113_0)).trans hx113_0
     replace hx113_1 := (HB.out.cell (World.block_lt_of_cell? w _ hx113_1)).trans hx113_1
     replace p113 := eq_true p113
     replace q113 := eq_true q113
     obtain ⟨Ao38, co38, eo38⟩ := Kd.S_slice HO_3.out
     subst eo38
     have p114 : 0 ≤ (((Qa1 l0_0 ((Qh l0_1 x16_1).f2)).f1) : Int) := of_decide_eq_true (by assumption)
     have q114 : ((Qa1 l0_0 ((Qh l0_1 x16_1).f2)).f1) < (x3_2.length : Int) := of_decide_eq_true (by assumption)
     obtain ⟨ad114, A114_0, c114_0, e114, hx114_0, hl114_0, hi114_0⟩ := at_L1 (Kd.S_reads' HO_3.out).2.2 ((Qa1 l0_0 ((Qh l0_1 x16_1).f2)).f1) p114 q114
     cases e114
     obtain ⟨ce114, hce114, hMe114, hcc114⟩ := Kd.S_get HO_3.out [] ((Qa1 l0_0 ((Qh l0_1 x16_1).f2)).f1) p114 (by first | exact q114 | exact of_decide_eq_true (by assumption) | (have e_ := (Kd.S_reads' HO_3.out).1; omega))
     obtain ⟨ve114_0, rfl, ge114_0⟩ := hMe114
     have hv114_0 := hcc114 0 _ rfl
     rw [Nat.add_zero, show ((Kd.slice 3 (Kd.int .i64))).sz = 1 from rfl, Nat.mul_one] at hv114_0
     replace hv114_0 := Option.some.inj (hv114_0.symm.trans hx114_0)
     rw [hv114_0] at ge114_0
     have HL114_0 := Qa.mk (show Kd.R (Kd.int .i64) 3 _ _ _ _ (rd_L1 x3_2 ((Qa1 l0_0 ((Qh l0_1 x16_1).f2)).f1)) from ge114_0)
     clear hv114_0 ge114_0
     have HX114_0 := Qa.mk hx114_0
     clear hcc114 hce114
     have HR114_0 := Qa.mk hi114_0
     have HC114_0 := Qa.mk hl114_0
     clear hi114_0 hl114_0
     replace p114 := eq_true p114
     replace q114 := eq_true q114
     obtain ⟨go39, co39, eo39, gb39, gl39, cl39, HG39⟩ := Kd.S_form HO_3.out (by have h_ : (((Qa1 l0_0 ((Qh l0_1 x16_1).f2)).f1) : Int) < ((x3_2.length : Int) : Int) := of_decide_eq_true (by assumption); have h2_ : 0 ≤ (((Qa1 l0_0 ((Qh l0_1 x16_1).f2)).f1) : Int) := (of_decide_eq_true (by assumption)); omega)
     (first | cases eo39 | (injection eo39 with ea_ en_ ec_; (first | subst ea_ | (injection ea_ with ea_; subst ea_)); subst ec_; clear en_))
     have GB39 := Qa.mk gb39
     have GG39 := Qa.mk HG39
     clear gb39 gl39 HG39
     (first | simp only [add_plain] at hx114_0 | skip)
     obtain ⟨oki39, ce39, hcl39, hM39, hcc39, _, _, hH39⟩ := Kd.S_elem HO_3.out [] (((Qa1 l0_0 ((Qh l0_1 x16_1).f2)).f1) : Int) (of_decide_eq_true (by assumption)) (by have h_ : (((Qa1 l0_0 ((Qh l0_1 x16_1).f2)).f1) : Int) < ((x3_2.length : Int) : Int) := of_decide_eq_true (by assumption); first | exact h_ | (have e_ := (Kd.S_reads' HO_3.out).1; omega) | simpa using h_)
     obtain ⟨ve39_0, rfl, ge39_0⟩ := hM39
     have hv39 := hcc39 0 _ rfl
     have hX39 := HX114_0.out
     (try simp only [add_plain] at hX39)
     (try simp only [Nat.add_zero] at hv39)
     (try rw [show ((Kd.slice 3 (Kd.int .i64))).sz = 1 from rfl, Nat.mul_one] at hv39)
     replace hv39 := Option.some.inj (hv39.symm.trans hX39)
     subst hv39
     clear hX39 hcc39 hcl39
     have UU39 := Qa.mk (show Kd.R (Kd.int .i64) 3 _ w.heap.size oki39 (.slice A114_0 (rd_L1 x3_2 ((Qa1 l0_0 ((Qh l0_1 x16_1).f2)).f1)).length c114_0) (rd_L1 x3_2 ((Qa1 l0_0 ((Qh l0_1 x16_1).f2)).f1)) from ge39_0)
     have HH39 := Qa.mk hH39
     have HN39 := Qa.mk (Kd.S_reads' HO_3.out).1
     clear hH39 ge39_0
     go_wp2_with (first | ((with_reducible refine gate_builtin (b := .append) (xs := #[.tmp 54, .tmp 56]) rfl ?_); at_builtin; refine Kd.R_append (Kd.int .i64) (w0 := w) w.heap.size rfl (.tmp 54) (.tmp 56) 51 3 (.int .i64 0) 8 rfl Try.underlying51 info3 rfl (by decide) (by omega) (.slice A114_0 (rd_L1 x3_2 ((Qa1 l0_0 ((Qh l0_1 x16_1).f2)).f1)).length c114_0) (rd_L1 x3_2 ((Qa1 l0_0 ((Qh l0_1 x16_1).f2)).f1)) x16_1 [.int .i64 x16_1] (fun k_ => oki39 k_ ∨ ((fun _ => True)) k_ ∧ wr.heap.size ≤ k_) (fun _ => False) rfl rfl ?aP (fun _ hk => hk.elim) ?aF ?aO ?aB ?aS ?aL ?_; (case aP => exact rfl); (case aB => exact (by with_reducible repeat (first | exact HB.out | apply Qk | apply Ql | apply Qj | refine Qi ?_ GE101.out | refine Qi ?_ GE106.out))); (case aF => exact (fun k_ hk => .inr ⟨trivial, hk⟩)); (case aO => exact (by (with_reducible repeat (first | apply Kd.Qq | apply Kd.Qr | apply Kd.Qo)); exact Kd.R_mono UU39.out (fun _ hk => .inl hk))); (case aS => exact (Qb1 (by with_reducible repeat (first | exact HB.out | apply Qk | apply Ql | apply Qj | refine Qi ?_ GE101.out | refine Qi ?_ GE106.out)))); (case aL => have := LMc33.out; omega); intro v116 w40 ho hb hg hat; rw [← Ny115.out] at ho; have n0_ := Qa.mk (blk_grown (g := gb101) (o := .cells #[.slice (some ad113) l0_0.length c0_0, .slice (some ad105) l0_1.length c0_1] 25 (0, 0)) (by (with_reducible repeat (first | refine Qd ?_ _ | refine Qb ?_ | refine Qc ?_ _)); exact BK101.out) hg (Kd.R_ne HL114_0.out BK101.out (by decide))); have n1_ := Qa.mk (blk_grown (g := gb106) (o := .cells #[.int .i64 ((Qh l0_1 x16_1).f0), .slice A105_1 ((Qh l0_1 x16_1).f1).length c105_1, .int .i64 ((Qh l0_1 x16_1).f2), .int .u64 ((Qh l0_1 x16_1).f3.f0), .int .u64 ((Qh l0_1 x16_1).f3.f1), .int .u64 ((Qh l0_1 x16_1).f3.f2), .int .u64 ((Qh l0_1 x16_1).f3.f3)] 53 (0, 0)) (by (with_reducible repeat (first | refine Qd ?_ _ | refine Qb ?_ | refine Qc ?_ _)); exact BK106.out) hg (Kd.R_ne HL114_0.out BK106.out (by decide))); have n2_ := Qa.mk (hb); have n3_ := Qa.mk (Kd.H_grown (Kd.H_widen (by repeat (first | exact HH39.out | refine Kd.H_alloc ?_ _ | refine Kd.H_drewN ?_ _ | refine Kd.H_drew ?_))) hg (fun k_ e_ => .inl (UU39.out.1 k_ e_))); have n4_ := Qa.mk (ho); clear BK101; clear BK106; clear HB; clear HH39; clear HO_3; clear UU39; clear HL114_0; have BK101 := n0_; have BK106 := n1_; have HB := n2_; have HH39 := n3_; have HO117 := n4_; clear n0_ n1_ n2_ n3_ n4_; clear ho hb hg hat; have p34 : 0 ≤ (((Qa1 l0_0 ((Qh l0_1 x16_1).f2)).f1) : Int) := of_decide_eq_true (by assumption); have q34 : (((Qa1 l0_0 ((Qh l0_1 x16_1).f2)).f1) : Int) < ((x3_2.length : Int) : Int) := of_decide_eq_true (by assumption); replace p34 := eq_true p34; replace q34 := eq_true q34; obtain ⟨Ao43, co43, eo43⟩ := Kd.R_slice HO117.out; subst eo43; obtain ⟨_, _, hraw41, _, _, hcc41, _⟩ := Kd.H_raw HH39.out (of_decide_eq_true (by assumption)) (by have h_ : (((Qa1 l0_0 ((Qh l0_1 x16_1).f2)).f1) : Int) < ((x3_2.length : Int) : Int) := of_decide_eq_true (by assumption); first | exact h_ | (have e_ := (HN39.out); omega) | simpa using h_); obtain ⟨_, hfr41⟩ := Kd.H_at HH39.out (of_decide_eq_true (by assumption)) (by have h_ : (((Qa1 l0_0 ((Qh l0_1 x16_1).f2)).f1) : Int) < ((x3_2.length : Int) : Int) := of_decide_eq_true (by assumption); first | exact h_ | (have e_ := (HN39.out); omega) | simpa using h_); have hx41_0 := hcc41 0 _ rfl; have hf41_0 := hfr41 0; (try simp only [Nat.add_zero] at hx41_0 hf41_0); (try rw [show ((Kd.slice 3 (Kd.int .i64))).sz = 1 from rfl, Nat.mul_one] at hx41_0); (try rw [show ((Kd.slice 3 (Kd.int .i64))).sz = 1 from rfl, Nat.mul_one] at hf41_0); have HP41 := Kd.S_seg0 HH39.out (of_decide_eq_true (by assumption)) (by have h_ : (((Qa1 l0_0 ((Qh l0_1 x16_1).f2)).f1) : Int) < ((x3_2.length : Int) : Int) := of_decide_eq_true (by assumption); first | exact h_ | (have e_ := (HN39.out); omega) | simpa using h_) (seg := [.slice Ao43 y115.length co43]) (j := 0) (show 1 ≤ 1 from by decide) (x' := y115) (Kd.M_row HO117.out) (fun _ hk => hk); (try simp only [show ((Kd.slice 3 (Kd.int .i64))).sz = 1 from rfl, Nat.mul_one, Nat.add_zero] at HP41); clear hcc41 hfr41) | ((with_reducible refine gate_store (t := 51) (p := 58) rfl ?_); refine store_event (t := 51) (p := 58) (v := ?vo_w42) (w1 := (w40.setCell ⟨go39, (((Qa1 l0_0 ((Qh l0_1 x16_1).f2)).f1) : Int).toNat, none⟩ (.slice Ao43 y115.length co43))) ?hg ?ho ?hn ?hr ?_; (case ho => rfl); (case hg => rfl); (case hn => rfl); (case hr => first | (go_simp; done) | (go_simp; rfl)); intro w42 hw; have hg : w40.grownBy w42 (some go39) := (by rw [hw]; exact HP41.2); have hp_ : Kd.S (Kd.slice 3 (Kd.int .i64)) 51 w42 w.heap.size (fun _ => True) (.slice (some ⟨go39, 0, none⟩) x3_2.length co38) y118 := (by rw [hw, Ny118.out]; exact HP41.1); clear HP41; have n0_ := Qa.mk (blk_grown (g := gb101) (o := .cells #[.slice (some ad113) l0_0.length c0_0, .slice (some ad105) l0_1.length c0_1] 25 (0, 0)) (by (with_reducible repeat (first | refine Qd ?_ _ | refine Qb ?_ | refine Qc ?_ _)); exact BK101.out) hg (Kd.R_ne hraw41 BK101.out (by decide))); have n1_ := Qa.mk (blk_grown (g := gb106) (o := .cells #[.int .i64 ((Qh l0_1 x16_1).f0), .slice A105_1 ((Qh l0_1 x16_1).f1).length c105_1, .int .i64 ((Qh l0_1 x16_1).f2), .int .u64 ((Qh l0_1 x16_1).f3.f0), .int .u64 ((Qh l0_1 x16_1).f3.f1), .int .u64 ((Qh l0_1 x16_1).f3.f2), .int .u64 ((Qh l0_1 x16_1).f3.f3)] 53 (0, 0)) (by (with_reducible repeat (first | refine Qd ?_ _ | refine Qb ?_ | refine Qc ?_ _)); exact BK106.out) hg (Kd.R_ne hraw41 BK106.out (by decide))); have n2_ := Qa.mk ((by rw [hw]; exact Qi HB.out GB39.out : Below w.heap.size w w42)); have n3_ := Qa.mk (hp_); clear BK101; clear BK106; clear HB; clear HO117; clear HH39; have BK101 := n0_; have BK106 := n1_; have HB := n2_; have HO_3 := n3_; clear n0_ n1_ n2_ n3_; clear hg hw hp_ hraw41))
     go_roundg k2
     case measure => have := HK1.out; have := HK2.out; omega
     case rel => exact ⟨(y118), (wrap64 (x16_1 + 1)), (by first | rfl | (simp; done) | (simp [*]; done)), H', ⟨by have := HK1.out; have := HK2.out; omega⟩, ⟨by (with_reducible repeat (first | apply Kd.S_alloc | apply Kd.S_drewN | apply Kd.S_drew)); exact HO_3.out⟩, ⟨by (with_reducible repeat (first | refine Qd ?_ _ | refine Qb ?_ | refine Qc ?_ _)); exact BK101.out⟩, ⟨by with_reducible repeat (first | exact HB.out | apply Qk | apply Ql | apply Qj | refine Qi ?_ GE101.out | refine Qi ?_ GE106.out)⟩⟩
def IsS59 (w0 W : World) (g : Nat) (f0 : List Int) (f1 : List Bool) : Prop := ∃ A0 c0, ∃ A1 c1, W.heap[g]? = some (.cells #[.slice A0 f0.length c0, .slice A1 f1.length c1] 59 (0, 0)) ∧ w0.heap.size ≤ g ∧ Kd.C (Kd.int .i64) w0 A0 f0.length f0 ∧ Kd.C Kd.bool w0 A1 f1.length f1
theorem IsS59.grown {w0 W : World} {g : Nat} {f0 : List Int} {f1 : List Bool} {W1 : World} {row : Option Nat} (h : IsS59 w0 W g f0 f1) (hw : W.grownBy W1 row) (hne : some g ≠ row) : IsS59 w0 W1 g f0 f1 := by
 obtain ⟨A0, c0, A1, c1, hb, hg, hr0, hr1⟩ := h
 exact ⟨A0, c0, A1, c1, blk_grown hb hw hne, hg, hr0, hr1⟩
theorem IsS59.kept {w0 W : World} {g : Nat} {f0 : List Int} {f1 : List Bool} {W1 : World} {S : Nat → Prop} (h : IsS59 w0 W g f0 f1) (hk : Kept W W1 S) (hne : ¬ S g) : IsS59 w0 W1 g f0 f1 := by
 obtain ⟨A0, c0, A1, c1, hb, hg, hr0, hr1⟩ := h
 exact ⟨A0, c0, A1, c1, blk_kept hb hk hne, hg, hr0, hr1⟩
theorem IsS59.below {w0 W : World} {g : Nat} {f0 : List Int} {f1 : List Bool} {W1 : World} (h : IsS59 w0 W g f0 f1) (hw : Below W.heap.size W W1) : IsS59 w0 W1 g f0 f1 := h.grown (grown_of_below hw none) (by simp)
theorem IsS59.alloc {w0 W : World} {g : Nat} {f0 : List Int} {f1 : List Bool} (h : IsS59 w0 W g f0 f1) (o : Obj) : IsS59 w0 (W.alloc o) g f0 f1 := h.below (Qk (Below.refl _ _) o)
theorem IsS59.drewN {w0 W : World} {g : Nat} {f0 : List Int} {f1 : List Bool} (h : IsS59 w0 W g f0 f1) (m : Nat) : IsS59 w0 (W.drewN m) g f0 f1 := h
theorem IsS59.drew {w0 W : World} {g : Nat} {f0 : List Int} {f1 : List Bool} (h : IsS59 w0 W g f0 f1) : IsS59 w0 W.drew g f0 f1 := h
theorem IsS59.at_ {w0 W : World} {g : Nat} {f0 : List Int} {f1 : List Bool} {w' : World} {m : Nat} (hq : W.drewN m = w') (h : IsS59 w0 W g f0 f1) : IsS59 w0 w' g f0 f1 := by subst hq; exact IsS59.drewN h m
theorem IsS59.apart {w0 W : World} {g : Nat} {f0 : List Int} {f1 : List Bool} {α : Type} {d : Kd α} {e : Nat} {base : Nat} {ok : Nat → Prop} {v : Value} {xs : List α} (h : IsS59 w0 W g f0 f1) (ho : d.R e W base ok v xs) (ht : ∀ q, q ∈ e :: d.E → q ≠ 59) : d.R e W base (fun k => ok k ∧ k ≠ g) v xs := by
 obtain ⟨A0, c0, A1, c1, hb, hg, hr0, hr1⟩ := h
 exact Kd.R_types ho hb ht
theorem IsS59.own_ne {w0 W : World} {g : Nat} {f0 : List Int} {f1 : List Bool} {α : Type} {d : Kd α} {e : Nat} {base : Nat} {ok : Nat → Prop} {v : Value} {xs : List α} (h : IsS59 w0 W g f0 f1) (ho : d.R e W base ok v xs) (ht : e ≠ 59) : some g ≠ v.ownBlock := by
 obtain ⟨A0, c0, A1, c1, hb, hg, hr0, hr1⟩ := h
 exact Kd.R_ne ho hb ht
theorem IsS59.far {w0 W : World} {g : Nat} {f0 : List Int} {f1 : List Bool} {p : Addr} (h : IsS59 w0 W g f0 f1) (hne : g ≠ p.block) (u : Value) : IsS59 w0 (W.setCell p u) g f0 f1 := by
 obtain ⟨A0, c0, A1, c1, hb, hg, hr0, hr1⟩ := h
 exact ⟨A0, c0, A1, c1, Qn hb hne u, hg, hr0, hr1⟩
def flow_Facts_ok.f (a0_0 : Bool) (a0_1 : Bool) (a0_2 : Bool) : Option (Bool) := if a0_0 = true then (some true) else (some a0_1)
set_option maxHeartbeats 8000000 in
set_option maxRecDepth 100000 in
theorem flow_Facts_ok.calls (a0_0 : Bool) (a0_1 : Bool) (a0_2 : Bool) (r : Bool) (w : World) (h : flow_Facts_ok.f a0_0 a0_1 a0_2 = some r) :
 Calls Try.prog 40 #[.agg #[.bool a0_0, .bool a0_1, .bool a0_2]] w fun e w' => e = .returned (.bool r) ∧ Below w.heap.size w w' := by
 have hu36 := Try.underlying36
 have HB := Qa.mk (Below.refl w.heap.size w)
 have H : (if a0_0 = true then (some true) else (some a0_1)) = some r := h
 clear h
 by_cases c2 : a0_0 = true
 ·
  subst c2
  have H1 : (some true) = some r := by rw [if_pos rfl] at H; exact H
  clear H
  have H := H1
  clear H1
  obtain rfl := Option.some.inj H
  go_enter Try.func40, Try.ntmps40
  go_wp2_with (first | ((with_reducible refine Qg1 (N := 1) rfl ?_); refine Qh1 ?hg (N := 1) ?hd (cs := #[.bool true, .bool a0_1, .bool a0_2]) (t := 36) ?hr ?_; (case hd => rfl); (case hg => rfl); (case hr => first | (go_simp; done) | (go_simp; rfl)); intro gb120 hg w3 hbox hb; have n0_ := Qa.mk (Qv (by with_reducible repeat (first | exact HB.out | apply Qk | apply Ql | apply Qj)) hb); have n1_ := Qa.mk (hbox); have n2_ := Qa.mk ((by rw [hg]; exact (Qb1 (by with_reducible repeat (first | exact HB.out | apply Qk | apply Ql | apply Qj))) : w.heap.size ≤ gb120)); have n3_ := n2_; clear HB; have HB := n0_; have BK120 := n1_; have GW120 := n2_; have GE120 := n3_; clear n0_ n1_ n2_ n3_; clear hb hbox hg; have hcz4_0 : w3.cell? ⟨gb120, 0, none⟩ = some (.bool true) := (Qe BK120.out 0).trans rfl; have hcz4_1 : w3.cell? ⟨gb120, 1, none⟩ = some (.bool a0_1) := (Qe BK120.out 1).trans rfl; have hcz4_2 : w3.cell? ⟨gb120, 2, none⟩ = some (.bool a0_2) := (Qe BK120.out 2).trans rfl; have hfz4_0 := Qf BK120.out 0; have hfz4_1 := Qf BK120.out 1; have hfz4_2 := Qf BK120.out 2))
  go_ret
  exact ⟨by first | rfl | (simp [Qw, Qx] <;> rfl) | (simp [*, Qw, Qx] <;> rfl), by with_reducible repeat (first | exact HB.out | apply Qk | apply Ql | apply Qj | refine Qi ?_ GE120.out)⟩
 replace c2 := Bool.eq_false_iff.mpr c2
 subst c2
 have H1 : (some a0_1) = some r := by rw [if_neg (show ¬ (false = true) by decide)] at H; exact H
 clear H
 have H := H1
 clear H1
 obtain rfl := Option.some.inj H
 go_enter Try.func40, Try.ntmps40
 go_wp2_with (first | ((with_reducible refine Qg1 (N := 1) rfl ?_); refine Qh1 ?hg (N := 1) ?hd (cs := #[.bool false, .bool a0_1, .bool a0_2]) (t := 36) ?hr ?_; (case hd => rfl); (case hg => rfl); (case hr => first | (go_simp; done) | (go_simp; rfl)); intro gb120 hg w5 hbox hb; have n0_ := Qa.mk (Qv (by with_reducible repeat (first | exact HB.out | apply Qk | apply Ql | apply Qj)) hb); have n1_ := Qa.mk (hbox); have n2_ := Qa.mk ((by rw [hg]; exact (Qb1 (by with_reducible repeat (first | exact HB.out | apply Qk | apply Ql | apply Qj))) : w.heap.size ≤ gb120)); have n3_ := n2_; clear HB; have HB := n0_; have BK120 := n1_; have GW120 := n2_; have GE120 := n3_; clear n0_ n1_ n2_ n3_; clear hb hbox hg; have hcz6_0 : w5.cell? ⟨gb120, 0, none⟩ = some (.bool false) := (Qe BK120.out 0).trans rfl; have hcz6_1 : w5.cell? ⟨gb120, 1, none⟩ = some (.bool a0_1) := (Qe BK120.out 1).trans rfl; have hcz6_2 : w5.cell? ⟨gb120, 2, none⟩ = some (.bool a0_2) := (Qe BK120.out 2).trans rfl; have hfz6_0 := Qf BK120.out 0; have hfz6_1 := Qf BK120.out 1; have hfz6_2 := Qf BK120.out 2))
 go_ret
 exact ⟨by first | rfl | (simp [Qw, Qx] <;> rfl) | (simp [*, Qw, Qx] <;> rfl), by with_reducible repeat (first | exact HB.out | apply Qk | apply Ql | apply Qj | refine Qi ?_ GE120.out)⟩
end Go.Proofs.Ytnaanamibfpbpaa.V
namespace Go.Proofs.Ytnaanamibfpbpaa.V
open Go.RowKit Go.Proofs.YtnaanamibfpbpaaW.PrintWords Go.Proofs.YtnaanamibfpbpaaW.PrintLast Go.Proofs.YtnaanamibfpbpaaW.PrintMore

attribute [local go_sem] max2_int min2_int max_two min_two max_three min_three max_four min_four tdiv_most
set_option linter.unusedVariables false
set_option linter.unusedSimpArgs false
def flow_seq.l0 : Nat → Bool → List (S36) → Int → Int → Bool → Bool → Bool → Option (Bool × Bool × Bool)
 | 0, _, _, _, _, _, _, _ => none
 | k + 1, x4, x8, x9, x10, x123000, x123001, x123002 => if x10 < x9 then (if 0 ≤ x10 then (if x10 < (x8.length : Int) then (if x123002 = true then (if x4 = true then ((flow_Facts_ok.f ((Qg x8 x10).f0) ((Qg x8 x10).f1) ((Qg x8 x10).f2)).bind fun t125 => (if x123000 = true then (if x123001 = true then (flow_seq.l0 k t125 x8 x9 (wrap64 (x10 + 1)) ((Qg x8 x10).f0) true true) else (flow_seq.l0 k t125 x8 x9 (wrap64 (x10 + 1)) ((Qg x8 x10).f0) ((Qg x8 x10).f1) true)) else (if x123001 = true then (flow_seq.l0 k t125 x8 x9 (wrap64 (x10 + 1)) false true true) else (flow_seq.l0 k t125 x8 x9 (wrap64 (x10 + 1)) false ((Qg x8 x10).f1) true)))) else (if x123000 = true then (if x123001 = true then (flow_seq.l0 k false x8 x9 (wrap64 (x10 + 1)) ((Qg x8 x10).f0) true true) else (flow_seq.l0 k false x8 x9 (wrap64 (x10 + 1)) ((Qg x8 x10).f0) ((Qg x8 x10).f1) true)) else (if x123001 = true then (flow_seq.l0 k false x8 x9 (wrap64 (x10 + 1)) false true true) else (flow_seq.l0 k false x8 x9 (wrap64 (x10 + 1)) false ((Qg x8 x10).f1) true)))) else (if x4 = true then ((flow_Facts_ok.f ((Qg x8 x10).f0) ((Qg x8 x10).f1) ((Qg x8 x10).f2)).bind fun t126 => (if x123000 = true then (if x123001 = true then (flow_seq.l0 k t126 x8 x9 (wrap64 (x10 + 1)) ((Qg x8 x10).f0) true ((Qg x8 x10).f2)) else (flow_seq.l0 k t126 x8 x9 (wrap64 (x10 + 1)) ((Qg x8 x10).f0) ((Qg x8 x10).f1) ((Qg x8 x10).f2))) else (if x123001 = true then (flow_seq.l0 k t126 x8 x9 (wrap64 (x10 + 1)) false true ((Qg x8 x10).f2)) else (flow_seq.l0 k t126 x8 x9 (wrap64 (x10 + 1)) false ((Qg x8 x10).f1) ((Qg x8 x10).f2))))) else (if x123000 = true then (if x123001 = true then (flow_seq.l0 k false x8 x9 (wrap64 (x10 + 1)) ((Qg x8 x10).f0) true false) else (flow_seq.l0 k false x8 x9 (wrap64 (x10 + 1)) ((Qg x8 x10).f0) ((Qg x8 x10).f1) false)) else (if x123001 = true then (flow_seq.l0 k false x8 x9 (wrap64 (x10 + 1)) false true false) else (flow_seq.l0 k false x8 x9 (wrap64 (x10 + 1)) false ((Qg x8 x10).f1) false))))) else (none)) else (none)) else (if x123001 = true then (some (x123000, x4, x123002)) else (some (x123000, false, x123002)))
def flow_seq.f (k : Nat) (l0 : List (S36)) : Option (Bool × Bool × Bool) := flow_seq.l0 k true l0 (l0.length : Int) 0 true false false
theorem flow_seq.mono_l : ∀ k, (∀ y0 y1 y2 y3 y4 y5 y6, LeO (flow_seq.l0 k y0 y1 y2 y3 y4 y5 y6) (flow_seq.l0 (k + 1) y0 y1 y2 y3 y4 y5 y6))
 | 0 => fun _ _ _ _ _ _ _ r h => by simp [flow_seq.l0] at h
 | k + 1 => by
  have ih0 := flow_seq.mono_l k
  intro y0 y1 y2 y3 y4 y5 y6
  unfold flow_seq.l0
  repeat' first
  | (with_reducible exact ih0 _ _ _ _ _ _ _)
  | (with_reducible exact LeO.refl _)
  | (with_reducible exact LeO.none _)
  | (with_reducible refine LeO.ite ?_ ?_)
  | (with_reducible refine LeO.bind ?_ (fun _ => ?_))
  | exact LeO.none _
  | refine LeO.ite ?_ ?_
  | refine LeO.bind ?_ (fun _ => ?_)
theorem flow_seq.mono : ∀ a0 k, LeO (flow_seq.f k a0) (flow_seq.f (k + 1) a0) := by
 intro a0 k
 have ih0 := flow_seq.mono_l k
 unfold flow_seq.f
 repeat' first
  | (with_reducible exact ih0 _ _ _ _ _ _ _)
  | (with_reducible exact LeO.refl _)
  | (with_reducible exact LeO.none _)
  | (with_reducible refine LeO.ite ?_ ?_)
  | (with_reducible refine LeO.bind ?_ (fun _ => ?_))
  | exact LeO.none _
  | refine LeO.ite ?_ ?_
  | refine LeO.bind ?_ (fun _ => ?_)
set_option maxHeartbeats 8000000 in
set_option maxRecDepth 100000 in
theorem flow_seq.calls (k : Nat) (A0 : Option Addr) (c0 : Nat) (l0 : List (S36)) (r1 : Bool) (r2 : Bool) (r3 : Bool) (w : World) (hr0 : Kd.C k36 w A0 l0.length l0) (hc0 : l0.length ≤ c0) (h : flow_seq.f k l0 = some (r1, r2, r3)) :
 Calls Try.prog 31 #[.slice A0 l0.length c0] w fun e w' => e = .returned (.agg #[.bool r1, .bool r2, .bool r3]) ∧ Below w.heap.size w w' := by
 have hu36 := Try.underlying36
 have HR0 := Qa.mk hr0
 have HC0 := Qa.mk hc0
 clear hr0 hc0
 have HB := Qa.mk (Below.refl w.heap.size w)
 have H : (flow_seq.l0 k true l0 (l0.length : Int) 0 true false false) = some (r1, r2, r3) := h
 clear h
 have H' := Qa.mk H
 clear H
 go_enter Try.func31, Try.ntmps31
 go_wp2_with (first | ((with_reducible refine Qg1 (N := 2) rfl ?_); refine Qh1 ?hg (N := 2) ?hd (cs := #[.bool false, .bool false, .bool false]) (t := 36) ?hr ?_; (case hd => rfl); (case hg => rfl); (case hr => first | (go_simp; done) | (go_simp; rfl)); intro gb121 hg w2 hbox hb; have n0_ := Qa.mk (Qv (by with_reducible repeat (first | exact HB.out | apply Qk | apply Ql | apply Qj)) hb); have n1_ := Qa.mk (hbox); have n2_ := Qa.mk ((by rw [hg]; exact (Qb1 (by with_reducible repeat (first | exact HB.out | apply Qk | apply Ql | apply Qj))) : w.heap.size ≤ gb121)); have n3_ := n2_; clear HB; have HB := n0_; have BK121 := n1_; have GW121 := n2_; have GE121 := n3_; clear n0_ n1_ n2_ n3_; clear hb hbox hg) | ((with_reducible refine Qg1 (N := 3) rfl ?_); refine Qh1 ?hg (N := 3) ?hd (cs := #[.bool false, .bool false, .bool false]) (t := 36) ?hr ?_; (case hd => rfl); (case hg => rfl); (case hr => first | (go_simp; done) | (go_simp; rfl)); intro gb122 hg w3 hbox hb; have n0_ := Qa.mk (Qs (g := gb121) (o := .cells #[.bool false, .bool false, .bool false] 36 (0, 0)) (by (with_reducible repeat (first | refine Qd ?_ _ | refine Qb ?_ | refine Qc ?_ _)); exact BK121.out) hb); have n1_ := Qa.mk (Qv (by with_reducible repeat (first | exact HB.out | apply Qk | apply Ql | apply Qj | refine Qi ?_ GE121.out)) hb); have n2_ := Qa.mk (hbox); have n3_ := Qa.mk ((by rw [hg]; exact (Qb1 (by with_reducible repeat (first | exact HB.out | apply Qk | apply Ql | apply Qj | refine Qi ?_ GE121.out))) : w.heap.size ≤ gb122)); have n4_ := n3_; have n5_ := Qa.mk ((by rw [hg]; exact Nat.ne_of_lt (Qy (g := gb121) (o := .cells #[.bool false, .bool false, .bool false] 36 (0, 0)) (by (with_reducible repeat (first | refine Qd ?_ _ | refine Qb ?_ | refine Qc ?_ _)); exact BK121.out)) : gb121 ≠ gb122)); have n6_ := Qa.mk ((by rw [hg]; exact Nat.ne_of_gt (Qy (g := gb121) (o := .cells #[.bool false, .bool false, .bool false] 36 (0, 0)) (by (with_reducible repeat (first | refine Qd ?_ _ | refine Qb ?_ | refine Qc ?_ _)); exact BK121.out)) : gb122 ≠ gb121)); clear BK121; clear HB; have BK121 := n0_; have HB := n1_; have BK122 := n2_; have GW122 := n3_; have GE122 := n4_; have NB121_122 := n5_; have NB122_121 := n6_; clear n0_ n1_ n2_ n3_ n4_ n5_ n6_; clear hb hbox hg; have hnb4 := NB122_121.out; have hnc4 := NB121_122.out; have hcz5_0 : w3.cell? ⟨gb122, 0, none⟩ = some (.bool false) := (Qe BK122.out 0).trans rfl; have hcz5_1 : w3.cell? ⟨gb122, 1, none⟩ = some (.bool false) := (Qe BK122.out 1).trans rfl; have hcz5_2 : w3.cell? ⟨gb122, 2, none⟩ = some (.bool false) := (Qe BK122.out 2).trans rfl; have hfz5_0 := Qf BK122.out 0; have hfz5_1 := Qf BK122.out 1; have hfz5_2 := Qf BK122.out 2))
 go_loopg [4, 10] k (fun kq v4 v10 w' => ∃ (x4_1 : Bool) (x10_1 : Int) (x123000_1 : Bool) (x123001_1 : Bool) (x123002_1 : Bool), v4 = .bool x4_1 ∧ v10 = .int .i64 x10_1 ∧ Qa (flow_seq.l0 kq x4_1 l0 (l0.length : Int) x10_1 x123000_1 x123001_1 x123002_1 = some (r1, r2, r3)) ∧ Qa (kq ≤ k) ∧ Qa (w'.heap[gb121]? = some (.cells #[.bool false, .bool false, .bool false] 36 (0, 0))) ∧ Qa (w'.heap[gb122]? = some (.cells #[.bool x123000_1, .bool x123001_1, .bool x123002_1] 36 (0, 0))) ∧ Qa (Below w.heap.size w w'))
 case atStart => exact ⟨(true), (0), (true), (false), (false), (by first | rfl | (simp; done) | (simp [*]; done)), (by first | rfl | (simp; done) | (simp [*]; done)), H', ⟨Nat.le_refl _⟩, ⟨by (with_reducible repeat (first | refine Qd ?_ _ | refine Qb ?_ | refine Qc ?_ _)); refine Qn ?_ NB121_122.out _; (with_reducible repeat (first | refine Qd ?_ _ | refine Qb ?_ | refine Qc ?_ _)); refine Qn ?_ NB121_122.out _; (with_reducible repeat (first | refine Qd ?_ _ | refine Qb ?_ | refine Qc ?_ _)); refine Qn ?_ NB121_122.out _; (with_reducible repeat (first | refine Qd ?_ _ | refine Qb ?_ | refine Qc ?_ _)); exact BK121.out⟩, ⟨by (with_reducible repeat (first | refine Qd ?_ _ | refine Qb ?_ | refine Qc ?_ _)); refine Qt (cs := #[.bool true, .bool false, .bool false]) ?_ 2 _ rfl; (with_reducible repeat (first | refine Qd ?_ _ | refine Qb ?_ | refine Qc ?_ _)); refine Qt (cs := #[.bool true, .bool false, .bool false]) ?_ 1 _ rfl; (with_reducible repeat (first | refine Qd ?_ _ | refine Qb ?_ | refine Qc ?_ _)); refine Qt (cs := #[.bool false, .bool false, .bool false]) ?_ 0 _ rfl; (with_reducible repeat (first | refine Qd ?_ _ | refine Qb ?_ | refine Qc ?_ _)); exact BK122.out⟩, ⟨by with_reducible repeat (first | exact HB.out | apply Qk | apply Ql | apply Qj | refine Qi ?_ GE121.out | refine Qi ?_ GE122.out)⟩⟩
 case round =>
  clear H'
  (try clear p2; try clear c3; try clear c4; try clear hcz5_0; try clear hcz5_1; try clear hcz5_2; try clear hfz5_0; try clear hfz5_1; try clear hfz5_2)
  obtain ⟨x4_1, x10_1, x123000_1, x123001_1, x123002_1, rfl, rfl, HA, HK1, BK121, BK122, HB⟩ := hrel
  cases gk with
  | zero => exact absurd HA.out (by simp [flow_seq.l0])
  | succ k1 =>
   have H := HA.out
   clear HA
   simp only [flow_seq.l0] at H
   by_cases c6 : x10_1 < (l0.length : Int)
   rotate_left
   ·
    rw [if_neg c6] at H
    have c6b0 : decide (x10_1 < (l0.length : Int)) = false := decide_eq_false c6
    clear c6
    by_cases c144 : x123001_1 = true
    ·
     subst c144
     have H1 : (some (x123000_1, x4_1, x123002_1)) = some (r1, r2, r3) := by rw [if_pos rfl] at H; exact H
     clear H
     have H := H1
     clear H1
     simp only [Option.some.injEq, Prod.mk.injEq] at H
     obtain ⟨rfl, rfl, rfl⟩ := H
     have hnb145 := NB122_121.out
     have hnc145 := NB121_122.out
     have hcz146_0 : wr.cell? ⟨gb122, 0, none⟩ = some (.bool x123000_1) := (Qe BK122.out 0).trans rfl
     have hcz146_1 : wr.cell? ⟨gb122, 1, none⟩ = some (.bool true) := (Qe BK122.out 1).trans rfl
     have hcz146_2 : wr.cell? ⟨gb122, 2, none⟩ = some (.bool x123002_1) := (Qe BK122.out 2).trans rfl
     have hfz146_0 := Qf BK122.out 0
     have hfz146_1 := Qf BK122.out 1
     have hfz146_2 := Qf BK122.out 2
     have hcz147_0 : wr.cell? ⟨gb121, 0, none⟩ = some (.bool false) := (Qe BK121.out 0).trans rfl
     have hcz147_1 : wr.cell? ⟨gb121, 1, none⟩ = some (.bool false) := (Qe BK121.out 1).trans rfl
     have hcz147_2 : wr.cell? ⟨gb121, 2, none⟩ = some (.bool false) := (Qe BK121.out 2).trans rfl
     have hfz147_0 := Qf BK121.out 0
     have hfz147_1 := Qf BK121.out 1
     have hfz147_2 := Qf BK121.out 2
     go_wp2
     refine bodyPost_ret (results_cell_row rfl _ _ gb121 36 #[.bool x123000_1, .bool x4_1, .bool x123002_1] (0, 0) _ rfl (by (with_reducible repeat (first | refine Qd ?_ _ | refine Qb ?_ | refine Qc ?_ _)); refine Qt (cs := #[.bool x123000_1, .bool x4_1, .bool false]) ?_ 2 _ rfl; (with_reducible repeat (first | refine Qd ?_ _ | refine Qb ?_ | refine Qc ?_ _)); refine Qt (cs := #[.bool x123000_1, .bool false, .bool false]) ?_ 1 _ rfl; (with_reducible repeat (first | refine Qd ?_ _ | refine Qb ?_ | refine Qc ?_ _)); refine Qt (cs := #[.bool false, .bool false, .bool false]) ?_ 0 _ rfl; (with_reducible repeat (first | refine Qd ?_ _ | refine Qb ?_ | refine Qc ?_ _)); refine Qn ?_ NB121_122.out _; (with_reducible repeat (first | refine Qd ?_ _ | refine Qb ?_ | refine Qc ?_ _)); exact BK121.out) Try.underlying36 rfl (by kernel_rfl)) rfl ?_
     exact ⟨by first | rfl | (simp [Qw, Qx] <;> rfl) | (simp [*, Qw, Qx] <;> rfl), by with_reducible repeat (first | exact HB.out | apply Qk | apply Ql | apply Qj | refine Qi ?_ GE121.out | refine Qi ?_ GE122.out)⟩
    ·
     replace c144 := Bool.eq_false_iff.mpr c144
     subst c144
     have H1 : (some (x123000_1, false, x123002_1)) = some (r1, r2, r3) := by rw [if_neg (show ¬ (false = true) by decide)] at H; exact H
     clear H
     have H := H1
     clear H1
     simp only [Option.some.injEq, Prod.mk.injEq] at H
     obtain ⟨rfl, rfl, rfl⟩ := H
     have hnb148 := NB122_121.out
     have hnc148 := NB121_122.out
     have hcz149_0 : wr.cell? ⟨gb122, 0, none⟩ = some (.bool x123000_1) := (Qe BK122.out 0).trans rfl
     have hcz149_1 : wr.cell? ⟨gb122, 1, none⟩ = some (.bool false) := (Qe BK122.out 1).trans rfl
     have hcz149_2 : wr.cell? ⟨gb122, 2, none⟩ = some (.bool x123002_1) := (Qe BK122.out 2).trans rfl
     have hfz149_0 := Qf BK122.out 0
     have hfz149_1 := Qf BK122.out 1
     have hfz149_2 := Qf BK122.out 2
     have hcz150_0 : wr.cell? ⟨gb121, 0, none⟩ = some (.bool false) := (Qe BK121.out 0).trans rfl
     have hcz150_1 : wr.cell? ⟨gb121, 1, none⟩ = some (.bool false) := (Qe BK121.out 1).trans rfl
     have hcz150_2 : wr.cell? ⟨gb121, 2, none⟩ = some (.bool false) := (Qe BK121.out 2).trans rfl
     have hfz150_0 := Qf BK121.out 0
     have hfz150_1 := Qf BK121.out 1
     have hfz150_2 := Qf BK121.out 2
     go_wp2
     refine bodyPost_ret (results_cell_row rfl _ _ gb121 36 #[.bool x123000_1, .bool false, .bool x123002_1] (0, 0) _ rfl (by (with_reducible repeat (first | refine Qd ?_ _ | refine Qb ?_ | refine Qc ?_ _)); refine Qt (cs := #[.bool x123000_1, .bool false, .bool false]) ?_ 2 _ rfl; (with_reducible repeat (first | refine Qd ?_ _ | refine Qb ?_ | refine Qc ?_ _)); refine Qt (cs := #[.bool x123000_1, .bool false, .bool false]) ?_ 1 _ rfl; (with_reducible repeat (first | refine Qd ?_ _ | refine Qb ?_ | refine Qc ?_ _)); refine Qt (cs := #[.bool false, .bool false, .bool false]) ?_ 0 _ rfl; (with_reducible repeat (first | refine Qd ?_ _ | refine Qb ?_ | refine Qc ?_ _)); refine Qn ?_ NB121_122.out _; (with_reducible repeat (first | refine Qd ?_ _ | refine Qb ?_ | refine Qc ?_ _)); exact BK121.out) Try.underlying36 rfl (by kernel_rfl)) rfl ?_
     exact ⟨by first | rfl | (simp [Qw, Qx] <;> rfl) | (simp [*, Qw, Qx] <;> rfl), by with_reducible repeat (first | exact HB.out | apply Qk | apply Ql | apply Qj | refine Qi ?_ GE121.out | refine Qi ?_ GE122.out)⟩
   rw [if_pos c6] at H
   have c6b0 : decide (x10_1 < (l0.length : Int)) = true := decide_eq_true c6
   clear c6
   by_cases c7 : 0 ≤ x10_1
   rotate_left
   ·
    rw [if_neg c7] at H
    exact absurd H (by simp)
   rw [if_pos c7] at H
   have c7b0 : decide (0 ≤ x10_1) = true := decide_eq_true c7
   clear c7
   by_cases c8 : x10_1 < (l0.length : Int)
   rotate_left
   ·
    rw [if_neg c8] at H
    exact absurd H (by simp)
   rw [if_pos c8] at H
   have c8b0 : decide (x10_1 < (l0.length : Int)) = true := decide_eq_true c8
   clear c8
   by_cases c9 : x123002_1 = true
   ·
    subst c9
    have H1 : (if x4_1 = true then ((flow_Facts_ok.f ((Qg l0 x10_1).f0) ((Qg l0 x10_1).f1) ((Qg l0 x10_1).f2)).bind fun t125 => (if x123000_1 = true then (if x123001_1 = true then (flow_seq.l0 k1 t125 l0 (l0.length : Int) (wrap64 (x10_1 + 1)) ((Qg l0 x10_1).f0) true true) else (flow_seq.l0 k1 t125 l0 (l0.length : Int) (wrap64 (x10_1 + 1)) ((Qg l0 x10_1).f0) ((Qg l0 x10_1).f1) true)) else (if x123001_1 = true then (flow_seq.l0 k1 t125 l0 (l0.length : Int) (wrap64 (x10_1 + 1)) false true true) else (flow_seq.l0 k1 t125 l0 (l0.length : Int) (wrap64 (x10_1 + 1)) false ((Qg l0 x10_1).f1) true)))) else (if x123000_1 = true then (if x123001_1 = true then (flow_seq.l0 k1 false l0 (l0.length : Int) (wrap64 (x10_1 + 1)) ((Qg l0 x10_1).f0) true true) else (flow_seq.l0 k1 false l0 (l0.length : Int) (wrap64 (x10_1 + 1)) ((Qg l0 x10_1).f0) ((Qg l0 x10_1).f1) true)) else (if x123001_1 = true then (flow_seq.l0 k1 false l0 (l0.length : Int) (wrap64 (x10_1 + 1)) false true true) else (flow_seq.l0 k1 false l0 (l0.length : Int) (wrap64 (x10_1 + 1)) false ((Qg l0 x10_1).f1) true)))) = some (r1, r2, r3) := by rw [if_pos rfl] at H; exact H
    clear H
    have H := H1
    clear H1
    by_cases c10 : x4_1 = true
    ·
     subst c10
     have H1 : ((flow_Facts_ok.f ((Qg l0 x10_1).f0) ((Qg l0 x10_1).f1) ((Qg l0 x10_1).f2)).bind fun t125 => (if x123000_1 = true then (if x123001_1 = true then (flow_seq.l0 k1 t125 l0 (l0.length : Int) (wrap64 (x10_1 + 1)) ((Qg l0 x10_1).f0) true true) else (flow_seq.l0 k1 t125 l0 (l0.length : Int) (wrap64 (x10_1 + 1)) ((Qg l0 x10_1).f0) ((Qg l0 x10_1).f1) true)) else (if x123001_1 = true then (flow_seq.l0 k1 t125 l0 (l0.length : Int) (wrap64 (x10_1 + 1)) false true true) else (flow_seq.l0 k1 t125 l0 (l0.length : Int) (wrap64 (x10_1 + 1)) false ((Qg l0 x10_1).f1) true)))) = some (r1, r2, r3) := by rw [if_pos rfl] at H; exact H
     clear H
     have H := H1
     clear H1
     replace H := Option.bind_eq_some_iff.mp H
     obtain ⟨t125, A110, H⟩ := H
     replace H : (if x123000_1 = true then (if x123001_1 = true then (flow_seq.l0 k1 t125 l0 (l0.length : Int) (wrap64 (x10_1 + 1)) ((Qg l0 x10_1).f0) true true) else (flow_seq.l0 k1 t125 l0 (l0.length : Int) (wrap64 (x10_1 + 1)) ((Qg l0 x10_1).f0) ((Qg l0 x10_1).f1) true)) else (if x123001_1 = true then (flow_seq.l0 k1 t125 l0 (l0.length : Int) (wrap64 (x10_1 + 1)) false true true) else (flow_seq.l0 k1 t125 l0 (l0.length : Int) (wrap64 (x10_1 + 1)) false ((Qg l0 x10_1).f1) true))) = some (r1, r2, r3) := H
     have A11 := Qa.mk A110
     clear A110
     by_cases c12 : x123000_1 = true
     ·
      subst c12
      have H1 : (if x123001_1 = true then (flow_seq.l0 k1 t125 l0 (l0.length : Int) (wrap64 (x10_1 + 1)) ((Qg l0 x10_1).f0) true true) else (flow_seq.l0 k1 t125 l0 (l0.length : Int) (wrap64 (x10_1 + 1)) ((Qg l0 x10_1).f0) ((Qg l0 x10_1).f1) true)) = some (r1, r2, r3) := by rw [if_pos rfl] at H; exact H
      clear H
      have H := H1
      clear H1
      by_cases c13 : x123001_1 = true
      ·
       subst c13
       have H1 : (flow_seq.l0 k1 t125 l0 (l0.length : Int) (wrap64 (x10_1 + 1)) ((Qg l0 x10_1).f0) true true) = some (r1, r2, r3) := by rw [if_pos rfl] at H; exact H
       clear H
       have H := H1
       clear H1
       have H' := Qa.mk H
       clear H
       have p123 : 0 ≤ (x10_1 : Int) := of_decide_eq_true (by assumption)
       have q123 : x10_1 < (l0.length : Int) := of_decide_eq_true (by assumption)
       obtain ⟨ad123, e123, hx123_0, hx123_1, hx123_2⟩ := at_T36 HR0.out x10_1 p123 q123
       cases e123
       replace hx123_0 := (HB.out.cell (World.block_lt_of_cell? w _ hx123_0)).trans hx123_0
       replace hx123_1 := (HB.out.cell (World.block_lt_of_cell? w _ hx123_1)).trans hx123_1
       replace hx123_2 := (HB.out.cell (World.block_lt_of_cell? w _ hx123_2)).trans hx123_2
       replace p123 := eq_true p123
       replace q123 := eq_true q123
       go_wp2_with (first | ((with_reducible refine Qg1 (N := 6) rfl ?_); refine Qh1 ?hg (N := 6) ?hd (cs := #[.bool false, .bool false, .bool false]) (t := 36) ?hr ?_; (case hd => rfl); (case hg => rfl); (case hr => first | (go_simp; done) | (go_simp; rfl)); intro gb124 hg w14 hbox hb; have n0_ := Qa.mk (Qs (g := gb121) (o := .cells #[.bool false, .bool false, .bool false] 36 (0, 0)) (by (with_reducible repeat (first | refine Qd ?_ _ | refine Qb ?_ | refine Qc ?_ _)); exact BK121.out) hb); have n1_ := Qa.mk (Qs (g := gb122) (o := .cells #[.bool true, .bool true, .bool true] 36 (0, 0)) (by (with_reducible repeat (first | refine Qd ?_ _ | refine Qb ?_ | refine Qc ?_ _)); exact BK122.out) hb); have n2_ := Qa.mk (Qv (by with_reducible repeat (first | exact HB.out | apply Qk | apply Ql | apply Qj | refine Qi ?_ GE121.out | refine Qi ?_ GE122.out)) hb); have n3_ := Qa.mk (hbox); have n4_ := Qa.mk ((by rw [hg]; exact (Qb1 (by with_reducible repeat (first | exact HB.out | apply Qk | apply Ql | apply Qj | refine Qi ?_ GE121.out | refine Qi ?_ GE122.out))) : w.heap.size ≤ gb124)); have n5_ := n4_; have n6_ := Qa.mk ((by rw [hg]; exact Nat.ne_of_lt (Qy (g := gb121) (o := .cells #[.bool false, .bool false, .bool false] 36 (0, 0)) (by (with_reducible repeat (first | refine Qd ?_ _ | refine Qb ?_ | refine Qc ?_ _)); exact BK121.out)) : gb121 ≠ gb124)); have n7_ := Qa.mk ((by rw [hg]; exact Nat.ne_of_gt (Qy (g := gb121) (o := .cells #[.bool false, .bool false, .bool false] 36 (0, 0)) (by (with_reducible repeat (first | refine Qd ?_ _ | refine Qb ?_ | refine Qc ?_ _)); exact BK121.out)) : gb124 ≠ gb121)); have n8_ := Qa.mk ((by rw [hg]; exact Nat.ne_of_lt (Qy (g := gb122) (o := .cells #[.bool true, .bool true, .bool true] 36 (0, 0)) (by (with_reducible repeat (first | refine Qd ?_ _ | refine Qb ?_ | refine Qc ?_ _)); exact BK122.out)) : gb122 ≠ gb124)); have n9_ := Qa.mk ((by rw [hg]; exact Nat.ne_of_gt (Qy (g := gb122) (o := .cells #[.bool true, .bool true, .bool true] 36 (0, 0)) (by (with_reducible repeat (first | refine Qd ?_ _ | refine Qb ?_ | refine Qc ?_ _)); exact BK122.out)) : gb124 ≠ gb122)); clear BK121; clear BK122; clear HB; have BK121 := n0_; have BK122 := n1_; have HB := n2_; have BK124 := n3_; have GW124 := n4_; have GE124 := n5_; have NB121_124 := n6_; have NB124_121 := n7_; have NB122_124 := n8_; have NB124_122 := n9_; clear n0_ n1_ n2_ n3_ n4_ n5_ n6_ n7_ n8_ n9_; clear hb hbox hg; have hnb15 := NB124_121.out; have hnc15 := NB121_124.out; have hnb16 := NB124_122.out; have hnc16 := NB122_124.out; have hcz17_0 : w14.cell? ⟨gb124, 0, none⟩ = some (.bool false) := (Qe BK124.out 0).trans rfl; have hcz17_1 : w14.cell? ⟨gb124, 1, none⟩ = some (.bool false) := (Qe BK124.out 1).trans rfl; have hcz17_2 : w14.cell? ⟨gb124, 2, none⟩ = some (.bool false) := (Qe BK124.out 2).trans rfl; have hfz17_0 := Qf BK124.out 0; have hfz17_1 := Qf BK124.out 1; have hfz17_2 := Qf BK124.out 2; have hnb18 := NB122_121.out; have hnc18 := NB121_122.out; have hcz19_0 : w14.cell? ⟨gb122, 0, none⟩ = some (.bool true) := (Qe BK122.out 0).trans rfl; have hcz19_1 : w14.cell? ⟨gb122, 1, none⟩ = some (.bool true) := (Qe BK122.out 1).trans rfl; have hcz19_2 : w14.cell? ⟨gb122, 2, none⟩ = some (.bool true) := (Qe BK122.out 2).trans rfl; have hfz19_0 := Qf BK122.out 0; have hfz19_1 := Qf BK122.out 1; have hfz19_2 := Qf BK122.out 2) | (go_at_call 40; (with_reducible refine (flow_Facts_ok.calls ((Qg l0 x10_1).f0) ((Qg l0 x10_1).f1) ((Qg l0 x10_1).f2) t125 _ A11.out).mono ?_); rintro e w20 ⟨rfl, hb⟩; have n0_ := Qa.mk (Qs (g := gb121) (o := .cells #[.bool false, .bool false, .bool false] 36 (0, 0)) (by (with_reducible repeat (first | refine Qd ?_ _ | refine Qb ?_ | refine Qc ?_ _)); refine Qn ?_ NB121_122.out _; (with_reducible repeat (first | refine Qd ?_ _ | refine Qb ?_ | refine Qc ?_ _)); refine Qn ?_ NB121_124.out _; (with_reducible repeat (first | refine Qd ?_ _ | refine Qb ?_ | refine Qc ?_ _)); refine Qn ?_ NB121_124.out _; (with_reducible repeat (first | refine Qd ?_ _ | refine Qb ?_ | refine Qc ?_ _)); refine Qn ?_ NB121_124.out _; (with_reducible repeat (first | refine Qd ?_ _ | refine Qb ?_ | refine Qc ?_ _)); exact BK121.out) hb); have n1_ := Qa.mk (Qs (g := gb122) (o := .cells #[.bool true, .bool true, .bool true] 36 (0, 0)) (by (with_reducible repeat (first | refine Qd ?_ _ | refine Qb ?_ | refine Qc ?_ _)); refine Qt (cs := #[.bool true, .bool true, .bool true]) ?_ 2 _ rfl; (with_reducible repeat (first | refine Qd ?_ _ | refine Qb ?_ | refine Qc ?_ _)); refine Qn ?_ NB122_124.out _; (with_reducible repeat (first | refine Qd ?_ _ | refine Qb ?_ | refine Qc ?_ _)); refine Qn ?_ NB122_124.out _; (with_reducible repeat (first | refine Qd ?_ _ | refine Qb ?_ | refine Qc ?_ _)); refine Qn ?_ NB122_124.out _; (with_reducible repeat (first | refine Qd ?_ _ | refine Qb ?_ | refine Qc ?_ _)); exact BK122.out) hb); have n2_ := Qa.mk (Qs (g := gb124) (o := .cells #[.bool ((Qg l0 x10_1).f0), .bool ((Qg l0 x10_1).f1), .bool ((Qg l0 x10_1).f2)] 36 (0, 0)) (by (with_reducible repeat (first | refine Qd ?_ _ | refine Qb ?_ | refine Qc ?_ _)); refine Qn ?_ NB124_122.out _; (with_reducible repeat (first | refine Qd ?_ _ | refine Qb ?_ | refine Qc ?_ _)); refine Qt (cs := #[.bool ((Qg l0 x10_1).f0), .bool ((Qg l0 x10_1).f1), .bool false]) ?_ 2 _ rfl; (with_reducible repeat (first | refine Qd ?_ _ | refine Qb ?_ | refine Qc ?_ _)); refine Qt (cs := #[.bool ((Qg l0 x10_1).f0), .bool false, .bool false]) ?_ 1 _ rfl; (with_reducible repeat (first | refine Qd ?_ _ | refine Qb ?_ | refine Qc ?_ _)); refine Qt (cs := #[.bool false, .bool false, .bool false]) ?_ 0 _ rfl; (with_reducible repeat (first | refine Qd ?_ _ | refine Qb ?_ | refine Qc ?_ _)); exact BK124.out) hb); have n3_ := Qa.mk (Qv (by with_reducible repeat (first | exact HB.out | apply Qk | apply Ql | apply Qj | refine Qi ?_ GE121.out | refine Qi ?_ GE122.out | refine Qi ?_ GE124.out)) hb); clear BK121; clear BK122; clear BK124; clear HB; have BK121 := n0_; have BK122 := n1_; have BK124 := n2_; have HB := n3_; clear n0_ n1_ n2_ n3_; (try clear hb); (try clear hb2); (try clear hk); (try clear hi); have hcz21_0 : w20.cell? ⟨gb122, 0, none⟩ = some (.bool true) := (Qe BK122.out 0).trans rfl; have hcz21_1 : w20.cell? ⟨gb122, 1, none⟩ = some (.bool true) := (Qe BK122.out 1).trans rfl; have hcz21_2 : w20.cell? ⟨gb122, 2, none⟩ = some (.bool true) := (Qe BK122.out 2).trans rfl; have hfz21_0 := Qf BK122.out 0; have hfz21_1 := Qf BK122.out 1; have hfz21_2 := Qf BK122.out 2; have hcz22_0 : w20.cell? ⟨gb124, 0, none⟩ = some (.bool ((Qg l0 x10_1).f0)) := (Qe BK124.out 0).trans rfl; have hcz22_1 : w20.cell? ⟨gb124, 1, none⟩ = some (.bool ((Qg l0 x10_1).f1)) := (Qe BK124.out 1).trans rfl; have hcz22_2 : w20.cell? ⟨gb124, 2, none⟩ = some (.bool ((Qg l0 x10_1).f2)) := (Qe BK124.out 2).trans rfl; have hfz22_0 := Qf BK124.out 0; have hfz22_1 := Qf BK124.out 1; have hfz22_2 := Qf BK124.out 2))
       go_roundg k1
       case measure => have := HK1.out; omega
       case rel => exact ⟨(t125), (wrap64 (x10_1 + 1)), ((Qg l0 x10_1).f0), (true), (true), (by first | rfl | (simp; done) | (simp [*]; done)), (by first | rfl | (simp; done) | (simp [*]; done)), H', ⟨by have := HK1.out; omega⟩, ⟨by (with_reducible repeat (first | refine Qd ?_ _ | refine Qb ?_ | refine Qc ?_ _)); refine Qn ?_ NB121_122.out _; (with_reducible repeat (first | refine Qd ?_ _ | refine Qb ?_ | refine Qc ?_ _)); refine Qn ?_ NB121_122.out _; (with_reducible repeat (first | refine Qd ?_ _ | refine Qb ?_ | refine Qc ?_ _)); exact BK121.out⟩, ⟨by (with_reducible repeat (first | refine Qd ?_ _ | refine Qb ?_ | refine Qc ?_ _)); refine Qt (cs := #[.bool ((Qg l0 x10_1).f0), .bool true, .bool true]) ?_ 1 _ rfl; (with_reducible repeat (first | refine Qd ?_ _ | refine Qb ?_ | refine Qc ?_ _)); refine Qt (cs := #[.bool true, .bool true, .bool true]) ?_ 0 _ rfl; (with_reducible repeat (first | refine Qd ?_ _ | refine Qb ?_ | refine Qc ?_ _)); exact BK122.out⟩, ⟨by with_reducible repeat (first | exact HB.out | apply Qk | apply Ql | apply Qj | refine Qi ?_ GE121.out | refine Qi ?_ GE122.out | refine Qi ?_ GE124.out)⟩⟩
      replace c13 := Bool.eq_false_iff.mpr c13
      subst c13
      have H1 : (flow_seq.l0 k1 t125 l0 (l0.length : Int) (wrap64 (x10_1 + 1)) ((Qg l0 x10_1).f0) ((Qg l0 x10_1).f1) true) = some (r1, r2, r3) := by rw [if_neg (show ¬ (false = true) by decide)] at H; exact H
      clear H
      have H := H1
      clear H1
      have H' := Qa.mk H
      clear H
      have p123 : 0 ≤ (x10_1 : Int) := of_decide_eq_true (by assumption)
      have q123 : x10_1 < (l0.length : Int) := of_decide_eq_true (by assumption)
      obtain ⟨ad123, e123, hx123_0, hx123_1, hx123_2⟩ := at_T36 HR0.out x10_1 p123 q123
      cases e123
      replace hx123_0 := (HB.out.cell (World.block_lt_of_cell? w _ hx123_0)).trans hx123_0
      replace hx123_1 := (HB.out.cell (World.block_lt_of_cell? w _ hx123_1)).trans hx123_1
      replace hx123_2 := (HB.out.cell (World.block_lt_of_cell? w _ hx123_2)).trans hx123_2
      replace p123 := eq_true p123
      replace q123 := eq_true q123
      go_wp2_with (first | ((with_reducible refine Qg1 (N := 6) rfl ?_); refine Qh1 ?hg (N := 6) ?hd (cs := #[.bool false, .bool false, .bool false]) (t := 36) ?hr ?_; (case hd => rfl); (case hg => rfl); (case hr => first | (go_simp; done) | (go_simp; rfl)); intro gb124 hg w23 hbox hb; have n0_ := Qa.mk (Qs (g := gb121) (o := .cells #[.bool false, .bool false, .bool false] 36 (0, 0)) (by (with_reducible repeat (first | refine Qd ?_ _ | refine Qb ?_ | refine Qc ?_ _)); exact BK121.out) hb); have n1_ := Qa.mk (Qs (g := gb122) (o := .cells #[.bool true, .bool false, .bool true] 36 (0, 0)) (by (with_reducible repeat (first | refine Qd ?_ _ | refine Qb ?_ | refine Qc ?_ _)); exact BK122.out) hb); have n2_ := Qa.mk (Qv (by with_reducible repeat (first | exact HB.out | apply Qk | apply Ql | apply Qj | refine Qi ?_ GE121.out | refine Qi ?_ GE122.out)) hb); have n3_ := Qa.mk (hbox); have n4_ := Qa.mk ((by rw [hg]; exact (Qb1 (by with_reducible repeat (first | exact HB.out | apply Qk | apply Ql | apply Qj | refine Qi ?_ GE121.out | refine Qi ?_ GE122.out))) : w.heap.size ≤ gb124)); have n5_ := n4_; have n6_ := Qa.mk ((by rw [hg]; exact Nat.ne_of_lt (Qy (g := gb121) (o := .cells #[.bool false, .bool false, .bool false] 36 (0, 0)) (by (with_reducible repeat (first | refine Qd ?_ _ | refine Qb ?_ | refine Qc ?_ _)); exact BK121.out)) : gb121 ≠ gb124)); have n7_ := Qa.mk ((by rw [hg]; exact Nat.ne_of_gt (Qy (g := gb121) (o := .cells #[.bool false, .bool false, .bool false] 36 (0, 0)) (by (with_reducible repeat (first | refine Qd ?_ _ | refine Qb ?_ | refine Qc ?_ _)); exact BK121.out)) : gb124 ≠ gb121)); have n8_ := Qa.mk ((by rw [hg]; exact Nat.ne_of_lt (Qy (g := gb122) (o := .cells #[.bool true, .bool false, .bool true] 36 (0, 0)) (by (with_reducible repeat (first | refine Qd ?_ _ | refine Qb ?_ | refine Qc ?_ _)); exact BK122.out)) : gb122 ≠ gb124)); have n9_ := Qa.mk ((by rw [hg]; exact Nat.ne_of_gt (Qy (g := gb122) (o := .cells #[.bool true, .bool false, .bool true] 36 (0, 0)) (by (with_reducible repeat (first | refine Qd ?_ _ | refine Qb ?_ | refine Qc ?_ _)); exact BK122.out)) : gb124 ≠ gb122)); clear BK121; clear BK122; clear HB; have BK121 := n0_; have BK122 := n1_; have HB := n2_; have BK124 := n3_; have GW124 := n4_; have GE124 := n5_; have NB121_124 := n6_; have NB124_121 := n7_; have NB122_124 := n8_; have NB124_122 := n9_; clear n0_ n1_ n2_ n3_ n4_ n5_ n6_ n7_ n8_ n9_; clear hb hbox hg; have hnb24 := NB124_121.out; have hnc24 := NB121_124.out; have hnb25 := NB124_122.out; have hnc25 := NB122_124.out; have hcz26_0 : w23.cell? ⟨gb124, 0, none⟩ = some (.bool false) := (Qe BK124.out 0).trans rfl; have hcz26_1 : w23.cell? ⟨gb124, 1, none⟩ = some (.bool false) := (Qe BK124.out 1).trans rfl; have hcz26_2 : w23.cell? ⟨gb124, 2, none⟩ = some (.bool false) := (Qe BK124.out 2).trans rfl; have hfz26_0 := Qf BK124.out 0; have hfz26_1 := Qf BK124.out 1; have hfz26_2 := Qf BK124.out 2; have hnb27 := NB122_121.out; have hnc27 := NB121_122.out; have hcz28_0 : w23.cell? ⟨gb122, 0, none⟩ = some (.bool true) := (Qe BK122.out 0).trans rfl; have hcz28_1 : w23.cell? ⟨gb122, 1, none⟩ = some (.bool false) := (Qe BK122.out 1).trans rfl; have hcz28_2 : w23.cell? ⟨gb122, 2, none⟩ = some (.bool true) := (Qe BK122.out 2).trans rfl; have hfz28_0 := Qf BK122.out 0; have hfz28_1 := Qf BK122.out 1; have hfz28_2 := Qf BK122.out 2) | (go_at_call 40; (with_reducible refine (flow_Facts_ok.calls ((Qg l0 x10_1).f0) ((Qg l0 x10_1).f1) ((Qg l0 x10_1).f2) t125 _ A11.out).mono ?_); rintro e w29 ⟨rfl, hb⟩; have n0_ := Qa.mk (Qs (g := gb121) (o := .cells #[.bool false, .bool false, .bool false] 36 (0, 0)) (by (with_reducible repeat (first | refine Qd ?_ _ | refine Qb ?_ | refine Qc ?_ _)); refine Qn ?_ NB121_122.out _; (with_reducible repeat (first | refine Qd ?_ _ | refine Qb ?_ | refine Qc ?_ _)); refine Qn ?_ NB121_124.out _; (with_reducible repeat (first | refine Qd ?_ _ | refine Qb ?_ | refine Qc ?_ _)); refine Qn ?_ NB121_124.out _; (with_reducible repeat (first | refine Qd ?_ _ | refine Qb ?_ | refine Qc ?_ _)); refine Qn ?_ NB121_124.out _; (with_reducible repeat (first | refine Qd ?_ _ | refine Qb ?_ | refine Qc ?_ _)); exact BK121.out) hb); have n1_ := Qa.mk (Qs (g := gb122) (o := .cells #[.bool true, .bool false, .bool true] 36 (0, 0)) (by (with_reducible repeat (first | refine Qd ?_ _ | refine Qb ?_ | refine Qc ?_ _)); refine Qt (cs := #[.bool true, .bool false, .bool true]) ?_ 2 _ rfl; (with_reducible repeat (first | refine Qd ?_ _ | refine Qb ?_ | refine Qc ?_ _)); refine Qn ?_ NB122_124.out _; (with_reducible repeat (first | refine Qd ?_ _ | refine Qb ?_ | refine Qc ?_ _)); refine Qn ?_ NB122_124.out _; (with_reducible repeat (first | refine Qd ?_ _ | refine Qb ?_ | refine Qc ?_ _)); refine Qn ?_ NB122_124.out _; (with_reducible repeat (first | refine Qd ?_ _ | refine Qb ?_ | refine Qc ?_ _)); exact BK122.out) hb); have n2_ := Qa.mk (Qs (g := gb124) (o := .cells #[.bool ((Qg l0 x10_1).f0), .bool ((Qg l0 x10_1).f1), .bool ((Qg l0 x10_1).f2)] 36 (0, 0)) (by (with_reducible repeat (first | refine Qd ?_ _ | refine Qb ?_ | refine Qc ?_ _)); refine Qn ?_ NB124_122.out _; (with_reducible repeat (first | refine Qd ?_ _ | refine Qb ?_ | refine Qc ?_ _)); refine Qt (cs := #[.bool ((Qg l0 x10_1).f0), .bool ((Qg l0 x10_1).f1), .bool false]) ?_ 2 _ rfl; (with_reducible repeat (first | refine Qd ?_ _ | refine Qb ?_ | refine Qc ?_ _)); refine Qt (cs := #[.bool ((Qg l0 x10_1).f0), .bool false, .bool false]) ?_ 1 _ rfl; (with_reducible repeat (first | refine Qd ?_ _ | refine Qb ?_ | refine Qc ?_ _)); refine Qt (cs := #[.bool false, .bool false, .bool false]) ?_ 0 _ rfl; (with_reducible repeat (first | refine Qd ?_ _ | refine Qb ?_ | refine Qc ?_ _)); exact BK124.out) hb); have n3_ := Qa.mk (Qv (by with_reducible repeat (first | exact HB.out | apply Qk | apply Ql | apply Qj | refine Qi ?_ GE121.out | refine Qi ?_ GE122.out | refine Qi ?_ GE124.out)) hb); clear BK121; clear BK122; clear BK124; clear HB; have BK121 := n0_; have BK122 := n1_; have BK124 := n2_; have HB := n3_; clear n0_ n1_ n2_ n3_; (try clear hb); (try clear hb2); (try clear hk); (try clear hi); have hcz30_0 : w29.cell? ⟨gb122, 0, none⟩ = some (.bool true) := (Qe BK122.out 0).trans rfl; have hcz30_1 : w29.cell? ⟨gb122, 1, none⟩ = some (.bool false) := (Qe BK122.out 1).trans rfl; have hcz30_2 : w29.cell? ⟨gb122, 2, none⟩ = some (.bool true) := (Qe BK122.out 2).trans rfl; have hfz30_0 := Qf BK122.out 0; have hfz30_1 := Qf BK122.out 1; have hfz30_2 := Qf BK122.out 2; have hcz31_0 : w29.cell? ⟨gb124, 0, none⟩ = some (.bool ((Qg l0 x10_1).f0)) := (Qe BK124.out 0).trans rfl; have hcz31_1 : w29.cell? ⟨gb124, 1, none⟩ = some (.bool ((Qg l0 x10_1).f1)) := (Qe BK124.out 1).trans rfl; have hcz31_2 : w29.cell? ⟨gb124, 2, none⟩ = some (.bool ((Qg l0 x10_1).f2)) := (Qe BK124.out 2).trans rfl; have hfz31_0 := Qf BK124.out 0; have hfz31_1 := Qf BK124.out 1; have hfz31_2 := Qf BK124.out 2))
      go_roundg k1
      case measure => have := HK1.out; omega
      case rel => exact ⟨(t125), (wrap64 (x10_1 + 1)), ((Qg l0 x10_1).f0), ((Qg l0 x10_1).f1), (true), (by first | rfl | (simp; done) | (simp [*]; done)), (by first | rfl | (simp; done) | (simp [*]; done)), H', ⟨by have := HK1.out; omega⟩, ⟨by (with_reducible repeat (first | refine Qd ?_ _ | refine Qb ?_ | refine Qc ?_ _)); refine Qn ?_ NB121_122.out _; (with_reducible repeat (first | refine Qd ?_ _ | refine Qb ?_ | refine Qc ?_ _)); refine Qn ?_ NB121_122.out _; (with_reducible repeat (first | refine Qd ?_ _ | refine Qb ?_ | refine Qc ?_ _)); exact BK121.out⟩, ⟨by (with_reducible repeat (first | refine Qd ?_ _ | refine Qb ?_ | refine Qc ?_ _)); refine Qt (cs := #[.bool ((Qg l0 x10_1).f0), .bool false, .bool true]) ?_ 1 _ rfl; (with_reducible repeat (first | refine Qd ?_ _ | refine Qb ?_ | refine Qc ?_ _)); refine Qt (cs := #[.bool true, .bool false, .bool true]) ?_ 0 _ rfl; (with_reducible repeat (first | refine Qd ?_ _ | refine Qb ?_ | refine Qc ?_ _)); exact BK122.out⟩, ⟨by with_reducible repeat (first | exact HB.out | apply Qk | apply Ql | apply Qj | refine Qi ?_ GE121.out | refine Qi ?_ GE122.out | refine Qi ?_ GE124.out)⟩⟩
     replace c12 := Bool.eq_false_iff.mpr c12
     subst c12
     have H1 : (if x123001_1 = true then (flow_seq.l0 k1 t125 l0 (l0.length : Int) (wrap64 (x10_1 + 1)) false true true) else (flow_seq.l0 k1 t125 l0 (l0.length : Int) (wrap64 (x10_1 + 1)) false ((Qg l0 x10_1).f1) true)) = some (r1, r2, r3) := by rw [if_neg (show ¬ (false = true) by decide)] at H; exact H
     clear H
     have H := H1
     clear H1
     by_cases c32 : x123001_1 = true
     ·
      subst c32
      have H1 : (flow_seq.l0 k1 t125 l0 (l0.length : Int) (wrap64 (x10_1 + 1)) false true true) = some (r1, r2, r3) := by rw [if_pos rfl] at H; exact H
      clear H
      have H := H1
      clear H1
      have H' := Qa.mk H
      clear H
      have p123 : 0 ≤ (x10_1 : Int) := of_decide_eq_true (by assumption)
      have q123 : x10_1 < (l0.length : Int) := of_decide_eq_true (by assumption)
      obtain ⟨ad123, e123, hx123_0, hx123_1, hx123_2⟩ := at_T36 HR0.out x10_1 p123 q123
      cases e123
      replace hx123_0 := (HB.out.cell (World.block_lt_of_cell? w _ hx123_0)).trans hx123_0
      replace hx123_1 := (HB.out.cell (World.block_lt_of_cell? w _ hx123_1)).trans hx123_1
      replace hx123_2 := (HB.out.cell (World.block_lt_of_cell? w _ hx123_2)).trans hx123_2
      replace p123 := eq_true p123
      replace q123 := eq_true q123
      go_wp2_with (first | ((with_reducible refine Qg1 (N := 6) rfl ?_); refine Qh1 ?hg (N := 6) ?hd (cs := #[.bool false, .bool false, .bool false]) (t := 36) ?hr ?_; (case hd => rfl); (case hg => rfl); (case hr => first | (go_simp; done) | (go_simp; rfl)); intro gb124 hg w33 hbox hb; have n0_ := Qa.mk (Qs (g := gb121) (o := .cells #[.bool false, .bool false, .bool false] 36 (0, 0)) (by (with_reducible repeat (first | refine Qd ?_ _ | refine Qb ?_ | refine Qc ?_ _)); exact BK121.out) hb); have n1_ := Qa.mk (Qs (g := gb122) (o := .cells #[.bool false, .bool true, .bool true] 36 (0, 0)) (by (with_reducible repeat (first | refine Qd ?_ _ | refine Qb ?_ | refine Qc ?_ _)); exact BK122.out) hb); have n2_ := Qa.mk (Qv (by with_reducible repeat (first | exact HB.out | apply Qk | apply Ql | apply Qj | refine Qi ?_ GE121.out | refine Qi ?_ GE122.out)) hb); have n3_ := Qa.mk (hbox); have n4_ := Qa.mk ((by rw [hg]; exact (Qb1 (by with_reducible repeat (first | exact HB.out | apply Qk | apply Ql | apply Qj | refine Qi ?_ GE121.out | refine Qi ?_ GE122.out))) : w.heap.size ≤ gb124)); have n5_ := n4_; have n6_ := Qa.mk ((by rw [hg]; exact Nat.ne_of_lt (Qy (g := gb121) (o := .cells #[.bool false, .bool false, .bool false] 36 (0, 0)) (by (with_reducible repeat (first | refine Qd ?_ _ | refine Qb ?_ | refine Qc ?_ _)); exact BK121.out)) : gb121 ≠ gb124)); have n7_ := Qa.mk ((by rw [hg]; exact Nat.ne_of_gt (Qy (g := gb121) (o := .cells #[.bool false, .bool false, .bool false] 36 (0, 0)) (by (with_reducible repeat (first | refine Qd ?_ _ | refine Qb ?_ | refine Qc ?_ _)); exact BK121.out)) : gb124 ≠ gb121)); have n8_ := Qa.mk ((by rw [hg]; exact Nat.ne_of_lt (Qy (g := gb122) (o := .cells #[.bool false, .bool true, .bool true] 36 (0, 0)) (by (with_reducible repeat (first | refine Qd ?_ _ | refine Qb ?_ | refine Qc ?_ _)); exact BK122.out)) : gb122 ≠ gb124)); have n9_ := Qa.mk ((by rw [hg]; exact Nat.ne_of_gt (Qy (g := gb122) (o := .cells #[.bool false, .bool true, .bool true] 36 (0, 0)) (by (with_reducible repeat (first | refine Qd ?_ _ | refine Qb ?_ | refine Qc ?_ _)); exact BK122.out)) : gb124 ≠ gb122)); clear BK121; clear BK122; clear HB; have BK121 := n0_; have BK122 := n1_; have HB := n2_; have BK124 := n3_; have GW124 := n4_; have GE124 := n5_; have NB121_124 := n6_; have NB124_121 := n7_; have NB122_124 := n8_; have NB124_122 := n9_; clear n0_ n1_ n2_ n3_ n4_ n5_ n6_ n7_ n8_ n9_; clear hb hbox hg; have hnb34 := NB124_121.out; have hnc34 := NB121_124.out; have hnb35 := NB124_122.out; have hnc35 := NB122_124.out; have hcz36_0 : w33.cell? ⟨gb124, 0, none⟩ = some (.bool false) := (Qe BK124.out 0).trans rfl; have hcz36_1 : w33.cell? ⟨gb124, 1, none⟩ = some (.bool false) := (Qe BK124.out 1).trans rfl; have hcz36_2 : w33.cell? ⟨gb124, 2, none⟩ = some (.bool false) := (Qe BK124.out 2).trans rfl; have hfz36_0 := Qf BK124.out 0; have hfz36_1 := Qf BK124.out 1; have hfz36_2 := Qf BK124.out 2; have hnb37 := NB122_121.out; have hnc37 := NB121_122.out; have hcz38_0 : w33.cell? ⟨gb122, 0, none⟩ = some (.bool false) := (Qe BK122.out 0).trans rfl; have hcz38_1 : w33.cell? ⟨gb122, 1, none⟩ = some (.bool true) := (Qe BK122.out 1).trans rfl; have hcz38_2 : w33.cell? ⟨gb122, 2, none⟩ = some (.bool true) := (Qe BK122.out 2).trans rfl; have hfz38_0 := Qf BK122.out 0; have hfz38_1 := Qf BK122.out 1; have hfz38_2 := Qf BK122.out 2) | (go_at_call 40; (with_reducible refine (flow_Facts_ok.calls ((Qg l0 x10_1).f0) ((Qg l0 x10_1).f1) ((Qg l0 x10_1).f2) t125 _ A11.out).mono ?_); rintro e w39 ⟨rfl, hb⟩; have n0_ := Qa.mk (Qs (g := gb121) (o := .cells #[.bool false, .bool false, .bool false] 36 (0, 0)) (by (with_reducible repeat (first | refine Qd ?_ _ | refine Qb ?_ | refine Qc ?_ _)); refine Qn ?_ NB121_122.out _; (with_reducible repeat (first | refine Qd ?_ _ | refine Qb ?_ | refine Qc ?_ _)); refine Qn ?_ NB121_124.out _; (with_reducible repeat (first | refine Qd ?_ _ | refine Qb ?_ | refine Qc ?_ _)); refine Qn ?_ NB121_124.out _; (with_reducible repeat (first | refine Qd ?_ _ | refine Qb ?_ | refine Qc ?_ _)); refine Qn ?_ NB121_124.out _; (with_reducible repeat (first | refine Qd ?_ _ | refine Qb ?_ | refine Qc ?_ _)); exact BK121.out) hb); have n1_ := Qa.mk (Qs (g := gb122) (o := .cells #[.bool false, .bool true, .bool true] 36 (0, 0)) (by (with_reducible repeat (first | refine Qd ?_ _ | refine Qb ?_ | refine Qc ?_ _)); refine Qt (cs := #[.bool false, .bool true, .bool true]) ?_ 2 _ rfl; (with_reducible repeat (first | refine Qd ?_ _ | refine Qb ?_ | refine Qc ?_ _)); refine Qn ?_ NB122_124.out _; (with_reducible repeat (first | refine Qd ?_ _ | refine Qb ?_ | refine Qc ?_ _)); refine Qn ?_ NB122_124.out _; (with_reducible repeat (first | refine Qd ?_ _ | refine Qb ?_ | refine Qc ?_ _)); refine Qn ?_ NB122_124.out _; (with_reducible repeat (first | refine Qd ?_ _ | refine Qb ?_ | refine Qc ?_ _)); exact BK122.out) hb); have n2_ := Qa.mk (Qs (g := gb124) (o := .cells #[.bool ((Qg l0 x10_1).f0), .bool ((Qg l0 x10_1).f1), .bool ((Qg l0 x10_1).f2)] 36 (0, 0)) (by (with_reducible repeat (first | refine Qd ?_ _ | refine Qb ?_ | refine Qc ?_ _)); refine Qn ?_ NB124_122.out _; (with_reducible repeat (first | refine Qd ?_ _ | refine Qb ?_ | refine Qc ?_ _)); refine Qt (cs := #[.bool ((Qg l0 x10_1).f0), .bool ((Qg l0 x10_1).f1), .bool false]) ?_ 2 _ rfl; (with_reducible repeat (first | refine Qd ?_ _ | refine Qb ?_ | refine Qc ?_ _)); refine Qt (cs := #[.bool ((Qg l0 x10_1).f0), .bool false, .bool false]) ?_ 1 _ rfl; (with_reducible repeat (first | refine Qd ?_ _ | refine Qb ?_ | refine Qc ?_ _)); refine Qt (cs := #[.bool false, .bool false, .bool false]) ?_ 0 _ rfl; (with_reducible repeat (first | refine Qd ?_ _ | refine Qb ?_ | refine Qc ?_ _)); exact BK124.out) hb); have n3_ := Qa.mk (Qv (by with_reducible repeat (first | exact HB.out | apply Qk | apply Ql | apply Qj | refine Qi ?_ GE121.out | refine Qi ?_ GE122.out | refine Qi ?_ GE124.out)) hb); clear BK121; clear BK122; clear BK124; clear HB; have BK121 := n0_; have BK122 := n1_; have BK124 := n2_; have HB := n3_; clear n0_ n1_ n2_ n3_; (try clear hb); (try clear hb2); (try clear hk); (try clear hi); have hcz40_0 : w39.cell? ⟨gb122, 0, none⟩ = some (.bool false) := (Qe BK122.out 0).trans rfl; have hcz40_1 : w39.cell? ⟨gb122, 1, none⟩ = some (.bool true) := (Qe BK122.out 1).trans rfl; have hcz40_2 : w39.cell? ⟨gb122, 2, none⟩ = some (.bool true) := (Qe BK122.out 2).trans rfl; have hfz40_0 := Qf BK122.out 0; have hfz40_1 := Qf BK122.out 1; have hfz40_2 := Qf BK122.out 2))
      go_roundg k1
      case measure => have := HK1.out; omega
      case rel => exact ⟨(t125), (wrap64 (x10_1 + 1)), (false), (true), (true), (by first | rfl | (simp; done) | (simp [*]; done)), (by first | rfl | (simp; done) | (simp [*]; done)), H', ⟨by have := HK1.out; omega⟩, ⟨by (with_reducible repeat (first | refine Qd ?_ _ | refine Qb ?_ | refine Qc ?_ _)); refine Qn ?_ NB121_122.out _; (with_reducible repeat (first | refine Qd ?_ _ | refine Qb ?_ | refine Qc ?_ _)); refine Qn ?_ NB121_122.out _; (with_reducible repeat (first | refine Qd ?_ _ | refine Qb ?_ | refine Qc ?_ _)); exact BK121.out⟩, ⟨by (with_reducible repeat (first | refine Qd ?_ _ | refine Qb ?_ | refine Qc ?_ _)); refine Qt (cs := #[.bool false, .bool true, .bool true]) ?_ 1 _ rfl; (with_reducible repeat (first | refine Qd ?_ _ | refine Qb ?_ | refine Qc ?_ _)); refine Qt (cs := #[.bool false, .bool true, .bool true]) ?_ 0 _ rfl; (with_reducible repeat (first | refine Qd ?_ _ | refine Qb ?_ | refine Qc ?_ _)); exact BK122.out⟩, ⟨by with_reducible repeat (first | exact HB.out | apply Qk | apply Ql | apply Qj | refine Qi ?_ GE121.out | refine Qi ?_ GE122.out | refine Qi ?_ GE124.out)⟩⟩
     replace c32 := Bool.eq_false_iff.mpr c32
     subst c32
     have H1 : (flow_seq.l0 k1 t125 l0 (l0.length : Int) (wrap64 (x10_1 + 1)) false ((Qg l0 x10_1).f1) true) = some (r1, r2, r3) := by rw [if_neg (show ¬ (false = true) by decide)] at H; exact H
     clear H
     have H := H1
     clear H1
     have H' := Qa.mk H
     clear H
     have p123 : 0 ≤ (x10_1 : Int) := of_decide_eq_true (by assumption)
     have q123 : x10_1 < (l0.length : Int) := of_decide_eq_true (by assumption)
     obtain ⟨ad123, e123, hx123_0, hx123_1, hx123_2⟩ := at_T36 HR0.out x10_1 p123 q123
     cases e123
     replace hx123_0 := (HB.out.cell (World.block_lt_of_cell? w _ hx123_0)).trans hx123_0
     replace hx123_1 := (HB.out.cell (World.block_lt_of_cell? w _ hx123_1)).trans hx123_1
     replace hx123_2 := (HB.out.cell (World.block_lt_of_cell? w _ hx123_2)).trans hx123_2
     replace p123 := eq_true p123
     replace q123 := eq_true q123
     go_wp2_with (first | ((with_reducible refine Qg1 (N := 6) rfl ?_); refine Qh1 ?hg (N := 6) ?hd (cs := #[.bool false, .bool false, .bool false]) (t := 36) ?hr ?_; (case hd => rfl); (case hg => rfl); (case hr => first | (go_simp; done) | (go_simp; rfl)); intro gb124 hg w41 hbox hb; have n0_ := Qa.mk (Qs (g := gb121) (o := .cells #[.bool false, .bool false, .bool false] 36 (0, 0)) (by (with_reducible repeat (first | refine Qd ?_ _ | refine Qb ?_ | refine Qc ?_ _)); exact BK121.out) hb); have n1_ := Qa.mk (Qs (g := gb122) (o := .cells #[.bool false, .bool false, .bool true] 36 (0, 0)) (by (with_reducible repeat (first | refine Qd ?_ _ | refine Qb ?_ | refine Qc ?_ _)); exact BK122.out) hb); have n2_ := Qa.mk (Qv (by with_reducible repeat (first | exact HB.out | apply Qk | apply Ql | apply Qj | refine Qi ?_ GE121.out | refine Qi ?_ GE122.out)) hb); have n3_ := Qa.mk (hbox); have n4_ := Qa.mk ((by rw [hg]; exact (Qb1 (by with_reducible repeat (first | exact HB.out | apply Qk | apply Ql | apply Qj | refine Qi ?_ GE121.out | refine Qi ?_ GE122.out))) : w.heap.size ≤ gb124)); have n5_ := n4_; have n6_ := Qa.mk ((by rw [hg]; exact Nat.ne_of_lt (Qy (g := gb121) (o := .cells #[.bool false, .bool false, .bool false] 36 (0, 0)) (by (with_reducible repeat (first | refine Qd ?_ _ | refine Qb ?_ | refine Qc ?_ _)); exact BK121.out)) : gb121 ≠ gb124)); have n7_ := Qa.mk ((by rw [hg]; exact Nat.ne_of_gt (Qy (g := gb121) (o := .cells #[.bool false, .bool false, .bool false] 36 (0, 0)) (by (with_reducible repeat (first | refine Qd ?_ _ | refine Qb ?_ | refine Qc ?_ _)); exact BK121.out)) : gb124 ≠ gb121)); have n8_ := Qa.mk ((by rw [hg]; exact Nat.ne_of_lt (Qy (g := gb122) (o := .cells #[.bool false, .bool false, .bool true] 36 (0, 0)) (by (with_reducible repeat (first | refine Qd ?_ _ | refine Qb ?_ | refine Qc ?_ _)); exact BK122.out)) : gb122 ≠ gb124)); have n9_ := Qa.mk ((by rw [hg]; exact Nat.ne_of_gt (Qy (g := gb122) (o := .cells #[.bool false, .bool false, .bool true] 36 (0, 0)) (by (with_reducible repeat (first | refine Qd ?_ _ | refine Qb ?_ | refine Qc ?_ _)); exact BK122.out)) : gb124 ≠ gb122)); clear BK121; clear BK122; clear HB; have BK121 := n0_; have BK122 := n1_; have HB := n2_; have BK124 := n3_; have GW124 := n4_; have GE124 := n5_; have NB121_124 := n6_; have NB124_121 := n7_; have NB122_124 := n8_; have NB124_122 := n9_; clear n0_ n1_ n2_ n3_ n4_ n5_ n6_ n7_ n8_ n9_; clear hb hbox hg; have hnb42 := NB124_121.out; have hnc42 := NB121_124.out; have hnb43 := NB124_122.out; have hnc43 := NB122_124.out; have hcz44_0 : w41.cell? ⟨gb124, 0, none⟩ = some (.bool false) := (Qe BK124.out 0).trans rfl; have hcz44_1 : w41.cell? ⟨gb124, 1, none⟩ = some (.bool false) := (Qe BK124.out 1).trans rfl; have hcz44_2 : w41.cell? ⟨gb124, 2, none⟩ = some (.bool false) := (Qe BK124.out 2).trans rfl; have hfz44_0 := Qf BK124.out 0; have hfz44_1 := Qf BK124.out 1; have hfz44_2 := Qf BK124.out 2; have hnb45 := NB122_121.out; have hnc45 := NB121_122.out; have hcz46_0 : w41.cell? ⟨gb122, 0, none⟩ = some (.bool false) := (Qe BK122.out 0).trans rfl; have hcz46_1 : w41.cell? ⟨gb122, 1, none⟩ = some (.bool false) := (Qe BK122.out 1).trans rfl; have hcz46_2 : w41.cell? ⟨gb122, 2, none⟩ = some (.bool true) := (Qe BK122.out 2).trans rfl; have hfz46_0 := Qf BK122.out 0; have hfz46_1 := Qf BK122.out 1; have hfz46_2 := Qf BK122.out 2) | (go_at_call 40; (with_reducible refine (flow_Facts_ok.calls ((Qg l0 x10_1).f0) ((Qg l0 x10_1).f1) ((Qg l0 x10_1).f2) t125 _ A11.out).mono ?_); rintro e w47 ⟨rfl, hb⟩; have n0_ := Qa.mk (Qs (g := gb121) (o := .cells #[.bool false, .bool false, .bool false] 36 (0, 0)) (by (with_reducible repeat (first | refine Qd ?_ _ | refine Qb ?_ | refine Qc ?_ _)); refine Qn ?_ NB121_122.out _; (with_reducible repeat (first | refine Qd ?_ _ | refine Qb ?_ | refine Qc ?_ _)); refine Qn ?_ NB121_124.out _; (with_reducible repeat (first | refine Qd ?_ _ | refine Qb ?_ | refine Qc ?_ _)); refine Qn ?_ NB121_124.out _; (with_reducible repeat (first | refine Qd ?_ _ | refine Qb ?_ | refine Qc ?_ _)); refine Qn ?_ NB121_124.out _; (with_reducible repeat (first | refine Qd ?_ _ | refine Qb ?_ | refine Qc ?_ _)); exact BK121.out) hb); have n1_ := Qa.mk (Qs (g := gb122) (o := .cells #[.bool false, .bool false, .bool true] 36 (0, 0)) (by (with_reducible repeat (first | refine Qd ?_ _ | refine Qb ?_ | refine Qc ?_ _)); refine Qt (cs := #[.bool false, .bool false, .bool true]) ?_ 2 _ rfl; (with_reducible repeat (first | refine Qd ?_ _ | refine Qb ?_ | refine Qc ?_ _)); refine Qn ?_ NB122_124.out _; (with_reducible repeat (first | refine Qd ?_ _ | refine Qb ?_ | refine Qc ?_ _)); refine Qn ?_ NB122_124.out _; (with_reducible repeat (first | refine Qd ?_ _ | refine Qb ?_ | refine Qc ?_ _)); refine Qn ?_ NB122_124.out _; (with_reducible repeat (first | refine Qd ?_ _ | refine Qb ?_ | refine Qc ?_ _)); exact BK122.out) hb); have n2_ := Qa.mk (Qs (g := gb124) (o := .cells #[.bool ((Qg l0 x10_1).f0), .bool ((Qg l0 x10_1).f1), .bool ((Qg l0 x10_1).f2)] 36 (0, 0)) (by (with_reducible repeat (first | refine Qd ?_ _ | refine Qb ?_ | refine Qc ?_ _)); refine Qn ?_ NB124_122.out _; (with_reducible repeat (first | refine Qd ?_ _ | refine Qb ?_ | refine Qc ?_ _)); refine Qt (cs := #[.bool ((Qg l0 x10_1).f0), .bool ((Qg l0 x10_1).f1), .bool false]) ?_ 2 _ rfl; (with_reducible repeat (first | refine Qd ?_ _ | refine Qb ?_ | refine Qc ?_ _)); refine Qt (cs := #[.bool ((Qg l0 x10_1).f0), .bool false, .bool false]) ?_ 1 _ rfl; (with_reducible repeat (first | refine Qd ?_ _ | refine Qb ?_ | refine Qc ?_ _)); refine Qt (cs := #[.bool false, .bool false, .bool false]) ?_ 0 _ rfl; (with_reducible repeat (first | refine Qd ?_ _ | refine Qb ?_ | refine Qc ?_ _)); exact BK124.out) hb); have n3_ := Qa.mk (Qv (by with_reducible repeat (first | exact HB.out | apply Qk | apply Ql | apply Qj | refine Qi ?_ GE121.out | refine Qi ?_ GE122.out | refine Qi ?_ GE124.out)) hb); clear BK121; clear BK122; clear BK124; clear HB; have BK121 := n0_; have BK122 := n1_; have BK124 := n2_; have HB := n3_; clear n0_ n1_ n2_ n3_; (try clear hb); (try clear hb2); (try clear hk); (try clear hi); have hcz48_0 : w47.cell? ⟨gb122, 0, none⟩ = some (.bool false) := (Qe BK122.out 0).trans rfl; have hcz48_1 : w47.cell? ⟨gb122, 1, none⟩ = some (.bool false) := (Qe BK122.out 1).trans rfl; have hcz48_2 : w47.cell? ⟨gb122, 2, none⟩ = some (.bool true) := (Qe BK122.out 2).trans rfl; have hfz48_0 := Qf BK122.out 0; have hfz48_1 := Qf BK122.out 1; have hfz48_2 := Qf BK122.out 2; have hcz49_0 : w47.cell? ⟨gb124, 0, none⟩ = some (.bool ((Qg l0 x10_1).f0)) := (Qe BK124.out 0).trans rfl; have hcz49_1 : w47.cell? ⟨gb124, 1, none⟩ = some (.bool ((Qg l0 x10_1).f1)) := (Qe BK124.out 1).trans rfl; have hcz49_2 : w47.cell? ⟨gb124, 2, none⟩ = some (.bool ((Qg l0 x10_1).f2)) := (Qe BK124.out 2).trans rfl; have hfz49_0 := Qf BK124.out 0; have hfz49_1 := Qf BK124.out 1; have hfz49_2 := Qf BK124.out 2))
     go_roundg k1
     case measure => have := HK1.out; omega
     case rel => exact ⟨(t125), (wrap64 (x10_1 + 1)), (false), ((Qg l0 x10_1).f1), (true), (by first | rfl | (simp; done) | (simp [*]; done)), (by first | rfl | (simp; done) | (simp [*]; done)), H', ⟨by have := HK1.out; omega⟩, ⟨by (with_reducible repeat (first | refine Qd ?_ _ | refine Qb ?_ | refine Qc ?_ _)); refine Qn ?_ NB121_122.out _; (with_reducible repeat (first | refine Qd ?_ _ | refine Qb ?_ | refine Qc ?_ _)); refine Qn ?_ NB121_122.out _; (with_reducible repeat (first | refine Qd ?_ _ | refine Qb ?_ | refine Qc ?_ _)); exact BK121.out⟩, ⟨by (with_reducible repeat (first | refine Qd ?_ _ | refine Qb ?_ | refine Qc ?_ _)); refine Qt (cs := #[.bool false, .bool false, .bool true]) ?_ 1 _ rfl; (with_reducible repeat (first | refine Qd ?_ _ | refine Qb ?_ | refine Qc ?_ _)); refine Qt (cs := #[.bool false, .bool false, .bool true]) ?_ 0 _ rfl; (with_reducible repeat (first | refine Qd ?_ _ | refine Qb ?_ | refine Qc ?_ _)); exact BK122.out⟩, ⟨by with_reducible repeat (first | exact HB.out | apply Qk | apply Ql | apply Qj | refine Qi ?_ GE121.out | refine Qi ?_ GE122.out | refine Qi ?_ GE124.out)⟩⟩
    replace c10 := Bool.eq_false_iff.mpr c10
    subst c10
    have H1 : (if x123000_1 = true then (if x123001_1 = true then (flow_seq.l0 k1 false l0 (l0.length : Int) (wrap64 (x10_1 + 1)) ((Qg l0 x10_1).f0) true true) else (flow_seq.l0 k1 false l0 (l0.length : Int) (wrap64 (x10_1 + 1)) ((Qg l0 x10_1).f0) ((Qg l0 x10_1).f1) true)) else (if x123001_1 = true then (flow_seq.l0 k1 false l0 (l0.length : Int) (wrap64 (x10_1 + 1)) false true true) else (flow_seq.l0 k1 false l0 (l0.length : Int) (wrap64 (x10_1 + 1)) false ((Qg l0 x10_1).f1) true))) = some (r1, r2, r3) := by rw [if_neg (show ¬ (false = true) by decide)] at H; exact H
    clear H
    have H := H1
    clear H1
    by_cases c50 : x123000_1 = true
    ·
     subst c50
     have H1 : (if x123001_1 = true then (flow_seq.l0 k1 false l0 (l0.length : Int) (wrap64 (x10_1 + 1)) ((Qg l0 x10_1).f0) true true) else (flow_seq.l0 k1 false l0 (l0.length : Int) (wrap64 (x10_1 + 1)) ((Qg l0 x10_1).f0) ((Qg l0 x10_1).f1) true)) = some (r1, r2, r3) := by rw [if_pos rfl] at H; exact H
     clear H
     have H := H1
     clear H1
     by_cases c51 : x123001_1 = true
     ·
      subst c51
      have H1 : (flow_seq.l0 k1 false l0 (l0.length : Int) (wrap64 (x10_1 + 1)) ((Qg l0 x10_1).f0) true true) = some (r1, r2, r3) := by rw [if_pos rfl] at H; exact H
      clear H
      have H := H1
      clear H1
      have H' := Qa.mk H
      clear H
      have p123 : 0 ≤ (x10_1 : Int) := of_decide_eq_true (by assumption)
      have q123 : x10_1 < (l0.length : Int) := of_decide_eq_true (by assumption)
      obtain ⟨ad123, e123, hx123_0, hx123_1, hx123_2⟩ := at_T36 HR0.out x10_1 p123 q123
      cases e123
      replace hx123_0 := (HB.out.cell (World.block_lt_of_cell? w _ hx123_0)).trans hx123_0
      replace hx123_1 := (HB.out.cell (World.block_lt_of_cell? w _ hx123_1)).trans hx123_1
      replace hx123_2 := (HB.out.cell (World.block_lt_of_cell? w _ hx123_2)).trans hx123_2
      replace p123 := eq_true p123
      replace q123 := eq_true q123
      go_wp2_with (first | ((with_reducible refine Qg1 (N := 6) rfl ?_); refine Qh1 ?hg (N := 6) ?hd (cs := #[.bool false, .bool false, .bool false]) (t := 36) ?hr ?_; (case hd => rfl); (case hg => rfl); (case hr => first | (go_simp; done) | (go_simp; rfl)); intro gb124 hg w52 hbox hb; have n0_ := Qa.mk (Qs (g := gb121) (o := .cells #[.bool false, .bool false, .bool false] 36 (0, 0)) (by (with_reducible repeat (first | refine Qd ?_ _ | refine Qb ?_ | refine Qc ?_ _)); exact BK121.out) hb); have n1_ := Qa.mk (Qs (g := gb122) (o := .cells #[.bool true, .bool true, .bool true] 36 (0, 0)) (by (with_reducible repeat (first | refine Qd ?_ _ | refine Qb ?_ | refine Qc ?_ _)); exact BK122.out) hb); have n2_ := Qa.mk (Qv (by with_reducible repeat (first | exact HB.out | apply Qk | apply Ql | apply Qj | refine Qi ?_ GE121.out | refine Qi ?_ GE122.out)) hb); have n3_ := Qa.mk (hbox); have n4_ := Qa.mk ((by rw [hg]; exact (Qb1 (by with_reducible repeat (first | exact HB.out | apply Qk | apply Ql | apply Qj | refine Qi ?_ GE121.out | refine Qi ?_ GE122.out))) : w.heap.size ≤ gb124)); have n5_ := n4_; have n6_ := Qa.mk ((by rw [hg]; exact Nat.ne_of_lt (Qy (g := gb121) (o := .cells #[.bool false, .bool false, .bool false] 36 (0, 0)) (by (with_reducible repeat (first | refine Qd ?_ _ | refine Qb ?_ | refine Qc ?_ _)); exact BK121.out)) : gb121 ≠ gb124)); have n7_ := Qa.mk ((by rw [hg]; exact Nat.ne_of_gt (Qy (g := gb121) (o := .cells #[.bool false, .bool false, .bool false] 36 (0, 0)) (by (with_reducible repeat (first | refine Qd ?_ _ | refine Qb ?_ | refine Qc ?_ _)); exact BK121.out)) : gb124 ≠ gb121)); have n8_ := Qa.mk ((by rw [hg]; exact Nat.ne_of_lt (Qy (g := gb122) (o := .cells #[.bool true, .bool true, .bool true] 36 (0, 0)) (by (with_reducible repeat (first | refine Qd ?_ _ | refine Qb ?_ | refine Qc ?_ _)); exact BK122.out)) : gb122 ≠ gb124)); have n9_ := Qa.mk ((by rw [hg]; exact Nat.ne_of_gt (Qy (g := gb122) (o := .cells #[.bool true, .bool true, .bool true] 36 (0, 0)) (by (with_reducible repeat (first | refine Qd ?_ _ | refine Qb ?_ | refine Qc ?_ _)); exact BK122.out)) : gb124 ≠ gb122)); clear BK121; clear BK122; clear HB; have BK121 := n0_; have BK122 := n1_; have HB := n2_; have BK124 := n3_; have GW124 := n4_; have GE124 := n5_; have NB121_124 := n6_; have NB124_121 := n7_; have NB122_124 := n8_; have NB124_122 := n9_; clear n0_ n1_ n2_ n3_ n4_ n5_ n6_ n7_ n8_ n9_; clear hb hbox hg; have hnb53 := NB124_121.out; have hnc53 := NB121_124.out; have hnb54 := NB124_122.out; have hnc54 := NB122_124.out; have hcz55_0 : w52.cell? ⟨gb124, 0, none⟩ = some (.bool false) := (Qe BK124.out 0).trans rfl; have hcz55_1 : w52.cell? ⟨gb124, 1, none⟩ = some (.bool false) := (Qe BK124.out 1).trans rfl; have hcz55_2 : w52.cell? ⟨gb124, 2, none⟩ = some (.bool false) := (Qe BK124.out 2).trans rfl; have hfz55_0 := Qf BK124.out 0; have hfz55_1 := Qf BK124.out 1; have hfz55_2 := Qf BK124.out 2; have hnb56 := NB122_121.out; have hnc56 := NB121_122.out; have hcz57_0 : w52.cell? ⟨gb122, 0, none⟩ = some (.bool true) := (Qe BK122.out 0).trans rfl; have hcz57_1 : w52.cell? ⟨gb122, 1, none⟩ = some (.bool true) := (Qe BK122.out 1).trans rfl; have hcz57_2 : w52.cell? ⟨gb122, 2, none⟩ = some (.bool true) := (Qe BK122.out 2).trans rfl; have hfz57_0 := Qf BK122.out 0; have hfz57_1 := Qf BK122.out 1; have hfz57_2 := Qf BK122.out 2))
      go_roundg k1
      case measure => have := HK1.out; omega
      case rel => exact ⟨(false), (wrap64 (x10_1 + 1)), ((Qg l0 x10_1).f0), (true), (true), (by first | rfl | (simp; done) | (simp [*]; done)), (by first | rfl | (simp; done) | (simp [*]; done)), H', ⟨by have := HK1.out; omega⟩, ⟨by (with_reducible repeat (first | refine Qd ?_ _ | refine Qb ?_ | refine Qc ?_ _)); refine Qn ?_ NB121_122.out _; (with_reducible repeat (first | refine Qd ?_ _ | refine Qb ?_ | refine Qc ?_ _)); refine Qn ?_ NB121_122.out _; (with_reducible repeat (first | refine Qd ?_ _ | refine Qb ?_ | refine Qc ?_ _)); refine Qn ?_ NB121_122.out _; (with_reducible repeat (first | refine Qd ?_ _ | refine Qb ?_ | refine Qc ?_ _)); refine Qn ?_ NB121_124.out _; (with_reducible repeat (first | refine Qd ?_ _ | refine Qb ?_ | refine Qc ?_ _)); refine Qn ?_ NB121_124.out _; (with_reducible repeat (first | refine Qd ?_ _ | refine Qb ?_ | refine Qc ?_ _)); refine Qn ?_ NB121_124.out _; (with_reducible repeat (first | refine Qd ?_ _ | refine Qb ?_ | refine Qc ?_ _)); exact BK121.out⟩, ⟨by (with_reducible repeat (first | refine Qd ?_ _ | refine Qb ?_ | refine Qc ?_ _)); refine Qt (cs := #[.bool ((Qg l0 x10_1).f0), .bool true, .bool true]) ?_ 1 _ rfl; (with_reducible repeat (first | refine Qd ?_ _ | refine Qb ?_ | refine Qc ?_ _)); refine Qt (cs := #[.bool true, .bool true, .bool true]) ?_ 0 _ rfl; (with_reducible repeat (first | refine Qd ?_ _ | refine Qb ?_ | refine Qc ?_ _)); refine Qt (cs := #[.bool true, .bool true, .bool true]) ?_ 2 _ rfl; (with_reducible repeat (first | refine Qd ?_ _ | refine Qb ?_ | refine Qc ?_ _)); refine Qn ?_ NB122_124.out _; (with_reducible repeat (first | refine Qd ?_ _ | refine Qb ?_ | refine Qc ?_ _)); refine Qn ?_ NB122_124.out _; (with_reducible repeat (first | refine Qd ?_ _ | refine Qb ?_ | refine Qc ?_ _)); refine Qn ?_ NB122_124.out _; (with_reducible repeat (first | refine Qd ?_ _ | refine Qb ?_ | refine Qc ?_ _)); exact BK122.out⟩, ⟨by with_reducible repeat (first | exact HB.out | apply Qk | apply Ql | apply Qj | refine Qi ?_ GE121.out | refine Qi ?_ GE122.out | refine Qi ?_ GE124.out)⟩⟩
     replace c51 := Bool.eq_false_iff.mpr c51
     subst c51
     have H1 : (flow_seq.l0 k1 false l0 (l0.length : Int) (wrap64 (x10_1 + 1)) ((Qg l0 x10_1).f0) ((Qg l0 x10_1).f1) true) = some (r1, r2, r3) := by rw [if_neg (show ¬ (false = true) by decide)] at H; exact H
     clear H
     have H := H1
     clear H1
     have H' := Qa.mk H
     clear H
     have p123 : 0 ≤ (x10_1 : Int) := of_decide_eq_true (by assumption)
     have q123 : x10_1 < (l0.length : Int) := of_decide_eq_true (by assumption)
     obtain ⟨ad123, e123, hx123_0, hx123_1, hx123_2⟩ := at_T36 HR0.out x10_1 p123 q123
     cases e123
     replace hx123_0 := (HB.out.cell (World.block_lt_of_cell? w _ hx123_0)).trans hx123_0
     replace hx123_1 := (HB.out.cell (World.block_lt_of_cell? w _ hx123_1)).trans hx123_1
     replace hx123_2 := (HB.out.cell (World.block_lt_of_cell? w _ hx123_2)).trans hx123_2
     replace p123 := eq_true p123
     replace q123 := eq_true q123
     go_wp2_with (first | ((with_reducible refine Qg1 (N := 6) rfl ?_); refine Qh1 ?hg (N := 6) ?hd (cs := #[.bool false, .bool false, .bool false]) (t := 36) ?hr ?_; (case hd => rfl); (case hg => rfl); (case hr => first | (go_simp; done) | (go_simp; rfl)); intro gb124 hg w58 hbox hb; have n0_ := Qa.mk (Qs (g := gb121) (o := .cells #[.bool false, .bool false, .bool false] 36 (0, 0)) (by (with_reducible repeat (first | refine Qd ?_ _ | refine Qb ?_ | refine Qc ?_ _)); exact BK121.out) hb); have n1_ := Qa.mk (Qs (g := gb122) (o := .cells #[.bool true, .bool false, .bool true] 36 (0, 0)) (by (with_reducible repeat (first | refine Qd ?_ _ | refine Qb ?_ | refine Qc ?_ _)); exact BK122.out) hb); have n2_ := Qa.mk (Qv (by with_reducible repeat (first | exact HB.out | apply Qk | apply Ql | apply Qj | refine Qi ?_ GE121.out | refine Qi ?_ GE122.out)) hb); have n3_ := Qa.mk (hbox); have n4_ := Qa.mk ((by rw [hg]; exact (Qb1 (by with_reducible repeat (first | exact HB.out | apply Qk | apply Ql | apply Qj | refine Qi ?_ GE121.out | refine Qi ?_ GE122.out))) : w.heap.size ≤ gb124)); have n5_ := n4_; have n6_ := Qa.mk ((by rw [hg]; exact Nat.ne_of_lt (Qy (g := gb121) (o := .cells #[.bool false, .bool false, .bool false] 36 (0, 0)) (by (with_reducible repeat (first | refine Qd ?_ _ | refine Qb ?_ | refine Qc ?_ _)); exact BK121.out)) : gb121 ≠ gb124)); have n7_ := Qa.mk ((by rw [hg]; exact Nat.ne_of_gt (Qy (g := gb121) (o := .cells #[.bool false, .bool false, .bool false] 36 (0, 0)) (by (with_reducible repeat (first | refine Qd ?_ _ | refine Qb ?_ | refine Qc ?_ _)); exact BK121.out)) : gb124 ≠ gb121)); have n8_ := Qa.mk ((by rw [hg]; exact Nat.ne_of_lt (Qy (g := gb122) (o := .cells #[.bool true, .bool false, .bool true] 36 (0, 0)) (by (with_reducible repeat (first | refine Qd ?_ _ | refine Qb ?_ | refine Qc ?_ _)); exact BK122.out)) : gb122 ≠ gb124)); have n9_ := Qa.mk ((by rw [hg]; exact Nat.ne_of_gt (Qy (g := gb122) (o := .cells #[.bool true, .bool false, .bool true] 36 (0, 0)) (by (with_reducible repeat (first | refine Qd ?_ _ | refine Qb ?_ | refine Qc ?_ _)); exact BK122.out)) : gb124 ≠ gb122)); clear BK121; clear BK122; clear HB; have BK121 := n0_; have BK122 := n1_; have HB := n2_; have BK124 := n3_; have GW124 := n4_; have GE124 := n5_; have NB121_124 := n6_; have NB124_121 := n7_; have NB122_124 := n8_; have NB124_122 := n9_; clear n0_ n1_ n2_ n3_ n4_ n5_ n6_ n7_ n8_ n9_; clear hb hbox hg; have hnb59 := NB124_121.out; have hnc59 := NB121_124.out; have hnb60 := NB124_122.out; have hnc60 := NB122_124.out; have hcz61_0 : w58.cell? ⟨gb124, 0, none⟩ = some (.bool false) := (Qe BK124.out 0).trans rfl; have hcz61_1 : w58.cell? ⟨gb124, 1, none⟩ = some (.bool false) := (Qe BK124.out 1).trans rfl; have hcz61_2 : w58.cell? ⟨gb124, 2, none⟩ = some (.bool false) := (Qe BK124.out 2).trans rfl; have hfz61_0 := Qf BK124.out 0; have hfz61_1 := Qf BK124.out 1; have hfz61_2 := Qf BK124.out 2; have hnb62 := NB122_121.out; have hnc62 := NB121_122.out; have hcz63_0 : w58.cell? ⟨gb122, 0, none⟩ = some (.bool true) := (Qe BK122.out 0).trans rfl; have hcz63_1 : w58.cell? ⟨gb122, 1, none⟩ = some (.bool false) := (Qe BK122.out 1).trans rfl; have hcz63_2 : w58.cell? ⟨gb122, 2, none⟩ = some (.bool true) := (Qe BK122.out 2).trans rfl; have hfz63_0 := Qf BK122.out 0; have hfz63_1 := Qf BK122.out 1; have hfz63_2 := Qf BK122.out 2))
     go_roundg k1
     case measure => have := HK1.out; omega
     case rel => exact ⟨(false), (wrap64 (x10_1 + 1)), ((Qg l0 x10_1).f0), ((Qg l0 x10_1).f1), (true), (by first | rfl | (simp; done) | (simp [*]; done)), (by first | rfl | (simp; done) | (simp [*]; done)), H', ⟨by have := HK1.out; omega⟩, ⟨by (with_reducible repeat (first | refine Qd ?_ _ | refine Qb ?_ | refine Qc ?_ _)); refine Qn ?_ NB121_122.out _; (with_reducible repeat (first | refine Qd ?_ _ | refine Qb ?_ | refine Qc ?_ _)); refine Qn ?_ NB121_122.out _; (with_reducible repeat (first | refine Qd ?_ _ | refine Qb ?_ | refine Qc ?_ _)); refine Qn ?_ NB121_122.out _; (with_reducible repeat (first | refine Qd ?_ _ | refine Qb ?_ | refine Qc ?_ _)); refine Qn ?_ NB121_124.out _; (with_reducible repeat (first | refine Qd ?_ _ | refine Qb ?_ | refine Qc ?_ _)); refine Qn ?_ NB121_124.out _; (with_reducible repeat (first | refine Qd ?_ _ | refine Qb ?_ | refine Qc ?_ _)); refine Qn ?_ NB121_124.out _; (with_reducible repeat (first | refine Qd ?_ _ | refine Qb ?_ | refine Qc ?_ _)); exact BK121.out⟩, ⟨by (with_reducible repeat (first | refine Qd ?_ _ | refine Qb ?_ | refine Qc ?_ _)); refine Qt (cs := #[.bool ((Qg l0 x10_1).f0), .bool false, .bool true]) ?_ 1 _ rfl; (with_reducible repeat (first | refine Qd ?_ _ | refine Qb ?_ | refine Qc ?_ _)); refine Qt (cs := #[.bool true, .bool false, .bool true]) ?_ 0 _ rfl; (with_reducible repeat (first | refine Qd ?_ _ | refine Qb ?_ | refine Qc ?_ _)); refine Qt (cs := #[.bool true, .bool false, .bool true]) ?_ 2 _ rfl; (with_reducible repeat (first | refine Qd ?_ _ | refine Qb ?_ | refine Qc ?_ _)); refine Qn ?_ NB122_124.out _; (with_reducible repeat (first | refine Qd ?_ _ | refine Qb ?_ | refine Qc ?_ _)); refine Qn ?_ NB122_124.out _; (with_reducible repeat (first | refine Qd ?_ _ | refine Qb ?_ | refine Qc ?_ _)); refine Qn ?_ NB122_124.out _; (with_reducible repeat (first | refine Qd ?_ _ | refine Qb ?_ | refine Qc ?_ _)); exact BK122.out⟩, ⟨by with_reducible repeat (first | exact HB.out | apply Qk | apply Ql | apply Qj | refine Qi ?_ GE121.out | refine Qi ?_ GE122.out | refine Qi ?_ GE124.out)⟩⟩
    replace c50 := Bool.eq_false_iff.mpr c50
    subst c50
    have H1 : (if x123001_1 = true then (flow_seq.l0 k1 false l0 (l0.length : Int) (wrap64 (x10_1 + 1)) false true true) else (flow_seq.l0 k1 false l0 (l0.length : Int) (wrap64 (x10_1 + 1)) false ((Qg l0 x10_1).f1) true)) = some (r1, r2, r3) := by rw [if_neg (show ¬ (false = true) by decide)] at H; exact H
    clear H
    have H := H1
    clear H1
    by_cases c64 : x123001_1 = true
    ·
     subst c64
     have H1 : (flow_seq.l0 k1 false l0 (l0.length : Int) (wrap64 (x10_1 + 1)) false true true) = some (r1, r2, r3) := by rw [if_pos rfl] at H; exact H
     clear H
     have H := H1
     clear H1
     have H' := Qa.mk H
     clear H
     have p123 : 0 ≤ (x10_1 : Int) := of_decide_eq_true (by assumption)
     have q123 : x10_1 < (l0.length : Int) := of_decide_eq_true (by assumption)
     obtain ⟨ad123, e123, hx123_0, hx123_1, hx123_2⟩ := at_T36 HR0.out x10_1 p123 q123
     cases e123
     replace hx123_0 := (HB.out.cell (World.block_lt_of_cell? w _ hx123_0)).trans hx123_0
     replace hx123_1 := (HB.out.cell (World.block_lt_of_cell? w _ hx123_1)).trans hx123_1
     replace hx123_2 := (HB.out.cell (World.block_lt_of_cell? w _ hx123_2)).trans hx123_2
     replace p123 := eq_true p123
     replace q123 := eq_true q123
     go_wp2_with (first | ((with_reducible refine Qg1 (N := 6) rfl ?_); refine Qh1 ?hg (N := 6) ?hd (cs := #[.bool false, .bool false, .bool false]) (t := 36) ?hr ?_; (case hd => rfl); (case hg => rfl); (case hr => first | (go_simp; done) | (go_simp; rfl)); intro gb124 hg w65 hbox hb; have n0_ := Qa.mk (Qs (g := gb121) (o := .cells #[.bool false, .bool false, .bool false] 36 (0, 0)) (by (with_reducible repeat (first | refine Qd ?_ _ | refine Qb ?_ | refine Qc ?_ _)); exact BK121.out) hb); have n1_ := Qa.mk (Qs (g := gb122) (o := .cells #[.bool false, .bool true, .bool true] 36 (0, 0)) (by (with_reducible repeat (first | refine Qd ?_ _ | refine Qb ?_ | refine Qc ?_ _)); exact BK122.out) hb); have n2_ := Qa.mk (Qv (by with_reducible repeat (first | exact HB.out | apply Qk | apply Ql | apply Qj | refine Qi ?_ GE121.out | refine Qi ?_ GE122.out)) hb); have n3_ := Qa.mk (hbox); have n4_ := Qa.mk ((by rw [hg]; exact (Qb1 (by with_reducible repeat (first | exact HB.out | apply Qk | apply Ql | apply Qj | refine Qi ?_ GE121.out | refine Qi ?_ GE122.out))) : w.heap.size ≤ gb124)); have n5_ := n4_; have n6_ := Qa.mk ((by rw [hg]; exact Nat.ne_of_lt (Qy (g := gb121) (o := .cells #[.bool false, .bool false, .bool false] 36 (0, 0)) (by (with_reducible repeat (first | refine Qd ?_ _ | refine Qb ?_ | refine Qc ?_ _)); exact BK121.out)) : gb121 ≠ gb124)); have n7_ := Qa.mk ((by rw [hg]; exact Nat.ne_of_gt (Qy (g := gb121) (o := .cells #[.bool false, .bool false, .bool false] 36 (0, 0)) (by (with_reducible repeat (first | refine Qd ?_ _ | refine Qb ?_ | refine Qc ?_ _)); exact BK121.out)) : gb124 ≠ gb121)); have n8_ := Qa.mk ((by rw [hg]; exact Nat.ne_of_lt (Qy (g := gb122) (o := .cells #[.bool false, .bool true, .bool true] 36 (0, 0)) (by (with_reducible repeat (first | refine Qd ?_ _ | refine Qb ?_ | refine Qc ?_ _)); exact BK122.out)) : gb122 ≠ gb124)); have n9_ := Qa.mk ((by rw [hg]; exact Nat.ne_of_gt (Qy (g := gb122) (o := .cells #[.bool false, .bool true, .bool true] 36 (0, 0)) (by (with_reducible repeat (first | refine Qd ?_ _ | refine Qb ?_ | refine Qc ?_ _)); exact BK122.out)) : gb124 ≠ gb122)); clear BK121; clear BK122; clear HB; have BK121 := n0_; have BK122 := n1_; have HB := n2_; have BK124 := n3_; have GW124 := n4_; have GE124 := n5_; have NB121_124 := n6_; have NB124_121 := n7_; have NB122_124 := n8_; have NB124_122 := n9_; clear n0_ n1_ n2_ n3_ n4_ n5_ n6_ n7_ n8_ n9_; clear hb hbox hg; have hnb66 := NB124_121.out; have hnc66 := NB121_124.out; have hnb67 := NB124_122.out; have hnc67 := NB122_124.out; have hcz68_0 : w65.cell? ⟨gb124, 0, none⟩ = some (.bool false) := (Qe BK124.out 0).trans rfl; have hcz68_1 : w65.cell? ⟨gb124, 1, none⟩ = some (.bool false) := (Qe BK124.out 1).trans rfl; have hcz68_2 : w65.cell? ⟨gb124, 2, none⟩ = some (.bool false) := (Qe BK124.out 2).trans rfl; have hfz68_0 := Qf BK124.out 0; have hfz68_1 := Qf BK124.out 1; have hfz68_2 := Qf BK124.out 2; have hnb69 := NB122_121.out; have hnc69 := NB121_122.out; have hcz70_0 : w65.cell? ⟨gb122, 0, none⟩ = some (.bool false) := (Qe BK122.out 0).trans rfl; have hcz70_1 : w65.cell? ⟨gb122, 1, none⟩ = some (.bool true) := (Qe BK122.out 1).trans rfl; have hcz70_2 : w65.cell? ⟨gb122, 2, none⟩ = some (.bool true) := (Qe BK122.out 2).trans rfl; have hfz70_0 := Qf BK122.out 0; have hfz70_1 := Qf BK122.out 1; have hfz70_2 := Qf BK122.out 2))
     go_roundg k1
     case measure => have := HK1.out; omega
     case rel => exact ⟨(false), (wrap64 (x10_1 + 1)), (false), (true), (true), (by first | rfl | (simp; done) | (simp [*]; done)), (by first | rfl | (simp; done) | (simp [*]; done)), H', ⟨by have := HK1.out; omega⟩, ⟨by (with_reducible repeat (first | refine Qd ?_ _ | refine Qb ?_ | refine Qc ?_ _)); refine Qn ?_ NB121_122.out _; (with_reducible repeat (first | refine Qd ?_ _ | refine Qb ?_ | refine Qc ?_ _)); refine Qn ?_ NB121_122.out _; (with_reducible repeat (first | refine Qd ?_ _ | refine Qb ?_ | refine Qc ?_ _)); refine Qn ?_ NB121_122.out _; (with_reducible repeat (first | refine Qd ?_ _ | refine Qb ?_ | refine Qc ?_ _)); refine Qn ?_ NB121_124.out _; (with_reducible repeat (first | refine Qd ?_ _ | refine Qb ?_ | refine Qc ?_ _)); refine Qn ?_ NB121_124.out _; (with_reducible repeat (first | refine Qd ?_ _ | refine Qb ?_ | refine Qc ?_ _)); refine Qn ?_ NB121_124.out _; (with_reducible repeat (first | refine Qd ?_ _ | refine Qb ?_ | refine Qc ?_ _)); exact BK121.out⟩, ⟨by (with_reducible repeat (first | refine Qd ?_ _ | refine Qb ?_ | refine Qc ?_ _)); refine Qt (cs := #[.bool false, .bool true, .bool true]) ?_ 1 _ rfl; (with_reducible repeat (first | refine Qd ?_ _ | refine Qb ?_ | refine Qc ?_ _)); refine Qt (cs := #[.bool false, .bool true, .bool true]) ?_ 0 _ rfl; (with_reducible repeat (first | refine Qd ?_ _ | refine Qb ?_ | refine Qc ?_ _)); refine Qt (cs := #[.bool false, .bool true, .bool true]) ?_ 2 _ rfl; (with_reducible repeat (first | refine Qd ?_ _ | refine Qb ?_ | refine Qc ?_ _)); refine Qn ?_ NB122_124.out _; (with_reducible repeat (first | refine Qd ?_ _ | refine Qb ?_ | refine Qc ?_ _)); refine Qn ?_ NB122_124.out _; (with_reducible repeat (first | refine Qd ?_ _ | refine Qb ?_ | refine Qc ?_ _)); refine Qn ?_ NB122_124.out _; (with_reducible repeat (first | refine Qd ?_ _ | refine Qb ?_ | refine Qc ?_ _)); exact BK122.out⟩, ⟨by with_reducible repeat (first | exact HB.out | apply Qk | apply Ql | apply Qj | refine Qi ?_ GE121.out | refine Qi ?_ GE122.out | refine Qi ?_ GE124.out)⟩⟩
    replace c64 := Bool.eq_false_iff.mpr c64
    subst c64
    have H1 : (flow_seq.l0 k1 false l0 (l0.length : Int) (wrap64 (x10_1 + 1)) false ((Qg l0 x10_1).f1) true) = some (r1, r2, r3) := by rw [if_neg (show ¬ (false = true) by decide)] at H; exact H
    clear H
    have H := H1
    clear H1
    have H' := Qa.mk H
    clear H
    have p123 : 0 ≤ (x10_1 : Int) := of_decide_eq_true (by assumption)
    have q123 : x10_1 < (l0.length : Int) := of_decide_eq_true (by assumption)
    obtain ⟨ad123, e123, hx123_0, hx123_1, hx123_2⟩ := at_T36 HR0.out x10_1 p123 q123
    cases e123
    replace hx123_0 := (HB.out.cell (World.block_lt_of_cell? w _ hx123_0)).trans hx123_0
    replace hx123_1 := (HB.out.cell (World.block_lt_of_cell? w _ hx123_1)).trans hx123_1
    replace hx123_2 := (HB.out.cell (World.block_lt_of_cell? w _ hx123_2)).trans hx123_2
    replace p123 := eq_true p123
    replace q123 := eq_true q123
    go_wp2_with (first | ((with_reducible refine Qg1 (N := 6) rfl ?_); refine Qh1 ?hg (N := 6) ?hd (cs := #[.bool false, .bool false, .bool false]) (t := 36) ?hr ?_; (case hd => rfl); (case hg => rfl); (case hr => first | (go_simp; done) | (go_simp; rfl)); intro gb124 hg w71 hbox hb; have n0_ := Qa.mk (Qs (g := gb121) (o := .cells #[.bool false, .bool false, .bool false] 36 (0, 0)) (by (with_reducible repeat (first | refine Qd ?_ _ | refine Qb ?_ | refine Qc ?_ _)); exact BK121.out) hb); have n1_ := Qa.mk (Qs (g := gb122) (o := .cells #[.bool false, .bool false, .bool true] 36 (0, 0)) (by (with_reducible repeat (first | refine Qd ?_ _ | refine Qb ?_ | refine Qc ?_ _)); exact BK122.out) hb); have n2_ := Qa.mk (Qv (by with_reducible repeat (first | exact HB.out | apply Qk | apply Ql | apply Qj | refine Qi ?_ GE121.out | refine Qi ?_ GE122.out)) hb); have n3_ := Qa.mk (hbox); have n4_ := Qa.mk ((by rw [hg]; exact (Qb1 (by with_reducible repeat (first | exact HB.out | apply Qk | apply Ql | apply Qj | refine Qi ?_ GE121.out | refine Qi ?_ GE122.out))) : w.heap.size ≤ gb124)); have n5_ := n4_; have n6_ := Qa.mk ((by rw [hg]; exact Nat.ne_of_lt (Qy (g := gb121) (o := .cells #[.bool false, .bool false, .bool false] 36 (0, 0)) (by (with_reducible repeat (first | refine Qd ?_ _ | refine Qb ?_ | refine Qc ?_ _)); exact BK121.out)) : gb121 ≠ gb124)); have n7_ := Qa.mk ((by rw [hg]; exact Nat.ne_of_gt (Qy (g := gb121) (o := .cells #[.bool false, .bool false, .bool false] 36 (0, 0)) (by (with_reducible repeat (first | refine Qd ?_ _ | refine Qb ?_ | refine Qc ?_ _)); exact BK121.out)) : gb124 ≠ gb121)); have n8_ := Qa.mk ((by rw [hg]; exact Nat.ne_of_lt (Qy (g := gb122) (o := .cells #[.bool false, .bool false, .bool true] 36 (0, 0)) (by (with_reducible repeat (first | refine Qd ?_ _ | refine Qb ?_ | refine Qc ?_ _)); exact BK122.out)) : gb122 ≠ gb124)); have n9_ := Qa.mk ((by rw [hg]; exact Nat.ne_of_gt (Qy (g := gb122) (o := .cells #[.bool false, .bool false, .bool true] 36 (0, 0)) (by (with_reducible repeat (first | refine Qd ?_ _ | refine Qb ?_ | refine Qc ?_ _)); exact BK122.out)) : gb124 ≠ gb122)); clear BK121; clear BK122; clear HB; have BK121 := n0_; have BK122 := n1_; have HB := n2_; have BK124 := n3_; have GW124 := n4_; have GE124 := n5_; have NB121_124 := n6_; have NB124_121 := n7_; have NB122_124 := n8_; have NB124_122 := n9_; clear n0_ n1_ n2_ n3_ n4_ n5_ n6_ n7_ n8_ n9_; clear hb hbox hg; have hnb72 := NB124_121.out; have hnc72 := NB121_124.out; have hnb73 := NB124_122.out; have hnc73 := NB122_124.out; have hcz74_0 : w71.cell? ⟨gb124, 0, none⟩ = some (.bool false) := (Qe BK124.out 0).trans rfl; have hcz74_1 : w71.cell? ⟨gb124, 1, none⟩ = some (.bool false) := (Qe BK124.out 1).trans rfl; have hcz74_2 : w71.cell? ⟨gb124, 2, none⟩ = some (.bool false) := (Qe BK124.out 2).trans rfl; have hfz74_0 := Qf BK124.out 0; have hfz74_1 := Qf BK124.out 1; have hfz74_2 := Qf BK124.out 2; have hnb75 := NB122_121.out; have hnc75 := NB121_122.out; have hcz76_0 : w71.cell? ⟨gb122, 0, none⟩ = some (.bool false) := (Qe BK122.out 0).trans rfl; have hcz76_1 : w71.cell? ⟨gb122, 1, none⟩ = some (.bool false) := (Qe BK122.out 1).trans rfl; have hcz76_2 : w71.cell? ⟨gb122, 2, none⟩ = some (.bool true) := (Qe BK122.out 2).trans rfl; have hfz76_0 := Qf BK122.out 0; have hfz76_1 := Qf BK122.out 1; have hfz76_2 := Qf BK122.out 2))
    go_roundg k1
    case measure => have := HK1.out; omega
    case rel => exact ⟨(false), (wrap64 (x10_1 + 1)), (false), ((Qg l0 x10_1).f1), (true), (by first | rfl | (simp; done) | (simp [*]; done)), (by first | rfl | (simp; done) | (simp [*]; done)), H', ⟨by have := HK1.out; omega⟩, ⟨by (with_reducible repeat (first | refine Qd ?_ _ | refine Qb ?_ | refine Qc ?_ _)); refine Qn ?_ NB121_122.out _; (with_reducible repeat (first | refine Qd ?_ _ | refine Qb ?_ | refine Qc ?_ _)); refine Qn ?_ NB121_122.out _; (with_reducible repeat (first | refine Qd ?_ _ | refine Qb ?_ | refine Qc ?_ _)); refine Qn ?_ NB121_122.out _; (with_reducible repeat (first | refine Qd ?_ _ | refine Qb ?_ | refine Qc ?_ _)); refine Qn ?_ NB121_124.out _; (with_reducible repeat (first | refine Qd ?_ _ | refine Qb ?_ | refine Qc ?_ _)); refine Qn ?_ NB121_124.out _; (with_reducible repeat (first | refine Qd ?_ _ | refine Qb ?_ | refine Qc ?_ _)); refine Qn ?_ NB121_124.out _; (with_reducible repeat (first | refine Qd ?_ _ | refine Qb ?_ | refine Qc ?_ _)); exact BK121.out⟩, ⟨by (with_reducible repeat (first | refine Qd ?_ _ | refine Qb ?_ | refine Qc ?_ _)); refine Qt (cs := #[.bool false, .bool false, .bool true]) ?_ 1 _ rfl; (with_reducible repeat (first | refine Qd ?_ _ | refine Qb ?_ | refine Qc ?_ _)); refine Qt (cs := #[.bool false, .bool false, .bool true]) ?_ 0 _ rfl; (with_reducible repeat (first | refine Qd ?_ _ | refine Qb ?_ | refine Qc ?_ _)); refine Qt (cs := #[.bool false, .bool false, .bool true]) ?_ 2 _ rfl; (with_reducible repeat (first | refine Qd ?_ _ | refine Qb ?_ | refine Qc ?_ _)); refine Qn ?_ NB122_124.out _; (with_reducible repeat (first | refine Qd ?_ _ | refine Qb ?_ | refine Qc ?_ _)); refine Qn ?_ NB122_124.out _; (with_reducible repeat (first | refine Qd ?_ _ | refine Qb ?_ | refine Qc ?_ _)); refine Qn ?_ NB122_124.out _; (with_reducible repeat (first | refine Qd ?_ _ | refine Qb ?_ | refine Qc ?_ _)); exact BK122.out⟩, ⟨by with_reducible repeat (first | exact HB.out | apply Qk | apply Ql | apply Qj | refine Qi ?_ GE121.out | refine Qi ?_ GE122.out | refine Qi ?_ GE124.out)⟩⟩
   replace c9 := Bool.eq_false_iff.mpr c9
   subst c9
   have H1 : (if x4_1 = true then ((flow_Facts_ok.f ((Qg l0 x10_1).f0) ((Qg l0 x10_1).f1) ((Qg l0 x10_1).f2)).bind fun t126 => (if x123000_1 = true then (if x123001_1 = true then (flow_seq.l0 k1 t126 l0 (l0.length : Int) (wrap64 (x10_1 + 1)) ((Qg l0 x10_1).f0) true ((Qg l0 x10_1).f2)) else (flow_seq.l0 k1 t126 l0 (l0.length : Int) (wrap64 (x10_1 + 1)) ((Qg l0 x10_1).f0) ((Qg l0 x10_1).f1) ((Qg l0 x10_1).f2))) else (if x123001_1 = true then (flow_seq.l0 k1 t126 l0 (l0.length : Int) (wrap64 (x10_1 + 1)) false true ((Qg l0 x10_1).f2)) else (flow_seq.l0 k1 t126 l0 (l0.length : Int) (wrap64 (x10_1 + 1)) false ((Qg l0 x10_1).f1) ((Qg l0 x10_1).f2))))) else (if x123000_1 = true then (if x123001_1 = true then (flow_seq.l0 k1 false l0 (l0.length : Int) (wrap64 (x10_1 + 1)) ((Qg l0 x10_1).f0) true false) else (flow_seq.l0 k1 false l0 (l0.length : Int) (wrap64 (x10_1 + 1)) ((Qg l0 x10_1).f0) ((Qg l0 x10_1).f1) false)) else (if x123001_1 = true then (flow_seq.l0 k1 false l0 (l0.length : Int) (wrap64 (x10_1 + 1)) false true false) else (flow_seq.l0 k1 false l0 (l0.length : Int) (wrap64 (x10_1 + 1)) false ((Qg l0 x10_1).f1) false)))) = some (r1, r2, r3) := by rw [if_neg (show ¬ (false = true) by decide)] at H; exact H
   clear H
   have H := H1
   clear H1
   by_cases c77 : x4_1 = true
   ·
    subst c77
    have H1 : ((flow_Facts_ok.f ((Qg l0 x10_1).f0) ((Qg l0 x10_1).f1) ((Qg l0 x10_1).f2)).bind fun t126 => (if x123000_1 = true then (if x123001_1 = true then (flow_seq.l0 k1 t126 l0 (l0.length : Int) (wrap64 (x10_1 + 1)) ((Qg l0 x10_1).f0) true ((Qg l0 x10_1).f2)) else (flow_seq.l0 k1 t126 l0 (l0.length : Int) (wrap64 (x10_1 + 1)) ((Qg l0 x10_1).f0) ((Qg l0 x10_1).f1) ((Qg l0 x10_1).f2))) else (if x123001_1 = true then (flow_seq.l0 k1 t126 l0 (l0.length : Int) (wrap64 (x10_1 + 1)) false true ((Qg l0 x10_1).f2)) else (flow_seq.l0 k1 t126 l0 (l0.length : Int) (wrap64 (x10_1 + 1)) false ((Qg l0 x10_1).f1) ((Qg l0 x10_1).f2))))) = some (r1, r2, r3) := by rw [if_pos rfl] at H; exact H
    clear H
    have H := H1
    clear H1
    replace H := Option.bind_eq_some_iff.mp H
    obtain ⟨t126, A780, H⟩ := H
    replace H : (if x123000_1 = true then (if x123001_1 = true then (flow_seq.l0 k1 t126 l0 (l0.length : Int) (wrap64 (x10_1 + 1)) ((Qg l0 x10_1).f0) true ((Qg l0 x10_1).f2)) else (flow_seq.l0 k1 t126 l0 (l0.length : Int) (wrap64 (x10_1 + 1)) ((Qg l0 x10_1).f0) ((Qg l0 x10_1).f1) ((Qg l0 x10_1).f2))) else (if x123001_1 = true then (flow_seq.l0 k1 t126 l0 (l0.length : Int) (wrap64 (x10_1 + 1)) false true ((Qg l0 x10_1).f2)) else (flow_seq.l0 k1 t126 l0 (l0.length : Int) (wrap64 (x10_1 + 1)) false ((Qg l0 x10_1).f1) ((Qg l0 x10_1).f2)))) = some (r1, r2, r3) := H
    have A78 := Qa.mk A780
    clear A780
    by_cases c79 : x123000_1 = true
    ·
     subst c79
     have H1 : (if x123001_1 = true then (flow_seq.l0 k1 t126 l0 (l0.length : Int) (wrap64 (x10_1 + 1)) ((Qg l0 x10_1).f0) true ((Qg l0 x10_1).f2)) else (flow_seq.l0 k1 t126 l0 (l0.length : Int) (wrap64 (x10_1 + 1)) ((Qg l0 x10_1).f0) ((Qg l0 x10_1).f1) ((Qg l0 x10_1).f2))) = some (r1, r2, r3) := by rw [if_pos rfl] at H; exact H
     clear H
     have H := H1
     clear H1
     by_cases c80 : x123001_1 = true
     ·
      subst c80
      have H1 : (flow_seq.l0 k1 t126 l0 (l0.length : Int) (wrap64 (x10_1 + 1)) ((Qg l0 x10_1).f0) true ((Qg l0 x10_1).f2)) = some (r1, r2, r3) := by rw [if_pos rfl] at H; exact H
      clear H
      have H := H1
      clear H1
      have H' := Qa.mk H
      clear H
      have p123 : 0 ≤ (x10_1 : Int) := of_decide_eq_true (by assumption)
      have q123 : x10_1 < (l0.length : Int) := of_decide_eq_true (by assumption)
      obtain ⟨ad123, e123, hx123_0, hx123_1, hx123_2⟩ := at_T36 HR0.out x10_1 p123 q123
      cases e123
      replace hx123_0 := (HB.out.cell (World.block_lt_of_cell? w _ hx123_0)).trans hx123_0
      replace hx123_1 := (HB.out.cell (World.block_lt_of_cell? w _ hx123_1)).trans hx123_1
      replace hx123_2 := (HB.out.cell (World.block_lt_of_cell? w _ hx123_2)).trans hx123_2
      replace p123 := eq_true p123
      replace q123 := eq_true q123
      go_wp2_with (first | ((with_reducible refine Qg1 (N := 6) rfl ?_); refine Qh1 ?hg (N := 6) ?hd (cs := #[.bool false, .bool false, .bool false]) (t := 36) ?hr ?_; (case hd => rfl); (case hg => rfl); (case hr => first | (go_simp; done) | (go_simp; rfl)); intro gb124 hg w81 hbox hb; have n0_ := Qa.mk (Qs (g := gb121) (o := .cells #[.bool false, .bool false, .bool false] 36 (0, 0)) (by (with_reducible repeat (first | refine Qd ?_ _ | refine Qb ?_ | refine Qc ?_ _)); exact BK121.out) hb); have n1_ := Qa.mk (Qs (g := gb122) (o := .cells #[.bool true, .bool true, .bool false] 36 (0, 0)) (by (with_reducible repeat (first | refine Qd ?_ _ | refine Qb ?_ | refine Qc ?_ _)); exact BK122.out) hb); have n2_ := Qa.mk (Qv (by with_reducible repeat (first | exact HB.out | apply Qk | apply Ql | apply Qj | refine Qi ?_ GE121.out | refine Qi ?_ GE122.out)) hb); have n3_ := Qa.mk (hbox); have n4_ := Qa.mk ((by rw [hg]; exact (Qb1 (by with_reducible repeat (first | exact HB.out | apply Qk | apply Ql | apply Qj | refine Qi ?_ GE121.out | refine Qi ?_ GE122.out))) : w.heap.size ≤ gb124)); have n5_ := n4_; have n6_ := Qa.mk ((by rw [hg]; exact Nat.ne_of_lt (Qy (g := gb121) (o := .cells #[.bool false, .bool false, .bool false] 36 (0, 0)) (by (with_reducible repeat (first | refine Qd ?_ _ | refine Qb ?_ | refine Qc ?_ _)); exact BK121.out)) : gb121 ≠ gb124)); have n7_ := Qa.mk ((by rw [hg]; exact Nat.ne_of_gt (Qy (g := gb121) (o := .cells #[.bool false, .bool false, .bool false] 36 (0, 0)) (by (with_reducible repeat (first | refine Qd ?_ _ | refine Qb ?_ | refine Qc ?_ _)); exact BK121.out)) : gb124 ≠ gb121)); have n8_ := Qa.mk ((by rw [hg]; exact Nat.ne_of_lt (Qy (g := gb122) (o := .cells #[.bool true, .bool true, .bool false] 36 (0, 0)) (by (with_reducible repeat (first | refine Qd ?_ _ | refine Qb ?_ | refine Qc ?_ _)); exact BK122.out)) : gb122 ≠ gb124)); have n9_ := Qa.mk ((by rw [hg]; exact Nat.ne_of_gt (Qy (g := gb122) (o := .cells #[.bool true, .bool true, .bool false] 36 (0, 0)) (by (with_reducible repeat (first | refine Qd ?_ _ | refine Qb ?_ | refine Qc ?_ _)); exact BK122.out)) : gb124 ≠ gb122)); clear BK121; clear BK122; clear HB; have BK121 := n0_; have BK122 := n1_; have HB := n2_; have BK124 := n3_; have GW124 := n4_; have GE124 := n5_; have NB121_124 := n6_; have NB124_121 := n7_; have NB122_124 := n8_; have NB124_122 := n9_; clear n0_ n1_ n2_ n3_ n4_ n5_ n6_ n7_ n8_ n9_; clear hb hbox hg; have hnb82 := NB124_121.out; have hnc82 := NB121_124.out; have hnb83 := NB124_122.out; have hnc83 := NB122_124.out; have hcz84_0 : w81.cell? ⟨gb124, 0, none⟩ = some (.bool false) := (Qe BK124.out 0).trans rfl; have hcz84_1 : w81.cell? ⟨gb124, 1, none⟩ = some (.bool false) := (Qe BK124.out 1).trans rfl; have hcz84_2 : w81.cell? ⟨gb124, 2, none⟩ = some (.bool false) := (Qe BK124.out 2).trans rfl; have hfz84_0 := Qf BK124.out 0; have hfz84_1 := Qf BK124.out 1; have hfz84_2 := Qf BK124.out 2; have hnb85 := NB122_121.out; have hnc85 := NB121_122.out; have hcz86_0 : w81.cell? ⟨gb122, 0, none⟩ = some (.bool true) := (Qe BK122.out 0).trans rfl; have hcz86_1 : w81.cell? ⟨gb122, 1, none⟩ = some (.bool true) := (Qe BK122.out 1).trans rfl; have hcz86_2 : w81.cell? ⟨gb122, 2, none⟩ = some (.bool false) := (Qe BK122.out 2).trans rfl; have hfz86_0 := Qf BK122.out 0; have hfz86_1 := Qf BK122.out 1; have hfz86_2 := Qf BK122.out 2) | (go_at_call 40; (with_reducible refine (flow_Facts_ok.calls ((Qg l0 x10_1).f0) ((Qg l0 x10_1).f1) ((Qg l0 x10_1).f2) t126 _ A78.out).mono ?_); rintro e w87 ⟨rfl, hb⟩; have n0_ := Qa.mk (Qs (g := gb121) (o := .cells #[.bool false, .bool false, .bool false] 36 (0, 0)) (by (with_reducible repeat (first | refine Qd ?_ _ | refine Qb ?_ | refine Qc ?_ _)); refine Qn ?_ NB121_122.out _; (with_reducible repeat (first | refine Qd ?_ _ | refine Qb ?_ | refine Qc ?_ _)); refine Qn ?_ NB121_124.out _; (with_reducible repeat (first | refine Qd ?_ _ | refine Qb ?_ | refine Qc ?_ _)); refine Qn ?_ NB121_124.out _; (with_reducible repeat (first | refine Qd ?_ _ | refine Qb ?_ | refine Qc ?_ _)); refine Qn ?_ NB121_124.out _; (with_reducible repeat (first | refine Qd ?_ _ | refine Qb ?_ | refine Qc ?_ _)); exact BK121.out) hb); have n1_ := Qa.mk (Qs (g := gb122) (o := .cells #[.bool true, .bool true, .bool ((Qg l0 x10_1).f2)] 36 (0, 0)) (by (with_reducible repeat (first | refine Qd ?_ _ | refine Qb ?_ | refine Qc ?_ _)); refine Qt (cs := #[.bool true, .bool true, .bool false]) ?_ 2 _ rfl; (with_reducible repeat (first | refine Qd ?_ _ | refine Qb ?_ | refine Qc ?_ _)); refine Qn ?_ NB122_124.out _; (with_reducible repeat (first | refine Qd ?_ _ | refine Qb ?_ | refine Qc ?_ _)); refine Qn ?_ NB122_124.out _; (with_reducible repeat (first | refine Qd ?_ _ | refine Qb ?_ | refine Qc ?_ _)); refine Qn ?_ NB122_124.out _; (with_reducible repeat (first | refine Qd ?_ _ | refine Qb ?_ | refine Qc ?_ _)); exact BK122.out) hb); have n2_ := Qa.mk (Qs (g := gb124) (o := .cells #[.bool ((Qg l0 x10_1).f0), .bool ((Qg l0 x10_1).f1), .bool ((Qg l0 x10_1).f2)] 36 (0, 0)) (by (with_reducible repeat (first | refine Qd ?_ _ | refine Qb ?_ | refine Qc ?_ _)); refine Qn ?_ NB124_122.out _; (with_reducible repeat (first | refine Qd ?_ _ | refine Qb ?_ | refine Qc ?_ _)); refine Qt (cs := #[.bool ((Qg l0 x10_1).f0), .bool ((Qg l0 x10_1).f1), .bool false]) ?_ 2 _ rfl; (with_reducible repeat (first | refine Qd ?_ _ | refine Qb ?_ | refine Qc ?_ _)); refine Qt (cs := #[.bool ((Qg l0 x10_1).f0), .bool false, .bool false]) ?_ 1 _ rfl; (with_reducible repeat (first | refine Qd ?_ _ | refine Qb ?_ | refine Qc ?_ _)); refine Qt (cs := #[.bool false, .bool false, .bool false]) ?_ 0 _ rfl; (with_reducible repeat (first | refine Qd ?_ _ | refine Qb ?_ | refine Qc ?_ _)); exact BK124.out) hb); have n3_ := Qa.mk (Qv (by with_reducible repeat (first | exact HB.out | apply Qk | apply Ql | apply Qj | refine Qi ?_ GE121.out | refine Qi ?_ GE122.out | refine Qi ?_ GE124.out)) hb); clear BK121; clear BK122; clear BK124; clear HB; have BK121 := n0_; have BK122 := n1_; have BK124 := n2_; have HB := n3_; clear n0_ n1_ n2_ n3_; (try clear hb); (try clear hb2); (try clear hk); (try clear hi); have hcz88_0 : w87.cell? ⟨gb122, 0, none⟩ = some (.bool true) := (Qe BK122.out 0).trans rfl; have hcz88_1 : w87.cell? ⟨gb122, 1, none⟩ = some (.bool true) := (Qe BK122.out 1).trans rfl; have hcz88_2 : w87.cell? ⟨gb122, 2, none⟩ = some (.bool ((Qg l0 x10_1).f2)) := (Qe BK122.out 2).trans rfl; have hfz88_0 := Qf BK122.out 0; have hfz88_1 := Qf BK122.out 1; have hfz88_2 := Qf BK122.out 2; have hcz89_0 : w87.cell? ⟨gb124, 0, none⟩ = some (.bool ((Qg l0 x10_1).f0)) := (Qe BK124.out 0).trans rfl; have hcz89_1 : w87.cell? ⟨gb124, 1, none⟩ = some (.bool ((Qg l0 x10_1).f1)) := (Qe BK124.out 1).trans rfl; have hcz89_2 : w87.cell? ⟨gb124, 2, none⟩ = some (.bool ((Qg l0 x10_1).f2)) := (Qe BK124.out 2).trans rfl; have hfz89_0 := Qf BK124.out 0; have hfz89_1 := Qf BK124.out 1; have hfz89_2 := Qf BK124.out 2))
      go_roundg k1
      case measure => have := HK1.out; omega
      case rel => exact ⟨(t126), (wrap64 (x10_1 + 1)), ((Qg l0 x10_1).f0), (true), ((Qg l0 x10_1).f2), (by first | rfl | (simp; done) | (simp [*]; done)), (by first | rfl | (simp; done) | (simp [*]; done)), H', ⟨by have := HK1.out; omega⟩, ⟨by (with_reducible repeat (first | refine Qd ?_ _ | refine Qb ?_ | refine Qc ?_ _)); refine Qn ?_ NB121_122.out _; (with_reducible repeat (first | refine Qd ?_ _ | refine Qb ?_ | refine Qc ?_ _)); refine Qn ?_ NB121_122.out _; (with_reducible repeat (first | refine Qd ?_ _ | refine Qb ?_ | refine Qc ?_ _)); exact BK121.out⟩, ⟨by (with_reducible repeat (first | refine Qd ?_ _ | refine Qb ?_ | refine Qc ?_ _)); refine Qt (cs := #[.bool ((Qg l0 x10_1).f0), .bool true, .bool ((Qg l0 x10_1).f2)]) ?_ 1 _ rfl; (with_reducible repeat (first | refine Qd ?_ _ | refine Qb ?_ | refine Qc ?_ _)); refine Qt (cs := #[.bool true, .bool true, .bool ((Qg l0 x10_1).f2)]) ?_ 0 _ rfl; (with_reducible repeat (first | refine Qd ?_ _ | refine Qb ?_ | refine Qc ?_ _)); exact BK122.out⟩, ⟨by with_reducible repeat (first | exact HB.out | apply Qk | apply Ql | apply Qj | refine Qi ?_ GE121.out | refine Qi ?_ GE122.out | refine Qi ?_ GE124.out)⟩⟩
     replace c80 := Bool.eq_false_iff.mpr c80
     subst c80
     have H1 : (flow_seq.l0 k1 t126 l0 (l0.length : Int) (wrap64 (x10_1 + 1)) ((Qg l0 x10_1).f0) ((Qg l0 x10_1).f1) ((Qg l0 x10_1).f2)) = some (r1, r2, r3) := by rw [if_neg (show ¬ (false = true) by decide)] at H; exact H
     clear H
     have H := H1
     clear H1
     have H' := Qa.mk H
     clear H
     have p123 : 0 ≤ (x10_1 : Int) := of_decide_eq_true (by assumption)
     have q123 : x10_1 < (l0.length : Int) := of_decide_eq_true (by assumption)
     obtain ⟨ad123, e123, hx123_0, hx123_1, hx123_2⟩ := at_T36 HR0.out x10_1 p123 q123
     cases e123
     replace hx123_0 := (HB.out.cell (World.block_lt_of_cell? w _ hx123_0)).trans hx123_0
     replace hx123_1 := (HB.out.cell (World.block_lt_of_cell? w _ hx123_1)).trans hx123_1
     replace hx123_2 := (HB.out.cell (World.block_lt_of_cell? w _ hx123_2)).trans hx123_2
     replace p123 := eq_true p123
     replace q123 := eq_true q123
     go_wp2_with (first | ((with_reducible refine Qg1 (N := 6) rfl ?_); refine Qh1 ?hg (N := 6) ?hd (cs := #[.bool false, .bool false, .bool false]) (t := 36) ?hr ?_; (case hd => rfl); (case hg => rfl); (case hr => first | (go_simp; done) | (go_simp; rfl)); intro gb124 hg w90 hbox hb; have n0_ := Qa.mk (Qs (g := gb121) (o := .cells #[.bool false, .bool false, .bool false] 36 (0, 0)) (by (with_reducible repeat (first | refine Qd ?_ _ | refine Qb ?_ | refine Qc ?_ _)); exact BK121.out) hb); have n1_ := Qa.mk (Qs (g := gb122) (o := .cells #[.bool true, .bool false, .bool false] 36 (0, 0)) (by (with_reducible repeat (first | refine Qd ?_ _ | refine Qb ?_ | refine Qc ?_ _)); exact BK122.out) hb); have n2_ := Qa.mk (Qv (by with_reducible repeat (first | exact HB.out | apply Qk | apply Ql | apply Qj | refine Qi ?_ GE121.out | refine Qi ?_ GE122.out)) hb); have n3_ := Qa.mk (hbox); have n4_ := Qa.mk ((by rw [hg]; exact (Qb1 (by with_reducible repeat (first | exact HB.out | apply Qk | apply Ql | apply Qj | refine Qi ?_ GE121.out | refine Qi ?_ GE122.out))) : w.heap.size ≤ gb124)); have n5_ := n4_; have n6_ := Qa.mk ((by rw [hg]; exact Nat.ne_of_lt (Qy (g := gb121) (o := .cells #[.bool false, .bool false, .bool false] 36 (0, 0)) (by (with_reducible repeat (first | refine Qd ?_ _ | refine Qb ?_ | refine Qc ?_ _)); exact BK121.out)) : gb121 ≠ gb124)); have n7_ := Qa.mk ((by rw [hg]; exact Nat.ne_of_gt (Qy (g := gb121) (o := .cells #[.bool false, .bool false, .bool false] 36 (0, 0)) (by (with_reducible repeat (first | refine Qd ?_ _ | refine Qb ?_ | refine Qc ?_ _)); exact BK121.out)) : gb124 ≠ gb121)); have n8_ := Qa.mk ((by rw [hg]; exact Nat.ne_of_lt (Qy (g := gb122) (o := .cells #[.bool true, .bool false, .bool false] 36 (0, 0)) (by (with_reducible repeat (first | refine Qd ?_ _ | refine Qb ?_ | refine Qc ?_ _)); exact BK122.out)) : gb122 ≠ gb124)); have n9_ := Qa.mk ((by rw [hg]; exact Nat.ne_of_gt (Qy (g := gb122) (o := .cells #[.bool true, .bool false, .bool false] 36 (0, 0)) (by (with_reducible repeat (first | refine Qd ?_ _ | refine Qb ?_ | refine Qc ?_ _)); exact BK122.out)) : gb124 ≠ gb122)); clear BK121; clear BK122; clear HB; have BK121 := n0_; have BK122 := n1_; have HB := n2_; have BK124 := n3_; have GW124 := n4_; have GE124 := n5_; have NB121_124 := n6_; have NB124_121 := n7_; have NB122_124 := n8_; have NB124_122 := n9_; clear n0_ n1_ n2_ n3_ n4_ n5_ n6_ n7_ n8_ n9_; clear hb hbox hg; have hnb91 := NB124_121.out; have hnc91 := NB121_124.out; have hnb92 := NB124_122.out; have hnc92 := NB122_124.out; have hcz93_0 : w90.cell? ⟨gb124, 0, none⟩ = some (.bool false) := (Qe BK124.out 0).trans rfl; have hcz93_1 : w90.cell? ⟨gb124, 1, none⟩ = some (.bool false) := (Qe BK124.out 1).trans rfl; have hcz93_2 : w90.cell? ⟨gb124, 2, none⟩ = some (.bool false) := (Qe BK124.out 2).trans rfl; have hfz93_0 := Qf BK124.out 0; have hfz93_1 := Qf BK124.out 1; have hfz93_2 := Qf BK124.out 2; have hnb94 := NB122_121.out; have hnc94 := NB121_122.out; have hcz95_0 : w90.cell? ⟨gb122, 0, none⟩ = some (.bool true) := (Qe BK122.out 0).trans rfl; have hcz95_1 : w90.cell? ⟨gb122, 1, none⟩ = some (.bool false) := (Qe BK122.out 1).trans rfl; have hcz95_2 : w90.cell? ⟨gb122, 2, none⟩ = some (.bool false) := (Qe BK122.out 2).trans rfl; have hfz95_0 := Qf BK122.out 0; have hfz95_1 := Qf BK122.out 1; have hfz95_2 := Qf BK122.out 2) | (go_at_call 40; (with_reducible refine (flow_Facts_ok.calls ((Qg l0 x10_1).f0) ((Qg l0 x10_1).f1) ((Qg l0 x10_1).f2) t126 _ A78.out).mono ?_); rintro e w96 ⟨rfl, hb⟩; have n0_ := Qa.mk (Qs (g := gb121) (o := .cells #[.bool false, .bool false, .bool false] 36 (0, 0)) (by (with_reducible repeat (first | refine Qd ?_ _ | refine Qb ?_ | refine Qc ?_ _)); refine Qn ?_ NB121_122.out _; (with_reducible repeat (first | refine Qd ?_ _ | refine Qb ?_ | refine Qc ?_ _)); refine Qn ?_ NB121_124.out _; (with_reducible repeat (first | refine Qd ?_ _ | refine Qb ?_ | refine Qc ?_ _)); refine Qn ?_ NB121_124.out _; (with_reducible repeat (first | refine Qd ?_ _ | refine Qb ?_ | refine Qc ?_ _)); refine Qn ?_ NB121_124.out _; (with_reducible repeat (first | refine Qd ?_ _ | refine Qb ?_ | refine Qc ?_ _)); exact BK121.out) hb); have n1_ := Qa.mk (Qs (g := gb122) (o := .cells #[.bool true, .bool false, .bool ((Qg l0 x10_1).f2)] 36 (0, 0)) (by (with_reducible repeat (first | refine Qd ?_ _ | refine Qb ?_ | refine Qc ?_ _)); refine Qt (cs := #[.bool true, .bool false, .bool false]) ?_ 2 _ rfl; (with_reducible repeat (first | refine Qd ?_ _ | refine Qb ?_ | refine Qc ?_ _)); refine Qn ?_ NB122_124.out _; (with_reducible repeat (first | refine Qd ?_ _ | refine Qb ?_ | refine Qc ?_ _)); refine Qn ?_ NB122_124.out _; (with_reducible repeat (first | refine Qd ?_ _ | refine Qb ?_ | refine Qc ?_ _)); refine Qn ?_ NB122_124.out _; (with_reducible repeat (first | refine Qd ?_ _ | refine Qb ?_ | refine Qc ?_ _)); exact BK122.out) hb); have n2_ := Qa.mk (Qs (g := gb124) (o := .cells #[.bool ((Qg l0 x10_1).f0), .bool ((Qg l0 x10_1).f1), .bool ((Qg l0 x10_1).f2)] 36 (0, 0)) (by (with_reducible repeat (first | refine Qd ?_ _ | refine Qb ?_ | refine Qc ?_ _)); refine Qn ?_ NB124_122.out _; (with_reducible repeat (first | refine Qd ?_ _ | refine Qb ?_ | refine Qc ?_ _)); refine Qt (cs := #[.bool ((Qg l0 x10_1).f0), .bool ((Qg l0 x10_1).f1), .bool false]) ?_ 2 _ rfl; (with_reducible repeat (first | refine Qd ?_ _ | refine Qb ?_ | refine Qc ?_ _)); refine Qt (cs := #[.bool ((Qg l0 x10_1).f0), .bool false, .bool false]) ?_ 1 _ rfl; (with_reducible repeat (first | refine Qd ?_ _ | refine Qb ?_ | refine Qc ?_ _)); refine Qt (cs := #[.bool false, .bool false, .bool false]) ?_ 0 _ rfl; (with_reducible repeat (first | refine Qd ?_ _ | refine Qb ?_ | refine Qc ?_ _)); exact BK124.out) hb); have n3_ := Qa.mk (Qv (by with_reducible repeat (first | exact HB.out | apply Qk | apply Ql | apply Qj | refine Qi ?_ GE121.out | refine Qi ?_ GE122.out | refine Qi ?_ GE124.out)) hb); clear BK121; clear BK122; clear BK124; clear HB; have BK121 := n0_; have BK122 := n1_; have BK124 := n2_; have HB := n3_; clear n0_ n1_ n2_ n3_; (try clear hb); (try clear hb2); (try clear hk); (try clear hi); have hcz97_0 : w96.cell? ⟨gb122, 0, none⟩ = some (.bool true) := (Qe BK122.out 0).trans rfl; have hcz97_1 : w96.cell? ⟨gb122, 1, none⟩ = some (.bool false) := (Qe BK122.out 1).trans rfl; have hcz97_2 : w96.cell? ⟨gb122, 2, none⟩ = some (.bool ((Qg l0 x10_1).f2)) := (Qe BK122.out 2).trans rfl; have hfz97_0 := Qf BK122.out 0; have hfz97_1 := Qf BK122.out 1; have hfz97_2 := Qf BK122.out 2; have hcz98_0 : w96.cell? ⟨gb124, 0, none⟩ = some (.bool ((Qg l0 x10_1).f0)) := (Qe BK124.out 0).trans rfl; have hcz98_1 : w96.cell? ⟨gb124, 1, none⟩ = some (.bool ((Qg l0 x10_1).f1)) := (Qe BK124.out 1).trans rfl; have hcz98_2 : w96.cell? ⟨gb124, 2, none⟩ = some (.bool ((Qg l0 x10_1).f2)) := (Qe BK124.out 2).trans rfl; have hfz98_0 := Qf BK124.out 0; have hfz98_1 := Qf BK124.out 1; have hfz98_2 := Qf BK124.out 2))
     go_roundg k1
     case measure => have := HK1.out; omega
     case rel => exact ⟨(t126), (wrap64 (x10_1 + 1)), ((Qg l0 x10_1).f0), ((Qg l0 x10_1).f1), ((Qg l0 x10_1).f2), (by first | rfl | (simp; done) | (simp [*]; done)), (by first | rfl | (simp; done) | (simp [*]; done)), H', ⟨by have := HK1.out; omega⟩, ⟨by (with_reducible repeat (first | refine Qd ?_ _ | refine Qb ?_ | refine Qc ?_ _)); refine Qn ?_ NB121_122.out _; (with_reducible repeat (first | refine Qd ?_ _ | refine Qb ?_ | refine Qc ?_ _)); refine Qn ?_ NB121_122.out _; (with_reducible repeat (first | refine Qd ?_ _ | refine Qb ?_ | refine Qc ?_ _)); exact BK121.out⟩, ⟨by (with_reducible repeat (first | refine Qd ?_ _ | refine Qb ?_ | refine Qc ?_ _)); refine Qt (cs := #[.bool ((Qg l0 x10_1).f0), .bool false, .bool ((Qg l0 x10_1).f2)]) ?_ 1 _ rfl; (with_reducible repeat (first | refine Qd ?_ _ | refine Qb ?_ | refine Qc ?_ _)); refine Qt (cs := #[.bool true, .bool false, .bool ((Qg l0 x10_1).f2)]) ?_ 0 _ rfl; (with_reducible repeat (first | refine Qd ?_ _ | refine Qb ?_ | refine Qc ?_ _)); exact BK122.out⟩, ⟨by with_reducible repeat (first | exact HB.out | apply Qk | apply Ql | apply Qj | refine Qi ?_ GE121.out | refine Qi ?_ GE122.out | refine Qi ?_ GE124.out)⟩⟩
    replace c79 := Bool.eq_false_iff.mpr c79
    subst c79
    have H1 : (if x123001_1 = true then (flow_seq.l0 k1 t126 l0 (l0.length : Int) (wrap64 (x10_1 + 1)) false true ((Qg l0 x10_1).f2)) else (flow_seq.l0 k1 t126 l0 (l0.length : Int) (wrap64 (x10_1 + 1)) false ((Qg l0 x10_1).f1) ((Qg l0 x10_1).f2))) = some (r1, r2, r3) := by rw [if_neg (show ¬ (false = true) by decide)] at H; exact H
    clear H
    have H := H1
    clear H1
    by_cases c99 : x123001_1 = true
    ·
     subst c99
     have H1 : (flow_seq.l0 k1 t126 l0 (l0.length : Int) (wrap64 (x10_1 + 1)) false true ((Qg l0 x10_1).f2)) = some (r1, r2, r3) := by rw [if_pos rfl] at H; exact H
     clear H
     have H := H1
     clear H1
     have H' := Qa.mk H
     clear H
     have p123 : 0 ≤ (x10_1 : Int) := of_decide_eq_true (by assumption)
     have q123 : x10_1 < (l0.length : Int) := of_decide_eq_true (by assumption)
     obtain ⟨ad123, e123, hx123_0, hx123_1, hx123_2⟩ := at_T36 HR0.out x10_1 p123 q123
     cases e123
     replace hx123_0 := (HB.out.cell (World.block_lt_of_cell? w _ hx123_0)).trans hx123_0
     replace hx123_1 := (HB.out.cell (World.block_lt_of_cell? w _ hx123_1)).trans hx123_1
     replace hx123_2 := (HB.out.cell (World.block_lt_of_cell? w _ hx123_2)).trans hx123_2
     replace p123 := eq_true p123
     replace q123 := eq_true q123
     go_wp2_with (first | ((with_reducible refine Qg1 (N := 6) rfl ?_); refine Qh1 ?hg (N := 6) ?hd (cs := #[.bool false, .bool false, .bool false]) (t := 36) ?hr ?_; (case hd => rfl); (case hg => rfl); (case hr => first | (go_simp; done) | (go_simp; rfl)); intro gb124 hg w100 hbox hb; have n0_ := Qa.mk (Qs (g := gb121) (o := .cells #[.bool false, .bool false, .bool false] 36 (0, 0)) (by (with_reducible repeat (first | refine Qd ?_ _ | refine Qb ?_ | refine Qc ?_ _)); exact BK121.out) hb); have n1_ := Qa.mk (Qs (g := gb122) (o := .cells #[.bool false, .bool true, .bool false] 36 (0, 0)) (by (with_reducible repeat (first | refine Qd ?_ _ | refine Qb ?_ | refine Qc ?_ _)); exact BK122.out) hb); have n2_ := Qa.mk (Qv (by with_reducible repeat (first | exact HB.out | apply Qk | apply Ql | apply Qj | refine Qi ?_ GE121.out | refine Qi ?_ GE122.out)) hb); have n3_ := Qa.mk (hbox); have n4_ := Qa.mk ((by rw [hg]; exact (Qb1 (by with_reducible repeat (first | exact HB.out | apply Qk | apply Ql | apply Qj | refine Qi ?_ GE121.out | refine Qi ?_ GE122.out))) : w.heap.size ≤ gb124)); have n5_ := n4_; have n6_ := Qa.mk ((by rw [hg]; exact Nat.ne_of_lt (Qy (g := gb121) (o := .cells #[.bool false, .bool false, .bool false] 36 (0, 0)) (by (with_reducible repeat (first | refine Qd ?_ _ | refine Qb ?_ | refine Qc ?_ _)); exact BK121.out)) : gb121 ≠ gb124)); have n7_ := Qa.mk ((by rw [hg]; exact Nat.ne_of_gt (Qy (g := gb121) (o := .cells #[.bool false, .bool false, .bool false] 36 (0, 0)) (by (with_reducible repeat (first | refine Qd ?_ _ | refine Qb ?_ | refine Qc ?_ _)); exact BK121.out)) : gb124 ≠ gb121)); have n8_ := Qa.mk ((by rw [hg]; exact Nat.ne_of_lt (Qy (g := gb122) (o := .cells #[.bool false, .bool true, .bool false] 36 (0, 0)) (by (with_reducible repeat (first | refine Qd ?_ _ | refine Qb ?_ | refine Qc ?_ _)); exact BK122.out)) : gb122 ≠ gb124)); have n9_ := Qa.mk ((by rw [hg]; exact Nat.ne_of_gt (Qy (g := gb122) (o := .cells #[.bool false, .bool true, .bool false] 36 (0, 0)) (by (with_reducible repeat (first | refine Qd ?_ _ | refine Qb ?_ | refine Qc ?_ _)); exact BK122.out)) : gb124 ≠ gb122)); clear BK121; clear BK122; clear HB; have BK121 := n0_; have BK122 := n1_; have HB := n2_; have BK124 := n3_; have GW124 := n4_; have GE124 := n5_; have NB121_124 := n6_; have NB124_121 := n7_; have NB122_124 := n8_; have NB124_122 := n9_; clear n0_ n1_ n2_ n3_ n4_ n5_ n6_ n7_ n8_ n9_; clear hb hbox hg; have hnb101 := NB124_121.out; have hnc101 := NB121_124.out; have hnb102 := NB124_122.out; have hnc102 := NB122_124.out; have hcz103_0 : w100.cell? ⟨gb124, 0, none⟩ = some (.bool false) := (Qe BK124.out 0).trans rfl; have hcz103_1 : w100.cell? ⟨gb124, 1, none⟩ = some (.bool false) := (Qe BK124.out 1).trans rfl; have hcz103_2 : w100.cell? ⟨gb124, 2, none⟩ = some (.bool false) := (Qe BK124.out 2).trans rfl; have hfz103_0 := Qf BK124.out 0; have hfz103_1 := Qf BK124.out 1; have hfz103_2 := Qf BK124.out 2; have hnb104 := NB122_121.out; have hnc104 := NB121_122.out; have hcz105_0 : w100.cell? ⟨gb122, 0, none⟩ = some (.bool false) := (Qe BK122.out 0).trans rfl; have hcz105_1 : w100.cell? ⟨gb122, 1, none⟩ = some (.bool true) := (Qe BK122.out 1).trans rfl; have hcz105_2 : w100.cell? ⟨gb122, 2, none⟩ = some (.bool false) := (Qe BK122.out 2).trans rfl; have hfz105_0 := Qf BK122.out 0; have hfz105_1 := Qf BK122.out 1; have hfz105_2 := Qf BK122.out 2) | (go_at_call 40; (with_reducible refine (flow_Facts_ok.calls ((Qg l0 x10_1).f0) ((Qg l0 x10_1).f1) ((Qg l0 x10_1).f2) t126 _ A78.out).mono ?_); rintro e w106 ⟨rfl, hb⟩; have n0_ := Qa.mk (Qs (g := gb121) (o := .cells #[.bool false, .bool false, .bool false] 36 (0, 0)) (by (with_reducible repeat (first | refine Qd ?_ _ | refine Qb ?_ | refine Qc ?_ _)); refine Qn ?_ NB121_122.out _; (with_reducible repeat (first | refine Qd ?_ _ | refine Qb ?_ | refine Qc ?_ _)); refine Qn ?_ NB121_124.out _; (with_reducible repeat (first | refine Qd ?_ _ | refine Qb ?_ | refine Qc ?_ _)); refine Qn ?_ NB121_124.out _; (with_reducible repeat (first | refine Qd ?_ _ | refine Qb ?_ | refine Qc ?_ _)); refine Qn ?_ NB121_124.out _; (with_reducible repeat (first | refine Qd ?_ _ | refine Qb ?_ | refine Qc ?_ _)); exact BK121.out) hb); have n1_ := Qa.mk (Qs (g := gb122) (o := .cells #[.bool false, .bool true, .bool ((Qg l0 x10_1).f2)] 36 (0, 0)) (by (with_reducible repeat (first | refine Qd ?_ _ | refine Qb ?_ | refine Qc ?_ _)); refine Qt (cs := #[.bool false, .bool true, .bool false]) ?_ 2 _ rfl; (with_reducible repeat (first | refine Qd ?_ _ | refine Qb ?_ | refine Qc ?_ _)); refine Qn ?_ NB122_124.out _; (with_reducible repeat (first | refine Qd ?_ _ | refine Qb ?_ | refine Qc ?_ _)); refine Qn ?_ NB122_124.out _; (with_reducible repeat (first | refine Qd ?_ _ | refine Qb ?_ | refine Qc ?_ _)); refine Qn ?_ NB122_124.out _; (with_reducible repeat (first | refine Qd ?_ _ | refine Qb ?_ | refine Qc ?_ _)); exact BK122.out) hb); have n2_ := Qa.mk (Qs (g := gb124) (o := .cells #[.bool ((Qg l0 x10_1).f0), .bool ((Qg l0 x10_1).f1), .bool ((Qg l0 x10_1).f2)] 36 (0, 0)) (by (with_reducible repeat (first | refine Qd ?_ _ | refine Qb ?_ | refine Qc ?_ _)); refine Qn ?_ NB124_122.out _; (with_reducible repeat (first | refine Qd ?_ _ | refine Qb ?_ | refine Qc ?_ _)); refine Qt (cs := #[.bool ((Qg l0 x10_1).f0), .bool ((Qg l0 x10_1).f1), .bool false]) ?_ 2 _ rfl; (with_reducible repeat (first | refine Qd ?_ _ | refine Qb ?_ | refine Qc ?_ _)); refine Qt (cs := #[.bool ((Qg l0 x10_1).f0), .bool false, .bool false]) ?_ 1 _ rfl; (with_reducible repeat (first | refine Qd ?_ _ | refine Qb ?_ | refine Qc ?_ _)); refine Qt (cs := #[.bool false, .bool false, .bool false]) ?_ 0 _ rfl; (with_reducible repeat (first | refine Qd ?_ _ | refine Qb ?_ | refine Qc ?_ _)); exact BK124.out) hb); have n3_ := Qa.mk (Qv (by with_reducible repeat (first | exact HB.out | apply Qk | apply Ql | apply Qj | refine Qi ?_ GE121.out | refine Qi ?_ GE122.out | refine Qi ?_ GE124.out)) hb); clear BK121; clear BK122; clear BK124; clear HB; have BK121 := n0_; have BK122 := n1_; have BK124 := n2_; have HB := n3_; clear n0_ n1_ n2_ n3_; (try clear hb); (try clear hb2); (try clear hk); (try clear hi); have hcz107_0 : w106.cell? ⟨gb122, 0, none⟩ = some (.bool false) := (Qe BK122.out 0).trans rfl; have hcz107_1 : w106.cell? ⟨gb122, 1, none⟩ = some (.bool true) := (Qe BK122.out 1).trans rfl; have hcz107_2 : w106.cell? ⟨gb122, 2, none⟩ = some (.bool ((Qg l0 x10_1).f2)) := (Qe BK122.out 2).trans rfl; have hfz107_0 := Qf BK122.out 0; have hfz107_1 := Qf BK122.out 1; have hfz107_2 := Qf BK122.out 2))
     go_roundg k1
     case measure => have := HK1.out; omega
     case rel => exact ⟨(t126), (wrap64 (x10_1 + 1)), (false), (true), ((Qg l0 x10_1).f2), (by first | rfl | (simp; done) | (simp [*]; done)), (by first | rfl | (simp; done) | (simp [*]; done)), H', ⟨by have := HK1.out; omega⟩, ⟨by (with_reducible repeat (first | refine Qd ?_ _ | refine Qb ?_ | refine Qc ?_ _)); refine Qn ?_ NB121_122.out _; (with_reducible repeat (first | refine Qd ?_ _ | refine Qb ?_ | refine Qc ?_ _)); refine Qn ?_ NB121_122.out _; (with_reducible repeat (first | refine Qd ?_ _ | refine Qb ?_ | refine Qc ?_ _)); exact BK121.out⟩, ⟨by (with_reducible repeat (first | refine Qd ?_ _ | refine Qb ?_ | refine Qc ?_ _)); refine Qt (cs := #[.bool false, .bool true, .bool ((Qg l0 x10_1).f2)]) ?_ 1 _ rfl; (with_reducible repeat (first | refine Qd ?_ _ | refine Qb ?_ | refine Qc ?_ _)); refine Qt (cs := #[.bool false, .bool true, .bool ((Qg l0 x10_1).f2)]) ?_ 0 _ rfl; (with_reducible repeat (first | refine Qd ?_ _ | refine Qb ?_ | refine Qc ?_ _)); exact BK122.out⟩, ⟨by with_reducible repeat (first | exact HB.out | apply Qk | apply Ql | apply Qj | refine Qi ?_ GE121.out | refine Qi ?_ GE122.out | refine Qi ?_ GE124.out)⟩⟩
    replace c99 := Bool.eq_false_iff.mpr c99
    subst c99
    have H1 : (flow_seq.l0 k1 t126 l0 (l0.length : Int) (wrap64 (x10_1 + 1)) false ((Qg l0 x10_1).f1) ((Qg l0 x10_1).f2)) = some (r1, r2, r3) := by rw [if_neg (show ¬ (false = true) by decide)] at H; exact H
    clear H
    have H := H1
    clear H1
    have H' := Qa.mk H
    clear H
    have p123 : 0 ≤ (x10_1 : Int) := of_decide_eq_true (by assumption)
    have q123 : x10_1 < (l0.length : Int) := of_decide_eq_true (by assumption)
    obtain ⟨ad123, e123, hx123_0, hx123_1, hx123_2⟩ := at_T36 HR0.out x10_1 p123 q123
    cases e123
    replace hx123_0 := (HB.out.cell (World.block_lt_of_cell? w _ hx123_0)).trans hx123_0
    replace hx123_1 := (HB.out.cell (World.block_lt_of_cell? w _ hx123_1)).trans hx123_1
    replace hx123_2 := (HB.out.cell (World.block_lt_of_cell? w _ hx123_2)).trans hx123_2
    replace p123 := eq_true p123
    replace q123 := eq_true q123
    go_wp2_with (first | ((with_reducible refine Qg1 (N := 6) rfl ?_); refine Qh1 ?hg (N := 6) ?hd (cs := #[.bool false, .bool false, .bool false]) (t := 36) ?hr ?_; (case hd => rfl); (case hg => rfl); (case hr => first | (go_simp; done) | (go_simp; rfl)); intro gb124 hg w108 hbox hb; have n0_ := Qa.mk (Qs (g := gb121) (o := .cells #[.bool false, .bool false, .bool false] 36 (0, 0)) (by (with_reducible repeat (first | refine Qd ?_ _ | refine Qb ?_ | refine Qc ?_ _)); exact BK121.out) hb); have n1_ := Qa.mk (Qs (g := gb122) (o := .cells #[.bool false, .bool false, .bool false] 36 (0, 0)) (by (with_reducible repeat (first | refine Qd ?_ _ | refine Qb ?_ | refine Qc ?_ _)); exact BK122.out) hb); have n2_ := Qa.mk (Qv (by with_reducible repeat (first | exact HB.out | apply Qk | apply Ql | apply Qj | refine Qi ?_ GE121.out | refine Qi ?_ GE122.out)) hb); have n3_ := Qa.mk (hbox); have n4_ := Qa.mk ((by rw [hg]; exact (Qb1 (by with_reducible repeat (first | exact HB.out | apply Qk | apply Ql | apply Qj | refine Qi ?_ GE121.out | refine Qi ?_ GE122.out))) : w.heap.size ≤ gb124)); have n5_ := n4_; have n6_ := Qa.mk ((by rw [hg]; exact Nat.ne_of_lt (Qy (g := gb121) (o := .cells #[.bool false, .bool false, .bool false] 36 (0, 0)) (by (with_reducible repeat (first | refine Qd ?_ _ | refine Qb ?_ | refine Qc ?_ _)); exact BK121.out)) : gb121 ≠ gb124)); have n7_ := Qa.mk ((by rw [hg]; exact Nat.ne_of_gt (Qy (g := gb121) (o := .cells #[.bool false, .bool false, .bool false] 36 (0, 0)) (by (with_reducible repeat (first | refine Qd ?_ _ | refine Qb ?_ | refine Qc ?_ _)); exact BK121.out)) : gb124 ≠ gb121)); have n8_ := Qa.mk ((by rw [hg]; exact Nat.ne_of_lt (Qy (g := gb122) (o := .cells #[.bool false, .bool false, .bool false] 36 (0, 0)) (by (with_reducible repeat (first | refine Qd ?_ _ | refine Qb ?_ | refine Qc ?_ _)); exact BK122.out)) : gb122 ≠ gb124)); have n9_ := Qa.mk ((by rw [hg]; exact Nat.ne_of_gt (Qy (g := gb122) (o := .cells #[.bool false, .bool false, .bool false] 36 (0, 0)) (by (with_reducible repeat (first | refine Qd ?_ _ | refine Qb ?_ | refine Qc ?_ _)); exact BK122.out)) : gb124 ≠ gb122)); clear BK121; clear BK122; clear HB; have BK121 := n0_; have BK122 := n1_; have HB := n2_; have BK124 := n3_; have GW124 := n4_; have GE124 := n5_; have NB121_124 := n6_; have NB124_121 := n7_; have NB122_124 := n8_; have NB124_122 := n9_; clear n0_ n1_ n2_ n3_ n4_ n5_ n6_ n7_ n8_ n9_; clear hb hbox hg; have hnb109 := NB124_121.out; have hnc109 := NB121_124.out; have hnb110 := NB124_122.out; have hnc110 := NB122_124.out; have hcz111_0 : w108.cell? ⟨gb124, 0, none⟩ = some (.bool false) := (Qe BK124.out 0).trans rfl; have hcz111_1 : w108.cell? ⟨gb124, 1, none⟩ = some (.bool false) := (Qe BK124.out 1).trans rfl; have hcz111_2 : w108.cell? ⟨gb124, 2, none⟩ = some (.bool false) := (Qe BK124.out 2).trans rfl; have hfz111_0 := Qf BK124.out 0; have hfz111_1 := Qf BK124.out 1; have hfz111_2 := Qf BK124.out 2; have hnb112 := NB122_121.out; have hnc112 := NB121_122.out; have hcz113_0 : w108.cell? ⟨gb122, 0, none⟩ = some (.bool false) := (Qe BK122.out 0).trans rfl; have hcz113_1 : w108.cell? ⟨gb122, 1, none⟩ = some (.bool false) := (Qe BK122.out 1).trans rfl; have hcz113_2 : w108.cell? ⟨gb122, 2, none⟩ = some (.bool false) := (Qe BK122.out 2).trans rfl; have hfz113_0 := Qf BK122.out 0; have hfz113_1 := Qf BK122.out 1; have hfz113_2 := Qf BK122.out 2) | (go_at_call 40; (with_reducible refine (flow_Facts_ok.calls ((Qg l0 x10_1).f0) ((Qg l0 x10_1).f1) ((Qg l0 x10_1).f2) t126 _ A78.out).mono ?_); rintro e w114 ⟨rfl, hb⟩; have n0_ := Qa.mk (Qs (g := gb121) (o := .cells #[.bool false, .bool false, .bool false] 36 (0, 0)) (by (with_reducible repeat (first | refine Qd ?_ _ | refine Qb ?_ | refine Qc ?_ _)); refine Qn ?_ NB121_122.out _; (with_reducible repeat (first | refine Qd ?_ _ | refine Qb ?_ | refine Qc ?_ _)); refine Qn ?_ NB121_124.out _; (with_reducible repeat (first | refine Qd ?_ _ | refine Qb ?_ | refine Qc ?_ _)); refine Qn ?_ NB121_124.out _; (with_reducible repeat (first | refine Qd ?_ _ | refine Qb ?_ | refine Qc ?_ _)); refine Qn ?_ NB121_124.out _; (with_reducible repeat (first | refine Qd ?_ _ | refine Qb ?_ | refine Qc ?_ _)); exact BK121.out) hb); have n1_ := Qa.mk (Qs (g := gb122) (o := .cells #[.bool false, .bool false, .bool ((Qg l0 x10_1).f2)] 36 (0, 0)) (by (with_reducible repeat (first | refine Qd ?_ _ | refine Qb ?_ | refine Qc ?_ _)); refine Qt (cs := #[.bool false, .bool false, .bool false]) ?_ 2 _ rfl; (with_reducible repeat (first | refine Qd ?_ _ | refine Qb ?_ | refine Qc ?_ _)); refine Qn ?_ NB122_124.out _; (with_reducible repeat (first | refine Qd ?_ _ | refine Qb ?_ | refine Qc ?_ _)); refine Qn ?_ NB122_124.out _; (with_reducible repeat (first | refine Qd ?_ _ | refine Qb ?_ | refine Qc ?_ _)); refine Qn ?_ NB122_124.out _; (with_reducible repeat (first | refine Qd ?_ _ | refine Qb ?_ | refine Qc ?_ _)); exact BK122.out) hb); have n2_ := Qa.mk (Qs (g := gb124) (o := .cells #[.bool ((Qg l0 x10_1).f0), .bool ((Qg l0 x10_1).f1), .bool ((Qg l0 x10_1).f2)] 36 (0, 0)) (by (with_reducible repeat (first | refine Qd ?_ _ | refine Qb ?_ | refine Qc ?_ _)); refine Qn ?_ NB124_122.out _; (with_reducible repeat (first | refine Qd ?_ _ | refine Qb ?_ | refine Qc ?_ _)); refine Qt (cs := #[.bool ((Qg l0 x10_1).f0), .bool ((Qg l0 x10_1).f1), .bool false]) ?_ 2 _ rfl; (with_reducible repeat (first | refine Qd ?_ _ | refine Qb ?_ | refine Qc ?_ _)); refine Qt (cs := #[.bool ((Qg l0 x10_1).f0), .bool false, .bool false]) ?_ 1 _ rfl; (with_reducible repeat (first | refine Qd ?_ _ | refine Qb ?_ | refine Qc ?_ _)); refine Qt (cs := #[.bool false, .bool false, .bool false]) ?_ 0 _ rfl; (with_reducible repeat (first | refine Qd ?_ _ | refine Qb ?_ | refine Qc ?_ _)); exact BK124.out) hb); have n3_ := Qa.mk (Qv (by with_reducible repeat (first | exact HB.out | apply Qk | apply Ql | apply Qj | refine Qi ?_ GE121.out | refine Qi ?_ GE122.out | refine Qi ?_ GE124.out)) hb); clear BK121; clear BK122; clear BK124; clear HB; have BK121 := n0_; have BK122 := n1_; have BK124 := n2_; have HB := n3_; clear n0_ n1_ n2_ n3_; (try clear hb); (try clear hb2); (try clear hk); (try clear hi); have hcz115_0 : w114.cell? ⟨gb122, 0, none⟩ = some (.bool false) := (Qe BK122.out 0).trans rfl; have hcz115_1 : w114.cell? ⟨gb122, 1, none⟩ = some (.bool false) := (Qe BK122.out 1).trans rfl; have hcz115_2 : w114.cell? ⟨gb122, 2, none⟩ = some (.bool ((Qg l0 x10_1).f2)) := (Qe BK122.out 2).trans rfl; have hfz115_0 := Qf BK122.out 0; have hfz115_1 := Qf BK122.out 1; have hfz115_2 := Qf BK122.out 2; have hcz116_0 : w114.cell? ⟨gb124, 0, none⟩ = some (.bool ((Qg l0 x10_1).f0)) := (Qe BK124.out 0).trans rfl; have hcz116_1 : w114.cell? ⟨gb124, 1, none⟩ = some (.bool ((Qg l0 x10_1).f1)) := (Qe BK124.out 1).trans rfl; have hcz116_2 : w114.cell? ⟨gb124, 2, none⟩ = some (.bool ((Qg l0 x10_1).f2)) := (Qe BK124.out 2).trans rfl; have hfz116_0 := Qf BK124.out 0; have hfz116_1 := Qf BK124.out 1; have hfz116_2 := Qf BK124.out 2))
    go_roundg k1
    case measure => have := HK1.out; omega
    case rel => exact ⟨(t126), (wrap64 (x10_1 + 1)), (false), ((Qg l0 x10_1).f1), ((Qg l0 x10_1).f2), (by first | rfl | (simp; done) | (simp [*]; done)), (by first | rfl | (simp; done) | (simp [*]; done)), H', ⟨by have := HK1.out; omega⟩, ⟨by (with_reducible repeat (first | refine Qd ?_ _ | refine Qb ?_ | refine Qc ?_ _)); refine Qn ?_ NB121_122.out _; (with_reducible repeat (first | refine Qd ?_ _ | refine Qb ?_ | refine Qc ?_ _)); refine Qn ?_ NB121_122.out _; (with_reducible repeat (first | refine Qd ?_ _ | refine Qb ?_ | refine Qc ?_ _)); exact BK121.out⟩, ⟨by (with_reducible repeat (first | refine Qd ?_ _ | refine Qb ?_ | refine Qc ?_ _)); refine Qt (cs := #[.bool false, .bool false, .bool ((Qg l0 x10_1).f2)]) ?_ 1 _ rfl; (with_reducible repeat (first | refine Qd ?_ _ | refine Qb ?_ | refine Qc ?_ _)); refine Qt (cs := #[.bool false, .bool false, .bool ((Qg l0 x10_1).f2)]) ?_ 0 _ rfl; (with_reducible repeat (first | refine Qd ?_ _ | refine Qb ?_ | refine Qc ?_ _)); exact BK122.out⟩, ⟨by with_reducible repeat (first | exact HB.out | apply Qk | apply Ql | apply Qj | refine Qi ?_ GE121.out | refine Qi ?_ GE122.out | refine Qi ?_ GE124.out)⟩⟩
   replace c77 := Bool.eq_false_iff.mpr c77
   subst c77
   have H1 : (if x123000_1 = true then (if x123001_1 = true then (flow_seq.l0 k1 false l0 (l0.length : Int) (wrap64 (x10_1 + 1)) ((Qg l0 x10_1).f0) true false) else (flow_seq.l0 k1 false l0 (l0.length : Int) (wrap64 (x10_1 + 1)) ((Qg l0 x10_1).f0) ((Qg l0 x10_1).f1) false)) else (if x123001_1 = true then (flow_seq.l0 k1 false l0 (l0.length : Int) (wrap64 (x10_1 + 1)) false true false) else (flow_seq.l0 k1 false l0 (l0.length : Int) (wrap64 (x10_1 + 1)) false ((Qg l0 x10_1).f1) false))) = some (r1, r2, r3) := by rw [if_neg (show ¬ (false = true) by decide)] at H; exact H
   clear H
   have H := H1
   clear H1
   by_cases c117 : x123000_1 = true
   ·
    subst c117
    have H1 : (if x123001_1 = true then (flow_seq.l0 k1 false l0 (l0.length : Int) (wrap64 (x10_1 + 1)) ((Qg l0 x10_1).f0) true false) else (flow_seq.l0 k1 false l0 (l0.length : Int) (wrap64 (x10_1 + 1)) ((Qg l0 x10_1).f0) ((Qg l0 x10_1).f1) false)) = some (r1, r2, r3) := by rw [if_pos rfl] at H; exact H
    clear H
    have H := H1
    clear H1
    by_cases c118 : x123001_1 = true
    ·
     subst c118
     have H1 : (flow_seq.l0 k1 false l0 (l0.length : Int) (wrap64 (x10_1 + 1)) ((Qg l0 x10_1).f0) true false) = some (r1, r2, r3) := by rw [if_pos rfl] at H; exact H
     clear H
     have H := H1
     clear H1
     have H' := Qa.mk H
     clear H
     have p123 : 0 ≤ (x10_1 : Int) := of_decide_eq_true (by assumption)
     have q123 : x10_1 < (l0.length : Int) := of_decide_eq_true (by assumption)
     obtain ⟨ad123, e123, hx123_0, hx123_1, hx123_2⟩ := at_T36 HR0.out x10_1 p123 q123
     cases e123
     replace hx123_0 := (HB.out.cell (World.block_lt_of_cell? w _ hx123_0)).trans hx123_0
     replace hx123_1 := (HB.out.cell (World.block_lt_of_cell? w _ hx123_1)).trans hx123_1
     replace hx123_2 := (HB.out.cell (World.block_lt_of_cell? w _ hx123_2)).trans hx123_2
     replace p123 := eq_true p123
     replace q123 := eq_true q123
     go_wp2_with (first | ((with_reducible refine Qg1 (N := 6) rfl ?_); refine Qh1 ?hg (N := 6) ?hd (cs := #[.bool false, .bool false, .bool false]) (t := 36) ?hr ?_; (case hd => rfl); (case hg => rfl); (case hr => first | (go_simp; done) | (go_simp; rfl)); intro gb124 hg w119 hbox hb; have n0_ := Qa.mk (Qs (g := gb121) (o := .cells #[.bool false, .bool false, .bool false] 36 (0, 0)) (by (with_reducible repeat (first | refine Qd ?_ _ | refine Qb ?_ | refine Qc ?_ _)); exact BK121.out) hb); have n1_ := Qa.mk (Qs (g := gb122) (o := .cells #[.bool true, .bool true, .bool false] 36 (0, 0)) (by (with_reducible repeat (first | refine Qd ?_ _ | refine Qb ?_ | refine Qc ?_ _)); exact BK122.out) hb); have n2_ := Qa.mk (Qv (by with_reducible repeat (first | exact HB.out | apply Qk | apply Ql | apply Qj | refine Qi ?_ GE121.out | refine Qi ?_ GE122.out)) hb); have n3_ := Qa.mk (hbox); have n4_ := Qa.mk ((by rw [hg]; exact (Qb1 (by with_reducible repeat (first | exact HB.out | apply Qk | apply Ql | apply Qj | refine Qi ?_ GE121.out | refine Qi ?_ GE122.out))) : w.heap.size ≤ gb124)); have n5_ := n4_; have n6_ := Qa.mk ((by rw [hg]; exact Nat.ne_of_lt (Qy (g := gb121) (o := .cells #[.bool false, .bool false, .bool false] 36 (0, 0)) (by (with_reducible repeat (first | refine Qd ?_ _ | refine Qb ?_ | refine Qc ?_ _)); exact BK121.out)) : gb121 ≠ gb124)); have n7_ := Qa.mk ((by rw [hg]; exact Nat.ne_of_gt (Qy (g := gb121) (o := .cells #[.bool false, .bool false, .bool false] 36 (0, 0)) (by (with_reducible repeat (first | refine Qd ?_ _ | refine Qb ?_ | refine Qc ?_ _)); exact BK121.out)) : gb124 ≠ gb121)); have n8_ := Qa.mk ((by rw [hg]; exact Nat.ne_of_lt (Qy (g := gb122) (o := .cells #[.bool true, .bool true, .bool false] 36 (0, 0)) (by (with_reducible repeat (first | refine Qd ?_ _ | refine Qb ?_ | refine Qc ?_ _)); exact BK122.out)) : gb122 ≠ gb124)); have n9_ := Qa.mk ((by rw [hg]; exact Nat.ne_of_gt (Qy (g := gb122) (o := .cells #[.bool true, .bool true, .bool false] 36 (0, 0)) (by (with_reducible repeat (first | refine Qd ?_ _ | refine Qb ?_ | refine Qc ?_ _)); exact BK122.out)) : gb124 ≠ gb122)); clear BK121; clear BK122; clear HB; have BK121 := n0_; have BK122 := n1_; have HB := n2_; have BK124 := n3_; have GW124 := n4_; have GE124 := n5_; have NB121_124 := n6_; have NB124_121 := n7_; have NB122_124 := n8_; have NB124_122 := n9_; clear n0_ n1_ n2_ n3_ n4_ n5_ n6_ n7_ n8_ n9_; clear hb hbox hg; have hnb120 := NB124_121.out; have hnc120 := NB121_124.out; have hnb121 := NB124_122.out; have hnc121 := NB122_124.out; have hcz122_0 : w119.cell? ⟨gb124, 0, none⟩ = some (.bool false) := (Qe BK124.out 0).trans rfl; have hcz122_1 : w119.cell? ⟨gb124, 1, none⟩ = some (.bool false) := (Qe BK124.out 1).trans rfl; have hcz122_2 : w119.cell? ⟨gb124, 2, none⟩ = some (.bool false) := (Qe BK124.out 2).trans rfl; have hfz122_0 := Qf BK124.out 0; have hfz122_1 := Qf BK124.out 1; have hfz122_2 := Qf BK124.out 2; have hnb123 := NB122_121.out; have hnc123 := NB121_122.out; have hcz124_0 : w119.cell? ⟨gb122, 0, none⟩ = some (.bool true) := (Qe BK122.out 0).trans rfl; have hcz124_1 : w119.cell? ⟨gb122, 1, none⟩ = some (.bool true) := (Qe BK122.out 1).trans rfl; have hcz124_2 : w119.cell? ⟨gb122, 2, none⟩ = some (.bool false) := (Qe BK122.out 2).trans rfl; have hfz124_0 := Qf BK122.out 0; have hfz124_1 := Qf BK122.out 1; have hfz124_2 := Qf BK122.out 2))
     go_roundg k1
     case measure => have := HK1.out; omega
     case rel => exact ⟨(false), (wrap64 (x10_1 + 1)), ((Qg l0 x10_1).f0), (true), (false), (by first | rfl | (simp; done) | (simp [*]; done)), (by first | rfl | (simp; done) | (simp [*]; done)), H', ⟨by have := HK1.out; omega⟩, ⟨by (with_reducible repeat (first | refine Qd ?_ _ | refine Qb ?_ | refine Qc ?_ _)); refine Qn ?_ NB121_122.out _; (with_reducible repeat (first | refine Qd ?_ _ | refine Qb ?_ | refine Qc ?_ _)); refine Qn ?_ NB121_122.out _; (with_reducible repeat (first | refine Qd ?_ _ | refine Qb ?_ | refine Qc ?_ _)); refine Qn ?_ NB121_122.out _; (with_reducible repeat (first | refine Qd ?_ _ | refine Qb ?_ | refine Qc ?_ _)); refine Qn ?_ NB121_124.out _; (with_reducible repeat (first | refine Qd ?_ _ | refine Qb ?_ | refine Qc ?_ _)); refine Qn ?_ NB121_124.out _; (with_reducible repeat (first | refine Qd ?_ _ | refine Qb ?_ | refine Qc ?_ _)); refine Qn ?_ NB121_124.out _; (with_reducible repeat (first | refine Qd ?_ _ | refine Qb ?_ | refine Qc ?_ _)); exact BK121.out⟩, ⟨by (with_reducible repeat (first | refine Qd ?_ _ | refine Qb ?_ | refine Qc ?_ _)); refine Qt (cs := #[.bool ((Qg l0 x10_1).f0), .bool true, .bool false]) ?_ 1 _ rfl; (with_reducible repeat (first | refine Qd ?_ _ | refine Qb ?_ | refine Qc ?_ _)); refine Qt (cs := #[.bool true, .bool true, .bool false]) ?_ 0 _ rfl; (with_reducible repeat (first | refine Qd ?_ _ | refine Qb ?_ | refine Qc ?_ _)); refine Qt (cs := #[.bool true, .bool true, .bool false]) ?_ 2 _ rfl; (with_reducible repeat (first | refine Qd ?_ _ | refine Qb ?_ | refine Qc ?_ _)); refine Qn ?_ NB122_124.out _; (with_reducible repeat (first | refine Qd ?_ _ | refine Qb ?_ | refine Qc ?_ _)); refine Qn ?_ NB122_124.out _; (with_reducible repeat (first | refine Qd ?_ _ | refine Qb ?_ | refine Qc ?_ _)); refine Qn ?_ NB122_124.out _; (with_reducible repeat (first | refine Qd ?_ _ | refine Qb ?_ | refine Qc ?_ _)); exact BK122.out⟩, ⟨by with_reducible repeat (first | exact HB.out | apply Qk | apply Ql | apply Qj | refine Qi ?_ GE121.out | refine Qi ?_ GE122.out | refine Qi ?_ GE124.out)⟩⟩
    replace c118 := Bool.eq_false_iff.mpr c118
    subst c118
    have H1 : (flow_seq.l0 k1 false l0 (l0.length : Int) (wrap64 (x10_1 + 1)) ((Qg l0 x10_1).f0) ((Qg l0 x10_1).f1) false) = some (r1, r2, r3) := by rw [if_neg (show ¬ (false = true) by decide)] at H; exact H
    clear H
    have H := H1
    clear H1
    have H' := Qa.mk H
    clear H
    have p123 : 0 ≤ (x10_1 : Int) := of_decide_eq_true (by assumption)
    have q123 : x10_1 < (l0.length : Int) := of_decide_eq_true (by assumption)
    obtain ⟨ad123, e123, hx123_0, hx123_1, hx123_2⟩ := at_T36 HR0.out x10_1 p123 q123
    cases e123
    replace hx123_0 := (HB.out.cell (World.block_lt_of_cell? w _ hx123_0)).trans hx123_0
    replace hx123_1 := (HB.out.cell (World.block_lt_of_cell? w _ hx123_1)).trans hx123_1
    replace hx123_2 := (HB.out.cell (World.block_lt_of_cell? w _ hx123_2)).trans hx123_2
    replace p123 := eq_true p123
    replace q123 := eq_true q123
    go_wp2_with (first | ((with_reducible refine Qg1 (N := 6) rfl ?_); refine Qh1 ?hg (N := 6) ?hd (cs := #[.bool false, .bool false, .bool false]) (t := 36) ?hr ?_; (case hd => rfl); (case hg => rfl); (case hr => first | (go_simp; done) | (go_simp; rfl)); intro gb124 hg w125 hbox hb; have n0_ := Qa.mk (Qs (g := gb121) (o := .cells #[.bool false, .bool false, .bool false] 36 (0, 0)) (by (with_reducible repeat (first | refine Qd ?_ _ | refine Qb ?_ | refine Qc ?_ _)); exact BK121.out) hb); have n1_ := Qa.mk (Qs (g := gb122) (o := .cells #[.bool true, .bool false, .bool false] 36 (0, 0)) (by (with_reducible repeat (first | refine Qd ?_ _ | refine Qb ?_ | refine Qc ?_ _)); exact BK122.out) hb); have n2_ := Qa.mk (Qv (by with_reducible repeat (first | exact HB.out | apply Qk | apply Ql | apply Qj | refine Qi ?_ GE121.out | refine Qi ?_ GE122.out)) hb); have n3_ := Qa.mk (hbox); have n4_ := Qa.mk ((by rw [hg]; exact (Qb1 (by with_reducible repeat (first | exact HB.out | apply Qk | apply Ql | apply Qj | refine Qi ?_ GE121.out | refine Qi ?_ GE122.out))) : w.heap.size ≤ gb124)); have n5_ := n4_; have n6_ := Qa.mk ((by rw [hg]; exact Nat.ne_of_lt (Qy (g := gb121) (o := .cells #[.bool false, .bool false, .bool false] 36 (0, 0)) (by (with_reducible repeat (first | refine Qd ?_ _ | refine Qb ?_ | refine Qc ?_ _)); exact BK121.out)) : gb121 ≠ gb124)); have n7_ := Qa.mk ((by rw [hg]; exact Nat.ne_of_gt (Qy (g := gb121) (o := .cells #[.bool false, .bool false, .bool false] 36 (0, 0)) (by (with_reducible repeat (first | refine Qd ?_ _ | refine Qb ?_ | refine Qc ?_ _)); exact BK121.out)) : gb124 ≠ gb121)); have n8_ := Qa.mk ((by rw [hg]; exact Nat.ne_of_lt (Qy (g := gb122) (o := .cells #[.bool true, .bool false, .bool false] 36 (0, 0)) (by (with_reducible repeat (first | refine Qd ?_ _ | refine Qb ?_ | refine Qc ?_ _)); exact BK122.out)) : gb122 ≠ gb124)); have n9_ := Qa.mk ((by rw [hg]; exact Nat.ne_of_gt (Qy (g := gb122) (o := .cells #[.bool true, .bool false, .bool false] 36 (0, 0)) (by (with_reducible repeat (first | refine Qd ?_ _ | refine Qb ?_ | refine Qc ?_ _)); exact BK122.out)) : gb124 ≠ gb122)); clear BK121; clear BK122; clear HB; have BK121 := n0_; have BK122 := n1_; have HB := n2_; have BK124 := n3_; have GW124 := n4_; have GE124 := n5_; have NB121_124 := n6_; have NB124_121 := n7_; have NB122_124 := n8_; have NB124_122 := n9_; clear n0_ n1_ n2_ n3_ n4_ n5_ n6_ n7_ n8_ n9_; clear hb hbox hg; have hnb126 := NB124_121.out; have hnc126 := NB121_124.out; have hnb127 := NB124_122.out; have hnc127 := NB122_124.out; have hcz128_0 : w125.cell? ⟨gb124, 0, none⟩ = some (.bool false) := (Qe BK124.out 0).trans rfl; have hcz128_1 : w125.cell? ⟨gb124, 1, none⟩ = some (.bool false) := (Qe BK124.out 1).trans rfl; have hcz128_2 : w125.cell? ⟨gb124, 2, none⟩ = some (.bool false) := (Qe BK124.out 2).trans rfl; have hfz128_0 := Qf BK124.out 0; have hfz128_1 := Qf BK124.out 1; have hfz128_2 := Qf BK124.out 2; have hnb129 := NB122_121.out; have hnc129 := NB121_122.out; have hcz130_0 : w125.cell? ⟨gb122, 0, none⟩ = some (.bool true) := (Qe BK122.out 0).trans rfl; have hcz130_1 : w125.cell? ⟨gb122, 1, none⟩ = some (.bool false) := (Qe BK122.out 1).trans rfl; have hcz130_2 : w125.cell? ⟨gb122, 2, none⟩ = some (.bool false) := (Qe BK122.out 2).trans rfl; have hfz130_0 := Qf BK122.out 0; have hfz130_1 := Qf BK122.out 1; have hfz130_2 := Qf BK122.out 2))
    go_roundg k1
    case measure => have := HK1.out; omega
    case rel => exact ⟨(false), (wrap64 (x10_1 + 1)), ((Qg l0 x10_1).f0), ((Qg l0 x10_1).f1), (false), (by first | rfl | (simp; done) | (simp [*]; done)), (by first | rfl | (simp; done) | (simp [*]; done)), H', ⟨by have := HK1.out; omega⟩, ⟨by (with_reducible repeat (first | refine Qd ?_ _ | refine Qb ?_ | refine Qc ?_ _)); refine Qn ?_ NB121_122.out _; (with_reducible repeat (first | refine Qd ?_ _ | refine Qb ?_ | refine Qc ?_ _)); refine Qn ?_ NB121_122.out _; (with_reducible repeat (first | refine Qd ?_ _ | refine Qb ?_ | refine Qc ?_ _)); refine Qn ?_ NB121_122.out _; (with_reducible repeat (first | refine Qd ?_ _ | refine Qb ?_ | refine Qc ?_ _)); refine Qn ?_ NB121_124.out _; (with_reducible repeat (first | refine Qd ?_ _ | refine Qb ?_ | refine Qc ?_ _)); refine Qn ?_ NB121_124.out _; (with_reducible repeat (first | refine Qd ?_ _ | refine Qb ?_ | refine Qc ?_ _)); refine Qn ?_ NB121_124.out _; (with_reducible repeat (first | refine Qd ?_ _ | refine Qb ?_ | refine Qc ?_ _)); exact BK121.out⟩, ⟨by (with_reducible repeat (first | refine Qd ?_ _ | refine Qb ?_ | refine Qc ?_ _)); refine Qt (cs := #[.bool ((Qg l0 x10_1).f0), .bool false, .bool false]) ?_ 1 _ rfl; (with_reducible repeat (first | refine Qd ?_ _ | refine Qb ?_ | refine Qc ?_ _)); refine Qt (cs := #[.bool true, .bool false, .bool false]) ?_ 0 _ rfl; (with_reducible repeat (first | refine Qd ?_ _ | refine Qb ?_ | refine Qc ?_ _)); refine Qt (cs := #[.bool true, .bool false, .bool false]) ?_ 2 _ rfl; (with_reducible repeat (first | refine Qd ?_ _ | refine Qb ?_ | refine Qc ?_ _)); refine Qn ?_ NB122_124.out _; (with_reducible repeat (first | refine Qd ?_ _ | refine Qb ?_ | refine Qc ?_ _)); refine Qn ?_ NB122_124.out _; (with_reducible repeat (first | refine Qd ?_ _ | refine Qb ?_ | refine Qc ?_ _)); refine Qn ?_ NB122_124.out _; (with_reducible repeat (first | refine Qd ?_ _ | refine Qb ?_ | refine Qc ?_ _)); exact BK122.out⟩, ⟨by with_reducible repeat (first | exact HB.out | apply Qk | apply Ql | apply Qj | refine Qi ?_ GE121.out | refine Qi ?_ GE122.out | refine Qi ?_ GE124.out)⟩⟩
   replace c117 := Bool.eq_false_iff.mpr c117
   subst c117
   have H1 : (if x123001_1 = true then (flow_seq.l0 k1 false l0 (l0.length : Int) (wrap64 (x10_1 + 1)) false true false) else (flow_seq.l0 k1 false l0 (l0.length : Int) (wrap64 (x10_1 + 1)) false ((Qg l0 x10_1).f1) false)) = some (r1, r2, r3) := by rw [if_neg (show ¬ (false = true) by decide)] at H; exact H
   clear H
   have H := H1
   clear H1
   by_cases c131 : x123001_1 = true
   ·
    subst c131
    have H1 : (flow_seq.l0 k1 false l0 (l0.length : Int) (wrap64 (x10_1 + 1)) false true false) = some (r1, r2, r3) := by rw [if_pos rfl] at H; exact H
    clear H
    have H := H1
    clear H1
    have H' := Qa.mk H
    clear H
    have p123 : 0 ≤ (x10_1 : Int) := of_decide_eq_true (by assumption)
    have q123 : x10_1 < (l0.length : Int) := of_decide_eq_true (by assumption)
    obtain ⟨ad123, e123, hx123_0, hx123_1, hx123_2⟩ := at_T36 HR0.out x10_1 p123 q123
    cases e123
    replace hx123_0 := (HB.out.cell (World.block_lt_of_cell? w _ hx123_0)).trans hx123_0
    replace hx123_1 := (HB.out.cell (World.block_lt_of_cell? w _ hx123_1)).trans hx123_1
    replace hx123_2 := (HB.out.cell (World.block_lt_of_cell? w _ hx123_2)).trans hx123_2
    replace p123 := eq_true p123
    replace q123 := eq_true q123
    go_wp2_with (first | ((with_reducible refine Qg1 (N := 6) rfl ?_); refine Qh1 ?hg (N := 6) ?hd (cs := #[.bool false, .bool false, .bool false]) (t := 36) ?hr ?_; (case hd => rfl); (case hg => rfl); (case hr => first | (go_simp; done) | (go_simp; rfl)); intro gb124 hg w132 hbox hb; have n0_ := Qa.mk (Qs (g := gb121) (o := .cells #[.bool false, .bool false, .bool false] 36 (0, 0)) (by (with_reducible repeat (first | refine Qd ?_ _ | refine Qb ?_ | refine Qc ?_ _)); exact BK121.out) hb); have n1_ := Qa.mk (Qs (g := gb122) (o := .cells #[.bool false, .bool true, .bool false] 36 (0, 0)) (by (with_reducible repeat (first | refine Qd ?_ _ | refine Qb ?_ | refine Qc ?_ _)); exact BK122.out) hb); have n2_ := Qa.mk (Qv (by with_reducible repeat (first | exact HB.out | apply Qk | apply Ql | apply Qj | refine Qi ?_ GE121.out | refine Qi ?_ GE122.out)) hb); have n3_ := Qa.mk (hbox); have n4_ := Qa.mk ((by rw [hg]; exact (Qb1 (by with_reducible repeat (first | exact HB.out | apply Qk | apply Ql | apply Qj | refine Qi ?_ GE121.out | refine Qi ?_ GE122.out))) : w.heap.size ≤ gb124)); have n5_ := n4_; have n6_ := Qa.mk ((by rw [hg]; exact Nat.ne_of_lt (Qy (g := gb121) (o := .cells #[.bool false, .bool false, .bool false] 36 (0, 0)) (by (with_reducible repeat (first | refine Qd ?_ _ | refine Qb ?_ | refine Qc ?_ _)); exact BK121.out)) : gb121 ≠ gb124)); have n7_ := Qa.mk ((by rw [hg]; exact Nat.ne_of_gt (Qy (g := gb121) (o := .cells #[.bool false, .bool false, .bool false] 36 (0, 0)) (by (with_reducible repeat (first | refine Qd ?_ _ | refine Qb ?_ | refine Qc ?_ _)); exact BK121.out)) : gb124 ≠ gb121)); have n8_ := Qa.mk ((by rw [hg]; exact Nat.ne_of_lt (Qy (g := gb122) (o := .cells #[.bool false, .bool true, .bool false] 36 (0, 0)) (by (with_reducible repeat (first | refine Qd ?_ _ | refine Qb ?_ | refine Qc ?_ _)); exact BK122.out)) : gb122 ≠ gb124)); have n9_ := Qa.mk ((by rw [hg]; exact Nat.ne_of_gt (Qy (g := gb122) (o := .cells #[.bool false, .bool true, .bool false] 36 (0, 0)) (by (with_reducible repeat (first | refine Qd ?_ _ | refine Qb ?_ | refine Qc ?_ _)); exact BK122.out)) : gb124 ≠ gb122)); clear BK121; clear BK122; clear HB; have BK121 := n0_; have BK122 := n1_; have HB := n2_; have BK124 := n3_; have GW124 := n4_; have GE124 := n5_; have NB121_124 := n6_; have NB124_121 := n7_; have NB122_124 := n8_; have NB124_122 := n9_; clear n0_ n1_ n2_ n3_ n4_ n5_ n6_ n7_ n8_ n9_; clear hb hbox hg; have hnb133 := NB124_121.out; have hnc133 := NB121_124.out; have hnb134 := NB124_122.out; have hnc134 := NB122_124.out; have hcz135_0 : w132.cell? ⟨gb124, 0, none⟩ = some (.bool false) := (Qe BK124.out 0).trans rfl; have hcz135_1 : w132.cell? ⟨gb124, 1, none⟩ = some (.bool false) := (Qe BK124.out 1).trans rfl; have hcz135_2 : w132.cell? ⟨gb124, 2, none⟩ = some (.bool false) := (Qe BK124.out 2).trans rfl; have hfz135_0 := Qf BK124.out 0; have hfz135_1 := Qf BK124.out 1; have hfz135_2 := Qf BK124.out 2; have hnb136 := NB122_121.out; have hnc136 := NB121_122.out; have hcz137_0 : w132.cell? ⟨gb122, 0, none⟩ = some (.bool false) := (Qe BK122.out 0).trans rfl; have hcz137_1 : w132.cell? ⟨gb122, 1, none⟩ = some (.bool true) := (Qe BK122.out 1).trans rfl; have hcz137_2 : w132.cell? ⟨gb122, 2, none⟩ = some (.bool false) := (Qe BK122.out 2).trans rfl; have hfz137_0 := Qf BK122.out 0; have hfz137_1 := Qf BK122.out 1; have hfz137_2 := Qf BK122.out 2))
    go_roundg k1
    case measure => have := HK1.out; omega
    case rel => exact ⟨(false), (wrap64 (x10_1 + 1)), (false), (true), (false), (by first | rfl | (simp; done) | (simp [*]; done)), (by first | rfl | (simp; done) | (simp [*]; done)), H', ⟨by have := HK1.out; omega⟩, ⟨by (with_reducible repeat (first | refine Qd ?_ _ | refine Qb ?_ | refine Qc ?_ _)); refine Qn ?_ NB121_122.out _; (with_reducible repeat (first | refine Qd ?_ _ | refine Qb ?_ | refine Qc ?_ _)); refine Qn ?_ NB121_122.out _; (with_reducible repeat (first | refine Qd ?_ _ | refine Qb ?_ | refine Qc ?_ _)); refine Qn ?_ NB121_122.out _; (with_reducible repeat (first | refine Qd ?_ _ | refine Qb ?_ | refine Qc ?_ _)); refine Qn ?_ NB121_124.out _; (with_reducible repeat (first | refine Qd ?_ _ | refine Qb ?_ | refine Qc ?_ _)); refine Qn ?_ NB121_124.out _; (with_reducible repeat (first | refine Qd ?_ _ | refine Qb ?_ | refine Qc ?_ _)); refine Qn ?_ NB121_124.out _; (with_reducible repeat (first | refine Qd ?_ _ | refine Qb ?_ | refine Qc ?_ _)); exact BK121.out⟩, ⟨by (with_reducible repeat (first | refine Qd ?_ _ | refine Qb ?_ | refine Qc ?_ _)); refine Qt (cs := #[.bool false, .bool true, .bool false]) ?_ 1 _ rfl; (with_reducible repeat (first | refine Qd ?_ _ | refine Qb ?_ | refine Qc ?_ _)); refine Qt (cs := #[.bool false, .bool true, .bool false]) ?_ 0 _ rfl; (with_reducible repeat (first | refine Qd ?_ _ | refine Qb ?_ | refine Qc ?_ _)); refine Qt (cs := #[.bool false, .bool true, .bool false]) ?_ 2 _ rfl; (with_reducible repeat (first | refine Qd ?_ _ | refine Qb ?_ | refine Qc ?_ _)); refine Qn ?_ NB122_124.out _; (with_reducible repeat (first | refine Qd ?_ _ | refine Qb ?_ | refine Qc ?_ _)); refine Qn ?_ NB122_124.out _; (with_reducible repeat (first | refine Qd ?_ _ | refine Qb ?_ | refine Qc ?_ _)); refine Qn ?_ NB122_124.out _; (with_reducible repeat (first | refine Qd ?_ _ | refine Qb ?_ | refine Qc ?_ _)); exact BK122.out⟩, ⟨by with_reducible repeat (first | exact HB.out | apply Qk | apply Ql | apply Qj | refine Qi ?_ GE121.out | refine Qi ?_ GE122.out | refine Qi ?_ GE124.out)⟩⟩
   replace c131 := Bool.eq_false_iff.mpr c131
   subst c131
   have H1 : (flow_seq.l0 k1 false l0 (l0.length : Int) (wrap64 (x10_1 + 1)) false ((Qg l0 x10_1).f1) false) = some (r1, r2, r3) := by rw [if_neg (show ¬ (false = true) by decide)] at H; exact H
   clear H
   have H := H1
   clear H1
   have H' := Qa.mk H
   clear H
   have p123 : 0 ≤ (x10_1 : Int) := of_decide_eq_true (by assumption)
   have q123 : x10_1 < (l0.length : Int) := of_decide_eq_true (by assumption)
   obtain ⟨ad123, e123, hx123_0, hx123_1, hx123_2⟩ := at_T36 HR0.out x10_1 p123 q123
   cases e123
   replace hx123_0 := (HB.out.cell (World.block_lt_of_cell? w _ hx123_0)).trans hx123_0
   replace hx123_1 := (HB.out.cell (World.block_lt_of_cell? w _ hx123_1)).trans hx123_1
   replace hx123_2 := (HB.out.cell (World.block_lt_of_cell? w _ hx123_2)).trans hx123_2
   replace p123 := eq_true p123
   replace q123 := eq_true q123
   go_wp2_with (first | ((with_reducible refine Qg1 (N := 6) rfl ?_); refine Qh1 ?hg (N := 6) ?hd (cs := #[.bool false, .bool false, .bool false]) (t := 36) ?hr ?_; (case hd => rfl); (case hg => rfl); (case hr => first | (go_simp; done) | (go_simp; rfl)); intro gb124 hg w138 hbox hb; have n0_ := Qa.mk (Qs (g := gb121) (o := .cells #[.bool false, .bool false, .bool false] 36 (0, 0)) (by (with_reducible repeat (first | refine Qd ?_ _ | refine Qb ?_ | refine Qc ?_ _)); exact BK121.out) hb); have n1_ := Qa.mk (Qs (g := gb122) (o := .cells #[.bool false, .bool false, .bool false] 36 (0, 0)) (by (with_reducible repeat (first | refine Qd ?_ _ | refine Qb ?_ | refine Qc ?_ _)); exact BK122.out) hb); have n2_ := Qa.mk (Qv (by with_reducible repeat (first | exact HB.out | apply Qk | apply Ql | apply Qj | refine Qi ?_ GE121.out | refine Qi ?_ GE122.out)) hb); have n3_ := Qa.mk (hbox); have n4_ := Qa.mk ((by rw [hg]; exact (Qb1 (by with_reducible repeat (first | exact HB.out | apply Qk | apply Ql | apply Qj | refine Qi ?_ GE121.out | refine Qi ?_ GE122.out))) : w.heap.size ≤ gb124)); have n5_ := n4_; have n6_ := Qa.mk ((by rw [hg]; exact Nat.ne_of_lt (Qy (g := gb121) (o := .cells #[.bool false, .bool false, .bool false] 36 (0, 0)) (by (with_reducible repeat (first | refine Qd ?_ _ | refine Qb ?_ | refine Qc ?_ _)); exact BK121.out)) : gb121 ≠ gb124)); have n7_ := Qa.mk ((by rw [hg]; exact Nat.ne_of_gt (Qy (g := gb121) (o := .cells #[.bool false, .bool false, .bool false] 36 (0, 0)) (by (with_reducible repeat (first | refine Qd ?_ _ | refine Qb ?_ | refine Qc ?_ _)); exact BK121.out)) : gb124 ≠ gb121)); have n8_ := Qa.mk ((by rw [hg]; exact Nat.ne_of_lt (Qy (g := gb122) (o := .cells #[.bool false, .bool false, .bool false] 36 (0, 0)) (by (with_reducible repeat (first | refine Qd ?_ _ | refine Qb ?_ | refine Qc ?_ _)); exact BK122.out)) : gb122 ≠ gb124)); have n9_ := Qa.mk ((by rw [hg]; exact Nat.ne_of_gt (Qy (g := gb122) (o := .cells #[.bool false, .bool false, .bool false] 36 (0, 0)) (by (with_reducible repeat (first | refine Qd ?_ _ | refine Qb ?_ | refine Qc ?_ _)); exact BK122.out)) : gb124 ≠ gb122)); clear BK121; clear BK122; clear HB; have BK121 := n0_; have BK122 := n1_; have HB := n2_; have BK124 := n3_; have GW124 := n4_; have GE124 := n5_; have NB121_124 := n6_; have NB124_121 := n7_; have NB122_124 := n8_; have NB124_122 := n9_; clear n0_ n1_ n2_ n3_ n4_ n5_ n6_ n7_ n8_ n9_; clear hb hbox hg; have hnb139 := NB124_121.out; have hnc139 := NB121_124.out; have hnb140 := NB124_122.out; have hnc140 := NB122_124.out; have hcz141_0 : w138.cell? ⟨gb124, 0, none⟩ = some (.bool false) := (Qe BK124.out 0).trans rfl; have hcz141_1 : w138.cell? ⟨gb124, 1, none⟩ = some (.bool false) := (Qe BK124.out 1).trans rfl; have hcz141_2 : w138.cell? ⟨gb124, 2, none⟩ = some (.bool false) := (Qe BK124.out 2).trans rfl; have hfz141_0 := Qf BK124.out 0; have hfz141_1 := Qf BK124.out 1; have hfz141_2 := Qf BK124.out 2; have hnb142 := NB122_121.out; have hnc142 := NB121_122.out; have hcz143_0 : w138.cell? ⟨gb122, 0, none⟩ = some (.bool false) := (Qe BK122.out 0).trans rfl; have hcz143_1 : w138.cell? ⟨gb122, 1, none⟩ = some (.bool false) := (Qe BK122.out 1).trans rfl; have hcz143_2 : w138.cell? ⟨gb122, 2, none⟩ = some (.bool false) := (Qe BK122.out 2).trans rfl; have hfz143_0 := Qf BK122.out 0; have hfz143_1 := Qf BK122.out 1; have hfz143_2 := Qf BK122.out 2))
   go_roundg k1
   case measure => have := HK1.out; omega
   case rel => exact ⟨(false), (wrap64 (x10_1 + 1)), (false), ((Qg l0 x10_1).f1), (false), (by first | rfl | (simp; done) | (simp [*]; done)), (by first | rfl | (simp; done) | (simp [*]; done)), H', ⟨by have := HK1.out; omega⟩, ⟨by (with_reducible repeat (first | refine Qd ?_ _ | refine Qb ?_ | refine Qc ?_ _)); refine Qn ?_ NB121_122.out _; (with_reducible repeat (first | refine Qd ?_ _ | refine Qb ?_ | refine Qc ?_ _)); refine Qn ?_ NB121_122.out _; (with_reducible repeat (first | refine Qd ?_ _ | refine Qb ?_ | refine Qc ?_ _)); refine Qn ?_ NB121_122.out _; (with_reducible repeat (first | refine Qd ?_ _ | refine Qb ?_ | refine Qc ?_ _)); refine Qn ?_ NB121_124.out _; (with_reducible repeat (first | refine Qd ?_ _ | refine Qb ?_ | refine Qc ?_ _)); refine Qn ?_ NB121_124.out _; (with_reducible repeat (first | refine Qd ?_ _ | refine Qb ?_ | refine Qc ?_ _)); refine Qn ?_ NB121_124.out _; (with_reducible repeat (first | refine Qd ?_ _ | refine Qb ?_ | refine Qc ?_ _)); exact BK121.out⟩, ⟨by (with_reducible repeat (first | refine Qd ?_ _ | refine Qb ?_ | refine Qc ?_ _)); refine Qt (cs := #[.bool false, .bool false, .bool false]) ?_ 1 _ rfl; (with_reducible repeat (first | refine Qd ?_ _ | refine Qb ?_ | refine Qc ?_ _)); refine Qt (cs := #[.bool false, .bool false, .bool false]) ?_ 0 _ rfl; (with_reducible repeat (first | refine Qd ?_ _ | refine Qb ?_ | refine Qc ?_ _)); refine Qt (cs := #[.bool false, .bool false, .bool false]) ?_ 2 _ rfl; (with_reducible repeat (first | refine Qd ?_ _ | refine Qb ?_ | refine Qc ?_ _)); refine Qn ?_ NB122_124.out _; (with_reducible repeat (first | refine Qd ?_ _ | refine Qb ?_ | refine Qc ?_ _)); refine Qn ?_ NB122_124.out _; (with_reducible repeat (first | refine Qd ?_ _ | refine Qb ?_ | refine Qc ?_ _)); refine Qn ?_ NB122_124.out _; (with_reducible repeat (first | refine Qd ?_ _ | refine Qb ?_ | refine Qc ?_ _)); exact BK122.out⟩, ⟨by with_reducible repeat (first | exact HB.out | apply Qk | apply Ql | apply Qj | refine Qi ?_ GE121.out | refine Qi ?_ GE122.out | refine Qi ?_ GE124.out)⟩⟩
end Go.Proofs.Ytnaanamibfpbpaa.V
