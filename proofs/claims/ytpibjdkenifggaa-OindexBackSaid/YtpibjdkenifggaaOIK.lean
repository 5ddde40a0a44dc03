-- printed for this claim by a program of the session's own (hand.py); not trusted: Lean checks it
import Derived.Test.YtpibjdkenifggaaProg
import Derived.WalkKit
import Derived.Test.YtpibjdkenifggaaWWords
import Derived.Test.YtpibjdkenifggaaWLast
import Derived.Test.YtpibjdkenifggaaWTab
import Derived.Test.YtpibjdkenifggaaWFour
import Derived.Test.YtpibjdkenifggaaWQPut
import Derived.Test.YtpibjdkenifggaaWApart
import Derived.Test.YtpibjdkenifggaaWArr
import Derived.Test.YtpibjdkenifggaaWZeros
import Derived.Test.YtpibjdkenifggaaWFoot
import Derived.Test.YtpibjdkenifggaaWKept
import Derived.Test.YtpibjdkenifggaaWShare
import Derived.Test.YtpibjdkenifggaaWN
import Derived.Test.YtpibjdkenifggaaWFootNe
import Derived.Test.YtpibjdkenifggaaWAt
import Derived.Test.YtpibjdkenifggaaWEqStruct
import Derived.Test.YtpibjdkenifggaaWRepsOne
import Derived.Test.YtpibjdkenifggaaWInv
import Derived.Test.YtpibjdkenifggaaWInvWords
import Derived.Test.YtpibjdkenifggaaWGuard
import Derived.Test.YtpibjdkenifggaaWNEv
import Derived.Test.YtpibjdkenifggaaWMore
namespace Go.Proofs.Ytpibjdkenifggaa.OIK
open Go.RowKit Go.Proofs.YtpibjdkenifggaaW.PrintWords Go.Proofs.YtpibjdkenifggaaW.PrintLast Go.Proofs.YtpibjdkenifggaaW.PrintMore
set_option linter.unusedVariables false

/-! #### struct type 126 -/
structure S126 where
  f0 : Int
  f1 : Int
def z126 : S126 := ⟨(0 : Int), (0 : Int)⟩
def k126 : Kd S126 := Kd.iso (Kd.pair (Kd.int .i64) (Kd.int .i64)) (fun x : S126 => (x.f0, x.f1))
theorem k126_heap : Kd.Heap k126 := Kd.heap_iso _ (Kd.heap_pair (Kd.heap_int .i64) (Kd.heap_int .i64))
theorem k126_open {w : World} {x : S126} {cs : List Value} (h : k126.K w x cs) : cs = [.int .i64 x.f0, .int .i64 x.f1] := by
  obtain ⟨_, _, rfl, rfl, rfl⟩ := h
  exact rfl
theorem k126_openM {w : World} {base : Nat} {ok : Nat → Prop} {x : S126} {cs : List Value} (h : k126.M w base ok x cs) : cs = [.int .i64 x.f0, .int .i64 x.f1] := by
  obtain ⟨_, _, rfl, rfl, rfl⟩ := h
  exact rfl
theorem k126_mk (w : World) (x : S126)  : k126.K w x [.int .i64 x.f0, .int .i64 x.f1] := ⟨[.int .i64 x.f0], [.int .i64 x.f1], rfl, rfl, rfl⟩
theorem k126_mkM (w : World) (base : Nat) (ok : Nat → Prop) (x : S126)  : k126.M w base ok x [.int .i64 x.f0, .int .i64 x.f1] := ⟨[.int .i64 x.f0], [.int .i64 x.f1], rfl, rfl, rfl⟩
theorem k126_mkF (W : World) (ok : Nat → Prop) (x : S126) : Kd.FK k126 W ok x [.int .i64 x.f0, .int .i64 x.f1] := fun W2 _ => k126_mk W2 x
def rd_T126 (xs : List S126) (i : Int) : S126 := xs.getD i.toNat z126
theorem at_T126 {w : World} {A : Option Addr} {n : Nat} {xs : List S126} (h : Kd.C k126 w A n xs) (i : Int) (h0 : 0 ≤ i) (h1 : i < n) : ∃ ad , A = some ad ∧ w.cell? (ad.add (i.toNat * 2)) = some (.int .i64 (rd_T126 xs i).f0) ∧ w.cell? ⟨(ad.add (i.toNat * 2)).block, (ad.add (i.toNat * 2)).off + 1, none⟩ = some (.int .i64 (rd_T126 xs i).f1) := by
  obtain ⟨ad, c, e, _, hK, hc0⟩ := Kd.C_get h z126 i h0 h1
  have hc : ∀ j u, c[j]? = some u → w.cell? (ad.add (i.toNat * 2 + j)) = some u := hc0
  obtain rfl := k126_open hK
  exact ⟨ad, e, hc 0 _ rfl, by rw [← add_field _ _ 1 (by omega)]; exact hc 1 _ rfl⟩

def rd_L2 (xs : List (List S126)) (i : Int) : (List S126) := xs.getD i.toNat ([] : List S126)
theorem at_L2 {w : World} {A : Option Addr} {n : Nat} {xs : List (List S126)} (h : Kd.C (Kd.slice 126 k126) w A n xs) (i : Int) (h0 : 0 ≤ i) (h1 : i < n) : ∃ ad A0 c0, A = some ad ∧ w.cell? (ad.add i.toNat) = some (.slice A0 (rd_L2 xs i).length c0) ∧ (rd_L2 xs i).length ≤ c0 ∧ k126.C w A0 (rd_L2 xs i).length (rd_L2 xs i) := by
  obtain ⟨ad, c, e, _, hK, hc0⟩ := Kd.C_get h ([] : List S126) i h0 h1
  have hc : ∀ j u, c[j]? = some u → w.cell? (ad.add (i.toNat * 1 + j)) = some u := hc0
  obtain ⟨A0, c0, rfl, l0, g0⟩ := hK
  exact ⟨ad, A0, c0, e, by have hq := hc 0 _ rfl; rwa [Nat.mul_one, Nat.add_zero] at hq, l0, g0⟩

end Go.Proofs.Ytpibjdkenifggaa.OIK
