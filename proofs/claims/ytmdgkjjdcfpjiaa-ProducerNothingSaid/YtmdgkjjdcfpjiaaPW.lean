/- What the document fixes of producers. -/
import Derived.Test.YtmdgkjjdcfpjiaaPN
namespace Go.Proofs.Ytmdgkjjdcfpjiaa.PT
open Go.RowKit Go.Maps Go.MapKept Go.ChangeMaps Go.WideElems Go.WideMaps Go.WideShapes Go.Proofs.YtmdgkjjdcfpjiaaW.PrintWords Go.Proofs.YtmdgkjjdcfpjiaaW.PrintLast Go.Proofs.YtmdgkjjdcfpjiaaW.PrintMore Go.Proofs.Ytmdgkjjdcfpjiaa.PProducerOnce
set_option linter.unusedVariables false
set_option linter.unusedSimpArgs false
set_option maxRecDepth 100000

theorem add_to {w0 w : World} {g b : Nat} {N : Nat} {f f' : Tab} {rv : Int} {base last p ep seq : Int} {A : Option Addr} {n c : Nat} (hr : addT f p ep seq n base = (rv, f')) (h : IsPT w0 w g b N f) (hB : Below w0.heap.size w0 w) (hp : (Lit.int .i64 p).wf = true) (hN : N < 1000000) :
    Calls Try.prog 14 #[.pointer (some ⟨g, 0, none⟩), .agg #[.int .i64 base, .int .i64 last, .int .i64 p, .int .i64 ep, .int .i64 seq, .slice A n c]] w fun e w' => e = .returned (.int .i64 rv) ∧ IsPT w0 w' g b (N + 1) f' ∧ Below w0.heap.size w0 w' ∧ KeepB w w' b :=
  (add_pt h base last p ep seq A n c hp hN hr).mono (fun e w' ⟨h1, h2, h3⟩ => ⟨h1, h2, hB.trans (h3.below h.2.2.1 hB.size), h3⟩)
theorem check_to {w0 w : World} {g b : Nat} {N : Nat} {f : Tab} {r1 : Int} {r2 : Bool} {r3 : Int} {base last p ep seq : Int} {A : Option Addr} {n c : Nat} (hr : checkT f p ep seq n = (r1, r2, r3)) (h : IsPT w0 w g b N f) (hB : Below w0.heap.size w0 w) (hp : (Lit.int .i64 p).wf = true) :
    Calls Try.prog 13 #[.pointer (some ⟨g, 0, none⟩), .agg #[.int .i64 base, .int .i64 last, .int .i64 p, .int .i64 ep, .int .i64 seq, .slice A n c]] w fun e w' => e = .returned (.tuple #[.int .i64 r1, .bool r2, .int .i64 r3]) ∧ IsPT w0 w' g b N f ∧ Below w0.heap.size w0 w' ∧ Below w.heap.size w w' :=
  (check_pt h base last p ep seq A n c hp hr).mono (fun e w' ⟨h1, h2⟩ => ⟨h1, h.below h2, hB.trans (h2.mono hB.size), h2⟩)
def f1 : Tab := fun q => if q = 1 then some (oneT none_ 1 0 0 3 7) else none_ q
theorem a1 : addT none_ 1 0 0 (3 : Nat) 7 = (0, f1) := rfl
theorem c1_ : checkT f1 1 0 0 (3 : Nat) = (7, true, 0) := by kernel_rfl
theorem c2_ : checkT f1 1 0 5 (3 : Nat) = (0, false, 10) := by kernel_rfl
set_option maxHeartbeats 4000000 in
theorem awake_calls {w : World} : Calls Try.prog 10 #[] w fun e w' => e = .returned (.bool true) ∧ Below w.heap.size w w' := by
  go_enter Try.func10, Try.ntmps10
  go_wp2_with fail
  refine (new_pt (w0 := w) (Below.refl _ _)).mono ?_
  rintro e w1 ⟨g, b, rfl, hI, hB, hB1, -, -⟩
  go_wp2_with fail
  refine (add_to (w0 := w) (n := 3) a1 (hI.alloc _) (below_alloc hB _) (by decide) (by decide)).mono ?_
  rintro e w2 ⟨rfl, hI2, hB2, -⟩
  go_wp2_with fail
  refine (check_to (w0 := w) (n := 3) c1_ hI2 hB2 (by decide)).mono ?_
  rintro e w3 ⟨rfl, hI3, hB3, -⟩
  go_wp2_with fail
  refine (check_to (w0 := w) (n := 3) c2_ hI3 hB3 (by decide)).mono ?_
  rintro e w4 ⟨rfl, hI4, hB4, -⟩
  go_wp2_with fail
  go_ret
  exact ⟨rfl, hB4⟩

end Go.Proofs.Ytmdgkjjdcfpjiaa.PT
