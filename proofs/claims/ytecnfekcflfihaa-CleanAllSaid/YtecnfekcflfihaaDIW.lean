/- The law CleanAll, from the H layer: for all segments and times. -/
import Derived.Test.YtecnfekcflfihaaDI
import Derived.Test.YtecnfekcflfihaaDK
namespace Go.Proofs.Ytecnfekcflfihaa.DIW
open Go.Proofs.Ytecnfekcflfihaa.H Go.RowKit Go.Proofs.YtecnfekcflfihaaW.PrintWords Go.Proofs.YtecnfekcflfihaaW.PrintLast Go.Proofs.YtecnfekcflfihaaW.PrintMore Go.Proofs.Ytecnfekcflfihaa.CK
set_option linter.unusedVariables false
theorem cleanAll_walk (A0 : Option Addr) (c0 : Nat) (l0 : List (List (S46))) (a1 : Int) (w : World) (hc0 : l0.length ≤ c0) (hr0 : Kd.C (Kd.slice 46 k46) w A0 l0.length l0) (q0 : (l0.length ≤ maxLen ∧ ∀ x_ ∈ l0, (x_.length ≤ maxLen ∧ ∀ x__ ∈ x_, ((Lit.int .i64 x__.f0).wf = true ∧ (Lit.int .i64 x__.f1).wf = true ∧ (Lit.int .i64 x__.f2).wf = true ∧ (Lit.int .i64 x__.f3).wf = true ∧ (Lit.int .i64 x__.f4).wf = true ∧ (x__.f5.length ≤ maxLen ∧ ∀ x___ ∈ x__.f5, ((Lit.int .i64 x___.f0).wf = true ∧ (Lit.int .i64 x___.f1).wf = true ∧ True ∧ (x___.f3.length ≤ maxLen ∧ ∀ x____ ∈ x___.f3, (Lit.int .u8 x____).wf = true) ∧ True ∧ (x___.f5.length ≤ maxLen ∧ ∀ x____ ∈ x___.f5, (Lit.int .u8 x____).wf = true))))))) (q1 : (Lit.int .i64 a1).wf = true) :
    Calls Try.prog 7 #[.slice A0 l0.length c0, .int .i64 a1] w fun e w' => e = .returned (.bool true) ∧ Below w.heap.size w w' := by
  refine law_of (CL.all_law (l0.map CL.toSeg) a1 s0 (by rw [List.length_map]; exact q0.1) (CL.inSegs_of l0 fun x hx => ⟨(q0.2 x hx).1, fun y hy => ((q0.2 x hx).2 y hy).2.2.2.2.2.1⟩)) rfl ?_
  intro j x hj
  rcases j with _ | _ | j <;> simp at hj
  · subst hj; exact CL.repSegs hr0 hc0
  · subst hj; exact .lit _
end Go.Proofs.Ytecnfekcflfihaa.DIW
