/- The law CleanGrace, from the H layer: for all at, grace, now and value. -/
import Derived.Test.YtecnfekcflfihaaCG
import Derived.Test.YtecnfekcflfihaaH14
namespace Go.Proofs.Ytecnfekcflfihaa.CGW
open Go.Proofs.Ytecnfekcflfihaa.H Go.RowKit
theorem cleanGrace_walk (a0 : Int) (a1 : Int) (a2 : Int) (a3 : Bool) (w : World)  (q0 : (Lit.int .i64 a0).wf = true) (q1 : (Lit.int .i64 a1).wf = true) (q2 : (Lit.int .i64 a2).wf = true) :
    Calls Try.prog 5 #[.int .i64 a0, .int .i64 a1, .int .i64 a2, .bool a3] w fun e w' => e = .returned (.bool true) ∧ Below w.heap.size w w' := by
  refine law_of (CL.grace_law a0 a1 a2 a3 s0) rfl ?_
  intro j x hj
  rcases j with _ | _ | _ | _ | j <;> simp at hj
  · subst hj; exact .lit _
  · subst hj; exact .lit _
  · subst hj; exact .lit _
  · subst hj; exact .lit _
end Go.Proofs.Ytecnfekcflfihaa.CGW
