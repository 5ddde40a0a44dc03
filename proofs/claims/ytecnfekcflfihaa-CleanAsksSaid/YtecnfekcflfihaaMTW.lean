/- The law CleanAsks, from the H layer: for all its arguments. -/
import Derived.Test.YtecnfekcflfihaaMB
import Derived.Test.YtecnfekcflfihaaDK
namespace Go.Proofs.Ytecnfekcflfihaa.MTW
open Go.Proofs.Ytecnfekcflfihaa.H Go.RowKit Go.Proofs.YtecnfekcflfihaaW.PrintWords Go.Proofs.YtecnfekcflfihaaW.PrintLast Go.Proofs.YtecnfekcflfihaaW.PrintMore Go.Proofs.Ytecnfekcflfihaa.CK
set_option linter.unusedVariables false
theorem cleanAsks_walk (A0 : Option Addr) (c0 : Nat) (l0 : List (List (S46))) (a1 : Int) (a2_0 : Int) (a2_1 : Int) (a2_2 : Int) (a2_3 : Int) (a2_4 : Int) (a2_5 : Bool) (a2_6 : Int) (a2_7 : Int) (a2_8 : Bool) (a3 : Int) (w : World) (hc0 : l0.length ≤ c0) (hr0 : Kd.C (Kd.slice 46 k46) w A0 l0.length l0) (q0 : (l0.length ≤ maxLen ∧ ∀ x_ ∈ l0, (x_.length ≤ maxLen ∧ ∀ x__ ∈ x_, ((Lit.int .i64 x__.f0).wf = true ∧ (Lit.int .i64 x__.f1).wf = true ∧ (Lit.int .i64 x__.f2).wf = true ∧ (Lit.int .i64 x__.f3).wf = true ∧ (Lit.int .i64 x__.f4).wf = true ∧ (x__.f5.length ≤ maxLen ∧ ∀ x___ ∈ x__.f5, ((Lit.int .i64 x___.f0).wf = true ∧ (Lit.int .i64 x___.f1).wf = true ∧ True ∧ (x___.f3.length ≤ maxLen ∧ ∀ x____ ∈ x___.f3, (Lit.int .u8 x____).wf = true) ∧ True ∧ (x___.f5.length ≤ maxLen ∧ ∀ x____ ∈ x___.f5, (Lit.int .u8 x____).wf = true))))))) (q1 : (Lit.int .i64 a1).wf = true) (q2 : ((Lit.int .i64 ((⟨a2_0, a2_1, a2_2, a2_3, a2_4, a2_5, a2_6, a2_7, a2_8⟩ : S24).f0)).wf = true ∧ (Lit.int .i64 ((⟨a2_0, a2_1, a2_2, a2_3, a2_4, a2_5, a2_6, a2_7, a2_8⟩ : S24).f1)).wf = true ∧ (Lit.int .i64 ((⟨a2_0, a2_1, a2_2, a2_3, a2_4, a2_5, a2_6, a2_7, a2_8⟩ : S24).f2)).wf = true ∧ (Lit.int .i64 ((⟨a2_0, a2_1, a2_2, a2_3, a2_4, a2_5, a2_6, a2_7, a2_8⟩ : S24).f3)).wf = true ∧ (Lit.int .i64 ((⟨a2_0, a2_1, a2_2, a2_3, a2_4, a2_5, a2_6, a2_7, a2_8⟩ : S24).f4)).wf = true ∧ True ∧ (Lit.int .i64 ((⟨a2_0, a2_1, a2_2, a2_3, a2_4, a2_5, a2_6, a2_7, a2_8⟩ : S24).f6)).wf = true ∧ (Lit.int .i64 ((⟨a2_0, a2_1, a2_2, a2_3, a2_4, a2_5, a2_6, a2_7, a2_8⟩ : S24).f7)).wf = true ∧ True)) (q3 : (Lit.int .i64 a3).wf = true) :
    Calls Try.prog 3 #[.slice A0 l0.length c0, .int .i64 a1, .agg #[.int .i64 a2_0, .int .i64 a2_1, .int .i64 a2_2, .int .i64 a2_3, .int .i64 a2_4, .bool a2_5, .int .i64 a2_6, .int .i64 a2_7, .bool a2_8], .int .i64 a3] w fun e w' => e = .returned (.bool true) ∧ Below w.heap.size w w' := by
  refine law_of (CL.asks_law (l0.map CL.toSeg) a1 ⟨a2_0, a2_1, a2_2, a2_3, a2_4, a2_5, a2_6, a2_7, a2_8⟩ a3 s0 (by rw [List.length_map]; exact q0.1) (CL.inSegs_of l0 fun x hx => ⟨(q0.2 x hx).1, fun y hy => ((q0.2 x hx).2 y hy).2.2.2.2.2.1⟩)) rfl ?_
  intro j x hj
  rcases j with _ | _ | _ | _ | j <;> simp at hj
  · subst hj; exact CL.repSegs hr0 hc0
  · subst hj; exact .lit _
  · subst hj; exact CL.repCfg _ _
  · subst hj; exact .lit _
end Go.Proofs.Ytecnfekcflfihaa.MTW
