/- The law CleanParts, from the H layer: for all its arguments. -/
import Derived.Test.YtecnfekcflfihaaMU
import Derived.Test.YtecnfekcflfihaaDK
namespace Go.Proofs.Ytecnfekcflfihaa.MUW
open Go.Proofs.Ytecnfekcflfihaa.H Go.RowKit Go.Proofs.YtecnfekcflfihaaW.PrintWords Go.Proofs.YtecnfekcflfihaaW.PrintLast Go.Proofs.YtecnfekcflfihaaW.PrintMore Go.Proofs.Ytecnfekcflfihaa.CK
set_option linter.unusedVariables false
theorem cleanParts_walk (A0 : Option Addr) (c0 : Nat) (l0 : List (S46)) (a1 : Int) (a2 : Int) (a3 : Int) (a4 : Int) (a5 : Int) (a6_0 : Int) (a6_1 : Int) (a6_2 : Bool) (A6_3 : Option Addr) (c6_3 : Nat) (l6_3 : List Int) (a6_4 : Bool) (A6_5 : Option Addr) (c6_5 : Nat) (l6_5 : List Int) (w : World) (hc0 : l0.length ≤ c0) (hr0 : Kd.C k46 w A0 l0.length l0) (hc6_3 : l6_3.length ≤ c6_3) (hr6_3 : Kd.C (Kd.int .u8) w A6_3 l6_3.length l6_3) (hc6_5 : l6_5.length ≤ c6_5) (hr6_5 : Kd.C (Kd.int .u8) w A6_5 l6_5.length l6_5) (q0 : (l0.length ≤ maxLen ∧ ∀ x_ ∈ l0, ((Lit.int .i64 x_.f0).wf = true ∧ (Lit.int .i64 x_.f1).wf = true ∧ (Lit.int .i64 x_.f2).wf = true ∧ (Lit.int .i64 x_.f3).wf = true ∧ (Lit.int .i64 x_.f4).wf = true ∧ (x_.f5.length ≤ maxLen ∧ ∀ x__ ∈ x_.f5, ((Lit.int .i64 x__.f0).wf = true ∧ (Lit.int .i64 x__.f1).wf = true ∧ True ∧ (x__.f3.length ≤ maxLen ∧ ∀ x___ ∈ x__.f3, (Lit.int .u8 x___).wf = true) ∧ True ∧ (x__.f5.length ≤ maxLen ∧ ∀ x___ ∈ x__.f5, (Lit.int .u8 x___).wf = true)))))) (q1 : (Lit.int .i64 a1).wf = true) (q2 : (Lit.int .i64 a2).wf = true) (q3 : (Lit.int .i64 a3).wf = true) (q4 : (Lit.int .i64 a4).wf = true) (q5 : (Lit.int .i64 a5).wf = true) (q6 : ((Lit.int .i64 ((⟨a6_0, a6_1, a6_2, l6_3, a6_4, l6_5⟩ : S34).f0)).wf = true ∧ (Lit.int .i64 ((⟨a6_0, a6_1, a6_2, l6_3, a6_4, l6_5⟩ : S34).f1)).wf = true ∧ True ∧ (((⟨a6_0, a6_1, a6_2, l6_3, a6_4, l6_5⟩ : S34).f3).length ≤ maxLen ∧ ∀ x_ ∈ ((⟨a6_0, a6_1, a6_2, l6_3, a6_4, l6_5⟩ : S34).f3), (Lit.int .u8 x_).wf = true) ∧ True ∧ (((⟨a6_0, a6_1, a6_2, l6_3, a6_4, l6_5⟩ : S34).f5).length ≤ maxLen ∧ ∀ x_ ∈ ((⟨a6_0, a6_1, a6_2, l6_3, a6_4, l6_5⟩ : S34).f5), (Lit.int .u8 x_).wf = true))) :
    Calls Try.prog 4 #[.slice A0 l0.length c0, .int .i64 a1, .int .i64 a2, .int .i64 a3, .int .i64 a4, .int .i64 a5, .agg #[.int .i64 a6_0, .int .i64 a6_1, .bool a6_2, .slice A6_3 l6_3.length c6_3, .bool a6_4, .slice A6_5 l6_5.length c6_5]] w fun e w' => e = .returned (.bool true) ∧ Below w.heap.size w w' := by
  refine law_of (CL.parts_law (l0.map CL.toBat) a1 a2 a3 a4 a5 ⟨a6_0, a6_1, a6_2, some l6_3, a6_4, some l6_5⟩ s0 (by rw [List.length_map]; exact q0.1) ?_) rfl ?_
  · intro b hb
    obtain ⟨z, hz, rfl⟩ := List.mem_map.1 hb
    exact CL.inBat_of z (q0.2 z hz).2.2.2.2.2.1
  · intro j x hj
    rcases j with _ | _ | _ | _ | _ | _ | _ | j <;> simp at hj
    · subst hj; exact CL.repBats hr0 hc0
    · subst hj; exact .lit _
    · subst hj; exact .lit _
    · subst hj; exact .lit _
    · subst hj; exact .lit _
    · subst hj; exact .lit _
    · subst hj
      refine .agg _ _ ?_ rfl ?_
      · intro x hx
        simp only [CL.recC, List.mem_cons, List.not_mem_nil, or_false] at hx
        rcases hx with rfl | rfl | rfl | rfl | rfl | rfl <;> rfl
      · intro j x hj
        rcases j with _ | _ | _ | _ | _ | _ | j <;> simp [CL.recC] at hj <;> subst hj
        · exact .lit _
        · exact .lit _
        · exact .lit _
        · exact CL.repBytes hr6_3 hc6_3
        · exact .lit _
        · exact CL.repBytes hr6_5 hc6_5
end Go.Proofs.Ytecnfekcflfihaa.MUW
