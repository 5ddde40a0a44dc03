/- OindexBack over the H layer: the walk, as the law's text asks for it. -/
import Derived.Test.YtpibjdkenifggaaH14
import Derived.Test.YtpibjdkenifggaaOU
import Derived.Test.YtpibjdkenifggaaOIK
namespace Go.Proofs.Ytpibjdkenifggaa.OW
open Go.Proofs.Ytpibjdkenifggaa.H Go.Proofs.Ytpibjdkenifggaa.C0 Go.RowKit Go.Proofs.YtpibjdkenifggaaW.PrintWords Go.Proofs.YtpibjdkenifggaaW.PrintLast Go.Proofs.YtpibjdkenifggaaW.PrintMore Go.Proofs.Ytpibjdkenifggaa.OIK
set_option linter.unusedVariables false
set_option maxRecDepth 100000
theorem oindexBack_walk (A0 : Option Addr) (c0 : Nat) (l0 : List (S126)) (a1 : Int) (w : World) (hc0 : l0.length ≤ c0) (hr0 : Kd.C k126 w A0 l0.length l0) (q0 : (l0.length ≤ maxLen ∧ ∀ x_ ∈ l0, ((Lit.int .i64 x_.f0).wf = true ∧ (Lit.int .i64 x_.f1).wf = true))) (q1 : (Lit.int .u8 a1).wf = true) :
    Calls Try.prog 8 #[.slice A0 l0.length c0, .int .u8 a1] w fun e w' => e = .returned (.bool true) ∧ Below w.heap.size w w' := by
  let g : S126 → Int × Int := fun x => (x.f0, x.f1)
  have hB := (Br.iso (Br.pair (Br.int .i64) (Br.int .i64)) g).row (w := w) (A := A0) (c := c0) (xs := l0) hr0 hc0
  have he : l0.flatMap (fun x => ([.lit (.int .i64 (g x).1)] ++ [.lit (.int .i64 (g x).2)] : List HV)) = el (l0.map g) := by
    unfold el
    rw [List.flatMap_map]
    rfl
  rw [he] at hB
  have hlaw := law (l0.map g) a1 s0 false (by
    intro y hy
    obtain ⟨x, hx, rfl⟩ := List.mem_map.1 hy
    have := q0.2 x hx
    simp only [Lit.wf, Bool.and_eq_true, decide_eq_true_eq, IntKind.min, IntKind.max, IntKind.signed, IntKind.bits] at this
    simp at this
    simp only [g]
    omega)
  rw [List.length_map] at hlaw
  refine law_of hlaw rfl ?_
  intro j x hj
  cases j with
  | zero => simp at hj; subst hj; exact hB
  | succ j =>
    cases j with
    | zero => simp at hj; subst hj; exact .lit _
    | succ j => simp at hj
end Go.Proofs.Ytpibjdkenifggaa.OW
