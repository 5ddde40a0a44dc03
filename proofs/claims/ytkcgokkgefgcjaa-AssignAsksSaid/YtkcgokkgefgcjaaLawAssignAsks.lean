-- printed for this claim by a program of the session's own (hand.py); not trusted: Lean checks it
import Derived.Test.YtkcgokkgefgcjaaRows
import Derived.Test.YtkcgokkgefgcjaaQAssignAskse
import Derived.WalkKit
import Derived.ProofKit
import Derived.OpenShut
import Derived.ShutString
import Derived.ChangeOld
import Derived.Below
import Derived.SizedLaws
namespace Go.Proofs.Ytkcgokkgefgcjaa.assignAsks
open Go.Proofs.Ytkcgokkgefgcjaa.CK Go.ChangeShapes Go.WideShapes Go.ChangeAt Go.RowKit Go.Proofs.Ytkcgokkgefgcjaa.BRW Go.Proofs.YtkcgokkgefgcjaaW.PrintWords Go.Proofs.YtkcgokkgefgcjaaW
open Go.ChangeMaps (open_string shut_string)
set_option linter.unusedVariables false
theorem own : ownKnob Try.prog.godebug = none := by kernel_rfl
theorem laidOut : laidOutB Try.prog = true := by kernel_rfl
set_option maxRecDepth 100000 in
theorem lifted (os : Os) (started : os.Started) (H : Type) (enc : TypeId × Value → H) :
    ReturnsInHanded {} Try.checked os 6 .any (Rows.assignAsksSpec.pre6 enc Try.prog Try.f6 Rows.assignAsksRow.domain false) (Rows.assignAsksSpec.post enc Try.prog Try.f6 false true false false) := by
  refine returnsInHanded_of_change_sized (C := Try.checked) own started (by kernel_rfl) Try.func6
    (ChangeSpec.witness6 (enc := enc) (C := Try.checked) false ⟨#[], #[.slice none 0 0, .slice none 0 0, .string ByteArray.empty, .agg #[.string ByteArray.empty, .int .i64 0], .int .i64 0], []⟩ 8 (by kernel_rfl) (by kernel_rfl) (by kernel_rfl) (by kernel_rfl)) ?_
  intro W base args ds gs before hval0 hW hcnd hsz0 _
  have hsz : (DataW.weightsEach Try.prog (Try.f6.params.toList ++ Rows.assignAsksSpec.plain.varTypes Try.prog) (ds ++ gs)).all (· ≤ reachBytes) = true := hsz0
  have hval : ∀ (j : Nat) t v, Try.f6.params[j]? = some t → args[j]? = some v → Value.okWide Try.prog W .any base t v := hval0
  have hW' := hW
  obtain ⟨p, q, hA0, hV, rfl, hfz, hnd⟩ := hW
  have hA : DataW.TrodAll enc Try.prog W 0 (fun _ => true) true Try.f6.params.toList args.toList ds p := hA0
  rw [Try.params6] at hA hval hsz
  obtain ⟨v0, vs0, d0, ds0, p0, qq0, hargs, rfl, rfl, h0, r0⟩ := trodAll_cons hA
  obtain ⟨v1, vs1, d1, ds1, p1, qq1, rfl, rfl, rfl, h1, r1⟩ := trodAll_cons r0
  obtain ⟨v2, vs2, d2, ds2, p2, qq2, rfl, rfl, rfl, h2, r2⟩ := trodAll_cons r1
  obtain ⟨v3, vs3, d3, ds3, p3, qq3, rfl, rfl, rfl, h3, r3⟩ := trodAll_cons r2
  obtain ⟨v4, vs4, d4, ds4, p4, qq4, rfl, rfl, rfl, h4, r4⟩ := trodAll_cons r3
  obtain ⟨rfl, rfl, rfl⟩ := trodAll_nil r4
  obtain rfl : args = #[v0, v1, v2, v3, v4] := by cases args; simp_all
  obtain ⟨rfl, rfl⟩ := trodVars_none hV
  have k0 := h0
  have lt0 : ∀ x ∈ p0, x.block < W.heap.size := by obtain ⟨m, hm⟩ := k0; exact DataW.trod_lt m _ _ _ hm
  obtain ⟨A0, c0, l0, rfl, hc0, hr0, q0⟩ := Opens.open_slice Try.underlying22 (Opens.opens_slice 31 Try.underlying22 (by kernel_rfl) (Opens.opens_iso (fun x : S31 => (x.f0, x.f1)) (fun a => (⟨a.1, a.2⟩ : S31)) (fun _ => rfl) (Opens.opens_struct Try.underlying31 (by kernel_rfl) (Opens.opensF_cons rfl (by kernel_rfl) (Opens.opens_string Try.underlying9) (Opens.opensF_one rfl (by kernel_rfl) (Opens.opens_slice 9 Try.underlying29 (by kernel_rfl) (Opens.opens_string Try.underlying9))))))) (hval 0 22 v0 rfl rfl) h0
  have k1 := h1
  have lt1 : ∀ x ∈ p1, x.block < W.heap.size := by obtain ⟨m, hm⟩ := k1; exact DataW.trod_lt m _ _ _ hm
  obtain ⟨A1, c1, l1, rfl, hc1, hr1, q1⟩ := Opens.open_slice Try.underlying23 (Opens.opens_slice 44 Try.underlying23 (by kernel_rfl) (Opens.opens_iso (fun x : S44 => (x.f0, x.f1)) (fun a => (⟨a.1, a.2⟩ : S44)) (fun _ => rfl) (Opens.opens_struct Try.underlying44 (by kernel_rfl) (Opens.opensF_cons rfl (by kernel_rfl) (Opens.opens_string Try.underlying9) (Opens.opensF_one rfl (by kernel_rfl) (Opens.opens_int Try.underlying3)))))) (hval 1 23 v1 rfl rfl) h1
  obtain ⟨a2, rfl, rfl, rfl, y2⟩ := open_string Try.underlying9 (hval 2 9 v2 rfl rfl) h2
  have q2 : a2.size ≤ 140737488351232 := by
    have z := sized_string hsz (j := 2) (t := 9) rfl rfl
    rw [Array.length_toList] at z
    exact z
  have k3 := h3
  have lt3 : ∀ x ∈ p3, x.block < W.heap.size := by obtain ⟨m, hm⟩ := k3; exact DataW.trod_lt m _ _ _ hm
  obtain ⟨cs3, s3, rfl, hK3, q3⟩ := Opens.open_struct Try.underlying49 (Opens.opens_iso (fun x : S49 => (x.f0, x.f1)) (fun a => (⟨a.1, a.2⟩ : S49)) (fun _ => rfl) (Opens.opens_struct Try.underlying49 (by kernel_rfl) (Opens.opensF_cons rfl (by kernel_rfl) (Opens.opens_string Try.underlying9) (Opens.opensF_one rfl (by kernel_rfl) (Opens.opens_int Try.underlying3))))) (hval 3 49 v3 rfl rfl) h3
  obtain rfl := k49_open hK3
  obtain ⟨a4, rfl, rfl, rfl, q4⟩ := open_int Try.underlying3 (hval 4 3 v4 rfl rfl) h4
  clear hA0 hval0 hsz0 hsz
  refine (assignAsks_walk A0 c0 l0 A1 c1 l1 a2 s3.f0 s3.f1 a4 W hc0 hr0 hc1 hr1 q0 q1 q2 q3 q4).mono fun e W' ⟨he, bel⟩ => ?_
  subst he
  exact ⟨_, rfl, _, _, _, [], _, [], hW', trodAll_mk1 (shut_bool Try.underlying4 _), (trodAll_cons_mk (Below.trod laidOut (by kernel_rfl) (of_decide_eq_true (by kernel_rfl)) k0 bel lt0) (trodAll_cons_mk (Below.trod laidOut (by kernel_rfl) (of_decide_eq_true (by kernel_rfl)) k1 bel lt1) (trodAll_cons_mk (shut_string Try.underlying9 y2) (trodAll_cons_mk (Below.trod laidOut (by kernel_rfl) (of_decide_eq_true (by kernel_rfl)) k3 bel lt3) (trodAll_cons_mk (shut_int Try.underlying3 q4) trodAll_mk0))))), rfl, bel.frame _, fun h => by cases h⟩
theorem over : Rows.assignAsksRow.holds Try.pinned (OpenSpec.ofChange Rows.assignAsksSpec) :=
  OpenClaim.holds_of_wide 6 Try.f6 rfl rfl rfl rfl rfl rfl rfl ⟨rfl, rfl, rfl, rfl, rfl⟩ rfl rfl rfl rfl rfl (by kernel_rfl) Try.func6 (by kernel_rfl)
    (of_decide_eq_true (by kernel_rfl)) (by unfold Func.isWrapper; first | (rw [if_pos (by decide +kernel)]; kernel_rfl) | (rw [if_neg (by decide +kernel)]; exact ⟨rfl, rfl⟩))
    (fun os started H enc _ => lifted os started H enc)
theorem proved : Rows.AssignAsksSaid := over
#print axioms proved
end Go.Proofs.Ytkcgokkgefgcjaa.assignAsks
namespace Go.Proofs.Ytkcgokkgefgcjaa
/-- The row, under a short name, for the claim. -/
theorem assignAsks_holds : Rows.AssignAsksSaid := assignAsks.proved
end Go.Proofs.Ytkcgokkgefgcjaa
