-- printed for this claim by a program of the session's own (pr2.py) over the kit's printer; not trusted: Lean checks it
import Derived.Test.YtakodondlmiklaaRows
import Derived.Test.YtakodondlmiklaaPRetainAsksx7
import Derived.Test.YtakodondlmiklaaPureRetainAsks
import Derived.Test.YtakodondlmiklaaOpens
import Derived.WalkKit
import Derived.ProofKit
import Derived.OpenShut
import Derived.ShutString
import Derived.ChangeOld
import Derived.Below
import Derived.SizedLaws
namespace Go.Proofs.Ytakodondlmiklaa.retainAsks
open Go.ChangeShapes Go.WideShapes Go.ChangeAt Go.RowKit Go.Proofs.Ytakodondlmiklaa.PRetainAsks Go.Proofs.YtakodondlmiklaaW.PrintWords Go.Proofs.YtakodondlmiklaaW
open Go.ChangeMaps (open_string shut_string)
set_option linter.unusedVariables false
theorem own : ownKnob Try.prog.godebug = none := by kernel_rfl
theorem laidOut : laidOutB Try.prog = true := by kernel_rfl
set_option maxRecDepth 100000 in
theorem lifted (os : Os) (started : os.Started) (H : Type) (enc : TypeId × Value → H) :
    ReturnsInHanded {} Try.checked os 10 .any (Rows.retainAsksSpec.pre6 enc Try.prog Try.f10 Rows.retainAsksRow.domain false) (Rows.retainAsksSpec.post enc Try.prog Try.f10 false true false false) := by
  refine returnsInHanded_of_change_sized (C := Try.checked) own started (by kernel_rfl) Try.func10
    (ChangeSpec.witness6 (enc := enc) (C := Try.checked) false ⟨#[], #[.slice none 0 0, .agg #[.int .i64 0, .int .i64 0, .int .i64 0, .int .i64 0, .int .i64 0, .bool false, .int .i64 0, .int .i64 0, .bool false], .int .i64 0, .int .i64 0, .int .i64 0], []⟩ 8 (by kernel_rfl) (by kernel_rfl) (by kernel_rfl) (by kernel_rfl)) ?_
  intro W base args ds gs before hval0 hW hcnd hsz0 _
  have hsz : (DataW.weightsEach Try.prog (Try.f10.params.toList ++ Rows.retainAsksSpec.plain.varTypes Try.prog) (ds ++ gs)).all (· ≤ reachBytes) = true := hsz0
  have hval : ∀ (j : Nat) t v, Try.f10.params[j]? = some t → args[j]? = some v → Value.okWide Try.prog W .any base t v := hval0
  have hW' := hW
  obtain ⟨p, q, hA0, hV, rfl, hfz, hnd⟩ := hW
  have hA : DataW.TrodAll enc Try.prog W 0 (fun _ => true) true Try.f10.params.toList args.toList ds p := hA0
  rw [Try.params10] at hA hval hsz
  obtain ⟨v0, vs0, d0, ds0, p0, qq0, hargs, rfl, rfl, h0, r0⟩ := trodAll_cons hA
  obtain ⟨v1, vs1, d1, ds1, p1, qq1, rfl, rfl, rfl, h1, r1⟩ := trodAll_cons r0
  obtain ⟨v2, vs2, d2, ds2, p2, qq2, rfl, rfl, rfl, h2, r2⟩ := trodAll_cons r1
  obtain ⟨v3, vs3, d3, ds3, p3, qq3, rfl, rfl, rfl, h3, r3⟩ := trodAll_cons r2
  obtain ⟨v4, vs4, d4, ds4, p4, qq4, rfl, rfl, rfl, h4, r4⟩ := trodAll_cons r3
  obtain ⟨rfl, rfl, rfl⟩ := trodAll_nil r4
  obtain rfl : args = #[v0, v1, v2, v3, v4] := by cases args; simp_all
  obtain ⟨rfl, rfl⟩ := trodVars_none hV
  have k0 := h0
  have lt0 : ∀ x ∈ p0, x.block < W.heap.size := by obtain ⟨m, hm⟩ := k0; exact DataW.trod_lt m _ _ _ hm
  obtain ⟨A0, c0, l0, rfl, hc0, hr0, q0⟩ := Opens.open_slice Try.underlying39 (Opens.opens_slice 42 Try.underlying39 (by kernel_rfl) (Opens.opens_iso (fun x : S42 => (x.f0, x.f1, x.f2, x.f3, x.f4)) (fun a => (⟨a.1, a.2.1, a.2.2.1, a.2.2.2.1, a.2.2.2.2⟩ : S42)) (fun _ => rfl) (Opens.opens_struct Try.underlying42 (by kernel_rfl) (Opens.opensF_cons rfl (by kernel_rfl) (Opens.opens_int Try.underlying3) (Opens.opensF_cons rfl (by kernel_rfl) (Opens.opens_int Try.underlying3) (Opens.opensF_cons rfl (by kernel_rfl) (Opens.opens_int Try.underlying3) (Opens.opensF_cons rfl (by kernel_rfl) (Opens.opens_int Try.underlying3) (Opens.opensF_one rfl (by kernel_rfl) (Opens.opens_int Try.underlying3))))))))) (hval 0 39 v0 rfl rfl) h0
  have k1 := h1
  have lt1 : ∀ x ∈ p1, x.block < W.heap.size := by obtain ⟨m, hm⟩ := k1; exact DataW.trod_lt m _ _ _ hm
  obtain ⟨cs1, s1, rfl, hK1, q1⟩ := Opens.open_struct Try.underlying47 (Opens.opens_iso (fun x : S47 => (x.f0, x.f1, x.f2, x.f3, x.f4, x.f5, x.f6, x.f7, x.f8)) (fun a => (⟨a.1, a.2.1, a.2.2.1, a.2.2.2.1, a.2.2.2.2.1, a.2.2.2.2.2.1, a.2.2.2.2.2.2.1, a.2.2.2.2.2.2.2.1, a.2.2.2.2.2.2.2.2⟩ : S47)) (fun _ => rfl) (Opens.opens_struct Try.underlying47 (by kernel_rfl) (Opens.opensF_cons rfl (by kernel_rfl) (Opens.opens_int Try.underlying3) (Opens.opensF_cons rfl (by kernel_rfl) (Opens.opens_int Try.underlying3) (Opens.opensF_cons rfl (by kernel_rfl) (Opens.opens_int Try.underlying3) (Opens.opensF_cons rfl (by kernel_rfl) (Opens.opens_int Try.underlying3) (Opens.opensF_cons rfl (by kernel_rfl) (Opens.opens_int Try.underlying3) (Opens.opensF_cons rfl (by kernel_rfl) (Opens.opens_bool Try.underlying4) (Opens.opensF_cons rfl (by kernel_rfl) (Opens.opens_int Try.underlying3) (Opens.opensF_cons rfl (by kernel_rfl) (Opens.opens_int Try.underlying3) (Opens.opensF_one rfl (by kernel_rfl) (Opens.opens_bool Try.underlying4)))))))))))) (hval 1 47 v1 rfl rfl) h1
  obtain rfl := k47_open hK1
  obtain ⟨a2, rfl, rfl, rfl, q2⟩ := open_int Try.underlying3 (hval 2 3 v2 rfl rfl) h2
  obtain ⟨a3, rfl, rfl, rfl, q3⟩ := open_int Try.underlying3 (hval 3 3 v3 rfl rfl) h3
  obtain ⟨a4, rfl, rfl, rfl, q4⟩ := open_int Try.underlying3 (hval 4 3 v4 rfl rfl) h4
  clear hA0 hval0 hsz0 hsz
  refine (cordwainlaw11_RetainAsks.walk Pure.RetainAsks A0 c0 l0 s1.f0 s1.f1 s1.f2 s1.f3 s1.f4 s1.f5 s1.f6 s1.f7 s1.f8 a2 a3 a4 W hc0 hr0 q0 q1 q2 q3 q4).mono fun e W' ⟨he, bel⟩ => ?_
  subst he
  exact ⟨_, rfl, _, _, _, [], _, [], hW', trodAll_mk1 (shut_bool Try.underlying4 _), (trodAll_cons_mk (Below.trod laidOut (by kernel_rfl) (of_decide_eq_true (by kernel_rfl)) k0 bel lt0) (trodAll_cons_mk (Below.trod laidOut (by kernel_rfl) (of_decide_eq_true (by kernel_rfl)) k1 bel lt1) (trodAll_cons_mk (shut_int Try.underlying3 q2) (trodAll_cons_mk (shut_int Try.underlying3 q3) (trodAll_cons_mk (shut_int Try.underlying3 q4) trodAll_mk0))))), rfl, bel.frame _, fun h => by cases h⟩
theorem over : Rows.retainAsksRow.holds Try.pinned (OpenSpec.ofChange Rows.retainAsksSpec) :=
  OpenClaim.holds_of_wide 10 Try.f10 rfl rfl rfl rfl rfl rfl rfl ⟨rfl, rfl, rfl, rfl, rfl⟩ rfl rfl rfl rfl rfl (by kernel_rfl) Try.func10 (by kernel_rfl)
    (of_decide_eq_true (by kernel_rfl)) (by unfold Func.isWrapper; first | (rw [if_pos (by decide +kernel)]; kernel_rfl) | (rw [if_neg (by decide +kernel)]; exact ⟨rfl, rfl⟩))
    (fun os started H enc _ => lifted os started H enc)
theorem proved : Rows.RetainAsksSaid := over
#print axioms proved
end Go.Proofs.Ytakodondlmiklaa.retainAsks
namespace Go.Proofs.Ytakodondlmiklaa
/-- The row, under a short name, for the claim. -/
theorem retainAsks_holds : Rows.RetainAsksSaid := retainAsks.proved
end Go.Proofs.Ytakodondlmiklaa
