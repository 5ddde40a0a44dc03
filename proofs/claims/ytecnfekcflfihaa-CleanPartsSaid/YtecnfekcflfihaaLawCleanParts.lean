-- printed for this claim by a program of the session's own (hand.py); not trusted: Lean checks it
import Derived.Test.YtecnfekcflfihaaRows
import Derived.Test.YtecnfekcflfihaaMUW
import Derived.Test.YtecnfekcflfihaaCK
import Derived.Test.YtecnfekcflfihaaOpens
import Derived.WalkKit
import Derived.ProofKit
import Derived.OpenShut
import Derived.ShutString
import Derived.ChangeOld
import Derived.Below
import Derived.SizedLaws
namespace Go.Proofs.Ytecnfekcflfihaa.cleanParts
open Go.Proofs.Ytecnfekcflfihaa.CK Go.ChangeShapes Go.WideShapes Go.ChangeAt Go.RowKit Go.Proofs.Ytecnfekcflfihaa.MUW Go.Proofs.YtecnfekcflfihaaW.PrintWords Go.Proofs.YtecnfekcflfihaaW
open Go.ChangeMaps (open_string shut_string)
set_option linter.unusedVariables false
theorem own : ownKnob Try.prog.godebug = none := by kernel_rfl
theorem laidOut : laidOutB Try.prog = true := by kernel_rfl
set_option maxRecDepth 100000 in
theorem lifted (os : Os) (started : os.Started) (H : Type) (enc : TypeId × Value → H) :
    ReturnsInHanded {} Try.checked os 4 .any (Rows.cleanPartsSpec.pre6 enc Try.prog Try.f4 Rows.cleanPartsRow.domain false) (Rows.cleanPartsSpec.post enc Try.prog Try.f4 false true false false) := by
  refine returnsInHanded_of_change_sized (C := Try.checked) own started (by kernel_rfl) Try.func4
    (ChangeSpec.witness6 (enc := enc) (C := Try.checked) false ⟨#[], #[.slice none 0 0, .int .i64 0, .int .i64 0, .int .i64 0, .int .i64 0, .int .i64 0, .agg #[.int .i64 0, .int .i64 0, .bool false, .slice none 0 0, .bool false, .slice none 0 0]], []⟩ 8 (by kernel_rfl) (by kernel_rfl) (by kernel_rfl) (by kernel_rfl)) ?_
  intro W base args ds gs before hval0 hW hcnd hsz0 _
  have hsz : (DataW.weightsEach Try.prog (Try.f4.params.toList ++ Rows.cleanPartsSpec.plain.varTypes Try.prog) (ds ++ gs)).all (· ≤ reachBytes) = true := hsz0
  have hval : ∀ (j : Nat) t v, Try.f4.params[j]? = some t → args[j]? = some v → Value.okWide Try.prog W .any base t v := hval0
  have hW' := hW
  obtain ⟨p, q, hA0, hV, rfl, hfz, hnd⟩ := hW
  have hA : DataW.TrodAll enc Try.prog W 0 (fun _ => true) true Try.f4.params.toList args.toList ds p := hA0
  rw [Try.params4] at hA hval hsz
  obtain ⟨v0, vs0, d0, ds0, p0, qq0, hargs, rfl, rfl, h0, r0⟩ := trodAll_cons hA
  obtain ⟨v1, vs1, d1, ds1, p1, qq1, rfl, rfl, rfl, h1, r1⟩ := trodAll_cons r0
  obtain ⟨v2, vs2, d2, ds2, p2, qq2, rfl, rfl, rfl, h2, r2⟩ := trodAll_cons r1
  obtain ⟨v3, vs3, d3, ds3, p3, qq3, rfl, rfl, rfl, h3, r3⟩ := trodAll_cons r2
  obtain ⟨v4, vs4, d4, ds4, p4, qq4, rfl, rfl, rfl, h4, r4⟩ := trodAll_cons r3
  obtain ⟨v5, vs5, d5, ds5, p5, qq5, rfl, rfl, rfl, h5, r5⟩ := trodAll_cons r4
  obtain ⟨v6, vs6, d6, ds6, p6, qq6, rfl, rfl, rfl, h6, r6⟩ := trodAll_cons r5
  obtain ⟨rfl, rfl, rfl⟩ := trodAll_nil r6
  obtain rfl : args = #[v0, v1, v2, v3, v4, v5, v6] := by cases args; simp_all
  obtain ⟨rfl, rfl⟩ := trodVars_none hV
  have k0 := h0
  have lt0 : ∀ x ∈ p0, x.block < W.heap.size := by obtain ⟨m, hm⟩ := k0; exact DataW.trod_lt m _ _ _ hm
  obtain ⟨A0, c0, l0, rfl, hc0, hr0, q0⟩ := Opens.open_slice Try.underlying31 (Opens.opens_slice 46 Try.underlying31 (by kernel_rfl) (Opens.opens_iso (fun x : S46 => (x.f0, x.f1, x.f2, x.f3, x.f4, x.f5)) (fun a => (⟨a.1, a.2.1, a.2.2.1, a.2.2.2.1, a.2.2.2.2.1, a.2.2.2.2.2⟩ : S46)) (fun _ => rfl) (Opens.opens_struct Try.underlying46 (by kernel_rfl) (Opens.opensF_cons rfl (by kernel_rfl) (Opens.opens_int Try.underlying3) (Opens.opensF_cons rfl (by kernel_rfl) (Opens.opens_int Try.underlying3) (Opens.opensF_cons rfl (by kernel_rfl) (Opens.opens_int Try.underlying3) (Opens.opensF_cons rfl (by kernel_rfl) (Opens.opens_int Try.underlying3) (Opens.opensF_cons rfl (by kernel_rfl) (Opens.opens_int Try.underlying3) (Opens.opensF_one rfl (by kernel_rfl) (Opens.opens_slice 34 Try.underlying44 (by kernel_rfl) (Opens.opens_iso (fun x : S34 => (x.f0, x.f1, x.f2, x.f3, x.f4, x.f5)) (fun a => (⟨a.1, a.2.1, a.2.2.1, a.2.2.2.1, a.2.2.2.2.1, a.2.2.2.2.2⟩ : S34)) (fun _ => rfl) (Opens.opens_struct Try.underlying34 (by kernel_rfl) (Opens.opensF_cons rfl (by kernel_rfl) (Opens.opens_int Try.underlying3) (Opens.opensF_cons rfl (by kernel_rfl) (Opens.opens_int Try.underlying3) (Opens.opensF_cons rfl (by kernel_rfl) (Opens.opens_bool Try.underlying4) (Opens.opensF_cons rfl (by kernel_rfl) (Opens.opens_slice 5 Try.underlying32 (by kernel_rfl) (Opens.opens_int Try.underlying5)) (Opens.opensF_cons rfl (by kernel_rfl) (Opens.opens_bool Try.underlying4) (Opens.opensF_one rfl (by kernel_rfl) (Opens.opens_slice 5 Try.underlying32 (by kernel_rfl) (Opens.opens_int Try.underlying5)))))))))))))))))))) (hval 0 31 v0 rfl rfl) h0
  obtain ⟨a1, rfl, rfl, rfl, q1⟩ := open_int Try.underlying3 (hval 1 3 v1 rfl rfl) h1
  obtain ⟨a2, rfl, rfl, rfl, q2⟩ := open_int Try.underlying3 (hval 2 3 v2 rfl rfl) h2
  obtain ⟨a3, rfl, rfl, rfl, q3⟩ := open_int Try.underlying3 (hval 3 3 v3 rfl rfl) h3
  obtain ⟨a4, rfl, rfl, rfl, q4⟩ := open_int Try.underlying3 (hval 4 3 v4 rfl rfl) h4
  obtain ⟨a5, rfl, rfl, rfl, q5⟩ := open_int Try.underlying3 (hval 5 3 v5 rfl rfl) h5
  have k6 := h6
  have lt6 : ∀ x ∈ p6, x.block < W.heap.size := by obtain ⟨m, hm⟩ := k6; exact DataW.trod_lt m _ _ _ hm
  obtain ⟨cs6, s6, rfl, hK6, q6⟩ := Opens.open_struct Try.underlying34 (Opens.opens_iso (fun x : S34 => (x.f0, x.f1, x.f2, x.f3, x.f4, x.f5)) (fun a => (⟨a.1, a.2.1, a.2.2.1, a.2.2.2.1, a.2.2.2.2.1, a.2.2.2.2.2⟩ : S34)) (fun _ => rfl) (Opens.opens_struct Try.underlying34 (by kernel_rfl) (Opens.opensF_cons rfl (by kernel_rfl) (Opens.opens_int Try.underlying3) (Opens.opensF_cons rfl (by kernel_rfl) (Opens.opens_int Try.underlying3) (Opens.opensF_cons rfl (by kernel_rfl) (Opens.opens_bool Try.underlying4) (Opens.opensF_cons rfl (by kernel_rfl) (Opens.opens_slice 5 Try.underlying32 (by kernel_rfl) (Opens.opens_int Try.underlying5)) (Opens.opensF_cons rfl (by kernel_rfl) (Opens.opens_bool Try.underlying4) (Opens.opensF_one rfl (by kernel_rfl) (Opens.opens_slice 5 Try.underlying32 (by kernel_rfl) (Opens.opens_int Try.underlying5)))))))))) (hval 6 34 v6 rfl rfl) h6
  obtain ⟨A6_3, c6_3, A6_5, c6_5, rfl, hc6_3, hr6_3, hc6_5, hr6_5⟩ := k34_open hK6
  clear hA0 hval0 hsz0 hsz
  refine (cleanParts_walk A0 c0 l0 a1 a2 a3 a4 a5 s6.f0 s6.f1 s6.f2 A6_3 c6_3 s6.f3 s6.f4 A6_5 c6_5 s6.f5 W hc0 hr0 hc6_3 hr6_3 hc6_5 hr6_5 q0 q1 q2 q3 q4 q5 q6).mono fun e W' ⟨he, bel⟩ => ?_
  subst he
  exact ⟨_, rfl, _, _, _, [], _, [], hW', trodAll_mk1 (shut_bool Try.underlying4 _), (trodAll_cons_mk (Below.trod laidOut (by kernel_rfl) (of_decide_eq_true (by kernel_rfl)) k0 bel lt0) (trodAll_cons_mk (shut_int Try.underlying3 q1) (trodAll_cons_mk (shut_int Try.underlying3 q2) (trodAll_cons_mk (shut_int Try.underlying3 q3) (trodAll_cons_mk (shut_int Try.underlying3 q4) (trodAll_cons_mk (shut_int Try.underlying3 q5) (trodAll_cons_mk (Below.trod laidOut (by kernel_rfl) (of_decide_eq_true (by kernel_rfl)) k6 bel lt6) trodAll_mk0))))))), rfl, bel.frame _, fun h => by cases h⟩
theorem over : Rows.cleanPartsRow.holds Try.pinned (OpenSpec.ofChange Rows.cleanPartsSpec) :=
  OpenClaim.holds_of_wide 4 Try.f4 rfl rfl rfl rfl rfl rfl rfl ⟨rfl, rfl, rfl, rfl, rfl⟩ rfl rfl rfl rfl rfl (by kernel_rfl) Try.func4 (by kernel_rfl)
    (of_decide_eq_true (by kernel_rfl)) (by unfold Func.isWrapper; first | (rw [if_pos (by decide +kernel)]; kernel_rfl) | (rw [if_neg (by decide +kernel)]; exact ⟨rfl, rfl⟩))
    (fun os started H enc _ => lifted os started H enc)
theorem proved : Rows.CleanPartsSaid := over
#print axioms proved
end Go.Proofs.Ytecnfekcflfihaa.cleanParts
namespace Go.Proofs.Ytecnfekcflfihaa
/-- The row, under a short name, for the claim. -/
theorem cleanParts_holds : Rows.CleanPartsSaid := cleanParts.proved
end Go.Proofs.Ytecnfekcflfihaa
