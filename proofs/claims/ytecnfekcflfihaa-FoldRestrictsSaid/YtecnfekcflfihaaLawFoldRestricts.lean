-- printed for this claim by a program of the session's own (hand.py); not trusted: Lean checks it
import Derived.Test.YtecnfekcflfihaaRows
import Derived.Test.YtecnfekcflfihaaQFoldRestrictsd
import Derived.WalkKit
import Derived.ProofKit
import Derived.OpenShut
import Derived.ShutString
import Derived.ChangeOld
import Derived.Below
import Derived.SizedLaws
namespace Go.Proofs.Ytecnfekcflfihaa.foldRestricts
open Go.Proofs.Ytecnfekcflfihaa.CK Go.ChangeShapes Go.WideShapes Go.ChangeAt Go.RowKit Go.Proofs.Ytecnfekcflfihaa.FRW Go.Proofs.YtecnfekcflfihaaW.PrintWords Go.Proofs.YtecnfekcflfihaaW
open Go.ChangeMaps (open_string shut_string)
set_option linter.unusedVariables false
theorem own : ownKnob Try.prog.godebug = none := by kernel_rfl
theorem laidOut : laidOutB Try.prog = true := by kernel_rfl
set_option maxRecDepth 100000 in
theorem lifted (os : Os) (started : os.Started) (H : Type) (enc : TypeId × Value → H) :
    ReturnsInHanded {} Try.checked os 10 .any (Rows.foldRestrictsSpec.pre6 enc Try.prog Try.f10 Rows.foldRestrictsRow.domain false) (Rows.foldRestrictsSpec.post enc Try.prog Try.f10 false true false false) := by
  refine returnsInHanded_of_change_sized (C := Try.checked) own started (by kernel_rfl) Try.func10
    (ChangeSpec.witness6 (enc := enc) (C := Try.checked) false ⟨#[], #[.slice none 0 0, .int .i64 0, .int .i64 0, .slice none 0 0, .slice none 0 0], []⟩ 8 (by kernel_rfl) (by kernel_rfl) (by kernel_rfl) (by kernel_rfl)) ?_
  intro W base args ds gs before hval0 hW hcnd hsz0 _
  have hsz : (DataW.weightsEach Try.prog (Try.f10.params.toList ++ Rows.foldRestrictsSpec.plain.varTypes Try.prog) (ds ++ gs)).all (· ≤ reachBytes) = true := hsz0
  have hval : ∀ (j : Nat) t v, Try.f10.params[j]? = some t → args[j]? = some v → Value.okWide Try.prog W .any base t v := hval0
  have hW' := hW
  obtain ⟨p, q, hA0, hV, rfl, hfz, hnd⟩ := hW
  have hA : DataW.TrodAll enc Try.prog W 0 (fun _ => true) true Try.f10.params.toList args.toList ds p := hA0
  rw [Try.params10] at hA hval hsz
  obtain ⟨v0, vs0, d0, ds0, p0, qq0, hargs, rfl, rfl, h0, r0⟩ := trodAll_cons hA
  obtain ⟨v1, vs1, d1, ds1, p1, qq1, rfl, rfl, rfl, h1, r1⟩ := trodAll_cons r0
  obtain ⟨v2, vs2, d2, ds2, p2, qq2, rfl, rfl, rfl, h2, r2⟩ := trodAll_cons r1
  obtain ⟨v3, vs3, d3, ds3, p3, qq3, rfl, rfl, rfl, h3, r3⟩ := trodAll_cons r2
  obtain ⟨v4, vs4, d4, ds4, p4, qq4, rfl, rfl, rfl, h4, r4⟩ := trodAll_cons r3
  obtain ⟨rfl, rfl, rfl⟩ := trodAll_nil r4
  obtain rfl : args = #[v0, v1, v2, v3, v4] := by cases args; simp_all
  obtain ⟨rfl, rfl⟩ := trodVars_none hV
  have k0 := h0
  have lt0 : ∀ x ∈ p0, x.block < W.heap.size := by obtain ⟨m, hm⟩ := k0; exact DataW.trod_lt m _ _ _ hm
  obtain ⟨A0, c0, l0, rfl, hc0, hr0, q0⟩ := Opens.open_slice Try.underlying31 (Opens.opens_slice 46 Try.underlying31 (by kernel_rfl) (Opens.opens_iso (fun x : S46 => (x.f0, x.f1, x.f2, x.f3, x.f4, x.f5)) (fun a => (⟨a.1, a.2.1, a.2.2.1, a.2.2.2.1, a.2.2.2.2.1, a.2.2.2.2.2⟩ : S46)) (fun _ => rfl) (Opens.opens_struct Try.underlying46 (by kernel_rfl) (Opens.opensF_cons rfl (by kernel_rfl) (Opens.opens_int Try.underlying3) (Opens.opensF_cons rfl (by kernel_rfl) (Opens.opens_int Try.underlying3) (Opens.opensF_cons rfl (by kernel_rfl) (Opens.opens_int Try.underlying3) (Opens.opensF_cons rfl (by kernel_rfl) (Opens.opens_int Try.underlying3) (Opens.opensF_cons rfl (by kernel_rfl) (Opens.opens_int Try.underlying3) (Opens.opensF_one rfl (by kernel_rfl) (Opens.opens_slice 34 Try.underlying44 (by kernel_rfl) (Opens.opens_iso (fun x : S34 => (x.f0, x.f1, x.f2, x.f3, x.f4, x.f5)) (fun a => (⟨a.1, a.2.1, a.2.2.1, a.2.2.2.1, a.2.2.2.2.1, a.2.2.2.2.2⟩ : S34)) (fun _ => rfl) (Opens.opens_struct Try.underlying34 (by kernel_rfl) (Opens.opensF_cons rfl (by kernel_rfl) (Opens.opens_int Try.underlying3) (Opens.opensF_cons rfl (by kernel_rfl) (Opens.opens_int Try.underlying3) (Opens.opensF_cons rfl (by kernel_rfl) (Opens.opens_bool Try.underlying4) (Opens.opensF_cons rfl (by kernel_rfl) (Opens.opens_slice 5 Try.underlying32 (by kernel_rfl) (Opens.opens_int Try.underlying5)) (Opens.opensF_cons rfl (by kernel_rfl) (Opens.opens_bool Try.underlying4) (Opens.opensF_one rfl (by kernel_rfl) (Opens.opens_slice 5 Try.underlying32 (by kernel_rfl) (Opens.opens_int Try.underlying5)))))))))))))))))))) (hval 0 31 v0 rfl rfl) h0
  obtain ⟨a1, rfl, rfl, rfl, q1⟩ := open_int Try.underlying3 (hval 1 3 v1 rfl rfl) h1
  obtain ⟨a2, rfl, rfl, rfl, q2⟩ := open_int Try.underlying3 (hval 2 3 v2 rfl rfl) h2
  have k3 := h3
  have lt3 : ∀ x ∈ p3, x.block < W.heap.size := by obtain ⟨m, hm⟩ := k3; exact DataW.trod_lt m _ _ _ hm
  obtain ⟨A3, c3, l3, rfl, hc3, hr3, q3⟩ := Opens.open_slice Try.underlying64 (Opens.opens_slice 103 Try.underlying64 (by kernel_rfl) (Opens.opens_iso (fun x : S103 => (x.f0, x.f1, x.f2)) (fun a => (⟨a.1, a.2.1, a.2.2⟩ : S103)) (fun _ => rfl) (Opens.opens_struct Try.underlying103 (by kernel_rfl) (Opens.opensF_cons rfl (by kernel_rfl) (Opens.opens_slice 5 Try.underlying32 (by kernel_rfl) (Opens.opens_int Try.underlying5)) (Opens.opensF_cons rfl (by kernel_rfl) (Opens.opens_slice 5 Try.underlying32 (by kernel_rfl) (Opens.opens_int Try.underlying5)) (Opens.opensF_one rfl (by kernel_rfl) (Opens.opens_int Try.underlying3))))))) (hval 3 64 v3 rfl rfl) h3
  have k4 := h4
  have lt4 : ∀ x ∈ p4, x.block < W.heap.size := by obtain ⟨m, hm⟩ := k4; exact DataW.trod_lt m _ _ _ hm
  obtain ⟨A4, c4, l4, rfl, hc4, hr4, q4⟩ := Opens.open_slice Try.underlying64 (Opens.opens_slice 103 Try.underlying64 (by kernel_rfl) (Opens.opens_iso (fun x : S103 => (x.f0, x.f1, x.f2)) (fun a => (⟨a.1, a.2.1, a.2.2⟩ : S103)) (fun _ => rfl) (Opens.opens_struct Try.underlying103 (by kernel_rfl) (Opens.opensF_cons rfl (by kernel_rfl) (Opens.opens_slice 5 Try.underlying32 (by kernel_rfl) (Opens.opens_int Try.underlying5)) (Opens.opensF_cons rfl (by kernel_rfl) (Opens.opens_slice 5 Try.underlying32 (by kernel_rfl) (Opens.opens_int Try.underlying5)) (Opens.opensF_one rfl (by kernel_rfl) (Opens.opens_int Try.underlying3))))))) (hval 4 64 v4 rfl rfl) h4
  clear hA0 hval0 hsz0 hsz
  refine (foldRestricts_walk A0 c0 l0 a1 a2 A3 c3 l3 A4 c4 l4 W hc0 hr0 hc3 hr3 hc4 hr4 q0 q1 q2 q3 q4).mono fun e W' ⟨he, bel⟩ => ?_
  subst he
  exact ⟨_, rfl, _, _, _, [], _, [], hW', trodAll_mk1 (shut_bool Try.underlying4 _), (trodAll_cons_mk (Below.trod laidOut (by kernel_rfl) (of_decide_eq_true (by kernel_rfl)) k0 bel lt0) (trodAll_cons_mk (shut_int Try.underlying3 q1) (trodAll_cons_mk (shut_int Try.underlying3 q2) (trodAll_cons_mk (Below.trod laidOut (by kernel_rfl) (of_decide_eq_true (by kernel_rfl)) k3 bel lt3) (trodAll_cons_mk (Below.trod laidOut (by kernel_rfl) (of_decide_eq_true (by kernel_rfl)) k4 bel lt4) trodAll_mk0))))), rfl, bel.frame _, fun h => by cases h⟩
theorem over : Rows.foldRestrictsRow.holds Try.pinned (OpenSpec.ofChange Rows.foldRestrictsSpec) :=
  OpenClaim.holds_of_wide 10 Try.f10 rfl rfl rfl rfl rfl rfl rfl ⟨rfl, rfl, rfl, rfl, rfl⟩ rfl rfl rfl rfl rfl (by kernel_rfl) Try.func10 (by kernel_rfl)
    (of_decide_eq_true (by kernel_rfl)) (by unfold Func.isWrapper; first | (rw [if_pos (by decide +kernel)]; kernel_rfl) | (rw [if_neg (by decide +kernel)]; exact ⟨rfl, rfl⟩))
    (fun os started H enc _ => lifted os started H enc)
theorem proved : Rows.FoldRestrictsSaid := over
#print axioms proved
end Go.Proofs.Ytecnfekcflfihaa.foldRestricts
namespace Go.Proofs.Ytecnfekcflfihaa
/-- The row, under a short name, for the claim. -/
theorem foldRestricts_holds : Rows.FoldRestrictsSaid := foldRestricts.proved
end Go.Proofs.Ytecnfekcflfihaa
