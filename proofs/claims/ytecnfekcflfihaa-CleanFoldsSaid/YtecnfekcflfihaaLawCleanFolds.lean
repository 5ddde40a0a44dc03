-- printed for this claim by a program of the session's own (hand.py); not trusted: Lean checks it
import Derived.Test.YtecnfekcflfihaaRows
import Derived.Test.YtecnfekcflfihaaQCleanFoldsd
import Derived.WalkKit
import Derived.ProofKit
import Derived.OpenShut
import Derived.ShutString
import Derived.ChangeOld
import Derived.Below
import Derived.SizedLaws
namespace Go.Proofs.Ytecnfekcflfihaa.cleanFolds
open Go.Proofs.Ytecnfekcflfihaa.CK Go.ChangeShapes Go.WideShapes Go.ChangeAt Go.RowKit Go.Proofs.Ytecnfekcflfihaa.FVW Go.Proofs.YtecnfekcflfihaaW.PrintWords Go.Proofs.YtecnfekcflfihaaW
open Go.ChangeMaps (open_string shut_string)
set_option linter.unusedVariables false
theorem own : ownKnob Try.prog.godebug = none := by kernel_rfl
theorem laidOut : laidOutB Try.prog = true := by kernel_rfl
set_option maxRecDepth 100000 in
theorem lifted (os : Os) (started : os.Started) (H : Type) (enc : TypeId × Value → H) :
    ReturnsInHanded {} Try.checked os 12 .any (Rows.cleanFoldsSpec.pre6 enc Try.prog Try.f12 Rows.cleanFoldsRow.domain false) (Rows.cleanFoldsSpec.post enc Try.prog Try.f12 false true false false) := by
  refine returnsInHanded_of_change_sized (C := Try.checked) own started (by kernel_rfl) Try.func12
    (ChangeSpec.witness6 (enc := enc) (C := Try.checked) false ⟨#[], #[.slice none 0 0, .agg #[.int .i64 0, .int .i64 0, .int .i64 0, .int .i64 0, .int .i64 0, .bool false, .int .i64 0, .int .i64 0, .bool false], .slice none 0 0], []⟩ 8 (by kernel_rfl) (by kernel_rfl) (by kernel_rfl) (by kernel_rfl)) ?_
  intro W base args ds gs before hval0 hW hcnd hsz0 _
  have hsz : (DataW.weightsEach Try.prog (Try.f12.params.toList ++ Rows.cleanFoldsSpec.plain.varTypes Try.prog) (ds ++ gs)).all (· ≤ reachBytes) = true := hsz0
  have hval : ∀ (j : Nat) t v, Try.f12.params[j]? = some t → args[j]? = some v → Value.okWide Try.prog W .any base t v := hval0
  have hW' := hW
  obtain ⟨p, q, hA0, hV, rfl, hfz, hnd⟩ := hW
  have hA : DataW.TrodAll enc Try.prog W 0 (fun _ => true) true Try.f12.params.toList args.toList ds p := hA0
  rw [Try.params12] at hA hval hsz
  obtain ⟨v0, vs0, d0, ds0, p0, qq0, hargs, rfl, rfl, h0, r0⟩ := trodAll_cons hA
  obtain ⟨v1, vs1, d1, ds1, p1, qq1, rfl, rfl, rfl, h1, r1⟩ := trodAll_cons r0
  obtain ⟨v2, vs2, d2, ds2, p2, qq2, rfl, rfl, rfl, h2, r2⟩ := trodAll_cons r1
  obtain ⟨rfl, rfl, rfl⟩ := trodAll_nil r2
  obtain rfl : args = #[v0, v1, v2] := by cases args; simp_all
  obtain ⟨rfl, rfl⟩ := trodVars_none hV
  have k0 := h0
  have lt0 : ∀ x ∈ p0, x.block < W.heap.size := by obtain ⟨m, hm⟩ := k0; exact DataW.trod_lt m _ _ _ hm
  obtain ⟨A0, c0, l0, rfl, hc0, hr0, q0⟩ := Opens.open_slice Try.underlying22 (Opens.opens_slice 31 Try.underlying22 (by kernel_rfl) (Opens.opens_slice 46 Try.underlying31 (by kernel_rfl) (Opens.opens_iso (fun x : S46 => (x.f0, x.f1, x.f2, x.f3, x.f4, x.f5)) (fun a => (⟨a.1, a.2.1, a.2.2.1, a.2.2.2.1, a.2.2.2.2.1, a.2.2.2.2.2⟩ : S46)) (fun _ => rfl) (Opens.opens_struct Try.underlying46 (by kernel_rfl) (Opens.opensF_cons rfl (by kernel_rfl) (Opens.opens_int Try.underlying3) (Opens.opensF_cons rfl (by kernel_rfl) (Opens.opens_int Try.underlying3) (Opens.opensF_cons rfl (by kernel_rfl) (Opens.opens_int Try.underlying3) (Opens.opensF_cons rfl (by kernel_rfl) (Opens.opens_int Try.underlying3) (Opens.opensF_cons rfl (by kernel_rfl) (Opens.opens_int Try.underlying3) (Opens.opensF_one rfl (by kernel_rfl) (Opens.opens_slice 34 Try.underlying44 (by kernel_rfl) (Opens.opens_iso (fun x : S34 => (x.f0, x.f1, x.f2, x.f3, x.f4, x.f5)) (fun a => (⟨a.1, a.2.1, a.2.2.1, a.2.2.2.1, a.2.2.2.2.1, a.2.2.2.2.2⟩ : S34)) (fun _ => rfl) (Opens.opens_struct Try.underlying34 (by kernel_rfl) (Opens.opensF_cons rfl (by kernel_rfl) (Opens.opens_int Try.underlying3) (Opens.opensF_cons rfl (by kernel_rfl) (Opens.opens_int Try.underlying3) (Opens.opensF_cons rfl (by kernel_rfl) (Opens.opens_bool Try.underlying4) (Opens.opensF_cons rfl (by kernel_rfl) (Opens.opens_slice 5 Try.underlying32 (by kernel_rfl) (Opens.opens_int Try.underlying5)) (Opens.opensF_cons rfl (by kernel_rfl) (Opens.opens_bool Try.underlying4) (Opens.opensF_one rfl (by kernel_rfl) (Opens.opens_slice 5 Try.underlying32 (by kernel_rfl) (Opens.opens_int Try.underlying5))))))))))))))))))))) (hval 0 22 v0 rfl rfl) h0
  have k1 := h1
  have lt1 : ∀ x ∈ p1, x.block < W.heap.size := by obtain ⟨m, hm⟩ := k1; exact DataW.trod_lt m _ _ _ hm
  obtain ⟨cs1, s1, rfl, hK1, q1⟩ := Opens.open_struct Try.underlying24 (Opens.opens_iso (fun x : S24 => (x.f0, x.f1, x.f2, x.f3, x.f4, x.f5, x.f6, x.f7, x.f8)) (fun a => (⟨a.1, a.2.1, a.2.2.1, a.2.2.2.1, a.2.2.2.2.1, a.2.2.2.2.2.1, a.2.2.2.2.2.2.1, a.2.2.2.2.2.2.2.1, a.2.2.2.2.2.2.2.2⟩ : S24)) (fun _ => rfl) (Opens.opens_struct Try.underlying24 (by kernel_rfl) (Opens.opensF_cons rfl (by kernel_rfl) (Opens.opens_int Try.underlying3) (Opens.opensF_cons rfl (by kernel_rfl) (Opens.opens_int Try.underlying3) (Opens.opensF_cons rfl (by kernel_rfl) (Opens.opens_int Try.underlying3) (Opens.opensF_cons rfl (by kernel_rfl) (Opens.opens_int Try.underlying3) (Opens.opensF_cons rfl (by kernel_rfl) (Opens.opens_int Try.underlying3) (Opens.opensF_cons rfl (by kernel_rfl) (Opens.opens_bool Try.underlying4) (Opens.opensF_cons rfl (by kernel_rfl) (Opens.opens_int Try.underlying3) (Opens.opensF_cons rfl (by kernel_rfl) (Opens.opens_int Try.underlying3) (Opens.opensF_one rfl (by kernel_rfl) (Opens.opens_bool Try.underlying4)))))))))))) (hval 1 24 v1 rfl rfl) h1
  obtain rfl := k24_open hK1
  have k2 := h2
  have lt2 : ∀ x ∈ p2, x.block < W.heap.size := by obtain ⟨m, hm⟩ := k2; exact DataW.trod_lt m _ _ _ hm
  obtain ⟨A2, c2, l2, rfl, hc2, hr2, q2⟩ := Opens.open_slice Try.underlying80 (Opens.opens_slice 3 Try.underlying80 (by kernel_rfl) (Opens.opens_int Try.underlying3)) (hval 2 80 v2 rfl rfl) h2
  clear hA0 hval0 hsz0 hsz
  refine (cleanFolds_walk A0 c0 l0 s1.f0 s1.f1 s1.f2 s1.f3 s1.f4 s1.f5 s1.f6 s1.f7 s1.f8 A2 c2 l2 W hc0 hr0 hc2 hr2 q0 q1 q2).mono fun e W' ⟨he, bel⟩ => ?_
  subst he
  exact ⟨_, rfl, _, _, _, [], _, [], hW', trodAll_mk1 (shut_bool Try.underlying4 _), (trodAll_cons_mk (Below.trod laidOut (by kernel_rfl) (of_decide_eq_true (by kernel_rfl)) k0 bel lt0) (trodAll_cons_mk (Below.trod laidOut (by kernel_rfl) (of_decide_eq_true (by kernel_rfl)) k1 bel lt1) (trodAll_cons_mk (Below.trod laidOut (by kernel_rfl) (of_decide_eq_true (by kernel_rfl)) k2 bel lt2) trodAll_mk0))), rfl, bel.frame _, fun h => by cases h⟩
theorem over : Rows.cleanFoldsRow.holds Try.pinned (OpenSpec.ofChange Rows.cleanFoldsSpec) :=
  OpenClaim.holds_of_wide 12 Try.f12 rfl rfl rfl rfl rfl rfl rfl ⟨rfl, rfl, rfl, rfl, rfl⟩ rfl rfl rfl rfl rfl (by kernel_rfl) Try.func12 (by kernel_rfl)
    (of_decide_eq_true (by kernel_rfl)) (by unfold Func.isWrapper; first | (rw [if_pos (by decide +kernel)]; kernel_rfl) | (rw [if_neg (by decide +kernel)]; exact ⟨rfl, rfl⟩))
    (fun os started H enc _ => lifted os started H enc)
theorem proved : Rows.CleanFoldsSaid := over
#print axioms proved
end Go.Proofs.Ytecnfekcflfihaa.cleanFolds
namespace Go.Proofs.Ytecnfekcflfihaa
/-- The row, under a short name, for the claim. -/
theorem cleanFolds_holds : Rows.CleanFoldsSaid := cleanFolds.proved
end Go.Proofs.Ytecnfekcflfihaa
