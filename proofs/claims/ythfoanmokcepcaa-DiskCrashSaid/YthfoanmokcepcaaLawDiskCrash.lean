-- printed for this claim by a program of the session's own (hand.py); not trusted: Lean checks it
import Derived.Test.YthfoanmokcepcaaRows
import Derived.Test.YthfoanmokcepcaaQDiskCrashe
import Derived.WalkKit
import Derived.ProofKit
import Derived.OpenShut
import Derived.ShutString
import Derived.ChangeOld
import Derived.Below
import Derived.SizedLaws
namespace Go.Proofs.Ythfoanmokcepcaa.diskCrash
open Go.Proofs.Ythfoanmokcepcaa.CK Go.ChangeShapes Go.WideShapes Go.ChangeAt Go.RowKit Go.Proofs.Ythfoanmokcepcaa.YKW Go.Proofs.YthfoanmokcepcaaW.PrintWords Go.Proofs.YthfoanmokcepcaaW
open Go.ChangeMaps (open_string shut_string)
set_option linter.unusedVariables false
theorem own : ownKnob Try.prog.godebug = none := by kernel_rfl
theorem laidOut : laidOutB Try.prog = true := by kernel_rfl
set_option maxRecDepth 100000 in
theorem lifted (os : Os) (started : os.Started) (H : Type) (enc : TypeId × Value → H) :
    ReturnsInHanded {} Try.checked os 9 .any (Rows.diskCrashSpec.pre6 enc Try.prog Try.f9 Rows.diskCrashRow.domain false) (Rows.diskCrashSpec.post enc Try.prog Try.f9 false true false false) := by
  refine returnsInHanded_of_change_sized (C := Try.checked) own started (by kernel_rfl) Try.func9
    (ChangeSpec.witness6 (enc := enc) (C := Try.checked) false ⟨#[], #[.int .i64 0, .slice none 0 0, .slice none 0 0, .slice none 0 0, .slice none 0 0], []⟩ 8 (by kernel_rfl) (by kernel_rfl) (by kernel_rfl) (by kernel_rfl)) ?_
  intro W base args ds gs before hval0 hW hcnd hsz0 _
  have hsz : (DataW.weightsEach Try.prog (Try.f9.params.toList ++ Rows.diskCrashSpec.plain.varTypes Try.prog) (ds ++ gs)).all (· ≤ reachBytes) = true := hsz0
  have hval : ∀ (j : Nat) t v, Try.f9.params[j]? = some t → args[j]? = some v → Value.okWide Try.prog W .any base t v := hval0
  have hW' := hW
  obtain ⟨p, q, hA0, hV, rfl, hfz, hnd⟩ := hW
  have hA : DataW.TrodAll enc Try.prog W 0 (fun _ => true) true Try.f9.params.toList args.toList ds p := hA0
  rw [Try.params9] at hA hval hsz
  obtain ⟨v0, vs0, d0, ds0, p0, qq0, hargs, rfl, rfl, h0, r0⟩ := trodAll_cons hA
  obtain ⟨v1, vs1, d1, ds1, p1, qq1, rfl, rfl, rfl, h1, r1⟩ := trodAll_cons r0
  obtain ⟨v2, vs2, d2, ds2, p2, qq2, rfl, rfl, rfl, h2, r2⟩ := trodAll_cons r1
  obtain ⟨v3, vs3, d3, ds3, p3, qq3, rfl, rfl, rfl, h3, r3⟩ := trodAll_cons r2
  obtain ⟨v4, vs4, d4, ds4, p4, qq4, rfl, rfl, rfl, h4, r4⟩ := trodAll_cons r3
  obtain ⟨rfl, rfl, rfl⟩ := trodAll_nil r4
  obtain rfl : args = #[v0, v1, v2, v3, v4] := by cases args; simp_all
  obtain ⟨rfl, rfl⟩ := trodVars_none hV
  obtain ⟨a0, rfl, rfl, rfl, q0⟩ := open_int Try.underlying3 (hval 0 3 v0 rfl rfl) h0
  have k1 := h1
  have lt1 : ∀ x ∈ p1, x.block < W.heap.size := by obtain ⟨m, hm⟩ := k1; exact DataW.trod_lt m _ _ _ hm
  obtain ⟨A1, c1, l1, rfl, hc1, hr1, q1⟩ := Opens.open_slice Try.underlying48 (Opens.opens_slice 55 Try.underlying48 (by kernel_rfl) (Opens.opens_iso (fun x : S55 => (x.f0, x.f1, x.f2, x.f3, x.f4)) (fun a => (⟨a.1, a.2.1, a.2.2.1, a.2.2.2.1, a.2.2.2.2⟩ : S55)) (fun _ => rfl) (Opens.opens_struct Try.underlying55 (by kernel_rfl) (Opens.opensF_cons rfl (by kernel_rfl) (Opens.opens_int Try.underlying3) (Opens.opensF_cons rfl (by kernel_rfl) (Opens.opens_string Try.underlying9) (Opens.opensF_cons rfl (by kernel_rfl) (Opens.opens_string Try.underlying9) (Opens.opensF_cons rfl (by kernel_rfl) (Opens.opens_slice 5 Try.underlying22 (by kernel_rfl) (Opens.opens_int Try.underlying5)) (Opens.opensF_one rfl (by kernel_rfl) (Opens.opens_int Try.underlying3))))))))) (hval 1 48 v1 rfl rfl) h1
  have k2 := h2
  have lt2 : ∀ x ∈ p2, x.block < W.heap.size := by obtain ⟨m, hm⟩ := k2; exact DataW.trod_lt m _ _ _ hm
  obtain ⟨A2, c2, l2, rfl, hc2, hr2, q2⟩ := Opens.open_slice Try.underlying24 (Opens.opens_slice 3 Try.underlying24 (by kernel_rfl) (Opens.opens_int Try.underlying3)) (hval 2 24 v2 rfl rfl) h2
  have k3 := h3
  have lt3 : ∀ x ∈ p3, x.block < W.heap.size := by obtain ⟨m, hm⟩ := k3; exact DataW.trod_lt m _ _ _ hm
  obtain ⟨A3, c3, l3, rfl, hc3, hr3, q3⟩ := Opens.open_slice Try.underlying48 (Opens.opens_slice 55 Try.underlying48 (by kernel_rfl) (Opens.opens_iso (fun x : S55 => (x.f0, x.f1, x.f2, x.f3, x.f4)) (fun a => (⟨a.1, a.2.1, a.2.2.1, a.2.2.2.1, a.2.2.2.2⟩ : S55)) (fun _ => rfl) (Opens.opens_struct Try.underlying55 (by kernel_rfl) (Opens.opensF_cons rfl (by kernel_rfl) (Opens.opens_int Try.underlying3) (Opens.opensF_cons rfl (by kernel_rfl) (Opens.opens_string Try.underlying9) (Opens.opensF_cons rfl (by kernel_rfl) (Opens.opens_string Try.underlying9) (Opens.opensF_cons rfl (by kernel_rfl) (Opens.opens_slice 5 Try.underlying22 (by kernel_rfl) (Opens.opens_int Try.underlying5)) (Opens.opensF_one rfl (by kernel_rfl) (Opens.opens_int Try.underlying3))))))))) (hval 3 48 v3 rfl rfl) h3
  have k4 := h4
  have lt4 : ∀ x ∈ p4, x.block < W.heap.size := by obtain ⟨m, hm⟩ := k4; exact DataW.trod_lt m _ _ _ hm
  obtain ⟨A4, c4, l4, rfl, hc4, hr4, q4⟩ := Opens.open_slice Try.underlying24 (Opens.opens_slice 3 Try.underlying24 (by kernel_rfl) (Opens.opens_int Try.underlying3)) (hval 4 24 v4 rfl rfl) h4
  clear hA0 hval0 hsz0 hsz
  refine (diskCrash_walk a0 A1 c1 l1 A2 c2 l2 A3 c3 l3 A4 c4 l4 W hc1 hr1 hc2 hr2 hc3 hr3 hc4 hr4 q0 q1 q2 q3 q4).mono fun e W' ⟨he, bel⟩ => ?_
  subst he
  exact ⟨_, rfl, _, _, _, [], _, [], hW', trodAll_mk1 (shut_bool Try.underlying4 _), (trodAll_cons_mk (shut_int Try.underlying3 q0) (trodAll_cons_mk (Below.trod laidOut (by kernel_rfl) (of_decide_eq_true (by kernel_rfl)) k1 bel lt1) (trodAll_cons_mk (Below.trod laidOut (by kernel_rfl) (of_decide_eq_true (by kernel_rfl)) k2 bel lt2) (trodAll_cons_mk (Below.trod laidOut (by kernel_rfl) (of_decide_eq_true (by kernel_rfl)) k3 bel lt3) (trodAll_cons_mk (Below.trod laidOut (by kernel_rfl) (of_decide_eq_true (by kernel_rfl)) k4 bel lt4) trodAll_mk0))))), rfl, bel.frame _, fun h => by cases h⟩
theorem over : Rows.diskCrashRow.holds Try.pinned (OpenSpec.ofChange Rows.diskCrashSpec) :=
  OpenClaim.holds_of_wide 9 Try.f9 rfl rfl rfl rfl rfl rfl rfl ⟨rfl, rfl, rfl, rfl, rfl⟩ rfl rfl rfl rfl rfl (by kernel_rfl) Try.func9 (by kernel_rfl)
    (of_decide_eq_true (by kernel_rfl)) (by unfold Func.isWrapper; first | (rw [if_pos (by decide +kernel)]; kernel_rfl) | (rw [if_neg (by decide +kernel)]; exact ⟨rfl, rfl⟩))
    (fun os started H enc _ => lifted os started H enc)
theorem proved : Rows.DiskCrashSaid := over
#print axioms proved
end Go.Proofs.Ythfoanmokcepcaa.diskCrash
namespace Go.Proofs.Ythfoanmokcepcaa
/-- The row, under a short name, for the claim. -/
theorem diskCrash_holds : Rows.DiskCrashSaid := diskCrash.proved
end Go.Proofs.Ythfoanmokcepcaa
