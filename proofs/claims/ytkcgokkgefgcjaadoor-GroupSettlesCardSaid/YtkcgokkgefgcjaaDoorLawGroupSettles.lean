-- printed for this claim by a program of the session's own (hand.py); not trusted: Lean checks it
import Derived.Test.YtkcgokkgefgcjaaDoorRows
import Derived.Test.YtkcgokkgefgcjaaDoorTie
import Derived.Test.YtkcgokkgefgcjaaDoorCards
import Derived.LaidMore
import Derived.Stop.Joined
import Derived.SevenTiedAt
import Derived.Test.YtkcgokkgefgcjaaDoorQGroupSettlesf
import Derived.WalkKit
import Derived.ProofKit
import Derived.OpenShut
import Derived.ShutString
import Derived.ChangeOld
import Derived.Below
import Derived.SizedLaws
namespace Go.Proofs.YtkcgokkgefgcjaaDoor.groupSettles
open Go.Proofs.YtkcgokkgefgcjaaDoor.CK Go.ChangeShapes Go.WideShapes Go.ChangeAt Go.RowKit Go.Proofs.YtkcgokkgefgcjaaDoor.JFW Go.Proofs.YtkcgokkgefgcjaaDoorW.PrintWords Go.Proofs.YtkcgokkgefgcjaaDoorW
open Go.ChangeMaps (open_string shut_string)
set_option linter.unusedVariables false
theorem own : ownKnob Tryd.prog.godebug = none := by kernel_rfl
theorem laidOut : laidOutB Tryd.prog = true := by kernel_rfl
/-- The door's own heap meets the condition: three closed facts. -/
theorem door_met (os : Os) (args : Array Value) : laidMetH Tryd.prog Rows.groupSettlesRow.laid ((World.doorLaid Tryd.prog 400 os).forCall (fun _ _ => 0) ⟨#[], args, []⟩).memory :=
  laidMetH_of_parts3 (fuel := 8) (laidMet_of_run' 8 (by kernel_rfl) (by kernel_rfl)) (by kernel_rfl) (by kernel_rfl)
set_option maxRecDepth 100000 in
theorem lifted (os : Os) (started : os.Started) (H : Type) (enc : TypeId × Value → H) :
    ReturnsInHanded {} Tryd.checked os 5 .any (fun w args => (Rows.groupSettlesSpec.pre enc Tryd.prog Tryd.f5 [] false w args ∧ laidMetH Tryd.prog Rows.groupSettlesRow.laid w) ∧ sizedMet enc Tryd.prog Tryd.f5 (OpenSpec.ofChange Rows.groupSettlesSpec) false w args) (Rows.groupSettlesSpec.post enc Tryd.prog Tryd.f5 false true false false) := by
  refine returnsInHanded_of_change_and (C := Tryd.checked) (X := fun w _ => laidMetH Tryd.prog Rows.groupSettlesRow.laid w) (fun _ _ _ hh h => h.of_heap hh) own started (by kernel_rfl) Tryd.func5
    (ChangeSpec.witness_shaped (enc := enc) (C := Tryd.checked) (os := os) (X := fun w _ => laidMetH Tryd.prog Rows.groupSettlesRow.laid w) false (World.doorLaid Tryd.prog 400 os) #[.int .i64 0, .slice none 0 0] 8 rfl (World.shaped_of_RefB (by kernel_rfl) (by kernel_rfl)) (by kernel_rfl) (by kernel_rfl) (by kernel_rfl) (door_met os _)) ?_
  intro W base args ds gs before hval0 hW hcnd hsz0 _ _
  have hsz : (DataW.weightsEach Tryd.prog (Tryd.f5.params.toList ++ Rows.groupSettlesSpec.plain.varTypes Tryd.prog) (ds ++ gs)).all (· ≤ reachBytes) = true := hsz0
  have hval : ∀ (j : Nat) t v, Tryd.f5.params[j]? = some t → args[j]? = some v → Value.okWide Tryd.prog W .any base t v := hval0
  have hW' := hW
  obtain ⟨p, q, hA0, hV, rfl, hfz, hnd⟩ := hW
  have hA : DataW.TrodAll enc Tryd.prog W 0 (fun _ => true) true Tryd.f5.params.toList args.toList ds p := hA0
  rw [Tryd.params5] at hA hval hsz
  obtain ⟨v0, vs0, d0, ds0, p0, qq0, hargs, rfl, rfl, h0, r0⟩ := trodAll_cons hA
  obtain ⟨v1, vs1, d1, ds1, p1, qq1, rfl, rfl, rfl, h1, r1⟩ := trodAll_cons r0
  obtain ⟨rfl, rfl, rfl⟩ := trodAll_nil r1
  obtain rfl : args = #[v0, v1] := by cases args; simp_all
  obtain ⟨rfl, rfl⟩ := trodVars_none hV
  obtain ⟨a0, rfl, rfl, rfl, q0⟩ := open_int Tryd.underlying3 (hval 0 3 v0 rfl rfl) h0
  have k1 := h1
  have lt1 : ∀ x ∈ p1, x.block < W.heap.size := by obtain ⟨m, hm⟩ := k1; exact DataW.trod_lt m _ _ _ hm
  obtain ⟨A1, c1, l1, rfl, hc1, hr1, q1⟩ := Opens.open_slice Tryd.underlying43 (Opens.opens_slice 50 Tryd.underlying43 (by kernel_rfl) (Opens.opens_iso (fun x : S50 => (x.f0, x.f1, x.f2, x.f3, x.f4)) (fun a => (⟨a.1, a.2.1, a.2.2.1, a.2.2.2.1, a.2.2.2.2⟩ : S50)) (fun _ => rfl) (Opens.opens_struct Tryd.underlying50 (by kernel_rfl) (Opens.opensF_cons rfl (by kernel_rfl) (Opens.opens_int Tryd.underlying3) (Opens.opensF_cons rfl (by kernel_rfl) (Opens.opens_string Tryd.underlying9) (Opens.opensF_cons rfl (by kernel_rfl) (Opens.opens_slice 9 Tryd.underlying32 (by kernel_rfl) (Opens.opens_string Tryd.underlying9)) (Opens.opensF_cons rfl (by kernel_rfl) (Opens.opens_int Tryd.underlying3) (Opens.opensF_one rfl (by kernel_rfl) (Opens.opens_int Tryd.underlying3))))))))) (hval 1 43 v1 rfl rfl) h1
  clear hA0 hval0 hsz0 hsz
  refine (groupSettles_walk a0 A1 c1 l1 W hc1 hr1 q0 q1).mono fun e W' ⟨he, bel⟩ => ?_
  subst he
  exact ⟨_, rfl, _, _, _, [], _, [], hW', trodAll_mk1 (shut_bool Tryd.underlying4 _), (trodAll_cons_mk (shut_int Tryd.underlying3 q0) (trodAll_cons_mk (Below.trod laidOut (by kernel_rfl) (of_decide_eq_true (by kernel_rfl)) k1 bel lt1) trodAll_mk0)), rfl, bel.frame _, fun h => by cases h⟩
theorem over : Rows.groupSettlesRow.holds Tryd.pinned (OpenSpec.ofChange Rows.groupSettlesSpec) :=
  OpenClaim.holds_of_wide 5 Tryd.f5 rfl rfl rfl rfl rfl rfl rfl ⟨rfl, rfl, rfl, rfl, rfl⟩ rfl rfl rfl rfl rfl (by kernel_rfl) Tryd.func5 (by kernel_rfl)
    (of_decide_eq_true (by kernel_rfl)) (by unfold Func.isWrapper; first | (rw [if_pos (by decide +kernel)]; kernel_rfl) | (rw [if_neg (by decide +kernel)]; exact ⟨rfl, rfl⟩))
    (fun os started H enc _ => lifted os started H enc)
theorem card : Rows.GroupSettlesCardSaid :=
  Claim7.holds_tied_plain_at .later [] [.data, .data, .data] true (true, "9773730c519191cc8f422aa69b173d2d9222f7dacb8b171959a8dd4e50660c9d") false
    over (fun _ h => by cases h) (by kernel_rfl) (fun _ h => by cases h) groupSettles_row_tie rfl ⟨rfl, rfl⟩ (by kernel_rfl) rfl
    (fun f fn hf hfn => by
      obtain rfl : f = 5 := Option.some.inj ((show Tryd.prog.funcNamed "cordwain/cordwainlaw17.GroupSettles" = some 5 by kernel_rfl).symm.trans hf) |>.symm
      obtain rfl : fn = Tryd.f5 := (Option.some.inj (Tryd.func5.symm.trans hfn)).symm
      exact ⟨by kernel_rfl, fun j t ht => by
        rw [Tryd.params5] at ht
        have hm : t ∈ [3, 43] := by simpa using Array.mem_of_getElem? ht
        have hall : ([3, 43].all fun u => !Tryd.prog.wantsStandIn u) = true := by kernel_rfl
        exact (show Tryd.prog.wantsStandIn t = false by simpa using List.all_eq_true.1 hall t hm)⟩)
    (by kernel_rfl)
#print axioms card
end Go.Proofs.YtkcgokkgefgcjaaDoor.groupSettles
namespace Go.Proofs.YtkcgokkgefgcjaaDoor
/-- The card, under a short name, for the claim. -/
theorem groupSettles_card : Rows.GroupSettlesCardSaid := groupSettles.card
end Go.Proofs.YtkcgokkgefgcjaaDoor
