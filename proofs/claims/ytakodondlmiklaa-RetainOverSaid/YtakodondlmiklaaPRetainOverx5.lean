-- printed for this claim by a program of the session's own (pr2.py) over the kit's printer; not trusted: Lean checks it
import Derived.Test.YtakodondlmiklaaPRetainOverx0
import Derived.Test.YtakodondlmiklaaPRetainOverx1
import Derived.Test.YtakodondlmiklaaPRetainOverx2
import Derived.Test.YtakodondlmiklaaPRetainOverx3
import Derived.Test.YtakodondlmiklaaPRetainOverx4
namespace Go.Proofs.Ytakodondlmiklaa.PRetainOver
open Go.RowKit Go.Proofs.YtakodondlmiklaaW.PrintWords Go.Proofs.YtakodondlmiklaaW.PrintLast Go.Proofs.YtakodondlmiklaaW.PrintMore
attribute [local go_sem] max2_int min2_int max_two min_two max_three min_three max_four min_four   -- for this text's walks alone
set_option linter.unusedVariables false
set_option linter.unusedSimpArgs false

/-! ### cordwainlaw11_RetainOver: function 6 -/
mutual
def cordwainlaw11_RetainOver.j0 : Nat → List (S42) → Int → Int → Int → Bool → Option (Bool)
  | 0, _, _, _, _, _ => none
  | k + 1, x0, x1, x2, x3, x32 => if x32 = true then ((cordwainlaw11_awake.f k).bind fun t138 => (some t138)) else (cordwainlaw11_RetainOver.l0 k x0 x1 x2 x3 0)
def cordwainlaw11_RetainOver.l0 : Nat → List (S42) → Int → Int → Int → Int → Option (Bool)
  | 0, _, _, _, _, _ => none
  | k + 1, x0, x1, x2, x3, x9 => if x9 < (x0.length : Int) then (if 0 ≤ x9 then (if ((rd_T42 x0 x9).f2) < 0 then ((cordwainlaw11_awake.f k).bind fun t140 => (some t140)) else (if ((rd_T42 x0 x9).f2) > 1099511627776 then ((cordwainlaw11_awake.f k).bind fun t142 => (some t142)) else (cordwainlaw11_RetainOver.l0 k x0 x1 x2 x3 (wrap64 (x9 + 1))))) else (none)) else ((cordwainlaw11_made.f k x0).bind fun t143 => ((retain_Front.f k t143 0 0 0 x1 x2 false 0 0 false x3).bind fun t146 => (if t146 < 0 then (cordwainlaw11_RetainOver.j2 k x0 x1 x2 x3 t146 true) else (if (x0.length : Int) = 0 then (if t146 = 0 then (if (x0.length : Int) > 0 then (cordwainlaw11_RetainOver.j2 k x0 x1 x2 x3 t146 (decide (t146 ≥ (x0.length : Int)))) else (cordwainlaw11_RetainOver.j2 k x0 x1 x2 x3 t146 false)) else (cordwainlaw11_RetainOver.j2 k x0 x1 x2 x3 t146 true)) else (if (x0.length : Int) > 0 then (cordwainlaw11_RetainOver.j2 k x0 x1 x2 x3 t146 (decide (t146 ≥ (x0.length : Int)))) else (cordwainlaw11_RetainOver.j2 k x0 x1 x2 x3 t146 false))))))
def cordwainlaw11_RetainOver.j2 : Nat → List (S42) → Int → Int → Int → Int → Bool → Option (Bool)
  | 0, _, _, _, _, _, _ => none
  | k + 1, x0, x1, x2, x3, x11, x84 => if x84 = true then (some false) else (cordwainlaw11_RetainOver.l1 k x0 x1 x2 x3 x11 0)
def cordwainlaw11_RetainOver.l1 : Nat → List (S42) → Int → Int → Int → Int → Int → Option (Bool)
  | 0, _, _, _, _, _, _ => none
  | k + 1, x0, x1, x2, x3, x11, x12 => if x12 < x11 then (if x1 > 0 then (if 0 ≤ x12 then (if x12 ≤ (x0.length : Int) then ((cordwainref10_Sum.f k (x0.drop (x12 : Int).toNat)).bind fun t151 => (if t151 > x1 then (cordwainlaw11_RetainOver.l1 k x0 x1 x2 x3 x11 (wrap64 (x12 + 1))) else (if x2 > 0 then (if x12 < (x0.length : Int) then (if ((wrap64 (x3 - ((rd_T42 x0 x12).f4))) > x2) then (cordwainlaw11_RetainOver.l1 k x0 x1 x2 x3 x11 (wrap64 (x12 + 1))) else (some false)) else (none)) else (some false)))) else (none)) else (none)) else (if x2 > 0 then (if 0 ≤ x12 then (if x12 < (x0.length : Int) then (if ((wrap64 (x3 - ((rd_T42 x0 x12).f4))) > x2) then (cordwainlaw11_RetainOver.l1 k x0 x1 x2 x3 x11 (wrap64 (x12 + 1))) else (some false)) else (none)) else (none)) else (some false))) else (if (wrap64 (x11 + 1)) < (x0.length : Int) then (if x1 > 0 then (if 0 ≤ x11 then (if x11 ≤ (x0.length : Int) then ((cordwainref10_Sum.f k (x0.drop (x11 : Int).toNat)).bind fun t158 => (if t158 > x1 then (some false) else (if x2 > 0 then (if x11 < (x0.length : Int) then (if (wrap64 (x3 - ((rd_T42 x0 x11).f4))) > x2 then (some false) else ((cordwainlaw11_awake.f k).bind fun t160 => (some t160))) else (none)) else ((cordwainlaw11_awake.f k).bind fun t161 => (some t161))))) else (none)) else (none)) else (if x2 > 0 then (if 0 ≤ x11 then (if x11 < (x0.length : Int) then (if (wrap64 (x3 - ((rd_T42 x0 x11).f4))) > x2 then (some false) else ((cordwainlaw11_awake.f k).bind fun t163 => (some t163))) else (none)) else (none)) else ((cordwainlaw11_awake.f k).bind fun t164 => (some t164)))) else ((cordwainlaw11_awake.f k).bind fun t165 => (some t165)))
end
def cordwainlaw11_RetainOver.f (k : Nat) (l0 : List (S42)) (a1 : Int) (a2 : Int) (a3 : Int) : Option (Bool) := (cordwainlaw11_small.f k l0 a3).bind fun t137 => (if t137 = true then (if a1 < 0 then (cordwainlaw11_RetainOver.j0 k l0 a1 a2 a3 true) else (if a1 > 1125899906842624 then (cordwainlaw11_RetainOver.j0 k l0 a1 a2 a3 true) else (if a2 < 0 then (cordwainlaw11_RetainOver.j0 k l0 a1 a2 a3 true) else (cordwainlaw11_RetainOver.j0 k l0 a1 a2 a3 (decide (a2 > 1125899906842624)))))) else (cordwainlaw11_RetainOver.j0 k l0 a1 a2 a3 true))
theorem cordwainlaw11_RetainOver.mono_l : ∀ k, (∀ y0 y1 y2 y3 y4, LeO (cordwainlaw11_RetainOver.j0 k y0 y1 y2 y3 y4) (cordwainlaw11_RetainOver.j0 (k + 1) y0 y1 y2 y3 y4)) ∧ (∀ y0 y1 y2 y3 y4, LeO (cordwainlaw11_RetainOver.l0 k y0 y1 y2 y3 y4) (cordwainlaw11_RetainOver.l0 (k + 1) y0 y1 y2 y3 y4)) ∧ (∀ y0 y1 y2 y3 y4 y5, LeO (cordwainlaw11_RetainOver.j2 k y0 y1 y2 y3 y4 y5) (cordwainlaw11_RetainOver.j2 (k + 1) y0 y1 y2 y3 y4 y5)) ∧ (∀ y0 y1 y2 y3 y4 y5, LeO (cordwainlaw11_RetainOver.l1 k y0 y1 y2 y3 y4 y5) (cordwainlaw11_RetainOver.l1 (k + 1) y0 y1 y2 y3 y4 y5))
  | 0 => ⟨fun _ _ _ _ _ r h => by simp [cordwainlaw11_RetainOver.j0] at h, fun _ _ _ _ _ r h => by simp [cordwainlaw11_RetainOver.l0] at h, fun _ _ _ _ _ _ r h => by simp [cordwainlaw11_RetainOver.j2] at h, fun _ _ _ _ _ _ r h => by simp [cordwainlaw11_RetainOver.l1] at h⟩
  | k + 1 => by
    obtain ⟨ih0, ih1, ih2, ih3⟩ := cordwainlaw11_RetainOver.mono_l k
    refine ⟨?_, ?_, ?_, ?_⟩
    · intro y0 y1 y2 y3 y4
      unfold cordwainlaw11_RetainOver.j0
      repeat' first
      | (with_reducible exact ih0 _ _ _ _ _)
      | (with_reducible exact ih1 _ _ _ _ _)
      | (with_reducible exact ih2 _ _ _ _ _ _)
      | (with_reducible exact ih3 _ _ _ _ _ _)
      | (with_reducible exact cordwainlaw11_awake.mono _)
      | (with_reducible exact cordwainlaw11_made.mono _ _)
      | (with_reducible exact cordwainlaw11_small.mono _ _ _)
      | (with_reducible exact cordwainref10_Sum.mono _ _)
      | (with_reducible exact retain_Front.mono _ _ _ _ _ _ _ _ _ _ _ _)
      | (with_reducible exact LeO.refl _)
      | (with_reducible exact LeO.none _)
      | (with_reducible refine LeO.ite ?_ ?_)
      | (with_reducible refine LeO.bind ?_ (fun _ => ?_))
      | exact ih0 _ _ _ _ _
      | exact ih1 _ _ _ _ _
      | exact ih2 _ _ _ _ _ _
      | exact ih3 _ _ _ _ _ _
      | exact cordwainlaw11_awake.mono _
      | exact cordwainlaw11_made.mono _ _
      | exact cordwainlaw11_small.mono _ _ _
      | exact cordwainref10_Sum.mono _ _
      | exact retain_Front.mono _ _ _ _ _ _ _ _ _ _ _ _
      | exact LeO.none _
      | refine LeO.ite ?_ ?_
      | refine LeO.bind ?_ (fun _ => ?_)
    · intro y0 y1 y2 y3 y4
      unfold cordwainlaw11_RetainOver.l0
      repeat' first
      | (with_reducible exact ih0 _ _ _ _ _)
      | (with_reducible exact ih1 _ _ _ _ _)
      | (with_reducible exact ih2 _ _ _ _ _ _)
      | (with_reducible exact ih3 _ _ _ _ _ _)
      | (with_reducible exact cordwainlaw11_awake.mono _)
      | (with_reducible exact cordwainlaw11_made.mono _ _)
      | (with_reducible exact cordwainlaw11_small.mono _ _ _)
      | (with_reducible exact cordwainref10_Sum.mono _ _)
      | (with_reducible exact retain_Front.mono _ _ _ _ _ _ _ _ _ _ _ _)
      | (with_reducible exact LeO.refl _)
      | (with_reducible exact LeO.none _)
      | (with_reducible refine LeO.ite ?_ ?_)
      | (with_reducible refine LeO.bind ?_ (fun _ => ?_))
      | exact ih0 _ _ _ _ _
      | exact ih1 _ _ _ _ _
      | exact ih2 _ _ _ _ _ _
      | exact ih3 _ _ _ _ _ _
      | exact cordwainlaw11_awake.mono _
      | exact cordwainlaw11_made.mono _ _
      | exact cordwainlaw11_small.mono _ _ _
      | exact cordwainref10_Sum.mono _ _
      | exact retain_Front.mono _ _ _ _ _ _ _ _ _ _ _ _
      | exact LeO.none _
      | refine LeO.ite ?_ ?_
      | refine LeO.bind ?_ (fun _ => ?_)
    · intro y0 y1 y2 y3 y4 y5
      unfold cordwainlaw11_RetainOver.j2
      repeat' first
      | (with_reducible exact ih0 _ _ _ _ _)
      | (with_reducible exact ih1 _ _ _ _ _)
      | (with_reducible exact ih2 _ _ _ _ _ _)
      | (with_reducible exact ih3 _ _ _ _ _ _)
      | (with_reducible exact cordwainlaw11_awake.mono _)
      | (with_reducible exact cordwainlaw11_made.mono _ _)
      | (with_reducible exact cordwainlaw11_small.mono _ _ _)
      | (with_reducible exact cordwainref10_Sum.mono _ _)
      | (with_reducible exact retain_Front.mono _ _ _ _ _ _ _ _ _ _ _ _)
      | (with_reducible exact LeO.refl _)
      | (with_reducible exact LeO.none _)
      | (with_reducible refine LeO.ite ?_ ?_)
      | (with_reducible refine LeO.bind ?_ (fun _ => ?_))
      | exact ih0 _ _ _ _ _
      | exact ih1 _ _ _ _ _
      | exact ih2 _ _ _ _ _ _
      | exact ih3 _ _ _ _ _ _
      | exact cordwainlaw11_awake.mono _
      | exact cordwainlaw11_made.mono _ _
      | exact cordwainlaw11_small.mono _ _ _
      | exact cordwainref10_Sum.mono _ _
      | exact retain_Front.mono _ _ _ _ _ _ _ _ _ _ _ _
      | exact LeO.none _
      | refine LeO.ite ?_ ?_
      | refine LeO.bind ?_ (fun _ => ?_)
    · intro y0 y1 y2 y3 y4 y5
      unfold cordwainlaw11_RetainOver.l1
      repeat' first
      | (with_reducible exact ih0 _ _ _ _ _)
      | (with_reducible exact ih1 _ _ _ _ _)
      | (with_reducible exact ih2 _ _ _ _ _ _)
      | (with_reducible exact ih3 _ _ _ _ _ _)
      | (with_reducible exact cordwainlaw11_awake.mono _)
      | (with_reducible exact cordwainlaw11_made.mono _ _)
      | (with_reducible exact cordwainlaw11_small.mono _ _ _)
      | (with_reducible exact cordwainref10_Sum.mono _ _)
      | (with_reducible exact retain_Front.mono _ _ _ _ _ _ _ _ _ _ _ _)
      | (with_reducible exact LeO.refl _)
      | (with_reducible exact LeO.none _)
      | (with_reducible refine LeO.ite ?_ ?_)
      | (with_reducible refine LeO.bind ?_ (fun _ => ?_))
      | exact ih0 _ _ _ _ _
      | exact ih1 _ _ _ _ _
      | exact ih2 _ _ _ _ _ _
      | exact ih3 _ _ _ _ _ _
      | exact cordwainlaw11_awake.mono _
      | exact cordwainlaw11_made.mono _ _
      | exact cordwainlaw11_small.mono _ _ _
      | exact cordwainref10_Sum.mono _ _
      | exact retain_Front.mono _ _ _ _ _ _ _ _ _ _ _ _
      | exact LeO.none _
      | refine LeO.ite ?_ ?_
      | refine LeO.bind ?_ (fun _ => ?_)
theorem cordwainlaw11_RetainOver.mono : ∀ a0 a1 a2 a3 k, LeO (cordwainlaw11_RetainOver.f k a0 a1 a2 a3) (cordwainlaw11_RetainOver.f (k + 1) a0 a1 a2 a3) := by
  intro a0 a1 a2 a3 k
  obtain ⟨ih0, ih1, ih2, ih3⟩ := cordwainlaw11_RetainOver.mono_l k
  unfold cordwainlaw11_RetainOver.f
  repeat' first
      | (with_reducible exact ih0 _ _ _ _ _)
      | (with_reducible exact ih1 _ _ _ _ _)
      | (with_reducible exact ih2 _ _ _ _ _ _)
      | (with_reducible exact ih3 _ _ _ _ _ _)
      | (with_reducible exact cordwainlaw11_awake.mono _)
      | (with_reducible exact cordwainlaw11_made.mono _ _)
      | (with_reducible exact cordwainlaw11_small.mono _ _ _)
      | (with_reducible exact cordwainref10_Sum.mono _ _)
      | (with_reducible exact retain_Front.mono _ _ _ _ _ _ _ _ _ _ _ _)
      | (with_reducible exact LeO.refl _)
      | (with_reducible exact LeO.none _)
      | (with_reducible refine LeO.ite ?_ ?_)
      | (with_reducible refine LeO.bind ?_ (fun _ => ?_))
      | exact ih0 _ _ _ _ _
      | exact ih1 _ _ _ _ _
      | exact ih2 _ _ _ _ _ _
      | exact ih3 _ _ _ _ _ _
      | exact cordwainlaw11_awake.mono _
      | exact cordwainlaw11_made.mono _ _
      | exact cordwainlaw11_small.mono _ _ _
      | exact cordwainref10_Sum.mono _ _
      | exact retain_Front.mono _ _ _ _ _ _ _ _ _ _ _ _
      | exact LeO.none _
      | refine LeO.ite ?_ ?_
      | refine LeO.bind ?_ (fun _ => ?_)
set_option maxHeartbeats 8000000 in
set_option maxRecDepth 100000 in
theorem cordwainlaw11_RetainOver.calls (k : Nat) (A0 : Option Addr) (c0 : Nat) (l0 : List (S42)) (a1 : Int) (a2 : Int) (a3 : Int) (r : Bool) (w : World) (hr0 : Kd.C k42 w A0 l0.length l0) (hc0 : l0.length ≤ c0) (hrt_ : r = true) (h : cordwainlaw11_RetainOver.f k l0 a1 a2 a3 = some r) :
    Calls Try.prog 6 #[.slice A0 l0.length c0, .int .i64 a1, .int .i64 a2, .int .i64 a3] w fun e w' => e = .returned (.bool r) ∧ Below w.heap.size w w' := by
  have hu47 := Try.underlying47
  have HR0 := Aside0.mk hr0
  have HC0 := Aside0.mk hc0
  clear hr0 hc0
  have HB := Aside0.mk (Below.refl w.heap.size w)
  have H : ((cordwainlaw11_small.f k l0 a3).bind fun t137 => (if t137 = true then (if a1 < 0 then (cordwainlaw11_RetainOver.j0 k l0 a1 a2 a3 true) else (if a1 > 1125899906842624 then (cordwainlaw11_RetainOver.j0 k l0 a1 a2 a3 true) else (if a2 < 0 then (cordwainlaw11_RetainOver.j0 k l0 a1 a2 a3 true) else (cordwainlaw11_RetainOver.j0 k l0 a1 a2 a3 (decide (a2 > 1125899906842624)))))) else (cordwainlaw11_RetainOver.j0 k l0 a1 a2 a3 true))) = some r := h
  clear h
  have HRT_ := Aside0.mk hrt_
  clear hrt_
  have HC5 := Aside0.mk H
  clear H
  go_enter Try.func6, Try.ntmps6
  go_upto_region 1 with (fail)
  go_cut [32] (fun v32 wc => ∃ (kq : Nat) (x32_4 : Bool), v32 = .bool x32_4 ∧ Aside0 (cordwainlaw11_RetainOver.j0 kq l0 a1 a2 a3 x32_4 = some r) ∧ Aside0 (kq ≤ k) ∧ Aside0 (Below w.heap.size w wc))
  case first =>
    have H := HC5.out
    clear HC5
    replace H := Option.bind_eq_some_iff.mp H
    obtain ⟨t137, A60, H⟩ := H
    replace H : (if t137 = true then (if a1 < 0 then (cordwainlaw11_RetainOver.j0 k l0 a1 a2 a3 true) else (if a1 > 1125899906842624 then (cordwainlaw11_RetainOver.j0 k l0 a1 a2 a3 true) else (if a2 < 0 then (cordwainlaw11_RetainOver.j0 k l0 a1 a2 a3 true) else (cordwainlaw11_RetainOver.j0 k l0 a1 a2 a3 (decide (a2 > 1125899906842624)))))) else (cordwainlaw11_RetainOver.j0 k l0 a1 a2 a3 true)) = some r := H
    have A6 := Aside0.mk A60
    clear A60
    by_cases c7 : t137 = true
    · subst c7
      have H1 : (if a1 < 0 then (cordwainlaw11_RetainOver.j0 k l0 a1 a2 a3 true) else (if a1 > 1125899906842624 then (cordwainlaw11_RetainOver.j0 k l0 a1 a2 a3 true) else (if a2 < 0 then (cordwainlaw11_RetainOver.j0 k l0 a1 a2 a3 true) else (cordwainlaw11_RetainOver.j0 k l0 a1 a2 a3 (decide (a2 > 1125899906842624)))))) = some r := by rw [if_pos rfl] at H; exact H
      clear H
      have H := H1
      clear H1
      by_cases c8 : a1 < 0
      · rw [if_pos c8] at H
        have c8b0 : decide (a1 < 0) = true := decide_eq_true c8
        clear c8
        (first | rw [c8b0] | (simp only [i64_w, i32_w]; rw [c8b0]) | skip)
        have H' := Aside0.mk H
        clear H
        go_wp2_with (first | ((with_reducible refine gate_callee (f := 24) rfl ?_); refine goesL_ (some 15) rfl rfl Try.func24 (by kernel_rfl) rfl #[.slice A0 l0.length c0, .int .i64 a3] rfl (by (try simp only [List.map_toArray, List.map_cons, List.map_nil]); first | done | rfl | (simp only [List.length_drop, List.length_take]; rfl)) ?_; (with_reducible refine (cordwainlaw11_small.calls k _ _ l0 a3 true _ ?side1 ?side2 A6.out).mono ?_); (case side1 => repeat (first | exact (Kd.C_below HR0.out HB.out) | (with_reducible refine Kd.C_alloc ?_ _) | (with_reducible refine Kd.C_drewN ?_ _) | (with_reducible refine Kd.C_drew ?_))); (case side2 => exact HC0.out); rintro e w' ⟨rfl, ⟨nd, rfl⟩⟩; refine ⟨_, rfl, ?_⟩))
        go_meet
        case rel => exact ⟨_, (true), (by first | rfl | (simp; done) | (simp [*]; done)), H', ⟨by first | omega | exact Nat.le_refl _⟩, ⟨by repeat (first | (with_reducible first | exact HB.out | apply below_alloc | apply pw_below_drewN | apply below_drew1) | exact HB.out)⟩⟩
      · rw [if_neg c8] at H
        have c8b0 : decide (a1 < 0) = false := decide_eq_false c8
        clear c8
        (first | rw [c8b0] | (simp only [i64_w, i32_w]; rw [c8b0]) | skip)
        by_cases c9 : a1 > 1125899906842624
        · rw [if_pos c9] at H
          have c9b0 : decide (1125899906842624 < a1) = true := decide_eq_true c9
          clear c9
          have H' := Aside0.mk H
          clear H
          go_wp2_with (first | ((with_reducible refine gate_callee (f := 24) rfl ?_); refine goesL_ (some 15) rfl rfl Try.func24 (by kernel_rfl) rfl #[.slice A0 l0.length c0, .int .i64 a3] rfl (by (try simp only [List.map_toArray, List.map_cons, List.map_nil]); first | done | rfl | (simp only [List.length_drop, List.length_take]; rfl)) ?_; (with_reducible refine (cordwainlaw11_small.calls k _ _ l0 a3 true _ ?side1 ?side2 A6.out).mono ?_); (case side1 => repeat (first | exact (Kd.C_below HR0.out HB.out) | (with_reducible refine Kd.C_alloc ?_ _) | (with_reducible refine Kd.C_drewN ?_ _) | (with_reducible refine Kd.C_drew ?_))); (case side2 => exact HC0.out); rintro e w' ⟨rfl, ⟨nd, rfl⟩⟩; refine ⟨_, rfl, ?_⟩))
          go_meet
          case rel => exact ⟨_, (true), (by first | rfl | (simp; done) | (simp [*]; done)), H', ⟨by first | omega | exact Nat.le_refl _⟩, ⟨by repeat (first | (with_reducible first | exact HB.out | apply below_alloc | apply pw_below_drewN | apply below_drew1) | exact HB.out)⟩⟩
        · rw [if_neg c9] at H
          have c9b0 : decide (1125899906842624 < a1) = false := decide_eq_false c9
          clear c9
          by_cases c10 : a2 < 0
          · rw [if_pos c10] at H
            have c10b0 : decide (a2 < 0) = true := decide_eq_true c10
            clear c10
            have H' := Aside0.mk H
            clear H
            go_wp2_with (first | ((with_reducible refine gate_callee (f := 24) rfl ?_); refine goesL_ (some 15) rfl rfl Try.func24 (by kernel_rfl) rfl #[.slice A0 l0.length c0, .int .i64 a3] rfl (by (try simp only [List.map_toArray, List.map_cons, List.map_nil]); first | done | rfl | (simp only [List.length_drop, List.length_take]; rfl)) ?_; (with_reducible refine (cordwainlaw11_small.calls k _ _ l0 a3 true _ ?side1 ?side2 A6.out).mono ?_); (case side1 => repeat (first | exact (Kd.C_below HR0.out HB.out) | (with_reducible refine Kd.C_alloc ?_ _) | (with_reducible refine Kd.C_drewN ?_ _) | (with_reducible refine Kd.C_drew ?_))); (case side2 => exact HC0.out); rintro e w' ⟨rfl, ⟨nd, rfl⟩⟩; refine ⟨_, rfl, ?_⟩))
            go_meet
            case rel => exact ⟨_, (true), (by first | rfl | (simp; done) | (simp [*]; done)), H', ⟨by first | omega | exact Nat.le_refl _⟩, ⟨by repeat (first | (with_reducible first | exact HB.out | apply below_alloc | apply pw_below_drewN | apply below_drew1) | exact HB.out)⟩⟩
          · rw [if_neg c10] at H
            have c10b0 : decide (a2 < 0) = false := decide_eq_false c10
            clear c10
            have H' := Aside0.mk H
            clear H
            go_wp2_with (first | ((with_reducible refine gate_callee (f := 24) rfl ?_); refine goesL_ (some 15) rfl rfl Try.func24 (by kernel_rfl) rfl #[.slice A0 l0.length c0, .int .i64 a3] rfl (by (try simp only [List.map_toArray, List.map_cons, List.map_nil]); first | done | rfl | (simp only [List.length_drop, List.length_take]; rfl)) ?_; (with_reducible refine (cordwainlaw11_small.calls k _ _ l0 a3 true _ ?side1 ?side2 A6.out).mono ?_); (case side1 => repeat (first | exact (Kd.C_below HR0.out HB.out) | (with_reducible refine Kd.C_alloc ?_ _) | (with_reducible refine Kd.C_drewN ?_ _) | (with_reducible refine Kd.C_drew ?_))); (case side2 => exact HC0.out); rintro e w' ⟨rfl, ⟨nd, rfl⟩⟩; refine ⟨_, rfl, ?_⟩))
            go_meet
            case rel => exact ⟨_, (decide (a2 > 1125899906842624)), (by first | rfl | (simp; done) | (simp [*]; done)), H', ⟨by first | omega | exact Nat.le_refl _⟩, ⟨by repeat (first | (with_reducible first | exact HB.out | apply below_alloc | apply pw_below_drewN | apply below_drew1) | exact HB.out)⟩⟩
    · replace c7 := Bool.eq_false_iff.mpr c7
      subst c7
      have H1 : (cordwainlaw11_RetainOver.j0 k l0 a1 a2 a3 true) = some r := by rw [if_neg (show ¬ (false = true) by decide)] at H; exact H
      clear H
      have H := H1
      clear H1
      have H' := Aside0.mk H
      clear H
      go_wp2_with (first | ((with_reducible refine gate_callee (f := 24) rfl ?_); refine goesL_ (some 15) rfl rfl Try.func24 (by kernel_rfl) rfl #[.slice A0 l0.length c0, .int .i64 a3] rfl (by (try simp only [List.map_toArray, List.map_cons, List.map_nil]); first | done | rfl | (simp only [List.length_drop, List.length_take]; rfl)) ?_; (with_reducible refine (cordwainlaw11_small.calls k _ _ l0 a3 false _ ?side1 ?side2 A6.out).mono ?_); (case side1 => repeat (first | exact (Kd.C_below HR0.out HB.out) | (with_reducible refine Kd.C_alloc ?_ _) | (with_reducible refine Kd.C_drewN ?_ _) | (with_reducible refine Kd.C_drew ?_))); (case side2 => exact HC0.out); rintro e w' ⟨rfl, ⟨nd, rfl⟩⟩; refine ⟨_, rfl, ?_⟩))
      go_meet
      case rel => exact ⟨_, (true), (by first | rfl | (simp; done) | (simp [*]; done)), H', ⟨by first | omega | exact Nat.le_refl _⟩, ⟨by repeat (first | (with_reducible first | exact HB.out | apply below_alloc | apply pw_below_drewN | apply below_drew1) | exact HB.out)⟩⟩
  case rest =>
    clear HC5
    try clear c1
    try clear c2
    try clear p2
    try clear c6
    try clear c7
    try clear c8
    try clear c8b0
    try clear c9
    try clear c9b0
    try clear c10
    try clear c10b0
    obtain ⟨kq, x32_4, rfl, HA, HJ4, HB⟩ := hcut
    cases kq with
    | zero => exact absurd HA.out (by simp [cordwainlaw11_RetainOver.j0])
    | succ kj4 =>
      have H := HA.out
      clear HA
      simp only [cordwainlaw11_RetainOver.j0] at H
      by_cases c11 : x32_4 = true
      · subst c11
        have H1 : ((cordwainlaw11_awake.f kj4).bind fun t138 => (some t138)) = some r := by rw [if_pos rfl] at H; exact H
        clear H
        have H := H1
        clear H1
        replace H := Option.bind_eq_some_iff.mp H
        obtain ⟨t138, A120, H⟩ := H
        replace H : (some t138) = some r := H
        have A12 := Aside0.mk A120
        clear A120
        obtain rfl := Option.some.inj H
        go_wp2_with (first | ((with_reducible refine gate_callee (f := 25) rfl ?_); refine goesL_ (some 33) rfl rfl Try.func25 (by kernel_rfl) rfl #[] rfl (by (try simp only [List.map_toArray, List.map_cons, List.map_nil]); first | done | rfl | (simp only [List.length_drop, List.length_take]; rfl)) ?_; (with_reducible refine (cordwainlaw11_awake.calls kj4  t138 _ A12.out).mono ?_); rintro e w13 ⟨rfl, hb⟩; refine ⟨_, rfl, ?_⟩; have n0_ := Aside0.mk (below_step (by repeat (first | (with_reducible first | exact HB.out | apply below_alloc | apply pw_below_drewN | apply below_drew1) | exact HB.out)) hb); clear HB; have HB := n0_; clear n0_; (try clear hb); (try clear hb2); (try clear hk); (try clear hi)))
        go_ret
        exact ⟨by first | rfl | (simp [errW_none, errW_some] <;> rfl) | (simp [*, errW_none, errW_some] <;> rfl), by repeat (first | (with_reducible first | exact HB.out | apply below_alloc | apply pw_below_drewN | apply below_drew1) | exact HB.out)⟩
      · replace c11 := Bool.eq_false_iff.mpr c11
        subst c11
        have H1 : (cordwainlaw11_RetainOver.l0 kj4 l0 a1 a2 a3 0) = some r := by rw [if_neg (show ¬ (false = true) by decide)] at H; exact H
        clear H
        have H := H1
        clear H1
        have H' := Aside0.mk H
        clear H
        go_wp2
        go_loopg [9] kj4 (fun kq v9 w' => ∃ (x9_2 : Int), v9 = .int .i64 x9_2 ∧ Aside0 (cordwainlaw11_RetainOver.l0 kq l0 a1 a2 a3 x9_2 = some r) ∧ Aside0 (kq ≤ kj4) ∧ Aside0 (Below w.heap.size w w'))
        case atStart => exact ⟨(0), (by first | rfl | (simp; done) | (simp [*]; done)), H', ⟨Nat.le_refl _⟩, ⟨by repeat (first | (with_reducible first | exact HB.out | apply below_alloc | apply pw_below_drewN | apply below_drew1) | exact HB.out)⟩⟩
        case round =>
          clear H'
          try clear c1
          try clear c2
          try clear p2
          try clear c6
          try clear c7
          try clear c8
          try clear c8b0
          try clear c9
          try clear c9b0
          try clear c10
          try clear c10b0
          try clear c11
          try clear p2
          obtain ⟨x9_2, rfl, HA, HK2, HB⟩ := hrel
          cases gk with
          | zero => exact absurd HA.out (by simp [cordwainlaw11_RetainOver.l0])
          | succ k2 =>
            have H := HA.out
            clear HA
            simp only [cordwainlaw11_RetainOver.l0] at H
            by_cases c14 : x9_2 < (l0.length : Int)
            · rw [if_pos c14] at H
              have c14b0 : decide (x9_2 < (l0.length : Int)) = true := decide_eq_true c14
              clear c14
              by_cases c15 : 0 ≤ x9_2
              · rw [if_pos c15] at H
                have c15b0 : decide (0 ≤ x9_2) = true := decide_eq_true c15
                clear c15
                by_cases c16 : ((rd_T42 l0 x9_2).f2) < 0
                · rw [if_pos c16] at H
                  have c16b0 : decide (((rd_T42 l0 x9_2).f2) < 0) = true := decide_eq_true c16
                  clear c16
                  replace H := Option.bind_eq_some_iff.mp H
                  obtain ⟨t140, A170, H⟩ := H
                  replace H : (some t140) = some r := H
                  have A17 := Aside0.mk A170
                  clear A170
                  obtain rfl := Option.some.inj H
                  have p139 : 0 ≤ (x9_2 : Int) := of_decide_eq_true (by first | (with_reducible assumption) | assumption)
                  have q139 : x9_2 < (l0.length : Int) := of_decide_eq_true (by first | (with_reducible assumption) | assumption)
                  obtain ⟨ad139, e139, hx139_0, hx139_1, hx139_2, hx139_3, hx139_4⟩ := at_T42 HR0.out x9_2 p139 q139
                  cases e139
                  replace hx139_0 := (HB.out.cell (World.block_lt_of_cell? w _ hx139_0)).trans hx139_0
                  replace hx139_1 := (HB.out.cell (World.block_lt_of_cell? w _ hx139_1)).trans hx139_1
                  replace hx139_2 := (HB.out.cell (World.block_lt_of_cell? w _ hx139_2)).trans hx139_2
                  replace hx139_3 := (HB.out.cell (World.block_lt_of_cell? w _ hx139_3)).trans hx139_3
                  replace hx139_4 := (HB.out.cell (World.block_lt_of_cell? w _ hx139_4)).trans hx139_4
                  replace p139 := eq_true p139
                  replace q139 := eq_true q139
                  go_wp2_with (first | ((with_reducible refine gate_callee (f := 25) rfl ?_); refine goesL_ (some 54) rfl rfl Try.func25 (by kernel_rfl) rfl #[] rfl (by (try simp only [List.map_toArray, List.map_cons, List.map_nil]); first | done | rfl | (simp only [List.length_drop, List.length_take]; rfl)) ?_; (with_reducible refine (cordwainlaw11_awake.calls k2  t140 _ A17.out).mono ?_); rintro e w18 ⟨rfl, hb⟩; refine ⟨_, rfl, ?_⟩; have n0_ := Aside0.mk (below_step (by repeat (first | (with_reducible first | exact HB.out | apply below_alloc | apply pw_below_drewN | apply below_drew1) | exact HB.out)) hb); clear HB; have HB := n0_; clear n0_; (try clear hb); (try clear hb2); (try clear hk); (try clear hi)))
                  go_ret
                  exact ⟨by first | rfl | (simp [errW_none, errW_some] <;> rfl) | (simp [*, errW_none, errW_some] <;> rfl), by repeat (first | (with_reducible first | exact HB.out | apply below_alloc | apply pw_below_drewN | apply below_drew1) | exact HB.out)⟩
                · rw [if_neg c16] at H
                  have c16b0 : decide (((rd_T42 l0 x9_2).f2) < 0) = false := decide_eq_false c16
                  clear c16
                  by_cases c19 : ((rd_T42 l0 x9_2).f2) > 1099511627776
                  · rw [if_pos c19] at H
                    have c19b0 : decide (1099511627776 < ((rd_T42 l0 x9_2).f2)) = true := decide_eq_true c19
                    clear c19
                    replace H := Option.bind_eq_some_iff.mp H
                    obtain ⟨t142, A200, H⟩ := H
                    replace H : (some t142) = some r := H
                    have A20 := Aside0.mk A200
                    clear A200
                    obtain rfl := Option.some.inj H
                    have p139 : 0 ≤ (x9_2 : Int) := of_decide_eq_true (by first | (with_reducible assumption) | assumption)
                    have q139 : x9_2 < (l0.length : Int) := of_decide_eq_true (by first | (with_reducible assumption) | assumption)
                    obtain ⟨ad139, e139, hx139_0, hx139_1, hx139_2, hx139_3, hx139_4⟩ := at_T42 HR0.out x9_2 p139 q139
                    cases e139
                    replace hx139_0 := (HB.out.cell (World.block_lt_of_cell? w _ hx139_0)).trans hx139_0
                    replace hx139_1 := (HB.out.cell (World.block_lt_of_cell? w _ hx139_1)).trans hx139_1
                    replace hx139_2 := (HB.out.cell (World.block_lt_of_cell? w _ hx139_2)).trans hx139_2
                    replace hx139_3 := (HB.out.cell (World.block_lt_of_cell? w _ hx139_3)).trans hx139_3
                    replace hx139_4 := (HB.out.cell (World.block_lt_of_cell? w _ hx139_4)).trans hx139_4
                    replace p139 := eq_true p139
                    replace q139 := eq_true q139
                    have p141 : 0 ≤ (x9_2 : Int) := of_decide_eq_true (by first | (with_reducible assumption) | assumption)
                    have q141 : x9_2 < (l0.length : Int) := of_decide_eq_true (by first | (with_reducible assumption) | assumption)
                    obtain ⟨ad141, e141, hx141_0, hx141_1, hx141_2, hx141_3, hx141_4⟩ := at_T42 HR0.out x9_2 p141 q141
                    obtain rfl : ad139 = ad141 := (by injection e141)
                    replace hx141_0 := (HB.out.cell (World.block_lt_of_cell? w _ hx141_0)).trans hx141_0
                    replace hx141_1 := (HB.out.cell (World.block_lt_of_cell? w _ hx141_1)).trans hx141_1
                    replace hx141_2 := (HB.out.cell (World.block_lt_of_cell? w _ hx141_2)).trans hx141_2
                    replace hx141_3 := (HB.out.cell (World.block_lt_of_cell? w _ hx141_3)).trans hx141_3
                    replace hx141_4 := (HB.out.cell (World.block_lt_of_cell? w _ hx141_4)).trans hx141_4
                    replace p141 := eq_true p141
                    replace q141 := eq_true q141
                    go_wp2_with (first | ((with_reducible refine gate_callee (f := 25) rfl ?_); refine goesL_ (some 54) rfl rfl Try.func25 (by kernel_rfl) rfl #[] rfl (by (try simp only [List.map_toArray, List.map_cons, List.map_nil]); first | done | rfl | (simp only [List.length_drop, List.length_take]; rfl)) ?_; (with_reducible refine (cordwainlaw11_awake.calls k2  t142 _ A20.out).mono ?_); rintro e w21 ⟨rfl, hb⟩; refine ⟨_, rfl, ?_⟩; have n0_ := Aside0.mk (below_step (by repeat (first | (with_reducible first | exact HB.out | apply below_alloc | apply pw_below_drewN | apply below_drew1) | exact HB.out)) hb); clear HB; have HB := n0_; clear n0_; (try clear hb); (try clear hb2); (try clear hk); (try clear hi)))
                    go_ret
                    exact ⟨by first | rfl | (simp [errW_none, errW_some] <;> rfl) | (simp [*, errW_none, errW_some] <;> rfl), by repeat (first | (with_reducible first | exact HB.out | apply below_alloc | apply pw_below_drewN | apply below_drew1) | exact HB.out)⟩
                  · rw [if_neg c19] at H
                    have c19b0 : decide (1099511627776 < ((rd_T42 l0 x9_2).f2)) = false := decide_eq_false c19
                    clear c19
                    have H' := Aside0.mk H
                    clear H
                    have p139 : 0 ≤ (x9_2 : Int) := of_decide_eq_true (by first | (with_reducible assumption) | assumption)
                    have q139 : x9_2 < (l0.length : Int) := of_decide_eq_true (by first | (with_reducible assumption) | assumption)
                    obtain ⟨ad139, e139, hx139_0, hx139_1, hx139_2, hx139_3, hx139_4⟩ := at_T42 HR0.out x9_2 p139 q139
                    cases e139
                    replace hx139_0 := (HB.out.cell (World.block_lt_of_cell? w _ hx139_0)).trans hx139_0
                    replace hx139_1 := (HB.out.cell (World.block_lt_of_cell? w _ hx139_1)).trans hx139_1
                    replace hx139_2 := (HB.out.cell (World.block_lt_of_cell? w _ hx139_2)).trans hx139_2
                    replace hx139_3 := (HB.out.cell (World.block_lt_of_cell? w _ hx139_3)).trans hx139_3
                    replace hx139_4 := (HB.out.cell (World.block_lt_of_cell? w _ hx139_4)).trans hx139_4
                    replace p139 := eq_true p139
                    replace q139 := eq_true q139
                    have p141 : 0 ≤ (x9_2 : Int) := of_decide_eq_true (by first | (with_reducible assumption) | assumption)
                    have q141 : x9_2 < (l0.length : Int) := of_decide_eq_true (by first | (with_reducible assumption) | assumption)
                    obtain ⟨ad141, e141, hx141_0, hx141_1, hx141_2, hx141_3, hx141_4⟩ := at_T42 HR0.out x9_2 p141 q141
                    obtain rfl : ad139 = ad141 := (by injection e141)
                    replace hx141_0 := (HB.out.cell (World.block_lt_of_cell? w _ hx141_0)).trans hx141_0
                    replace hx141_1 := (HB.out.cell (World.block_lt_of_cell? w _ hx141_1)).trans hx141_1
                    replace hx141_2 := (HB.out.cell (World.block_lt_of_cell? w _ hx141_2)).trans hx141_2
                    replace hx141_3 := (HB.out.cell (World.block_lt_of_cell? w _ hx141_3)).trans hx141_3
                    replace hx141_4 := (HB.out.cell (World.block_lt_of_cell? w _ hx141_4)).trans hx141_4
                    replace p141 := eq_true p141
                    replace q141 := eq_true q141
                    go_wp2
                    go_roundg k2
                    case measure => have := HJ4.out; have := HK2.out; omega
                    case rel => exact ⟨(wrap64 (x9_2 + 1)), (by first | rfl | (simp; done) | (simp [*]; done)), H', ⟨by have := HJ4.out; have := HK2.out; omega⟩, ⟨by repeat (first | (with_reducible first | exact HB.out | apply below_alloc | apply pw_below_drewN | apply below_drew1) | exact HB.out)⟩⟩
              · rw [if_neg c15] at H
                exact absurd H (by simp)
            · rw [if_neg c14] at H
              have c14b0 : decide (x9_2 < (l0.length : Int)) = false := decide_eq_false c14
              clear c14
              replace H := Option.bind_eq_some_iff.mp H
              obtain ⟨t143, A220, H⟩ := H
              replace H : ((retain_Front.f k2 t143 0 0 0 a1 a2 false 0 0 false a3).bind fun t146 => (if t146 < 0 then (cordwainlaw11_RetainOver.j2 k2 l0 a1 a2 a3 t146 true) else (if (l0.length : Int) = 0 then (if t146 = 0 then (if (l0.length : Int) > 0 then (cordwainlaw11_RetainOver.j2 k2 l0 a1 a2 a3 t146 (decide (t146 ≥ (l0.length : Int)))) else (cordwainlaw11_RetainOver.j2 k2 l0 a1 a2 a3 t146 false)) else (cordwainlaw11_RetainOver.j2 k2 l0 a1 a2 a3 t146 true)) else (if (l0.length : Int) > 0 then (cordwainlaw11_RetainOver.j2 k2 l0 a1 a2 a3 t146 (decide (t146 ≥ (l0.length : Int)))) else (cordwainlaw11_RetainOver.j2 k2 l0 a1 a2 a3 t146 false))))) = some r := H
              have A22 := Aside0.mk A220
              clear A220
              replace H := Option.bind_eq_some_iff.mp H
              obtain ⟨t146, A230, H⟩ := H
              replace H : (if t146 < 0 then (cordwainlaw11_RetainOver.j2 k2 l0 a1 a2 a3 t146 true) else (if (l0.length : Int) = 0 then (if t146 = 0 then (if (l0.length : Int) > 0 then (cordwainlaw11_RetainOver.j2 k2 l0 a1 a2 a3 t146 (decide (t146 ≥ (l0.length : Int)))) else (cordwainlaw11_RetainOver.j2 k2 l0 a1 a2 a3 t146 false)) else (cordwainlaw11_RetainOver.j2 k2 l0 a1 a2 a3 t146 true)) else (if (l0.length : Int) > 0 then (cordwainlaw11_RetainOver.j2 k2 l0 a1 a2 a3 t146 (decide (t146 ≥ (l0.length : Int)))) else (cordwainlaw11_RetainOver.j2 k2 l0 a1 a2 a3 t146 false)))) = some r := H
              have A23 := Aside0.mk A230
              clear A230
              have HC24 := Aside0.mk H
              clear H
              go_upto_region 10 with (first | ((with_reducible refine gate_callee (f := 26) rfl ?_); refine goesL_ (some 56) rfl rfl Try.func26 (by kernel_rfl) rfl #[.slice A0 l0.length c0] rfl (by (try simp only [List.map_toArray, List.map_cons, List.map_nil]); first | done | rfl | (simp only [List.length_drop, List.length_take]; rfl)) ?_; (with_reducible refine (cordwainlaw11_made.calls k2 _ _ l0 t143 _ ?side1 ?side2 A22.out).mono ?_); (case side1 => repeat (first | exact (Kd.C_below HR0.out HB.out) | (with_reducible refine Kd.C_alloc ?_ _) | (with_reducible refine Kd.C_drewN ?_ _) | (with_reducible refine Kd.C_drew ?_))); (case side2 => exact HC0.out); rintro e w25 ⟨v144, rfl, ho0, hb⟩; refine ⟨_, rfl, ?_⟩; have n0_ := Aside0.mk (Kd.R_lower ho0 (below_size (by repeat (first | (with_reducible first | exact HB.out | apply below_alloc | apply pw_below_drewN | apply below_drew1) | exact HB.out)))); have n1_ := Aside0.mk (below_step (by repeat (first | (with_reducible first | exact HB.out | apply below_alloc | apply pw_below_drewN | apply below_drew1) | exact HB.out)) hb); clear HB; have HO145 := n0_; have HB := n1_; clear n0_ n1_; (try clear hb); (try clear hb2); (try clear hk); (try clear hi); (try clear ho0); obtain ⟨Ao26, co26, eo26⟩ := Kd.R_slice HO145.out; subst eo26) | ((with_reducible refine gate_callee (f := 27) rfl ?_); refine goesL_ (some 62) rfl rfl Try.func27 (by kernel_rfl) rfl #[.slice Ao26 t143.length co26, .agg #[.int .i64 0, .int .i64 0, .int .i64 0, .int .i64 a1, .int .i64 a2, .bool false, .int .i64 0, .int .i64 0, .bool false], .int .i64 a3] rfl (by (try simp only [List.map_toArray, List.map_cons, List.map_nil]); first | done | rfl | (simp only [List.length_drop, List.length_take]; rfl)) ?_; (with_reducible refine (retain_Front.calls k2 _ _ t143 0 0 0 a1 a2 false 0 0 false a3 t146 _ ?side1 ?side2 A23.out).mono ?_); (case side1 => repeat (first | exact (Kd.R_reads' HO145.out).2.2 | (with_reducible refine Kd.C_alloc ?_ _) | (with_reducible refine Kd.C_drewN ?_ _) | (with_reducible refine Kd.C_drew ?_))); (case side2 => exact (Kd.R_reads' HO145.out).2.1); rintro e w27 ⟨rfl, hb⟩; refine ⟨_, rfl, ?_⟩; have n0_ := Aside0.mk (Kd.R_below (by (with_reducible repeat (first | apply Kd.R_alloc | apply Kd.R_drewN | apply Kd.R_drew)); exact HO145.out) hb); have n1_ := Aside0.mk (below_step (by repeat (first | (with_reducible first | exact HB.out | apply below_alloc | apply pw_below_drewN | apply below_drew1) | exact HB.out)) hb); clear HO145; clear HB; have HO145 := n0_; have HB := n1_; clear n0_ n1_; (try clear hb); (try clear hb2); (try clear hk); (try clear hi)))
              (try simp only [Act.put, List.setIfInBounds_toArray, List.set_cons_zero, List.set_cons_succ])
              go_cut [84] (fun v84 wc => ∃ (kq : Nat) (x84_23 : Bool), v84 = .bool x84_23 ∧ Aside0 (cordwainlaw11_RetainOver.j2 kq l0 a1 a2 a3 t146 x84_23 = some r) ∧ Aside0 (kq ≤ k2) ∧ Aside0 (Below w.heap.size w wc))
              case first =>
                have H := HC24.out
                clear HC24
                by_cases c28 : t146 < 0
                · rw [if_pos c28] at H
                  have c28b0 : decide (t146 < 0) = true := decide_eq_true c28
                  clear c28
                  (first | rw [c28b0] | (simp only [i64_w, i32_w]; rw [c28b0]) | skip)
                  have H' := Aside0.mk H
                  clear H
                  go_wp2
                  go_meet
                  case rel => exact ⟨_, (true), (by first | rfl | (simp; done) | (simp [*]; done)), H', ⟨by have := HJ4.out; have := HK2.out; first | omega | exact Nat.le_refl _⟩, ⟨by repeat (first | (with_reducible first | exact HB.out | apply below_alloc | apply pw_below_drewN | apply below_drew1) | exact HB.out)⟩⟩
                · rw [if_neg c28] at H
                  have c28b0 : decide (t146 < 0) = false := decide_eq_false c28
                  clear c28
                  (first | rw [c28b0] | (simp only [i64_w, i32_w]; rw [c28b0]) | skip)
                  by_cases c29 : (l0.length : Int) = 0
                  · rw [if_pos c29] at H
                    have c29b0 : ((l0.length : Int) == 0) = true := beq_iff_eq.mpr c29
                    have c29b1 : ((l0.length : Int) != 0) = false := bne_eq_false_iff_eq.mpr c29
                    clear c29
                    by_cases c30 : t146 = 0
                    · rw [if_pos c30] at H
                      have c30b0 : (t146 == 0) = true := beq_iff_eq.mpr c30
                      have c30b1 : (t146 != 0) = false := bne_eq_false_iff_eq.mpr c30
                      clear c30
                      by_cases c31 : (l0.length : Int) > 0
                      · rw [if_pos c31] at H
                        have c31b0 : decide (0 < (l0.length : Int)) = true := decide_eq_true c31
                        have c31b1 : decide (0 < l0.length) = true := decide_eq_true (by omega)
                        clear c31
                        have H' := Aside0.mk H
                        clear H
                        go_wp2
                        go_meet
                        case rel => exact ⟨_, (decide (t146 ≥ (l0.length : Int))), (by first | rfl | (simp; done) | (simp [*]; done)), H', ⟨by have := HJ4.out; have := HK2.out; first | omega | exact Nat.le_refl _⟩, ⟨by repeat (first | (with_reducible first | exact HB.out | apply below_alloc | apply pw_below_drewN | apply below_drew1) | exact HB.out)⟩⟩
                      · rw [if_neg c31] at H
                        have c31b0 : decide (0 < (l0.length : Int)) = false := decide_eq_false c31
                        have c31b1 : decide (0 < l0.length) = false := decide_eq_false (by omega)
                        clear c31
                        have H' := Aside0.mk H
                        clear H
                        go_wp2
                        go_meet
                        case rel => exact ⟨_, (false), (by first | rfl | (simp; done) | (simp [*]; done)), H', ⟨by have := HJ4.out; have := HK2.out; first | omega | exact Nat.le_refl _⟩, ⟨by repeat (first | (with_reducible first | exact HB.out | apply below_alloc | apply pw_below_drewN | apply below_drew1) | exact HB.out)⟩⟩
                    · rw [if_neg c30] at H
                      have c30b0 : (t146 == 0) = false := beq_eq_false_iff_ne.mpr c30
                      have c30b1 : (t146 != 0) = true := bne_iff_ne.mpr c30
                      have H' := Aside0.mk H
                      clear H
                      go_wp2
                      go_meet
                      case rel => exact ⟨_, (true), (by first | rfl | (simp; done) | (simp [*]; done)), H', ⟨by have := HJ4.out; have := HK2.out; first | omega | exact Nat.le_refl _⟩, ⟨by repeat (first | (with_reducible first | exact HB.out | apply below_alloc | apply pw_below_drewN | apply below_drew1) | exact HB.out)⟩⟩
                  · rw [if_neg c29] at H
                    have c29b0 : ((l0.length : Int) == 0) = false := beq_eq_false_iff_ne.mpr c29
                    have c29b1 : ((l0.length : Int) != 0) = true := bne_iff_ne.mpr c29
                    have c29b2 : ¬ (l0 = []) := fun h_ => c29 (by rw [h_]; rfl)
                    by_cases c32 : (l0.length : Int) > 0
                    · rw [if_pos c32] at H
                      have c32b0 : decide (0 < (l0.length : Int)) = true := decide_eq_true c32
                      have c32b1 : decide (0 < l0.length) = true := decide_eq_true (by omega)
                      clear c32
                      have H' := Aside0.mk H
                      clear H
                      go_wp2
                      go_meet
                      case rel => exact ⟨_, (decide (t146 ≥ (l0.length : Int))), (by first | rfl | (simp; done) | (simp [*]; done)), H', ⟨by have := HJ4.out; have := HK2.out; first | omega | exact Nat.le_refl _⟩, ⟨by repeat (first | (with_reducible first | exact HB.out | apply below_alloc | apply pw_below_drewN | apply below_drew1) | exact HB.out)⟩⟩
                    · rw [if_neg c32] at H
                      have c32b0 : decide (0 < (l0.length : Int)) = false := decide_eq_false c32
                      have c32b1 : decide (0 < l0.length) = false := decide_eq_false (by omega)
                      clear c32
                      have H' := Aside0.mk H
                      clear H
                      go_wp2
                      go_meet
                      case rel => exact ⟨_, (false), (by first | rfl | (simp; done) | (simp [*]; done)), H', ⟨by have := HJ4.out; have := HK2.out; first | omega | exact Nat.le_refl _⟩, ⟨by repeat (first | (with_reducible first | exact HB.out | apply below_alloc | apply pw_below_drewN | apply below_drew1) | exact HB.out)⟩⟩
              case rest =>
                clear HC24
                try clear c1
                try clear p1
                try clear q1
                try clear hx1
                try clear c2
                try clear p2
                try clear c3
                try clear c6
                try clear p6
                try clear c7
                try clear c8
                try clear c8b0
                try clear c9
                try clear c9b0
                try clear c10
                try clear c10b0
                try clear c11
                try clear p13
                try clear q13
                try clear hx13
                try clear c14
                try clear c14b0
                try clear p14
                try clear q14
                try clear hx14
                try clear c15
                try clear c15b0
                try clear c16
                try clear c16b0
                try clear c19
                try clear c19b0
                try clear c24
                try clear c25
                try clear c26
                try clear c27
                try clear c28
                try clear c28b0
                try clear c29
                try clear c29b0
                try clear c29b1
                try clear c29b2
                try clear c30
                try clear c30b0
                try clear c30b1
                try clear c31
                try clear c31b0
                try clear c31b1
                try clear c32
                try clear c32b0
                try clear c32b1
                try clear hx139_0
                try clear hx139_1
                try clear hx139_2
                try clear hx139_3
                try clear hx139_4
                try clear hx141_0
                try clear hx141_1
                try clear hx141_2
                try clear hx141_3
                try clear hx141_4
                try clear p139
                try clear p141
                try clear p2
                try clear q139
                try clear q141
                obtain ⟨kq, x84_23, rfl, HA, HJ23, HB⟩ := hcut
                cases kq with
                | zero => exact absurd HA.out (by simp [cordwainlaw11_RetainOver.j2])
                | succ kj23 =>
                  have H := HA.out
                  clear HA
                  simp only [cordwainlaw11_RetainOver.j2] at H
                  by_cases c33 : x84_23 = true
                  · subst c33
                    have H1 : (some false) = some r := by rw [if_pos rfl] at H; exact H
                    clear H
                    have H := H1
                    clear H1
                    exact absurd ((Option.some.inj H).trans HRT_.out) (by decide)
                  · replace c33 := Bool.eq_false_iff.mpr c33
                    subst c33
                    have H1 : (cordwainlaw11_RetainOver.l1 kj23 l0 a1 a2 a3 t146 0) = some r := by rw [if_neg (show ¬ (false = true) by decide)] at H; exact H
                    clear H
                    have H := H1
                    clear H1
                    have H' := Aside0.mk H
                    clear H
                    go_wp2
                    go_loopg [12] kj23 (fun kq v12 w' => ∃ (x12_4 : Int), v12 = .int .i64 x12_4 ∧ Aside0 (cordwainlaw11_RetainOver.l1 kq l0 a1 a2 a3 t146 x12_4 = some r) ∧ Aside0 (kq ≤ kj23) ∧ Aside0 (Below w.heap.size w w'))
                    case atStart => exact ⟨(0), (by first | rfl | (simp; done) | (simp [*]; done)), H', ⟨Nat.le_refl _⟩, ⟨by repeat (first | (with_reducible first | exact HB.out | apply below_alloc | apply pw_below_drewN | apply below_drew1) | exact HB.out)⟩⟩
                    case round =>
                      clear H'
                      try clear c1
                      try clear p1
                      try clear q1
                      try clear hx1
                      try clear c2
                      try clear p2
                      try clear c3
                      try clear c6
                      try clear p6
                      try clear c7
                      try clear c8
                      try clear c8b0
                      try clear c9
                      try clear c9b0
                      try clear c10
                      try clear c10b0
                      try clear c11
                      try clear p13
                      try clear q13
                      try clear hx13
                      try clear c14
                      try clear c14b0
                      try clear p14
                      try clear q14
                      try clear hx14
                      try clear c15
                      try clear c15b0
                      try clear c16
                      try clear c16b0
                      try clear c19
                      try clear c19b0
                      try clear c24
                      try clear c25
                      try clear c26
                      try clear c27
                      try clear c28
                      try clear c28b0
                      try clear c29
                      try clear c29b0
                      try clear c29b1
                      try clear c29b2
                      try clear c30
                      try clear c30b0
                      try clear c30b1
                      try clear c31
                      try clear c31b0
                      try clear c31b1
                      try clear c32
                      try clear c32b0
                      try clear c32b1
                      try clear c33
                      try clear hx139_0
                      try clear hx139_1
                      try clear hx139_2
                      try clear hx139_3
                      try clear hx139_4
                      try clear hx141_0
                      try clear hx141_1
                      try clear hx141_2
                      try clear hx141_3
                      try clear hx141_4
                      try clear p1
                      try clear p13
                      try clear p139
                      try clear p14
                      try clear p141
                      try clear p2
                      try clear p6
                      try clear q1
                      try clear q13
                      try clear q139
                      try clear q14
                      try clear q141
                      obtain ⟨x12_4, rfl, HA, HK4, HB⟩ := hrel
                      cases gk with
                      | zero => exact absurd HA.out (by simp [cordwainlaw11_RetainOver.l1])
                      | succ k4 =>
                        have H := HA.out
                        clear HA
                        simp only [cordwainlaw11_RetainOver.l1] at H
                        by_cases c34 : x12_4 < t146
                        · rw [if_pos c34] at H
                          have c34b0 : decide (x12_4 < t146) = true := decide_eq_true c34
                          clear c34
                          by_cases c35 : a1 > 0
                          · rw [if_pos c35] at H
                            have c35b0 : decide (0 < a1) = true := decide_eq_true c35
                            clear c35
                            by_cases c36 : 0 ≤ x12_4
                            · rw [if_pos c36] at H
                              have c36b0 := eq_true c36
                              have c36b1 : decide (0 ≤ x12_4) = true := decide_eq_true c36
                              clear c36
                              by_cases c37 : x12_4 ≤ (l0.length : Int)
                              · rw [if_pos c37] at H
                                have c37b0 := eq_true c37
                                have c37b1 : decide (x12_4 ≤ (l0.length : Int)) = true := decide_eq_true c37
                                clear c37
                                obtain ⟨y147, hy147⟩ : ∃ y_ : List (S42), y_ = (l0.drop (x12_4 : Int).toNat) := ⟨_, rfl⟩
                                replace H : ((cordwainref10_Sum.f k4 y147).bind fun t151 => (if t151 > a1 then (cordwainlaw11_RetainOver.l1 k4 l0 a1 a2 a3 t146 (wrap64 (x12_4 + 1))) else (if a2 > 0 then (if x12_4 < (l0.length : Int) then (if ((wrap64 (a3 - ((rd_T42 l0 x12_4).f4))) > a2) then (cordwainlaw11_RetainOver.l1 k4 l0 a1 a2 a3 t146 (wrap64 (x12_4 + 1))) else (some false)) else (none)) else (some false)))) = some r := by first | (rw [hy147]; with_reducible exact H) | (have H2_ := (Option.bind_some _ _).symm.trans H; rw [hy147]; with_reducible exact H2_) | (have H2_ := (Option.bind_some _ _).symm.trans H; with_reducible exact H2_) | with_reducible exact H | (rw [hy147]; exact H) | exact H
                                have Ny147 := Aside0.mk hy147
                                clear hy147
                                replace H := Option.bind_eq_some_iff.mp H
                                obtain ⟨t151, A380, H⟩ := H
                                replace H : (if t151 > a1 then (cordwainlaw11_RetainOver.l1 k4 l0 a1 a2 a3 t146 (wrap64 (x12_4 + 1))) else (if a2 > 0 then (if x12_4 < (l0.length : Int) then (if ((wrap64 (a3 - ((rd_T42 l0 x12_4).f4))) > a2) then (cordwainlaw11_RetainOver.l1 k4 l0 a1 a2 a3 t146 (wrap64 (x12_4 + 1))) else (some false)) else (none)) else (some false))) = some r := H
                                have A38 := Aside0.mk A380
                                clear A380
                                by_cases c39 : t151 > a1
                                · rw [if_pos c39] at H
                                  have c39b0 : decide (a1 < t151) = true := decide_eq_true c39
                                  clear c39
                                  have H' := Aside0.mk H
                                  clear H
                                  have q40 : (x12_4 : Int) ≤ ((l0.length : Int) : Int) := of_decide_eq_true (by first | (with_reducible assumption) | assumption)
                                  obtain ⟨i040, hi040, _, hsz40, _⟩ := info_parts info42
                                  have hroom40 : l0.length ≤ c0 := HC0.out
                                  have hC40 : Kd.C k42 _ A0 l0.length l0 := HR0.out
                                  have q040 : (0 : Int) ≤ (x12_4 : Int) := of_decide_eq_true (by first | (with_reducible assumption) | assumption)
                                  have hcut40 := cut_from (P := Try.prog) 39 42 .i64 Try.underlying39 hi040 5 hsz40 A0 l0.length c0 x12_4 q040 q40
                                  have hr40 := Kd.C_drop (m := (x12_4 : Int).toNat) (c := c0) hC40 (by omega) hroom40
                                  obtain ⟨A40, hA40⟩ : ∃ A1, A1 = (if c0 = (x12_4 : Int).toNat then A0 else (A0 : Option Addr).map (·.add ((x12_4 : Int).toNat * 5))) := ⟨_, rfl⟩
                                  obtain ⟨c40, hc40⟩ : ∃ c1, c1 = c0 - (x12_4 : Int).toNat := ⟨_, rfl⟩
                                  have hy40 : y147.length = l0.length - (x12_4 : Int).toNat := (by rw [Ny147.out, List.length_drop] <;> omega)
                                  rw [show (l0).drop (x12_4 : Int).toNat = y147 from Ny147.out.symm] at hr40
                                  replace hr40 : Kd.C k42 _ A40 y147.length y147 := (by rw [hA40]; exact hr40)
                                  rw [← hy40, ← hA40, ← hc40] at hcut40
                                  have HR150 := Aside0.mk hr40
                                  have HC150 := Aside0.mk (show y147.length ≤ c40 from by rw [hy40, hc40]; exact Nat.sub_le_sub_right hroom40 _)
                                  clear hr40 hC40 hroom40 hi040 hsz40 hc40
                                  have KY40 := Aside0.mk hy40
                                  have KA40 := Aside0.mk hA40
                                  clear hy40 hA40
                                  replace q40 := eq_true q40
                                  go_wp2_with (first | (go_at_call 28; (with_reducible refine (cordwainref10_Sum.calls k4 _ _ y147 t151 _ ?side1 ?side2 A38.out).mono ?_); (case side1 => repeat (first | exact (Kd.C_below HR150.out HB.out) | (with_reducible refine Kd.C_alloc ?_ _) | (with_reducible refine Kd.C_drewN ?_ _) | (with_reducible refine Kd.C_drew ?_))); (case side2 => exact HC150.out); rintro e w41 ⟨rfl, hb⟩; have n0_ := Aside0.mk (below_step (by repeat (first | (with_reducible first | exact HB.out | apply below_alloc | apply pw_below_drewN | apply below_drew1) | exact HB.out)) hb); clear HB; have HB := n0_; clear n0_; (try clear hb); (try clear hb2); (try clear hk); (try clear hi)))
                                  go_roundg k4
                                  case measure => have := HJ4.out; have := HK2.out; have := HJ23.out; have := HK4.out; omega
                                  case rel => exact ⟨(wrap64 (x12_4 + 1)), (by first | rfl | (simp; done) | (simp [*]; done)), H', ⟨by have := HJ4.out; have := HK2.out; have := HJ23.out; have := HK4.out; omega⟩, ⟨by repeat (first | (with_reducible first | exact HB.out | apply below_alloc | apply pw_below_drewN | apply below_drew1) | exact HB.out)⟩⟩
                                · rw [if_neg c39] at H
                                  have c39b0 : decide (a1 < t151) = false := decide_eq_false c39
                                  clear c39
                                  by_cases c42 : a2 > 0
                                  · rw [if_pos c42] at H
                                    have c42b0 : decide (0 < a2) = true := decide_eq_true c42
                                    clear c42
                                    by_cases c43 : x12_4 < (l0.length : Int)
                                    · rw [if_pos c43] at H
                                      have c43b0 : decide (x12_4 < (l0.length : Int)) = true := decide_eq_true c43
                                      clear c43
                                      by_cases c44 : ((wrap64 (a3 - ((rd_T42 l0 x12_4).f4))) > a2)
                                      · rw [if_pos c44] at H
                                        have c44b0 : decide (a2 < (wrap64 (a3 - ((rd_T42 l0 x12_4).f4)))) = true := decide_eq_true c44
                                        clear c44
                                        have H' := Aside0.mk H
                                        clear H
                                        have q45 : (x12_4 : Int) ≤ ((l0.length : Int) : Int) := of_decide_eq_true (by first | (with_reducible assumption) | assumption)
                                        obtain ⟨i045, hi045, _, hsz45, _⟩ := info_parts info42
                                        have hroom45 : l0.length ≤ c0 := HC0.out
                                        have hC45 : Kd.C k42 _ A0 l0.length l0 := HR0.out
                                        have q045 : (0 : Int) ≤ (x12_4 : Int) := of_decide_eq_true (by first | (with_reducible assumption) | assumption)
                                        have hcut45 := cut_from (P := Try.prog) 39 42 .i64 Try.underlying39 hi045 5 hsz45 A0 l0.length c0 x12_4 q045 q45
                                        have hr45 := Kd.C_drop (m := (x12_4 : Int).toNat) (c := c0) hC45 (by omega) hroom45
                                        obtain ⟨A45, hA45⟩ : ∃ A1, A1 = (if c0 = (x12_4 : Int).toNat then A0 else (A0 : Option Addr).map (·.add ((x12_4 : Int).toNat * 5))) := ⟨_, rfl⟩
                                        obtain ⟨c45, hc45⟩ : ∃ c1, c1 = c0 - (x12_4 : Int).toNat := ⟨_, rfl⟩
                                        have hy45 : y147.length = l0.length - (x12_4 : Int).toNat := (by rw [Ny147.out, List.length_drop] <;> omega)
                                        rw [show (l0).drop (x12_4 : Int).toNat = y147 from Ny147.out.symm] at hr45
                                        replace hr45 : Kd.C k42 _ A45 y147.length y147 := (by rw [hA45]; exact hr45)
                                        rw [← hy45, ← hA45, ← hc45] at hcut45
                                        have HR150 := Aside0.mk hr45
                                        have HC150 := Aside0.mk (show y147.length ≤ c45 from by rw [hy45, hc45]; exact Nat.sub_le_sub_right hroom45 _)
                                        clear hr45 hC45 hroom45 hi045 hsz45 hc45
                                        have KY45 := Aside0.mk hy45
                                        have KA45 := Aside0.mk hA45
                                        clear hy45 hA45
                                        replace q45 := eq_true q45
                                        go_wp2_with (first | (go_at_call 28; (with_reducible refine (cordwainref10_Sum.calls k4 _ _ y147 t151 _ ?side1 ?side2 A38.out).mono ?_); (case side1 => repeat (first | exact (Kd.C_below HR150.out HB.out) | (with_reducible refine Kd.C_alloc ?_ _) | (with_reducible refine Kd.C_drewN ?_ _) | (with_reducible refine Kd.C_drew ?_))); (case side2 => exact HC150.out); rintro e w46 ⟨rfl, hb⟩; have n0_ := Aside0.mk (below_step (by repeat (first | (with_reducible first | exact HB.out | apply below_alloc | apply pw_below_drewN | apply below_drew1) | exact HB.out)) hb); clear HB; have HB := n0_; clear n0_; (try clear hb); (try clear hb2); (try clear hk); (try clear hi); have p152 : 0 ≤ (x12_4 : Int) := of_decide_eq_true (by first | (with_reducible assumption) | assumption); have q152 : x12_4 < (l0.length : Int) := of_decide_eq_true (by first | (with_reducible assumption) | assumption); obtain ⟨ad152, e152, hx152_0, hx152_1, hx152_2, hx152_3, hx152_4⟩ := at_T42 HR0.out x12_4 p152 q152; cases e152; replace hx152_0 := (HB.out.cell (World.block_lt_of_cell? w _ hx152_0)).trans hx152_0; replace hx152_1 := (HB.out.cell (World.block_lt_of_cell? w _ hx152_1)).trans hx152_1; replace hx152_2 := (HB.out.cell (World.block_lt_of_cell? w _ hx152_2)).trans hx152_2; replace hx152_3 := (HB.out.cell (World.block_lt_of_cell? w _ hx152_3)).trans hx152_3; replace hx152_4 := (HB.out.cell (World.block_lt_of_cell? w _ hx152_4)).trans hx152_4; replace p152 := eq_true p152; replace q152 := eq_true q152))
                                        go_roundg k4
                                        case measure => have := HJ4.out; have := HK2.out; have := HJ23.out; have := HK4.out; omega
                                        case rel => exact ⟨(wrap64 (x12_4 + 1)), (by first | rfl | (simp; done) | (simp [*]; done)), H', ⟨by have := HJ4.out; have := HK2.out; have := HJ23.out; have := HK4.out; omega⟩, ⟨by repeat (first | (with_reducible first | exact HB.out | apply below_alloc | apply pw_below_drewN | apply below_drew1) | exact HB.out)⟩⟩
                                      · rw [if_neg c44] at H
                                        have c44b0 : decide (a2 < (wrap64 (a3 - ((rd_T42 l0 x12_4).f4)))) = false := decide_eq_false c44
                                        clear c44
                                        exact absurd ((Option.some.inj H).trans HRT_.out) (by decide)
                                    · rw [if_neg c43] at H
                                      exact absurd H (by simp)
                                  · rw [if_neg c42] at H
                                    have c42b0 : decide (0 < a2) = false := decide_eq_false c42
                                    clear c42
                                    exact absurd ((Option.some.inj H).trans HRT_.out) (by decide)
                              · rw [if_neg c37] at H
                                exact absurd H (by simp)
                            · rw [if_neg c36] at H
                              exact absurd H (by simp)
                          · rw [if_neg c35] at H
                            have c35b0 : decide (0 < a1) = false := decide_eq_false c35
                            clear c35
                            by_cases c47 : a2 > 0
                            · rw [if_pos c47] at H
                              have c47b0 : decide (0 < a2) = true := decide_eq_true c47
                              clear c47
                              by_cases c48 : 0 ≤ x12_4
                              · rw [if_pos c48] at H
                                have c48b0 : decide (0 ≤ x12_4) = true := decide_eq_true c48
                                clear c48
                                by_cases c49 : x12_4 < (l0.length : Int)
                                · rw [if_pos c49] at H
                                  have c49b0 : decide (x12_4 < (l0.length : Int)) = true := decide_eq_true c49
                                  clear c49
                                  by_cases c50 : ((wrap64 (a3 - ((rd_T42 l0 x12_4).f4))) > a2)
                                  · rw [if_pos c50] at H
                                    have c50b0 : decide (a2 < (wrap64 (a3 - ((rd_T42 l0 x12_4).f4)))) = true := decide_eq_true c50
                                    clear c50
                                    have H' := Aside0.mk H
                                    clear H
                                    have p153 : 0 ≤ (x12_4 : Int) := of_decide_eq_true (by first | (with_reducible assumption) | assumption)
                                    have q153 : x12_4 < (l0.length : Int) := of_decide_eq_true (by first | (with_reducible assumption) | assumption)
                                    obtain ⟨ad153, e153, hx153_0, hx153_1, hx153_2, hx153_3, hx153_4⟩ := at_T42 HR0.out x12_4 p153 q153
                                    cases e153
                                    replace hx153_0 := (HB.out.cell (World.block_lt_of_cell? w _ hx153_0)).trans hx153_0
                                    replace hx153_1 := (HB.out.cell (World.block_lt_of_cell? w _ hx153_1)).trans hx153_1
                                    replace hx153_2 := (HB.out.cell (World.block_lt_of_cell? w _ hx153_2)).trans hx153_2
                                    replace hx153_3 := (HB.out.cell (World.block_lt_of_cell? w _ hx153_3)).trans hx153_3
                                    replace hx153_4 := (HB.out.cell (World.block_lt_of_cell? w _ hx153_4)).trans hx153_4
                                    replace p153 := eq_true p153
                                    replace q153 := eq_true q153
                                    go_wp2
                                    go_roundg k4
                                    case measure => have := HJ4.out; have := HK2.out; have := HJ23.out; have := HK4.out; omega
                                    case rel => exact ⟨(wrap64 (x12_4 + 1)), (by first | rfl | (simp; done) | (simp [*]; done)), H', ⟨by have := HJ4.out; have := HK2.out; have := HJ23.out; have := HK4.out; omega⟩, ⟨by repeat (first | (with_reducible first | exact HB.out | apply below_alloc | apply pw_below_drewN | apply below_drew1) | exact HB.out)⟩⟩
                                  · rw [if_neg c50] at H
                                    have c50b0 : decide (a2 < (wrap64 (a3 - ((rd_T42 l0 x12_4).f4)))) = false := decide_eq_false c50
                                    clear c50
                                    exact absurd ((Option.some.inj H).trans HRT_.out) (by decide)
                                · rw [if_neg c49] at H
                                  exact absurd H (by simp)
                              · rw [if_neg c48] at H
                                exact absurd H (by simp)
                            · rw [if_neg c47] at H
                              have c47b0 : decide (0 < a2) = false := decide_eq_false c47
                              clear c47
                              exact absurd ((Option.some.inj H).trans HRT_.out) (by decide)
                        · rw [if_neg c34] at H
                          have c34b0 : decide (x12_4 < t146) = false := decide_eq_false c34
                          clear c34
                          by_cases c51 : (wrap64 (t146 + 1)) < (l0.length : Int)
                          · rw [if_pos c51] at H
                            have c51b0 : decide ((wrap64 (t146 + 1)) < (l0.length : Int)) = true := decide_eq_true c51
                            clear c51
                            by_cases c52 : a1 > 0
                            · rw [if_pos c52] at H
                              have c52b0 : decide (0 < a1) = true := decide_eq_true c52
                              clear c52
                              by_cases c53 : 0 ≤ t146
                              · rw [if_pos c53] at H
                                have c53b0 := eq_true c53
                                have c53b1 : decide (0 ≤ t146) = true := decide_eq_true c53
                                clear c53
                                by_cases c54 : t146 ≤ (l0.length : Int)
                                · rw [if_pos c54] at H
                                  have c54b0 := eq_true c54
                                  have c54b1 : decide (t146 ≤ (l0.length : Int)) = true := decide_eq_true c54
                                  clear c54
                                  obtain ⟨y154, hy154⟩ : ∃ y_ : List (S42), y_ = (l0.drop (t146 : Int).toNat) := ⟨_, rfl⟩
                                  replace H : ((cordwainref10_Sum.f k4 y154).bind fun t158 => (if t158 > a1 then (some false) else (if a2 > 0 then (if t146 < (l0.length : Int) then (if (wrap64 (a3 - ((rd_T42 l0 t146).f4))) > a2 then (some false) else ((cordwainlaw11_awake.f k4).bind fun t160 => (some t160))) else (none)) else ((cordwainlaw11_awake.f k4).bind fun t161 => (some t161))))) = some r := by first | (rw [hy154]; with_reducible exact H) | (have H2_ := (Option.bind_some _ _).symm.trans H; rw [hy154]; with_reducible exact H2_) | (have H2_ := (Option.bind_some _ _).symm.trans H; with_reducible exact H2_) | with_reducible exact H | (rw [hy154]; exact H) | exact H
                                  have Ny154 := Aside0.mk hy154
                                  clear hy154
                                  replace H := Option.bind_eq_some_iff.mp H
                                  obtain ⟨t158, A550, H⟩ := H
                                  replace H : (if t158 > a1 then (some false) else (if a2 > 0 then (if t146 < (l0.length : Int) then (if (wrap64 (a3 - ((rd_T42 l0 t146).f4))) > a2 then (some false) else ((cordwainlaw11_awake.f k4).bind fun t160 => (some t160))) else (none)) else ((cordwainlaw11_awake.f k4).bind fun t161 => (some t161)))) = some r := H
                                  have A55 := Aside0.mk A550
                                  clear A550
                                  by_cases c56 : t158 > a1
                                  · rw [if_pos c56] at H
                                    have c56b0 : decide (a1 < t158) = true := decide_eq_true c56
                                    clear c56
                                    exact absurd ((Option.some.inj H).trans HRT_.out) (by decide)
                                  · rw [if_neg c56] at H
                                    have c56b0 : decide (a1 < t158) = false := decide_eq_false c56
                                    clear c56
                                    by_cases c57 : a2 > 0
                                    · rw [if_pos c57] at H
                                      have c57b0 : decide (0 < a2) = true := decide_eq_true c57
                                      clear c57
                                      by_cases c58 : t146 < (l0.length : Int)
                                      · rw [if_pos c58] at H
                                        have c58b0 : decide (t146 < (l0.length : Int)) = true := decide_eq_true c58
                                        clear c58
                                        by_cases c59 : (wrap64 (a3 - ((rd_T42 l0 t146).f4))) > a2
                                        · rw [if_pos c59] at H
                                          have c59b0 : decide (a2 < (wrap64 (a3 - ((rd_T42 l0 t146).f4)))) = true := decide_eq_true c59
                                          clear c59
                                          exact absurd ((Option.some.inj H).trans HRT_.out) (by decide)
                                        · rw [if_neg c59] at H
                                          have c59b0 : decide (a2 < (wrap64 (a3 - ((rd_T42 l0 t146).f4)))) = false := decide_eq_false c59
                                          clear c59
                                          replace H := Option.bind_eq_some_iff.mp H
                                          obtain ⟨t160, A600, H⟩ := H
                                          replace H : (some t160) = some r := H
                                          have A60 := Aside0.mk A600
                                          clear A600
                                          obtain rfl := Option.some.inj H
                                          have q61 : (t146 : Int) ≤ ((l0.length : Int) : Int) := of_decide_eq_true (by first | (with_reducible assumption) | assumption)
                                          obtain ⟨i061, hi061, _, hsz61, _⟩ := info_parts info42
                                          have hroom61 : l0.length ≤ c0 := HC0.out
                                          have hC61 : Kd.C k42 _ A0 l0.length l0 := HR0.out
                                          have q061 : (0 : Int) ≤ (t146 : Int) := of_decide_eq_true (by first | (with_reducible assumption) | assumption)
                                          have hcut61 := cut_from (P := Try.prog) 39 42 .i64 Try.underlying39 hi061 5 hsz61 A0 l0.length c0 t146 q061 q61
                                          have hr61 := Kd.C_drop (m := (t146 : Int).toNat) (c := c0) hC61 (by omega) hroom61
                                          obtain ⟨A61, hA61⟩ : ∃ A1, A1 = (if c0 = (t146 : Int).toNat then A0 else (A0 : Option Addr).map (·.add ((t146 : Int).toNat * 5))) := ⟨_, rfl⟩
                                          obtain ⟨c61, hc61⟩ : ∃ c1, c1 = c0 - (t146 : Int).toNat := ⟨_, rfl⟩
                                          have hy61 : y154.length = l0.length - (t146 : Int).toNat := (by rw [Ny154.out, List.length_drop] <;> omega)
                                          rw [show (l0).drop (t146 : Int).toNat = y154 from Ny154.out.symm] at hr61
                                          replace hr61 : Kd.C k42 _ A61 y154.length y154 := (by rw [hA61]; exact hr61)
                                          rw [← hy61, ← hA61, ← hc61] at hcut61
                                          have HR157 := Aside0.mk hr61
                                          have HC157 := Aside0.mk (show y154.length ≤ c61 from by rw [hy61, hc61]; exact Nat.sub_le_sub_right hroom61 _)
                                          clear hr61 hC61 hroom61 hi061 hsz61 hc61
                                          have KY61 := Aside0.mk hy61
                                          have KA61 := Aside0.mk hA61
                                          clear hy61 hA61
                                          replace q61 := eq_true q61
                                          go_wp2_with (first | (go_at_call 28; (with_reducible refine (cordwainref10_Sum.calls k4 _ _ y154 t158 _ ?side1 ?side2 A55.out).mono ?_); (case side1 => repeat (first | exact (Kd.C_below HR157.out HB.out) | (with_reducible refine Kd.C_alloc ?_ _) | (with_reducible refine Kd.C_drewN ?_ _) | (with_reducible refine Kd.C_drew ?_))); (case side2 => exact HC157.out); rintro e w62 ⟨rfl, hb⟩; have n0_ := Aside0.mk (below_step (by repeat (first | (with_reducible first | exact HB.out | apply below_alloc | apply pw_below_drewN | apply below_drew1) | exact HB.out)) hb); clear HB; have HB := n0_; clear n0_; (try clear hb); (try clear hb2); (try clear hk); (try clear hi); have p159 : 0 ≤ (t146 : Int) := of_decide_eq_true (by first | (with_reducible assumption) | assumption); have q159 : t146 < (l0.length : Int) := of_decide_eq_true (by first | (with_reducible assumption) | assumption); obtain ⟨ad159, e159, hx159_0, hx159_1, hx159_2, hx159_3, hx159_4⟩ := at_T42 HR0.out t146 p159 q159; cases e159; replace hx159_0 := (HB.out.cell (World.block_lt_of_cell? w _ hx159_0)).trans hx159_0; replace hx159_1 := (HB.out.cell (World.block_lt_of_cell? w _ hx159_1)).trans hx159_1; replace hx159_2 := (HB.out.cell (World.block_lt_of_cell? w _ hx159_2)).trans hx159_2; replace hx159_3 := (HB.out.cell (World.block_lt_of_cell? w _ hx159_3)).trans hx159_3; replace hx159_4 := (HB.out.cell (World.block_lt_of_cell? w _ hx159_4)).trans hx159_4; replace p159 := eq_true p159; replace q159 := eq_true q159) | ((with_reducible refine gate_callee (f := 25) rfl ?_); refine goesL_ (some 148) rfl rfl Try.func25 (by kernel_rfl) rfl #[] rfl (by (try simp only [List.map_toArray, List.map_cons, List.map_nil]); first | done | rfl | (simp only [List.length_drop, List.length_take]; rfl)) ?_; (with_reducible refine (cordwainlaw11_awake.calls k4  t160 _ A60.out).mono ?_); rintro e w63 ⟨rfl, hb⟩; refine ⟨_, rfl, ?_⟩; have n0_ := Aside0.mk (below_step (by repeat (first | (with_reducible first | exact HB.out | apply below_alloc | apply pw_below_drewN | apply below_drew1) | exact HB.out)) hb); clear HB; have HB := n0_; clear n0_; (try clear hb); (try clear hb2); (try clear hk); (try clear hi)))
                                          go_ret
                                          exact ⟨by first | rfl | (simp [errW_none, errW_some] <;> rfl) | (simp [*, errW_none, errW_some] <;> rfl), by repeat (first | (with_reducible first | exact HB.out | apply below_alloc | apply pw_below_drewN | apply below_drew1) | exact HB.out)⟩
                                      · rw [if_neg c58] at H
                                        exact absurd H (by simp)
                                    · rw [if_neg c57] at H
                                      have c57b0 : decide (0 < a2) = false := decide_eq_false c57
                                      clear c57
                                      replace H := Option.bind_eq_some_iff.mp H
                                      obtain ⟨t161, A640, H⟩ := H
                                      replace H : (some t161) = some r := H
                                      have A64 := Aside0.mk A640
                                      clear A640
                                      obtain rfl := Option.some.inj H
                                      have q65 : (t146 : Int) ≤ ((l0.length : Int) : Int) := of_decide_eq_true (by first | (with_reducible assumption) | assumption)
                                      obtain ⟨i065, hi065, _, hsz65, _⟩ := info_parts info42
                                      have hroom65 : l0.length ≤ c0 := HC0.out
                                      have hC65 : Kd.C k42 _ A0 l0.length l0 := HR0.out
                                      have q065 : (0 : Int) ≤ (t146 : Int) := of_decide_eq_true (by first | (with_reducible assumption) | assumption)
                                      have hcut65 := cut_from (P := Try.prog) 39 42 .i64 Try.underlying39 hi065 5 hsz65 A0 l0.length c0 t146 q065 q65
                                      have hr65 := Kd.C_drop (m := (t146 : Int).toNat) (c := c0) hC65 (by omega) hroom65
                                      obtain ⟨A65, hA65⟩ : ∃ A1, A1 = (if c0 = (t146 : Int).toNat then A0 else (A0 : Option Addr).map (·.add ((t146 : Int).toNat * 5))) := ⟨_, rfl⟩
                                      obtain ⟨c65, hc65⟩ : ∃ c1, c1 = c0 - (t146 : Int).toNat := ⟨_, rfl⟩
                                      have hy65 : y154.length = l0.length - (t146 : Int).toNat := (by rw [Ny154.out, List.length_drop] <;> omega)
                                      rw [show (l0).drop (t146 : Int).toNat = y154 from Ny154.out.symm] at hr65
                                      replace hr65 : Kd.C k42 _ A65 y154.length y154 := (by rw [hA65]; exact hr65)
                                      rw [← hy65, ← hA65, ← hc65] at hcut65
                                      have HR157 := Aside0.mk hr65
                                      have HC157 := Aside0.mk (show y154.length ≤ c65 from by rw [hy65, hc65]; exact Nat.sub_le_sub_right hroom65 _)
                                      clear hr65 hC65 hroom65 hi065 hsz65 hc65
                                      have KY65 := Aside0.mk hy65
                                      have KA65 := Aside0.mk hA65
                                      clear hy65 hA65
                                      replace q65 := eq_true q65
                                      go_wp2_with (first | (go_at_call 28; (with_reducible refine (cordwainref10_Sum.calls k4 _ _ y154 t158 _ ?side1 ?side2 A55.out).mono ?_); (case side1 => repeat (first | exact (Kd.C_below HR157.out HB.out) | (with_reducible refine Kd.C_alloc ?_ _) | (with_reducible refine Kd.C_drewN ?_ _) | (with_reducible refine Kd.C_drew ?_))); (case side2 => exact HC157.out); rintro e w66 ⟨rfl, hb⟩; have n0_ := Aside0.mk (below_step (by repeat (first | (with_reducible first | exact HB.out | apply below_alloc | apply pw_below_drewN | apply below_drew1) | exact HB.out)) hb); clear HB; have HB := n0_; clear n0_; (try clear hb); (try clear hb2); (try clear hk); (try clear hi)) | ((with_reducible refine gate_callee (f := 25) rfl ?_); refine goesL_ (some 148) rfl rfl Try.func25 (by kernel_rfl) rfl #[] rfl (by (try simp only [List.map_toArray, List.map_cons, List.map_nil]); first | done | rfl | (simp only [List.length_drop, List.length_take]; rfl)) ?_; (with_reducible refine (cordwainlaw11_awake.calls k4  t161 _ A64.out).mono ?_); rintro e w67 ⟨rfl, hb⟩; refine ⟨_, rfl, ?_⟩; have n0_ := Aside0.mk (below_step (by repeat (first | (with_reducible first | exact HB.out | apply below_alloc | apply pw_below_drewN | apply below_drew1) | exact HB.out)) hb); clear HB; have HB := n0_; clear n0_; (try clear hb); (try clear hb2); (try clear hk); (try clear hi)))
                                      go_ret
                                      exact ⟨by first | rfl | (simp [errW_none, errW_some] <;> rfl) | (simp [*, errW_none, errW_some] <;> rfl), by repeat (first | (with_reducible first | exact HB.out | apply below_alloc | apply pw_below_drewN | apply below_drew1) | exact HB.out)⟩
                                · rw [if_neg c54] at H
                                  exact absurd H (by simp)
                              · rw [if_neg c53] at H
                                exact absurd H (by simp)
                            · rw [if_neg c52] at H
                              have c52b0 : decide (0 < a1) = false := decide_eq_false c52
                              clear c52
                              by_cases c68 : a2 > 0
                              · rw [if_pos c68] at H
                                have c68b0 : decide (0 < a2) = true := decide_eq_true c68
                                clear c68
                                by_cases c69 : 0 ≤ t146
                                · rw [if_pos c69] at H
                                  have c69b0 : decide (0 ≤ t146) = true := decide_eq_true c69
                                  clear c69
                                  by_cases c70 : t146 < (l0.length : Int)
                                  · rw [if_pos c70] at H
                                    have c70b0 : decide (t146 < (l0.length : Int)) = true := decide_eq_true c70
                                    clear c70
                                    by_cases c71 : (wrap64 (a3 - ((rd_T42 l0 t146).f4))) > a2
                                    · rw [if_pos c71] at H
                                      have c71b0 : decide (a2 < (wrap64 (a3 - ((rd_T42 l0 t146).f4)))) = true := decide_eq_true c71
                                      clear c71
                                      exact absurd ((Option.some.inj H).trans HRT_.out) (by decide)
                                    · rw [if_neg c71] at H
                                      have c71b0 : decide (a2 < (wrap64 (a3 - ((rd_T42 l0 t146).f4)))) = false := decide_eq_false c71
                                      clear c71
                                      replace H := Option.bind_eq_some_iff.mp H
                                      obtain ⟨t163, A720, H⟩ := H
                                      replace H : (some t163) = some r := H
                                      have A72 := Aside0.mk A720
                                      clear A720
                                      obtain rfl := Option.some.inj H
                                      have p162 : 0 ≤ (t146 : Int) := of_decide_eq_true (by first | (with_reducible assumption) | assumption)
                                      have q162 : t146 < (l0.length : Int) := of_decide_eq_true (by first | (with_reducible assumption) | assumption)
                                      obtain ⟨ad162, e162, hx162_0, hx162_1, hx162_2, hx162_3, hx162_4⟩ := at_T42 HR0.out t146 p162 q162
                                      cases e162
                                      replace hx162_0 := (HB.out.cell (World.block_lt_of_cell? w _ hx162_0)).trans hx162_0
                                      replace hx162_1 := (HB.out.cell (World.block_lt_of_cell? w _ hx162_1)).trans hx162_1
                                      replace hx162_2 := (HB.out.cell (World.block_lt_of_cell? w _ hx162_2)).trans hx162_2
                                      replace hx162_3 := (HB.out.cell (World.block_lt_of_cell? w _ hx162_3)).trans hx162_3
                                      replace hx162_4 := (HB.out.cell (World.block_lt_of_cell? w _ hx162_4)).trans hx162_4
                                      replace p162 := eq_true p162
                                      replace q162 := eq_true q162
                                      go_wp2_with (first | ((with_reducible refine gate_callee (f := 25) rfl ?_); refine goesL_ (some 148) rfl rfl Try.func25 (by kernel_rfl) rfl #[] rfl (by (try simp only [List.map_toArray, List.map_cons, List.map_nil]); first | done | rfl | (simp only [List.length_drop, List.length_take]; rfl)) ?_; (with_reducible refine (cordwainlaw11_awake.calls k4  t163 _ A72.out).mono ?_); rintro e w73 ⟨rfl, hb⟩; refine ⟨_, rfl, ?_⟩; have n0_ := Aside0.mk (below_step (by repeat (first | (with_reducible first | exact HB.out | apply below_alloc | apply pw_below_drewN | apply below_drew1) | exact HB.out)) hb); clear HB; have HB := n0_; clear n0_; (try clear hb); (try clear hb2); (try clear hk); (try clear hi)))
                                      go_ret
                                      exact ⟨by first | rfl | (simp [errW_none, errW_some] <;> rfl) | (simp [*, errW_none, errW_some] <;> rfl), by repeat (first | (with_reducible first | exact HB.out | apply below_alloc | apply pw_below_drewN | apply below_drew1) | exact HB.out)⟩
                                  · rw [if_neg c70] at H
                                    exact absurd H (by simp)
                                · rw [if_neg c69] at H
                                  exact absurd H (by simp)
                              · rw [if_neg c68] at H
                                have c68b0 : decide (0 < a2) = false := decide_eq_false c68
                                clear c68
                                replace H := Option.bind_eq_some_iff.mp H
                                obtain ⟨t164, A740, H⟩ := H
                                replace H : (some t164) = some r := H
                                have A74 := Aside0.mk A740
                                clear A740
                                obtain rfl := Option.some.inj H
                                go_wp2_with (first | ((with_reducible refine gate_callee (f := 25) rfl ?_); refine goesL_ (some 148) rfl rfl Try.func25 (by kernel_rfl) rfl #[] rfl (by (try simp only [List.map_toArray, List.map_cons, List.map_nil]); first | done | rfl | (simp only [List.length_drop, List.length_take]; rfl)) ?_; (with_reducible refine (cordwainlaw11_awake.calls k4  t164 _ A74.out).mono ?_); rintro e w75 ⟨rfl, hb⟩; refine ⟨_, rfl, ?_⟩; have n0_ := Aside0.mk (below_step (by repeat (first | (with_reducible first | exact HB.out | apply below_alloc | apply pw_below_drewN | apply below_drew1) | exact HB.out)) hb); clear HB; have HB := n0_; clear n0_; (try clear hb); (try clear hb2); (try clear hk); (try clear hi)))
                                go_ret
                                exact ⟨by first | rfl | (simp [errW_none, errW_some] <;> rfl) | (simp [*, errW_none, errW_some] <;> rfl), by repeat (first | (with_reducible first | exact HB.out | apply below_alloc | apply pw_below_drewN | apply below_drew1) | exact HB.out)⟩
                          · rw [if_neg c51] at H
                            have c51b0 : decide ((wrap64 (t146 + 1)) < (l0.length : Int)) = false := decide_eq_false c51
                            clear c51
                            replace H := Option.bind_eq_some_iff.mp H
                            obtain ⟨t165, A760, H⟩ := H
                            replace H : (some t165) = some r := H
                            have A76 := Aside0.mk A760
                            clear A760
                            obtain rfl := Option.some.inj H
                            go_wp2_with (first | ((with_reducible refine gate_callee (f := 25) rfl ?_); refine goesL_ (some 148) rfl rfl Try.func25 (by kernel_rfl) rfl #[] rfl (by (try simp only [List.map_toArray, List.map_cons, List.map_nil]); first | done | rfl | (simp only [List.length_drop, List.length_take]; rfl)) ?_; (with_reducible refine (cordwainlaw11_awake.calls k4  t165 _ A76.out).mono ?_); rintro e w77 ⟨rfl, hb⟩; refine ⟨_, rfl, ?_⟩; have n0_ := Aside0.mk (below_step (by repeat (first | (with_reducible first | exact HB.out | apply below_alloc | apply pw_below_drewN | apply below_drew1) | exact HB.out)) hb); clear HB; have HB := n0_; clear n0_; (try clear hb); (try clear hb2); (try clear hk); (try clear hi)))
                            go_ret
                            exact ⟨by first | rfl | (simp [errW_none, errW_some] <;> rfl) | (simp [*, errW_none, errW_some] <;> rfl), by repeat (first | (with_reducible first | exact HB.out | apply below_alloc | apply pw_below_drewN | apply below_drew1) | exact HB.out)⟩

/-- THE ONE PURE STATEMENT of cordwainlaw11_RetainOver. -/
def cordwainlaw11_RetainOver.Pure : Prop := ∀ (l0 : List (S42)) (a1 : Int) (a2 : Int) (a3 : Int), (l0.length ≤ maxLen ∧ ∀ x_ ∈ l0, ((Lit.int .i64 x_.f0).wf = true ∧ (Lit.int .i64 x_.f1).wf = true ∧ (Lit.int .i64 x_.f2).wf = true ∧ (Lit.int .i64 x_.f3).wf = true ∧ (Lit.int .i64 x_.f4).wf = true)) → (Lit.int .i64 a1).wf = true → (Lit.int .i64 a2).wf = true → (Lit.int .i64 a3).wf = true → ∃ k, cordwainlaw11_RetainOver.f k l0 a1 a2 a3 = some true
theorem cordwainlaw11_RetainOver.walk (P : cordwainlaw11_RetainOver.Pure) (A0 : Option Addr) (c0 : Nat) (l0 : List (S42)) (a1 : Int) (a2 : Int) (a3 : Int) (w : World) (hc0 : l0.length ≤ c0) (hr0 : Kd.C k42 w A0 l0.length l0) (q0 : (l0.length ≤ maxLen ∧ ∀ x_ ∈ l0, ((Lit.int .i64 x_.f0).wf = true ∧ (Lit.int .i64 x_.f1).wf = true ∧ (Lit.int .i64 x_.f2).wf = true ∧ (Lit.int .i64 x_.f3).wf = true ∧ (Lit.int .i64 x_.f4).wf = true))) (q1 : (Lit.int .i64 a1).wf = true) (q2 : (Lit.int .i64 a2).wf = true) (q3 : (Lit.int .i64 a3).wf = true) :
    Calls Try.prog 6 #[.slice A0 l0.length c0, .int .i64 a1, .int .i64 a2, .int .i64 a3] w fun e w' => e = .returned (.bool true) ∧ Below w.heap.size w w' := by
  obtain ⟨k, h⟩ := P l0 a1 a2 a3 q0 q1 q2 q3
  refine (cordwainlaw11_RetainOver.calls k _ _ l0 a1 a2 a3 true w hr0 hc0 rfl h).mono ?_
  rintro e w' ⟨rfl, hd⟩
  exact ⟨rfl, hd⟩

end Go.Proofs.Ytakodondlmiklaa.PRetainOver
