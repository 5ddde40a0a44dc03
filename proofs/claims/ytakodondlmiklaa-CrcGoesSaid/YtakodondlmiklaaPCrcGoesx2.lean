-- printed for this claim by a program of the session's own (pr2.py) over the kit's printer; not trusted: Lean checks it
import Derived.Test.YtakodondlmiklaaConst
import Derived.Test.YtakodondlmiklaaPCrcGoesx0
import Derived.Test.YtakodondlmiklaaPCrcGoesx1
namespace Go.Proofs.Ytakodondlmiklaa.PCrcGoes
open Go.RowKit Go.Proofs.YtakodondlmiklaaW.PrintWords Go.Proofs.YtakodondlmiklaaW.PrintLast Go.Proofs.YtakodondlmiklaaW.PrintMore
attribute [local go_sem] max2_int min2_int max_two min_two max_three min_three max_four min_four   -- for this text's walks alone
set_option linter.unusedVariables false
set_option linter.unusedSimpArgs false

/-! ### cordwainlaw2_CrcGoes: function 9 -/
mutual
def cordwainlaw2_CrcGoes.j0 : Nat → List Int → List Int → Int → Bool → Option (Bool)
  | 0, _, _, _, _ => none
  | k + 1, x0, x1, x2, x18 => if x18 = true then ((cordwainlaw2_awake.f k).bind fun t115 => (some t115)) else ((crc_Roller_Add.f k 0 x0).bind fun t117 => ((crc_Roller_Sum.f t117).bind fun bt118 => ((crc_Roller_Add.f k bt118.2 x1).bind fun t120 => ((crc_Sum.f k (([x0] : List (List Int)))).bind fun t124 => (if bt118.1 = t124 then ((crc_Roller_Sum.f t120).bind fun bt125 => ((crc_Sum.f k (([x0, x1] : List (List Int)))).bind fun t130 => (if bt125.1 = t130 then ((crc_More.f k bt118.1 x1).bind fun t131 => ((crc_Roller_Sum.f bt125.2).bind fun bt132 => (cordwainlaw2_CrcGoes.j1 k x0 x2 (t131 != bt132.1)))) else (cordwainlaw2_CrcGoes.j1 k x0 x2 true)))) else (cordwainlaw2_CrcGoes.j1 k x0 x2 true))))))
def cordwainlaw2_CrcGoes.j1 : Nat → List Int → Int → Bool → Option (Bool)
  | 0, _, _, _ => none
  | k + 1, x0, x2, x44 => if x44 = true then (some false) else (if (x0.length : Int) > 0 then ((some (([] : List Int) : List Int)).bind fun y134 => (if y134.length + x0.length < 140737488355328 then ((some (y134 ++ x0 : List Int)).bind fun y137 => ((cordwainalike_Round.f x2 (wrap64 (8 * (x0.length : Int)))).bind fun t140 => (if 0 ≤ (wrap64 (Int.tdiv t140 8)) then (if (wrap64 (Int.tdiv t140 8)) < (y137.length : Int) then (if 0 ≤ (Int.tmod t140 8) then ((crc_Sum.f k (([(y137.set ((wrap64 (Int.tdiv t140 8)) : Int).toNat (Go.bits .xor .u8 (rd y137 (wrap64 (Int.tdiv t140 8))) (shl .u8 1 (Int.tmod t140 8))))] : List (List Int)))).bind fun t146 => ((crc_Sum.f k (([x0] : List (List Int)))).bind fun t150 => (if t146 = t150 then (some false) else ((cordwainlaw2_awake.f k).bind fun t151 => (some t151))))) else (none)) else (none)) else (none)))) else (none))) else ((cordwainlaw2_awake.f k).bind fun t152 => (some t152)))
end
def cordwainlaw2_CrcGoes.f (k : Nat) (l0 : List Int) (l1 : List Int) (a2 : Int) : Option (Bool) := if (l0.length : Int) > 1000 then (cordwainlaw2_CrcGoes.j0 k l0 l1 a2 true) else (cordwainlaw2_CrcGoes.j0 k l0 l1 a2 (decide ((l1.length : Int) > 1000)))
theorem cordwainlaw2_CrcGoes.mono_l : ∀ k, (∀ y0 y1 y2 y3, LeO (cordwainlaw2_CrcGoes.j0 k y0 y1 y2 y3) (cordwainlaw2_CrcGoes.j0 (k + 1) y0 y1 y2 y3)) ∧ (∀ y0 y1 y2, LeO (cordwainlaw2_CrcGoes.j1 k y0 y1 y2) (cordwainlaw2_CrcGoes.j1 (k + 1) y0 y1 y2))
  | 0 => ⟨fun _ _ _ _ r h => by simp [cordwainlaw2_CrcGoes.j0] at h, fun _ _ _ r h => by simp [cordwainlaw2_CrcGoes.j1] at h⟩
  | k + 1 => by
    obtain ⟨ih0, ih1⟩ := cordwainlaw2_CrcGoes.mono_l k
    refine ⟨?_, ?_⟩
    · intro y0 y1 y2 y3
      unfold cordwainlaw2_CrcGoes.j0
      repeat' first
      | (with_reducible exact ih0 _ _ _ _)
      | (with_reducible exact ih1 _ _ _)
      | (with_reducible exact cordwainlaw2_awake.mono _)
      | (with_reducible exact crc_More.mono _ _ _)
      | (with_reducible exact crc_Roller_Add.mono _ _ _)
      | (with_reducible exact crc_Sum.mono _ _)
      | (with_reducible exact LeO.refl _)
      | (with_reducible exact LeO.none _)
      | (with_reducible refine LeO.ite ?_ ?_)
      | (with_reducible refine LeO.bind ?_ (fun _ => ?_))
      | exact ih0 _ _ _ _
      | exact ih1 _ _ _
      | exact cordwainlaw2_awake.mono _
      | exact crc_More.mono _ _ _
      | exact crc_Roller_Add.mono _ _ _
      | exact crc_Sum.mono _ _
      | exact LeO.none _
      | refine LeO.ite ?_ ?_
      | refine LeO.bind ?_ (fun _ => ?_)
    · intro y0 y1 y2
      unfold cordwainlaw2_CrcGoes.j1
      repeat' first
      | (with_reducible exact ih0 _ _ _ _)
      | (with_reducible exact ih1 _ _ _)
      | (with_reducible exact cordwainlaw2_awake.mono _)
      | (with_reducible exact crc_More.mono _ _ _)
      | (with_reducible exact crc_Roller_Add.mono _ _ _)
      | (with_reducible exact crc_Sum.mono _ _)
      | (with_reducible exact LeO.refl _)
      | (with_reducible exact LeO.none _)
      | (with_reducible refine LeO.ite ?_ ?_)
      | (with_reducible refine LeO.bind ?_ (fun _ => ?_))
      | exact ih0 _ _ _ _
      | exact ih1 _ _ _
      | exact cordwainlaw2_awake.mono _
      | exact crc_More.mono _ _ _
      | exact crc_Roller_Add.mono _ _ _
      | exact crc_Sum.mono _ _
      | exact LeO.none _
      | refine LeO.ite ?_ ?_
      | refine LeO.bind ?_ (fun _ => ?_)
theorem cordwainlaw2_CrcGoes.mono : ∀ a0 a1 a2 k, LeO (cordwainlaw2_CrcGoes.f k a0 a1 a2) (cordwainlaw2_CrcGoes.f (k + 1) a0 a1 a2) := by
  intro a0 a1 a2 k
  obtain ⟨ih0, ih1⟩ := cordwainlaw2_CrcGoes.mono_l k
  unfold cordwainlaw2_CrcGoes.f
  repeat' first
      | (with_reducible exact ih0 _ _ _ _)
      | (with_reducible exact ih1 _ _ _)
      | (with_reducible exact cordwainlaw2_awake.mono _)
      | (with_reducible exact crc_More.mono _ _ _)
      | (with_reducible exact crc_Roller_Add.mono _ _ _)
      | (with_reducible exact crc_Sum.mono _ _)
      | (with_reducible exact LeO.refl _)
      | (with_reducible exact LeO.none _)
      | (with_reducible refine LeO.ite ?_ ?_)
      | (with_reducible refine LeO.bind ?_ (fun _ => ?_))
      | exact ih0 _ _ _ _
      | exact ih1 _ _ _
      | exact cordwainlaw2_awake.mono _
      | exact crc_More.mono _ _ _
      | exact crc_Roller_Add.mono _ _ _
      | exact crc_Sum.mono _ _
      | exact LeO.none _
      | refine LeO.ite ?_ ?_
      | refine LeO.bind ?_ (fun _ => ?_)
def cordwainlaw2_CrcGoes.T12 : Bool × List (List Nat × List Nat) := (true, [([], []), ([], []), ([1], [1]), ([], []), ([], []), ([4], [4]), ([3, 5], [3, 5]), ([6], [6]), ([], []), ([8], [8]), ([9], [9]), ([7, 10], [7, 10]), ([0, 2, 0, 1, 2, 3, 4, 5, 6, 7, 8, 9, 10, 11], [0, 2]), ([12, 11, 0, 1, 2, 3, 4, 5, 6, 7, 8, 9, 10, 11], [11, 12])])
def cordwainlaw2_CrcGoes.B12 : List Nat := [0, 0, 2, 0, 0, 16, 56, 120, 0, 256, 768, 2040, 4095, 8191]
theorem cordwainlaw2_CrcGoes.tab12 : rtab .any (opsOf Try.f9 12) = cordwainlaw2_CrcGoes.T12 := by kernel_rfl
theorem cordwainlaw2_CrcGoes.bits12 : waitsOk cordwainlaw2_CrcGoes.T12.2 cordwainlaw2_CrcGoes.B12 = true := by kernel_rfl
set_option maxHeartbeats 8000000 in
set_option maxRecDepth 100000 in
theorem cordwainlaw2_CrcGoes.calls (k : Nat) (P0_ : Nat → Prop) (A0 : Option Addr) (c0 : Nat) (l0 : List Int) (P1_ : Nat → Prop) (A1 : Option Addr) (c1 : Nat) (l1 : List Int) (a2 : Int) (r : Bool) (w : World) (hz0 : ∀ g_, w.heap.size ≤ g_ → ∀ ad, A0 = some ad → 0 < l0.length → ad.block ≠ g_) (hs0 : Kd.V (Kd.int .u8) 5 w w.heap.size (fun k_ => P0_ k_) (.slice A0 l0.length c0) l0) (hz1 : ∀ g_, w.heap.size ≤ g_ → ∀ ad, A1 = some ad → 0 < l1.length → ad.block ≠ g_) (hs1 : Kd.V (Kd.int .u8) 5 w w.heap.size (fun k_ => P1_ k_) (.slice A1 l1.length c1) l1) (hrt_ : r = true) (h : cordwainlaw2_CrcGoes.f k l0 l1 a2 = some r) :
    Calls Try.prog 9 #[.slice A0 l0.length c0, .slice A1 l1.length c1, .int .i64 a2] w fun e w' => e = .returned (.bool r) ∧ Below w.heap.size w w' := by
  have hu57 := Try.underlying57
  have HZ0 := Aside0.mk hz0
  clear hz0
  have HO0 := Aside0.mk (show Kd.V (Kd.int .u8) 5 w w.heap.size (fun k_ => ((P0_ k_ ∨ P1_ k_) ∨ w.heap.size ≤ k_)) (.slice A0 l0.length c0) l0 from Kd.V_mono hs0 (fun k_ hk => .inl (.inl hk)))
  have HZ1 := Aside0.mk hz1
  clear hz1
  have HO1 := Aside0.mk (show Kd.V (Kd.int .u8) 5 w w.heap.size (fun k_ => ((P0_ k_ ∨ P1_ k_) ∨ w.heap.size ≤ k_)) (.slice A1 l1.length c1) l1 from Kd.V_mono hs1 (fun k_ hk => .inl (.inr hk)))
  have HB := Aside0.mk (Below.refl w.heap.size w)
  have H : (if (l0.length : Int) > 1000 then (cordwainlaw2_CrcGoes.j0 k l0 l1 a2 true) else (cordwainlaw2_CrcGoes.j0 k l0 l1 a2 (decide ((l1.length : Int) > 1000)))) = some r := h
  clear h
  have HRT_ := Aside0.mk hrt_
  clear hrt_
  have HC4 := Aside0.mk H
  clear H
  go_enter Try.func9, Try.ntmps9
  go_upto_region 1 with (fail)
  go_cut [18] (fun v18 wc => ∃ (kq : Nat) (x18_3 : Bool), v18 = .bool x18_3 ∧ Aside0 (cordwainlaw2_CrcGoes.j0 kq l0 l1 a2 x18_3 = some r) ∧ Aside0 (kq ≤ k) ∧ Aside0 (Kd.V (Kd.int .u8) 5 wc w.heap.size (fun k_ => ((P0_ k_ ∨ P1_ k_) ∨ w.heap.size ≤ k_)) (.slice A0 l0.length c0) l0) ∧ Aside0 (Kd.V (Kd.int .u8) 5 wc w.heap.size (fun k_ => ((P0_ k_ ∨ P1_ k_) ∨ w.heap.size ≤ k_)) (.slice A1 l1.length c1) l1) ∧ Aside0 (Below w.heap.size w wc))
  case first =>
    have H := HC4.out
    clear HC4
    by_cases c5 : (l0.length : Int) > 1000
    · rw [if_pos c5] at H
      have c5b0 : decide (1000 < (l0.length : Int)) = true := decide_eq_true c5
      have c5b1 : decide (1000 < l0.length) = true := decide_eq_true (by omega)
      clear c5
      (first | rw [c5b0] | (simp only [i64_w, i32_w]; rw [c5b0]) | skip)
      have H' := Aside0.mk H
      clear H
      go_wp2
      go_meet
      case rel => exact ⟨_, (true), (by first | rfl | (simp; done) | (simp [*]; done)), H', ⟨by first | omega | exact Nat.le_refl _⟩, ⟨by (with_reducible repeat (first | apply Kd.V_alloc | apply Kd.V_drewN | apply Kd.V_drew)); exact HO0.out⟩, ⟨by (with_reducible repeat (first | apply Kd.V_alloc | apply Kd.V_drewN | apply Kd.V_drew)); exact HO1.out⟩, ⟨by repeat (first | (with_reducible first | exact HB.out | apply below_alloc | apply pw_below_drewN | apply below_drew1) | exact HB.out)⟩⟩
    · rw [if_neg c5] at H
      have c5b0 : decide (1000 < (l0.length : Int)) = false := decide_eq_false c5
      have c5b1 : decide (1000 < l0.length) = false := decide_eq_false (by omega)
      clear c5
      (first | rw [c5b0] | (simp only [i64_w, i32_w]; rw [c5b0]) | skip)
      have H' := Aside0.mk H
      clear H
      go_wp2
      go_meet
      case rel => exact ⟨_, (decide ((l1.length : Int) > 1000)), (by first | rfl | (simp; done) | (simp [*]; done)), H', ⟨by first | omega | exact Nat.le_refl _⟩, ⟨by (with_reducible repeat (first | apply Kd.V_alloc | apply Kd.V_drewN | apply Kd.V_drew)); exact HO0.out⟩, ⟨by (with_reducible repeat (first | apply Kd.V_alloc | apply Kd.V_drewN | apply Kd.V_drew)); exact HO1.out⟩, ⟨by repeat (first | (with_reducible first | exact HB.out | apply below_alloc | apply pw_below_drewN | apply below_drew1) | exact HB.out)⟩⟩
  case rest =>
    clear HC4
    try clear c1
    try clear p2
    try clear c5
    try clear c5b0
    try clear c5b1
    obtain ⟨kq, x18_3, rfl, HA, HJ3, HO_0, HO_1, HB⟩ := hcut
    cases kq with
    | zero => exact absurd HA.out (by simp [cordwainlaw2_CrcGoes.j0])
    | succ kj3 =>
      have H := HA.out
      clear HA
      simp only [cordwainlaw2_CrcGoes.j0] at H
      by_cases c6 : x18_3 = true
      · subst c6
        have H1 : ((cordwainlaw2_awake.f kj3).bind fun t115 => (some t115)) = some r := by rw [if_pos rfl] at H; exact H
        clear H
        have H := H1
        clear H1
        replace H := Option.bind_eq_some_iff.mp H
        obtain ⟨t115, A70, H⟩ := H
        replace H : (some t115) = some r := H
        have A7 := Aside0.mk A70
        clear A70
        obtain rfl := Option.some.inj H
        go_wp2_with (first | ((with_reducible refine gate_callee (f := 31) rfl ?_); refine goesL_ (some 19) rfl rfl Try.func31 (by kernel_rfl) rfl #[] rfl (by (try simp only [List.map_toArray, List.map_cons, List.map_nil]); first | done | rfl | (simp only [List.length_drop, List.length_take]; rfl)) ?_; (with_reducible refine (cordwainlaw2_awake.calls kj3  t115 _ A7.out).mono ?_); rintro e w8 ⟨rfl, hb⟩; refine ⟨_, rfl, ?_⟩; have n0_ := Aside0.mk (Kd.V_below (by (with_reducible repeat (first | apply Kd.V_alloc | apply Kd.V_drewN | apply Kd.V_drew)); exact HO_0.out) hb); have n1_ := Aside0.mk (Kd.V_below (by (with_reducible repeat (first | apply Kd.V_alloc | apply Kd.V_drewN | apply Kd.V_drew)); exact HO_1.out) hb); have n2_ := Aside0.mk (below_step (by repeat (first | (with_reducible first | exact HB.out | apply below_alloc | apply pw_below_drewN | apply below_drew1) | exact HB.out)) hb); clear HO_0; clear HO_1; clear HB; have HO_0 := n0_; have HO_1 := n1_; have HB := n2_; clear n0_ n1_ n2_; (try clear hb); (try clear hb2); (try clear hk); (try clear hi)))
        go_ret
        exact ⟨by first | rfl | (simp [errW_none, errW_some] <;> rfl) | (simp [*, errW_none, errW_some] <;> rfl), by repeat (first | (with_reducible first | exact HB.out | apply below_alloc | apply pw_below_drewN | apply below_drew1) | exact HB.out)⟩
      · replace c6 := Bool.eq_false_iff.mpr c6
        subst c6
        have H1 : ((crc_Roller_Add.f kj3 0 l0).bind fun t117 => ((crc_Roller_Sum.f t117).bind fun bt118 => ((crc_Roller_Add.f kj3 bt118.2 l1).bind fun t120 => ((crc_Sum.f kj3 (([l0] : List (List Int)))).bind fun t124 => (if bt118.1 = t124 then ((crc_Roller_Sum.f t120).bind fun bt125 => ((crc_Sum.f kj3 (([l0, l1] : List (List Int)))).bind fun t130 => (if bt125.1 = t130 then ((crc_More.f kj3 bt118.1 l1).bind fun t131 => ((crc_Roller_Sum.f bt125.2).bind fun bt132 => (cordwainlaw2_CrcGoes.j1 kj3 l0 a2 (t131 != bt132.1)))) else (cordwainlaw2_CrcGoes.j1 kj3 l0 a2 true)))) else (cordwainlaw2_CrcGoes.j1 kj3 l0 a2 true)))))) = some r := by rw [if_neg (show ¬ (false = true) by decide)] at H; exact H
        clear H
        have H := H1
        clear H1
        replace H := Option.bind_eq_some_iff.mp H
        obtain ⟨t117, A90, H⟩ := H
        replace H : ((crc_Roller_Sum.f t117).bind fun bt118 => ((crc_Roller_Add.f kj3 bt118.2 l1).bind fun t120 => ((crc_Sum.f kj3 (([l0] : List (List Int)))).bind fun t124 => (if bt118.1 = t124 then ((crc_Roller_Sum.f t120).bind fun bt125 => ((crc_Sum.f kj3 (([l0, l1] : List (List Int)))).bind fun t130 => (if bt125.1 = t130 then ((crc_More.f kj3 bt118.1 l1).bind fun t131 => ((crc_Roller_Sum.f bt125.2).bind fun bt132 => (cordwainlaw2_CrcGoes.j1 kj3 l0 a2 (t131 != bt132.1)))) else (cordwainlaw2_CrcGoes.j1 kj3 l0 a2 true)))) else (cordwainlaw2_CrcGoes.j1 kj3 l0 a2 true))))) = some r := H
        have A9 := Aside0.mk A90
        clear A90
        replace H := Option.bind_eq_some_iff.mp H
        obtain ⟨⟨t118, t119⟩, A100, H⟩ := H
        replace H : ((crc_Roller_Add.f kj3 t119 l1).bind fun t120 => ((crc_Sum.f kj3 (([l0] : List (List Int)))).bind fun t124 => (if t118 = t124 then ((crc_Roller_Sum.f t120).bind fun bt125 => ((crc_Sum.f kj3 (([l0, l1] : List (List Int)))).bind fun t130 => (if bt125.1 = t130 then ((crc_More.f kj3 t118 l1).bind fun t131 => ((crc_Roller_Sum.f bt125.2).bind fun bt132 => (cordwainlaw2_CrcGoes.j1 kj3 l0 a2 (t131 != bt132.1)))) else (cordwainlaw2_CrcGoes.j1 kj3 l0 a2 true)))) else (cordwainlaw2_CrcGoes.j1 kj3 l0 a2 true)))) = some r := H
        have A10 := Aside0.mk A100
        clear A100
        replace H := Option.bind_eq_some_iff.mp H
        obtain ⟨t120, A110, H⟩ := H
        replace H : ((crc_Sum.f kj3 (([l0] : List (List Int)))).bind fun t124 => (if t118 = t124 then ((crc_Roller_Sum.f t120).bind fun bt125 => ((crc_Sum.f kj3 (([l0, l1] : List (List Int)))).bind fun t130 => (if bt125.1 = t130 then ((crc_More.f kj3 t118 l1).bind fun t131 => ((crc_Roller_Sum.f bt125.2).bind fun bt132 => (cordwainlaw2_CrcGoes.j1 kj3 l0 a2 (t131 != bt132.1)))) else (cordwainlaw2_CrcGoes.j1 kj3 l0 a2 true)))) else (cordwainlaw2_CrcGoes.j1 kj3 l0 a2 true))) = some r := H
        have A11 := Aside0.mk A110
        clear A110
        have HC12 := Aside0.mk H
        clear H
        go_upto_region 7 with (first | ((with_reducible refine gate_dst (N := 7) rfl ?_); (try (refine gate_guard (by rfl) ?_; dsimp only)); refine box_event ?hg (N := 7) ?hd (cs := #[.int .u32 0]) (t := 57) ?hr ?_; (case hd => rfl); (case hg => rfl); (case hr => first | (go_simp; done) | (go_simp; rfl)); intro gb116 hg w13 hbox hb; have n0_ := Aside0.mk (Kd.V_below (Kd.V_elderB (by (with_reducible repeat (first | apply Kd.V_alloc | apply Kd.V_drewN | apply Kd.V_drew)); exact HO_0.out) gb116 (Nat.le_of_eq hg.symm)) hb); have n1_ := Aside0.mk (Kd.V_below (Kd.V_elderB (by (with_reducible repeat (first | apply Kd.V_alloc | apply Kd.V_drewN | apply Kd.V_drew)); exact HO_1.out) gb116 (Nat.le_of_eq hg.symm)) hb); have n2_ := Aside0.mk (below_step (by repeat (first | (with_reducible first | exact HB.out | apply below_alloc | apply pw_below_drewN | apply below_drew1) | exact HB.out)) hb); have n3_ := Aside0.mk ((show IsS57 w w13 gb116 0 from ⟨hbox, (by rw [hg]; exact (below_size (by repeat (first | (with_reducible first | exact HB.out | apply below_alloc | apply pw_below_drewN | apply below_drew1) | exact HB.out))) : w.heap.size ≤ gb116)⟩)); clear HO_0; clear HO_1; clear HB; have HO_0 := n0_; have HO_1 := n1_; have HB := n2_; have HI116 := n3_; clear n0_ n1_ n2_ n3_; clear hb hbox hg) | ((with_reducible refine gate_callee (f := 34) rfl ?_); refine goesL_ (some 21) rfl rfl Try.func34 (by kernel_rfl) rfl #[.pointer (some ⟨gb116, 0, none⟩), .slice A0 l0.length c0] rfl (by (try simp only [List.map_toArray, List.map_cons, List.map_nil]); first | done | rfl | (simp only [List.length_drop, List.length_take]; rfl)) ?_; (with_reducible refine (crc_Roller_Add.calls kj3 gb116 0 _ _ l0 t117 w _ ?side1 ?side2 ?side3 ?side4 ?side5 A9.out).mono ?_); (case side1 => repeat (first | (with_reducible first | exact HI116.out | apply IsS57.alloc | apply IsS57.drewN | apply IsS57.drew | apply IsS57.set_0) | exact HI116.out)); (case side2 => repeat (first | (with_reducible first | exact HB.out | apply below_alloc | apply pw_below_drewN | apply below_drew1 | refine below_set ?_ (IsS57.ge HI116.out)) | exact HB.out)); (case side3 => repeat (first | exact (Kd.V_reads' HO_0.out).2.2 | (with_reducible refine Kd.C_alloc ?_ _) | (with_reducible refine Kd.C_drewN ?_ _) | (with_reducible refine Kd.C_drew ?_))); (case side4 => exact (Kd.V_reads' HO_0.out).2.1); (case side5 => exact HZ0.out _ (IsS57.ge HI116.out)); rintro e w14 ⟨rfl, hi, hb, hk⟩; refine ⟨_, rfl, ?_⟩; have n0_ := Aside0.mk (Kd.V_mono (Kd.V_keep (Kd.V_mono (ok := fun k_ => ((((P0_ k_ ∨ P1_ k_) ∨ w.heap.size ≤ k_)) ∧ k_ ≠ gb116)) (by (with_reducible repeat (first | apply Kd.V_alloc | apply Kd.V_drewN | apply Kd.V_drew)); exact HO_0.out) (fun k_ hk_ => (⟨hk_, hk_.2⟩ : _ ∧ k_ ≠ gb116))) hk (fun _ h => h.2)) (fun _ h => h.1)); have n1_ := Aside0.mk (Kd.V_mono (Kd.V_keep (Kd.V_mono (ok := fun k_ => ((((P0_ k_ ∨ P1_ k_) ∨ w.heap.size ≤ k_)) ∧ k_ ≠ gb116)) (by (with_reducible repeat (first | apply Kd.V_alloc | apply Kd.V_drewN | apply Kd.V_drew)); exact HO_1.out) (fun k_ hk_ => (⟨hk_, hk_.2⟩ : _ ∧ k_ ≠ gb116))) hk (fun _ h => h.2)) (fun _ h => h.1)); have n2_ := Aside0.mk (hb); have n3_ := Aside0.mk (hi); clear HO_0; clear HO_1; clear HB; clear HI116; have HO_0 := n0_; have HO_1 := n1_; have HB := n2_; have HI116 := n3_; clear n0_ n1_ n2_ n3_; (try clear hb); (try clear hb2); (try clear hk); (try clear hi)) | ((with_reducible refine gate_callee (f := 36) rfl ?_); refine goesL_ (some 22) rfl rfl Try.func36 (by kernel_rfl) rfl #[.pointer (some ⟨gb116, 0, none⟩)] rfl (by (try simp only [List.map_toArray, List.map_cons, List.map_nil]); first | done | rfl | (simp only [List.length_drop, List.length_take]; rfl)) ?_; (with_reducible refine (crc_Roller_Sum.calls gb116 t117 t118 t119 w _ ?side1 ?side2 A10.out).mono ?_); (case side1 => repeat (first | (with_reducible first | exact HI116.out | apply IsS57.alloc | apply IsS57.drewN | apply IsS57.drew | apply IsS57.set_0) | exact HI116.out)); (case side2 => repeat (first | (with_reducible first | exact HB.out | apply below_alloc | apply pw_below_drewN | apply below_drew1 | refine below_set ?_ (IsS57.ge HI116.out)) | exact HB.out)); rintro e w15 ⟨rfl, hi, hb, hk⟩; refine ⟨_, rfl, ?_⟩; have n0_ := Aside0.mk (Kd.V_mono (Kd.V_keep (Kd.V_mono (ok := fun k_ => ((((P0_ k_ ∨ P1_ k_) ∨ w.heap.size ≤ k_)) ∧ k_ ≠ gb116)) (by (with_reducible repeat (first | apply Kd.V_alloc | apply Kd.V_drewN | apply Kd.V_drew)); exact HO_0.out) (fun k_ hk_ => (⟨hk_, hk_.2⟩ : _ ∧ k_ ≠ gb116))) hk (fun _ h => h.2)) (fun _ h => h.1)); have n1_ := Aside0.mk (Kd.V_mono (Kd.V_keep (Kd.V_mono (ok := fun k_ => ((((P0_ k_ ∨ P1_ k_) ∨ w.heap.size ≤ k_)) ∧ k_ ≠ gb116)) (by (with_reducible repeat (first | apply Kd.V_alloc | apply Kd.V_drewN | apply Kd.V_drew)); exact HO_1.out) (fun k_ hk_ => (⟨hk_, hk_.2⟩ : _ ∧ k_ ≠ gb116))) hk (fun _ h => h.2)) (fun _ h => h.1)); have n2_ := Aside0.mk (hb); have n3_ := Aside0.mk (hi); clear HO_0; clear HO_1; clear HB; clear HI116; have HO_0 := n0_; have HO_1 := n1_; have HB := n2_; have HI116 := n3_; clear n0_ n1_ n2_ n3_; (try clear hb); (try clear hb2); (try clear hk); (try clear hi)) | ((with_reducible refine gate_callee (f := 34) rfl ?_); refine goesL_ (some 24) rfl rfl Try.func34 (by kernel_rfl) rfl #[.pointer (some ⟨gb116, 0, none⟩), .slice A1 l1.length c1] rfl (by (try simp only [List.map_toArray, List.map_cons, List.map_nil]); first | done | rfl | (simp only [List.length_drop, List.length_take]; rfl)) ?_; (with_reducible refine (crc_Roller_Add.calls kj3 gb116 t119 _ _ l1 t120 w _ ?side1 ?side2 ?side3 ?side4 ?side5 A11.out).mono ?_); (case side1 => repeat (first | (with_reducible first | exact HI116.out | apply IsS57.alloc | apply IsS57.drewN | apply IsS57.drew | apply IsS57.set_0) | exact HI116.out)); (case side2 => repeat (first | (with_reducible first | exact HB.out | apply below_alloc | apply pw_below_drewN | apply below_drew1 | refine below_set ?_ (IsS57.ge HI116.out)) | exact HB.out)); (case side3 => repeat (first | exact (Kd.V_reads' HO_1.out).2.2 | (with_reducible refine Kd.C_alloc ?_ _) | (with_reducible refine Kd.C_drewN ?_ _) | (with_reducible refine Kd.C_drew ?_))); (case side4 => exact (Kd.V_reads' HO_1.out).2.1); (case side5 => exact HZ1.out _ (IsS57.ge HI116.out)); rintro e w16 ⟨rfl, hi, hb, hk⟩; refine ⟨_, rfl, ?_⟩; have n0_ := Aside0.mk (Kd.V_mono (Kd.V_keep (Kd.V_mono (ok := fun k_ => ((((P0_ k_ ∨ P1_ k_) ∨ w.heap.size ≤ k_)) ∧ k_ ≠ gb116)) (by (with_reducible repeat (first | apply Kd.V_alloc | apply Kd.V_drewN | apply Kd.V_drew)); exact HO_0.out) (fun k_ hk_ => (⟨hk_, hk_.2⟩ : _ ∧ k_ ≠ gb116))) hk (fun _ h => h.2)) (fun _ h => h.1)); have n1_ := Aside0.mk (Kd.V_mono (Kd.V_keep (Kd.V_mono (ok := fun k_ => ((((P0_ k_ ∨ P1_ k_) ∨ w.heap.size ≤ k_)) ∧ k_ ≠ gb116)) (by (with_reducible repeat (first | apply Kd.V_alloc | apply Kd.V_drewN | apply Kd.V_drew)); exact HO_1.out) (fun k_ hk_ => (⟨hk_, hk_.2⟩ : _ ∧ k_ ≠ gb116))) hk (fun _ h => h.2)) (fun _ h => h.1)); have n2_ := Aside0.mk (hb); have n3_ := Aside0.mk (hi); clear HO_0; clear HO_1; clear HB; clear HI116; have HO_0 := n0_; have HO_1 := n1_; have HB := n2_; have HI116 := n3_; clear n0_ n1_ n2_ n3_; (try clear hb); (try clear hb2); (try clear hk); (try clear hi)))
        (try simp only [Act.put, List.setIfInBounds_toArray, List.set_cons_zero, List.set_cons_succ])
        go_cut [44] (fun v44 wc => ∃ (kq : Nat) (x44_11 : Bool), v44 = .bool x44_11 ∧ Aside0 (cordwainlaw2_CrcGoes.j1 kq l0 a2 x44_11 = some r) ∧ Aside0 (kq ≤ kj3) ∧ Aside0 (Kd.V (Kd.int .u8) 5 wc w.heap.size (fun k_ => ((P0_ k_ ∨ P1_ k_) ∨ w.heap.size ≤ k_)) (.slice A0 l0.length c0) l0) ∧ Aside0 (Below w.heap.size w wc))
        case first =>
          have H := HC12.out
          clear HC12
          obtain ⟨y121, hy121⟩ : ∃ y_ : List (List Int), y_ = (([l0] : List (List Int))) := ⟨_, rfl⟩
          replace H : ((crc_Sum.f kj3 y121).bind fun t124 => (if t118 = t124 then ((crc_Roller_Sum.f t120).bind fun bt125 => ((crc_Sum.f kj3 (([l0, l1] : List (List Int)))).bind fun t130 => (if bt125.1 = t130 then ((crc_More.f kj3 t118 l1).bind fun t131 => ((crc_Roller_Sum.f bt125.2).bind fun bt132 => (cordwainlaw2_CrcGoes.j1 kj3 l0 a2 (t131 != bt132.1)))) else (cordwainlaw2_CrcGoes.j1 kj3 l0 a2 true)))) else (cordwainlaw2_CrcGoes.j1 kj3 l0 a2 true))) = some r := by first | (rw [hy121]; with_reducible exact H) | (have H2_ := (Option.bind_some _ _).symm.trans H; rw [hy121]; with_reducible exact H2_) | (have H2_ := (Option.bind_some _ _).symm.trans H; with_reducible exact H2_) | with_reducible exact H | (rw [hy121]; exact H) | exact H
          have Ny121 := Aside0.mk hy121
          clear hy121
          replace H := Option.bind_eq_some_iff.mp H
          obtain ⟨t124, A170, H⟩ := H
          replace H : (if t118 = t124 then ((crc_Roller_Sum.f t120).bind fun bt125 => ((crc_Sum.f kj3 (([l0, l1] : List (List Int)))).bind fun t130 => (if bt125.1 = t130 then ((crc_More.f kj3 t118 l1).bind fun t131 => ((crc_Roller_Sum.f bt125.2).bind fun bt132 => (cordwainlaw2_CrcGoes.j1 kj3 l0 a2 (t131 != bt132.1)))) else (cordwainlaw2_CrcGoes.j1 kj3 l0 a2 true)))) else (cordwainlaw2_CrcGoes.j1 kj3 l0 a2 true)) = some r := H
          have A17 := Aside0.mk A170
          clear A170
          by_cases c18 : t118 = t124
          · rw [if_pos c18] at H
            have c18b0 : (t118 == t124) = true := beq_iff_eq.mpr c18
            have c18b1 : (t118 != t124) = false := bne_eq_false_iff_eq.mpr c18
            clear c18
            (first | rw [c18b0] | (simp only [i64_w, i32_w]; rw [c18b0]) | skip)
            replace H := Option.bind_eq_some_iff.mp H
            obtain ⟨⟨t125, t126⟩, A190, H⟩ := H
            replace H : ((crc_Sum.f kj3 (([l0, l1] : List (List Int)))).bind fun t130 => (if t125 = t130 then ((crc_More.f kj3 t118 l1).bind fun t131 => ((crc_Roller_Sum.f t126).bind fun bt132 => (cordwainlaw2_CrcGoes.j1 kj3 l0 a2 (t131 != bt132.1)))) else (cordwainlaw2_CrcGoes.j1 kj3 l0 a2 true))) = some r := H
            have A19 := Aside0.mk A190
            clear A190
            obtain ⟨y127, hy127⟩ : ∃ y_ : List (List Int), y_ = (([l0, l1] : List (List Int))) := ⟨_, rfl⟩
            replace H : ((crc_Sum.f kj3 y127).bind fun t130 => (if t125 = t130 then ((crc_More.f kj3 t118 l1).bind fun t131 => ((crc_Roller_Sum.f t126).bind fun bt132 => (cordwainlaw2_CrcGoes.j1 kj3 l0 a2 (t131 != bt132.1)))) else (cordwainlaw2_CrcGoes.j1 kj3 l0 a2 true))) = some r := by first | (rw [hy127]; with_reducible exact H) | (have H2_ := (Option.bind_some _ _).symm.trans H; rw [hy127]; with_reducible exact H2_) | (have H2_ := (Option.bind_some _ _).symm.trans H; with_reducible exact H2_) | with_reducible exact H | (rw [hy127]; exact H) | exact H
            have Ny127 := Aside0.mk hy127
            clear hy127
            replace H := Option.bind_eq_some_iff.mp H
            obtain ⟨t130, A200, H⟩ := H
            replace H : (if t125 = t130 then ((crc_More.f kj3 t118 l1).bind fun t131 => ((crc_Roller_Sum.f t126).bind fun bt132 => (cordwainlaw2_CrcGoes.j1 kj3 l0 a2 (t131 != bt132.1)))) else (cordwainlaw2_CrcGoes.j1 kj3 l0 a2 true)) = some r := H
            have A20 := Aside0.mk A200
            clear A200
            by_cases c21 : t125 = t130
            · rw [if_pos c21] at H
              have c21b0 : (t125 == t130) = true := beq_iff_eq.mpr c21
              have c21b1 : (t125 != t130) = false := bne_eq_false_iff_eq.mpr c21
              clear c21
              replace H := Option.bind_eq_some_iff.mp H
              obtain ⟨t131, A220, H⟩ := H
              replace H : ((crc_Roller_Sum.f t126).bind fun bt132 => (cordwainlaw2_CrcGoes.j1 kj3 l0 a2 (t131 != bt132.1))) = some r := H
              have A22 := Aside0.mk A220
              clear A220
              replace H := Option.bind_eq_some_iff.mp H
              obtain ⟨⟨t132, t133⟩, A230, H⟩ := H
              replace H : (cordwainlaw2_CrcGoes.j1 kj3 l0 a2 (t131 != t132)) = some r := H
              have A23 := Aside0.mk A230
              clear A230
              have H' := Aside0.mk H
              clear H
              go_wp2_with (first | ((with_reducible refine gate_dst (N := 27) rfl ?_); (try (refine gate_guard (by rfl) ?_; dsimp only)); refine Kd.N_lit (Kd.slice 5 (Kd.int .u8)) _ 23 ?hg (N' := 27) ?hd (xs := ([l0] : List (List Int))) (inner := [.slice A0 l0.length c0]) (ok := (fun k_ => ((P0_ k_ ∨ P1_ k_) ∨ w.heap.size ≤ k_) ∧ k_ ≠ gb116)) (okp := (fun k_ => ((P0_ k_ ∨ P1_ k_) ∨ w.heap.size ≤ k_) ∧ k_ ≠ gb116)) ?hr ?hp (fun _ hk => hk) ((show ∀ k_, w16.heap.size ≤ k_ → (fun k_ => ((P0_ k_ ∨ P1_ k_) ∨ w.heap.size ≤ k_) ∧ k_ ≠ gb116) k_ from fun k_ hk => ⟨(.inr (Nat.le_trans (below_size (by repeat (first | (with_reducible first | exact HB.out | apply below_alloc | apply pw_below_drewN | apply below_drew1 | refine below_set ?_ (IsS57.ge HI116.out)) | exact HB.out))) hk)), IsS57.fresh (by repeat (first | (with_reducible first | exact HI116.out | apply IsS57.alloc | apply IsS57.drewN | apply IsS57.drew | apply IsS57.set_0) | exact HI116.out)) k_ hk⟩) _ (Nat.le_refl _)) (Below.refl _ _) (Nat.le_refl _) (by simp) ?_; (case hd => rfl); (case hg => rfl); (case hr => first | (go_simp; done) | (go_simp; rfl)); (case hp => exact (Reps.one (show Kd.FK (Kd.slice 5 (Kd.int .u8)) _ _ l0 [.slice A0 l0.length c0] from (Go.Proofs.Ytakodondlmiklaa.PrintConst.Kd.FK_slice_len (Kd.V_reads' (Kd.V_mono (ok' := (fun k_ => ((P0_ k_ ∨ P1_ k_) ∨ w.heap.size ≤ k_) ∧ k_ ≠ gb116)) (HO_0.out) (fun k_ hk => ⟨hk.1, hk.2⟩))).2.1 (Kd.V_F (Kd.V_mono (ok' := (fun k_ => ((P0_ k_ ∨ P1_ k_) ∨ w.heap.size ≤ k_) ∧ k_ ≠ gb116)) (HO_0.out) (fun k_ hk => ⟨hk.1, hk.2⟩))))) (Reps.none _ _))); intro v122 w24 ho25 hb hg_ hnew_; clear hg_ hnew_; (first | rw [← Ny121.out] at ho25 | (simp only [Int.reduceToNat] at ho25; rw [← Ny121.out] at ho25)); have n0_ := Aside0.mk (Kd.V_elder' (by (with_reducible repeat (first | apply Kd.V_alloc | apply Kd.V_drewN | apply Kd.V_drew)); exact HO_0.out) (Kd.N_base ho25) hb); have n1_ := Aside0.mk (Kd.V_elder' (by (with_reducible repeat (first | apply Kd.V_alloc | apply Kd.V_drewN | apply Kd.V_drew)); exact HO_1.out) (Kd.N_base ho25) hb); have n2_ := Aside0.mk (Kd.N_lower ho25 (below_size (by repeat (first | (with_reducible first | exact HB.out | apply below_alloc | apply pw_below_drewN | apply below_drew1 | refine below_set ?_ (IsS57.ge HI116.out)) | exact HB.out)))); have n3_ := Aside0.mk (IsS57.below (by repeat (first | (with_reducible first | exact HI116.out | apply IsS57.alloc | apply IsS57.drewN | apply IsS57.drew | apply IsS57.set_0) | exact HI116.out)) hb); have n4_ := Aside0.mk (below_step (by repeat (first | (with_reducible first | exact HB.out | apply below_alloc | apply pw_below_drewN | apply below_drew1 | refine below_set ?_ (IsS57.ge HI116.out)) | exact HB.out)) hb); clear HO_0; clear HO_1; clear HI116; clear HB; have HO_0 := n0_; have HO_1 := n1_; have HO123 := n2_; have HI116 := n3_; have HB := n4_; clear n0_ n1_ n2_ n3_ n4_; clear hb ho25; obtain ⟨Ao26, co26, eo26⟩ := Kd.N_slice HO123.out; subst eo26) | ((with_reducible refine gate_callee (f := 32) rfl ?_); refine goesL_ (some 28) rfl rfl Try.func32 (by kernel_rfl) rfl #[.slice Ao26 y121.length co26] rfl (by (try simp only [List.map_toArray, List.map_cons, List.map_nil]); first | done | rfl | (simp only [List.length_drop, List.length_take]; rfl)) ?_; (with_reducible refine (crc_Sum.calls kj3 _ _ y121 t124 _ ?side1 ?side2 A17.out).mono ?_); (case side1 => repeat (first | exact (Kd.N_reads' HO123.out).2.2 | (with_reducible refine Kd.C_alloc ?_ _) | (with_reducible refine Kd.C_drewN ?_ _) | (with_reducible refine Kd.C_drew ?_))); (case side2 => exact (Kd.N_reads' HO123.out).2.1); rintro e w' ⟨rfl, ⟨nd, rfl⟩⟩; refine ⟨_, rfl, ?_⟩; (try (rw [drewN_self w24]; generalize hq_ : World.drewN w24 _ = w24; have n0_ : Aside0 (Kd.N (Kd.slice 5 (Kd.int .u8)) 23 w24 w.heap.size (fun k_ => ((((P0_ k_ ∨ P1_ k_) ∨ w.heap.size ≤ k_)) ∧ k_ ≠ gb116)) (.slice Ao26 y121.length co26) y121) := ⟨by rw [← hq_]; exact (by (with_reducible repeat (first | apply Kd.N_alloc | apply Kd.N_drewN | apply Kd.N_drew)); exact HO123.out)⟩; have n1_ : Aside0 (Kd.V (Kd.int .u8) 5 w24 w.heap.size (fun k_ => (((((P0_ k_ ∨ P1_ k_) ∨ w.heap.size ≤ k_)) ∧ k_ ≠ gb116) ∧ some k_ ≠ (.slice Ao26 y121.length co26 : Value).ownBlock)) (.slice A0 l0.length c0) l0) := ⟨by rw [← hq_]; exact (by (with_reducible repeat (first | apply Kd.V_alloc | apply Kd.V_drewN | apply Kd.V_drew)); exact HO_0.out)⟩; have n2_ : Aside0 (Kd.V (Kd.int .u8) 5 w24 w.heap.size (fun k_ => (((((P0_ k_ ∨ P1_ k_) ∨ w.heap.size ≤ k_)) ∧ k_ ≠ gb116) ∧ some k_ ≠ (.slice Ao26 y121.length co26 : Value).ownBlock)) (.slice A1 l1.length c1) l1) := ⟨by rw [← hq_]; exact (by (with_reducible repeat (first | apply Kd.V_alloc | apply Kd.V_drewN | apply Kd.V_drew)); exact HO_1.out)⟩; have n3_ : Aside0 (IsS57 w w24 gb116 t120) := ⟨by rw [← hq_]; exact (by repeat (first | (with_reducible first | exact HI116.out | apply IsS57.alloc | apply IsS57.drewN | apply IsS57.drew | apply IsS57.set_0) | exact HI116.out))⟩; have n4_ : Aside0 (Below w.heap.size w w24) := ⟨by rw [← hq_]; exact (by repeat (first | (with_reducible first | exact HB.out | apply below_alloc | apply pw_below_drewN | apply below_drew1 | refine below_set ?_ (IsS57.ge HI116.out)) | exact HB.out))⟩; clear HO123 HO_0 HO_1 HI116 HB hq_; have HO123 := n0_; have HO_0 := n1_; have HO_1 := n2_; have HI116 := n3_; have HB := n4_; clear n0_ n1_ n2_ n3_ n4_))) | (go_at_call 36; (with_reducible refine (crc_Roller_Sum.calls gb116 t120 t125 t126 w _ ?side1 ?side2 A19.out).mono ?_); (case side1 => repeat (first | (with_reducible first | exact HI116.out | apply IsS57.alloc | apply IsS57.drewN | apply IsS57.drew | apply IsS57.set_0) | exact HI116.out)); (case side2 => repeat (first | (with_reducible first | exact HB.out | apply below_alloc | apply pw_below_drewN | apply below_drew1 | refine below_set ?_ (IsS57.ge HI116.out)) | exact HB.out)); rintro e w27 ⟨rfl, hi, hb, hk⟩; have n0_ := Aside0.mk (Kd.V_mono (Kd.V_keep (Kd.V_mono (ok := fun k_ => (((((P0_ k_ ∨ P1_ k_) ∨ w.heap.size ≤ k_)) ∧ k_ ≠ gb116) ∧ some k_ ≠ (.slice Ao26 y121.length co26 : Value).ownBlock)) (by (with_reducible repeat (first | apply Kd.V_alloc | apply Kd.V_drewN | apply Kd.V_drew)); exact HO_0.out) (fun k_ hk_ => (⟨hk_, hk_.1.2⟩ : _ ∧ k_ ≠ gb116))) hk (fun _ h => h.2)) (fun _ h => h.1)); have n1_ := Aside0.mk (Kd.V_mono (Kd.V_keep (Kd.V_mono (ok := fun k_ => (((((P0_ k_ ∨ P1_ k_) ∨ w.heap.size ≤ k_)) ∧ k_ ≠ gb116) ∧ some k_ ≠ (.slice Ao26 y121.length co26 : Value).ownBlock)) (by (with_reducible repeat (first | apply Kd.V_alloc | apply Kd.V_drewN | apply Kd.V_drew)); exact HO_1.out) (fun k_ hk_ => (⟨hk_, hk_.1.2⟩ : _ ∧ k_ ≠ gb116))) hk (fun _ h => h.2)) (fun _ h => h.1)); have n2_ := Aside0.mk (Kd.N_mono (Kd.N_keep (Kd.N_mono (ok := fun k_ => ((((P0_ k_ ∨ P1_ k_) ∨ w.heap.size ≤ k_)) ∧ k_ ≠ gb116)) (by (with_reducible repeat (first | apply Kd.N_alloc | apply Kd.N_drewN | apply Kd.N_drew)); exact HO123.out) (fun k_ hk_ => (⟨hk_, hk_.2⟩ : _ ∧ k_ ≠ gb116))) hk (fun _ h => h.2)) (fun _ h => h.1)); have n3_ := Aside0.mk (hb); have n4_ := Aside0.mk (hi); clear HO_0; clear HO_1; clear HO123; clear HB; clear HI116; have HO_0 := n0_; have HO_1 := n1_; have HO123 := n2_; have HB := n3_; have HI116 := n4_; clear n0_ n1_ n2_ n3_ n4_; (try clear hb); (try clear hb2); (try clear hk); (try clear hi)) | ((with_reducible refine gate_dst (N := 34) rfl ?_); (try (refine gate_guard (by rfl) ?_; dsimp only)); refine Kd.N_lit (Kd.slice 5 (Kd.int .u8)) _ 23 ?hg (N' := 34) ?hd (xs := ([l0, l1] : List (List Int))) (inner := [.slice A0 l0.length c0, .slice A1 l1.length c1]) (ok := (fun k_ => ((P0_ k_ ∨ P1_ k_) ∨ w.heap.size ≤ k_) ∧ some k_ ≠ (.slice Ao26 y121.length co26 : Value).ownBlock ∧ k_ ≠ gb116)) (okp := (fun k_ => ((P0_ k_ ∨ P1_ k_) ∨ w.heap.size ≤ k_) ∧ some k_ ≠ (.slice Ao26 y121.length co26 : Value).ownBlock ∧ k_ ≠ gb116)) ?hr ?hp (fun _ hk => hk) ((show ∀ k_, w27.heap.size ≤ k_ → (fun k_ => ((P0_ k_ ∨ P1_ k_) ∨ w.heap.size ≤ k_) ∧ some k_ ≠ (.slice Ao26 y121.length co26 : Value).ownBlock ∧ k_ ≠ gb116) k_ from fun k_ hk => ⟨(.inr (Nat.le_trans (below_size (by repeat (first | (with_reducible first | exact HB.out | apply below_alloc | apply pw_below_drewN | apply below_drew1 | refine below_set ?_ (IsS57.ge HI116.out)) | exact HB.out))) hk)), Kd.fresh' (Kd.N_lt (by (with_reducible repeat (first | apply Kd.N_alloc | apply Kd.N_drewN | apply Kd.N_drew)); exact HO123.out)) k_ hk, IsS57.fresh (by repeat (first | (with_reducible first | exact HI116.out | apply IsS57.alloc | apply IsS57.drewN | apply IsS57.drew | apply IsS57.set_0) | exact HI116.out)) k_ hk⟩) _ (Nat.le_refl _)) (Below.refl _ _) (Nat.le_refl _) (by simp) ?_; (case hd => rfl); (case hg => rfl); (case hr => first | (go_simp; done) | (go_simp; rfl)); (case hp => exact (Reps.one (show Kd.FK (Kd.slice 5 (Kd.int .u8)) _ _ l0 [.slice A0 l0.length c0] from (Go.Proofs.Ytakodondlmiklaa.PrintConst.Kd.FK_slice_len (Kd.V_reads' (Kd.V_mono (ok' := (fun k_ => ((P0_ k_ ∨ P1_ k_) ∨ w.heap.size ≤ k_) ∧ some k_ ≠ (.slice Ao26 y121.length co26 : Value).ownBlock ∧ k_ ≠ gb116)) (HO_0.out) (fun k_ hk => ⟨hk.1.1, ⟨hk.2, hk.1.2⟩⟩))).2.1 (Kd.V_F (Kd.V_mono (ok' := (fun k_ => ((P0_ k_ ∨ P1_ k_) ∨ w.heap.size ≤ k_) ∧ some k_ ≠ (.slice Ao26 y121.length co26 : Value).ownBlock ∧ k_ ≠ gb116)) (HO_0.out) (fun k_ hk => ⟨hk.1.1, ⟨hk.2, hk.1.2⟩⟩))))) (Reps.one (show Kd.FK (Kd.slice 5 (Kd.int .u8)) _ _ l1 [.slice A1 l1.length c1] from (Go.Proofs.Ytakodondlmiklaa.PrintConst.Kd.FK_slice_len (Kd.V_reads' (Kd.V_mono (ok' := (fun k_ => ((P0_ k_ ∨ P1_ k_) ∨ w.heap.size ≤ k_) ∧ some k_ ≠ (.slice Ao26 y121.length co26 : Value).ownBlock ∧ k_ ≠ gb116)) (HO_1.out) (fun k_ hk => ⟨hk.1.1, ⟨hk.2, hk.1.2⟩⟩))).2.1 (Kd.V_F (Kd.V_mono (ok' := (fun k_ => ((P0_ k_ ∨ P1_ k_) ∨ w.heap.size ≤ k_) ∧ some k_ ≠ (.slice Ao26 y121.length co26 : Value).ownBlock ∧ k_ ≠ gb116)) (HO_1.out) (fun k_ hk => ⟨hk.1.1, ⟨hk.2, hk.1.2⟩⟩))))) (Reps.none _ _)))); intro v128 w28 ho29 hb hg_ hnew_; clear hg_ hnew_; (first | rw [← Ny127.out] at ho29 | (simp only [Int.reduceToNat] at ho29; rw [← Ny127.out] at ho29)); have n0_ := Aside0.mk (Kd.V_elder' (by (with_reducible repeat (first | apply Kd.V_alloc | apply Kd.V_drewN | apply Kd.V_drew)); exact HO_0.out) (Kd.N_base ho29) hb); have n1_ := Aside0.mk (Kd.V_elder' (by (with_reducible repeat (first | apply Kd.V_alloc | apply Kd.V_drewN | apply Kd.V_drew)); exact HO_1.out) (Kd.N_base ho29) hb); have n2_ := Aside0.mk (Kd.N_elder' (by (with_reducible repeat (first | apply Kd.N_alloc | apply Kd.N_drewN | apply Kd.N_drew)); exact HO123.out) (Kd.N_base ho29) hb); have n3_ := Aside0.mk (Kd.N_lower ho29 (below_size (by repeat (first | (with_reducible first | exact HB.out | apply below_alloc | apply pw_below_drewN | apply below_drew1 | refine below_set ?_ (IsS57.ge HI116.out)) | exact HB.out)))); have n4_ := Aside0.mk (IsS57.below (by repeat (first | (with_reducible first | exact HI116.out | apply IsS57.alloc | apply IsS57.drewN | apply IsS57.drew | apply IsS57.set_0) | exact HI116.out)) hb); have n5_ := Aside0.mk (below_step (by repeat (first | (with_reducible first | exact HB.out | apply below_alloc | apply pw_below_drewN | apply below_drew1 | refine below_set ?_ (IsS57.ge HI116.out)) | exact HB.out)) hb); clear HO_0; clear HO_1; clear HO123; clear HI116; clear HB; have HO_0 := n0_; have HO_1 := n1_; have HO123 := n2_; have HO129 := n3_; have HI116 := n4_; have HB := n5_; clear n0_ n1_ n2_ n3_ n4_ n5_; clear hb ho29; obtain ⟨Ao30, co30, eo30⟩ := Kd.N_slice HO129.out; subst eo30) | (go_at_call 32; (with_reducible refine (crc_Sum.calls kj3 _ _ y127 t130 _ ?side1 ?side2 A20.out).mono ?_); (case side1 => repeat (first | exact (Kd.N_reads' HO129.out).2.2 | (with_reducible refine Kd.C_alloc ?_ _) | (with_reducible refine Kd.C_drewN ?_ _) | (with_reducible refine Kd.C_drew ?_))); (case side2 => exact (Kd.N_reads' HO129.out).2.1); rintro e w' ⟨rfl, ⟨nd, rfl⟩⟩) | (go_at_call 33; (with_reducible refine (crc_More.calls kj3 t118 _ _ l1 t131 _ ?side1 ?side2 A22.out).mono ?_); (case side1 => repeat (first | exact (Kd.V_reads' HO_1.out).2.2 | (with_reducible refine Kd.C_alloc ?_ _) | (with_reducible refine Kd.C_drewN ?_ _) | (with_reducible refine Kd.C_drew ?_))); (case side2 => exact (Kd.V_reads' HO_1.out).2.1); rintro e w' ⟨rfl, ⟨nd, rfl⟩⟩) | (go_at_call 36; (with_reducible refine (crc_Roller_Sum.calls gb116 t126 t132 t133 w _ ?side1 ?side2 A23.out).mono ?_); (case side1 => repeat (first | (with_reducible first | exact HI116.out | apply IsS57.alloc | apply IsS57.drewN | apply IsS57.drew | apply IsS57.set_0) | exact HI116.out)); (case side2 => repeat (first | (with_reducible first | exact HB.out | apply below_alloc | apply pw_below_drewN | apply below_drew1 | refine below_set ?_ (IsS57.ge HI116.out)) | exact HB.out)); rintro e w31 ⟨rfl, hi, hb, hk⟩; have n0_ := Aside0.mk (Kd.V_mono (Kd.V_keep (Kd.V_mono (ok := fun k_ => ((((((P0_ k_ ∨ P1_ k_) ∨ w.heap.size ≤ k_)) ∧ k_ ≠ gb116) ∧ some k_ ≠ (.slice Ao26 y121.length co26 : Value).ownBlock) ∧ some k_ ≠ (.slice Ao30 y127.length co30 : Value).ownBlock)) (by (with_reducible repeat (first | apply Kd.V_alloc | apply Kd.V_drewN | apply Kd.V_drew)); exact HO_0.out) (fun k_ hk_ => (⟨hk_, hk_.1.1.2⟩ : _ ∧ k_ ≠ gb116))) hk (fun _ h => h.2)) (fun _ h => h.1)); have n1_ := Aside0.mk (Kd.V_mono (Kd.V_keep (Kd.V_mono (ok := fun k_ => ((((((P0_ k_ ∨ P1_ k_) ∨ w.heap.size ≤ k_)) ∧ k_ ≠ gb116) ∧ some k_ ≠ (.slice Ao26 y121.length co26 : Value).ownBlock) ∧ some k_ ≠ (.slice Ao30 y127.length co30 : Value).ownBlock)) (by (with_reducible repeat (first | apply Kd.V_alloc | apply Kd.V_drewN | apply Kd.V_drew)); exact HO_1.out) (fun k_ hk_ => (⟨hk_, hk_.1.1.2⟩ : _ ∧ k_ ≠ gb116))) hk (fun _ h => h.2)) (fun _ h => h.1)); have n2_ := Aside0.mk (Kd.N_mono (Kd.N_keep (Kd.N_mono (ok := fun k_ => (((((P0_ k_ ∨ P1_ k_) ∨ w.heap.size ≤ k_)) ∧ k_ ≠ gb116) ∧ some k_ ≠ (.slice Ao30 y127.length co30 : Value).ownBlock)) (by (with_reducible repeat (first | apply Kd.N_alloc | apply Kd.N_drewN | apply Kd.N_drew)); exact HO123.out) (fun k_ hk_ => (⟨hk_, hk_.1.2⟩ : _ ∧ k_ ≠ gb116))) hk (fun _ h => h.2)) (fun _ h => h.1)); have n3_ := Aside0.mk (Kd.N_mono (Kd.N_keep (Kd.N_mono (ok := fun k_ => ((((P0_ k_ ∨ P1_ k_) ∨ w.heap.size ≤ k_)) ∧ (some k_ ≠ (.slice Ao26 y121.length co26 : Value).ownBlock ∧ k_ ≠ gb116))) (by (with_reducible repeat (first | apply Kd.N_alloc | apply Kd.N_drewN | apply Kd.N_drew)); exact HO129.out) (fun k_ hk_ => (⟨hk_, hk_.2.2⟩ : _ ∧ k_ ≠ gb116))) hk (fun _ h => h.2)) (fun _ h => h.1)); have n4_ := Aside0.mk (hb); have n5_ := Aside0.mk (hi); clear HO_0; clear HO_1; clear HO123; clear HO129; clear HB; clear HI116; have HO_0 := n0_; have HO_1 := n1_; have HO123 := n2_; have HO129 := n3_; have HB := n4_; have HI116 := n5_; clear n0_ n1_ n2_ n3_ n4_ n5_; (try clear hb); (try clear hb2); (try clear hk); (try clear hi)))
              go_meet
              case rel => exact ⟨_, ((t131 != t132)), (by first | rfl | (simp; done) | (simp [*]; done)), H', ⟨by have := HJ3.out; first | omega | exact Nat.le_refl _⟩, ⟨by (with_reducible repeat (first | apply Kd.V_alloc | apply Kd.V_drewN | apply Kd.V_drew)); exact Kd.V_mono HO_0.out (fun _ hk => hk.1.1.1)⟩, ⟨by repeat (first | (with_reducible first | exact HB.out | apply below_alloc | apply pw_below_drewN | apply below_drew1 | refine below_set ?_ (IsS57.ge HI116.out)) | exact HB.out)⟩⟩
            · rw [if_neg c21] at H
              have c21b0 : (t125 == t130) = false := beq_eq_false_iff_ne.mpr c21
              have c21b1 : (t125 != t130) = true := bne_iff_ne.mpr c21
              have H' := Aside0.mk H
              clear H
              go_wp2_with (first | ((with_reducible refine gate_dst (N := 27) rfl ?_); (try (refine gate_guard (by rfl) ?_; dsimp only)); refine Kd.N_lit (Kd.slice 5 (Kd.int .u8)) _ 23 ?hg (N' := 27) ?hd (xs := ([l0] : List (List Int))) (inner := [.slice A0 l0.length c0]) (ok := (fun k_ => ((P0_ k_ ∨ P1_ k_) ∨ w.heap.size ≤ k_) ∧ k_ ≠ gb116)) (okp := (fun k_ => ((P0_ k_ ∨ P1_ k_) ∨ w.heap.size ≤ k_) ∧ k_ ≠ gb116)) ?hr ?hp (fun _ hk => hk) ((show ∀ k_, w16.heap.size ≤ k_ → (fun k_ => ((P0_ k_ ∨ P1_ k_) ∨ w.heap.size ≤ k_) ∧ k_ ≠ gb116) k_ from fun k_ hk => ⟨(.inr (Nat.le_trans (below_size (by repeat (first | (with_reducible first | exact HB.out | apply below_alloc | apply pw_below_drewN | apply below_drew1 | refine below_set ?_ (IsS57.ge HI116.out)) | exact HB.out))) hk)), IsS57.fresh (by repeat (first | (with_reducible first | exact HI116.out | apply IsS57.alloc | apply IsS57.drewN | apply IsS57.drew | apply IsS57.set_0) | exact HI116.out)) k_ hk⟩) _ (Nat.le_refl _)) (Below.refl _ _) (Nat.le_refl _) (by simp) ?_; (case hd => rfl); (case hg => rfl); (case hr => first | (go_simp; done) | (go_simp; rfl)); (case hp => exact (Reps.one (show Kd.FK (Kd.slice 5 (Kd.int .u8)) _ _ l0 [.slice A0 l0.length c0] from (Go.Proofs.Ytakodondlmiklaa.PrintConst.Kd.FK_slice_len (Kd.V_reads' (Kd.V_mono (ok' := (fun k_ => ((P0_ k_ ∨ P1_ k_) ∨ w.heap.size ≤ k_) ∧ k_ ≠ gb116)) (HO_0.out) (fun k_ hk => ⟨hk.1, hk.2⟩))).2.1 (Kd.V_F (Kd.V_mono (ok' := (fun k_ => ((P0_ k_ ∨ P1_ k_) ∨ w.heap.size ≤ k_) ∧ k_ ≠ gb116)) (HO_0.out) (fun k_ hk => ⟨hk.1, hk.2⟩))))) (Reps.none _ _))); intro v122 w32 ho33 hb hg_ hnew_; clear hg_ hnew_; (first | rw [← Ny121.out] at ho33 | (simp only [Int.reduceToNat] at ho33; rw [← Ny121.out] at ho33)); have n0_ := Aside0.mk (Kd.V_elder' (by (with_reducible repeat (first | apply Kd.V_alloc | apply Kd.V_drewN | apply Kd.V_drew)); exact HO_0.out) (Kd.N_base ho33) hb); have n1_ := Aside0.mk (Kd.V_elder' (by (with_reducible repeat (first | apply Kd.V_alloc | apply Kd.V_drewN | apply Kd.V_drew)); exact HO_1.out) (Kd.N_base ho33) hb); have n2_ := Aside0.mk (Kd.N_lower ho33 (below_size (by repeat (first | (with_reducible first | exact HB.out | apply below_alloc | apply pw_below_drewN | apply below_drew1 | refine below_set ?_ (IsS57.ge HI116.out)) | exact HB.out)))); have n3_ := Aside0.mk (IsS57.below (by repeat (first | (with_reducible first | exact HI116.out | apply IsS57.alloc | apply IsS57.drewN | apply IsS57.drew | apply IsS57.set_0) | exact HI116.out)) hb); have n4_ := Aside0.mk (below_step (by repeat (first | (with_reducible first | exact HB.out | apply below_alloc | apply pw_below_drewN | apply below_drew1 | refine below_set ?_ (IsS57.ge HI116.out)) | exact HB.out)) hb); clear HO_0; clear HO_1; clear HI116; clear HB; have HO_0 := n0_; have HO_1 := n1_; have HO123 := n2_; have HI116 := n3_; have HB := n4_; clear n0_ n1_ n2_ n3_ n4_; clear hb ho33; obtain ⟨Ao34, co34, eo34⟩ := Kd.N_slice HO123.out; subst eo34) | ((with_reducible refine gate_callee (f := 32) rfl ?_); refine goesL_ (some 28) rfl rfl Try.func32 (by kernel_rfl) rfl #[.slice Ao34 y121.length co34] rfl (by (try simp only [List.map_toArray, List.map_cons, List.map_nil]); first | done | rfl | (simp only [List.length_drop, List.length_take]; rfl)) ?_; (with_reducible refine (crc_Sum.calls kj3 _ _ y121 t124 _ ?side1 ?side2 A17.out).mono ?_); (case side1 => repeat (first | exact (Kd.N_reads' HO123.out).2.2 | (with_reducible refine Kd.C_alloc ?_ _) | (with_reducible refine Kd.C_drewN ?_ _) | (with_reducible refine Kd.C_drew ?_))); (case side2 => exact (Kd.N_reads' HO123.out).2.1); rintro e w' ⟨rfl, ⟨nd, rfl⟩⟩; refine ⟨_, rfl, ?_⟩; (try (rw [drewN_self w32]; generalize hq_ : World.drewN w32 _ = w32; have n0_ : Aside0 (Kd.N (Kd.slice 5 (Kd.int .u8)) 23 w32 w.heap.size (fun k_ => ((((P0_ k_ ∨ P1_ k_) ∨ w.heap.size ≤ k_)) ∧ k_ ≠ gb116)) (.slice Ao34 y121.length co34) y121) := ⟨by rw [← hq_]; exact (by (with_reducible repeat (first | apply Kd.N_alloc | apply Kd.N_drewN | apply Kd.N_drew)); exact HO123.out)⟩; have n1_ : Aside0 (Kd.V (Kd.int .u8) 5 w32 w.heap.size (fun k_ => (((((P0_ k_ ∨ P1_ k_) ∨ w.heap.size ≤ k_)) ∧ k_ ≠ gb116) ∧ some k_ ≠ (.slice Ao34 y121.length co34 : Value).ownBlock)) (.slice A0 l0.length c0) l0) := ⟨by rw [← hq_]; exact (by (with_reducible repeat (first | apply Kd.V_alloc | apply Kd.V_drewN | apply Kd.V_drew)); exact HO_0.out)⟩; have n2_ : Aside0 (Kd.V (Kd.int .u8) 5 w32 w.heap.size (fun k_ => (((((P0_ k_ ∨ P1_ k_) ∨ w.heap.size ≤ k_)) ∧ k_ ≠ gb116) ∧ some k_ ≠ (.slice Ao34 y121.length co34 : Value).ownBlock)) (.slice A1 l1.length c1) l1) := ⟨by rw [← hq_]; exact (by (with_reducible repeat (first | apply Kd.V_alloc | apply Kd.V_drewN | apply Kd.V_drew)); exact HO_1.out)⟩; have n3_ : Aside0 (IsS57 w w32 gb116 t120) := ⟨by rw [← hq_]; exact (by repeat (first | (with_reducible first | exact HI116.out | apply IsS57.alloc | apply IsS57.drewN | apply IsS57.drew | apply IsS57.set_0) | exact HI116.out))⟩; have n4_ : Aside0 (Below w.heap.size w w32) := ⟨by rw [← hq_]; exact (by repeat (first | (with_reducible first | exact HB.out | apply below_alloc | apply pw_below_drewN | apply below_drew1 | refine below_set ?_ (IsS57.ge HI116.out)) | exact HB.out))⟩; clear HO123 HO_0 HO_1 HI116 HB hq_; have HO123 := n0_; have HO_0 := n1_; have HO_1 := n2_; have HI116 := n3_; have HB := n4_; clear n0_ n1_ n2_ n3_ n4_))) | (go_at_call 36; (with_reducible refine (crc_Roller_Sum.calls gb116 t120 t125 t126 w _ ?side1 ?side2 A19.out).mono ?_); (case side1 => repeat (first | (with_reducible first | exact HI116.out | apply IsS57.alloc | apply IsS57.drewN | apply IsS57.drew | apply IsS57.set_0) | exact HI116.out)); (case side2 => repeat (first | (with_reducible first | exact HB.out | apply below_alloc | apply pw_below_drewN | apply below_drew1 | refine below_set ?_ (IsS57.ge HI116.out)) | exact HB.out)); rintro e w35 ⟨rfl, hi, hb, hk⟩; have n0_ := Aside0.mk (Kd.V_mono (Kd.V_keep (Kd.V_mono (ok := fun k_ => (((((P0_ k_ ∨ P1_ k_) ∨ w.heap.size ≤ k_)) ∧ k_ ≠ gb116) ∧ some k_ ≠ (.slice Ao34 y121.length co34 : Value).ownBlock)) (by (with_reducible repeat (first | apply Kd.V_alloc | apply Kd.V_drewN | apply Kd.V_drew)); exact HO_0.out) (fun k_ hk_ => (⟨hk_, hk_.1.2⟩ : _ ∧ k_ ≠ gb116))) hk (fun _ h => h.2)) (fun _ h => h.1)); have n1_ := Aside0.mk (Kd.V_mono (Kd.V_keep (Kd.V_mono (ok := fun k_ => (((((P0_ k_ ∨ P1_ k_) ∨ w.heap.size ≤ k_)) ∧ k_ ≠ gb116) ∧ some k_ ≠ (.slice Ao34 y121.length co34 : Value).ownBlock)) (by (with_reducible repeat (first | apply Kd.V_alloc | apply Kd.V_drewN | apply Kd.V_drew)); exact HO_1.out) (fun k_ hk_ => (⟨hk_, hk_.1.2⟩ : _ ∧ k_ ≠ gb116))) hk (fun _ h => h.2)) (fun _ h => h.1)); have n2_ := Aside0.mk (Kd.N_mono (Kd.N_keep (Kd.N_mono (ok := fun k_ => ((((P0_ k_ ∨ P1_ k_) ∨ w.heap.size ≤ k_)) ∧ k_ ≠ gb116)) (by (with_reducible repeat (first | apply Kd.N_alloc | apply Kd.N_drewN | apply Kd.N_drew)); exact HO123.out) (fun k_ hk_ => (⟨hk_, hk_.2⟩ : _ ∧ k_ ≠ gb116))) hk (fun _ h => h.2)) (fun _ h => h.1)); have n3_ := Aside0.mk (hb); have n4_ := Aside0.mk (hi); clear HO_0; clear HO_1; clear HO123; clear HB; clear HI116; have HO_0 := n0_; have HO_1 := n1_; have HO123 := n2_; have HB := n3_; have HI116 := n4_; clear n0_ n1_ n2_ n3_ n4_; (try clear hb); (try clear hb2); (try clear hk); (try clear hi)) | ((with_reducible refine gate_dst (N := 34) rfl ?_); (try (refine gate_guard (by rfl) ?_; dsimp only)); refine Kd.N_lit (Kd.slice 5 (Kd.int .u8)) _ 23 ?hg (N' := 34) ?hd (xs := ([l0, l1] : List (List Int))) (inner := [.slice A0 l0.length c0, .slice A1 l1.length c1]) (ok := (fun k_ => ((P0_ k_ ∨ P1_ k_) ∨ w.heap.size ≤ k_) ∧ some k_ ≠ (.slice Ao34 y121.length co34 : Value).ownBlock ∧ k_ ≠ gb116)) (okp := (fun k_ => ((P0_ k_ ∨ P1_ k_) ∨ w.heap.size ≤ k_) ∧ some k_ ≠ (.slice Ao34 y121.length co34 : Value).ownBlock ∧ k_ ≠ gb116)) ?hr ?hp (fun _ hk => hk) ((show ∀ k_, w35.heap.size ≤ k_ → (fun k_ => ((P0_ k_ ∨ P1_ k_) ∨ w.heap.size ≤ k_) ∧ some k_ ≠ (.slice Ao34 y121.length co34 : Value).ownBlock ∧ k_ ≠ gb116) k_ from fun k_ hk => ⟨(.inr (Nat.le_trans (below_size (by repeat (first | (with_reducible first | exact HB.out | apply below_alloc | apply pw_below_drewN | apply below_drew1 | refine below_set ?_ (IsS57.ge HI116.out)) | exact HB.out))) hk)), Kd.fresh' (Kd.N_lt (by (with_reducible repeat (first | apply Kd.N_alloc | apply Kd.N_drewN | apply Kd.N_drew)); exact HO123.out)) k_ hk, IsS57.fresh (by repeat (first | (with_reducible first | exact HI116.out | apply IsS57.alloc | apply IsS57.drewN | apply IsS57.drew | apply IsS57.set_0) | exact HI116.out)) k_ hk⟩) _ (Nat.le_refl _)) (Below.refl _ _) (Nat.le_refl _) (by simp) ?_; (case hd => rfl); (case hg => rfl); (case hr => first | (go_simp; done) | (go_simp; rfl)); (case hp => exact (Reps.one (show Kd.FK (Kd.slice 5 (Kd.int .u8)) _ _ l0 [.slice A0 l0.length c0] from (Go.Proofs.Ytakodondlmiklaa.PrintConst.Kd.FK_slice_len (Kd.V_reads' (Kd.V_mono (ok' := (fun k_ => ((P0_ k_ ∨ P1_ k_) ∨ w.heap.size ≤ k_) ∧ some k_ ≠ (.slice Ao34 y121.length co34 : Value).ownBlock ∧ k_ ≠ gb116)) (HO_0.out) (fun k_ hk => ⟨hk.1.1, ⟨hk.2, hk.1.2⟩⟩))).2.1 (Kd.V_F (Kd.V_mono (ok' := (fun k_ => ((P0_ k_ ∨ P1_ k_) ∨ w.heap.size ≤ k_) ∧ some k_ ≠ (.slice Ao34 y121.length co34 : Value).ownBlock ∧ k_ ≠ gb116)) (HO_0.out) (fun k_ hk => ⟨hk.1.1, ⟨hk.2, hk.1.2⟩⟩))))) (Reps.one (show Kd.FK (Kd.slice 5 (Kd.int .u8)) _ _ l1 [.slice A1 l1.length c1] from (Go.Proofs.Ytakodondlmiklaa.PrintConst.Kd.FK_slice_len (Kd.V_reads' (Kd.V_mono (ok' := (fun k_ => ((P0_ k_ ∨ P1_ k_) ∨ w.heap.size ≤ k_) ∧ some k_ ≠ (.slice Ao34 y121.length co34 : Value).ownBlock ∧ k_ ≠ gb116)) (HO_1.out) (fun k_ hk => ⟨hk.1.1, ⟨hk.2, hk.1.2⟩⟩))).2.1 (Kd.V_F (Kd.V_mono (ok' := (fun k_ => ((P0_ k_ ∨ P1_ k_) ∨ w.heap.size ≤ k_) ∧ some k_ ≠ (.slice Ao34 y121.length co34 : Value).ownBlock ∧ k_ ≠ gb116)) (HO_1.out) (fun k_ hk => ⟨hk.1.1, ⟨hk.2, hk.1.2⟩⟩))))) (Reps.none _ _)))); intro v128 w36 ho37 hb hg_ hnew_; clear hg_ hnew_; (first | rw [← Ny127.out] at ho37 | (simp only [Int.reduceToNat] at ho37; rw [← Ny127.out] at ho37)); have n0_ := Aside0.mk (Kd.V_elder' (by (with_reducible repeat (first | apply Kd.V_alloc | apply Kd.V_drewN | apply Kd.V_drew)); exact HO_0.out) (Kd.N_base ho37) hb); have n1_ := Aside0.mk (Kd.V_elder' (by (with_reducible repeat (first | apply Kd.V_alloc | apply Kd.V_drewN | apply Kd.V_drew)); exact HO_1.out) (Kd.N_base ho37) hb); have n2_ := Aside0.mk (Kd.N_elder' (by (with_reducible repeat (first | apply Kd.N_alloc | apply Kd.N_drewN | apply Kd.N_drew)); exact HO123.out) (Kd.N_base ho37) hb); have n3_ := Aside0.mk (Kd.N_lower ho37 (below_size (by repeat (first | (with_reducible first | exact HB.out | apply below_alloc | apply pw_below_drewN | apply below_drew1 | refine below_set ?_ (IsS57.ge HI116.out)) | exact HB.out)))); have n4_ := Aside0.mk (IsS57.below (by repeat (first | (with_reducible first | exact HI116.out | apply IsS57.alloc | apply IsS57.drewN | apply IsS57.drew | apply IsS57.set_0) | exact HI116.out)) hb); have n5_ := Aside0.mk (below_step (by repeat (first | (with_reducible first | exact HB.out | apply below_alloc | apply pw_below_drewN | apply below_drew1 | refine below_set ?_ (IsS57.ge HI116.out)) | exact HB.out)) hb); clear HO_0; clear HO_1; clear HO123; clear HI116; clear HB; have HO_0 := n0_; have HO_1 := n1_; have HO123 := n2_; have HO129 := n3_; have HI116 := n4_; have HB := n5_; clear n0_ n1_ n2_ n3_ n4_ n5_; clear hb ho37; obtain ⟨Ao38, co38, eo38⟩ := Kd.N_slice HO129.out; subst eo38) | (go_at_call 32; (with_reducible refine (crc_Sum.calls kj3 _ _ y127 t130 _ ?side1 ?side2 A20.out).mono ?_); (case side1 => repeat (first | exact (Kd.N_reads' HO129.out).2.2 | (with_reducible refine Kd.C_alloc ?_ _) | (with_reducible refine Kd.C_drewN ?_ _) | (with_reducible refine Kd.C_drew ?_))); (case side2 => exact (Kd.N_reads' HO129.out).2.1); rintro e w' ⟨rfl, ⟨nd, rfl⟩⟩))
              go_meet
              case rel => exact ⟨_, (true), (by first | rfl | (simp; done) | (simp [*]; done)), H', ⟨by have := HJ3.out; first | omega | exact Nat.le_refl _⟩, ⟨by (with_reducible repeat (first | apply Kd.V_alloc | apply Kd.V_drewN | apply Kd.V_drew)); exact Kd.V_mono HO_0.out (fun _ hk => hk.1.1.1)⟩, ⟨by repeat (first | (with_reducible first | exact HB.out | apply below_alloc | apply pw_below_drewN | apply below_drew1 | refine below_set ?_ (IsS57.ge HI116.out)) | exact HB.out)⟩⟩
          · rw [if_neg c18] at H
            have c18b0 : (t118 == t124) = false := beq_eq_false_iff_ne.mpr c18
            have c18b1 : (t118 != t124) = true := bne_iff_ne.mpr c18
            (first | rw [c18b0] | (simp only [i64_w, i32_w]; rw [c18b0]) | skip)
            have H' := Aside0.mk H
            clear H
            go_wp2_with (first | ((with_reducible refine gate_dst (N := 27) rfl ?_); (try (refine gate_guard (by rfl) ?_; dsimp only)); refine Kd.N_lit (Kd.slice 5 (Kd.int .u8)) _ 23 ?hg (N' := 27) ?hd (xs := ([l0] : List (List Int))) (inner := [.slice A0 l0.length c0]) (ok := (fun k_ => ((P0_ k_ ∨ P1_ k_) ∨ w.heap.size ≤ k_) ∧ k_ ≠ gb116)) (okp := (fun k_ => ((P0_ k_ ∨ P1_ k_) ∨ w.heap.size ≤ k_) ∧ k_ ≠ gb116)) ?hr ?hp (fun _ hk => hk) ((show ∀ k_, w16.heap.size ≤ k_ → (fun k_ => ((P0_ k_ ∨ P1_ k_) ∨ w.heap.size ≤ k_) ∧ k_ ≠ gb116) k_ from fun k_ hk => ⟨(.inr (Nat.le_trans (below_size (by repeat (first | (with_reducible first | exact HB.out | apply below_alloc | apply pw_below_drewN | apply below_drew1 | refine below_set ?_ (IsS57.ge HI116.out)) | exact HB.out))) hk)), IsS57.fresh (by repeat (first | (with_reducible first | exact HI116.out | apply IsS57.alloc | apply IsS57.drewN | apply IsS57.drew | apply IsS57.set_0) | exact HI116.out)) k_ hk⟩) _ (Nat.le_refl _)) (Below.refl _ _) (Nat.le_refl _) (by simp) ?_; (case hd => rfl); (case hg => rfl); (case hr => first | (go_simp; done) | (go_simp; rfl)); (case hp => exact (Reps.one (show Kd.FK (Kd.slice 5 (Kd.int .u8)) _ _ l0 [.slice A0 l0.length c0] from (Go.Proofs.Ytakodondlmiklaa.PrintConst.Kd.FK_slice_len (Kd.V_reads' (Kd.V_mono (ok' := (fun k_ => ((P0_ k_ ∨ P1_ k_) ∨ w.heap.size ≤ k_) ∧ k_ ≠ gb116)) (HO_0.out) (fun k_ hk => ⟨hk.1, hk.2⟩))).2.1 (Kd.V_F (Kd.V_mono (ok' := (fun k_ => ((P0_ k_ ∨ P1_ k_) ∨ w.heap.size ≤ k_) ∧ k_ ≠ gb116)) (HO_0.out) (fun k_ hk => ⟨hk.1, hk.2⟩))))) (Reps.none _ _))); intro v122 w39 ho40 hb hg_ hnew_; clear hg_ hnew_; (first | rw [← Ny121.out] at ho40 | (simp only [Int.reduceToNat] at ho40; rw [← Ny121.out] at ho40)); have n0_ := Aside0.mk (Kd.V_elder' (by (with_reducible repeat (first | apply Kd.V_alloc | apply Kd.V_drewN | apply Kd.V_drew)); exact HO_0.out) (Kd.N_base ho40) hb); have n1_ := Aside0.mk (Kd.V_elder' (by (with_reducible repeat (first | apply Kd.V_alloc | apply Kd.V_drewN | apply Kd.V_drew)); exact HO_1.out) (Kd.N_base ho40) hb); have n2_ := Aside0.mk (Kd.N_lower ho40 (below_size (by repeat (first | (with_reducible first | exact HB.out | apply below_alloc | apply pw_below_drewN | apply below_drew1 | refine below_set ?_ (IsS57.ge HI116.out)) | exact HB.out)))); have n3_ := Aside0.mk (IsS57.below (by repeat (first | (with_reducible first | exact HI116.out | apply IsS57.alloc | apply IsS57.drewN | apply IsS57.drew | apply IsS57.set_0) | exact HI116.out)) hb); have n4_ := Aside0.mk (below_step (by repeat (first | (with_reducible first | exact HB.out | apply below_alloc | apply pw_below_drewN | apply below_drew1 | refine below_set ?_ (IsS57.ge HI116.out)) | exact HB.out)) hb); clear HO_0; clear HO_1; clear HI116; clear HB; have HO_0 := n0_; have HO_1 := n1_; have HO123 := n2_; have HI116 := n3_; have HB := n4_; clear n0_ n1_ n2_ n3_ n4_; clear hb ho40; obtain ⟨Ao41, co41, eo41⟩ := Kd.N_slice HO123.out; subst eo41) | ((with_reducible refine gate_callee (f := 32) rfl ?_); refine goesL_ (some 28) rfl rfl Try.func32 (by kernel_rfl) rfl #[.slice Ao41 y121.length co41] rfl (by (try simp only [List.map_toArray, List.map_cons, List.map_nil]); first | done | rfl | (simp only [List.length_drop, List.length_take]; rfl)) ?_; (with_reducible refine (crc_Sum.calls kj3 _ _ y121 t124 _ ?side1 ?side2 A17.out).mono ?_); (case side1 => repeat (first | exact (Kd.N_reads' HO123.out).2.2 | (with_reducible refine Kd.C_alloc ?_ _) | (with_reducible refine Kd.C_drewN ?_ _) | (with_reducible refine Kd.C_drew ?_))); (case side2 => exact (Kd.N_reads' HO123.out).2.1); rintro e w' ⟨rfl, ⟨nd, rfl⟩⟩; refine ⟨_, rfl, ?_⟩))
            go_meet
            case rel => exact ⟨_, (true), (by first | rfl | (simp; done) | (simp [*]; done)), H', ⟨by have := HJ3.out; first | omega | exact Nat.le_refl _⟩, ⟨by (with_reducible repeat (first | apply Kd.V_alloc | apply Kd.V_drewN | apply Kd.V_drew)); exact Kd.V_mono HO_0.out (fun _ hk => hk.1.1)⟩, ⟨by repeat (first | (with_reducible first | exact HB.out | apply below_alloc | apply pw_below_drewN | apply below_drew1 | refine below_set ?_ (IsS57.ge HI116.out)) | exact HB.out)⟩⟩
        case rest =>
          clear HC12
          try clear c1
          try clear c2
          try clear p2
          try clear c3
          try clear c5
          try clear c5b0
          try clear c5b1
          try clear c6
          try clear c9
          try clear c18
          try clear c18b0
          try clear c18b1
          try clear c21
          try clear c21b0
          try clear c21b1
          try clear c31
          try clear c32
          try clear c34
          try clear c36
          try clear p2
          obtain ⟨kq, x44_11, rfl, HA, HJ11, HO_0, HB⟩ := hcut
          cases kq with
          | zero => exact absurd HA.out (by simp [cordwainlaw2_CrcGoes.j1])
          | succ kj11 =>
            have H := HA.out
            clear HA
            simp only [cordwainlaw2_CrcGoes.j1] at H
            by_cases c42 : x44_11 = true
            · subst c42
              have H1 : (some false) = some r := by rw [if_pos rfl] at H; exact H
              clear H
              have H := H1
              clear H1
              exact absurd ((Option.some.inj H).trans HRT_.out) (by decide)
            · replace c42 := Bool.eq_false_iff.mpr c42
              subst c42
              have H1 : (if (l0.length : Int) > 0 then ((some (([] : List Int) : List Int)).bind fun y134 => (if y134.length + l0.length < 140737488355328 then ((some (y134 ++ l0 : List Int)).bind fun y137 => ((cordwainalike_Round.f a2 (wrap64 (8 * (l0.length : Int)))).bind fun t140 => (if 0 ≤ (wrap64 (Int.tdiv t140 8)) then (if (wrap64 (Int.tdiv t140 8)) < (y137.length : Int) then (if 0 ≤ (Int.tmod t140 8) then ((crc_Sum.f kj11 (([(y137.set ((wrap64 (Int.tdiv t140 8)) : Int).toNat (Go.bits .xor .u8 (rd y137 (wrap64 (Int.tdiv t140 8))) (shl .u8 1 (Int.tmod t140 8))))] : List (List Int)))).bind fun t146 => ((crc_Sum.f kj11 (([l0] : List (List Int)))).bind fun t150 => (if t146 = t150 then (some false) else ((cordwainlaw2_awake.f kj11).bind fun t151 => (some t151))))) else (none)) else (none)) else (none)))) else (none))) else ((cordwainlaw2_awake.f kj11).bind fun t152 => (some t152))) = some r := by rw [if_neg (show ¬ (false = true) by decide)] at H; exact H
              clear H
              have H := H1
              clear H1
              by_cases c43 : (l0.length : Int) > 0
              · rw [if_pos c43] at H
                have c43b0 : decide (0 < (l0.length : Int)) = true := decide_eq_true c43
                have c43b1 : decide (0 < l0.length) = true := decide_eq_true (by omega)
                clear c43
                obtain ⟨y134, hy134⟩ : ∃ y_ : List Int, y_ = (([] : List Int)) := ⟨_, rfl⟩
                replace H : (if y134.length + l0.length < 140737488355328 then ((some (y134 ++ l0 : List Int)).bind fun y137 => ((cordwainalike_Round.f a2 (wrap64 (8 * (l0.length : Int)))).bind fun t140 => (if 0 ≤ (wrap64 (Int.tdiv t140 8)) then (if (wrap64 (Int.tdiv t140 8)) < (y137.length : Int) then (if 0 ≤ (Int.tmod t140 8) then ((crc_Sum.f kj11 (([(y137.set ((wrap64 (Int.tdiv t140 8)) : Int).toNat (Go.bits .xor .u8 (rd y137 (wrap64 (Int.tdiv t140 8))) (shl .u8 1 (Int.tmod t140 8))))] : List (List Int)))).bind fun t146 => ((crc_Sum.f kj11 (([l0] : List (List Int)))).bind fun t150 => (if t146 = t150 then (some false) else ((cordwainlaw2_awake.f kj11).bind fun t151 => (some t151))))) else (none)) else (none)) else (none)))) else (none)) = some r := by first | (rw [hy134]; with_reducible exact H) | (have H2_ := (Option.bind_some _ _).symm.trans H; rw [hy134]; with_reducible exact H2_) | (have H2_ := (Option.bind_some _ _).symm.trans H; with_reducible exact H2_) | with_reducible exact H | (rw [hy134]; exact H) | exact H
                have Ny134 := Aside0.mk hy134
                clear hy134
                by_cases c44 : y134.length + l0.length < 140737488355328
                · rw [if_pos c44] at H
                  have LMc44 := Aside0.mk c44
                  clear c44
                  obtain ⟨y137, hy137⟩ : ∃ y_ : List Int, y_ = (y134 ++ l0) := ⟨_, rfl⟩
                  replace H : ((cordwainalike_Round.f a2 (wrap64 (8 * (l0.length : Int)))).bind fun t140 => (if 0 ≤ (wrap64 (Int.tdiv t140 8)) then (if (wrap64 (Int.tdiv t140 8)) < (y137.length : Int) then (if 0 ≤ (Int.tmod t140 8) then ((crc_Sum.f kj11 (([(y137.set ((wrap64 (Int.tdiv t140 8)) : Int).toNat (Go.bits .xor .u8 (rd y137 (wrap64 (Int.tdiv t140 8))) (shl .u8 1 (Int.tmod t140 8))))] : List (List Int)))).bind fun t146 => ((crc_Sum.f kj11 (([l0] : List (List Int)))).bind fun t150 => (if t146 = t150 then (some false) else ((cordwainlaw2_awake.f kj11).bind fun t151 => (some t151))))) else (none)) else (none)) else (none))) = some r := by first | (rw [hy137]; with_reducible exact H) | (have H2_ := (Option.bind_some _ _).symm.trans H; rw [hy137]; with_reducible exact H2_) | (have H2_ := (Option.bind_some _ _).symm.trans H; with_reducible exact H2_) | with_reducible exact H | (rw [hy137]; exact H) | exact H
                  have Ny137 := Aside0.mk hy137
                  clear hy137
                  replace H := Option.bind_eq_some_iff.mp H
                  obtain ⟨t140, A450, H⟩ := H
                  replace H : (if 0 ≤ (wrap64 (Int.tdiv t140 8)) then (if (wrap64 (Int.tdiv t140 8)) < (y137.length : Int) then (if 0 ≤ (Int.tmod t140 8) then ((crc_Sum.f kj11 (([(y137.set ((wrap64 (Int.tdiv t140 8)) : Int).toNat (Go.bits .xor .u8 (rd y137 (wrap64 (Int.tdiv t140 8))) (shl .u8 1 (Int.tmod t140 8))))] : List (List Int)))).bind fun t146 => ((crc_Sum.f kj11 (([l0] : List (List Int)))).bind fun t150 => (if t146 = t150 then (some false) else ((cordwainlaw2_awake.f kj11).bind fun t151 => (some t151))))) else (none)) else (none)) else (none)) = some r := H
                  have A45 := Aside0.mk A450
                  clear A450
                  obtain ⟨ji46, hji46⟩ : ∃ j_ : Int, (wrap64 (Int.tdiv t140 8)) = j_ := ⟨_, rfl⟩
                  replace H : (if 0 ≤ (ji46) then (if (ji46) < (y137.length : Int) then (if 0 ≤ (Int.tmod t140 8) then ((crc_Sum.f kj11 (([(y137.set ((ji46) : Int).toNat (Go.bits .xor .u8 (rd y137 (ji46)) (shl .u8 1 (Int.tmod t140 8))))] : List (List Int)))).bind fun t146 => ((crc_Sum.f kj11 (([l0] : List (List Int)))).bind fun t150 => (if t146 = t150 then (some false) else ((cordwainlaw2_awake.f kj11).bind fun t151 => (some t151))))) else (none)) else (none)) else (none)) = some r := by first | (rw [hji46] at H; exact H) | (simp only [hji46] at H ⊢; exact H)
                  (try rw [hji46] at A45)
                  have hji46w : (IntKind.i64.wrap (Int.tdiv t140 8)) = ji46 := (i64_w _).trans hji46
                  by_cases c47 : 0 ≤ (ji46)
                  · rw [if_pos c47] at H
                    have c47b0 : decide (0 ≤ (ji46)) = true := decide_eq_true c47
                    clear c47
                    by_cases c48 : (ji46) < (y137.length : Int)
                    · rw [if_pos c48] at H
                      have c48b0 : decide ((ji46) < (y137.length : Int)) = true := decide_eq_true c48
                      clear c48
                      obtain ⟨ji49, hji49⟩ : ∃ j_ : Int, (Int.tmod t140 8) = j_ := ⟨_, rfl⟩
                      replace H : (if 0 ≤ (ji49) then ((crc_Sum.f kj11 (([(y137.set ((ji46) : Int).toNat (Go.bits .xor .u8 (rd y137 (ji46)) (shl .u8 1 (ji49))))] : List (List Int)))).bind fun t146 => ((crc_Sum.f kj11 (([l0] : List (List Int)))).bind fun t150 => (if t146 = t150 then (some false) else ((cordwainlaw2_awake.f kj11).bind fun t151 => (some t151))))) else (none)) = some r := by first | (rw [hji49] at H; exact H) | (simp only [hji49] at H ⊢; exact H)
                      (try rw [hji49] at A45)
                      by_cases c50 : 0 ≤ (ji49)
                      · rw [if_pos c50] at H
                        have c50b0 := eq_true c50
                        have c50b1 : decide (0 ≤ (ji49)) = true := decide_eq_true c50
                        clear c50
                        obtain ⟨ji51, hji51⟩ : ∃ j_ : Int, (shl .u8 1 (ji49)) = j_ := ⟨_, rfl⟩
                        replace H : ((crc_Sum.f kj11 (([(y137.set ((ji46) : Int).toNat (Go.bits .xor .u8 (rd y137 (ji46)) (ji51)))] : List (List Int)))).bind fun t146 => ((crc_Sum.f kj11 (([l0] : List (List Int)))).bind fun t150 => (if t146 = t150 then (some false) else ((cordwainlaw2_awake.f kj11).bind fun t151 => (some t151))))) = some r := by first | (rw [hji51] at H; exact H) | (simp only [hji51] at H ⊢; exact H)
                        (try rw [hji51] at A45)
                        have hji51_ : (IntKind.u8.wrap (1 * 2 ^ min (ji49).toNat 8)) = ji51 := hji51
                        have hji51z : (ji49) ≤ 8 → (IntKind.u8.wrap (1 * 2 ^ (ji49).toNat)) = ji51 := shl_small hji51
                        have hji51u : (IntKind.u8.wrap (2 ^ min (ji49).toNat 8)) = ji51 := by have h_ := hji51_; rw [Int.one_mul] at h_; exact h_
                        have hji51v : (ji49) ≤ 8 → (IntKind.u8.wrap (2 ^ (ji49).toNat)) = ji51 := fun hle_ => by have h_ := hji51z hle_; rw [Int.one_mul] at h_; exact h_
                        obtain ⟨y142, hy142⟩ : ∃ y_ : List Int, y_ = (y137.set ((ji46) : Int).toNat (Go.bits .xor .u8 (rd y137 (ji46)) (ji51))) := ⟨_, rfl⟩
                        replace H : ((crc_Sum.f kj11 (([y142] : List (List Int)))).bind fun t146 => ((crc_Sum.f kj11 (([l0] : List (List Int)))).bind fun t150 => (if t146 = t150 then (some false) else ((cordwainlaw2_awake.f kj11).bind fun t151 => (some t151))))) = some r := by first | (rw [hy142]; with_reducible exact H) | (have H2_ := (Option.bind_some _ _).symm.trans H; rw [hy142]; with_reducible exact H2_) | (have H2_ := (Option.bind_some _ _).symm.trans H; with_reducible exact H2_) | with_reducible exact H | (rw [hy142]; exact H) | exact H
                        have Ny142 := Aside0.mk hy142
                        clear hy142
                        obtain ⟨y143, hy143⟩ : ∃ y_ : List (List Int), y_ = (([y142] : List (List Int))) := ⟨_, rfl⟩
                        replace H : ((crc_Sum.f kj11 y143).bind fun t146 => ((crc_Sum.f kj11 (([l0] : List (List Int)))).bind fun t150 => (if t146 = t150 then (some false) else ((cordwainlaw2_awake.f kj11).bind fun t151 => (some t151))))) = some r := by first | (rw [hy143]; with_reducible exact H) | (have H2_ := (Option.bind_some _ _).symm.trans H; rw [hy143]; with_reducible exact H2_) | (have H2_ := (Option.bind_some _ _).symm.trans H; with_reducible exact H2_) | with_reducible exact H | (rw [hy143]; exact H) | exact H
                        have Ny143 := Aside0.mk hy143
                        clear hy143
                        replace H := Option.bind_eq_some_iff.mp H
                        obtain ⟨t146, A530, H⟩ := H
                        replace H : ((crc_Sum.f kj11 (([l0] : List (List Int)))).bind fun t150 => (if t146 = t150 then (some false) else ((cordwainlaw2_awake.f kj11).bind fun t151 => (some t151)))) = some r := H
                        have A53 := Aside0.mk A530
                        clear A530
                        obtain ⟨y147, hy147⟩ : ∃ y_ : List (List Int), y_ = (([l0] : List (List Int))) := ⟨_, rfl⟩
                        replace H : ((crc_Sum.f kj11 y147).bind fun t150 => (if t146 = t150 then (some false) else ((cordwainlaw2_awake.f kj11).bind fun t151 => (some t151)))) = some r := by first | (rw [hy147]; with_reducible exact H) | (have H2_ := (Option.bind_some _ _).symm.trans H; rw [hy147]; with_reducible exact H2_) | (have H2_ := (Option.bind_some _ _).symm.trans H; with_reducible exact H2_) | with_reducible exact H | (rw [hy147]; exact H) | exact H
                        have Ny147 := Aside0.mk hy147
                        clear hy147
                        replace H := Option.bind_eq_some_iff.mp H
                        obtain ⟨t150, A540, H⟩ := H
                        replace H : (if t146 = t150 then (some false) else ((cordwainlaw2_awake.f kj11).bind fun t151 => (some t151))) = some r := H
                        have A54 := Aside0.mk A540
                        clear A540
                        by_cases c55 : t146 = t150
                        · rw [if_pos c55] at H
                          have c55b0 : (t146 == t150) = true := beq_iff_eq.mpr c55
                          have c55b1 : (t146 != t150) = false := bne_eq_false_iff_eq.mpr c55
                          clear c55
                          exact absurd ((Option.some.inj H).trans HRT_.out) (by decide)
                        · rw [if_neg c55] at H
                          have c55b0 : (t146 == t150) = false := beq_eq_false_iff_ne.mpr c55
                          have c55b1 : (t146 != t150) = true := bne_iff_ne.mpr c55
                          replace H := Option.bind_eq_some_iff.mp H
                          obtain ⟨t151, A560, H⟩ := H
                          replace H : (some t151) = some r := H
                          have A56 := Aside0.mk A560
                          clear A560
                          obtain rfl := Option.some.inj H
                          try go_wp2_with (first | ((with_reducible refine gate_dst (N := 48) rfl ?_); (try (refine gate_guard (by rfl) ?_; dsimp only)); refine Kd.R_lit (Kd.int .u8) _ 5 ?hg (N := 48) ?hd (xs := ([] : List Int)) (inner := []) (ok := fun _ => True) (okp := fun _ => True) ?hr ?hp (fun _ hk => hk) trivial (Below.refl _ _) (Nat.le_refl _) (by simp) ?_; (case hd => rfl); (case hg => rfl); (case hr => first | (go_simp; done) | (go_simp; rfl)); (case hp => exact (Reps.none _ _)); intro v135 w57 ho58 hb hg_ hnew_; clear hg_ hnew_; (first | rw [← Ny134.out] at ho58 | (simp only [Int.reduceToNat] at ho58; rw [← Ny134.out] at ho58)); have n0_ := Aside0.mk (Kd.V_elder' (by (with_reducible repeat (first | apply Kd.V_alloc | apply Kd.V_drewN | apply Kd.V_drew)); exact HO_0.out) (Kd.R_base ho58) hb); have n1_ := Aside0.mk (Kd.R_lower (Kd.R_newM (M := fun k_ => (w.heap.size ≤ k_)) ho58 (below_size (by repeat (first | (with_reducible first | exact HB.out | apply below_alloc | apply pw_below_drewN | apply below_drew1) | exact HB.out))) (fun k_ h_ => h_)) (below_size (by repeat (first | (with_reducible first | exact HB.out | apply below_alloc | apply pw_below_drewN | apply below_drew1) | exact HB.out)))); have n2_ := Aside0.mk (below_step (by repeat (first | (with_reducible first | exact HB.out | apply below_alloc | apply pw_below_drewN | apply below_drew1) | exact HB.out)) hb); clear HO_0; clear HB; have HO_0 := n0_; have HO136 := n1_; have HB := n2_; clear n0_ n1_ n2_; clear hb ho58) | ((with_reducible refine gate_builtin (b := .append) (xs := #[.tmp 48, .tmp 49]) rfl ?_); (try (refine gate_guard (by rfl) ?_; dsimp only)); at_builtin; refine Kd.R_append_rows (Kd.int .u8) (w0 := w) w.heap.size rfl (.tmp 48) (.tmp 49) 23 5 (.int .u8 0) 1 rfl Try.underlying23 info5 rfl (by decide) (by omega) v135 y134 l0 _ _ _ (fun k_ => (w.heap.size ≤ k_)) (fun _ => False) rfl rfl ?aO ?aR (fun _ _ h => h) (fun _ h => h.elim) ?aF ?aB ?aS ?aL ?_; (case aR => repeat (first | exact (Kd.V_reads' HO_0.out).2.2 | (with_reducible refine Kd.C_alloc ?_ _) | (with_reducible refine Kd.C_drewN ?_ _) | (with_reducible refine Kd.C_drew ?_))); (case aB => exact (by repeat (first | (with_reducible first | exact HB.out | apply below_alloc | apply pw_below_drewN | apply below_drew1) | exact HB.out))); (case aF => exact (fun k_ hk => (Nat.le_trans (below_size (by repeat (first | (with_reducible first | exact HB.out | apply below_alloc | apply pw_below_drewN | apply below_drew1) | exact HB.out))) hk))); (case aO => exact (by (with_reducible repeat (first | apply Kd.R_alloc | apply Kd.R_drewN | apply Kd.R_drew)); exact Kd.R_mono HO136.out (fun _ hk => hk.1))); (case aS => exact (below_size (by repeat (first | (with_reducible first | exact HB.out | apply below_alloc | apply pw_below_drewN | apply below_drew1) | exact HB.out)))); (case aL => have := LMc44.out; omega); intro v138 w59 ho hb hg hat; rw [← Ny137.out] at ho; have n0_ := Aside0.mk (Kd.V_afterv (ok := (fun k_ => ((P0_ k_ ∨ P1_ k_) ∨ w.heap.size ≤ k_))) (by (with_reducible repeat (first | apply Kd.V_alloc | apply Kd.V_drewN | apply Kd.V_drew)); exact HO_0.out) hg hat); have n1_ := Aside0.mk (hb); have n2_ := Aside0.mk (ho); clear HO_0; clear HB; clear HO136; have HO_0 := n0_; have HB := n1_; have HO139 := n2_; clear n0_ n1_ n2_; clear ho hb hg hat) | ((with_reducible refine gate_callee (f := 23) rfl ?_); refine goesL_ (some 55) rfl rfl Try.func23 (by kernel_rfl) rfl #[.int .i64 a2, .int .i64 (wrap64 (8 * (l0.length : Int)))] rfl (by (try simp only [List.map_toArray, List.map_cons, List.map_nil]); first | done | rfl | (simp only [List.length_drop, List.length_take]; rfl)) ?_; (with_reducible refine (cordwainalike_Round.calls a2 (wrap64 (8 * (l0.length : Int))) t140 _ A45.out).mono ?_); rintro e w' ⟨rfl, ⟨nd, rfl⟩⟩; refine ⟨_, rfl, ?_⟩; (try (rw [drewN_self w59]; generalize hq_ : World.drewN w59 _ = w59; have n0_ : Aside0 (Kd.R (Kd.int .u8) 5 w59 w.heap.size (fun k_ => ((w.heap.size ≤ k_))) v138 y137) := ⟨by rw [← hq_]; exact (by (with_reducible repeat (first | apply Kd.R_alloc | apply Kd.R_drewN | apply Kd.R_drew)); exact HO139.out)⟩; have n1_ : Aside0 (Kd.V (Kd.int .u8) 5 w59 w.heap.size (fun k_ => ((((P0_ k_ ∨ P1_ k_) ∨ w.heap.size ≤ k_)) ∧ some k_ ≠ (v138 : Value).ownBlock)) (.slice A0 l0.length c0) l0) := ⟨by rw [← hq_]; exact (by (with_reducible repeat (first | apply Kd.V_alloc | apply Kd.V_drewN | apply Kd.V_drew)); exact HO_0.out)⟩; have n2_ : Aside0 (Below w.heap.size w w59) := ⟨by rw [← hq_]; exact (by repeat (first | (with_reducible first | exact HB.out | apply below_alloc | apply pw_below_drewN | apply below_drew1) | exact HB.out))⟩; clear HO139 HO_0 HB hq_; have HO139 := n0_; have HO_0 := n1_; have HB := n2_; clear n0_ n1_ n2_))))
                          have n0_ := Aside0.mk (Kd.V_drew HO_0.out)
                          have n1_ := Aside0.mk (Kd.R_drew HO139.out)
                          have n2_ := Aside0.mk (below_drew1 HB.out)
                          clear HO_0
                          clear HO139
                          clear HB
                          have HO_0 := n0_
                          have HO139 := n1_
                          have HB := n2_
                          clear n0_ n1_ n2_
                          obtain ⟨Ao61, co61, eo61⟩ := Kd.R_slice HO139.out
                          (first | subst eo61 | (injection eo61 with f1_ f2_ f3_; have f4_ := f1_.symm; have f5_ := f3_.symm; clear f1_ f2_ f3_; subst f4_; subst f5_))
                          have p141 : 0 ≤ ((ji46) : Int) := of_decide_eq_true (by first | (with_reducible assumption) | assumption)
                          have q141 : (ji46) < (y137.length : Int) := of_decide_eq_true (by first | (with_reducible assumption) | assumption)
                          obtain ⟨ad141, e141, hx141_0⟩ := Kd.at_int (Kd.R_reads' HO139.out).2.2 (ji46) p141 q141
                          cases e141
                          replace p141 := eq_true p141
                          replace q141 := eq_true q141
                          have p52 : 0 ≤ ((ji46) : Int) := of_decide_eq_true (by first | (with_reducible assumption) | assumption)
                          have q52 : ((ji46) : Int) < ((y137.length : Int) : Int) := of_decide_eq_true (by first | (with_reducible assumption) | assumption)
                          obtain ⟨go52, co52, eo52, gb52, gl52, cl52, HG52⟩ := Kd.R_form HO139.out (by omega)
                          (first | cases eo52 | (injection eo52 with ea_ en_ ec_; (first | subst ea_ | (injection ea_ with ea_; subst ea_)); subst ec_; clear en_))
                          have GB52 := Aside0.mk gb52
                          have GG52 := Aside0.mk HG52
                          clear gb52 gl52 HG52
                          (first | simp only [add_plain] at hx141_0 | skip)
                          obtain ⟨hx52_0, hf52_0⟩ := Kd.R_celln 0 HO139.out ((ji46) : Int) p52 q52
                          replace p52 := eq_true p52
                          replace q52 := eq_true q52
                          have HP62 := Kd.R_putn HO139.out ((ji46) : Int) (Go.bits .xor .u8 (rd y137 (ji46)) (ji51))
                          rw [← Ny142.out] at HP62
                          have HQ62 := Aside0.mk HP62
                          clear HP62
                          refine start_ (n := 14) (S := fun w' => w'.cell? ⟨go52, ((ji46)).toNat, none⟩ = some (.int .u8 (rd y137 (ji46)))) (ds := [13]) #[false, false, false, false, false, false, false, false, false, false, false, false, false, false] (by kernel_rfl) rfl rfl (hx141_0) (fun hHeld => ?_); refine with_tabW cordwainlaw2_CrcGoes.tab12 cordwainlaw2_CrcGoes.bits12 (fun HT_ HW_ => ?_)
                          generalize w59.drew = w60 at HO_0 HO139 HB GG52 HQ62 hf52_0 hx141_0 hx52_0 hHeld ⊢
                          refine pure_ (i := 0) (N := some 56) (v := ?_) (a' := ?_) #[true, false, false, false, false, false, false, false, false, false, false, false, false, false] rfl rfl (any_of HT_.out (by kernel_rfl)) (fun _ _ _ h => h) (Or.inl ⟨by rfl, ?_⟩) ?_ ?_
                          rotate_left
                          · intro w'
                            go_simp
                            with_reducible rfl
                          rotate_left
                          · simp only [Act.put, List.setIfInBounds_toArray, List.set_cons_zero, List.set_cons_succ, i64_w, i32_w]
                            rfl
                          refine pure_ (i := 1) (N := some 57) (v := ?_) (a' := ?_) #[true, true, false, false, false, false, false, false, false, false, false, false, false, false] rfl rfl (any_of HT_.out (by kernel_rfl)) (fun _ _ _ h => h) (Or.inl ⟨by rfl, ?_⟩) ?_ ?_
                          rotate_left
                          · intro w'
                            go_simp
                            with_reducible rfl
                          rotate_left
                          · simp only [Act.put, List.setIfInBounds_toArray, List.set_cons_zero, List.set_cons_succ, i64_w, i32_w]
                            rfl
                          refine pure_ (i := 2) (N := some 58) (v := ?_) (a' := ?_) #[true, true, true, false, false, false, false, false, false, false, false, false, false, false] rfl rfl (any_of HT_.out (by kernel_rfl)) (fun _ _ _ h => h) (Or.inl ⟨by rfl, ?_⟩) ?_ ?_
                          rotate_left
                          · intro w'
                            go_simp
                            with_reducible rfl
                          rotate_left
                          · simp only [Act.put, List.setIfInBounds_toArray, List.set_cons_zero, List.set_cons_succ, i64_w, i32_w]
                            rfl
                          refine pure_ (i := 3) (N := some 59) (v := ?_) (a' := ?_) #[true, true, true, true, false, false, false, false, false, false, false, false, false, false] rfl rfl (any_of HT_.out (by kernel_rfl)) (fun _ _ _ h => h) (Or.inl ⟨by rfl, ?_⟩) ?_ ?_
                          rotate_left
                          · intro w'
                            go_simp
                            with_reducible rfl
                          rotate_left
                          · simp only [Act.put, List.setIfInBounds_toArray, List.set_cons_zero, List.set_cons_succ, i64_w, i32_w]
                            rfl
                          refine pure_ (i := 4) (N := some 60) (v := ?_) (a' := ?_) #[true, true, true, true, true, false, false, false, false, false, false, false, false, false] rfl rfl (any_of HT_.out (by kernel_rfl)) (fun _ _ _ h => h) (Or.inl ⟨by rfl, ?_⟩) ?_ ?_
                          rotate_left
                          · intro w'
                            go_simp
                            with_reducible rfl
                          rotate_left
                          · simp only [Act.put, List.setIfInBounds_toArray, List.set_cons_zero, List.set_cons_succ, i64_w, i32_w]
                            rfl
                          refine pure_ (i := 5) (N := some 61) (v := ?_) (a' := ?_) #[true, true, true, true, true, true, false, false, false, false, false, false, false, false] rfl rfl (any_of HT_.out (by kernel_rfl)) (fun _ _ _ h => h) (Or.inl ⟨by rfl, ?_⟩) ?_ ?_
                          rotate_left
                          · intro w'
                            go_simp
                            with_reducible rfl
                          rotate_left
                          · simp only [Act.put, List.setIfInBounds_toArray, List.set_cons_zero, List.set_cons_succ, i64_w, i32_w]
                            rfl
                          refine pure_ (i := 6) (N := some 62) (v := ?_) (a' := ?_) #[true, true, true, true, true, true, true, false, false, false, false, false, false, false] rfl rfl (any_of HT_.out (by kernel_rfl)) (fun _ _ _ h => h) (Or.inl ⟨by rfl, ?_⟩) ?_ ?_
                          rotate_left
                          · intro w'
                            go_simp
                            with_reducible rfl
                          rotate_left
                          · simp only [Act.put, List.setIfInBounds_toArray, List.set_cons_zero, List.set_cons_succ, i64_w, i32_w]
                            rfl
                          refine pure_ (i := 8) (N := some 64) (v := ?_) (a' := ?_) #[true, true, true, true, true, true, true, false, true, false, false, false, false, false] rfl rfl (any_of HT_.out (by kernel_rfl)) (fun _ _ _ h => h) (Or.inl ⟨by rfl, ?_⟩) ?_ ?_
                          rotate_left
                          · intro w'
                            go_simp
                            with_reducible rfl
                          rotate_left
                          · simp only [Act.put, List.setIfInBounds_toArray, List.set_cons_zero, List.set_cons_succ, i64_w, i32_w]
                            rfl
                          refine pure_ (i := 9) (N := some 65) (v := ?_) (a' := ?_) #[true, true, true, true, true, true, true, false, true, true, false, false, false, false] rfl rfl (any_of HT_.out (by kernel_rfl)) (fun _ _ _ h => h) (Or.inl ⟨by rfl, ?_⟩) ?_ ?_
                          rotate_left
                          · intro w'
                            go_simp
                            with_reducible rfl
                          rotate_left
                          · simp only [Act.put, List.setIfInBounds_toArray, List.set_cons_zero, List.set_cons_succ, i64_w, i32_w]
                            rfl
                          refine pure_ (i := 10) (N := some 66) (v := ?_) (a' := ?_) #[true, true, true, true, true, true, true, false, true, true, true, false, false, false] rfl rfl (any_of HT_.out (by kernel_rfl)) (fun _ _ _ h => h) (Or.inl ⟨by rfl, ?_⟩) ?_ ?_
                          rotate_left
                          · intro w'
                            go_simp
                            with_reducible rfl
                          rotate_left
                          · simp only [Act.put, List.setIfInBounds_toArray, List.set_cons_zero, List.set_cons_succ, i64_w, i32_w]
                            rfl
                          refine take_ (i := 7) (N := some 63) (v := ?_) (a' := ?_) #[true, true, true, true, true, true, true, true, true, true, true, false, false, false] rfl rfl (take_ofW HT_.out HW_.out (by kernel_rfl)) (fun _ _ _ h => h) (Or.inl ⟨by rfl, ?_⟩) hHeld ?_ ?_
                          rotate_left
                          · intro w' s0
                            go_simp
                            with_reducible rfl
                          rotate_left
                          · simp only [Act.put, List.setIfInBounds_toArray, List.set_cons_zero, List.set_cons_succ, i64_w, i32_w]
                            rfl
                          refine pure_ (i := 11) (N := some 67) (v := ?_) (a' := ?_) #[true, true, true, true, true, true, true, true, true, true, true, true, false, false] rfl rfl (any_of HT_.out (by kernel_rfl)) (fun _ _ _ h => h) (Or.inl ⟨by rfl, ?_⟩) ?_ ?_
                          rotate_left
                          · intro w'
                            go_simp
                            with_reducible rfl
                          rotate_left
                          · simp only [Act.put, List.setIfInBounds_toArray, List.set_cons_zero, List.set_cons_succ, i64_w, i32_w]
                            rfl
                          refine pure_ (i := 12) (N := some 68) (v := ?_) (a' := ?_) #[true, true, true, true, true, true, true, true, true, true, true, true, true, false] rfl rfl (any_of HT_.out (by kernel_rfl)) (fun _ _ _ h => h) (Or.inl ⟨by rfl, ?_⟩) ?_ ?_
                          rotate_left
                          · intro w'
                            go_simp
                            with_reducible rfl
                          rotate_left
                          · simp only [Act.put, List.setIfInBounds_toArray, List.set_cons_zero, List.set_cons_succ, i64_w, i32_w]
                            rfl
                          refine last_ (i := 13) (N := none) #[true, true, true, true, true, true, true, true, true, true, true, true, true, true] rfl rfl (one_of HT_.out (by kernel_rfl)) (by decide) (fun K hK => ?_)
                          refine skip_ (w1 := ?_) (by rfl) rfl ?_ ?_
                          rotate_left
                          · go_simp
                            rfl
                          refine hK.out _ _ ?_
                          clear hK K
                          refine done_ (done_of HT_.out (by kernel_rfl)) ?_
                          have n0_ : Aside0 (Kd.V (Kd.int .u8) 5 (w60.setCell ⟨go52, ((ji46) : Int).toNat, none⟩ (.int .u8 (Go.bits .xor .u8 (rd y137 (ji46)) (ji51)))) w.heap.size (fun k_ => ((P0_ k_ ∨ P1_ k_) ∨ w.heap.size ≤ k_) ∧ some k_ ≠ (.slice (some ⟨go52, 0, none⟩) y137.length co61 : Value).ownBlock) (.slice A0 l0.length c0) l0) := ⟨by (with_reducible repeat (first | apply Kd.V_alloc | apply Kd.V_drewN | apply Kd.V_drew)); exact Kd.V_mono (Kd.V_far (p := ⟨go52, ((ji46) : Int).toNat, none⟩) (Kd.V_mono HO_0.out (fun k_ hk => (⟨hk, fun e_ => hk.2 (by rw [e_]; rfl)⟩ : _ ∧ k_ ≠ go52))) (fun _ hk => hk.2) (.int .u8 (Go.bits .xor .u8 (rd y137 (ji46)) (ji51)))) (fun _ hk => ⟨hk.1.1, hk.1.2⟩)⟩
                          have n1_ : Aside0 (Kd.R (Kd.int .u8) 5 (w60.setCell ⟨go52, ((ji46) : Int).toNat, none⟩ (.int .u8 (Go.bits .xor .u8 (rd y137 (ji46)) (ji51)))) w.heap.size (fun k_ => (w.heap.size ≤ k_)) (.slice (some ⟨go52, 0, none⟩) y137.length co61) y142) := ⟨by (with_reducible repeat (first | apply Kd.R_alloc | apply Kd.R_drewN | apply Kd.R_drew)); exact HQ62.out⟩
                          have n2_ : Aside0 (Below w.heap.size w (w60.setCell ⟨go52, ((ji46) : Int).toNat, none⟩ (.int .u8 (Go.bits .xor .u8 (rd y137 (ji46)) (ji51))))) := ⟨by repeat (first | (with_reducible first | exact HB.out | apply below_alloc | apply pw_below_drewN | apply below_drew1 | refine below_set ?_ GB52.out) | exact HB.out)⟩
                          (try clear HO_0)
                          (try clear HO139)
                          (try clear HB)
                          generalize (w60.setCell ⟨go52, ((ji46) : Int).toNat, none⟩ (.int .u8 (Go.bits .xor .u8 (rd y137 (ji46)) (ji51)))) = w63 at n0_ n1_ n2_ ⊢
                          have HO_0 := n0_
                          have HO139 := n1_
                          have HB := n2_
                          clear n0_ n1_ n2_
                          try go_wp2_with (first | ((with_reducible refine gate_dst (N := 70) rfl ?_); (try (refine gate_guard (by rfl) ?_; dsimp only)); refine Kd.N_lit (Kd.slice 5 (Kd.int .u8)) _ 23 ?hg (N' := 70) ?hd (xs := ([y142] : List (List Int))) (inner := [.slice (some ⟨go52, 0, none⟩) y137.length co61]) (ok := (fun k_ => ((P0_ k_ ∨ P1_ k_) ∨ w.heap.size ≤ k_))) (okp := (fun k_ => ((P0_ k_ ∨ P1_ k_) ∨ w.heap.size ≤ k_))) ?hr ?hp (fun _ hk => hk) ((show ∀ k_, w63.heap.size ≤ k_ → (fun k_ => ((P0_ k_ ∨ P1_ k_) ∨ w.heap.size ≤ k_)) k_ from fun k_ hk => (.inr (Nat.le_trans (below_size (by repeat (first | (with_reducible first | exact HB.out | apply below_alloc | apply pw_below_drewN | apply below_drew1) | exact HB.out))) hk))) _ (Nat.le_refl _)) (Below.refl _ _) (Nat.le_refl _) (by simp) ?_; (case hd => rfl); (case hg => rfl); (case hr => first | (go_simp; done) | (go_simp; rfl)); (case hp => exact (Reps.one (show Kd.FK (Kd.slice 5 (Kd.int .u8)) _ _ y142 [.slice (some ⟨go52, 0, none⟩) y137.length co61] from (Go.Proofs.Ytakodondlmiklaa.PrintConst.Kd.FK_slice_len (Kd.R_reads' (Kd.R_mono (ok' := (fun k_ => ((P0_ k_ ∨ P1_ k_) ∨ w.heap.size ≤ k_))) (HO139.out) (fun k_ hk => (.inr (hk))))).2.1 (Kd.R_F (Kd.R_mono (ok' := (fun k_ => ((P0_ k_ ∨ P1_ k_) ∨ w.heap.size ≤ k_))) (HO139.out) (fun k_ hk => (.inr (hk))))))) (Reps.none _ _))); intro v144 w64 ho65 hb hg_ hnew_; clear hg_ hnew_; (first | rw [← Ny143.out] at ho65 | (simp only [Int.reduceToNat] at ho65; rw [← Ny143.out] at ho65)); have n0_ := Aside0.mk (Kd.V_elder' (by (with_reducible repeat (first | apply Kd.V_alloc | apply Kd.V_drewN | apply Kd.V_drew)); exact HO_0.out) (Kd.N_base ho65) hb); have n1_ := Aside0.mk (Kd.N_lower ho65 (below_size (by repeat (first | (with_reducible first | exact HB.out | apply below_alloc | apply pw_below_drewN | apply below_drew1) | exact HB.out)))); have n2_ := Aside0.mk (below_step (by repeat (first | (with_reducible first | exact HB.out | apply below_alloc | apply pw_below_drewN | apply below_drew1) | exact HB.out)) hb); clear HO_0; clear HB; clear HO139; have HO_0 := n0_; have HO145 := n1_; have HB := n2_; clear n0_ n1_ n2_; clear hb ho65; obtain ⟨Ao66, co66, eo66⟩ := Kd.N_slice HO145.out; subst eo66) | ((with_reducible refine gate_callee (f := 32) rfl ?_); refine goesL_ (some 71) rfl rfl Try.func32 (by kernel_rfl) rfl #[.slice Ao66 y143.length co66] rfl (by (try simp only [List.map_toArray, List.map_cons, List.map_nil]); first | done | rfl | (simp only [List.length_drop, List.length_take]; rfl)) ?_; (with_reducible refine (crc_Sum.calls kj11 _ _ y143 t146 _ ?side1 ?side2 A53.out).mono ?_); (case side1 => repeat (first | exact (Kd.N_reads' HO145.out).2.2 | (with_reducible refine Kd.C_alloc ?_ _) | (with_reducible refine Kd.C_drewN ?_ _) | (with_reducible refine Kd.C_drew ?_))); (case side2 => exact (Kd.N_reads' HO145.out).2.1); rintro e w' ⟨rfl, ⟨nd, rfl⟩⟩; refine ⟨_, rfl, ?_⟩; (try (rw [drewN_self w64]; generalize hq_ : World.drewN w64 _ = w64; have n0_ : Aside0 (Kd.N (Kd.slice 5 (Kd.int .u8)) 23 w64 w.heap.size (fun k_ => (((P0_ k_ ∨ P1_ k_) ∨ w.heap.size ≤ k_))) (.slice Ao66 y143.length co66) y143) := ⟨by rw [← hq_]; exact (by (with_reducible repeat (first | apply Kd.N_alloc | apply Kd.N_drewN | apply Kd.N_drew)); exact HO145.out)⟩; have n1_ : Aside0 (Kd.V (Kd.int .u8) 5 w64 w.heap.size (fun k_ => ((P0_ k_ ∨ P1_ k_) ∨ w.heap.size ≤ k_) ∧ some k_ ≠ (.slice Ao66 y143.length co66 : Value).ownBlock) (.slice A0 l0.length c0) l0) := ⟨by rw [← hq_]; exact (by (with_reducible repeat (first | apply Kd.V_alloc | apply Kd.V_drewN | apply Kd.V_drew)); exact Kd.V_mono HO_0.out (fun _ hk => ⟨hk.1.1, hk.2⟩))⟩; have n2_ : Aside0 (Below w.heap.size w w64) := ⟨by rw [← hq_]; exact (by repeat (first | (with_reducible first | exact HB.out | apply below_alloc | apply pw_below_drewN | apply below_drew1) | exact HB.out))⟩; clear HO145 HO_0 HB hq_; have HO145 := n0_; have HO_0 := n1_; have HB := n2_; clear n0_ n1_ n2_))) | ((with_reducible refine gate_dst (N := 73) rfl ?_); (try (refine gate_guard (by rfl) ?_; dsimp only)); refine Kd.N_lit (Kd.slice 5 (Kd.int .u8)) _ 23 ?hg (N' := 73) ?hd (xs := ([l0] : List (List Int))) (inner := [.slice A0 l0.length c0]) (ok := (fun k_ => ((P0_ k_ ∨ P1_ k_) ∨ w.heap.size ≤ k_) ∧ some k_ ≠ (.slice Ao66 y143.length co66 : Value).ownBlock)) (okp := (fun k_ => ((P0_ k_ ∨ P1_ k_) ∨ w.heap.size ≤ k_) ∧ some k_ ≠ (.slice Ao66 y143.length co66 : Value).ownBlock)) ?hr ?hp (fun _ hk => hk) ((show ∀ k_, w64.heap.size ≤ k_ → (fun k_ => ((P0_ k_ ∨ P1_ k_) ∨ w.heap.size ≤ k_) ∧ some k_ ≠ (.slice Ao66 y143.length co66 : Value).ownBlock) k_ from fun k_ hk => ⟨(.inr (Nat.le_trans (below_size (by repeat (first | (with_reducible first | exact HB.out | apply below_alloc | apply pw_below_drewN | apply below_drew1) | exact HB.out))) hk)), Kd.fresh' (Kd.N_lt (by (with_reducible repeat (first | apply Kd.N_alloc | apply Kd.N_drewN | apply Kd.N_drew)); exact HO145.out)) k_ hk⟩) _ (Nat.le_refl _)) (Below.refl _ _) (Nat.le_refl _) (by simp) ?_; (case hd => rfl); (case hg => rfl); (case hr => first | (go_simp; done) | (go_simp; rfl)); (case hp => exact (Reps.one (show Kd.FK (Kd.slice 5 (Kd.int .u8)) _ _ l0 [.slice A0 l0.length c0] from (Go.Proofs.Ytakodondlmiklaa.PrintConst.Kd.FK_slice_len (Kd.V_reads' (Kd.V_mono (ok' := (fun k_ => ((P0_ k_ ∨ P1_ k_) ∨ w.heap.size ≤ k_) ∧ some k_ ≠ (.slice Ao66 y143.length co66 : Value).ownBlock)) (HO_0.out) (fun k_ hk => ⟨hk.1, hk.2⟩))).2.1 (Kd.V_F (Kd.V_mono (ok' := (fun k_ => ((P0_ k_ ∨ P1_ k_) ∨ w.heap.size ≤ k_) ∧ some k_ ≠ (.slice Ao66 y143.length co66 : Value).ownBlock)) (HO_0.out) (fun k_ hk => ⟨hk.1, hk.2⟩))))) (Reps.none _ _))); intro v148 w67 ho68 hb hg_ hnew_; clear hg_ hnew_; (first | rw [← Ny147.out] at ho68 | (simp only [Int.reduceToNat] at ho68; rw [← Ny147.out] at ho68)); have n0_ := Aside0.mk (Kd.V_elder' (by (with_reducible repeat (first | apply Kd.V_alloc | apply Kd.V_drewN | apply Kd.V_drew)); exact HO_0.out) (Kd.N_base ho68) hb); have n1_ := Aside0.mk (Kd.N_elder' (by (with_reducible repeat (first | apply Kd.N_alloc | apply Kd.N_drewN | apply Kd.N_drew)); exact HO145.out) (Kd.N_base ho68) hb); have n2_ := Aside0.mk (Kd.N_lower ho68 (below_size (by repeat (first | (with_reducible first | exact HB.out | apply below_alloc | apply pw_below_drewN | apply below_drew1) | exact HB.out)))); have n3_ := Aside0.mk (below_step (by repeat (first | (with_reducible first | exact HB.out | apply below_alloc | apply pw_below_drewN | apply below_drew1) | exact HB.out)) hb); clear HO_0; clear HO145; clear HB; have HO_0 := n0_; have HO145 := n1_; have HO149 := n2_; have HB := n3_; clear n0_ n1_ n2_ n3_; clear hb ho68; obtain ⟨Ao69, co69, eo69⟩ := Kd.N_slice HO149.out; subst eo69) | ((with_reducible refine gate_callee (f := 32) rfl ?_); refine goesL_ (some 74) rfl rfl Try.func32 (by kernel_rfl) rfl #[.slice Ao69 y147.length co69] rfl (by (try simp only [List.map_toArray, List.map_cons, List.map_nil]); first | done | rfl | (simp only [List.length_drop, List.length_take]; rfl)) ?_; (with_reducible refine (crc_Sum.calls kj11 _ _ y147 t150 _ ?side1 ?side2 A54.out).mono ?_); (case side1 => repeat (first | exact (Kd.N_reads' HO149.out).2.2 | (with_reducible refine Kd.C_alloc ?_ _) | (with_reducible refine Kd.C_drewN ?_ _) | (with_reducible refine Kd.C_drew ?_))); (case side2 => exact (Kd.N_reads' HO149.out).2.1); rintro e w' ⟨rfl, ⟨nd, rfl⟩⟩; refine ⟨_, rfl, ?_⟩) | ((with_reducible refine gate_callee (f := 31) rfl ?_); refine goesL_ (some 76) rfl rfl Try.func31 (by kernel_rfl) rfl #[] rfl (by (try simp only [List.map_toArray, List.map_cons, List.map_nil]); first | done | rfl | (simp only [List.length_drop, List.length_take]; rfl)) ?_; (with_reducible refine (cordwainlaw2_awake.calls kj11  t151 _ A56.out).mono ?_); rintro e w70 ⟨rfl, hb⟩; refine ⟨_, rfl, ?_⟩; have n0_ := Aside0.mk (Kd.V_below (by (with_reducible repeat (first | apply Kd.V_alloc | apply Kd.V_drewN | apply Kd.V_drew)); exact HO_0.out) hb); have n1_ := Aside0.mk (Kd.N_below (by (with_reducible repeat (first | apply Kd.N_alloc | apply Kd.N_drewN | apply Kd.N_drew)); exact HO145.out) hb); have n2_ := Aside0.mk (Kd.N_below (by (with_reducible repeat (first | apply Kd.N_alloc | apply Kd.N_drewN | apply Kd.N_drew)); exact HO149.out) hb); have n3_ := Aside0.mk (below_step (by repeat (first | (with_reducible first | exact HB.out | apply below_alloc | apply pw_below_drewN | apply below_drew1) | exact HB.out)) hb); clear HO_0; clear HO145; clear HO149; clear HB; have HO_0 := n0_; have HO145 := n1_; have HO149 := n2_; have HB := n3_; clear n0_ n1_ n2_ n3_; (try clear hb); (try clear hb2); (try clear hk); (try clear hi)))
                          go_ret
                          exact ⟨by first | rfl | (simp [errW_none, errW_some] <;> rfl) | (simp only [← hji46, ← hji49, ← hji51]; first | rfl | (simp [errW_none, errW_some] <;> rfl)) | (simp [*, errW_none, errW_some] <;> rfl), by repeat (first | (with_reducible first | exact HB.out | apply below_alloc | apply pw_below_drewN | apply below_drew1) | exact HB.out)⟩
                      · rw [if_neg c50] at H
                        exact absurd H (by simp)
                    · rw [if_neg c48] at H
                      exact absurd H (by simp)
                  · rw [if_neg c47] at H
                    exact absurd H (by simp)
                · rw [if_neg c44] at H
                  exact absurd H (by simp)
              · rw [if_neg c43] at H
                have c43b0 : decide (0 < (l0.length : Int)) = false := decide_eq_false c43
                have c43b1 : decide (0 < l0.length) = false := decide_eq_false (by omega)
                clear c43
                replace H := Option.bind_eq_some_iff.mp H
                obtain ⟨t152, A710, H⟩ := H
                replace H : (some t152) = some r := H
                have A71 := Aside0.mk A710
                clear A710
                obtain rfl := Option.some.inj H
                go_wp2_with (first | ((with_reducible refine gate_callee (f := 31) rfl ?_); refine goesL_ (some 76) rfl rfl Try.func31 (by kernel_rfl) rfl #[] rfl (by (try simp only [List.map_toArray, List.map_cons, List.map_nil]); first | done | rfl | (simp only [List.length_drop, List.length_take]; rfl)) ?_; (with_reducible refine (cordwainlaw2_awake.calls kj11  t152 _ A71.out).mono ?_); rintro e w72 ⟨rfl, hb⟩; refine ⟨_, rfl, ?_⟩; have n0_ := Aside0.mk (Kd.V_below (by (with_reducible repeat (first | apply Kd.V_alloc | apply Kd.V_drewN | apply Kd.V_drew)); exact HO_0.out) hb); have n1_ := Aside0.mk (below_step (by repeat (first | (with_reducible first | exact HB.out | apply below_alloc | apply pw_below_drewN | apply below_drew1) | exact HB.out)) hb); clear HO_0; clear HB; have HO_0 := n0_; have HB := n1_; clear n0_ n1_; (try clear hb); (try clear hb2); (try clear hk); (try clear hi)))
                go_ret
                exact ⟨by first | rfl | (simp [errW_none, errW_some] <;> rfl) | (simp [*, errW_none, errW_some] <;> rfl), by repeat (first | (with_reducible first | exact HB.out | apply below_alloc | apply pw_below_drewN | apply below_drew1) | exact HB.out)⟩

/-- THE ONE PURE STATEMENT of cordwainlaw2_CrcGoes: yours. -/
def cordwainlaw2_CrcGoes.Pure : Prop := ∀ (l0 : List Int) (l1 : List Int) (a2 : Int), l0.length ≤ maxLen → l0.length * 1 ≤ 140737488351232 → (∀ x ∈ l0, (Lit.int .u8 x).wf = true) → l1.length ≤ maxLen → l1.length * 1 ≤ 140737488351232 → (∀ x ∈ l1, (Lit.int .u8 x).wf = true) → (Lit.int .i64 a2).wf = true → ∃ k, cordwainlaw2_CrcGoes.f k l0 l1 a2 = some true
theorem cordwainlaw2_CrcGoes.walk (P : cordwainlaw2_CrcGoes.Pure) (a0 : Option Addr) (len0 cap0 : Nat) (z0 : List Int) (a1 : Option Addr) (len1 cap1 : Nat) (z1 : List Int) (a2 : Int) (w : World) (w0 : (a0 = none ∧ len0 = 0 ∧ cap0 = 0 ∧ z0 = []) ∨ ∃ x, a0 = some x ∧ len0 ≤ cap0 ∧ cap0 ≤ maxLen ∧ z0.length = cap0 ∧ (∀ i, i < z0.length → w.cell? (x.add i) = some (.int .u8 (z0.getD i 0))) ∧ ∀ n ∈ z0, (Lit.int .u8 n).wf = true) (y0 : len0 * 1 ≤ 140737488351232) (w1 : (a1 = none ∧ len1 = 0 ∧ cap1 = 0 ∧ z1 = []) ∨ ∃ x, a1 = some x ∧ len1 ≤ cap1 ∧ cap1 ≤ maxLen ∧ z1.length = cap1 ∧ (∀ i, i < z1.length → w.cell? (x.add i) = some (.int .u8 (z1.getD i 0))) ∧ ∀ n ∈ z1, (Lit.int .u8 n).wf = true) (y1 : len1 * 1 ≤ 140737488351232) (w2 : (Lit.int .i64 a2).wf = true) :
    Calls Try.prog 9 #[.slice a0 len0 cap0, .slice a1 len1 cap1, .int .i64 a2] w fun e w' => e = .returned (.bool true) ∧ Below w.heap.size w w' := by
  obtain ⟨l0, rfl, hr0, hm0, hw0, hc0⟩ := ReadsInt.ofRowC w0
  obtain ⟨l1, rfl, hr1, hm1, hw1, hc1⟩ := ReadsInt.ofRowC w1
  obtain ⟨k, h⟩ := P l0 l1 a2 hm0 y0 hw0 hm1 y1 hw1 w2
  refine (cordwainlaw2_CrcGoes.calls k (fun k_ => k_ < w.heap.size) _ _ l0 (fun k_ => k_ < w.heap.size) _ _ l1 a2 true w (fun _ h_ => Kd.far_C 0 (Kd.C_of_reads (d := (0 : Int)) (h1 := fun _ => rfl) hr0) h_) (Kd.V_mk hc0 (Kd.C_F (Kd.heap_int .u8) (Kd.C_of_reads (d := (0 : Int)) (h1 := fun _ => rfl) hr0))) (fun _ h_ => Kd.far_C 0 (Kd.C_of_reads (d := (0 : Int)) (h1 := fun _ => rfl) hr1) h_) (Kd.V_mk hc1 (Kd.C_F (Kd.heap_int .u8) (Kd.C_of_reads (d := (0 : Int)) (h1 := fun _ => rfl) hr1))) rfl h).mono ?_
  rintro e w' ⟨rfl, hd⟩
  exact ⟨rfl, hd⟩

end Go.Proofs.Ytakodondlmiklaa.PCrcGoes
