-- printed for this claim by a program of the session's own (pr2.py) over the kit's printer; not trusted: Lean checks it
import Derived.Test.YtakodondlmiklaaPCrcSumsx0
import Derived.Test.YtakodondlmiklaaPCrcSumsx1
namespace Go.Proofs.Ytakodondlmiklaa.PCrcSums
open Go.RowKit Go.Proofs.YtakodondlmiklaaW.PrintWords Go.Proofs.YtakodondlmiklaaW.PrintLast Go.Proofs.YtakodondlmiklaaW.PrintMore
attribute [local go_sem] max2_int min2_int max_two min_two max_three min_three max_four min_four   -- for this text's walks alone
set_option linter.unusedVariables false
set_option linter.unusedSimpArgs false

/-! ### cordwainlaw2_CrcSums: function 8 -/
mutual
def cordwainlaw2_CrcSums.j1 : Nat → List (List Int) → Int → Option (Bool)
  | 0, _, _ => none
  | k + 1, x0, x3 => if x3 > 2000 then ((cordwainlaw2_awake.f k).bind fun t124 => (some t124)) else ((crc_Sum.f k ([] : List (List Int))).bind fun t126 => (cordwainlaw2_CrcSums.l1 k x0 ([] : List Int) t126 0 0))
def cordwainlaw2_CrcSums.l1 : Nat → List (List Int) → List Int → Int → Int → Int → Option (Bool)
  | 0, _, _, _, _, _ => none
  | k + 1, x0, x5, x7, x8, x126000 => if x8 < (x0.length : Int) then (if 0 ≤ x8 then (if x5.length + (rd_L2 x0 x8).length < 140737488355328 then ((crc_More.f k x7 (rd_L2 x0 x8)).bind fun t132 => ((crc_Roller_Add.f k x126000 (rd_L2 x0 x8)).bind fun t134 => (cordwainlaw2_CrcSums.l1 k x0 (x5 ++ (rd_L2 x0 x8)) t132 (wrap64 (x8 + 1)) t134))) else (none)) else (none)) else ((cordwainref1_Sum.f k x5).bind fun t135 => ((crc_Sum.f k (([x5] : List (List Int)))).bind fun t139 => (if t139 = t135 then ((crc_Sum.f k x0).bind fun t140 => (if t140 = t135 then (if x7 = t135 then ((crc_Roller_Sum.f x126000).bind fun bt141 => (if bt141.1 = t135 then ((cordwainlaw2_awake.f k).bind fun t143 => (some t143)) else (some false))) else (some false)) else (some false))) else (some false))))
def cordwainlaw2_CrcSums.l0 : Nat → List (List Int) → Int → Int → Option (Bool)
  | 0, _, _, _ => none
  | k + 1, x0, x3, x4 => if x4 < (x0.length : Int) then (if x3 ≤ 2000 then (if 0 ≤ x4 then ((cordwainalike_Sum.f k x3 (([((rd_L2 x0 x4).length : Int), 1] : List Int))).bind fun t123 => (cordwainlaw2_CrcSums.l0 k x0 t123 (wrap64 (x4 + 1)))) else (none)) else (cordwainlaw2_CrcSums.j1 k x0 x3)) else (cordwainlaw2_CrcSums.j1 k x0 x3)
end
def cordwainlaw2_CrcSums.f (k : Nat) (l0 : List (List Int)) : Option (Bool) := cordwainlaw2_CrcSums.l0 k l0 0 0
theorem cordwainlaw2_CrcSums.mono_l : ∀ k, (∀ y0 y1, LeO (cordwainlaw2_CrcSums.j1 k y0 y1) (cordwainlaw2_CrcSums.j1 (k + 1) y0 y1)) ∧ (∀ y0 y1 y2 y3 y4, LeO (cordwainlaw2_CrcSums.l1 k y0 y1 y2 y3 y4) (cordwainlaw2_CrcSums.l1 (k + 1) y0 y1 y2 y3 y4)) ∧ (∀ y0 y1 y2, LeO (cordwainlaw2_CrcSums.l0 k y0 y1 y2) (cordwainlaw2_CrcSums.l0 (k + 1) y0 y1 y2))
  | 0 => ⟨fun _ _ r h => by simp [cordwainlaw2_CrcSums.j1] at h, fun _ _ _ _ _ r h => by simp [cordwainlaw2_CrcSums.l1] at h, fun _ _ _ r h => by simp [cordwainlaw2_CrcSums.l0] at h⟩
  | k + 1 => by
    obtain ⟨ih0, ih1, ih2⟩ := cordwainlaw2_CrcSums.mono_l k
    refine ⟨?_, ?_, ?_⟩
    · intro y0 y1
      unfold cordwainlaw2_CrcSums.j1
      repeat' first
      | (with_reducible exact ih0 _ _)
      | (with_reducible exact ih1 _ _ _ _ _)
      | (with_reducible exact ih2 _ _ _)
      | (with_reducible exact cordwainalike_Sum.mono _ _ _)
      | (with_reducible exact cordwainlaw2_awake.mono _)
      | (with_reducible exact cordwainref1_Sum.mono _ _)
      | (with_reducible exact crc_More.mono _ _ _)
      | (with_reducible exact crc_Roller_Add.mono _ _ _)
      | (with_reducible exact crc_Sum.mono _ _)
      | (with_reducible exact LeO.refl _)
      | (with_reducible exact LeO.none _)
      | (with_reducible refine LeO.ite ?_ ?_)
      | (with_reducible refine LeO.bind ?_ (fun _ => ?_))
      | exact ih0 _ _
      | exact ih1 _ _ _ _ _
      | exact ih2 _ _ _
      | exact cordwainalike_Sum.mono _ _ _
      | exact cordwainlaw2_awake.mono _
      | exact cordwainref1_Sum.mono _ _
      | exact crc_More.mono _ _ _
      | exact crc_Roller_Add.mono _ _ _
      | exact crc_Sum.mono _ _
      | exact LeO.none _
      | refine LeO.ite ?_ ?_
      | refine LeO.bind ?_ (fun _ => ?_)
    · intro y0 y1 y2 y3 y4
      unfold cordwainlaw2_CrcSums.l1
      repeat' first
      | (with_reducible exact ih0 _ _)
      | (with_reducible exact ih1 _ _ _ _ _)
      | (with_reducible exact ih2 _ _ _)
      | (with_reducible exact cordwainalike_Sum.mono _ _ _)
      | (with_reducible exact cordwainlaw2_awake.mono _)
      | (with_reducible exact cordwainref1_Sum.mono _ _)
      | (with_reducible exact crc_More.mono _ _ _)
      | (with_reducible exact crc_Roller_Add.mono _ _ _)
      | (with_reducible exact crc_Sum.mono _ _)
      | (with_reducible exact LeO.refl _)
      | (with_reducible exact LeO.none _)
      | (with_reducible refine LeO.ite ?_ ?_)
      | (with_reducible refine LeO.bind ?_ (fun _ => ?_))
      | exact ih0 _ _
      | exact ih1 _ _ _ _ _
      | exact ih2 _ _ _
      | exact cordwainalike_Sum.mono _ _ _
      | exact cordwainlaw2_awake.mono _
      | exact cordwainref1_Sum.mono _ _
      | exact crc_More.mono _ _ _
      | exact crc_Roller_Add.mono _ _ _
      | exact crc_Sum.mono _ _
      | exact LeO.none _
      | refine LeO.ite ?_ ?_
      | refine LeO.bind ?_ (fun _ => ?_)
    · intro y0 y1 y2
      unfold cordwainlaw2_CrcSums.l0
      repeat' first
      | (with_reducible exact ih0 _ _)
      | (with_reducible exact ih1 _ _ _ _ _)
      | (with_reducible exact ih2 _ _ _)
      | (with_reducible exact cordwainalike_Sum.mono _ _ _)
      | (with_reducible exact cordwainlaw2_awake.mono _)
      | (with_reducible exact cordwainref1_Sum.mono _ _)
      | (with_reducible exact crc_More.mono _ _ _)
      | (with_reducible exact crc_Roller_Add.mono _ _ _)
      | (with_reducible exact crc_Sum.mono _ _)
      | (with_reducible exact LeO.refl _)
      | (with_reducible exact LeO.none _)
      | (with_reducible refine LeO.ite ?_ ?_)
      | (with_reducible refine LeO.bind ?_ (fun _ => ?_))
      | exact ih0 _ _
      | exact ih1 _ _ _ _ _
      | exact ih2 _ _ _
      | exact cordwainalike_Sum.mono _ _ _
      | exact cordwainlaw2_awake.mono _
      | exact cordwainref1_Sum.mono _ _
      | exact crc_More.mono _ _ _
      | exact crc_Roller_Add.mono _ _ _
      | exact crc_Sum.mono _ _
      | exact LeO.none _
      | refine LeO.ite ?_ ?_
      | refine LeO.bind ?_ (fun _ => ?_)
theorem cordwainlaw2_CrcSums.mono : ∀ a0 k, LeO (cordwainlaw2_CrcSums.f k a0) (cordwainlaw2_CrcSums.f (k + 1) a0) := by
  intro a0 k
  obtain ⟨ih0, ih1, ih2⟩ := cordwainlaw2_CrcSums.mono_l k
  unfold cordwainlaw2_CrcSums.f
  repeat' first
      | (with_reducible exact ih0 _ _)
      | (with_reducible exact ih1 _ _ _ _ _)
      | (with_reducible exact ih2 _ _ _)
      | (with_reducible exact cordwainalike_Sum.mono _ _ _)
      | (with_reducible exact cordwainlaw2_awake.mono _)
      | (with_reducible exact cordwainref1_Sum.mono _ _)
      | (with_reducible exact crc_More.mono _ _ _)
      | (with_reducible exact crc_Roller_Add.mono _ _ _)
      | (with_reducible exact crc_Sum.mono _ _)
      | (with_reducible exact LeO.refl _)
      | (with_reducible exact LeO.none _)
      | (with_reducible refine LeO.ite ?_ ?_)
      | (with_reducible refine LeO.bind ?_ (fun _ => ?_))
      | exact ih0 _ _
      | exact ih1 _ _ _ _ _
      | exact ih2 _ _ _
      | exact cordwainalike_Sum.mono _ _ _
      | exact cordwainlaw2_awake.mono _
      | exact cordwainref1_Sum.mono _ _
      | exact crc_More.mono _ _ _
      | exact crc_Roller_Add.mono _ _ _
      | exact crc_Sum.mono _ _
      | exact LeO.none _
      | refine LeO.ite ?_ ?_
      | refine LeO.bind ?_ (fun _ => ?_)
set_option maxHeartbeats 8000000 in
set_option maxRecDepth 100000 in
theorem cordwainlaw2_CrcSums.calls (k : Nat) (A0 : Option Addr) (c0 : Nat) (l0 : List (List Int)) (r : Bool) (w : World) (hr0 : Kd.C (Kd.slice 5 (Kd.int .u8)) w A0 l0.length l0) (hc0 : l0.length ≤ c0) (hrt_ : r = true) (h : cordwainlaw2_CrcSums.f k l0 = some r) :
    Calls Try.prog 8 #[.slice A0 l0.length c0] w fun e w' => e = .returned (.bool r) ∧ Below w.heap.size w w' := by
  have hu57 := Try.underlying57
  have HR0 := Aside0.mk hr0
  have HC0 := Aside0.mk hc0
  clear hr0 hc0
  have HB := Aside0.mk (Below.refl w.heap.size w)
  have H : (cordwainlaw2_CrcSums.l0 k l0 0 0) = some r := h
  clear h
  have HRT_ := Aside0.mk hrt_
  clear hrt_
  have HC2 := Aside0.mk H
  clear H
  go_enter Try.func8, Try.ntmps8
  go_upto_block 0 with (fail)
  go_cut [3] (fun v3 wc => ∃ (kq : Nat) (x3_1 : Int), v3 = .int .i64 x3_1 ∧ Aside0 (cordwainlaw2_CrcSums.j1 kq l0 x3_1 = some r) ∧ Aside0 (kq ≤ k) ∧ Aside0 (Below w.heap.size w wc))
  case first =>
    have H := HC2.out
    clear HC2
    have H' := Aside0.mk H
    clear H
    go_wp2
    go_loopg [3, 4] k (fun kq v3 v4 w' => ∃ (x3_1 : Int) (x4_1 : Int), v3 = .int .i64 x3_1 ∧ v4 = .int .i64 x4_1 ∧ Aside0 (cordwainlaw2_CrcSums.l0 kq l0 x3_1 x4_1 = some r) ∧ Aside0 (kq ≤ k) ∧ Aside0 (Below w.heap.size w w'))
    case atStart => exact ⟨(0), (0), (by first | rfl | (simp; done) | (simp [*]; done)), (by first | rfl | (simp; done) | (simp [*]; done)), H', ⟨Nat.le_refl _⟩, ⟨by repeat (first | (with_reducible first | exact HB.out | apply below_alloc | apply pw_below_drewN | apply below_drew1) | exact HB.out)⟩⟩
    case round =>
      clear H'
      try clear p2
      obtain ⟨x3_1, x4_1, rfl, rfl, HA, HK1, HB⟩ := hrel
      cases gk with
      | zero => exact absurd HA.out (by simp [cordwainlaw2_CrcSums.l0])
      | succ k1 =>
        have H := HA.out
        clear HA
        simp only [cordwainlaw2_CrcSums.l0] at H
        by_cases c3 : x4_1 < (l0.length : Int)
        · rw [if_pos c3] at H
          have c3b0 : decide (x4_1 < (l0.length : Int)) = true := decide_eq_true c3
          clear c3
          (first | rw [c3b0] | (simp only [i64_w, i32_w]; rw [c3b0]) | skip)
          by_cases c4 : x3_1 ≤ 2000
          · rw [if_pos c4] at H
            have c4b0 : decide (x3_1 ≤ 2000) = true := decide_eq_true c4
            clear c4
            by_cases c5 : 0 ≤ x4_1
            · rw [if_pos c5] at H
              have c5b0 : decide (0 ≤ x4_1) = true := decide_eq_true c5
              clear c5
              obtain ⟨y120, hy120⟩ : ∃ y_ : List Int, y_ = (([((rd_L2 l0 x4_1).length : Int), 1] : List Int)) := ⟨_, rfl⟩
              replace H : ((cordwainalike_Sum.f k1 x3_1 y120).bind fun t123 => (cordwainlaw2_CrcSums.l0 k1 l0 t123 (wrap64 (x4_1 + 1)))) = some r := by first | (rw [hy120]; with_reducible exact H) | (have H2_ := (Option.bind_some _ _).symm.trans H; rw [hy120]; with_reducible exact H2_) | (have H2_ := (Option.bind_some _ _).symm.trans H; with_reducible exact H2_) | with_reducible exact H | (rw [hy120]; exact H) | exact H
              have Ny120 := Aside0.mk hy120
              clear hy120
              replace H := Option.bind_eq_some_iff.mp H
              obtain ⟨t123, A60, H⟩ := H
              replace H : (cordwainlaw2_CrcSums.l0 k1 l0 t123 (wrap64 (x4_1 + 1))) = some r := H
              have A6 := Aside0.mk A60
              clear A60
              have H' := Aside0.mk H
              clear H
              have p119 : 0 ≤ (x4_1 : Int) := of_decide_eq_true (by first | (with_reducible assumption) | assumption)
              have q119 : x4_1 < (l0.length : Int) := of_decide_eq_true (by first | (with_reducible assumption) | assumption)
              obtain ⟨ad119, A119_0, c119_0, e119, hx119_0, hl119_0, hi119_0⟩ := at_L2 HR0.out x4_1 p119 q119
              cases e119
              replace hx119_0 := (HB.out.cell (World.block_lt_of_cell? w _ hx119_0)).trans hx119_0
              have HR119_0 := Aside0.mk hi119_0
              have HC119_0 := Aside0.mk hl119_0
              clear hi119_0 hl119_0
              replace p119 := eq_true p119
              replace q119 := eq_true q119
              go_wp2_with (first | ((with_reducible refine gate_dst (N := 26) rfl ?_); refine Kd.R_lit (Kd.int .i64) _ 3 ?hg (N := 26) ?hd (xs := ([((rd_L2 l0 x4_1).length : Int), 1] : List Int)) (inner := [.int .i64 ((rd_L2 l0 x4_1).length : Int), .int .i64 1]) (ok := fun _ => True) (okp := fun _ => True) ?hr ?hp (fun _ hk => hk) trivial (Below.refl _ _) (Nat.le_refl _) (by simp) ?_; (case hd => rfl); (case hg => rfl); (case hr => first | (go_simp; done) | (go_simp; rfl)); (case hp => exact (Reps.one (show Kd.M (Kd.int .i64) _ _ _ ((rd_L2 l0 x4_1).length : Int) [.int .i64 ((rd_L2 l0 x4_1).length : Int)] from rfl) (Reps.one (show Kd.M (Kd.int .i64) _ _ _ 1 [.int .i64 1] from rfl) (Reps.none _ _)))); intro v121 w7 ho8 hb hg_ hnew_; clear hg_ hnew_; (first | rw [← Ny120.out] at ho8 | (simp only [Int.reduceToNat] at ho8; rw [← Ny120.out] at ho8)); have n0_ := Aside0.mk (Kd.R_lower ho8 (below_size (by repeat (first | (with_reducible first | exact HB.out | apply below_alloc | apply pw_below_drewN | apply below_drew1) | exact HB.out)))); have n1_ := Aside0.mk (below_step (by repeat (first | (with_reducible first | exact HB.out | apply below_alloc | apply pw_below_drewN | apply below_drew1) | exact HB.out)) hb); clear HB; have HO122 := n0_; have HB := n1_; clear n0_ n1_; clear hb ho8; obtain ⟨Ao9, co9, eo9⟩ := Kd.R_slice HO122.out; subst eo9) | ((with_reducible refine gate_callee (f := 30) rfl ?_); refine goesL_ (some 27) rfl rfl Try.func30 (by kernel_rfl) rfl #[.int .i64 x3_1, .slice Ao9 y120.length co9] rfl (by (try simp only [List.map_toArray, List.map_cons, List.map_nil]); first | done | rfl | (simp only [List.length_drop, List.length_take]; rfl)) ?_; (with_reducible refine (cordwainalike_Sum.calls k1 x3_1 _ _ y120 t123 _ ?side1 ?side2 A6.out).mono ?_); (case side1 => repeat (first | exact (Kd.R_reads' HO122.out).2.2 | (with_reducible refine Kd.C_alloc ?_ _) | (with_reducible refine Kd.C_drewN ?_ _) | (with_reducible refine Kd.C_drew ?_))); (case side2 => exact (Kd.R_reads' HO122.out).2.1); rintro e w' ⟨rfl, ⟨nd, rfl⟩⟩; refine ⟨_, rfl, ?_⟩))
              go_roundg k1
              case measure => have := HK1.out; omega
              case rel => exact ⟨(t123), (wrap64 (x4_1 + 1)), (by first | rfl | (simp; done) | (simp [*]; done)), (by first | rfl | (simp; done) | (simp [*]; done)), H', ⟨by have := HK1.out; omega⟩, ⟨by repeat (first | (with_reducible first | exact HB.out | apply below_alloc | apply pw_below_drewN | apply below_drew1) | exact HB.out)⟩⟩
            · rw [if_neg c5] at H
              exact absurd H (by simp)
          · rw [if_neg c4] at H
            have c4b0 : decide (x3_1 ≤ 2000) = false := decide_eq_false c4
            clear c4
            have H' := Aside0.mk H
            clear H
            go_wp2
            go_meet
            case rel => exact ⟨_, (x3_1), (by first | rfl | (simp; done) | (simp [*]; done)), H', ⟨by have := HK1.out; first | omega | exact Nat.le_refl _⟩, ⟨by repeat (first | (with_reducible first | exact HB.out | apply below_alloc | apply pw_below_drewN | apply below_drew1) | exact HB.out)⟩⟩
        · rw [if_neg c3] at H
          have c3b0 : decide (x4_1 < (l0.length : Int)) = false := decide_eq_false c3
          clear c3
          (first | rw [c3b0] | (simp only [i64_w, i32_w]; rw [c3b0]) | skip)
          have H' := Aside0.mk H
          clear H
          go_wp2
          go_meet
          case rel => exact ⟨_, (x3_1), (by first | rfl | (simp; done) | (simp [*]; done)), H', ⟨by have := HK1.out; first | omega | exact Nat.le_refl _⟩, ⟨by repeat (first | (with_reducible first | exact HB.out | apply below_alloc | apply pw_below_drewN | apply below_drew1) | exact HB.out)⟩⟩
  case rest =>
    clear HC2
    try clear c1
    try clear p1
    try clear q1
    try clear hx1
    try clear p2
    try clear c3
    try clear c3b0
    try clear c4
    try clear c4b0
    try clear c5
    try clear c5b0
    try clear p6
    try clear c8
    try clear hx119_0
    try clear p119
    try clear p2
    try clear q119
    obtain ⟨kq, x3_1, rfl, HA, HJ1, HB⟩ := hcut
    cases kq with
    | zero => exact absurd HA.out (by simp [cordwainlaw2_CrcSums.j1])
    | succ kj1 =>
      have H := HA.out
      clear HA
      simp only [cordwainlaw2_CrcSums.j1] at H
      by_cases c10 : x3_1 > 2000
      · rw [if_pos c10] at H
        have c10b0 : decide (2000 < x3_1) = true := decide_eq_true c10
        clear c10
        replace H := Option.bind_eq_some_iff.mp H
        obtain ⟨t124, A110, H⟩ := H
        replace H : (some t124) = some r := H
        have A11 := Aside0.mk A110
        clear A110
        obtain rfl := Option.some.inj H
        go_wp2_with (first | ((with_reducible refine gate_callee (f := 31) rfl ?_); refine goesL_ (some 30) rfl rfl Try.func31 (by kernel_rfl) rfl #[] rfl (by (try simp only [List.map_toArray, List.map_cons, List.map_nil]); first | done | rfl | (simp only [List.length_drop, List.length_take]; rfl)) ?_; (with_reducible refine (cordwainlaw2_awake.calls kj1  t124 _ A11.out).mono ?_); rintro e w12 ⟨rfl, hb⟩; refine ⟨_, rfl, ?_⟩; have n0_ := Aside0.mk (below_step (by repeat (first | (with_reducible first | exact HB.out | apply below_alloc | apply pw_below_drewN | apply below_drew1) | exact HB.out)) hb); clear HB; have HB := n0_; clear n0_; (try clear hb); (try clear hb2); (try clear hk); (try clear hi)))
        go_ret
        exact ⟨by first | rfl | (simp [errW_none, errW_some] <;> rfl) | (simp [*, errW_none, errW_some] <;> rfl), by repeat (first | (with_reducible first | exact HB.out | apply below_alloc | apply pw_below_drewN | apply below_drew1) | exact HB.out)⟩
      · rw [if_neg c10] at H
        have c10b0 : decide (2000 < x3_1) = false := decide_eq_false c10
        clear c10
        replace H := Option.bind_eq_some_iff.mp H
        obtain ⟨t126, A130, H⟩ := H
        replace H : (cordwainlaw2_CrcSums.l1 kj1 l0 ([] : List Int) t126 0 0) = some r := H
        have A13 := Aside0.mk A130
        clear A130
        have H' := Aside0.mk H
        clear H
        go_wp2_with (first | ((with_reducible refine gate_dst (N := 6) rfl ?_); refine box_event ?hg (N := 6) ?hd (cs := #[.int .u32 0]) (t := 57) ?hr ?_; (case hd => rfl); (case hg => rfl); (case hr => first | (go_simp; done) | (go_simp; rfl)); intro gb125 hg w14 hbox hb; have n0_ := Aside0.mk (below_step (by repeat (first | (with_reducible first | exact HB.out | apply below_alloc | apply pw_below_drewN | apply below_drew1) | exact HB.out)) hb); have n1_ := Aside0.mk ((show IsS57 w w14 gb125 0 from ⟨hbox, (by rw [hg]; exact (below_size (by repeat (first | (with_reducible first | exact HB.out | apply below_alloc | apply pw_below_drewN | apply below_drew1) | exact HB.out))) : w.heap.size ≤ gb125)⟩)); clear HB; have HB := n0_; have HI125 := n1_; clear n0_ n1_; clear hb hbox hg) | ((with_reducible refine gate_callee (f := 32) rfl ?_); refine goesL_ (some 31) rfl rfl Try.func32 (by kernel_rfl) rfl #[.slice none 0 0] rfl (by (try simp only [List.map_toArray, List.map_cons, List.map_nil]); first | done | rfl | (simp only [List.length_drop, List.length_take]; rfl)) ?_; (refine (crc_Sum.calls kj1 _ _ ([] : List (List Int)) t126 _ ?side1 ?side2 A13.out).mono ?_); (case side1 => exact Kd.C_nil _ _); (case side2 => exact Nat.le_refl _); rintro e w' ⟨rfl, ⟨nd, rfl⟩⟩; refine ⟨_, rfl, ?_⟩))
        go_loopg [5, 7, 8] kj1 (fun kq v5 v7 v8 w' => ∃ (x5_2 : List Int) (x7_2 : Int) (x8_2 : Int) (x126000_2 : Int), v7 = .int .u32 x7_2 ∧ v8 = .int .i64 x8_2 ∧ Aside0 (cordwainlaw2_CrcSums.l1 kq l0 x5_2 x7_2 x8_2 x126000_2 = some r) ∧ Aside0 (kq ≤ kj1) ∧ Aside0 (Kd.R (Kd.int .u8) 5 w' w.heap.size (fun _ => True) v5 x5_2) ∧ Aside0 (IsS57 w w' gb125 x126000_2) ∧ Aside0 (Below w.heap.size w w'))
        case atStart => exact ⟨(([] : List Int)), (t126), (0), (0), (by first | rfl | (simp; done) | (simp [*]; done)), (by first | rfl | (simp; done) | (simp [*]; done)), H', ⟨Nat.le_refl _⟩, ⟨by first | exact Kd.R_nil _ _ _ _ _ | exact Kd.N_nil _ _ _ _ _ | exact Kd.V_nil _ _ _ _ _ | exact Kd.Q_nil _ _ _ _ _ | exact Kd.S_nil _ _ _ _ _⟩, ⟨by repeat (first | (with_reducible first | exact HI125.out | apply IsS57.alloc | apply IsS57.drewN | apply IsS57.drew | apply IsS57.set_0) | exact HI125.out)⟩, ⟨by repeat (first | (with_reducible first | exact HB.out | apply below_alloc | apply pw_below_drewN | apply below_drew1 | refine below_set ?_ (IsS57.ge HI125.out)) | exact HB.out)⟩⟩
        case round =>
          clear H'
          try clear c1
          try clear p1
          try clear q1
          try clear hx1
          try clear p2
          try clear c3
          try clear c3b0
          try clear c4
          try clear c4b0
          try clear c5
          try clear c5b0
          try clear p6
          try clear c8
          try clear c10
          try clear c10b0
          try clear c11
          try clear p11
          try clear q11
          try clear hx11
          try clear hx119_0
          try clear p1
          try clear p119
          try clear p2
          try clear p6
          try clear q1
          try clear q119
          obtain ⟨x5_2, x7_2, x8_2, x126000_2, rfl, rfl, HA, HK2, HO_5, HI125, HB⟩ := hrel
          cases gk with
          | zero => exact absurd HA.out (by simp [cordwainlaw2_CrcSums.l1])
          | succ k2 =>
            have H := HA.out
            clear HA
            simp only [cordwainlaw2_CrcSums.l1] at H
            by_cases c15 : x8_2 < (l0.length : Int)
            · rw [if_pos c15] at H
              have c15b0 : decide (x8_2 < (l0.length : Int)) = true := decide_eq_true c15
              clear c15
              by_cases c16 : 0 ≤ x8_2
              · rw [if_pos c16] at H
                have c16b0 : decide (0 ≤ x8_2) = true := decide_eq_true c16
                clear c16
                by_cases c17 : x5_2.length + (rd_L2 l0 x8_2).length < 140737488355328
                · rw [if_pos c17] at H
                  have LMc17 := Aside0.mk c17
                  clear c17
                  obtain ⟨y128, hy128⟩ : ∃ y_ : List Int, y_ = (x5_2 ++ (rd_L2 l0 x8_2)) := ⟨_, rfl⟩
                  replace H : ((crc_More.f k2 x7_2 (rd_L2 l0 x8_2)).bind fun t132 => ((crc_Roller_Add.f k2 x126000_2 (rd_L2 l0 x8_2)).bind fun t134 => (cordwainlaw2_CrcSums.l1 k2 l0 y128 t132 (wrap64 (x8_2 + 1)) t134))) = some r := by first | (rw [hy128]; with_reducible exact H) | (have H2_ := (Option.bind_some _ _).symm.trans H; rw [hy128]; with_reducible exact H2_) | (have H2_ := (Option.bind_some _ _).symm.trans H; with_reducible exact H2_) | with_reducible exact H | (rw [hy128]; exact H) | exact H
                  have Ny128 := Aside0.mk hy128
                  clear hy128
                  replace H := Option.bind_eq_some_iff.mp H
                  obtain ⟨t132, A180, H⟩ := H
                  replace H : ((crc_Roller_Add.f k2 x126000_2 (rd_L2 l0 x8_2)).bind fun t134 => (cordwainlaw2_CrcSums.l1 k2 l0 y128 t132 (wrap64 (x8_2 + 1)) t134)) = some r := H
                  have A18 := Aside0.mk A180
                  clear A180
                  replace H := Option.bind_eq_some_iff.mp H
                  obtain ⟨t134, A190, H⟩ := H
                  replace H : (cordwainlaw2_CrcSums.l1 k2 l0 y128 t132 (wrap64 (x8_2 + 1)) t134) = some r := H
                  have A19 := Aside0.mk A190
                  clear A190
                  have H' := Aside0.mk H
                  clear H
                  have p127 : 0 ≤ (x8_2 : Int) := of_decide_eq_true (by first | (with_reducible assumption) | assumption)
                  have q127 : x8_2 < (l0.length : Int) := of_decide_eq_true (by first | (with_reducible assumption) | assumption)
                  obtain ⟨ad127, A127_0, c127_0, e127, hx127_0, hl127_0, hi127_0⟩ := at_L2 HR0.out x8_2 p127 q127
                  cases e127
                  replace hx127_0 := (HB.out.cell (World.block_lt_of_cell? w _ hx127_0)).trans hx127_0
                  have HR127_0 := Aside0.mk hi127_0
                  have HC127_0 := Aside0.mk hl127_0
                  clear hi127_0 hl127_0
                  replace p127 := eq_true p127
                  replace q127 := eq_true q127
                  go_wp2_with (first | ((with_reducible refine gate_builtin (b := .append) (xs := #[.tmp 38, .tmp 42]) rfl ?_); at_builtin; refine Kd.R_append_rows (Kd.int .u8) (w0 := w) w.heap.size rfl (.tmp 38) (.tmp 42) 23 5 (.int .u8 0) 1 rfl Try.underlying23 info5 rfl (by decide) (by omega) u5 x5_2 (rd_L2 l0 x8_2) _ _ _ (fun _ => True) (fun _ => False) rfl rfl ?aO ?aR (fun _ _ h => h) (fun _ h => h.elim) ?aF ?aB ?aS ?aL ?_; (case aR => repeat (first | exact (Kd.C_below HR127_0.out HB.out) | (with_reducible refine Kd.C_alloc ?_ _) | (with_reducible refine Kd.C_drewN ?_ _) | (with_reducible refine Kd.C_drew ?_))); (case aB => exact (by repeat (first | (with_reducible first | exact HB.out | apply below_alloc | apply pw_below_drewN | apply below_drew1 | refine below_set ?_ (IsS57.ge HI125.out)) | exact HB.out))); (case aF => exact (fun _ _ => trivial)); (case aO => exact (by (with_reducible repeat (first | apply Kd.R_alloc | apply Kd.R_drewN | apply Kd.R_drew)); exact HO_5.out)); (case aS => exact (below_size (by repeat (first | (with_reducible first | exact HB.out | apply below_alloc | apply pw_below_drewN | apply below_drew1 | refine below_set ?_ (IsS57.ge HI125.out)) | exact HB.out)))); (case aL => have := LMc17.out; omega); intro v129 w20 ho hb hg hat; rw [← Ny128.out] at ho; have n0_ := Aside0.mk (IsS57.grown (by repeat (first | (with_reducible first | exact HI125.out | apply IsS57.alloc | apply IsS57.drewN | apply IsS57.drew | apply IsS57.set_0) | exact HI125.out)) hg (IsS57.own_ne HI125.out HO_5.out (by decide))); have n1_ := Aside0.mk (hb); have n2_ := Aside0.mk (ho); clear HI125; clear HB; clear HO_5; have HI125 := n0_; have HB := n1_; have HO130 := n2_; clear n0_ n1_ n2_; clear ho hb hg hat; have p131 : 0 ≤ (x8_2 : Int) := of_decide_eq_true (by first | (with_reducible assumption) | assumption); have q131 : x8_2 < (l0.length : Int) := of_decide_eq_true (by first | (with_reducible assumption) | assumption); obtain ⟨ad131, A131_0, c131_0, e131, hx131_0, hl131_0, hi131_0⟩ := at_L2 HR0.out x8_2 p131 q131; obtain rfl : ad127 = ad131 := (by injection e131); replace hx131_0 := (HB.out.cell (World.block_lt_of_cell? w _ hx131_0)).trans hx131_0; have HR131_0 := Aside0.mk hi131_0; have HC131_0 := Aside0.mk hl131_0; clear hi131_0 hl131_0; replace p131 := eq_true p131; replace q131 := eq_true q131) | ((with_reducible refine gate_callee (f := 33) rfl ?_); refine goesL_ (some 49) rfl rfl Try.func33 (by kernel_rfl) rfl #[.int .u32 x7_2, .slice A131_0 (rd_L2 l0 x8_2).length c131_0] rfl (by (try simp only [List.map_toArray, List.map_cons, List.map_nil]); first | done | rfl | (simp only [List.length_drop, List.length_take]; rfl)) ?_; (with_reducible refine (crc_More.calls k2 x7_2 _ _ (rd_L2 l0 x8_2) t132 _ ?side1 ?side2 A18.out).mono ?_); (case side1 => repeat (first | exact (Kd.C_below HR131_0.out HB.out) | (with_reducible refine Kd.C_alloc ?_ _) | (with_reducible refine Kd.C_drewN ?_ _) | (with_reducible refine Kd.C_drew ?_))); (case side2 => exact HC131_0.out); rintro e w' ⟨rfl, ⟨nd, rfl⟩⟩; refine ⟨_, rfl, ?_⟩; have p133 : 0 ≤ (x8_2 : Int) := of_decide_eq_true (by first | (with_reducible assumption) | assumption); have q133 : x8_2 < (l0.length : Int) := of_decide_eq_true (by first | (with_reducible assumption) | assumption); obtain ⟨ad133, A133_0, c133_0, e133, hx133_0, hl133_0, hi133_0⟩ := at_L2 HR0.out x8_2 p133 q133; obtain rfl : ad127 = ad133 := (by injection e133); replace hx133_0 := (HB.out.cell (World.block_lt_of_cell? w _ hx133_0)).trans hx133_0; have HR133_0 := Aside0.mk hi133_0; have HC133_0 := Aside0.mk hl133_0; clear hi133_0 hl133_0; replace p133 := eq_true p133; replace q133 := eq_true q133; have ea_ := Option.some.inj (hx131_0.symm.trans hx133_0); injection ea_ with ea_ en_ ec_; subst ea_; subst ec_; clear en_) | ((with_reducible refine gate_callee (f := 34) rfl ?_); refine goesL_ (some 54) rfl rfl Try.func34 (by kernel_rfl) rfl #[.pointer (some ⟨gb125, 0, none⟩), .slice A131_0 (rd_L2 l0 x8_2).length c131_0] rfl (by (try simp only [List.map_toArray, List.map_cons, List.map_nil]); first | done | rfl | (simp only [List.length_drop, List.length_take]; rfl)) ?_; (with_reducible refine (crc_Roller_Add.calls k2 gb125 x126000_2 _ _ (rd_L2 l0 x8_2) t134 w _ ?side1 ?side2 ?side3 ?side4 ?side5 A19.out).mono ?_); (case side1 => repeat (first | (with_reducible first | exact HI125.out | apply IsS57.alloc | apply IsS57.drewN | apply IsS57.drew | apply IsS57.set_0) | exact HI125.out)); (case side2 => repeat (first | (with_reducible first | exact HB.out | apply below_alloc | apply pw_below_drewN | apply below_drew1 | refine below_set ?_ (IsS57.ge HI125.out)) | exact HB.out)); (case side3 => repeat (first | exact (Kd.C_below HR133_0.out (by repeat (first | (with_reducible first | exact HB.out | apply below_alloc | apply pw_below_drewN | apply below_drew1 | refine below_set ?_ (IsS57.ge HI125.out)) | exact HB.out))) | (with_reducible refine Kd.C_alloc ?_ _) | (with_reducible refine Kd.C_drewN ?_ _) | (with_reducible refine Kd.C_drew ?_))); (case side4 => exact HC133_0.out); (case side5 => exact Kd.far_C 0 HR133_0.out (IsS57.ge HI125.out)); rintro e w21 ⟨rfl, hi, hb, hk⟩; refine ⟨_, rfl, ?_⟩; have n0_ := Aside0.mk (Kd.R_mono (Kd.R_keep (IsS57.apart (show IsS57 w _ gb125 x126000_2 from by repeat (first | (with_reducible first | exact HI125.out | apply IsS57.alloc | apply IsS57.drewN | apply IsS57.drew | apply IsS57.set_0) | exact HI125.out)) (by (with_reducible repeat (first | apply Kd.R_alloc | apply Kd.R_drewN | apply Kd.R_drew)); exact HO130.out) (by decide)) hk (fun _ h => h.2)) (fun _ h => h.1)); have n1_ := Aside0.mk (hb); have n2_ := Aside0.mk (hi); clear HO130; clear HB; clear HI125; have HO130 := n0_; have HB := n1_; have HI125 := n2_; clear n0_ n1_ n2_; (try clear hb); (try clear hb2); (try clear hk); (try clear hi)))
                  go_roundg k2
                  case measure => have := HJ1.out; have := HK2.out; omega
                  case rel => exact ⟨(y128), (t132), (wrap64 (x8_2 + 1)), (t134), (by first | rfl | (simp; done) | (simp [*]; done)), (by first | rfl | (simp; done) | (simp [*]; done)), H', ⟨by have := HJ1.out; have := HK2.out; omega⟩, ⟨by (with_reducible repeat (first | apply Kd.R_alloc | apply Kd.R_drewN | apply Kd.R_drew)); exact HO130.out⟩, ⟨by repeat (first | (with_reducible first | exact HI125.out | apply IsS57.alloc | apply IsS57.drewN | apply IsS57.drew | apply IsS57.set_0) | exact HI125.out)⟩, ⟨by repeat (first | (with_reducible first | exact HB.out | apply below_alloc | apply pw_below_drewN | apply below_drew1 | refine below_set ?_ (IsS57.ge HI125.out)) | exact HB.out)⟩⟩
                · rw [if_neg c17] at H
                  exact absurd H (by simp)
              · rw [if_neg c16] at H
                exact absurd H (by simp)
            · rw [if_neg c15] at H
              have c15b0 : decide (x8_2 < (l0.length : Int)) = false := decide_eq_false c15
              clear c15
              replace H := Option.bind_eq_some_iff.mp H
              obtain ⟨t135, A220, H⟩ := H
              replace H : ((crc_Sum.f k2 (([x5_2] : List (List Int)))).bind fun t139 => (if t139 = t135 then ((crc_Sum.f k2 l0).bind fun t140 => (if t140 = t135 then (if x7_2 = t135 then ((crc_Roller_Sum.f x126000_2).bind fun bt141 => (if bt141.1 = t135 then ((cordwainlaw2_awake.f k2).bind fun t143 => (some t143)) else (some false))) else (some false)) else (some false))) else (some false))) = some r := H
              have A22 := Aside0.mk A220
              clear A220
              obtain ⟨y136, hy136⟩ : ∃ y_ : List (List Int), y_ = (([x5_2] : List (List Int))) := ⟨_, rfl⟩
              replace H : ((crc_Sum.f k2 y136).bind fun t139 => (if t139 = t135 then ((crc_Sum.f k2 l0).bind fun t140 => (if t140 = t135 then (if x7_2 = t135 then ((crc_Roller_Sum.f x126000_2).bind fun bt141 => (if bt141.1 = t135 then ((cordwainlaw2_awake.f k2).bind fun t143 => (some t143)) else (some false))) else (some false)) else (some false))) else (some false))) = some r := by first | (rw [hy136]; with_reducible exact H) | (have H2_ := (Option.bind_some _ _).symm.trans H; rw [hy136]; with_reducible exact H2_) | (have H2_ := (Option.bind_some _ _).symm.trans H; with_reducible exact H2_) | with_reducible exact H | (rw [hy136]; exact H) | exact H
              have Ny136 := Aside0.mk hy136
              clear hy136
              replace H := Option.bind_eq_some_iff.mp H
              obtain ⟨t139, A230, H⟩ := H
              replace H : (if t139 = t135 then ((crc_Sum.f k2 l0).bind fun t140 => (if t140 = t135 then (if x7_2 = t135 then ((crc_Roller_Sum.f x126000_2).bind fun bt141 => (if bt141.1 = t135 then ((cordwainlaw2_awake.f k2).bind fun t143 => (some t143)) else (some false))) else (some false)) else (some false))) else (some false)) = some r := H
              have A23 := Aside0.mk A230
              clear A230
              by_cases c24 : t139 = t135
              · rw [if_pos c24] at H
                have c24b0 : (t139 == t135) = true := beq_iff_eq.mpr c24
                have c24b1 : (t139 != t135) = false := bne_eq_false_iff_eq.mpr c24
                clear c24
                replace H := Option.bind_eq_some_iff.mp H
                obtain ⟨t140, A250, H⟩ := H
                replace H : (if t140 = t135 then (if x7_2 = t135 then ((crc_Roller_Sum.f x126000_2).bind fun bt141 => (if bt141.1 = t135 then ((cordwainlaw2_awake.f k2).bind fun t143 => (some t143)) else (some false))) else (some false)) else (some false)) = some r := H
                have A25 := Aside0.mk A250
                clear A250
                by_cases c26 : t140 = t135
                · rw [if_pos c26] at H
                  have c26b0 : (t140 == t135) = true := beq_iff_eq.mpr c26
                  have c26b1 : (t140 != t135) = false := bne_eq_false_iff_eq.mpr c26
                  clear c26
                  by_cases c27 : x7_2 = t135
                  · rw [if_pos c27] at H
                    have c27b0 : (x7_2 == t135) = true := beq_iff_eq.mpr c27
                    have c27b1 : (x7_2 != t135) = false := bne_eq_false_iff_eq.mpr c27
                    clear c27
                    replace H := Option.bind_eq_some_iff.mp H
                    obtain ⟨⟨t141, t142⟩, A280, H⟩ := H
                    replace H : (if t141 = t135 then ((cordwainlaw2_awake.f k2).bind fun t143 => (some t143)) else (some false)) = some r := H
                    have A28 := Aside0.mk A280
                    clear A280
                    by_cases c29 : t141 = t135
                    · rw [if_pos c29] at H
                      have c29b0 : (t141 == t135) = true := beq_iff_eq.mpr c29
                      have c29b1 : (t141 != t135) = false := bne_eq_false_iff_eq.mpr c29
                      clear c29
                      replace H := Option.bind_eq_some_iff.mp H
                      obtain ⟨t143, A300, H⟩ := H
                      replace H : (some t143) = some r := H
                      have A30 := Aside0.mk A300
                      clear A300
                      obtain rfl := Option.some.inj H
                      obtain ⟨Ao31, co31, eo31⟩ := Kd.R_slice HO_5.out
                      subst eo31
                      go_wp2_with (first | ((with_reducible refine gate_callee (f := 35) rfl ?_); refine goesL_ (some 56) rfl rfl Try.func35 (by kernel_rfl) rfl #[.slice Ao31 x5_2.length co31] rfl (by (try simp only [List.map_toArray, List.map_cons, List.map_nil]); first | done | rfl | (simp only [List.length_drop, List.length_take]; rfl)) ?_; (with_reducible refine (cordwainref1_Sum.calls k2 _ _ x5_2 t135 _ ?side1 ?side2 A22.out).mono ?_); (case side1 => repeat (first | exact (Kd.R_reads' HO_5.out).2.2 | (with_reducible refine Kd.C_alloc ?_ _) | (with_reducible refine Kd.C_drewN ?_ _) | (with_reducible refine Kd.C_drew ?_))); (case side2 => exact (Kd.R_reads' HO_5.out).2.1); rintro e w' ⟨rfl, ⟨nd, rfl⟩⟩; refine ⟨_, rfl, ?_⟩) | ((with_reducible refine gate_dst (N := 58) rfl ?_); refine Kd.N_lit (Kd.slice 5 (Kd.int .u8)) _ 23 ?hg (N' := 58) ?hd (xs := ([x5_2] : List (List Int))) (inner := [.slice Ao31 x5_2.length co31]) (ok := (fun k_ => k_ ≠ gb125)) (okp := (fun k_ => k_ ≠ gb125)) ?hr ?hp (fun _ hk => hk) ((show ∀ k_, wr.heap.size ≤ k_ → (fun k_ => k_ ≠ gb125) k_ from fun k_ hk => IsS57.fresh (by repeat (first | (with_reducible first | exact HI125.out | apply IsS57.alloc | apply IsS57.drewN | apply IsS57.drew | apply IsS57.set_0) | exact HI125.out)) k_ hk) _ (Nat.le_refl _)) (Below.refl _ _) (Nat.le_refl _) (by simp) ?_; (case hd => rfl); (case hg => rfl); (case hr => first | (go_simp; done) | (go_simp; rfl)); (case hp => exact (Reps.one (show Kd.FK (Kd.slice 5 (Kd.int .u8)) _ _ x5_2 [.slice Ao31 x5_2.length co31] from (Kd.FK_slice_mk (Kd.R_reads' (Kd.R_mono (ok' := (fun k_ => k_ ≠ gb125)) (IsS57.apart HI125.out (HO_5.out) (by decide)) (fun k_ hk => hk.2))).2.1 (Kd.R_F (Kd.R_mono (ok' := (fun k_ => k_ ≠ gb125)) (IsS57.apart HI125.out (HO_5.out) (by decide)) (fun k_ hk => hk.2))))) (Reps.none _ _))); intro v137 w32 ho33 hb hg_ hnew_; clear hg_ hnew_; (first | rw [← Ny136.out] at ho33 | (simp only [Int.reduceToNat] at ho33; rw [← Ny136.out] at ho33)); have n0_ := Aside0.mk (Kd.N_lower ho33 (below_size (by repeat (first | (with_reducible first | exact HB.out | apply below_alloc | apply pw_below_drewN | apply below_drew1 | refine below_set ?_ (IsS57.ge HI125.out)) | exact HB.out)))); have n1_ := Aside0.mk (IsS57.below (by repeat (first | (with_reducible first | exact HI125.out | apply IsS57.alloc | apply IsS57.drewN | apply IsS57.drew | apply IsS57.set_0) | exact HI125.out)) hb); have n2_ := Aside0.mk (below_step (by repeat (first | (with_reducible first | exact HB.out | apply below_alloc | apply pw_below_drewN | apply below_drew1 | refine below_set ?_ (IsS57.ge HI125.out)) | exact HB.out)) hb); clear HI125; clear HB; clear HO_5; have HO138 := n0_; have HI125 := n1_; have HB := n2_; clear n0_ n1_ n2_; clear hb ho33; obtain ⟨Ao34, co34, eo34⟩ := Kd.N_slice HO138.out; subst eo34) | ((with_reducible refine gate_callee (f := 32) rfl ?_); refine goesL_ (some 59) rfl rfl Try.func32 (by kernel_rfl) rfl #[.slice Ao34 y136.length co34] rfl (by (try simp only [List.map_toArray, List.map_cons, List.map_nil]); first | done | rfl | (simp only [List.length_drop, List.length_take]; rfl)) ?_; (with_reducible refine (crc_Sum.calls k2 _ _ y136 t139 _ ?side1 ?side2 A23.out).mono ?_); (case side1 => repeat (first | exact (Kd.N_reads' HO138.out).2.2 | (with_reducible refine Kd.C_alloc ?_ _) | (with_reducible refine Kd.C_drewN ?_ _) | (with_reducible refine Kd.C_drew ?_))); (case side2 => exact (Kd.N_reads' HO138.out).2.1); rintro e w' ⟨rfl, ⟨nd, rfl⟩⟩; refine ⟨_, rfl, ?_⟩) | (go_at_call 32; (with_reducible refine (crc_Sum.calls k2 _ _ l0 t140 _ ?side1 ?side2 A25.out).mono ?_); (case side1 => repeat (first | exact (Kd.C_below HR0.out (by repeat (first | (with_reducible first | exact HB.out | apply below_alloc | apply pw_below_drewN | apply below_drew1 | refine below_set ?_ (IsS57.ge HI125.out)) | exact HB.out))) | (with_reducible refine Kd.C_alloc ?_ _) | (with_reducible refine Kd.C_drewN ?_ _) | (with_reducible refine Kd.C_drew ?_))); (case side2 => exact HC0.out); rintro e w' ⟨rfl, ⟨nd, rfl⟩⟩) | (go_at_call 36; (with_reducible refine (crc_Roller_Sum.calls gb125 x126000_2 t141 t142 w _ ?side1 ?side2 A28.out).mono ?_); (case side1 => repeat (first | (with_reducible first | exact HI125.out | apply IsS57.alloc | apply IsS57.drewN | apply IsS57.drew | apply IsS57.set_0) | exact HI125.out)); (case side2 => repeat (first | (with_reducible first | exact HB.out | apply below_alloc | apply pw_below_drewN | apply below_drew1 | refine below_set ?_ (IsS57.ge HI125.out)) | exact HB.out)); rintro e w35 ⟨rfl, hi, hb, hk⟩; have n0_ := Aside0.mk (Kd.N_mono (Kd.N_keep (Kd.N_mono (ok := fun k_ => k_ ≠ gb125) (by (with_reducible repeat (first | apply Kd.N_alloc | apply Kd.N_drewN | apply Kd.N_drew)); exact HO138.out) (fun k_ hk_ => (⟨hk_, hk_⟩ : _ ∧ k_ ≠ gb125))) hk (fun _ h => h.2)) (fun _ h => h.1)); have n1_ := Aside0.mk (hb); have n2_ := Aside0.mk (hi); clear HO138; clear HB; clear HI125; have HO138 := n0_; have HB := n1_; have HI125 := n2_; clear n0_ n1_ n2_; (try clear hb); (try clear hb2); (try clear hk); (try clear hi)) | (go_at_call 31; (with_reducible refine (cordwainlaw2_awake.calls k2  t143 _ A30.out).mono ?_); rintro e w36 ⟨rfl, hb⟩; have n0_ := Aside0.mk (Kd.N_below (by (with_reducible repeat (first | apply Kd.N_alloc | apply Kd.N_drewN | apply Kd.N_drew)); exact HO138.out) hb); have n1_ := Aside0.mk (IsS57.below (by repeat (first | (with_reducible first | exact HI125.out | apply IsS57.alloc | apply IsS57.drewN | apply IsS57.drew | apply IsS57.set_0) | exact HI125.out)) hb); have n2_ := Aside0.mk (below_step (by repeat (first | (with_reducible first | exact HB.out | apply below_alloc | apply pw_below_drewN | apply below_drew1 | refine below_set ?_ (IsS57.ge HI125.out)) | exact HB.out)) hb); clear HO138; clear HI125; clear HB; have HO138 := n0_; have HI125 := n1_; have HB := n2_; clear n0_ n1_ n2_; (try clear hb); (try clear hb2); (try clear hk); (try clear hi)))
                      go_ret
                      exact ⟨by first | rfl | (simp [errW_none, errW_some] <;> rfl) | (simp [*, errW_none, errW_some] <;> rfl), by repeat (first | (with_reducible first | exact HB.out | apply below_alloc | apply pw_below_drewN | apply below_drew1 | refine below_set ?_ (IsS57.ge HI125.out)) | exact HB.out)⟩
                    · rw [if_neg c29] at H
                      have c29b0 : (t141 == t135) = false := beq_eq_false_iff_ne.mpr c29
                      have c29b1 : (t141 != t135) = true := bne_iff_ne.mpr c29
                      exact absurd ((Option.some.inj H).trans HRT_.out) (by decide)
                  · rw [if_neg c27] at H
                    have c27b0 : (x7_2 == t135) = false := beq_eq_false_iff_ne.mpr c27
                    have c27b1 : (x7_2 != t135) = true := bne_iff_ne.mpr c27
                    exact absurd ((Option.some.inj H).trans HRT_.out) (by decide)
                · rw [if_neg c26] at H
                  have c26b0 : (t140 == t135) = false := beq_eq_false_iff_ne.mpr c26
                  have c26b1 : (t140 != t135) = true := bne_iff_ne.mpr c26
                  exact absurd ((Option.some.inj H).trans HRT_.out) (by decide)
              · rw [if_neg c24] at H
                have c24b0 : (t139 == t135) = false := beq_eq_false_iff_ne.mpr c24
                have c24b1 : (t139 != t135) = true := bne_iff_ne.mpr c24
                exact absurd ((Option.some.inj H).trans HRT_.out) (by decide)

/-- THE ONE PURE STATEMENT of cordwainlaw2_CrcSums. -/
def cordwainlaw2_CrcSums.Pure : Prop := ∀ (l0 : List (List Int)), (l0.length ≤ maxLen ∧ ∀ x_ ∈ l0, (x_.length ≤ maxLen ∧ ∀ x__ ∈ x_, (Lit.int .u8 x__).wf = true)) → ∃ k, cordwainlaw2_CrcSums.f k l0 = some true
theorem cordwainlaw2_CrcSums.walk (P : cordwainlaw2_CrcSums.Pure) (A0 : Option Addr) (c0 : Nat) (l0 : List (List Int)) (w : World) (hc0 : l0.length ≤ c0) (hr0 : Kd.C (Kd.slice 5 (Kd.int .u8)) w A0 l0.length l0) (q0 : (l0.length ≤ maxLen ∧ ∀ x_ ∈ l0, (x_.length ≤ maxLen ∧ ∀ x__ ∈ x_, (Lit.int .u8 x__).wf = true))) :
    Calls Try.prog 8 #[.slice A0 l0.length c0] w fun e w' => e = .returned (.bool true) ∧ Below w.heap.size w w' := by
  obtain ⟨k, h⟩ := P l0 q0
  refine (cordwainlaw2_CrcSums.calls k _ _ l0 true w hr0 hc0 rfl h).mono ?_
  rintro e w' ⟨rfl, hd⟩
  exact ⟨rfl, hd⟩

end Go.Proofs.Ytakodondlmiklaa.PCrcSums
