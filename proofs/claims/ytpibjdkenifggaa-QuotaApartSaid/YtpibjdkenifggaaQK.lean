/- QuotaBack: the walk: who has rested long enough has all of the burst again, and is known no more. -/
import Derived.Test.YtpibjdkenifggaaQI
import Derived.Test.YtpibjdkenifggaaQB
namespace Go.Proofs.Ytpibjdkenifggaa.QU
open Go.RowKit Go.Maps Go.MapKept Go.ChangeMaps Go.WideElems Go.WideMaps Go.WideShapes Go.Proofs.YtpibjdkenifggaaW.PrintWords Go.Proofs.YtpibjdkenifggaaW.PrintLast Go.Proofs.YtpibjdkenifggaaW.PrintMore Go.Proofs.Ytpibjdkenifggaa.PQuotaBound
set_option linter.unusedVariables false
set_option linter.unusedSimpArgs false
set_option maxRecDepth 100000

theorem left_b {w : World} {g b n : Nat} {rate burst most now t m : Int} {x : Acc} (hI : IsQ w g b rate burst most now n (dOf x)) (hx : okX x) (hm : nowF now t = m) (hm0 : 0 ≤ m) :
    Calls Try.prog 27 #[.pointer (some ⟨g, 0, none⟩), .string ⟨#[97]⟩, .int .i64 t] w fun e w' => e = .returned (.int .i64 (burst - V rate m x)) ∧ IsQ w' g b rate burst most m n (dOf (cutX rate m x)) ∧ KQ w w' g b := by
  have hr0 := hI.r0
  refine (left_calls (t := t) hI keyA).mono ?_
  rintro e w' ⟨u, a, hq, hat, rfl, hI', hK⟩
  rw [hm] at hat hI' ⊢
  rw [del_dOf] at hat hI'
  have hu : usedF rate m u a = V rate m x := by rw [at_dOf hr0 hm0 hat, V_cut hx hr0 (Int.le_refl _)]
  rw [hu]
  exact ⟨rfl, hI', hK⟩
/-- How many are walked. -/
theorem walk_calls {w : World} {g b nn : Nat} {rate burst mst now most : Int} {D : DataW Value} (hI : IsQ w g b rate burst mst now nn D) (hmax : Maps.size D ≤ 1000000) (hm : 0 ≤ most) :
    Calls Try.prog 47 #[.pointer (some ⟨g, 0, none⟩), .int .i64 most] w fun e w' => ∃ A c k, e = .returned (.slice A k c) ∧ (k : Int) = min most (Maps.size D : Int) ∧ IsQ w' g b rate burst mst now nn D ∧ Below w.heap.size w w' := by
  refine (callsIn_wide.1 (walk_in 9 (by decide) hI hmax hm)).mono ?_
  rintro e w' ⟨v, k, rfl, hk, hrow, hb⟩
  obtain ⟨A, c, rfl⟩ := own_slice hrow
  rw [← srt_len hI.own] at hk
  exact ⟨A, c, k, rfl, hk, hI.below hb, hb⟩
set_option maxHeartbeats 4000000 in
theorem quotaBack_walk (a0 : Int) (a1 : Int) (a2 : Int) (w : World)  (q0 : (Lit.int .i64 a0).wf = true) (q1 : (Lit.int .i64 a1).wf = true) (q2 : (Lit.int .i64 a2).wf = true) :
    Calls Try.prog 10 #[.int .i64 a0, .int .i64 a1, .int .i64 a2] w fun e w' => e = .returned (.bool true) ∧ Below w.heap.size w w' := by
  clear q0 q1 q2
  by_cases h1 : a0 < 1
  · go_enter Try.func10, Try.ntmps10
    go_wp2_with fail
    all_goals (refine awake_calls.mono ?_; rintro e w' ⟨rfl, hb⟩; go_wp2_with fail; go_ret; exact ⟨rfl, hb⟩)
  by_cases h2 : a0 > 1000
  · go_enter Try.func10, Try.ntmps10
    go_wp2_with fail
    all_goals (refine awake_calls.mono ?_; rintro e w' ⟨rfl, hb⟩; go_wp2_with fail; go_ret; exact ⟨rfl, hb⟩)
  by_cases h3 : a1 < 1
  · go_enter Try.func10, Try.ntmps10
    go_wp2_with fail
    all_goals (refine awake_calls.mono ?_; rintro e w' ⟨rfl, hb⟩; go_wp2_with fail; go_ret; exact ⟨rfl, hb⟩)
  by_cases h4 : a1 > 100000
  · go_enter Try.func10, Try.ntmps10
    go_wp2_with fail
    all_goals (refine awake_calls.mono ?_; rintro e w' ⟨rfl, hb⟩; go_wp2_with fail; go_ret; exact ⟨rfl, hb⟩)
  have hr0 : 1 ≤ a0 := by omega
  have hr1 : a0 ≤ 1000 := by omega
  have hb0 : 1 ≤ a1 := by omega
  have hb1 : a1 ≤ 100000 := by omega
  clear h1 h2 h3 h4
  go_enter Try.func10, Try.ntmps10
  go_wp2_with fail
  refine (new_calls (by omega) hr1 hb0 (by omega) (by decide) (by decide)).mono ?_
  rintro e w1 ⟨rfl, hI1, hB1⟩
  have HI1 := Aside0.mk hI1
  have HB1 := Aside0.mk hB1
  clear hI1 hB1
  go_wp2_with fail
  refine (round_calls _ a1 w1 (by omega) (by omega)).mono ?_
  rintro e w2 ⟨rfl, hd⟩
  have hrr := rnd_range a2 (m := a1) (by omega)
  generalize rnd a2 a1 = r at hrr ⊢
  obtain ⟨hra, hrb⟩ := hrr
  have HI2 : Aside0 (IsQ w2 (w.heap.size + 1) w.heap.size a0 a1 3 0 0 (dOf none)) := ⟨HI1.out.below hd.below⟩
  have HB2 : Aside0 (Below w.heap.size w w2) := ⟨HB1.out.trans (hd.below.mono HB1.out.size)⟩
  clear hd
  go_wp2_with fail
  refine (use_a (x := none) HI2.out trivial (by decide) (by omega) (by omega) (by decide) (by decide) (by decide)).mono ?_
  rintro e w3 ⟨rv, n3, x3, rfl, hI3, hx3, hn3, hK3, hR⟩
  have v0 : V a0 10 none = 0 := rfl
  obtain ⟨rfl, hv3⟩ : rv = 0 ∧ V a0 10 x3 = 1 + r := by
    rcases hR with ⟨h1, h2, h3⟩ | ⟨h1, h2, h3⟩ <;> rw [v0] at * <;> omega
  obtain ⟨q, hq⟩ : ∃ q, q = Int.tdiv (1 + r + a0 - 1) a0 := ⟨_, rfl⟩
  have hq' := hq
  rw [Int.tdiv_eq_ediv_of_nonneg (by omega)] at hq'
  have m1 : a0 * q ≤ 1 + r + a0 - 1 := by rw [hq']; exact Int.mul_ediv_self_le (by omega)
  have m2 : 1 + r + a0 - 1 < a0 * q + a0 := by rw [hq']; exact Int.lt_mul_ediv_self_add (by omega)
  have hq1 : 1 ≤ q := by rw [hq']; exact (Int.le_ediv_iff_mul_le (by omega)).2 (by omega)
  have hq2 : q ≤ 1 + r + a0 - 1 := by rw [hq']; exact Int.ediv_le_self _ (by omega)
  have em : a0 * (q - 1) = a0 * q - a0 := by rw [Int.mul_sub, Int.mul_one]
  have vE : V a0 (9 + q) x3 = max 0 (1 + r - a0 * (q - 1)) := by
    have := V_later (rate := a0) (t := 10) (s := q - 1) hx3 (by omega) (by omega)
    rw [hv3, show (10 : Int) + (q - 1) = 9 + q by omega] at this
    exact this
  have vF : V a0 (10 + q) x3 = max 0 (1 + r - a0 * q) := by
    have := V_later (rate := a0) (t := 10) (s := q) hx3 (by omega) (by omega)
    rw [hv3] at this
    exact this
  have vE1 : 1 ≤ V a0 (9 + q) x3 := by rw [vE, em]; omega
  have vF1 : V a0 (10 + q) x3 = 0 := by rw [vF]; omega
  have hcE : cutX a0 (9 + q) x3 = x3 := if_neg (by omega)
  have hcF : cutX a0 (10 + q) x3 = none := if_pos vF1
  have hs3 : Maps.size (dOf x3) = 1 := by
    rcases x3 with _ | ⟨u, a⟩
    · exact absurd vE1 (by show ¬ (1 : Int) ≤ 0; omega)
    · rfl
  have HI3 := Aside0.mk hI3
  have HX3 := Aside0.mk hx3
  have HB3 : Aside0 (Below w.heap.size w w3) := ⟨hK3.to HB2.out (Nat.le_succ _) (Nat.le_refl _)⟩
  have HCE := Aside0.mk hcE
  have HCF := Aside0.mk hcF
  have HVF := Aside0.mk vF1
  have HQ := Aside0.mk hq
  have HS3 := Aside0.mk hs3
  generalize hve : V a0 (9 + q) x3 = ve at vE1
  have HVE := Aside0.mk hve
  have hveb : ve ≤ 100000 := by omega
  clear hR hI3 hx3 hK3 hcE hcF vF1 hq hq' m1 m2 em vE vF hs3 hve v0 hv3
  have hsum : IntKind.i64.wrap (1 + r + a0 - 1) = 1 + r + a0 - 1 := IntWalk.i64_in _ (by omega)
  have hne : (a0 == 0) = false := by simpa using (by omega : ¬ a0 = 0)
  go_wp2_with fail
  have hqd : (1 + r + a0 - 1) / a0 = q := by rw [HQ.out, Int.tdiv_eq_ediv_of_nonneg (by omega)]
  rw [hqd]
  have hw9 : wrap64 (9 + q) = 9 + q := by unfold wrap64; omega
  have hw10 : wrap64 (10 + q) = 10 + q := by unfold wrap64; omega
  rw [hw9]
  clear hqd hsum hw9
  refine (left_b HI3.out HX3.out (nowF_id (by omega) (by omega)) (by omega)).mono ?_
  rintro e w4 ⟨rfl, hI4, hK4⟩
  rw [HCE.out] at hI4
  rw [HVE.out]
  have HI4 := Aside0.mk hI4
  have HB4 : Aside0 (Below w.heap.size w w4) := ⟨hK4.to HB3.out (Nat.le_succ _) (Nat.le_refl _)⟩
  clear hI4 hK4
  go_wp2_with fail
  have hnz : nowF (9 + q) 0 = 9 + q := by unfold nowF; split <;> split at * <;> omega
  refine (left_b HI4.out HX3.out hnz (by omega)).mono ?_
  rintro e w5 ⟨rfl, hI5, hK5⟩
  rw [HCE.out] at hI5
  rw [HVE.out]
  have HI5 := Aside0.mk hI5
  have HB5 : Aside0 (Below w.heap.size w w5) := ⟨hK5.to HB4.out (Nat.le_succ _) (Nat.le_refl _)⟩
  clear hI5 hK5 hnz
  go_wp2_with fail
  refine (walk_calls HI5.out (by rw [HS3.out]; decide) (by decide)).mono ?_
  rintro e w6 ⟨A6, c6, k6, rfl, hk6, hI6, hb6⟩
  rw [HS3.out] at hk6
  obtain rfl : k6 = 1 := by omega
  have HI6 := Aside0.mk hI6
  have HB6 : Aside0 (Below w.heap.size w w6) := ⟨HB5.out.trans (hb6.mono HB5.out.size)⟩
  clear hI6 hb6 hk6
  go_wp2_with fail
  refine (left_b HI6.out HX3.out (nowF_id (by omega) (by omega)) (by omega)).mono ?_
  rintro e w7 ⟨rfl, hI7, hK7⟩
  rw [HCF.out] at hI7
  rw [HVF.out]
  have HI7 := Aside0.mk hI7
  have HB7 : Aside0 (Below w.heap.size w w7) := ⟨hK7.to HB6.out (Nat.le_succ _) (Nat.le_refl _)⟩
  clear hI7 hK7
  go_wp2_with fail
  refine (walk_calls HI7.out (by decide) (by decide)).mono ?_
  rintro e w8 ⟨A8, c8, k8, rfl, hk8, hI8, hb8⟩
  obtain rfl : k8 = 0 := by
    have : (Maps.size (dOf none) : Int) = 0 := rfl
    omega
  have HB8 : Aside0 (Below w.heap.size w w8) := ⟨HB7.out.trans (hb8.mono HB7.out.size)⟩
  clear hI8 hb8 hk8
  go_wp2_with fail
  refine awake_calls.mono ?_
  rintro e w9 ⟨rfl, hB9⟩
  go_wp2_with fail
  go_ret
  exact ⟨rfl, HB8.out.trans (hB9.mono HB8.out.size)⟩
end Go.Proofs.Ytpibjdkenifggaa.QU
