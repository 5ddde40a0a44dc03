/- QuotaBound: the walk: in any time nobody uses more than the burst, and the rate a tick. -/
import Derived.Test.YtpibjdkenifggaaQS
import Derived.Test.YtpibjdkenifggaaPQuotaBoundx1
namespace Go.Proofs.Ytpibjdkenifggaa.QU
open Go.RowKit Go.Maps Go.MapKept Go.ChangeMaps Go.WideElems Go.WideMaps Go.WideShapes Go.Proofs.YtpibjdkenifggaaW.PrintWords Go.Proofs.YtpibjdkenifggaaW.PrintLast Go.Proofs.YtpibjdkenifggaaW.PrintMore Go.Proofs.Ytpibjdkenifggaa.PQuotaBound
set_option linter.unusedVariables false
set_option linter.unusedSimpArgs false
set_option maxRecDepth 100000

/-- A number, rounded into 0 .. m-1. -/
def rnd (a m : Int) : Int := if Int.tmod a m < 0 then Int.tmod a m + m else Int.tmod a m
theorem rnd_range (a : Int) {m : Int} (hm : 0 < m) : 0 ≤ rnd a m ∧ rnd a m < m := by
  have h1 : Int.tmod a m < m := Int.tmod_lt_of_pos a hm
  have h2 : -m < Int.tmod a m := by
    have := Int.tmod_lt_of_pos (-a) hm
    rw [Int.neg_tmod] at this
    omega
  unfold rnd
  split <;> omega
theorem round_calls (a m : Int) (w : World) (hm : 0 < m) (hm2 : m ≤ 100000) :
    Calls Try.prog 24 #[.int .i64 a, .int .i64 m] w fun e w' => e = .returned (.int .i64 (rnd a m)) ∧ Drawn0 w w' := by
  refine cordwainalike_Round.calls a m (rnd a m) w ?_
  unfold cordwainalike_Round.f rnd
  have h1 : Int.tmod a m < m := Int.tmod_lt_of_pos a hm
  have h2 : -m < Int.tmod a m := by
    have := Int.tmod_lt_of_pos (-a) hm
    rw [Int.neg_tmod] at this
    omega
  rw [if_neg (by omega)]
  split
  · have : wrap64 (Int.tmod a m + m) = Int.tmod a m + m := by unfold wrap64; omega
    rw [this]
  · rfl
def kB : Lit := .string [98]
theorem keyB : keyOf Try.prog 9 (.string ⟨#[98]⟩) = some kB := keyOf_string_mk Try.underlying9 (by decide)
theorem KQ.to {w0 w w' : World} {g b : Nat} (h : KQ w w' g b) (h0 : Below w0.heap.size w0 w) (hg : w0.heap.size ≤ g) (hb : w0.heap.size ≤ b) : Below w0.heap.size w0 w' := h0.trans (h.below hg hb h0.size)
set_option maxHeartbeats 4000000 in
theorem awake_calls {w : World} : Calls Try.prog 22 #[] w fun e w' => e = .returned (.bool true) ∧ Below w.heap.size w w' := by
  go_enter Try.func22, Try.ntmps22
  go_wp2_with fail
  refine (new_calls (by decide) (by decide) (by decide) (by decide) (by decide) (by decide)).mono ?_
  rintro e w1 ⟨rfl, hI1, hB1⟩
  go_wp2_with fail
  refine new_bad.mono ?_
  rintro e w2 ⟨rfl, rfl⟩
  go_wp2_with fail
  refine (use_a (x := none) hI1 trivial (by decide) (by decide) (by decide) (by decide) (by decide) (by decide)).mono ?_
  rintro e w3 ⟨rv, n3, x3, rfl, hI3, hx3, hn3, hK3, h3⟩
  have v0 : V 1 0 none = 0 := rfl
  obtain ⟨rfl, hv3⟩ : rv = 0 ∧ V 1 0 x3 = 5 := by
    rcases h3 with ⟨h1, h2, h3⟩ | ⟨h1, h2, h3⟩ <;> rw [v0] at * <;> omega
  clear h3
  go_wp2_with fail
  refine (use_a hI3 hx3 (by omega) (by decide) (by decide) (by decide) (by decide) (by decide)).mono ?_
  rintro e w4 ⟨rv, n4, x4, rfl, hI4, hx4, hn4, hK4, h4⟩
  have v1 := V_later (rate := 1) (t := 0) (s := 1) hx3 (by decide) (by decide)
  obtain ⟨rfl, hv4⟩ : rv = 15 ∧ V 1 1 x4 = 4 := by
    rcases h4 with ⟨h1, h2, h3⟩ | ⟨h1, h2, h3⟩
    · exact ⟨h1, by rw [h3 1 (by decide)]; rw [hv3] at v1; exact v1⟩
    · omega
  clear h4
  go_wp2_with fail
  refine (use_a hI4 hx4 (by omega) (by decide) (by decide) (by decide) (by decide) (by decide)).mono ?_
  rintro e w5 ⟨rv, n5, x5, rfl, hI5, hx5, hn5, hK5, h5⟩
  obtain ⟨rfl, hv5⟩ : rv = 0 ∧ V 1 1 x5 = 5 := by
    rcases h5 with ⟨h1, h2, h3⟩ | ⟨h1, h2, h3⟩ <;> omega
  clear h5
  go_wp2_with fail
  refine (left_calls (t := 1) hI5 keyB).mono ?_
  rintro e w6 ⟨u, a, hq, hat, rfl, hI6, hK6⟩
  rw [nowF_id (by decide) (by decide), del_dOf] at hat
  have hz : ∀ x : Acc, (dOf x).atKey kB (.held zero103) = .held zero103 := fun x => by rcases x with _ | ⟨p, q⟩ <;> rfl
  rw [hz] at hat
  injection hat with hat
  unfold zero103 at hat
  injection hat with hat
  simp at hat
  obtain ⟨rfl, rfl⟩ := hat
  have hu : usedF 1 (nowF 1 1) 0 0 = 0 := by rw [nowF_id (by decide) (by decide)]; rfl
  rw [hu]
  go_wp2_with fail
  go_ret
  have h0 := Nat.le_succ w.heap.size
  exact ⟨rfl, hK6.to (hK5.to (hK4.to (hK3.to hB1 h0 (Nat.le_refl _)) h0 (Nat.le_refl _)) h0 (Nat.le_refl _)) h0 (Nat.le_refl _)⟩
theorem meas (n i : Nat) (h : i < n) : n - (intOf (.int .i64 ((i : Int) + 1))).toNat < n - (intOf (.int .i64 (i : Int))).toNat := by
  show n - ((i : Int) + 1).toNat < n - ((i : Int)).toNat
  omega
theorem mul_60 (r : Int) (k : Nat) (h0 : 0 ≤ r) (h1 : r ≤ 1000) (h2 : (k : Int) ≤ 60) : 0 ≤ r * k ∧ r * k ≤ 60000 := by
  have a1 : r * k ≤ r * 60 := Int.mul_le_mul_of_nonneg_left h2 h0
  have a2 : 0 ≤ r * (k : Int) := Int.mul_nonneg h0 (by omega)
  omega
/-- Behind k uses. -/
def LQ (w : World) (g b : Nat) (rate burst : Int) (l : List Int) (vs vi : Value) (wr : World) : Prop :=
  ∃ (k n : Nat) (S now : Int) (x : Acc), vi = .int .i64 (k : Int) ∧ vs = .int .i64 S ∧ k ≤ l.length ∧ n ≤ k ∧ now ≤ k ∧ 0 ≤ S ∧ S ≤ V rate k x + rate * k ∧ V rate k x ≤ burst ∧ okX x ∧ IsQ wr g b rate burst 5 now n (dOf x) ∧ Below w.heap.size w wr
set_option maxHeartbeats 4000000 in
theorem quotaBound_walk (a0 : Int) (a1 : Int) (A2 : Option Addr) (c2 : Nat) (l2 : List Int) (a3 : Int) (w : World) (hc2 : l2.length ≤ c2) (hr2 : Kd.C (Kd.int .i64) w A2 l2.length l2) (q0 : (Lit.int .i64 a0).wf = true) (q1 : (Lit.int .i64 a1).wf = true) (q2 : (l2.length ≤ maxLen ∧ ∀ x_ ∈ l2, (Lit.int .i64 x_).wf = true)) (q3 : (Lit.int .i64 a3).wf = true) :
    Calls Try.prog 5 #[.int .i64 a0, .int .i64 a1, .slice A2 l2.length c2, .int .i64 a3] w fun e w' => e = .returned (.bool true) ∧ Below w.heap.size w w' := by
  have HR2 := Aside0.mk hr2
  clear hr2 q0 q1 q2 q3
  by_cases h1 : a0 < 0
  · go_enter Try.func5, Try.ntmps5
    go_wp2_with fail
    all_goals (refine awake_calls.mono ?_; rintro e w' ⟨rfl, hb⟩; go_wp2_with fail; go_ret; exact ⟨rfl, hb⟩)
  by_cases h2 : a0 > 1000
  · go_enter Try.func5, Try.ntmps5
    go_wp2_with fail
    all_goals (refine awake_calls.mono ?_; rintro e w' ⟨rfl, hb⟩; go_wp2_with fail; go_ret; exact ⟨rfl, hb⟩)
  by_cases h3 : a1 < 1
  · go_enter Try.func5, Try.ntmps5
    go_wp2_with fail
    all_goals (refine awake_calls.mono ?_; rintro e w' ⟨rfl, hb⟩; go_wp2_with fail; go_ret; exact ⟨rfl, hb⟩)
  by_cases h4 : a1 > 10000
  · go_enter Try.func5, Try.ntmps5
    go_wp2_with fail
    all_goals (refine awake_calls.mono ?_; rintro e w' ⟨rfl, hb⟩; go_wp2_with fail; go_ret; exact ⟨rfl, hb⟩)
  by_cases h5 : (l2.length : Int) > 60
  · go_enter Try.func5, Try.ntmps5
    go_wp2_with fail
    all_goals (refine awake_calls.mono ?_; rintro e w' ⟨rfl, hb⟩; go_wp2_with fail; go_ret; exact ⟨rfl, hb⟩)
  have hr0 : 0 ≤ a0 := by omega
  have hr1 : a0 ≤ 1000 := by omega
  have hb0 : 1 ≤ a1 := by omega
  have hb1 : a1 ≤ 10000 := by omega
  have hl5 : (l2.length : Int) ≤ 60 := by omega
  clear h1 h2 h3 h4 h5
  go_enter Try.func5, Try.ntmps5
  go_wp2_with fail
  refine (new_calls hr0 hr1 hb0 (by omega) (by decide) (by decide)).mono ?_
  rintro e w1 ⟨rfl, hI1, hB1⟩
  have HI1 := Aside0.mk hI1
  have HB1 := Aside0.mk hB1
  clear hI1 hB1
  go_wp2_with fail
  go_loopw [11, 12] (fun vs vi wr => LQ w (w.heap.size + 1) w.heap.size a0 a1 l2 vs vi wr) (fun _ vi _ => l2.length - (intOf vi).toNat)
  case atStart => exact ⟨0, 0, 0, 0, none, rfl, rfl, Nat.zero_le _, Nat.le_refl _, Int.le_refl _, Int.le_refl _, by show (0 : Int) ≤ 0 + a0 * 0; omega, by show (0 : Int) ≤ a1; omega, trivial, HI1.out, HB1.out⟩
  case round =>
    obtain ⟨k, n, S, now, x, rfl, rfl, hk, hn, hnow, hS0, hS1, hV, hx, hI, hB⟩ := hrel
    have HI := Aside0.mk hI
    have HB := Aside0.mk hB
    have HS1 := Aside0.mk hS1
    clear hI hB hS1
    by_cases hlt : k < l2.length
    · obtain ⟨ad, cc, e1, _, hK, hcc⟩ := Kd.C_get (Kd.C_below HR2.out HB.out) 0 (k : Int) (by omega) (by omega)
      obtain rfl : cc = [.int .i64 (l2.getD k 0)] := hK
      have hxx : wr.cell? (ad.add k) = some (.int .i64 (l2.getD k 0)) := by
        have := hcc 0 _ rfl
        simpa [show (Kd.int IntKind.i64).sz = 1 from rfl] using this
      clear hcc
      subst e1
      go_wp2_with fail
      refine (round_calls _ (2 * a1) wr (by omega) (by omega)).mono ?_
      rintro e w2 ⟨rfl, hd⟩
      have hrr := rnd_range l2[k] (m := 2 * a1) (by omega)
      generalize rnd l2[k] (2 * a1) = r at hrr ⊢
      obtain ⟨hr2a, hr2b⟩ := hrr
      have HI2 : Aside0 (IsQ w2 (w.heap.size + 1) w.heap.size a0 a1 5 now n (dOf x)) := ⟨HI.out.below hd.below⟩
      have HB2 : Aside0 (Below w.heap.size w w2) := ⟨HB.out.trans (hd.below.mono HB.out.size)⟩
      have HX := Aside0.mk hx
      have hmb := mul_60 a0 k hr0 hr1 (by omega)
      have hmw : IntKind.i64.wrap (a0 * (k : Int)) = a0 * (k : Int) := IntWalk.i64_in _ (by omega)
      have hVn := V_nonneg (t := (k : Int)) HX.out hr0
      clear hx hxx hd
      by_cases hrz : r = 0
      · subst hrz
        go_wp2_with fail
        refine (use_zero HI2.out HX.out hnow (by omega) _).mono ?_
        rintro e w3 ⟨x3, rfl, hI3, hx3, hK3, hV3⟩
        have hle : S ≤ a1 + a0 * (k : Int) := by have := HS1.out; omega
        have HE := Aside0.mk (And.intro hI3 (And.intro hx3 (And.intro hK3 hV3)))
        clear hI3 hx3 hK3 hV3
        go_wp2_with fail
        obtain ⟨hI3, hx3, hK3, hV3⟩ := HE.out
        have hVk := hV3 k (Int.le_refl _)
        have hV' := V_later (rate := a0) (t := (k : Int)) (s := 1) hx3 hr0 (by decide)
        rw [hVk] at hV'
        refine ⟨⟨k + 1, n, S, (k : Int), x3, rfl, rfl, hlt, by omega, by omega, hS0, ?_, ?_, hx3, hI3, hK3.to HB2.out (Nat.le_succ _) (Nat.le_refl _)⟩, meas _ _ hlt⟩
        · show S ≤ V a0 ((k : Int) + 1) x3 + a0 * ((k : Int) + 1)
          rw [hV', Int.mul_add, Int.mul_one]
          have := HS1.out
          omega
        · show V a0 ((k : Int) + 1) x3 ≤ a1
          rw [hV', Int.mul_one]
          omega
      · go_wp2_with fail
        refine (use_a HI2.out HX.out (by omega) (by omega) (by omega) (by decide) hnow (by omega)).mono ?_
        rintro e w3 ⟨rv, n3, x3, rfl, hI3, hx3, hn3, hK3, hR⟩
        have HI3 := Aside0.mk hI3
        have HX3 := Aside0.mk hx3
        have HK3 := Aside0.mk hK3
        have hV' := V_later (rate := a0) (t := (k : Int)) (s := 1) hx3 hr0 (by decide)
        clear hI3 hx3 hK3
        rcases hR with ⟨rfl, hr15, hV3⟩ | ⟨rfl, hr0', hV3⟩
        · have hVk := hV3 k (Int.le_refl _)
          rw [hVk] at hV'
          have HV' := Aside0.mk hV'
          have hle : S ≤ a1 + a0 * (k : Int) := by have := HS1.out; omega
          clear hV3 hVk hV' hr15
          go_wp2_with fail
          refine ⟨⟨k + 1, n3, S, (k : Int), x3, rfl, rfl, hlt, by omega, by omega, hS0, ?_, ?_, HX3.out, HI3.out, HK3.out.to HB2.out (Nat.le_succ _) (Nat.le_refl _)⟩, meas _ _ hlt⟩
          · show S ≤ V a0 ((k : Int) + 1) x3 + a0 * ((k : Int) + 1)
            rw [HV'.out, Int.mul_add, Int.mul_one]
            have := HS1.out
            omega
          · show V a0 ((k : Int) + 1) x3 ≤ a1
            rw [HV'.out, Int.mul_one]
            omega
        · rw [hV3] at hV'
          have HV' := Aside0.mk hV'
          have hle : S + r ≤ a1 + a0 * (k : Int) := by have := HS1.out; omega
          have hle2 : S + r ≤ V a0 k x + r + a0 * (k : Int) := by have := HS1.out; omega
          have HLE := Aside0.mk hle2
          clear hV3 hV' hle2
          go_wp2_with fail
          refine ⟨⟨k + 1, n3, S + r, (k : Int), x3, rfl, rfl, hlt, by omega, by omega, by omega, ?_, ?_, HX3.out, HI3.out, HK3.out.to HB2.out (Nat.le_succ _) (Nat.le_refl _)⟩, meas _ _ hlt⟩
          · show S + r ≤ V a0 ((k : Int) + 1) x3 + a0 * ((k : Int) + 1)
            rw [HV'.out, Int.mul_add, Int.mul_one]
            have := HLE.out
            omega
          · show V a0 ((k : Int) + 1) x3 ≤ a1
            rw [HV'.out, Int.mul_one]
            omega
    · obtain rfl : k = l2.length := by omega
      have HX := Aside0.mk hx
      clear hx
      go_wp2_with fail
      refine (round_calls _ a1 wr (by omega) (by omega)).mono ?_
      rintro e w2 ⟨rfl, hd⟩
      have hrr := rnd_range a3 (m := a1) (by omega)
      generalize rnd a3 a1 = r at hrr ⊢
      obtain ⟨hra, hrb⟩ := hrr
      have HI2 : Aside0 (IsQ w2 (w.heap.size + 1) w.heap.size a0 a1 5 now n (dOf x)) := ⟨HI.out.below hd.below⟩
      have HB2 : Aside0 (Below w.heap.size w w2) := ⟨HB.out.trans (hd.below.mono HB.out.size)⟩
      have hVn := V_nonneg (t := (l2.length : Int)) HX.out hr0
      clear hd
      go_wp2_with fail
      refine (wait_a HI2.out HX.out (by omega) (by omega) hnow (by omega)).mono ?_
      rintro e w3 ⟨x3, rfl, hI3, hx3, hK3, hV3⟩
      have hVk := hV3 _ (Int.le_refl _)
      have HI3 := Aside0.mk hI3
      have HX3 := Aside0.mk hx3
      have HB3 : Aside0 (Below w.heap.size w w3) := ⟨hK3.to HB2.out (Nat.le_succ _) (Nat.le_refl _)⟩
      clear hI3 hx3 hK3
      by_cases hle : r + 1 ≤ a1 - V a0 l2.length x
      · have hw : waitF a0 (a1 - V a0 l2.length x) (r + 1) = (0, true) := if_pos hle
        rw [hw]
        have HV3 := Aside0.mk hV3
        have HVk := Aside0.mk hVk
        clear hV3 hVk
        go_wp2_with fail
        refine (use_a HI3.out HX3.out (by omega) (by omega) (by omega) (by decide) (Int.le_refl _) (by omega)).mono ?_
        rintro e w4 ⟨rv, n4, x4, rfl, hI4, hx4, hn4, hK4, hR⟩
        have hVk := HVk.out
        obtain rfl : rv = 0 := by
          rcases hR with ⟨h1, h2, _⟩ | ⟨h1, _⟩
          · rw [hVk] at h2; omega
          · exact h1
        have HB4 : Aside0 (Below w.heap.size w w4) := ⟨hK4.to HB3.out (Nat.le_succ _) (Nat.le_refl _)⟩
        clear hR hI4 hx4 hK4 hVk
        go_wp2_with fail
        refine awake_calls.mono ?_
        rintro e w5 ⟨rfl, hB5⟩
        go_wp2_with fail
        go_ret
        exact ⟨rfl, HB4.out.trans (hB5.mono HB4.out.size)⟩
      · by_cases hz : a0 = 0
        · have hw : waitF a0 (a1 - V a0 l2.length x) (r + 1) = (0, false) := by unfold waitF; rw [if_neg hle, if_pos hz]
          rw [hw]
          have HV3 := Aside0.mk hV3
          have HVk := Aside0.mk hVk
          clear hV3 hVk hw
          have hz' : (a0 == 0) = true := by simpa using hz
          go_wp2_with fail
          refine (left_a HI3.out HX3.out (Int.le_refl _) (by omega)).mono ?_
          rintro e w4 ⟨x4, rfl, hI4, hx4, hK4, hV4⟩
          rw [HVk.out]
          have hlt2 : a1 - V a0 l2.length x < r + 1 := by omega
          generalize V a0 l2.length x = vv at hlt2 ⊢
          have HB4 : Aside0 (Below w.heap.size w w4) := ⟨hK4.to HB3.out (Nat.le_succ _) (Nat.le_refl _)⟩
          clear hI4 hx4 hK4 hV4
          go_wp2_with fail
          refine awake_calls.mono ?_
          rintro e w5 ⟨rfl, hB5⟩
          go_wp2_with fail
          go_ret
          exact ⟨rfl, HB4.out.trans (hB5.mono HB4.out.size)⟩
        · obtain ⟨q, hq⟩ : ∃ q, q = Int.tdiv (r + 1 - (a1 - V a0 l2.length x) + a0 - 1) a0 := ⟨_, rfl⟩
          have hw : waitF a0 (a1 - V a0 l2.length x) (r + 1) = (q, true) := by unfold waitF; rw [if_neg hle, if_neg hz, hq]
          rw [hw]
          have hW := wait_right HX.out (by omega) (by omega) (by omega) hq
          obtain ⟨w1a, w1b, w1c, w1d⟩ := hW
          have W1C := Aside0.mk w1c
          have W1D := Aside0.mk w1d
          have HV3 := Aside0.mk hV3
          have HQ := Aside0.mk hq
          clear hV3 hVk hw hq w1c w1d
          have hwr : IntKind.i64.wrap ((l2.length : Int) + q) = (l2.length : Int) + q := IntWalk.i64_in _ (by omega)
          have hwr2 : IntKind.i64.wrap ((l2.length : Int) + q - 1) = (l2.length : Int) + q - 1 := IntWalk.i64_in _ (by omega)
          go_wp2_with fail
          refine (left_a HI3.out HX3.out (by omega) (by omega)).mono ?_
          rintro e w4 ⟨x4, rfl, hI4, hx4, hK4, hV4⟩
          have e1 : (l2.length : Int) + q - 1 = (l2.length : Int) + (q - 1) := by omega
          have hv1 : V a0 ((l2.length : Int) + q - 1) x3 = V a0 ((l2.length : Int) + (q - 1)) x := by rw [HV3.out _ (by omega), e1]
          rw [hv1]
          have hlt2 := W1C.out
          have HV4 := Aside0.mk hV4
          have HI4 := Aside0.mk hI4
          have HX4 := Aside0.mk hx4
          have HB4 : Aside0 (Below w.heap.size w w4) := ⟨hK4.to HB3.out (Nat.le_succ _) (Nat.le_refl _)⟩
          clear hI4 hx4 hK4 hV4 hv1 e1
          generalize V a0 ((l2.length : Int) + (q - 1)) x = vv at hlt2 ⊢
          go_wp2_with fail
          refine (use_a HI4.out HX4.out (by omega) (by omega) (by omega) (by decide) (by omega) (by omega)).mono ?_
          rintro e w5 ⟨rv, n5, x5, rfl, hI5, hx5, hn5, hK5, hR⟩
          obtain rfl : rv = 0 := by
            rcases hR with ⟨h1, h2, _⟩ | ⟨h1, _⟩
            · rw [HV4.out _ (by omega), HV3.out _ (by omega)] at h2
              have := W1D.out
              omega
            · exact h1
          have HB5 : Aside0 (Below w.heap.size w w5) := ⟨hK5.to HB4.out (Nat.le_succ _) (Nat.le_refl _)⟩
          clear hR hI5 hx5 hK5
          go_wp2_with fail
          refine awake_calls.mono ?_
          rintro e w6 ⟨rfl, hB6⟩
          go_wp2_with fail
          go_ret
          exact ⟨rfl, HB5.out.trans (hB6.mono HB5.out.size)⟩
end Go.Proofs.Ytpibjdkenifggaa.QU
