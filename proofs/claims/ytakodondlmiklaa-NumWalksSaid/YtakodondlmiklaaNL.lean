/- NumWalks: the walk: a row of numbers is walked as it was written, and no further. -/
import Derived.Test.YtakodondlmiklaaNI
import Derived.RegionTactic
import Derived.Deep.QuietTactic
import Derived.BigQuiet
import Derived.ChangeAlike
import Derived.WalkSpells
import Derived.Carry
import Derived.StillTailTactics
import Derived.LoopTactic
import Derived.Deep.RegionHeld3
namespace Go.Proofs.Ytakodondlmiklaa.NW
open Go.RowKit Go.Proofs.Ytakodondlmiklaa.PNumWalks Go.Proofs.YtakodondlmiklaaW.PrintWords Go.Proofs.YtakodondlmiklaaW.PrintLast Go.Proofs.YtakodondlmiklaaW.PrintMore Go.Proofs.Ytakodondlmiklaa.UsePNumWalks
set_option linter.unusedVariables false
set_option linter.unusedSimpArgs false
set_option maxRecDepth 100000
attribute [local go_sem] max2_int min2_int max_two min_two

theorem put_calls (n : Int) (w : World) (h : in64 n) : Calls Try.prog 16 #[.int .i64 n] w fun e w' => ∃ A c, e = .returned (.slice A (one n).length c) ∧ (one n).length ≤ c ∧ Kd.C (Kd.int .u8) w' A (one n).length (one n) ∧ Below w.heap.size w w' := by
  refine (num_Put.calls 20 n (one n) w (put_f h 20 (by decide))).mono ?_
  rintro e w' ⟨v, rfl, hR, hb⟩
  obtain ⟨A, c, rfl, hc, hC⟩ := Kd.R_reads hR
  exact ⟨A, c, rfl, hc, hC, hb⟩
theorem awake_calls {w : World} : Calls Try.prog 13 #[] w fun e w' => e = .returned (.bool true) ∧ Below w.heap.size w w' := cordwainlaw1_awake.calls 40 true w (awake_f 40 (by decide))
theorem meas (n i : Nat) (h : i < n) : n - (intOf (.int .i64 ((i : Int) + 1))).toNat < n - (intOf (.int .i64 (i : Int))).toNat := by
  show n - ((i : Int) + 1).toNat < n - ((i : Int)).toNat
  omega
theorem nil_C (W : World) : Kd.C (Kd.int .u8) W none 0 [] := ⟨rfl, by omega, fun h => absurd h (by omega)⟩
theorem walk_calls {w : World} {Bb : Nat} {A : Option Addr} {c : Nat} {bs ns : List Int} {most : Int} (hrow : Kd.C (Kd.int .u8) w A bs.length bs) (hc : bs.length ≤ c) (hR : Row ns bs)
    (hBb : w.cell? ⟨Bb, 0, none⟩ = some (.slice A bs.length c)) (hlen : ns.length ≤ 1000000) (hm : 0 ≤ most) {k : Nat} (hk : (k : Int) = min most (ns.length : Int)) :
    Calls Try.prog 44 #[.func (.func 50) #[] #[.pointer (some ⟨Bb, 0, none⟩)], .int .i64 most] w fun e w' => ∃ A' c', e = .returned (.slice A' (ns.take k).length c') ∧ (ns.take k).length ≤ c' ∧ Kd.C (Kd.int .i64) w' A' (ns.take k).length (ns.take k) ∧ Below w.heap.size w w' := by
  refine (callsIn_wide.1 (walk_in 9 (by decide) hrow hc hR hBb hlen hm)).mono ?_
  rintro e w' ⟨v, k', rfl, hk', ho, hb⟩
  obtain rfl : k' = k := by omega
  have hl : (ns.take k').length = k' := by rw [List.length_take]; omega
  obtain ⟨A', c', rfl, hc', hr⟩ := own_reads_of_le (d := (0 : Int)) (enc := Value.int .i64) ho
  refine ⟨A', c', by rw [hl], by rw [hl]; exact hc', ?_, hb⟩
  rw [hl]
  exact Kd.C_of_reads hr
/-- Behind i numbers. -/
def L1 (w : World) (l : List Int) (vb vi : Value) (wr : World) : Prop :=
  ∃ i : Nat, vi = .int .i64 (i : Int) ∧ i ≤ l.length ∧ Kd.R (Kd.int .u8) 5 wr w.heap.size (fun _ => True) vb (bytes (l.take i)) ∧ Below w.heap.size w wr
set_option maxHeartbeats 4000000 in
theorem numWalks_walk (A0 : Option Addr) (c0 : Nat) (l0 : List Int) (A1 : Option Addr) (c1 : Nat) (l1 : List Int) (a2 : Int) (w : World) (hc0 : l0.length ≤ c0) (hr0 : Kd.C (Kd.int .i64) w A0 l0.length l0) (hc1 : l1.length ≤ c1) (hr1 : Kd.C (Kd.int .u8) w A1 l1.length l1) (q0 : (l0.length ≤ maxLen ∧ ∀ x_ ∈ l0, (Lit.int .i64 x_).wf = true)) (q1 : (l1.length ≤ maxLen ∧ ∀ x_ ∈ l1, (Lit.int .u8 x_).wf = true)) (q2 : (Lit.int .i64 a2).wf = true) :
    Calls Try.prog 12 #[.slice A0 l0.length c0, .slice A1 l1.length c1, .int .i64 a2] w fun e w' => e = .returned (.bool true) ∧ Below w.heap.size w w' := by
  have hin : ∀ n ∈ l0, in64 n := fun n hn => in_i64 (q0.2 n hn)
  have HIN := Aside0.mk hin
  have HR0 := Aside0.mk hr0
  have HR1 := Aside0.mk hr1
  clear hr0 hr1 q0 q1 q2 hin
  by_cases h1 : (l0.length : Int) > 200
  · go_enter Try.func12, Try.ntmps12
    go_wp2_with fail
    all_goals (refine awake_calls.mono ?_; rintro e w' ⟨rfl, hb⟩; go_wp2_with fail; go_ret; exact ⟨rfl, hb⟩)
  by_cases h2 : (l1.length : Int) > 20
  · go_enter Try.func12, Try.ntmps12
    go_wp2_with fail
    all_goals (refine awake_calls.mono ?_; rintro e w' ⟨rfl, hb⟩; go_wp2_with fail; go_ret; exact ⟨rfl, hb⟩)
  by_cases h3 : a2 < 0
  · go_enter Try.func12, Try.ntmps12
    go_wp2_with fail
    all_goals (refine awake_calls.mono ?_; rintro e w' ⟨rfl, hb⟩; go_wp2_with fail; go_ret; exact ⟨rfl, hb⟩)
  have hl0 : (l0.length : Int) ≤ 200 := by omega
  have hl1 : (l1.length : Int) ≤ 20 := by omega
  have ha2 : 0 ≤ a2 := by omega
  clear h1 h2 h3
  go_enter Try.func12, Try.ntmps12
  go_wp2_with fail
  go_loopw [7, 8] (fun vb vi wr => L1 w l0 vb vi wr) (fun _ vi _ => l0.length - (intOf vi).toNat)
  case atStart => exact ⟨0, rfl, Nat.zero_le _, by rw [List.take_zero]; exact Kd.R_nil _ _ _ _ _, Below.refl _ _⟩
  case round =>
    obtain ⟨i, rfl, hi, hR, hB⟩ := hrel
    have HB := Aside0.mk hB
    have HR := Aside0.mk hR
    clear hB hR
    by_cases hlt : i < l0.length
    · obtain ⟨ad, cc, e1, _, hK, hcc⟩ := Kd.C_get (Kd.C_below HR0.out HB.out) 0 (i : Int) (by omega) (by omega)
      obtain rfl : cc = [.int .i64 (l0.getD i 0)] := hK
      have hxx : wr.cell? (ad.add i) = some (.int .i64 (l0.getD i 0)) := by
        have := hcc 0 _ rfl
        simpa [show (Kd.int IntKind.i64).sz = 1 from rfl] using this
      clear hcc
      subst e1
      go_wp2_with fail
      refine (put_calls _ wr (HIN.out _ (List.getElem_mem hlt))).mono ?_
      rintro e w2 ⟨A2, c2, rfl, hc2, hC2, hb2⟩
      have HC2 := Aside0.mk hC2
      have HRb : Aside0 (Kd.R (Kd.int .u8) 5 w2 w.heap.size (fun _ => True) u7 (bytes (l0.take i))) := ⟨Kd.R_below HR.out hb2⟩
      have HB2 : Aside0 (Below w.heap.size w w2) := ⟨HB.out.trans (hb2.mono HB.out.size)⟩
      have hlb := bytes_le (l0.take i)
      have hlo := one_le l0[i]
      rw [List.length_take] at hlb
      have hts : bytes (l0.take i) ++ one l0[i] = bytes (l0.take (i + 1)) := by rw [List.take_succ_eq_append_getElem hlt, bytes_snoc]
      clear hC2 hb2 hxx
      go_wp2_with ((with_reducible refine gate_builtin (b := .append) (xs := #[.tmp 31, .tmp 36]) rfl ?_); at_builtin; refine Kd.R_append_rows (Kd.int .u8) (w0 := w) w.heap.size ?k1 (.tmp 31) (.tmp 36) 23 5 (.int .u8 0) 1 ?k2 ?k3 ?k4 ?k5 ?k6 ?k7 u7 (bytes (l0.take i)) (one l0[i]) A2 (one l0[i]).length c2 (fun _ => True) (fun _ => False) ?k8 ?k9 HRb.out HC2.out ?k10 (fun _ h => h.elim) (fun _ _ => trivial) HB2.out HB2.out.size ?k11 ?k12; (case k1 => rfl); (case k2 => rfl); (case k3 => exact Try.underlying23); (case k4 => exact info5); (case k5 => rfl); (case k6 => decide); (case k7 => decide); (case k8 => rfl); (case k9 => rfl); (case k10 => exact fun x cs h => h); (case k11 => omega); (case' k12 => intro v1 w3 hR3 hB3 hG3 hat3))
      rw [hts] at hR3
      exact ⟨⟨i + 1, rfl, hlt, hR3, hB3⟩, meas _ _ hlt⟩
    · obtain rfl : i = l0.length := by omega
      rw [List.take_length] at HR
      clear hlt hi
      obtain ⟨x, j, hq, hj⟩ := told_of l1
      have hlb := bytes_le l0
      have hr1w := Kd.C_below HR1.out HB.out
      go_wp2_with fail
      refine (cordwainref1_Get.calls 60 A1 c1 l1 x j wr hr1w hc1 hq).mono ?_
      rintro e w2 ⟨rfl, hd⟩
      have HR2 : Aside0 (Kd.R (Kd.int .u8) 5 w2 w.heap.size (fun _ => True) u7 (bytes l0)) := ⟨Kd.R_below HR.out hd.below⟩
      have HB2 : Aside0 (Below w.heap.size w w2) := ⟨HB.out.trans (hd.below.mono HB.out.size)⟩
      have HC1 : Aside0 (Kd.C (Kd.int .u8) w2 A1 l1.length l1) := ⟨Kd.C_below hr1w hd.below⟩
      have HN := Aside0.mk (nil_C w2)
      clear hr1w hd hq
      by_cases hj0 : 0 < j
      · clear hj
        go_wp2_with ((with_reducible refine gate_builtin (b := .append) (xs := #[.tmp 45, .tmp 46]) rfl ?_); at_builtin; refine Kd.R_append_rows (Kd.int .u8) (w0 := w) w.heap.size ?m1 (.tmp 45) (.tmp 46) 23 5 (.int .u8 0) 1 ?m2 ?m3 ?m4 ?m5 ?m6 ?m7 u7 (bytes l0) [] none 0 0 (fun _ => True) (fun _ => False) ?m8 ?m9 HR2.out HN.out ?m10 (fun _ h => h.elim) (fun _ _ => trivial) HB2.out HB2.out.size ?m11 ?m12; (case m1 => rfl); (case m2 => rfl); (case m3 => exact Try.underlying23); (case m4 => exact info5); (case m5 => rfl); (case m6 => decide); (case m7 => decide); (case m8 => rfl); (case m9 => rfl); (case m10 => exact fun x cs h => h); (case m11 => omega); (case' m12 => (intro v1 w3 hR3 hB3 hG3 hat3; obtain ⟨A3, c3, rfl, hc3, hC3⟩ := Kd.R_reads hR3)))
        rw [List.append_nil] at hC3 hc3
        have hrow := row_of get_nil l0 HIN.out
        rw [List.append_nil] at hrow
        generalize bytes l0 = bs at hC3 hc3 hrow
        have HC3 := Aside0.mk hC3
        have HROW := Aside0.mk hrow
        have HB3 := Aside0.mk hB3
        clear hC3 hrow hB3 hG3 hat3 hR3
        focus
          refine (all_calls _ _ _).mono ?_
          rintro e w4 ⟨rfl, rfl⟩
          obtain ⟨W4, hW4⟩ : ∃ W4, w3.alloc (.cells #[.slice A3 bs.length c3] 23) = W4 := ⟨_, rfl⟩
          have HC4 : Aside0 (Kd.C (Kd.int .u8) W4 A3 bs.length bs) := ⟨by rw [← hW4]; exact Kd.C_alloc HC3.out _⟩
          have HB4 : Aside0 (Below w.heap.size w W4) := ⟨by rw [← hW4]; exact below_alloc HB3.out _⟩
          have HBX : Aside0 (W4.cell? ⟨w3.heap.size, 0, none⟩ = some (.slice A3 bs.length c3)) := ⟨by rw [← hW4]; exact (blk_cell (blk_new _ _) 0).trans rfl⟩
          rw [hW4]
          clear hW4 HC3 HB3
          obtain ⟨m, hm, hml, hmi⟩ : ∃ m : Nat, (m : Int) = min a2 (l0.length : Int) ∧ m ≤ l0.length ∧ (if a2 < (l0.length : Int) then a2 else (l0.length : Int)) = (m : Int) := ⟨(min a2 (l0.length : Int)).toNat, by omega, by omega, by split <;> omega⟩
          have hBd := below_drew (Below.refl W4.heap.size W4)
          have hw1 := fun (w' : World) (h : Below W4.heap.size W4 w') => walk_calls (w := w') (Bb := w3.heap.size) (most := 1000) (k := l0.length) (Kd.C_below HC4.out h) hc3 HROW.out ((h.cell (World.block_lt_of_cell? _ _ HBX.out)).trans HBX.out) (by omega) (by decide) (by omega)
          have hw2 := fun (w' : World) (h : Below W4.heap.size W4 w') => walk_calls (w := w') (Bb := w3.heap.size) (most := a2) (k := m) (Kd.C_below HC4.out h) hc3 HROW.out ((h.cell (World.block_lt_of_cell? _ _ HBX.out)).trans HBX.out) (by omega) ha2 (by omega)
          rw [List.take_length] at hw1
          have hi1 := ints_f l0 (by omega)
          have hlt2 : (l0.take m).length = m := by rw [List.length_take]; omega
          have hi2 := ints_f (l0.take m) (by rw [hlt2]; omega)
          have hr0 := Kd.C_below HR0.out HB4.out
          have hcut : ∀ W : World, (Instr.slice 71 (.slice A0 l0.length c0) none (some (.int .i64 (m : Int))) none).run Try.prog W = .ok (.slice A0 (l0.take m).length c0) W := by
            obtain ⟨i0, hi0, hz0, hz1, hz2⟩ := info_parts info3
            intro W
            rw [hlt2]
            have := cut_to (P := Try.prog) 71 3 .i64 Try.underlying71 hi0 A0 l0.length c0 (m : Int) (by omega) (by omega) hc0 W
            rw [Int.toNat_natCast] at this
            exact this
          have hrm : Kd.C (Kd.int .i64) W4 A0 (l0.take m).length (l0.take m) := Kd.C_take hr0 hml
          have hlc : (l0.take m).length ≤ c0 := by rw [hlt2]; omega
          have HLT := Aside0.mk hlt2
          clear hlt2
          generalize l0.take m = lt at hw2 hi2 hcut hrm hlc HLT
          by_cases hmn : (m : Int) = a2
          · rw [hmn] at hcut
            have hle2 : a2 ≤ (l0.length : Int) := by omega
            have hmn2 : ((l0.length : Int) < a2) = False := eq_false (by omega)
            clear hmi hm hmn
            go_wp2_with fail
            go_region_held3 (fun w' => True) (exact trivial)
              (first
                | (go_at_call 44; refine (hw1 _ hBd).mono ?_; clear hw1; rintro e5 w5 ⟨A5, c5, rfl, hc5, hC5, hb5⟩; have hB5 := hBd.trans (hb5.mono hBd.size))
                | (go_at_call 43; refine (cordwainalike_Ints.calls _ A5 c5 l0 A0 c0 l0 true w5 hC5 hc5 (Kd.C_below hr0 hB5) hc0 hi1).mono ?_; clear hi1; rintro e6 w6 ⟨rfl, hd6⟩; have hB6 := hB5.trans (hd6.below.mono hB5.size))
                | (go_at_call 44; refine (hw2 _ hB6).mono ?_; clear hw2; rintro e7 w7 ⟨A7, c7, rfl, hc7, hC7, hb7⟩; have hB7 := hB6.trans (hb7.mono hB6.size))
                | (go_at_call 43; refine (cordwainalike_Ints.calls _ A7 c7 lt A0 c0 lt true w7 hC7 hc7 (Kd.C_below hrm hB7) hlc hi2).mono ?_; clear hi2; rintro e8 w8 ⟨rfl, hd8⟩; have hB8 := hB7.trans (hd8.below.mono hB7.size))
                | (go_at_call 13; refine awake_calls.mono ?_; rintro e9 w9 ⟨rfl, hb9⟩; have hB9 := hB8.trans (hb9.mono hB8.size)))
            all_goals (
              go_wp2_with fail
              go_ret
              exact ⟨rfl, HB4.out.trans (hB9.mono HB4.out.size)⟩)
          · obtain rfl : m = l0.length := by omega
            have hmn : (l0.length : Int) < a2 := by omega
            clear hmi hm
            go_wp2_with fail
            go_region_held3 (fun w' => True) (exact trivial)
              (first
                | (go_at_call 44; refine (hw1 _ hBd).mono ?_; clear hw1; rintro e5 w5 ⟨A5, c5, rfl, hc5, hC5, hb5⟩; have hB5 := hBd.trans (hb5.mono hBd.size))
                | (go_at_call 43; refine (cordwainalike_Ints.calls _ A5 c5 l0 A0 c0 l0 true w5 hC5 hc5 (Kd.C_below hr0 hB5) hc0 hi1).mono ?_; clear hi1; rintro e6 w6 ⟨rfl, hd6⟩; have hB6 := hB5.trans (hd6.below.mono hB5.size))
                | (go_at_call 44; refine (hw2 _ hB6).mono ?_; clear hw2; rintro e7 w7 ⟨A7, c7, rfl, hc7, hC7, hb7⟩; have hB7 := hB6.trans (hb7.mono hB6.size))
                | (go_at_call 43; refine (cordwainalike_Ints.calls _ A7 c7 lt A0 c0 lt true w7 hC7 hc7 (Kd.C_below hrm hB7) hlc hi2).mono ?_; clear hi2; rintro e8 w8 ⟨rfl, hd8⟩; have hB8 := hB7.trans (hd8.below.mono hB7.size))
                | (go_at_call 13; refine awake_calls.mono ?_; rintro e9 w9 ⟨rfl, hb9⟩; have hB9 := hB8.trans (hb9.mono hB8.size)))
            all_goals (
              go_wp2_with fail
              go_ret
              exact ⟨rfl, HB4.out.trans (hB9.mono HB4.out.size)⟩)
      · have hbad : ∃ x y : Int, num_Get.f 60 l1 = some (x, y, 2) := by
          rcases hj with hj | ⟨_, hj⟩
          · exact absurd hj hj0
          · exact ⟨_, _, hj⟩
        clear hj
        go_wp2_with ((with_reducible refine gate_builtin (b := .append) (xs := #[.tmp 45, .tmp 46]) rfl ?_); at_builtin; refine Kd.R_append_rows (Kd.int .u8) (w0 := w) w.heap.size ?n1 (.tmp 45) (.tmp 46) 23 5 (.int .u8 0) 1 ?n2 ?n3 ?n4 ?n5 ?n6 ?n7 u7 (bytes l0) l1 A1 l1.length c1 (fun _ => True) (fun _ => False) ?n8 ?n9 HR2.out HC1.out ?n10 (fun _ h => h.elim) (fun _ _ => trivial) HB2.out HB2.out.size ?n11 ?n12; (case n1 => rfl); (case n2 => rfl); (case n3 => exact Try.underlying23); (case n4 => exact info5); (case n5 => rfl); (case n6 => decide); (case n7 => decide); (case n8 => rfl); (case n9 => rfl); (case n10 => exact fun x cs h => h); (case n11 => omega); (case' n12 => (intro v1 w3 hR3 hB3 hG3 hat3; obtain ⟨A3, c3, rfl, hc3, hC3⟩ := Kd.R_reads hR3; clear hR3; generalize hbs : bytes l0 ++ l1 = bs at hC3 hc3 ⊢)))
        have hrow := row_of hbad l0 HIN.out
        rw [hbs] at hrow
        clear hbs
        have HC3 := Aside0.mk hC3
        have HROW := Aside0.mk hrow
        have HB3 := Aside0.mk hB3
        clear hC3 hrow hB3 hG3 hat3
        focus
          refine (all_calls _ _ _).mono ?_
          rintro e w4 ⟨rfl, rfl⟩
          obtain ⟨W4, hW4⟩ : ∃ W4, w3.alloc (.cells #[.slice A3 bs.length c3] 23) = W4 := ⟨_, rfl⟩
          have HC4 : Aside0 (Kd.C (Kd.int .u8) W4 A3 bs.length bs) := ⟨by rw [← hW4]; exact Kd.C_alloc HC3.out _⟩
          have HB4 : Aside0 (Below w.heap.size w W4) := ⟨by rw [← hW4]; exact below_alloc HB3.out _⟩
          have HBX : Aside0 (W4.cell? ⟨w3.heap.size, 0, none⟩ = some (.slice A3 bs.length c3)) := ⟨by rw [← hW4]; exact (blk_cell (blk_new _ _) 0).trans rfl⟩
          rw [hW4]
          clear hW4 HC3 HB3
          obtain ⟨m, hm, hml, hmi⟩ : ∃ m : Nat, (m : Int) = min a2 (l0.length : Int) ∧ m ≤ l0.length ∧ (if a2 < (l0.length : Int) then a2 else (l0.length : Int)) = (m : Int) := ⟨(min a2 (l0.length : Int)).toNat, by omega, by omega, by split <;> omega⟩
          have hBd := below_drew (Below.refl W4.heap.size W4)
          have hw1 := fun (w' : World) (h : Below W4.heap.size W4 w') => walk_calls (w := w') (Bb := w3.heap.size) (most := 1000) (k := l0.length) (Kd.C_below HC4.out h) hc3 HROW.out ((h.cell (World.block_lt_of_cell? _ _ HBX.out)).trans HBX.out) (by omega) (by decide) (by omega)
          have hw2 := fun (w' : World) (h : Below W4.heap.size W4 w') => walk_calls (w := w') (Bb := w3.heap.size) (most := a2) (k := m) (Kd.C_below HC4.out h) hc3 HROW.out ((h.cell (World.block_lt_of_cell? _ _ HBX.out)).trans HBX.out) (by omega) ha2 (by omega)
          rw [List.take_length] at hw1
          have hi1 := ints_f l0 (by omega)
          have hlt2 : (l0.take m).length = m := by rw [List.length_take]; omega
          have hi2 := ints_f (l0.take m) (by rw [hlt2]; omega)
          have hr0 := Kd.C_below HR0.out HB4.out
          have hcut : ∀ W : World, (Instr.slice 71 (.slice A0 l0.length c0) none (some (.int .i64 (m : Int))) none).run Try.prog W = .ok (.slice A0 (l0.take m).length c0) W := by
            obtain ⟨i0, hi0, hz0, hz1, hz2⟩ := info_parts info3
            intro W
            rw [hlt2]
            have := cut_to (P := Try.prog) 71 3 .i64 Try.underlying71 hi0 A0 l0.length c0 (m : Int) (by omega) (by omega) hc0 W
            rw [Int.toNat_natCast] at this
            exact this
          have hrm : Kd.C (Kd.int .i64) W4 A0 (l0.take m).length (l0.take m) := Kd.C_take hr0 hml
          have hlc : (l0.take m).length ≤ c0 := by rw [hlt2]; omega
          have HLT := Aside0.mk hlt2
          clear hlt2
          generalize l0.take m = lt at hw2 hi2 hcut hrm hlc HLT
          by_cases hmn : (m : Int) = a2
          · rw [hmn] at hcut
            have hle2 : a2 ≤ (l0.length : Int) := by omega
            have hmn2 : ((l0.length : Int) < a2) = False := eq_false (by omega)
            clear hmi hm hmn
            go_wp2_with fail
            go_region_held3 (fun w' => True) (exact trivial)
              (first
                | (go_at_call 44; refine (hw1 _ hBd).mono ?_; clear hw1; rintro e5 w5 ⟨A5, c5, rfl, hc5, hC5, hb5⟩; have hB5 := hBd.trans (hb5.mono hBd.size))
                | (go_at_call 43; refine (cordwainalike_Ints.calls _ A5 c5 l0 A0 c0 l0 true w5 hC5 hc5 (Kd.C_below hr0 hB5) hc0 hi1).mono ?_; clear hi1; rintro e6 w6 ⟨rfl, hd6⟩; have hB6 := hB5.trans (hd6.below.mono hB5.size))
                | (go_at_call 44; refine (hw2 _ hB6).mono ?_; clear hw2; rintro e7 w7 ⟨A7, c7, rfl, hc7, hC7, hb7⟩; have hB7 := hB6.trans (hb7.mono hB6.size))
                | (go_at_call 43; refine (cordwainalike_Ints.calls _ A7 c7 lt A0 c0 lt true w7 hC7 hc7 (Kd.C_below hrm hB7) hlc hi2).mono ?_; clear hi2; rintro e8 w8 ⟨rfl, hd8⟩; have hB8 := hB7.trans (hd8.below.mono hB7.size))
                | (go_at_call 13; refine awake_calls.mono ?_; rintro e9 w9 ⟨rfl, hb9⟩; have hB9 := hB8.trans (hb9.mono hB8.size)))
            all_goals (
              go_wp2_with fail
              go_ret
              exact ⟨rfl, HB4.out.trans (hB9.mono HB4.out.size)⟩)
          · obtain rfl : m = l0.length := by omega
            have hmn : (l0.length : Int) < a2 := by omega
            clear hmi hm
            go_wp2_with fail
            go_region_held3 (fun w' => True) (exact trivial)
              (first
                | (go_at_call 44; refine (hw1 _ hBd).mono ?_; clear hw1; rintro e5 w5 ⟨A5, c5, rfl, hc5, hC5, hb5⟩; have hB5 := hBd.trans (hb5.mono hBd.size))
                | (go_at_call 43; refine (cordwainalike_Ints.calls _ A5 c5 l0 A0 c0 l0 true w5 hC5 hc5 (Kd.C_below hr0 hB5) hc0 hi1).mono ?_; clear hi1; rintro e6 w6 ⟨rfl, hd6⟩; have hB6 := hB5.trans (hd6.below.mono hB5.size))
                | (go_at_call 44; refine (hw2 _ hB6).mono ?_; clear hw2; rintro e7 w7 ⟨A7, c7, rfl, hc7, hC7, hb7⟩; have hB7 := hB6.trans (hb7.mono hB6.size))
                | (go_at_call 43; refine (cordwainalike_Ints.calls _ A7 c7 lt A0 c0 lt true w7 hC7 hc7 (Kd.C_below hrm hB7) hlc hi2).mono ?_; clear hi2; rintro e8 w8 ⟨rfl, hd8⟩; have hB8 := hB7.trans (hd8.below.mono hB7.size))
                | (go_at_call 13; refine awake_calls.mono ?_; rintro e9 w9 ⟨rfl, hb9⟩; have hB9 := hB8.trans (hb9.mono hB8.size)))
            all_goals (
              go_wp2_with fail
              go_ret
              exact ⟨rfl, HB4.out.trans (hB9.mono HB4.out.size)⟩)
end Go.Proofs.Ytakodondlmiklaa.NW
