/- Each record with a key ahead of what is not covered is known, with its last offset there. -/
import Derived.Test.YtpibjdkenifggaaKBW
import Derived.Test.YtpibjdkenifggaaKS
import Derived.Test.YtpibjdkenifggaaGreatest
import Derived.Deep.QuietTactic
import Derived.BigQuiet
namespace Go.Proofs.Ytpibjdkenifggaa.KM
open Go.RowKit Go.Maps Go.MapKept Go.ChangeMaps Go.WideElems Go.WideMaps Go.WideShapes Go.Proofs.YtpibjdkenifggaaW.PrintWords Go.Proofs.YtpibjdkenifggaaW.PrintLast Go.Proofs.YtpibjdkenifggaaW.PrintMore Go.Proofs.Ytpibjdkenifggaa.PKeymapCovers
attribute [local go_sem] max2_int min2_int max_two min_two
set_option linter.unusedVariables false

theorem wellB_step (last : Int) (b : S40) (bs : List S40) (la : Int) (h1 : ¬ b.f0 ≤ last) (h2 : wellR b.f0 b.f1 last b.f5 = some la) (h3 : ¬ b.f1 < la) (h4 : ¬ b.f1 > 4611686018427387904) : wellB last (b :: bs) = wellB b.f1 bs := by
  rw [wellB, if_neg h1, h2]
  simp only
  rw [if_neg (by omega)]
theorem wellR_step (base lst la : Int) (r : S42) (rs : List S42) (h1 : ¬ r.f0 ≤ la) (h2 : ¬ r.f0 < base) (h3 : ¬ r.f0 > lst) : wellR base lst la (r :: rs) = wellR base lst r.f0 rs := by
  rw [wellR, if_neg (by omega)]
def C1 (w : World) (l : List S40) (a b : Value) (wr : World) : Prop :=
  ∃ (i : Nat) (last : Int), a = .int .i64 last ∧ b = .int .i64 i ∧ i ≤ l.length ∧ wellB last (l.drop i) = wellB (-1) l ∧ Below w.heap.size w wr
theorem k42_heap : Kd.Heap k42 := Kd.heap_iso _ (Kd.heap_pair (Kd.heap_int .i64) (Kd.heap_pair (Kd.heap_int .i64) (Kd.heap_pair Kd.heap_bool (Kd.heap_pair (Kd.heap_slice 5 (Kd.heap_int .u8)) (Kd.heap_pair Kd.heap_bool (Kd.heap_slice 5 (Kd.heap_int .u8)))))))
theorem k40_heap : Kd.Heap k40 := Kd.heap_iso _ (Kd.heap_pair (Kd.heap_int .i64) (Kd.heap_pair (Kd.heap_int .i64) (Kd.heap_pair (Kd.heap_int .i64) (Kd.heap_pair (Kd.heap_int .i64) (Kd.heap_pair (Kd.heap_int .i64) (Kd.heap_slice 42 k42_heap))))))
def C3 (w wr w3 : World) (all : List S42) (a1 u M : Int) (g : Nat) (D : DataW Unit) (a b : Value) (wc : World) : Prop :=
  ∃ i : Nat, a = .int .i64 i ∧ b = .int .i64 ((keysOf ((all.take i).filter (inn a1 u))).length : Nat) ∧ i ≤ all.length ∧ IsKM wr wc g M D ∧ Below w3.heap.size w3 wc ∧ Below w.heap.size w wc
def C4 (w wr w3 : World) (all : List S42) (x : S42) (a1 u M : Int) (g : Nat) (D : DataW Unit) (bx : Nat) (bo : Obj) (a b c : Value) (wc : World) : Prop :=
  ∃ k : Nat, c = .int .i64 k ∧ a = .int .i64 (wantR a1 u x.f3 x.f0 (all.take k)) ∧ b = .bool (firstR a1 u x.f3 x.f0 (all.take k)) ∧ k ≤ all.length ∧ IsKM wr wc g M D ∧ Below w3.heap.size w3 wc ∧ Below w.heap.size w wc ∧ wc.heap[bx]? = some bo
def C2 (w : World) (x : S40) (last : Int) (a b : Value) (wr : World) : Prop :=
  ∃ (k : Nat) (la : Int), a = .int .i64 la ∧ b = .int .i64 k ∧ k ≤ x.f5.length ∧ wellR x.f0 x.f1 la (x.f5.drop k) = wellR x.f0 x.f1 last x.f5 ∧ Below w.heap.size w wr

set_option maxHeartbeats 8000000 in
set_option maxRecDepth 100000 in
theorem keymapCovers_walk (A0 : Option Addr) (c0 : Nat) (l0 : List (S40)) (a1 : Int) (a2 : Int) (w : World) (hc0 : l0.length ≤ c0) (hr0 : Kd.C k40 w A0 l0.length l0) (q0 : (l0.length ≤ maxLen ∧ ∀ x_ ∈ l0, ((Lit.int .i64 x_.f0).wf = true ∧ (Lit.int .i64 x_.f1).wf = true ∧ (Lit.int .i64 x_.f2).wf = true ∧ (Lit.int .i64 x_.f3).wf = true ∧ (Lit.int .i64 x_.f4).wf = true ∧ (x_.f5.length ≤ maxLen ∧ ∀ x__ ∈ x_.f5, ((Lit.int .i64 x__.f0).wf = true ∧ (Lit.int .i64 x__.f1).wf = true ∧ True ∧ (x__.f3.length ≤ maxLen ∧ ∀ x___ ∈ x__.f3, (Lit.int .u8 x___).wf = true) ∧ True ∧ (x__.f5.length ≤ maxLen ∧ ∀ x___ ∈ x__.f5, (Lit.int .u8 x___).wf = true)))))) (q1 : (Lit.int .i64 a1).wf = true) (q2 : (Lit.int .i64 a2).wf = true) :
    Calls Try.prog 4 #[.slice A0 l0.length c0, .int .i64 a1, .int .i64 a2] w fun e w' => e = .returned (.bool true) ∧ Below w.heap.size w w' := by
  obtain ⟨hm, hq⟩ := q0
  have hqq : ∀ b ∈ l0, b.f5.length ≤ 9223372036854775807 ∧ ∀ r ∈ b.f5, Bytes r.f3 ∧ (Lit.int .i64 r.f0).wf = true := fun b hb => by
    obtain ⟨_, _, _, _, _, h5, h6⟩ := hq b hb
    exact ⟨h5, fun r hr => ⟨(h6 r hr).2.2.2.1.2, (h6 r hr).1⟩⟩
  have HQ := Aside0.mk hqq
  have HM := Aside0.mk hm
  have HR := Aside0.mk hr0
  clear hq hqq hm hr0 q1 q2
  obtain ⟨k0, r0, hr, hr4⟩ := batches_is l0 HM.out (fun b hb => (HQ.out b hb).1)
  have HBt := Aside0.mk hr
  have HB4 := Aside0.mk hr4
  clear hr hr4
  go_enter Try.func4, Try.ntmps4
  go_wp2_with fail
  refine (cordwainalike_Batches.calls k0 A0 c0 l0 4000 r0 w HR.out hc0 HBt.out).mono ?_
  rintro e w1 ⟨rfl, hB1⟩
  have HB1 := Aside0.mk hB1
  clear hB1
  by_cases g1 : r0 ≤ 4000
  case neg =>
    as_aux_lemma =>
      go_wp2_with fail
      refine (awake_calls).mono ?_
      rintro e w' ⟨rfl, hb⟩
      go_wp2_with fail
      go_ret
      exact ⟨rfl, HB1.out.trans (hb.mono HB1.out.size)⟩
  by_cases g2 : l0.length ≤ 60
  case neg =>
    as_aux_lemma =>
      go_wp2_with fail
      refine (awake_calls).mono ?_
      rintro e w' ⟨rfl, hb⟩
      go_wp2_with fail
      go_ret
      exact ⟨rfl, HB1.out.trans (hb.mono HB1.out.size)⟩
  by_cases g3 : 0 ≤ a1
  case neg =>
    as_aux_lemma =>
      go_wp2_with fail
      refine (awake_calls).mono ?_
      rintro e w' ⟨rfl, hb⟩
      go_wp2_with fail
      go_ret
      exact ⟨rfl, HB1.out.trans (hb.mono HB1.out.size)⟩
  by_cases g4 : 1 ≤ a2
  case neg =>
    as_aux_lemma =>
      go_wp2_with fail
      refine (awake_calls).mono ?_
      rintro e w' ⟨rfl, hb⟩
      go_wp2_with fail
      go_ret
      exact ⟨rfl, HB1.out.trans (hb.mono HB1.out.size)⟩
  have hlens : lens l0 ≤ 4000 := by have := HB4.out g1; omega
  have HL := Aside0.mk hlens
  clear hlens HB4 HBt
  go_wp2_with fail
  clear g1
  go_loopw [7, 8] (fun a b wr => C1 w l0 a b wr) (fun _ b _ => l0.length - (intOf b).toNat)
  case atStart => exact ⟨0, -1, rfl, rfl, Nat.zero_le _, rfl, HB1.out⟩
  case round =>
    obtain ⟨i, last, rfl, rfl, hi, hW, hB⟩ := hrel
    have HB := Aside0.mk hB
    have HW := Aside0.mk hW
    clear hB hW HB1
    by_cases hlt : i < l0.length
    · obtain ⟨ad, A5, c5, e1, hx0, hx1, hx2, hx3, hx4, hx5, hl5, hr5⟩ := at_T40 HR.out (i : Int) (by omega) (by omega)
      subst e1
      simp only [Int.toNat_natCast] at hx0 hx1 hx5
      rw [rdb' _ _ hlt] at hx0 hx1 hx5 hl5 hr5
      have HD : Aside0 (l0.drop i = l0[i] :: l0.drop (i + 1)) := ⟨List.drop_eq_getElem_cons hlt⟩
      have hq5 := (HQ.out _ (List.getElem_mem hlt))
      have hle5 : (l0[i]).f5.length ≤ 4000 := Nat.le_trans (lens_mem l0 _ (List.getElem_mem hlt)) HL.out
      generalize l0[i] = x at *
      have HQ5 := Aside0.mk hq5
      have HX0 := Aside0.mk hx0
      have HX1 := Aside0.mk hx1
      have HX5 := Aside0.mk hx5
      have HR5 := Aside0.mk hr5
      clear hq5 hx0 hx1 hx2 hx3 hx4 hx5 hr5 hl5
      have hx0 := (HB.out.cell (World.block_lt_of_cell? _ _ HX0.out)).trans HX0.out
      by_cases hb : x.f0 ≤ last
      ·
        as_aux_lemma =>
          go_wp2_with fail
          refine (awake_calls).mono ?_
          rintro e w' ⟨rfl, hb⟩
          go_wp2_with fail
          go_ret
          exact ⟨rfl, HB.out.trans (hb.mono HB.out.size)⟩
      · go_wp2_with fail
        go_loopw [7, 9] (fun a b wr => C2 w x last a b wr) (fun _ b _ => x.f5.length - (intOf b).toNat)
        case atStart => exact ⟨0, last, rfl, rfl, Nat.zero_le _, rfl, HB.out⟩
        case round =>
          obtain ⟨k, la, rfl, rfl, hk, hW2, hB2⟩ := hrel
          have HB2 := Aside0.mk hB2
          have HW2 := Aside0.mk hW2
          clear hB2 hW2 HB hx0
          have hx0 := (HB2.out.cell (World.block_lt_of_cell? _ _ HX0.out)).trans HX0.out
          have hx1 := (HB2.out.cell (World.block_lt_of_cell? _ _ HX1.out)).trans HX1.out
          have hx5 := (HB2.out.cell (World.block_lt_of_cell? _ _ HX5.out)).trans HX5.out
          by_cases hlt2 : k < x.f5.length
          · obtain ⟨ad2, A3, c3, A6, c6, e2, hy0, hy1, hy2, hy3, hy4, hy5, hl3, hr3, hl6, hr6⟩ := at_T42 HR5.out (k : Int) (by omega) (by omega)
            subst e2
            simp only [Int.toNat_natCast] at hy0
            rw [rdr _ _ hlt2] at hy0
            replace hy0 := (HB2.out.cell (World.block_lt_of_cell? _ _ hy0)).trans hy0
            have HD2 : Aside0 (x.f5.drop k = x.f5[k] :: x.f5.drop (k + 1)) := ⟨List.drop_eq_getElem_cons hlt2⟩
            clear hy1 hy2 hy3 hy4 hy5 hl3 hr3 hl6 hr6
            generalize x.f5[k] = r at *
            have HY := Aside0.mk hy0
            clear hy0
            have hy0 := HY.out
            by_cases d1 : r.f0 ≤ la
            · go_wp2_with fail
              go_quiet (fail)
              as_aux_lemma =>
                go_wp2_with fail
                refine (awake_calls).mono ?_
                rintro e w' ⟨rfl, hb⟩
                go_wp2_with fail
                go_ret
                exact ⟨rfl, (pw_below_drewN HB2.out _).trans (hb.mono (pw_below_drewN HB2.out _).size)⟩
            have hd1 : decide (r.f0 ≤ la) = false := decide_eq_false d1
            by_cases d2 : r.f0 < x.f0
            · go_wp2_with fail
              go_quiet (fail)
              as_aux_lemma =>
                go_wp2_with fail
                refine (awake_calls).mono ?_
                rintro e w' ⟨rfl, hb⟩
                go_wp2_with fail
                go_ret
                exact ⟨rfl, (pw_below_drewN HB2.out _).trans (hb.mono (pw_below_drewN HB2.out _).size)⟩
            have hd2 : decide (r.f0 < x.f0) = false := decide_eq_false d2
            by_cases d3 : r.f0 > x.f1
            · go_wp2_with fail
              go_quiet (fail)
              as_aux_lemma =>
                go_wp2_with fail
                refine (awake_calls).mono ?_
                rintro e w' ⟨rfl, hb⟩
                go_wp2_with fail
                go_ret
                exact ⟨rfl, (pw_below_drewN HB2.out _).trans (hb.mono (pw_below_drewN HB2.out _).size)⟩
            have hd3 : decide (x.f1 < r.f0) = false := decide_eq_false d3
            as_aux_lemma =>
              go_wp2_with fail
              go_quiet (fail)
              go_wp2_with fail
              go_roundw
              case rel => exact ⟨k + 1, r.f0, rfl, rfl, hlt2, by rw [← HW2.out, HD2.out, wellR_step x.f0 x.f1 la r _ (by omega) (by omega) (by omega)], pw_below_drewN HB2.out _⟩
              case measure => exact meas _ _ hlt2
          · have hle : wellR x.f0 x.f1 last x.f5 = some la := by rw [← HW2.out, List.drop_of_length_le (by omega)]; rfl
            have HE := Aside0.mk hle
            clear hle hx0
            by_cases d4 : x.f1 < la
            ·
              as_aux_lemma =>
                go_wp2_with fail
                refine (awake_calls).mono ?_
                rintro e w' ⟨rfl, hb⟩
                go_wp2_with fail
                go_ret
                exact ⟨rfl, HB2.out.trans (hb.mono HB2.out.size)⟩
            by_cases d5 : x.f1 > 4611686018427387904
            ·
              as_aux_lemma =>
                go_wp2_with fail
                refine (awake_calls).mono ?_
                rintro e w' ⟨rfl, hb⟩
                go_wp2_with fail
                go_ret
                exact ⟨rfl, HB2.out.trans (hb.mono HB2.out.size)⟩
            as_aux_lemma =>
              go_wp2_with fail
              go_roundw
              case rel => exact ⟨i + 1, x.f1, rfl, rfl, hlt, by rw [← HW.out, HD.out, wellB_step last x _ la (by omega) HE.out (by omega) (by omega)], HB2.out⟩
              case measure => exact meas _ _ hlt
    · have hwz : wellB (-1) l0 = some last := by rw [← HW.out, List.drop_of_length_le (by omega)]; rfl
      have HZ := Aside0.mk hwz
      clear hwz HW
      have hM2 : min (max a2 1) 1000000 ≤ a2 := by omega
      generalize hMM : min (max a2 1) 1000000 = M at *
      go_wp2_with fail
      have hbk := build_km (w := wr) l0 A0 c0 a1 a2 hc0 (Kd.C_below HR.out HB.out) (fun b hb => ⟨(HQ.out b hb).2, Nat.le_trans (lens_mem l0 b hb) HL.out⟩) (by omega)
      rw [hMM] at hbk
      refine hbk.mono ?_
      rintro e w2 ⟨g, D, u, rfl, hI, hBu, hB2⟩
      clear hbk hMM
      obtain ⟨hH, hs, hu⟩ := seen_is HZ.out hBu
      have HH := Aside0.mk hH
      have HI := Aside0.mk hI
      have HB2 : Aside0 (Below w.heap.size w w2) := ⟨HB.out.trans (hB2.mono HB.out.size)⟩
      have HS := Aside0.mk (wellB_facts _ _ _ HZ.out).2.2.1
      clear hH hI hB2 hBu HB HZ
      have hl1 : (Maps.size D : Int) ≤ a2 := by omega
      go_wp2_with fail
      refine (len_km HI.out).mono ?_
      rintro e w' ⟨rfl, rfl⟩
      go_wp2_with fail
      refine (cordwainref10_Records.calls (l0.length + 1) (fun k_ => k_ < w'.heap.size) A0 c0 l0 _ w' (Kd.V_mk hc0 (Kd.C_F k40_heap (Kd.C_below HR.out HB2.out))) (records_is l0 HL.out)).mono ?_
      rintro e w3 ⟨v0, rfl, hN, hB3⟩
      have hflat : (l0.flatMap (fun b => b.f5)).length ≤ 4000 := by have := lens_flat l0; have := HL.out; omega
      have hbyt : ∀ x ∈ l0.flatMap (fun b => b.f5), Bytes x.f3 := fun x hx => by
        obtain ⟨b, hb, hxb⟩ := List.mem_flatMap.1 hx
        exact ((HQ.out b hb).2 x hxb).1
      have hfe : flat l0 = l0.flatMap (fun b => b.f5) := rfl
      rw [hfe] at HH HS
      generalize l0.flatMap (fun b => b.f5) = all at *
      obtain ⟨A3, c3, rfl⟩ := Kd.N_slice hN
      have HA := Aside0.mk (Kd.N_reads' hN).2.2
      have HI3 : Aside0 (IsKM wr w3 g M D) := ⟨HI.out.below hB3⟩
      have HB3 : Aside0 (Below w.heap.size w w3) := ⟨HB2.out.trans (hB3.mono HB2.out.size)⟩
      have HY := Aside0.mk hbyt
      clear hN hB3 HI HB2 hbyt hfe
      go_wp2_with fail
      obtain ⟨wr0, hwr0⟩ : ∃ wr0, wr0 = wr := ⟨_, rfl⟩
      rw [← hwr0] at HI3
      clear hwr0
      go_loopw [14, 13] (fun a b wc => C3 w wr0 w3 all a1 u M g D a b wc) (fun a _ _ => all.length - (intOf a).toNat)
      case atStart => exact ⟨0, rfl, (by simp [keysOf]), Nat.zero_le _, HI3.out, Below.refl _ _, HB3.out⟩
      case round =>
        obtain ⟨j, rfl, hj, hjl, hIj, hBj, hBw⟩ := hrel
        have HIj := Aside0.mk hIj
        have HBj := Aside0.mk hBj
        have HBw := Aside0.mk hBw
        clear hIj hBj hBw HI3 HB3
        subst hj
        by_cases hlt3 : j < all.length
        · obtain ⟨ad, A4, c4, A5, c5, e1, hy0, hy1, hy2, hy3, hy4, hy5, hl3, hr3, hl5, hr5⟩ := at_T42 HA.out (j : Int) (by omega) (by omega)
          subst e1
          simp only [Int.toNat_natCast] at hy0 hy1 hy2 hy3 hy4 hy5
          rw [rdr _ _ hlt3] at hy0 hy1 hy2 hy3 hy4 hy5 hl3 hr3 hl5 hr5
          replace hy0 := (HBj.out.cell (World.block_lt_of_cell? _ _ hy0)).trans hy0
          replace hy1 := (HBj.out.cell (World.block_lt_of_cell? _ _ hy1)).trans hy1
          replace hy2 := (HBj.out.cell (World.block_lt_of_cell? _ _ hy2)).trans hy2
          replace hy3 := (HBj.out.cell (World.block_lt_of_cell? _ _ hy3)).trans hy3
          replace hy4 := (HBj.out.cell (World.block_lt_of_cell? _ _ hy4)).trans hy4
          replace hy5 := (HBj.out.cell (World.block_lt_of_cell? _ _ hy5)).trans hy5
          have HC := Aside0.mk (count_step (from_ := a1) (u := u) HS.out j hlt3)
          have HYx := Aside0.mk (HY.out _ (List.getElem_mem hlt3))
          have HMx := Aside0.mk (List.getElem_mem hlt3)
          generalize all[j] = x at *
          have HRx := Aside0.mk hr3
          clear hr3 hr5 hl3 hl5
          by_cases hin : inn a1 u x = true
          case neg =>
            have HC0 : Aside0 ((keysOf ((all.take (j + 1)).filter (inn a1 u))).length = (keysOf ((all.take j).filter (inn a1 u))).length) := ⟨by rw [HC.out, if_neg (fun h => hin h.1)]; rfl⟩
            clear HC
            cases hk1 : x.f2
            · rw [hk1] at hy2
              clear hin
              as_aux_lemma =>
                go_wp2_with fail
                go_roundw
                case rel => exact ⟨j + 1, rfl, by rw [HC0.out], hlt3, HIj.out.alloc _, below_alloc HBj.out _, below_alloc HBw.out _⟩
                case measure => exact meas _ _ hlt3
            · rw [hk1] at hy2
              by_cases b1 : a1 ≤ x.f0
              · have b2 : ¬ x.f0 < u := fun h => hin (by unfold inn; rw [hk1]; simp [b1, h])
                clear hin
                as_aux_lemma =>
                  go_wp2_with fail
                  go_roundw
                  case rel => exact ⟨j + 1, rfl, by rw [HC0.out], hlt3, HIj.out.alloc _, below_alloc HBj.out _, below_alloc HBw.out _⟩
                  case measure => exact meas _ _ hlt3
              · clear hin
                as_aux_lemma =>
                  go_wp2_with fail
                  go_roundw
                  case rel => exact ⟨j + 1, rfl, by rw [HC0.out], hlt3, HIj.out.alloc _, below_alloc HBj.out _, below_alloc HBw.out _⟩
                  case measure => exact meas _ _ hlt3
          have hin2 := hin
          unfold inn at hin2
          simp only [Bool.and_eq_true, decide_eq_true_eq] at hin2
          obtain ⟨hk1, b1, b2⟩ := hin2
          rw [hk1] at hy2
          have HT := Aside0.mk (told_r HH.out HMx.out hin HYx.out)
          have HIn := Aside0.mk hin
          clear hin
          go_wp2_with fail
          have HIz := Aside0.mk (HIj.out.alloc (.cells #[.int .i64 x.f0, .int .i64 x.f1, .bool true, .slice A4 x.f3.length c4, .bool x.f4, .slice A5 x.f5.length c5] 42))
          have HBz := Aside0.mk (below_alloc HBj.out (.cells #[.int .i64 x.f0, .int .i64 x.f1, .bool true, .slice A4 x.f3.length c4, .bool x.f4, .slice A5 x.f5.length c5] 42))
          have HBy := Aside0.mk (below_alloc HBw.out (.cells #[.int .i64 x.f0, .int .i64 x.f1, .bool true, .slice A4 x.f3.length c4, .bool x.f4, .slice A5 x.f5.length c5] 42))
          have HXz := Aside0.mk (heap_alloc_new wr (.cells #[.int .i64 x.f0, .int .i64 x.f1, .bool true, .slice A4 x.f3.length c4, .bool x.f4, .slice A5 x.f5.length c5] 42))
          clear hy0 hy1 hy2 hy3 hy4 hy5 HIj HBj HBw
          generalize wr.alloc (.cells #[.int .i64 x.f0, .int .i64 x.f1, .bool true, .slice A4 x.f3.length c4, .bool x.f4, .slice A5 x.f5.length c5] 42) = W4 at *
          generalize wr.heap.size = bx at *
          go_loopw [16, 17, 18] (fun a b c wc => C4 w wr0 w3 all x a1 u M g D bx (.cells #[.int .i64 x.f0, .int .i64 x.f1, .bool true, .slice A4 x.f3.length c4, .bool x.f4, .slice A5 x.f5.length c5] 42) a b c wc) (fun _ _ c _ => all.length - (intOf c).toNat)
          case atStart => exact ⟨0, rfl, rfl, rfl, Nat.zero_le _, HIz.out, HBz.out, HBy.out, HXz.out⟩
          case round =>
            obtain ⟨k, rfl, rfl, rfl, hk, hI5, hB5, hB6, hX5⟩ := hrel
            have HI5 := Aside0.mk hI5
            have HB5 := Aside0.mk hB5
            have HB6 := Aside0.mk hB6
            have HX5 := Aside0.mk hX5
            clear hI5 hB5 hB6 hX5 HIz HBz HBy HXz
            have x0 : wr.cell? ⟨bx, 0, none⟩ = some (.int .i64 x.f0) := (blk_cell HX5.out 0).trans rfl
            have x3 : wr.cell? ⟨bx, 3, none⟩ = some (.slice A4 x.f3.length c4) := (blk_cell HX5.out 3).trans rfl
            by_cases hlt4 : k < all.length
            · obtain ⟨ad2, A6, c6, A7, c7, e2, hz0, hz1, hz2, hz3, hz4, hz5, hl6, hr6, hl7, hr7⟩ := at_T42 HA.out (k : Int) (by omega) (by omega)
              obtain rfl : ad = ad2 := by injection e2
              clear e2
              simp only [Int.toNat_natCast] at hz0 hz2 hz3
              rw [rdr _ _ hlt4] at hz0 hz2 hz3 hr6
              replace hz0 := (HB5.out.cell (World.block_lt_of_cell? _ _ hz0)).trans hz0
              replace hz2 := (HB5.out.cell (World.block_lt_of_cell? _ _ hz2)).trans hz2
              replace hz3 := (HB5.out.cell (World.block_lt_of_cell? _ _ hz3)).trans hz3
              have HTk : Aside0 (all.take (k + 1) = all.take k ++ [all[k]]) := ⟨List.take_succ_eq_append_getElem hlt4⟩
              have HYy := Aside0.mk (HY.out _ (List.getElem_mem hlt4))
              have HR6 := Aside0.mk (Kd.C_below hr6 HB5.out)
              have HR7 := Aside0.mk (Kd.C_below HRx.out HB5.out)
              clear hz1 hz4 hz5 hl6 hr6 hl7 hr7
              generalize all[k] = y at *
              have hcv1 := fun n => Kd.C_string (P := Try.prog) (A := A6) (c := c6) Try.underlying24 Try.underlying5 Try.underlying9 (Kd.C_drewN HR6.out n)
              have hcv2 := fun n => Kd.C_string (P := Try.prog) (A := A4) (c := c4) Try.underlying24 Try.underlying5 Try.underlying9 (Kd.C_drewN HR7.out n)
              by_cases hyy : inn a1 u y = true ∧ y.f3 = x.f3
              case neg =>
                have HW5 : Aside0 (wantR a1 u x.f3 x.f0 (all.take (k + 1)) = wantR a1 u x.f3 x.f0 (all.take k)) := ⟨by rw [HTk.out, wantR_snoc, if_neg hyy]⟩
                have HF5 : Aside0 (firstR a1 u x.f3 x.f0 (all.take (k + 1)) = firstR a1 u x.f3 x.f0 (all.take k)) := ⟨by rw [HTk.out, firstR_snoc, if_neg hyy]⟩
                clear HTk
                generalize hwk : wantR a1 u x.f3 x.f0 (all.take k) = wk at *
                generalize hfk : firstR a1 u x.f3 x.f0 (all.take k) = fk at *
                clear hwk hfk
                cases hk2 : y.f2
                · rw [hk2] at hz2
                  clear hyy hcv1 hcv2
                  as_aux_lemma =>
                    go_wp2_with fail
                    go_quiet (fail)
                    go_wp2_with fail
                    go_roundw
                    case rel => exact ⟨k + 1, rfl, by rw [HW5.out], by rw [HF5.out], hlt4, HI5.out.drewN _, pw_below_drewN HB5.out _, pw_below_drewN HB6.out _, blk_drewN HX5.out _⟩
                    case measure => exact meas _ _ hlt4
                · rw [hk2] at hz2
                  by_cases he : y.f3 = x.f3
                  · have hs1 : ((strOfNums y.f3).toList == (strOfNums x.f3).toList) = true := by rw [he]; simp
                    by_cases e1 : a1 ≤ y.f0
                    · have e2 : ¬ y.f0 < u := fun h => hyy ⟨by unfold inn; rw [hk2]; simp [e1, h], he⟩
                      have e1d : decide (a1 ≤ y.f0) = true := decide_eq_true e1
                      have e2d : decide (y.f0 < u) = false := decide_eq_false e2
                      clear hyy he
                      as_aux_lemma =>
                        go_wp2_with fail
                        go_quiet (fail)
                        go_wp2_with fail
                        go_roundw
                        case rel => exact ⟨k + 1, rfl, by rw [HW5.out], by rw [HF5.out], hlt4, HI5.out.drewN _, pw_below_drewN HB5.out _, pw_below_drewN HB6.out _, blk_drewN HX5.out _⟩
                        case measure => exact meas _ _ hlt4
                    · have e1d : decide (a1 ≤ y.f0) = false := decide_eq_false e1
                      clear hyy he
                      as_aux_lemma =>
                        go_wp2_with fail
                        go_quiet (fail)
                        go_wp2_with fail
                        go_roundw
                        case rel => exact ⟨k + 1, rfl, by rw [HW5.out], by rw [HF5.out], hlt4, HI5.out.drewN _, pw_below_drewN HB5.out _, pw_below_drewN HB6.out _, blk_drewN HX5.out _⟩
                        case measure => exact meas _ _ hlt4
                  · have hs1 : ((strOfNums y.f3).toList == (strOfNums x.f3).toList) = false := by
                      cases hc : ((strOfNums y.f3).toList == (strOfNums x.f3).toList) with
                      | false => rfl
                      | true => exact absurd (key_eq HYy.out HYx.out hc) he
                    clear hyy he
                    as_aux_lemma =>
                      go_wp2_with fail
                      go_quiet (fail)
                      go_wp2_with fail
                      go_roundw
                      case rel => exact ⟨k + 1, rfl, by rw [HW5.out], by rw [HF5.out], hlt4, HI5.out.drewN _, pw_below_drewN HB5.out _, pw_below_drewN HB6.out _, blk_drewN HX5.out _⟩
                      case measure => exact meas _ _ hlt4
              have hy2 := hyy.1
              unfold inn at hy2
              simp only [Bool.and_eq_true, decide_eq_true_eq] at hy2
              obtain ⟨hk2, e1, e2⟩ := hy2
              have he := hyy.2
              rw [hk2] at hz2
              have hs1 : ((strOfNums y.f3).toList == (strOfNums x.f3).toList) = true := by rw [he]; simp
              have e1d : decide (a1 ≤ y.f0) = true := decide_eq_true e1
              have e2d : decide (y.f0 < u) = true := decide_eq_true e2
              have hw5 : wantR a1 u x.f3 x.f0 (all.take (k + 1)) = max (wantR a1 u x.f3 x.f0 (all.take k)) y.f0 := by rw [HTk.out, wantR_snoc, if_pos hyy]
              have hf5 : firstR a1 u x.f3 x.f0 (all.take (k + 1)) = (firstR a1 u x.f3 x.f0 (all.take k) && decide (y.f0 ≥ x.f0)) := by rw [HTk.out, firstR_snoc, if_pos hyy]
              generalize hwk : wantR a1 u x.f3 x.f0 (all.take k) = wk at *
              generalize hfk : firstR a1 u x.f3 x.f0 (all.take k) = fk at *
              obtain ⟨wn, hwn⟩ : ∃ wn, wn = max wk y.f0 := ⟨_, rfl⟩
              have hmx : (if wk < y.f0 then y.f0 else wk) = wn := by split <;> omega
              have HW5 : Aside0 (wantR a1 u x.f3 x.f0 (all.take (k + 1)) = wn) := ⟨hw5.trans hwn.symm⟩
              have HF5' := Aside0.mk hf5
              clear hyy he HTk hw5 hf5 hwk hfk hwn
              cases fk
              · have HF5 : Aside0 (firstR a1 u x.f3 x.f0 (all.take (k + 1)) = false) := ⟨by rw [HF5'.out]; rfl⟩
                clear HF5'
                as_aux_lemma =>
                  go_wp2_with fail
                  go_quiet (fail)
                  go_wp2_with fail
                  go_quiet (fail)
                  go_wp2_with fail
                  go_roundw
                  case rel => exact ⟨k + 1, rfl, by rw [HW5.out], by rw [HF5.out], hlt4, HI5.out.drewN _, pw_below_drewN HB5.out _, pw_below_drewN HB6.out _, blk_drewN HX5.out _⟩
                  case measure => exact meas _ _ hlt4
              · by_cases e3 : y.f0 ≥ x.f0
                · have HF5 : Aside0 (firstR a1 u x.f3 x.f0 (all.take (k + 1)) = true) := ⟨by rw [HF5'.out, decide_eq_true e3]; rfl⟩
                  have e3d : decide (x.f0 ≤ y.f0) = true := decide_eq_true e3
                  clear HF5'
                  as_aux_lemma =>
                    go_wp2_with fail
                    go_quiet (fail)
                    go_wp2_with fail
                    go_quiet (fail)
                    go_wp2_with fail
                    go_roundw
                    case rel => exact ⟨k + 1, rfl, by rw [HW5.out], by rw [HF5.out], hlt4, HI5.out.drewN _, pw_below_drewN HB5.out _, pw_below_drewN HB6.out _, blk_drewN HX5.out _⟩
                    case measure => exact meas _ _ hlt4
                · have HF5 : Aside0 (firstR a1 u x.f3 x.f0 (all.take (k + 1)) = false) := ⟨by rw [HF5'.out, decide_eq_false e3]; rfl⟩
                  have e3d : decide (x.f0 ≤ y.f0) = false := decide_eq_false e3
                  clear HF5'
                  as_aux_lemma =>
                    go_wp2_with fail
                    go_quiet (fail)
                    go_wp2_with fail
                    go_quiet (fail)
                    go_wp2_with fail
                    go_roundw
                    case rel => exact ⟨k + 1, rfl, by rw [HW5.out], by rw [HF5.out], hlt4, HI5.out.drewN _, pw_below_drewN HB5.out _, pw_below_drewN HB6.out _, blk_drewN HX5.out _⟩
                    case measure => exact meas _ _ hlt4
            · have hkk : all.take k = all := List.take_of_length_le (by omega)
              rw [hkk]
              have HR7 := Aside0.mk (Kd.C_below HRx.out HB5.out)
              generalize hwk : wantR a1 u x.f3 x.f0 all = wk at *
              cases hfk : firstR a1 u x.f3 x.f0 all
              · have HC0 : Aside0 ((keysOf ((all.take (j + 1)).filter (inn a1 u))).length = (keysOf ((all.take j).filter (inn a1 u))).length) := ⟨by rw [HC.out, hfk]; simp⟩
                clear HC hfk hkk hwk
                as_aux_lemma =>
                  go_wp2_with fail
                  refine (last_to (w0 := wr0) HT.out HI5.out HR7.out).mono ?_
                  rintro e w' ⟨rfl, nd, rfl⟩
                  go_wp2_with fail
                  go_roundw
                  case rel => exact ⟨j + 1, rfl, by rw [HC0.out], hlt3, HI5.out.drewN _, pw_below_drewN HB5.out _, pw_below_drewN HB6.out _⟩
                  case measure => exact meas _ _ hlt3
              · have HC0 : Aside0 ((keysOf ((all.take (j + 1)).filter (inn a1 u))).length = (keysOf ((all.take j).filter (inn a1 u))).length + 1) := ⟨by rw [HC.out, hfk, HIn.out]; simp⟩
                have hkl : (keysOf ((all.take j).filter (inn a1 u))).length ≤ 4000 := Nat.le_trans (keysOf_length _) (Nat.le_trans (List.length_filter_le _ _) (Nat.le_trans (List.length_take_le _ _) (by omega)))
                generalize (keysOf ((all.take j).filter (inn a1 u))).length = nk at *
                clear HC hfk hkk hwk
                as_aux_lemma =>
                  go_wp2_with fail
                  refine (last_to (w0 := wr0) HT.out HI5.out HR7.out).mono ?_
                  rintro e w' ⟨rfl, nd, rfl⟩
                  go_wp2_with fail
                  go_roundw
                  case rel => exact ⟨j + 1, rfl, by rw [HC0.out]; rfl, hlt3, HI5.out.drewN _, pw_below_drewN HB5.out _, pw_below_drewN HB6.out _⟩
                  case measure => exact meas _ _ hlt3
        · have hjj : all.take j = all := List.take_of_length_le (by omega)
          have hsz : (keysOf ((all.take j).filter (inn a1 u))).length = Maps.size D := by rw [hjj, HH.out.2.1]
          rw [hsz]
          clear hjj hsz
          as_aux_lemma =>
            go_wp2_with fail
            refine (len_km HIj.out).mono ?_
            rintro e w' ⟨rfl, rfl⟩
            go_wp2_with fail
            refine (awake_calls).mono ?_
            rintro e w' ⟨rfl, hb⟩
            go_wp2_with fail
            go_ret
            exact ⟨rfl, HBw.out.trans (hb.mono HBw.out.size)⟩
end Go.Proofs.Ytpibjdkenifggaa.KM
