/- The last of a key is the greatest that was offered. -/
import Derived.Test.YtpibjdkenifggaaAwake
import Derived.Test.YtpibjdkenifggaaKP
import Derived.Test.YtpibjdkenifggaaKK
import Derived.Test.YtpibjdkenifggaaPKeymapGreatestx1
import Derived.Deep.LoopGhost
import Derived.LoopTactic
import Derived.StillTailTactics
namespace Go.Proofs.Ytpibjdkenifggaa.KM
open Go.RowKit Go.Maps Go.MapKept Go.ChangeMaps Go.WideElems Go.WideMaps Go.WideShapes Go.Proofs.YtpibjdkenifggaaW.PrintWords Go.Proofs.YtpibjdkenifggaaW.PrintLast Go.Proofs.YtpibjdkenifggaaW.PrintMore Go.Proofs.Ytpibjdkenifggaa.KK
set_option linter.unusedVariables false

/-- Of two numbers the first one is raised by the second one, and by one. -/
theorem sum_two (a x : Int) (ha : 0 ≤ a) (ha2 : a ≤ 1000) (hx : 0 ≤ x) : ∃ r, PKeymapGreatest.cordwainalike_Sum.f 3 a [x, 1] = some r ∧ a + 1 ≤ r ∧ r ≤ 1099511627777 ∧ (r ≤ 1000 → r = a + x + 1) := by
  have e1 : wrap64 (1099511627776 - a) = 1099511627776 - a := by unfold wrap64; omega
  unfold PKeymapGreatest.cordwainalike_Sum.f
  simp only [PKeymapGreatest.cordwainalike_Sum.l0, List.length_cons, List.length_nil]
  rw [if_pos (by decide), if_neg (by omega), if_pos (by decide), e1, show rd [x, 1] 0 = x from rfl]
  by_cases h : x > 1099511627776 - a
  · rw [if_pos h]; exact ⟨_, rfl, by omega, by omega, by omega⟩
  · rw [if_neg h]
    have e2 : wrap64 (a + x) = a + x := by unfold wrap64; omega
    rw [e2, show wrap64 (0 + 1) = 1 from by kernel_rfl, if_pos (by decide), if_neg (by omega), if_pos (by decide), show rd [x, 1] 1 = 1 from rfl]
    have e3 : wrap64 (1099511627776 - (a + x)) = 1099511627776 - (a + x) := by unfold wrap64; omega
    rw [e3]
    by_cases h2 : (1 : Int) > 1099511627776 - (a + x)
    · rw [if_pos h2]; exact ⟨_, rfl, by omega, by omega, by omega⟩
    · rw [if_neg h2]
      have e4 : wrap64 (a + x + 1) = a + x + 1 := by unfold wrap64; omega
      rw [e4, show wrap64 (1 + 1) = 2 from by kernel_rfl, if_neg (by decide)]
      exact ⟨_, rfl, by omega, by omega, fun _ => rfl⟩

theorem lit2_reads (W : World) (x y : Int) (C : Array Value) (hC : C = #[.int .i64 x, .int .i64 y]) (g : Nat) (hg : g = W.heap.size) : Kd.C (Kd.int .i64) (W.alloc (.cells C 3)) (some ⟨g, 0, none⟩) [x, y].length [x, y] := by
  subst hC hg
  refine Kd.C_of_reads (d := (0 : Int)) (h1 := fun _ => rfl) ⟨rfl, by simp, fun _ => ⟨_, rfl, fun j hj => ?_⟩⟩
  match j, hj with
  | 0, _ => simp [Addr.add]
  | 1, _ => simp [Addr.add]

theorem key_eq {a b : List Int} (ha : Bytes a) (hb : Bytes b) (h : ((strOfNums a).toList == (strOfNums b).toList) = true) : a = b := by
  refine str_inj ha hb ?_
  rw [← Lib.toList_data, ← Lib.toList_data]
  exact eq_of_beq h
/-- The greatest offset of a key. -/
def mx (key : List Int) : List S26 → Option Int
  | [] => none
  | x :: l => if x.f0 = key then some (match mx key l with | some v => max x.f1 v | none => x.f1) else mx key l
theorem mx_cons (key : List Int) (x : S26) (l : List S26) : mx key (x :: l) = if x.f0 = key then some (match mx key l with | some v => max x.f1 v | none => x.f1) else mx key l := rfl
/-- The map behind the offers of l, the last one first. -/
def After (l : List S26) (D : DataW Unit) : Prop := Tidy D ∧ Maps.size D ≤ l.length ∧ ∀ key, Bytes key → look D key = mx key l
theorem after_nil : After [] (.map []) := ⟨tidy_empty, Nat.le_refl _, fun key _ => look_nil key⟩
theorem after_cons {x : S26} {l : List S26} {D : DataW Unit} (h : After l D) (hx : Bytes x.f0) (hl : l.length < 2000) : ∃ D', offer 2000 D (kl x.f0) x.f1 = (true, D') ∧ After (x :: l) D' := by
  obtain ⟨h1, h2, h3⟩ := h
  obtain ⟨D', ho, ht, hs, hk⟩ := offer_room h1 hx x.f1 (most := 2000) (by omega)
  refine ⟨D', ho, ht, by simp only [List.length_cons]; omega, fun key hkey => ?_⟩
  rw [hk key hkey, h3 _ hx, h3 _ hkey]
  show _ = (if x.f0 = key then some (match mx key l with | some v => max x.f1 v | none => x.f1) else mx key l)
  by_cases e : key = x.f0
  · rw [if_pos e, if_pos e.symm, e]
    cases mx x.f0 l <;> rfl
  · rw [if_neg e, if_neg (fun h => e h.symm)]
theorem drop_cons (l : List S26) (j : Nat) (h : j < l.length) : l.drop j = rd_T26 l (j : Int) :: l.drop (j + 1) := by
  rw [List.drop_eq_getElem_cons h]
  simp [rd_T26, List.getD_eq_getElem?_getD, h]
theorem rd_mem (l : List S26) (j : Nat) (h : j < l.length) : rd_T26 l (j : Int) ∈ l := by
  simp [rd_T26, List.getD_eq_getElem?_getD, h]

/-- What the law reckons of a key. -/
def best (key : List Int) (m : Int) (l : List S26) : Int := l.foldl (fun m x => if x.f0 = key then max m x.f1 else m) m
theorem best_snoc (key : List Int) (m : Int) (l : List S26) (x : S26) : best key m (l ++ [x]) = if x.f0 = key then max (best key m l) x.f1 else best key m l := by
  unfold best
  rw [List.foldl_append]
  rfl
theorem take_snoc (l : List S26) (j : Nat) (h : j < l.length) : l.take (j + 1) = l.take j ++ [rd_T26 l (j : Int)] := by
  rw [List.take_succ_eq_append_getElem h]
  simp [rd_T26, List.getD_eq_getElem?_getD, h]
theorem best_mx (key : List Int) (l : List S26) : ∀ m, best key m l = match mx key l with | some v => max m v | none => m := by
  induction l with
  | nil => intro m; rfl
  | cons x l ih =>
    intro m
    show best key (if x.f0 = key then max m x.f1 else m) l = _
    rw [ih, mx_cons]
    by_cases e : x.f0 = key
    · rw [if_pos e, if_pos e]
      cases h : mx key l <;> simp only <;> omega
    · rw [if_neg e, if_neg e]
theorem mx_mem (l : List S26) (x : S26) (h : x ∈ l) : ∃ v, mx x.f0 l = some v ∧ x.f1 ≤ v := by
  induction l with
  | nil => cases h
  | cons y l ih =>
    rw [mx_cons]
    rcases List.mem_cons.1 h with rfl | h
    · rw [if_pos rfl]
      cases hm : mx x.f0 l with
      | none => exact ⟨_, rfl, Int.le_refl _⟩
      | some v => exact ⟨_, rfl, by simp only; omega⟩
    · obtain ⟨v, hv, hle⟩ := ih h
      rw [hv]
      by_cases e : y.f0 = x.f0
      · rw [if_pos e]; exact ⟨_, rfl, by simp only; omega⟩
      · rw [if_neg e]; exact ⟨_, rfl, hle⟩
/-- What is told of a key is what the law has reckoned. -/
theorem told {l : List S26} {D : DataW Unit} (h : After l D) (hb : ∀ x ∈ l, Bytes x.f0) (j : Nat) (hj : j < l.length) :
    last D (kl (rd_T26 l (j : Int)).f0) = (best (rd_T26 l (j : Int)).f0 (rd_T26 l (j : Int)).f1 l, true) := by
  have hm := rd_mem l j hj
  obtain ⟨v, hv, hle⟩ := mx_mem l _ hm
  rw [last_of_look, h.2.2 _ (hb _ hm), hv, best_mx, hv]
  simp only [Option.getD_some, Option.isSome_some, Prod.mk.injEq, and_true]
  omega

def InRel (w : World) (g : Nat) (D : DataW Unit) (key : List Int) (m0 : Int) (l : List S26) (a b : Value) (wr : World) : Prop :=
  ∃ (m : Nat) (z : Int), a = .int .i64 z ∧ b = .int .i64 m ∧ m ≤ l.length ∧ z = best key m0 (l.take m) ∧ IsKM w wr g 2000 D ∧ Below w.heap.size w wr

set_option maxHeartbeats 4000000 in
set_option maxRecDepth 100000 in
theorem keymapGreatest_walk (A0 : Option Addr) (c0 : Nat) (l0 : List (S26)) (w : World) (hc0 : l0.length ≤ c0) (hr0 : Kd.C k26 w A0 l0.length l0) (q0 : (l0.length ≤ maxLen ∧ ∀ x_ ∈ l0, ((x_.f0.length ≤ maxLen ∧ ∀ x__ ∈ x_.f0, (Lit.int .u8 x__).wf = true) ∧ (Lit.int .i64 x_.f1).wf = true))) :
    Calls Try.prog 3 #[.slice A0 l0.length c0] w fun e w' => e = .returned (.bool true) ∧ Below w.heap.size w w' := by
  obtain ⟨hm, hq⟩ := q0
  unfold maxLen at hm
  have HR := Aside0.mk hr0
  have HQ := Aside0.mk hq
  clear hr0 hq
  go_enter Try.func3, Try.ntmps3
  go_wp2_with fail
  go_loopw [3, 4] (fun s i wr => ∃ (k : Nat) (x : Int), s = .int .i64 x ∧ i = .int .i64 k ∧ k ≤ l0.length ∧ (k : Int) ≤ x ∧ x ≤ 1099511627777 ∧ Aside0 (Below w.heap.size w wr)) (fun _ i _ => l0.length - (intOf i).toNat)
  case atStart => exact ⟨0, 0, rfl, rfl, Nat.zero_le _, Int.le_refl _, by decide, ⟨Below.refl _ _⟩⟩
  case round =>
    obtain ⟨k, x, rfl, rfl, hk, hkx, hx2, hB⟩ := hrel
    by_cases hlt : k < l0.length
    · by_cases hx : x ≤ 1000
      · have p0 : 0 ≤ (k : Int) := by omega
        have q0 : (k : Int) < (l0.length : Int) := by omega
        obtain ⟨ad, A1, c1, e1, hx0, hx1, hl1, hr1⟩ := at_T26 (Kd.C_below HR.out hB.out) k p0 q0
        subst e1
        simp only [Int.toNat_natCast] at hx0 hx1
        go_wp2_with fail
        obtain ⟨r, hr, hr1', hr2, _⟩ := sum_two x ((rd_T26 l0 k).f0.length : Int) (by omega) hx (by omega)
        refine (PKeymapGreatest.cordwainalike_Sum.calls 3 _ _ 2 _ r _ (lit2_reads _ _ _ _ rfl _ rfl) (Nat.le_refl 2) hr).mono ?_
        rintro e w' ⟨rfl, ⟨nd, rfl⟩⟩
        go_wp2_with fail
        go_roundw
        case rel => exact ⟨k + 1, r, rfl, by go_num, by omega, by omega, hr2, ⟨pw_below_drewN (below_alloc hB.out _) _⟩⟩
        case measure => simp [intOf]; omega
      · go_wp2_with fail
        refine (awake_calls).mono ?_
        rintro e w' ⟨rfl, hb⟩
        go_wp2_with fail
        go_ret
        exact ⟨rfl, hB.out.trans (hb.mono hB.out.size)⟩
    · have hke : k = l0.length := by omega
      by_cases hx : x ≤ 1000
      · go_wp2_with fail
        refine (new_km (w0 := w) (by decide) (by decide) hB.out).mono ?_
        rintro e w1 ⟨g, rfl, hI, hB1, _, hge⟩
        go_wp2_with fail
        have hlen : l0.length ≤ 1000 := by omega
        have hsub : wrap64 ((l0.length : Int) - 1) = (l0.length : Int) - 1 := by unfold wrap64; omega
        go_loopw [7] (fun i wr => ∃ (k : Nat) (D : DataW Unit), i = .int .i64 ((k : Int) - 1) ∧ k ≤ l0.length ∧ Aside0 (After (l0.drop k) D) ∧ Aside0 (IsKM w wr g 2000 D) ∧ Aside0 (Below w.heap.size w wr)) (fun i _ => (intOf i + 1).toNat)
        case atStart => exact ⟨l0.length, .map [], by go_num, Nat.le_refl _, ⟨by rw [List.drop_length]; exact after_nil⟩, ⟨hI⟩, ⟨hB1⟩⟩
        case round =>
          obtain ⟨j, D, rfl, hj, hA, hI2, hB2⟩ := hrel
          clear hI hB1 hB
          clear hke
          rcases j with _ | j
          · rw [show ((0 : Nat) : Int) - 1 = -1 from rfl]
            have hA0 : After l0 D := hA.out
            have HA := Aside0.mk hA0
            have HT := Aside0.mk (fun j hj => told hA0 (fun x hx => (HQ.out x hx).1.2) j hj)
            clear hA hA0 hlt hj
            go_wp2_with fail
            go_loopw [8] (fun i wr => ∃ j : Nat, i = .int .i64 j ∧ j ≤ l0.length ∧ Aside0 (IsKM w wr g 2000 D) ∧ Aside0 (Below w.heap.size w wr)) (fun i _ => l0.length - (intOf i).toNat)
            case atStart => exact ⟨0, rfl, Nat.zero_le _, hI2, hB2⟩
            case round =>
              obtain ⟨j, rfl, hj, hI3, hB3⟩ := hrel
              clear hI2 hB2
              by_cases hlt : j < l0.length
              · obtain ⟨ad, A1, c1, e1, hx0, hx1, hl1, hr1⟩ := at_T26 (Kd.C_below HR.out hB3.out) (j : Int) (by omega) (by omega)
                subst e1
                simp only [Int.toNat_natCast] at hx0 hx1
                go_wp2_with fail
                have HK := Aside0.mk (rfl : (rd_T26 l0 (j : Int)) = (rd_T26 l0 (j : Int)))
                go_loopw [9, 10] (fun a b wr => InRel w g D (rd_T26 l0 (j : Int)).f0 (rd_T26 l0 (j : Int)).f1 l0 a b wr) (fun _ b _ => l0.length - (intOf b).toNat)
                case atStart => exact ⟨0, _, rfl, rfl, Nat.zero_le _, rfl, hI3.out, hB3.out⟩
                case round =>
                  obtain ⟨m, z, rfl, rfl, hm2, hz0, hI4, hB4⟩ := hrel
                  have hz := Aside0.mk hz0
                  clear hz0
                  clear hI3 hB3 hx0 hx1 hr1 hl1
                  by_cases hlt2 : m < l0.length
                  · obtain ⟨ad1, A1, c1, e1, hx0, hx1, hl1, hr1⟩ := at_T26 (Kd.C_below HR.out hB4) (j : Int) (by omega) (by omega)
                    obtain rfl : ad = ad1 := by injection e1
                    obtain ⟨ad2, A2, c2, e2, hy0, hy1, hl2, hr2⟩ := at_T26 (Kd.C_below HR.out hB4) (m : Int) (by omega) (by omega)
                    obtain rfl : ad = ad2 := by injection e2
                    clear e1 e2
                    simp only [Int.toNat_natCast] at hx0 hx1 hy0 hy1
                    have hcv1 := Kd.C_string (P := Try.prog) (A := A1) (c := c1) Try.underlying24 Try.underlying5 Try.underlying9 (Kd.C_drew hr1)
                    have hcv2 := Kd.C_string (P := Try.prog) (A := A2) (c := c2) Try.underlying24 Try.underlying5 Try.underlying9 (Kd.C_drew hr2)
                    have hbm := (HQ.out _ (rd_mem l0 m hlt2)).1.2
                    have hbj := (HQ.out _ (rd_mem l0 j hlt)).1.2
                    have hsn := take_snoc l0 m hlt2
                    have HN := Aside0.mk hsn
                    clear hsn
                    by_cases he : (rd_T26 l0 (m : Int)).f0 = (rd_T26 l0 (j : Int)).f0
                    · have hs1 : ((strOfNums (rd_T26 l0 (m : Int)).f0).toList == (strOfNums (rd_T26 l0 (j : Int)).f0).toList) = true := by rw [he]; simp
                      have HE := Aside0.mk he
                      clear he hbm hbj
                      by_cases hmx : z < (rd_T26 l0 (m : Int)).f1
                      all_goals
                        go_wp2_with fail
                        go_still_tail 12, (by kernel_rfl)
                        change wpList _ _ _ _ _ wr.drew
                        go_wp2_with fail
                        go_roundw
                        case rel =>
                          refine ⟨m + 1, _, rfl, by go_num, by omega, ?_, hI4.drewN 1, pw_below_drewN hB4 1⟩
                          rw [HN.out, best_snoc, if_pos HE.out, ← hz.out]
                          omega
                        case measure => simp [intOf]; omega
                    · have hs1 : ((strOfNums (rd_T26 l0 (m : Int)).f0).toList == (strOfNums (rd_T26 l0 (j : Int)).f0).toList) = false := by
                        cases hc : ((strOfNums (rd_T26 l0 (m : Int)).f0).toList == (strOfNums (rd_T26 l0 (j : Int)).f0).toList) with
                        | false => rfl
                        | true => exact absurd (key_eq hbm hbj hc) he
                      have HE := Aside0.mk he
                      clear he hbm hbj
                      go_wp2_with fail
                      go_still_tail 12, (by kernel_rfl)
                      change wpList _ _ _ _ _ wr.drew
                      go_wp2_with fail
                      go_roundw
                      case rel =>
                        refine ⟨m + 1, _, rfl, by go_num, by omega, ?_, hI4.drewN 1, pw_below_drewN hB4 1⟩
                        rw [HN.out, best_snoc, if_neg HE.out, ← hz.out]
                      case measure => simp [intOf]; omega
                  · have hz1 : z = best (rd_T26 l0 (j : Int)).f0 (rd_T26 l0 (j : Int)).f1 l0 := by rw [hz.out, List.take_of_length_le (by omega)]
                    have HZ := Aside0.mk hz1
                    clear hz hz1
                    obtain ⟨ad1, A1, c1, e1, hx0, hx1, hl1, hr1⟩ := at_T26 (Kd.C_below HR.out hB4) (j : Int) (by omega) (by omega)
                    obtain rfl : ad = ad1 := by injection e1
                    clear e1
                    simp only [Int.toNat_natCast] at hx0 hx1
                    go_wp2_with fail
                    refine (last_to (w0 := w) (HT.out j hlt) hI4 hr1).mono ?_
                    rintro e w' ⟨rfl, nd, rfl⟩
                    rw [← HZ.out]
                    go_wp2_with fail
                    go_roundw
                    case rel => exact ⟨j + 1, by go_num, by omega, ⟨hI4.drewN _⟩, ⟨pw_below_drewN hB4 _⟩⟩
                    case measure => simp [intOf]; omega
              · go_wp2_with fail
                refine (awake_calls).mono ?_
                rintro e w' ⟨rfl, hb⟩
                go_wp2_with fail
                go_ret
                exact ⟨rfl, hB3.out.trans (hb.mono hB3.out.size)⟩
          · have e : ((j + 1 : Nat) : Int) - 1 = (j : Int) := by omega
            rw [e]
            have hb : Bytes (rd_T26 l0 (j : Int)).f0 := (HQ.out _ (rd_mem l0 j (by omega))).1.2
            have hw : (Lit.int .i64 (rd_T26 l0 (j : Int)).f1).wf = true := (HQ.out _ (rd_mem l0 j (by omega))).2
            obtain ⟨D', ho, hA'⟩ := after_cons hA.out hb (by rw [List.length_drop]; omega)
            rw [← drop_cons l0 j (by omega)] at hA'
            have hsz : Maps.size D < 1000000000 := by have := hA.out.2.1; rw [List.length_drop] at this; omega
            have HO := Aside0.mk ho
            have HA := Aside0.mk hA'
            clear ho hA' hb
            obtain ⟨ad, A1, c1, e1, hx0, hx1, hl1, hr1⟩ := at_T26 (Kd.C_below HR.out hB2.out) (j : Int) (by omega) (by omega)
            subst e1
            simp only [Int.toNat_natCast] at hx0 hx1
            have p0 : (j : Int) < (l0.length : Int) := by omega
            have hw1 : wrap64 ((j : Int) - 1) = (j : Int) - 1 := by unfold wrap64; omega
            clear e
            go_wp2_with fail
            go_still_tail 11, (by kernel_rfl)
            change wpList _ _ _ _ _ wr.drew
            go_wp2_with fail
            refine (offer_to (w0 := w) HO.out (hI2.out.drewN 1) hsz hw (pw_below_drewN hB2.out 1) (Kd.C_drew hr1)).mono ?_
            rintro e w2 ⟨rfl, hI3, hB3, _⟩
            go_wp2_with fail
            go_roundw
            case rel => exact ⟨j, D', by go_num, by omega, HA, ⟨hI3⟩, ⟨hB3⟩⟩
            case measure => simp [intOf]
      · go_wp2_with fail
        refine (awake_calls).mono ?_
        rintro e w' ⟨rfl, hb⟩
        go_wp2_with fail
        go_ret
        exact ⟨rfl, hB.out.trans (hb.mono hB.out.size)⟩
end Go.Proofs.Ytpibjdkenifggaa.KM
