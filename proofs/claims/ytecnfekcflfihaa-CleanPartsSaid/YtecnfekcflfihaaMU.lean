/- Clean over the H layer: the law of its parts. -/
import Derived.Test.YtecnfekcflfihaaMB
namespace Go.Proofs.Ytecnfekcflfihaa.CL
open Go.Proofs.Ytecnfekcflfihaa.H Go.Proofs.Ytecnfekcflfihaa.C5
set_option linter.unusedVariables false
set_option linter.unusedSimpArgs false
set_option maxRecDepth 100000
theorem parts_law (bats : List Bat) (from_ most upto now grace : Int) (r : Rec) (s : HS) (hl : bats.length ≤ 9223372036854775807) (hin : ∀ b ∈ bats, InBat b) :
    HC Try.prog 4 [rowL batC 6 bats, .lit (.int .i64 from_), .lit (.int .i64 most), .lit (.int .i64 upto), .lit (.int .i64 now), .lit (.int .i64 grace), .agg (recC r)] s (fun v _ => v = .lit (.bool true)) := by
  refine HC4 ?_
  unfold c4
  have hbr : hcells (.agg (recC r)) = some (recC r) := rfl
  unfold hBox
  rw [hbr]
  intro X hX
  have hX0 := set_at s X (.cells (recC r))
  generalize s.set X (.cells (recC r)) = t0 at *
  refine Join.of (fun xs s' => s' X = some (.cells (recC r)) ∧ ∃ g : Bool, xs = [.lit (.bool g)] ∧ (g = false → Mayy [some bats] ∧ 0 ≤ now ∧ now ≤ 1125899906842624 ∧ 0 ≤ grace ∧ TimeOk r)) ?_ ?_
  rotate_left
  · intro K hK
    have hh : hfill (fun i => some (i * 1, 1)) [.lit (.slice none 0 0)] [(0, rowL batC 6 bats)] = some [rowL batC 6 bats] := by simp [hfill, hc_rowL]
    simp only [hBS, hh, hNew]
    intro id hid
    refine HC.frzN hid ?_
    have e2 : ([HV.view id 0 1 1 true] : List HV).map (frz2 id [rowL batC 6 bats]) = [rowL segC 1 [some bats]] := by
      simp [frz2, frz1, frz0, phi, rowL, rows, segC, batsV, batsC]
    rw [e2]
    refine (may [some bats] (by simp) ?_).mono ?_
    · intro x hx
      simp at hx
      subst hx
      exact ⟨bats, rfl, hl, hin⟩
    rintro v t1 ⟨rfl, g, rfl, hg⟩
    have kt : K [.lit (.bool true)] t1 := hK _ _ ⟨hX0, true, rfl, by simp⟩
    cases g with
    | false => simp only [bindO, hcond, vCmp, vBin, vUn, vExtract, if_true, List.headD_cons, List.tail_cons, Bool.not_true, Bool.not_false]; exact kt
    | true =>
      have hm := hg rfl
      simp only [bindO, hcond, vCmp, vBin, vUn, vExtract, if_true, List.headD_cons, List.tail_cons, Bool.not_true, Bool.not_false, vField, Nat.zero_add, load_at 1 hX0, load_at 3 hX0, load_at 5 hX0, rec1, rec3]
      by_cases h1 : now < 0
      · simp only [h1, decide_true]; exact kt
      by_cases h2 : now > 1125899906842624
      · simp only [h1, h2, decide_true, decide_false]; exact kt
      by_cases h3 : grace < 0
      · simp only [h1, h2, h3, decide_true, decide_false]; exact kt
      by_cases h4 : grace > 1125899906842624
      · simp only [h1, h2, h3, h4, decide_true, decide_false]; exact kt
      by_cases h5 : r.time < 0
      · simp only [h1, h2, h3, h4, h5, decide_true, decide_false]; exact kt
      by_cases h6 : r.time > 1125899906842624
      · simp only [h1, h2, h3, h4, h5, h6, decide_true, decide_false]; exact kt
      have r5 : (recC r)[5]? = some (byV r.val) := rfl
      have hh2 : hfill (fun i => some (i * 1, 1)) [.lit (.int .i64 0)] [(0, .lit (.int .i64 ((r.val.getD []).length : Nat)))] = some [.lit (.int .i64 ((r.val.getD []).length : Nat))] := by simp [hfill, hc_int]
      simp only [h1, h2, h3, h4, h5, h6, decide_false, r5, len_by, hh2]
      intro id2 hid2
      refine HC.frzN hid2 ?_
      have e3 : ([HV.lit (.int .i64 ((r.key.getD []).length : Nat)), .view id2 0 1 1 true] : List HV).map (frz2 id2 [.lit (.int .i64 ((r.val.getD []).length : Nat))]) = [.lit (.int .i64 ((r.key.getD []).length : Nat)), .list 1 1 [.lit (.int .i64 ((r.val.getD []).length : Nat))] false] := by simp [frz2, frz1, frz0, phi]
      rw [e3]
      refine (sum (s := t1) ((r.key.getD []).length : Nat) [((r.val.getD []).length : Nat)] (by omega) (by simp) (by simp)).mono ?_
      rintro v t2 ⟨rfl, m, rfl, hm0⟩
      simp only
      exact hK _ _ ⟨hX0, _, rfl, fun _ => ⟨hm, by omega, by omega, by omega, by omega, by omega⟩⟩
  rintro xs s1 ⟨hX1, g, rfl, hg⟩
  simp only [bindO, hcond, vCmp, vBin, vUn, vExtract, if_true, List.headD_cons, List.tail_cons, Bool.not_true, Bool.not_false]
  cases g with
  | true => exact awake s1
  | false =>
  obtain ⟨hm, h2, h3, h4, htr⟩ := hg rfl
  simp only
  have hlb : bats.length ≤ 30 := hm.m (some bats) (by simp)
  have hokb := okB_of hm (some bats) (by simp)
  have htm := mayTime hm (some bats) (by simp)
  simp only [Option.getD_some] at hokb htm
  have hbs : ∀ b ∈ bats, ∃ r, b.recs = some r ∧ r.length ≤ 100000 := fun b hb => by obtain ⟨l, g1, g2, g3⟩ := htm b hb; exact ⟨l, g1, g2⟩
  refine (build bats from_ most s1 (by omega) hbs).mono ?_
  rintro v s2 ⟨p, mid, rfl, hs2, hkm⟩
  simp only [bindO, hcond, vCmp, vBin, vUn, vExtract, if_true, List.headD_cons, List.tail_cons, Bool.not_true, Bool.not_false, List.getElem?_cons_zero, List.getElem?_cons_succ]
  refine (refBuild bats from_ most s2 (by omega) hbs _ (.inr rfl)).mono ?_
  rintro v s3 ⟨q, o, rfl, hs3, hqo, hrm, hol⟩
  have hkm3 := hkm.le hs3
  have hX3 := hs3 _ _ (hs2 _ _ hX1)
  generalize buildF (min (max most 1) 1000000) from_ bats (fun _ => none, 0) from_ = CM at *
  obtain ⟨⟨M, nM⟩, up0⟩ := CM
  simp only at hkm3 hrm
  simp only [bindO, hcond, vCmp, vBin, vUn, vExtract, if_true, List.headD_cons, List.tail_cons, Bool.not_true, Bool.not_false, List.getElem?_cons_zero, List.getElem?_cons_succ]
  refine Join.of (fun xs s' => s' = s3 ∧ xs = [.lit (.bool false)]) ?_ ?_
  rotate_left
  · intro K hK
    simp only [vEq, Try.underlying36, Option.map_some, load_rec hX3]
    refine (record hkm3 r upto now grace).mono ?_
    rintro v s4 ⟨rfl, rfl⟩
    simp only [load_rec hX3, true_and]
    refine (refStays hqo hrm hol r upto now grace htr h2 h3 h4).mono ?_
    rintro v s5 ⟨rfl, rfl⟩
    have e : vEq (Try.prog.underlying 4) (.lit (.bool (stays r M upto now grace))) (.lit (.bool (stays r M upto now grace))) = some true := by simp [vEq, Try.underlying4]
    simp only [e, Option.map_some, Bool.not_true]
    exact hK _ _ ⟨rfl, by simp⟩
  rintro xs s4 ⟨rfl, rfl⟩
  simp only [bindO, hcond, vCmp, vBin, vUn, vExtract, if_true, List.headD_cons, List.tail_cons, Bool.not_true, Bool.not_false]
  have hlenb : ∀ t, vLenT (Try.prog.underlying 31) t (rowL batC 6 bats) = some (.lit (.int .i64 bats.length)) := fun t => rfl
  refine HLoop.ghost (σ := Nat) (fun i => [.lit (.int .i64 i)]) (fun i t => i ≤ bats.length ∧ HS.le s4 t) (fun i => bats.length - i) 0 rfl ⟨Nat.zero_le _, le_refl' _⟩ ?_
  rintro i t K ⟨hi, hst⟩ hK
  have hkt := hkm3.le hst
  have hqt := hst _ _ hqo
  simp only [bindO, hcond, vCmp, vBin, vUn, vExtract, if_true, List.headD_cons, List.tail_cons, Bool.not_true, Bool.not_false, hlenb]
  by_cases hlt : i < bats.length
  · have hlt' : (i : Int) < (bats.length : Int) := by omega
    have hw : IntKind.i64.wrap ((i : Int) + 1) = ((i + 1 : Nat) : Int) := by rw [w64 (by omega) (by omega)]; rfl
    have hix := idx_rowL batC_len b0 bats .i64 hlt
    obtain ⟨l, g1, g2, g3⟩ := htm _ (getD_mem (z := b0) hlt)
    obtain ⟨l', g4, g5, g6, g7⟩ := hokb _ (getD_mem (z := b0) hlt)
    have hsl : vSlice 6 (rowL batC 6 bats) (some (.lit (.int .i64 (i : Nat)))) (some (.lit (.int .i64 ((i + 1 : Nat) : Int)))) none = some (batsV (some [bats.getD i b0])) := by
      rw [slice_rowL batC_len bats .i64 (show i + 1 ≤ bats.length by omega) (by omega)]
      have : (bats.take (i + 1)).drop i = [bats.getD i b0] := by
        rw [take_succ' b0 bats hlt, List.drop_append, List.drop_of_length_le (by rw [List.length_take]; omega), List.length_take, Nat.min_eq_left hi, Nat.sub_self]
        rfl
      rw [this]
      rfl
    generalize bats.getD i b0 = b at *
    obtain rfl : l = l' := by rw [g1] at g4; exact Option.some.inj g4
    simp only [hlt', decide_true, hix, load_elt _ _ 6 (batC_len _)]
    refine (batch hkt b l g1 g2 g7 upto now grace).mono ?_
    rintro v t2 ⟨rfl, rfl⟩
    have hcut : ({ b with recs := orNil (keptR M upto now grace l) } : Bat) = cutB M upto now grace b := by unfold cutB; rw [g1]; rfl
    rw [hcut]
    simp only [bindO, hcond, vCmp, vBin, vUn, vExtract, if_true, List.headD_cons, List.tail_cons, Bool.not_true, Bool.not_false, List.getElem?_cons_zero, List.getElem?_cons_succ]
    intro Y hY
    have e0 : putCells [HV.lit (.int .i64 0), .lit (.int .i64 0), .lit (.int .i64 0), .lit (.int .i64 0), .lit (.int .i64 0), .lit (.slice none 0 0)] 0 (batC (cutB M upto now grace b)) = batC (cutB M upto now grace b) := by simp [putCells, batC]
    simp only [hStore, hc_agg, set_at, batC_len, Nat.zero_add, List.length_cons, List.length_nil, Nat.reduceAdd, Nat.le_refl, set_set, e0, true_and, hw, hsl]
    refine ⟨by simpa using (ho_batC (cutB M upto now grace b)), ?_⟩
    have hle1 := le_set_new (.cells (batC (cutB M upto now grace b))) hst hY
    have hat1 := set_at t2 Y (.cells (batC (cutB M upto now grace b)))
    have hq1 : (t2.set Y (.cells (batC (cutB M upto now grace b)))) q = some (rmO (min (max most 1) 1000000) o) := by rw [set_ne _ _ (ne_new hqt hY)]; exact hqt
    generalize t2.set Y (.cells (batC (cutB M upto now grace b))) = t3 at *
    refine (refSegment hq1 hrm hol (some [b]) upto now grace (by simp) (by intro z hz; simp at hz; subst hz; exact ⟨l, g1, g2, g3⟩) h2 h3 h4).mono ?_
    rintro v t4 ⟨rfl, rfl⟩
    have hkb : keptB M upto now grace ((some [b] : Seg).getD []) = if keptR M upto now grace l ≠ [] then [cutB M upto now grace b] else [] := by
      simp only [Option.getD_some, keptB, g1]
    rw [hkb]
    refine Join.of (fun xs s' => s' = t4 ∧ xs = [.lit (.bool false)]) ?_ ?_
    rotate_left
    · intro K5 hK5
      simp only [len_batsV, getD_orNil]
      have ev : ∀ c : Bool, vEq (Try.prog.underlying 4) (.lit (.bool c)) (.lit (.bool c)) = some true := fun c => by simp [vEq, Try.underlying4]
      by_cases hne : keptR M upto now grace l = []
      · have hc1 : decide (keptR M upto now grace l ≠ []) = false := by simp [hne]
        have hc2 : (((if keptR M upto now grace l ≠ [] then [cutB M upto now grace b] else [] : List Bat).length : Int) == 1) = false := by rw [if_neg (by simpa using hne)]; rfl
        simp only [hc1, hc2, ev, Option.map_some, Bool.not_true]
        exact hK5 _ _ ⟨rfl, rfl⟩
      · have hc1 : decide (keptR M upto now grace l ≠ []) = true := by simp [hne]
        have hc2 : (((if keptR M upto now grace l ≠ [] then [cutB M upto now grace b] else [] : List Bat).length : Int) == 1) = true := by rw [if_pos hne]; rfl
        have hix0 : vIdx 6 (batsV (orNil (if keptR M upto now grace l ≠ [] then [cutB M upto now grace b] else []))) (.lit (.int .i64 0)) = some (.elt (batC (cutB M upto now grace b)) 0) := by
          rw [if_pos hne]
          exact vIdx_batsV (orNil [cutB M upto now grace b]) 0 (by simp [orNil])
        simp only [hc1, hc2, ev, Option.map_some, Bool.not_true, load_bat hat1, hix0, load_elt _ _ 6 (batC_len _)]
        refine (sameBatch (cutB M upto now grace b) (cutB M upto now grace b) ?_).mono ?_
        · show ((orNil (keptR M upto now grace (b.recs.getD []))).getD []).length ≤ _
          rw [getD_orNil, g1]
          refine Nat.le_trans (List.length_filter_le _ _) ?_
          simp only [Option.getD_some]
          omega
        rintro v t5 ⟨rfl, rfl⟩
        simp only [sameBat_refl, vUn, Bool.not_true]
        exact hK5 _ _ ⟨rfl, rfl⟩
    rintro xs s' ⟨rfl, rfl⟩
    simp only [bindO, hcond, vCmp, vBin, vUn, vExtract, if_true, List.headD_cons, List.tail_cons, Bool.not_true, Bool.not_false]
    exact hK (i + 1) _ _ rfl ⟨hlt, hle1⟩ (by omega)
  · obtain rfl : i = bats.length := by omega
    have hlt' : ¬ (bats.length : Int) < (bats.length : Int) := by omega
    simp only [hlt', decide_false]
    refine (segment hkt bats (by omega) (fun b hb => ?_) upto now grace).mono ?_
    · obtain ⟨l, g1, g2, g3, g4⟩ := hokb b hb
      exact ⟨l, g1, g3, g4⟩
    rintro v t2 ⟨rfl, rfl⟩
    have hbv : rowL batC 6 bats = batsV (some bats) := rfl
    rw [hbv]
    refine (refSegment hqt hrm hol (some bats) upto now grace (by show bats.length ≤ _; omega) htm h2 h3 h4).mono ?_
    rintro v t3 ⟨rfl, rfl⟩
    simp only [Option.getD_some]
    have hkl := keptB_len M upto now grace bats
    refine (sameBatches (orNil (keptB M upto now grace bats)) (orNil (keptB M upto now grace bats)) (by rw [getD_orNil]; omega) ?_).mono ?_
    · intro x hx
      rw [getD_orNil] at hx
      obtain ⟨b1, k1, rfl, k3⟩ := keptB_form hx
      obtain ⟨l, q1, q2, q3, q4⟩ := hokb b1 k1
      show ((orNil (keptR M upto now grace (b1.recs.getD []))).getD []).length ≤ _
      rw [getD_orNil, q1]
      refine Nat.le_trans (List.length_filter_le _ _) ?_
      simp only [Option.getD_some]
      omega
    rintro v t4 ⟨rfl, rfl⟩
    have hr : all2 sameBat ((orNil (keptB M upto now grace bats)).getD []) ((orNil (keptB M upto now grace bats)).getD []) = true := all2_refl _ fun x _ => sameBat_refl x
    simp only [hr]
    exact awake t4
end Go.Proofs.Ytecnfekcflfihaa.CL
