/- Clean over the H layer: the law of room for all keys. -/
import Derived.Test.YtecnfekcflfihaaDN
namespace Go.Proofs.Ytecnfekcflfihaa.CL
open Go.Proofs.Ytecnfekcflfihaa.H Go.Proofs.Ytecnfekcflfihaa.C5
set_option linter.unusedVariables false
set_option linter.unusedSimpArgs false
set_option maxRecDepth 100000
theorem okB_outs {M : Value → Option Int} {upto now grace : Int} {last : Nat} {segs : List Seg} (h : ∀ x ∈ segs, ∀ b ∈ x.getD [], OkB b) : ∀ x ∈ outsF M upto now grace last segs, ∀ b ∈ x.getD [], OkB b := by
  intro x hx b hb
  obtain ⟨i, hi, rfl⟩ := List.mem_mapIdx.1 hx
  have hs := h _ (List.getElem_mem hi)
  unfold cleanAt at hb
  split at hb
  · rw [getD_orNil] at hb
    obtain ⟨b0, h1, rfl, h3⟩ := keptB_form hb
    obtain ⟨l, g1, g2, g3, g4⟩ := hs b0 h1
    refine ⟨_, orNil_ne h3, h3, ?_, fun y hy => ?_⟩
    · refine Nat.le_trans (List.length_filter_le _ _) ?_
      rw [g1]; exact g3
    · have := (List.mem_filter.1 hy).1
      rw [g1] at this
      exact g4 y this
  · rw [getD_orNil] at hb
    exact hs b hb
theorem lenS_of {l : List Seg} (hl : (flatS l).length ≤ 100000) (h : ∀ x ∈ l, ∀ b ∈ x.getD [], OkB b) : ∀ x ∈ l, LenS x := by
  intro x hx
  refine ⟨?_, fun b hb => ?_⟩
  · have : ∀ (l : List Seg), x ∈ l → (x.getD []).length ≤ (flatS l).length := by
      intro l
      induction l with
      | nil => intro h; cases h
      | cons y r ih =>
        intro h
        rw [flatS_cons, List.length_append]
        rcases List.mem_cons.1 h with rfl | h
        · omega
        · have := ih h; omega
    have := this l hx
    omega
  · obtain ⟨r, h1, h2, h3, h4⟩ := h x hx b hb
    show (b.recs.getD []).length ≤ _
    rw [h1, Option.getD_some]
    omega
theorem vMk9 (a b : Int) : vMk [(0, 1), (1, 1), (2, 1), (3, 1), (4, 1), (5, 1), (6, 1), (7, 1), (8, 1)] [.lit (.int .i64 0), .lit (.int .i64 0), .lit (.int .i64 0), .lit (.int .i64 0), .lit (.int .i64 0), .lit (.bool false), .lit (.int .i64 0), .lit (.int .i64 0), .lit (.bool false)] [(7, (.lit (.int .i64 a))), (6, (.lit (.int .i64 b)))] = some (.agg (cfgC ⟨0, 0, 0, 0, 0, false, b, a, false⟩)) := by
  simp [vMk, hfill, hc_int, cfgC]
theorem all_law (segs : List Seg) (now : Int) (s : HS) (hl : segs.length ≤ 9223372036854775807) (hin : ∀ x ∈ segs, InSeg x) :
    HC Try.prog 7 [rowL segC 1 segs, .lit (.int .i64 now)] s (fun v _ => v = .lit (.bool true)) := by
  refine HC7 ?_
  unfold c7
  refine Join.of (fun xs s' => s' = s ∧ ∃ g : Bool, xs = [.lit (.bool g)] ∧ (g = false → Mayy segs ∧ 2 ≤ segs.length)) ?_ ?_
  rotate_left
  · intro K hK
    refine (may segs hl hin).mono ?_
    rintro v t1 ⟨rfl, g, rfl, hg⟩
    have kt : K [.lit (.bool true)] t1 := hK _ _ ⟨rfl, true, rfl, by simp⟩
    cases g with
    | false => simp only [bindO, hcond, vCmp, vBin, vUn, vExtract, if_true, List.headD_cons, List.tail_cons, Bool.not_true, Bool.not_false]; exact kt
    | true =>
      have hm := hg rfl
      simp only [bindO, hcond, vCmp, vBin, vUn, vExtract, if_true, List.headD_cons, List.tail_cons, Bool.not_true, Bool.not_false, Try.underlying22, len_rowL]
      by_cases h1 : now < 0
      · simp only [h1, decide_true]; exact kt
      by_cases h2 : now > 1125899906842624
      · simp only [h1, h2, decide_true, decide_false]; exact kt
      simp only [h1, h2, decide_false]
      exact hK _ _ ⟨rfl, _, rfl, fun h => ⟨hm, by simp at h; omega⟩⟩
  rintro xs s1 ⟨rfl, g, rfl, hg⟩
  simp only [bindO, hcond, vCmp, vBin, vUn, vExtract, if_true, List.headD_cons, List.tail_cons, Bool.not_true, Bool.not_false]
  cases g with
  | true => exact awake s1
  | false =>
  obtain ⟨hm, h2⟩ := hg rfl
  have hlS := hm.lenS
  have hlR := hm.lenR
  have hn20 := hm.n
  have hokS := okB_of hm
  obtain ⟨q1, q2, q3, q4⟩ := clean_all hm now 5
  simp only [vMk9]
  intro p0 hp0
  have e0 : putCells [HV.lit (.int .i64 0), .lit (.int .i64 0), .lit (.int .i64 0), .lit (.int .i64 0), .lit (.int .i64 0), .lit (.bool false), .lit (.int .i64 0), .lit (.int .i64 0), .lit (.bool false)] 0 (cfgC ⟨0, 0, 0, 0, 0, false, 5, 100000, false⟩) = cfgC ⟨0, 0, 0, 0, 0, false, 5, 100000, false⟩ := rfl
  have ho : ∀ x ∈ cfgC ⟨0, 0, 0, 0, 0, false, 5, 100000, false⟩, hone x = true := by decide
  simp only [hStore, hc_agg, set_at, cfg_len, true_and, Nat.zero_add, List.length_cons, List.length_nil, Nat.reduceAdd, Nat.le_refl, set_set, e0]
  refine ⟨ho, ?_⟩
  have hcfg := set_at s1 p0 (.cells (cfgC ⟨0, 0, 0, 0, 0, false, 5, 100000, false⟩))
  generalize s1.set p0 (.cells (cfgC ⟨0, 0, 0, 0, 0, false, 5, 100000, false⟩)) = t0 at *
  simp only [load_cfg hcfg]
  refine (all segs 0 ⟨0, 0, 0, 0, 0, false, 5, 100000, false⟩ now (by omega) (by omega) hokS).mono ?_
  rintro v s2 ⟨rfl, rfl⟩
  have hne : segs ≠ [] := by rintro rfl; simp at h2
  rw [if_neg hne]
  have hS1 := outs_lenS (cleanMap segs 0 100000).1.1 (cleanMap segs 0 100000).2 now 5 (segs.length - 1) segs
  have hR1 := outs_lenR (cleanMap segs 0 100000).1.1 (cleanMap segs 0 100000).2 now 5 (segs.length - 1) segs
  have hL1 := outs_len (cleanMap segs 0 100000).1.1 (cleanMap segs 0 100000).2 now 5 (segs.length - 1) segs
  have hok1 := okB_outs (M := (cleanMap segs 0 100000).1.1) (upto := (cleanMap segs 0 100000).2) (now := now) (grace := 5) (last := segs.length - 1) hokS
  have hid1 := idem segs q3
  have hid2 := idem segs q4
  obtain ⟨upto, hu⟩ : ∃ u, u = (cleanMap segs 0 100000).2 := ⟨_, rfl⟩
  obtain ⟨outs, ho⟩ : ∃ o, o = outsF (cleanMap segs 0 100000).1.1 (cleanMap segs 0 100000).2 now 5 (segs.length - 1) segs := ⟨_, rfl⟩
  rw [← ho] at q1 q2 q3 q4 hS1 hR1 hL1 hok1 hid1 hid2 ⊢
  rw [← hu] at hid2 q4 ⊢
  have hone : outs ≠ [] := by rintro rfl; simp at hL1; omega
  have hsv : segsV outs = rowL segC 1 outs := by unfold segsV; rw [orNil_ne hone]; rfl
  have hLs := lenS_of (by omega) hok1
  rw [hsv]
  have hw : IntKind.i64.wrap ((outs.length : Int) - 1) = ((segs.length - 1 : Nat) : Int) := by rw [w64 (by omega) (by omega)]; omega
  have hnn : ((outs.length : Int) != (segs.length : Int)) = false := by rw [hL1]; simp
  simp only [bindO, hcond, vCmp, vBin, vUn, vExtract, if_true, List.headD_cons, List.tail_cons, Bool.not_true, Bool.not_false, List.getElem?_cons_zero, List.getElem?_cons_succ, Try.underlying22, len_rowL, hnn, hw, slice_rowL_hi segC_len outs .i64 (show segs.length - 1 ≤ outs.length by omega)]
  have htS : (flatS (outs.take (segs.length - 1))).length ≤ (flatS outs).length := by
    have := congrArg List.length (flatS_app (outs.take (segs.length - 1)) (outs.drop (segs.length - 1)))
    rw [List.take_append_drop, List.length_append] at this
    omega
  have htR : (flatR (flatS (outs.take (segs.length - 1)))).length ≤ (flatR (flatS outs)).length := by
    have := congrArg (fun x => (flatR x).length) (flatS_app (outs.take (segs.length - 1)) (outs.drop (segs.length - 1)))
    simp only [List.take_append_drop, flatR_app, List.length_append] at this
    omega
  refine (alls (some (outs.take (segs.length - 1))) (by show (outs.take _).length ≤ 100000; rw [List.length_take]; omega) (by show (flatS (outs.take _)).length ≤ 100000; omega)).mono ?_
  rintro v s3 ⟨rfl, rfl⟩
  refine (records (orNil (flatS (outs.take (segs.length - 1)))) (by rw [getD_orNil]; omega) (by rw [getD_orNil]; omega)).mono ?_
  rintro v s4 ⟨rfl, rfl⟩
  simp only [getD_orNil]
  generalize flatR (flatS (outs.take (segs.length - 1))) = R at *
  have hao : ∀ i, i < R.length → vIdx 6 (recsV (orNil R)) (.lit (.int .i64 i)) = some (.elt (recC (R.getD i r0)) 0) := fun i hi => by have := vIdx_recsV (orNil R) i (by rw [getD_orNil]; exact hi); rwa [getD_orNil] at this
  have hla : ∀ t, vLenT (Try.prog.underlying 44) t (recsV (orNil R)) = some (.lit (.int .i64 R.length)) := fun t => by have := len_recsV (orNil R) t; rwa [getD_orNil] at this
  refine HLoop.ghost (σ := Nat) (fun i => [.lit (.int .i64 i)]) (fun i t => i ≤ R.length ∧ t = s4) (fun i => R.length - i) 0 rfl ⟨Nat.zero_le _, rfl⟩ ?_
  rintro i t K ⟨hi, rfl⟩ hK
  simp only [bindO, hcond, vCmp, vBin, vUn, vExtract, if_true, List.headD_cons, List.tail_cons, Bool.not_true, Bool.not_false, hla]
  by_cases hlt : i < R.length
  · have hlt' : (i : Int) < (R.length : Int) := by omega
    have hw1 : IntKind.i64.wrap ((i : Int) + 1) = ((i + 1 : Nat) : Int) := by rw [w64 (by omega) (by omega)]; rfl
    simp only [hlt', decide_true, hw1]
    refine HLoop.ghost (σ := Nat) (fun i => [.lit (.int .i64 i)]) (fun k t' => k ≤ i ∧ t' = t) (fun k => i - k) 0 rfl ⟨Nat.zero_le _, rfl⟩ ?_
    rintro k t2 K2 ⟨hk, rfl⟩ hK2
    simp only [bindO, hcond, vCmp, vBin, vUn, vExtract, if_true, List.headD_cons, List.tail_cons, Bool.not_true, Bool.not_false]
    by_cases hki : k < i
    · have hki' : (k : Int) < (i : Int) := by omega
      have hw2 : IntKind.i64.wrap ((k : Int) + 1) = ((k + 1 : Nat) : Int) := by rw [w64 (by omega) (by omega)]; rfl
      have hix := hao i hlt
      have hkx := hao k (by omega)
      have hne2 : (R.getD i r0).hasKey = true → (R.getD k r0).hasKey = true → sameB' (R.getD i r0).key (R.getD k r0).key = false := by
        intro g1 g2
        cases hb : sameB' (R.getD i r0).key (R.getD k r0).key with
        | false => rfl
        | true =>
          exfalso
          have h5 := q2 _ (getD_mem (z := r0) hlt) _ (getD_mem (z := r0) (show k < R.length by omega)) g1 g2 ((kv_same _ _).2 hb)
          have h6 := (List.pairwise_iff_getElem.1 q1) k i (by omega) hlt hki
          rw [show R.getD i r0 = R[i] from by simp [List.getD, hlt], show R.getD k r0 = R[k] from by simp [List.getD, show k < R.length by omega]] at h5
          omega
      generalize R.getD i r0 = x at *
      generalize R.getD k r0 = y at *
      simp only [hki', decide_true]
      refine Join.of (fun xs s' => s' = t2 ∧ xs = [.lit (.bool false)]) ?_ ?_
      rotate_left
      · intro K3 hK3
        have kf := hK3 _ _ ⟨rfl, rfl⟩
        simp only [hix, hkx, field_elt, load_elt1, Nat.zero_add, rec2]
        cases hx : x.hasKey with
        | false => simp only []; exact kf
        | true =>
          cases hy : y.hasKey with
          | false => simp only []; exact kf
          | true =>
            simp only [rec3, isStr_by, Bool.false_eq_true, if_false, toStr_by, kv, str_eq, hne2 hx hy]
            exact kf
      rintro xs s' ⟨rfl, rfl⟩
      simp only [bindO, hcond, vCmp, vBin, vUn, vExtract, if_true, List.headD_cons, List.tail_cons, Bool.not_true, Bool.not_false, hw2]
      exact hK2 (k + 1) _ _ rfl ⟨hki, rfl⟩ (by omega)
    · obtain rfl : k = i := by omega
      have hki' : ¬ (k : Int) < (k : Int) := by omega
      simp only [hki', decide_false]
      exact hK (k + 1) _ _ rfl ⟨hlt, rfl⟩ (by omega)
  · obtain rfl : i = R.length := by omega
    have hlt' : ¬ (R.length : Int) < (R.length : Int) := by omega
    simp only [hlt', decide_false, load_cfg hcfg]
    clear hK
    have hlast : outs.length - 1 = segs.length - 1 := by omega
    refine (all outs 0 ⟨0, 0, 0, 0, 0, false, 5, 100000, false⟩ now (by omega) (by omega) hok1).mono ?_
    rintro v s5 ⟨rfl, rfl⟩
    rw [if_neg hone, hlast, hid1, gone_idem outs hid1]
    simp only [bindO, hcond, vCmp, vBin, vUn, vExtract, if_true, List.headD_cons, List.tail_cons, Bool.not_true, Bool.not_false, List.getElem?_cons_zero, List.getElem?_cons_succ, load_cfg hcfg]
    refine (all outs upto ⟨0, 0, 0, 0, 0, false, 5, 100000, false⟩ now (by omega) (by omega) hok1).mono ?_
    rintro v s6 ⟨rfl, rfl⟩
    rw [if_neg hone, hlast, hid2, gone_idem outs hid2]
    have e00 : ((0 : Int) == 0) = true := rfl
    simp only [bindO, hcond, vCmp, vBin, vUn, vExtract, if_true, List.headD_cons, List.tail_cons, Bool.not_true, Bool.not_false, List.getElem?_cons_zero, List.getElem?_cons_succ, e00, hsv]
    have hsame : all2 sameSeg outs outs = true := all2_refl _ fun x _ => sameSeg_refl x
    refine (sameSegs (some outs) (some outs) (by show outs.length ≤ _; omega) hLs).mono ?_
    rintro v s7 ⟨rfl, rfl⟩
    simp only [Option.getD_some, hsame]
    refine (sameSegs (some outs) (some outs) (by show outs.length ≤ _; omega) hLs).mono ?_
    rintro v s8 ⟨rfl, rfl⟩
    simp only [Option.getD_some, hsame]
    exact awake s8
end Go.Proofs.Ytecnfekcflfihaa.CL
