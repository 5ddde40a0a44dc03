/- The document's own cleaning, over the H layer: what stays, and all of it. -/
import Derived.Test.YtecnfekcflfihaaMA
import Derived.Test.YtecnfekcflfihaaDI
/- The document's own cleaning, over the H layer: what stays, and all of it. -/
namespace Go.Proofs.Ytecnfekcflfihaa.CL
open Go.Proofs.Ytecnfekcflfihaa.H Go.Proofs.Ytecnfekcflfihaa.C4
set_option linter.unusedVariables false
set_option linter.unusedSimpArgs false
set_option maxRecDepth 100000
theorem load_bat {t : HS} {q : Nat} {b : Bat} (h : t q = some (.cells (batC b))) : vLoad t (.ptr q 0) 6 true = some (.agg (batC b)) := by
  simp only [vLoad, h, takeCells, if_true, Nat.zero_add, batC_len, Nat.le_refl, List.drop_zero, hcb]
theorem load_at {t : HS} {q : Nat} {cs : List HV} (off : Nat) (h : t q = some (.cells cs)) : vLoad t (.ptr q off) 1 false = cs[off]? := by
  simp only [vLoad, h, takeCells, Bool.false_eq_true, if_false]
theorem offF_len {W from_ : Int} (g : (Value → Option Int) × Nat) (r : Rec) (h : (g.2 : Int) ≤ W) : ((offStep W from_ g r).2 : Int) ≤ W := by
  unfold offStep
  split
  · unfold offF
    split
    · exact h
    · split
      · exact h
      · rename_i h1; show ((g.2 + 1 : Nat) : Int) ≤ W; omega
  · exact h
theorem fold_lenW {W from_ : Int} : ∀ (l : List Rec) (g : (Value → Option Int) × Nat), (g.2 : Int) ≤ W → ((l.foldl (offStep W from_) g).2 : Int) ≤ W
  | [], g, h => h
  | r :: l, g, h => by rw [List.foldl_cons]; exact fold_lenW l _ (offF_len g r h)
theorem refBuild (l : List Bat) (from_ most : Int) (s : HS) (hl : l.length ≤ 100000) (hs : ∀ b ∈ l, ∃ r, b.recs = some r ∧ r.length ≤ 100000) (A : HV) (hA : A = batsV (orNil l) ∨ A = rowL batC 6 l) :
    HC Try.prog 20 [A, .lit (.int .i64 from_), .lit (.int .i64 most)] s (fun v s' => ∃ q o, v = .tup [.ptr q 0, .lit (.int .i64 (buildF (min (max most 1) 1000000) from_ l (fun _ => none, 0) from_).2)] ∧ HS.le s s' ∧
      s' q = some (rmO (min (max most 1) 1000000) o) ∧ RM o (buildF (min (max most 1) 1000000) from_ l (fun _ => none, 0) from_).1 ∧ (o.getD []).length ≤ 1000000) := by
  refine HC20 ?_
  have hAl : ∀ t, vLenT (Try.prog.underlying 31) t A = some (.lit (.int .i64 l.length)) := fun t => by
    rcases hA with rfl | rfl
    · rw [len_batsV, getD_orNil]
    · rfl
  have hAi : ∀ i, i < l.length → vIdx 6 A (.lit (.int .i64 i)) = some (.elt (batC (l.getD i b0)) 0) := fun i hi => by
    rcases hA with rfl | rfl
    · have := vIdx_batsV (orNil l) i (by rw [getD_orNil]; exact hi); rwa [getD_orNil] at this
    · exact idx_rowL batC_len b0 l .i64 hi
  have hmm2 : ∀ z : Int, (if (1000000 : Int) < z then (1000000 : Int) else z) = min z 1000000 := fun z => by omega
  have hmm3 : (if 1 > most then 1 else most) = max most 1 := by omega
  simp only [c20, hfold, vMax2, vMin2, bindO, Option.bind_some, hmm3]
  have hcap : (if 1000000 < max most 1 then (1000000 : Int) else max most 1) = min (max most 1) 1000000 := by omega
  simp only [hcap]
  have hw2 : min (max most 1) 1000000 ≤ 1000000 := by omega
  have hw1 : 1 ≤ min (max most 1) 1000000 := by omega
  generalize min (max most 1) 1000000 = W at *
  have hmk0 : vMk [(0, 1), (1, 1)] [.lit (.int .i64 0), .lit (.slice none 0 0)] [(0, .lit (.int .i64 W))] = some (.agg [.lit (.int .i64 W), rowV prC 3 none]) := by simp [vMk, hfill, hc_int, rowV]
  simp only [hmk0, hBox, hc_agg]
  intro q0 hq0
  have hinit : (s.set q0 (.cells [.lit (.int .i64 W), rowV prC 3 none])) q0 = some (rmO W none) := set_at _ _ _
  have hst0 := le_set_new (.cells [.lit (.int .i64 W), rowV prC 3 none]) (le_refl' s) hq0
  generalize s.set q0 (.cells [.lit (.int .i64 W), rowV prC 3 none]) = t0 at *
  refine HLoop.ghost (σ := Nat × Option (List Pr) × ((Value → Option Int) × Nat) × Int × Nat) (fun g => [.ptr g.1 0, .lit (.int .i64 g.2.2.2.1), .lit (.int .i64 g.2.2.2.2)])
    (fun g t => g.2.2.2.2 ≤ l.length ∧ HS.le s t ∧ t g.1 = some (rmO W g.2.1) ∧ RM g.2.1 g.2.2.1 ∧ (g.2.2.1.2 : Int) ≤ W ∧ buildF W from_ (l.drop g.2.2.2.2) g.2.2.1 g.2.2.2.1 = buildF W from_ l (fun _ => none, 0) from_) (fun g => l.length - g.2.2.2.2) (q0, none, (fun _ => none, 0), from_, 0) rfl
    ⟨Nat.zero_le _, hst0, hinit, RM.start, by show ((0 : Nat) : Int) ≤ W; omega, rfl⟩ ?_
  rintro ⟨q, o, g, upto, i⟩ t K ⟨hi, hst, hq, hrm, hnW, hbf⟩ hK
  simp only at hi hst hq hrm hnW hbf
  simp only [List.headD_cons, List.tail_cons, hAl]
  have hol : (o.getD []).length ≤ 1000000 := by have := hrm.num; omega
  by_cases hlt : i < l.length
  · have hlt' : (i : Int) < (l.length : Int) := by omega
    have hix := hAi i hlt
    obtain ⟨r, hr, hr1⟩ := hs _ (getD_mem (z := b0) hlt)
    rw [drop_cons' b0 l hlt] at hbf
    generalize l.getD i b0 = x at *
    simp only [hlt', decide_true, hcond, hix, load_elt _ _ 6 (batC_len _), vBin, if_true]
    intro X hX
    have e0 : putCells [HV.lit (.int .i64 0), .lit (.int .i64 0), .lit (.int .i64 0), .lit (.int .i64 0), .lit (.int .i64 0), .lit (.slice none 0 0)] 0 (batC x) = batC x := by simp [putCells, batC]
    simp only [hStore, hc_agg, set_at, batC_len, Nat.zero_add, List.length_cons, List.length_nil, Nat.reduceAdd, Nat.le_refl, set_set, e0, true_and]
    refine ⟨by simpa using (ho_batC x), ?_⟩
    have hle1 := le_set_new (.cells (batC x)) hst hX
    have hat1 := set_at t X (.cells (batC x))
    have hq1 : (t.set X (.cells (batC x))) q = some (rmO W o) := by rw [set_ne _ _ (ne_new hq hX)]; exact hq
    generalize t.set X (.cells (batC x)) = t1 at *
    have hq1' := hq1
    unfold rmO at hq1'
    have c0 : [HV.lit (.int .i64 W), rowV prC 3 o][0]? = some (.lit (.int .i64 W)) := rfl
    have c1 : [HV.lit (.int .i64 W), rowV prC 3 o][1]? = some (rowV prC 3 o) := rfl
    have hmk : vMk [(0, 1), (1, 1)] [.lit (.int .i64 0), .lit (.slice none 0 0)] [(0, .lit (.int .i64 W)), (1, rowV prC 3 o)] = some (.agg [.lit (.int .i64 W), rowV prC 3 o]) := by simp [vMk, hfill, hc_int, hc_rowV]
    simp only [vNil, vField, Nat.zero_add, load_at 0 hq1', load_at 1 hq1', c0, c1, hmk]
    intro Y hY
    have hat2 : (t1.set Y (.cells [.lit (.int .i64 W), rowV prC 3 o])) X = some (.cells (batC x)) := by rw [set_ne _ _ (ne_new hat1 hY)]; exact hat1
    have hq2 : (t1.set Y (.cells [.lit (.int .i64 W), rowV prC 3 o])) q = some (rmO W o) := by rw [set_ne _ _ (ne_new hq1 hY)]; exact hq1
    have hY2 : (t1.set Y (.cells [.lit (.int .i64 W), rowV prC 3 o])) Y = some (rmO W o) := set_at _ _ _
    have hle2 := le_set_new (.cells [.lit (.int .i64 W), rowV prC 3 o]) hle1 hY
    have hYs : s Y = none := none_of_le hle1 hY
    have hYX : X ≠ Y := ne_new hat1 hY
    have hYq : q ≠ Y := ne_new hq1 hY
    generalize t1.set Y (.cells [.lit (.int .i64 W), rowV prC 3 o]) = t2 at *
    have x0 : (batC x)[0]? = some (.lit (.int .i64 x.base)) := rfl
    have x1 : (batC x)[1]? = some (.lit (.int .i64 x.last)) := rfl
    have x5 : (batC x)[5]? = some (recsV (some r)) := by rw [← hr]; rfl
    simp only [buildF, hr, Option.getD_some, gt_iff_lt] at hbf
    have hfr : (freshF g.1 from_ r).2 = DS from_ (fun q => (g.1 q).isSome = true) r := by
      unfold freshF
      rw [fresh_DS]
      simp
    have hfb : (freshF g.1 from_ r).2 ≤ r.length := by have := fresh_le g.1 from_ r (fun _ => none, 0); unfold freshF; simpa using this
    rw [w64 (by omega) (by omega), hfr] at hbf
    refine HLoop.ghost (σ := Option (List Pr) × Nat) (fun a => [.lit (.int .i64 a.2)]) (fun a t => a.2 ≤ r.length ∧ HS.le s t ∧ t X = some (.cells (batC x)) ∧ t q = some (rmO W o) ∧ t Y = some (rmO W a.1) ∧ RM a.1 ((r.take a.2).foldl (offStep W from_) g) ∧
      (((g.2 + DS from_ (fun q => (g.1 q).isSome = true) r : Nat) : Int) ≤ W ↔ ((((r.take a.2).foldl (offStep W from_) g).2 + DS from_ (fun q => (((r.take a.2).foldl (offStep W from_) g).1 q).isSome = true) (r.drop a.2) : Nat) : Int) ≤ W)) (fun a => r.length - a.2) (o, 0) rfl ⟨Nat.zero_le _, hle2, hat2, hq2, hY2, hrm, Iff.rfl⟩ ?_
    rintro ⟨o2, j⟩ t3 K3 ⟨hj, hst3, hX3, hq3, hY3, hrm3, hiff⟩ hK3
    simp only at hj hst3 hX3 hq3 hY3 hrm3 hiff
    have hn3 := fold_lenW (from_ := from_) (r.take j) g hnW
    have ho2 : (o2.getD []).length ≤ 1000000 := by have := hrm3.num; omega
    simp only [List.headD_cons, List.tail_cons, load_at 5 hX3, x5, len_recsV, Option.getD_some]
    by_cases hjl : j < r.length
    · have hjl' : (j : Int) < (r.length : Int) := by omega
      have hjx := vIdx_recsV (some r) j hjl
      simp only [Option.getD_some] at hjx
      have hjt := take_succ' r0 r hjl
      rw [drop_cons' r0 r hjl] at hiff
      have hfold : (r.take (j + 1)).foldl (offStep W from_) g = offStep W from_ ((r.take j).foldl (offStep W from_) g) (r.getD j r0) := by rw [hjt]; simp
      generalize r.getD j r0 = y at *
      generalize (r.take j).foldl (offStep W from_) g = g3 at *
      simp only [hjl', decide_true, hjx, load_elt _ _ 6 (recC_len _)]
      intro Z hZ
      have e1 : putCells [HV.lit (.int .i64 0), .lit (.int .i64 0), .lit (.bool false), .lit (.slice none 0 0), .lit (.bool false), .lit (.slice none 0 0)] 0 (recC y) = recC y := by simp [putCells, recC]
      simp only [hStore, hc_agg, set_at, recC_len, Nat.zero_add, List.length_cons, List.length_nil, Nat.reduceAdd, Nat.le_refl, set_set, e1, true_and]
      refine ⟨by simpa using (ho_recC y), ?_⟩
      have hle4 := le_set_new (.cells (recC y)) hst3 hZ
      have hZ4 := set_at t3 Z (.cells (recC y))
      have hX4 : (t3.set Z (.cells (recC y))) X = some (.cells (batC x)) := by rw [set_ne _ _ (ne_new hX3 hZ)]; exact hX3
      have hq4 : (t3.set Z (.cells (recC y))) q = some (rmO W o) := by rw [set_ne _ _ (ne_new hq3 hZ)]; exact hq3
      have hY4 : (t3.set Z (.cells (recC y))) Y = some (rmO W o2) := by rw [set_ne _ _ (ne_new hY3 hZ)]; exact hY3
      have hZY : Y ≠ Z := ne_new hY3 hZ
      generalize t3.set Z (.cells (recC y)) = t4 at *
      have hjw : IntKind.i64.wrap ((j : Int) + 1) = ((j + 1 : Nat) : Int) := by rw [w64 (by omega) (by omega)]; rfl
      -- what is known behind this record
      refine Join.of (fun xs t5 => ∃ gg : Bool, xs = [.lit (.bool gg)] ∧ HS.le s t5 ∧ t5 X = some (.cells (batC x)) ∧ t5 q = some (rmO W o) ∧ (if gg then ¬ ((g.2 + DS from_ (fun q => (g.1 q).isSome = true) r : Nat) : Int) ≤ W else
        ∃ o5, t5 Y = some (rmO W o5) ∧ RM o5 (offStep W from_ g3 y) ∧ (((g.2 + DS from_ (fun q => (g.1 q).isSome = true) r : Nat) : Int) ≤ W ↔ (((offStep W from_ g3 y).2 + DS from_ (fun q => ((offStep W from_ g3 y).1 q).isSome = true) (r.drop (j + 1)) : Nat) : Int) ≤ W))) ?_ ?_
      rotate_left
      · intro K5 hK5
        have skip : ¬ (y.hasKey = true ∧ from_ ≤ y.off) → K5 [.lit (.bool false)] t4 := by
          intro hne
          have hos : offStep W from_ g3 y = g3 := by unfold offStep; rw [if_neg hne]
          refine hK5 _ _ ⟨false, rfl, hle4, hX4, hq4, ?_⟩
          rw [if_neg (by simp), hos]
          refine ⟨o2, hY4, hrm3, ?_⟩
          rw [hiff]
          have hds : DS from_ (fun q => (g3.1 q).isSome = true) (y :: r.drop (j + 1)) = DS from_ (fun q => (g3.1 q).isSome = true) (r.drop (j + 1)) := by
            classical
            rw [DS_cons, if_neg (fun h => hne h.1)]
          rw [hds]
        simp only [load_at 2 hZ4, rec2]
        cases hyk : y.hasKey with
        | false => simp only []; exact skip (by rw [hyk]; simp)
        | true =>
          simp only [load_at 0 hZ4, rec0]
          by_cases hyo : from_ ≤ y.off
          · have hyo' : y.off ≥ from_ := hyo
            simp only [hyo', decide_true, load_at 3 hZ4, rec3]
            have hos : offStep W from_ g3 y = offF W g3 (kv y.key) y.off := by unfold offStep; rw [if_pos ⟨hyk, hyo⟩]
            have hval := hrm3.val y.key
            have hds := DS_step (l := r.drop (j + 1)) (W := W) (from_ := from_) (g := g3) (r := y) ⟨hyk, hyo⟩ hn3
            refine (refOffer hY4 hrm3 ho2 y.key y.off).mono ?_
            rintro v t5 ⟨o5, rfl, rfl, hrm5⟩
            have hsome : (look (o2.getD []) (keyB y.key)).isSome = (g3.1 (kv y.key)).isSome := by rw [hval]; simp
            rw [hsome]
            have hst5 : HS.le s (t4.set Y (rmO W o5)) := le_set_free _ hle4 hYs
            have hX5 : (t4.set Y (rmO W o5)) X = some (.cells (batC x)) := by rw [set_ne _ _ hYX]; exact hX4
            have hq5 : (t4.set Y (rmO W o5)) q = some (rmO W o) := by rw [set_ne _ _ hYq]; exact hq4
            cases hroom : ((g3.1 (kv y.key)).isSome || decide ((g3.2 : Int) < W)) with
            | true =>
              simp only [vUn, Bool.not_true]
              refine hK5 _ _ ⟨false, rfl, hst5, hX5, hq5, ?_⟩
              rw [if_neg (by simp), hos]
              refine ⟨o5, set_at _ _ _, hrm5, ?_⟩
              rw [hiff, hds]
              have : (g3.1 (kv y.key)).isSome = true ∨ (g3.2 : Int) < W := by simpa using hroom
              exact ⟨fun h => h.2, fun h => ⟨this, h⟩⟩
            | false =>
              simp only [vUn, Bool.not_false]
              refine hK5 _ _ ⟨true, rfl, hst5, hX5, hq5, ?_⟩
              rw [if_pos rfl, hiff, hds]
              rintro ⟨h1, -⟩
              have : ¬ ((g3.1 (kv y.key)).isSome = true ∨ (g3.2 : Int) < W) := by
                intro h; rw [show ((g3.1 (kv y.key)).isSome || decide ((g3.2 : Int) < W)) = true from by simpa using h] at hroom; cases hroom
              exact this h1
          · have hyo' : ¬ y.off ≥ from_ := hyo
            simp only [hyo', decide_false]
            exact skip (fun h => hyo h.2)
      rintro xs t5 ⟨gg, rfl, hle5, hX5, hq5, hgg⟩
      simp only [List.headD_cons]
      cases gg with
      | true =>
        rw [if_pos rfl] at hgg
        have hlt2 : W < ((g.2 + DS from_ (fun q => (g.1 q).isSome = true) r : Nat) : Int) := by omega
        rw [if_pos (by omega)] at hbf
        simp only [load_at 0 hX5, x0, Option.bind_some, true_and]
        refine ⟨q, o, ?_, hle5, hq5, by rw [← hbf]; exact hrm, hol⟩
        rw [← hbf, show (if from_ > x.base then from_ else x.base) = max x.base from_ by omega]
      | false =>
        rw [if_neg (by simp)] at hgg
        obtain ⟨o5, hY5, hrm5, hiff5⟩ := hgg
        simp only [hjw]
        refine hK3 (o5, j + 1) _ _ rfl ⟨hjl, hle5, hX5, hq5, hY5, ?_, ?_⟩ (by show r.length - (j + 1) < r.length - j; omega)
        · show RM o5 ((r.take (j + 1)).foldl (offStep W from_) g)
          rw [hfold]; exact hrm5
        · show _ ↔ ((((r.take (j + 1)).foldl (offStep W from_) g).2 + DS from_ (fun q => (((r.take (j + 1)).foldl (offStep W from_) g).1 q).isSome = true) (r.drop (j + 1)) : Nat) : Int) ≤ W
          rw [hfold]; exact hiff5
    · obtain rfl : j = r.length := by omega
      have hjl' : ¬ (r.length : Int) < (r.length : Int) := by omega
      rw [List.take_length] at hrm3 hiff hn3
      rw [List.drop_length] at hiff
      have hok : ((g.2 + DS from_ (fun q => (g.1 q).isSome = true) r : Nat) : Int) ≤ W := hiff.2 (by show (((r.foldl (offStep W from_) g).2 + 0 : Nat) : Int) ≤ W; omega)
      rw [if_neg (by omega)] at hbf
      simp only [hjl', decide_false, load_at 1 hX3, x1, hfold, vMax2, Option.bind_some]
      refine hK (Y, o2, r.foldl (offStep W from_) g, max (IntKind.i64.wrap (x.last + 1)) from_, i + 1) _ _ ?_ ⟨hlt, hst3, hY3, hrm3, hn3, hbf⟩ (by show l.length - (i + 1) < l.length - i; omega)
      rw [w64 (x := (i : Int) + 1) (by omega) (by omega), show (if IntKind.i64.wrap (x.last + 1) > from_ then IntKind.i64.wrap (x.last + 1) else from_) = max (IntKind.i64.wrap (x.last + 1)) from_ by omega]
      rfl
  · obtain rfl : i = l.length := by omega
    have hlt' : ¬ (l.length : Int) < (l.length : Int) := by omega
    rw [List.drop_length] at hbf
    simp only [buildF] at hbf
    simp only [hlt', decide_false, hcond, vBin, if_true]
    rw [← hbf]
    exact ⟨q, o, rfl, hst, hq, hrm, hol⟩
theorem older {s : HS} (now t age : Int) (h0 : 0 ≤ t) (h1 : t ≤ 1125899906842624) (h2 : 0 ≤ now) (h3 : now ≤ 1125899906842624) :
    HC Try.prog 57 [.lit (.int .i64 now), .lit (.int .i64 t), .lit (.int .i64 age)] s (fun v s' => s' = s ∧ v = .lit (.bool (decide (t < now) && decide (age < now - t)))) := by
  refine HC57 ?_
  unfold c57
  refine Join.of (fun xs s' => s' = s ∧ xs = [.lit (.bool false)]) ?_ ?_
  rotate_left
  · intro K hK
    have : ¬ t < 0 := by omega
    simp only [bindO, hcond, vCmp, vBin, vUn, vExtract, if_true, List.headD_cons, List.tail_cons, Bool.not_true, Bool.not_false, this, decide_false]
    exact hK _ _ ⟨rfl, rfl⟩
  rintro xs s1 ⟨rfl, rfl⟩
  simp only [bindO, hcond, vCmp, vBin, vUn, vExtract, if_true, List.headD_cons, List.tail_cons, Bool.not_true, Bool.not_false, gt_iff_lt]
  have hw : IntKind.i64.wrap (now - t) = now - t := w64 (by omega) (by omega)
  by_cases h : t < now
  · simp only [h, decide_true, hw, Bool.true_and]; first | exact ⟨rfl, rfl⟩ | trivial
  · simp only [h, decide_false, Bool.false_and]; first | exact ⟨rfl, rfl⟩ | trivial
def TimeOk (r : Rec) : Prop := 0 ≤ r.time ∧ r.time ≤ 1125899906842624
theorem load_rec {t : HS} {q : Nat} {r : Rec} (h : t q = some (.cells (recC r))) : vLoad t (.ptr q 0) 6 true = some (.agg (recC r)) := by
  simp only [vLoad, h, takeCells, if_true, Nat.zero_add, recC_len, Nat.le_refl, List.drop_zero, hcz]
theorem rec1 (b : Rec) : (recC b)[1]? = some (.lit (.int .i64 b.time)) := rfl
theorem refStays {s : HS} {q : Nat} {W : Int} {o : Option (List Pr)} {g : (Value → Option Int) × Nat} (hq : s q = some (rmO W o)) (h : RM o g) (hl : (o.getD []).length ≤ 1000000) (r : Rec) (upto now grace : Int) (hr : TimeOk r) (h2 : 0 ≤ now) (h3 : now ≤ 1125899906842624) (h4 : 0 ≤ grace) :
    HC Try.prog 22 [.agg (recC r), .ptr q 0, .lit (.int .i64 upto), .lit (.int .i64 now), .lit (.int .i64 grace)] s (fun v s' => s' = s ∧ v = .lit (.bool (stays r g.1 upto now grace))) := by
  refine HC.weaken (HC22 ?_)
  have hbr : hcells (.agg (recC r)) = some (recC r) := rfl
  unfold c22 hBox
  rw [hbr]
  intro X hX
  have hX1 := set_at s X (.cells (recC r))
  have hq1 : (s.set X (.cells (recC r))) q = some (rmO W o) := by rw [set_ne _ _ (ne_new hq hX)]; exact hq
  have hle := le_set_new (.cells (recC r)) (le_refl' s) hX
  generalize s.set X (.cells (recC r)) = t at *
  have hfin : ∀ b b' : Bool, b = b' → ∃ s'', HS.le s'' t ∧ s'' = s ∧ HV.lit (.bool b) = .lit (.bool b') := fun b b' e => ⟨s, hle, rfl, by rw [e]⟩
  refine Join.of (fun xs s' => s' = t ∧ xs = [.lit (.bool (!r.hasKey || decide (upto ≤ r.off)))]) ?_ ?_
  rotate_left
  · intro K hK
    simp only [bindO, vField, Nat.zero_add, load_at 2 hX1, load_at 0 hX1, rec2, rec0, vUn, vBin, if_true, hcond, ge_iff_le]
    cases hk : r.hasKey with
    | false => simp only [Bool.not_false]; exact hK _ _ ⟨rfl, by rw [hk]; rfl⟩
    | true => simp only [Bool.not_true]; exact hK _ _ ⟨rfl, by rw [hk]; rfl⟩
  rintro xs s1 ⟨rfl, rfl⟩
  simp only [List.headD_cons, hcond]
  cases h0 : (!r.hasKey || decide (upto ≤ r.off)) with
  | true =>
    refine hfin true _ ?_
    unfold stays
    rw [if_pos (by simpa using h0)]
  | false =>
    have h0' : ¬ (r.hasKey = false ∨ r.off ≥ upto) := by
      intro hc
      have : (!r.hasKey || decide (upto ≤ r.off)) = true := by simpa using hc
      rw [this] at h0; cases h0
    unfold stays
    rw [if_neg h0']
    simp only [bindO, vField, Nat.zero_add, load_at 3 hX1, rec3]
    refine (refLast hq1 h hl r.key).mono ?_
    rintro v t2 ⟨rfl, rfl⟩
    simp only [vExtract, List.getElem?_cons_zero, List.getElem?_cons_succ]
    cases hM : g.1 (kv r.key) with
    | none =>
      simp only [Option.isSome_none, Option.getD_none]
      refine Join.of (fun xs s' => s' = t2 ∧ xs = [.lit (.bool false)]) ?_ ?_
      rotate_left
      · intro K hK; exact hK _ _ ⟨rfl, rfl⟩
      rintro xs s3 ⟨rfl, rfl⟩
      simp only [List.headD_cons, load_at 4 hX1, rec4, vUn, Bool.not_false]
      cases r.hasVal with
      | true => first | exact hfin _ _ rfl | exact ⟨s, hle, rfl, trivial⟩
      | false => first | exact hfin _ _ rfl | exact ⟨s, hle, rfl, trivial⟩
    | some z =>
      simp only [Option.isSome_some, Option.getD_some]
      refine Join.of (fun xs s' => s' = t2 ∧ xs = [.lit (.bool (decide (z > r.off)))]) ?_ ?_
      rotate_left
      · intro K hK
        simp only [load_at 0 hX1, rec0, vBin, if_true]
        exact hK _ _ ⟨rfl, rfl⟩
      rintro xs s3 ⟨rfl, rfl⟩
      simp only [List.headD_cons]
      by_cases hz : z > r.off
      · simp only [hz, decide_true, if_true]; first | exact hfin _ _ rfl | exact ⟨s, hle, rfl, trivial⟩
      · simp only [hz, decide_false, if_false, load_at 4 hX1, rec4, vUn, Bool.not_true, load_at 1 hX1, rec1]
        cases hv : r.hasVal with
        | true => exact hfin _ _ (by simp)
        | false =>
          simp only []
          refine (older now r.time grace hr.1 hr.2 h2 h3).mono ?_
          rintro v t5 ⟨rfl, rfl⟩
          obtain ⟨g1, g2⟩ := hr
          have e3 : min (max now (-2305843009213693952)) 2305843009213693952 = now := by omega
          have e4 : min (max r.time (-2305843009213693952)) 2305843009213693952 = r.time := by omega
          refine hfin _ _ ?_
          rw [e3, e4]
          by_cases hg : now - r.time > grace
          · have : r.time < now := by omega
            have hg' : grace < now - r.time := hg
            simp [this, hg', hg]
          · have hg' : ¬ grace < now - r.time := hg
            simp [hg', hg]
-- segments
/-- What stands within a row that grows is a list from here on. -/
theorem acc_frzIn {b t : HS} {sz : Nat} {A : HV} {n : Nat} {cs : List HV} (h : Acc b t sz A n cs) (hb : HS.le b t) {q : Nat} {ds : List HV} (hq : t q = some (.cells ds)) (hbq : b q = none) (hA : accId A ≠ some q) :
    ∃ t', (∀ ys zs : List HV, (∀ q cs, ys.map (frz2 q cs) = ys) → (∀ q cs, zs.map (frz2 q cs) = zs) → UpL (ys ++ A :: zs) t (ys ++ A :: zs) t') ∧ HS.le b t' ∧ Acc b t' sz A n (cs.map (frz0 q ds)) := by
  rcases h with ⟨rfl, rfl, rfl⟩ | ⟨a, f, h1, rfl, h3, h4⟩
  · exact ⟨b, fun _ _ _ _ => UpL.le _ hb, le_refl' b, .inl ⟨rfl, rfl, rfl⟩⟩
  · have hne : a ≠ q := by rintro rfl; exact hA rfl
    refine ⟨b.set a (.cells (cs.map (frz0 q ds))), fun ys zs hy hz => ?_, le_set_new _ (le_refl' b) h1, .inr ⟨a, f, h1, rfl, set_at _ _ _, by rw [List.length_map]; exact h4⟩⟩
    have hu := UpL.frzG (xs := ys ++ HV.view a 0 sz n f :: zs) (s' := b.set a (.cells (cs.map (frz0 q ds)))) hq (fun k o hk => ?_)
    · have e : (ys ++ HV.view a 0 sz n f :: zs).map (frz2 q ds) = ys ++ HV.view a 0 sz n f :: zs := by
        rw [List.map_append, List.map_cons, hy, hz]
        simp [frz2, frz1, frz0, phi, hne]
      rw [e] at hu
      exact hu
    · by_cases hka : k = a
      · subst hka
        rw [set_at] at hk
        cases hk
        exact ⟨hne, _, h3, .inr rfl⟩
      · rw [set_ne _ _ hka] at hk
        exact ⟨(by rintro rfl; rw [hbq] at hk; cases hk), o, hb _ _ hk, .inl rfl⟩
theorem frz_batsC (q : Nat) (ds : List HV) (l : List Bat) : (batsC l).map (frz0 q ds) = batsC l := by
  induction l with
  | nil => rfl
  | cons x r ih =>
    rw [show batsC (x :: r) = batC x ++ batsC r from rfl, List.map_append, ih]
    congr 1
    obtain ⟨c0, c1, c2, c3, c4, recs⟩ := x
    cases recs <;> rfl
theorem refSegment {s : HS} {q : Nat} {W : Int} {o : Option (List Pr)} {g : (Value → Option Int) × Nat} (hq : s q = some (rmO W o)) (h : RM o g) (hlo : (o.getD []).length ≤ 1000000) (x : Seg) (upto now grace : Int) (hl : (x.getD []).length ≤ 100000) (hs : ∀ b ∈ x.getD [], ∃ r, b.recs = some r ∧ r.length ≤ 100000 ∧ ∀ y ∈ r, TimeOk y) (h2 : 0 ≤ now) (h3 : now ≤ 1125899906842624) (h4 : 0 ≤ grace) :
    HC Try.prog 24 [batsV x, .ptr q 0, .lit (.int .i64 upto), .lit (.int .i64 now), .lit (.int .i64 grace)] s (fun v s' => s' = s ∧ v = batsV (orNil (keptB g.1 upto now grace (x.getD [])))) := by
  refine HC.up (HC24 ?_)
  unfold c24
  refine HLoop.ghostU (σ := HV × Nat) (fun a => [a.1, .lit (.int .i64 a.2)]) (fun a t => a.2 ≤ (x.getD []).length ∧ HS.le s t ∧ Acc s t 6 a.1 (keptB g.1 upto now grace ((x.getD []).take a.2)).length (batsC (keptB g.1 upto now grace ((x.getD []).take a.2)))) (fun a => (x.getD []).length - a.2) (nilV, 0) s (UpL.refl _ _) ⟨Nat.zero_le _, le_refl' s, Acc.nil _ _ _⟩ ?_
  rintro ⟨A, i⟩ t K ⟨hi, hst, ho⟩ hK
  simp only at hi hst ho
  simp only [List.headD_cons, List.tail_cons, bindO, len_batsV, vBin, if_true]
  by_cases hlt : i < (x.getD []).length
  · have hlt' : (i : Int) < ((x.getD []).length : Int) := by omega
    have hix := vIdx_batsV x i hlt
    have hts := take_succ' b0 (x.getD []) hlt
    obtain ⟨r, hr, hr1, hr2⟩ := hs _ (getD_mem (z := b0) hlt)
    generalize (x.getD []).getD i b0 = y at *
    have hkb : keptB g.1 upto now grace ((x.getD []).take (i + 1)) = keptB g.1 upto now grace ((x.getD []).take i) ++ (if keptR g.1 upto now grace r ≠ [] then [cutB g.1 upto now grace y] else []) := by
      rw [hts, keptB_app]
      simp only [keptB, hr, Option.getD_some]
    have hkl := keptB_len g.1 upto now grace ((x.getD []).take i)
    rw [List.length_take] at hkl
    simp only [hlt', decide_true, hcond]
    refine Join.of (fun xs t5 => ∃ A' t6, xs = [A'] ∧ (∀ n : Int, UpL [A', .lit (.int .i64 n)] t5 [A', .lit (.int .i64 n)] t6) ∧ HS.le s t6 ∧ Acc s t6 6 A' (keptB g.1 upto now grace ((x.getD []).take (i + 1))).length (batsC (keptB g.1 upto now grace ((x.getD []).take (i + 1))))) ?_ ?_
    · rintro xs t5 ⟨A', t6, rfl, hu, h5, h6⟩
      simp only [List.headD_cons]
      exact hK (A', i + 1) _ _ t6 (by rw [w64 (by omega) (by omega)]; exact hu _) ⟨hlt, h5, h6⟩ (by show (x.getD []).length - (i + 1) < (x.getD []).length - i; omega)
    intro K6 hK6
    simp only [hix, load_elt _ _ 6 (batC_len _)]
    intro X hX
    have e0 : putCells [HV.lit (.int .i64 0), .lit (.int .i64 0), .lit (.int .i64 0), .lit (.int .i64 0), .lit (.int .i64 0), .lit (.slice none 0 0)] 0 (batC y) = batC y := by simp [putCells, batC]
    simp only [hStore, hc_agg, set_at, batC_len, Nat.zero_add, List.length_cons, List.length_nil, Nat.reduceAdd, Nat.le_refl, set_set, e0, true_and]
    refine ⟨by simpa using (ho_batC y), ?_⟩
    have hle1 := le_set_new (.cells (batC y)) hst hX
    have hat1 := set_at t X (.cells (batC y))
    have ho1 := ho.new (.cells (batC y)) hX
    have hXs : s X = none := none_of_le hst hX
    have hAX : accId A ≠ some X := fun e => by have := (ho.free e).2; rw [hX] at this; cases this
    generalize t.set X (.cells (batC y)) = t1 at *
    have x5 : (batC y)[5]? = some (recsV (some r)) := by rw [← hr]; rfl
    -- the records that stay
    refine HLoop.ghost (σ := HV × Nat) (fun a => [a.1, .lit (.int .i64 a.2)]) (fun a t' => a.2 ≤ r.length ∧ HS.le s t' ∧ t' X = some (.cells (batC y)) ∧ Acc s t' 6 A (keptB g.1 upto now grace ((x.getD []).take i)).length (batsC (keptB g.1 upto now grace ((x.getD []).take i))) ∧
      Acc s t' 6 a.1 (keptR g.1 upto now grace (r.take a.2)).length (recsC (keptR g.1 upto now grace (r.take a.2))) ∧ accId a.1 ≠ some X ∧ (∀ z, accId a.1 = some z → accId A ≠ some z)) (fun a => r.length - a.2) (nilV, 0) rfl ⟨Nat.zero_le _, hle1, hat1, ho1, Acc.nil _ _ _, by simp [accId], by simp [accId]⟩ ?_
    rintro ⟨B, j⟩ t2 K2 ⟨hj, hst2, hX2, hoA, hoB, hBX, hBA⟩ hK2
    simp only at hj hst2 hX2 hoA hoB hBX hBA
    simp only [List.headD_cons, List.tail_cons, vField, Nat.zero_add, load_at 5 hX2, x5, len_recsV, Option.getD_some]
    by_cases hjl : j < r.length
    · have hjl' : (j : Int) < (r.length : Int) := by omega
      have hjx := vIdx_recsV (some r) j hjl
      simp only [Option.getD_some] at hjx
      have hjt := take_succ' r0 r hjl
      have htm := hr2 _ (getD_mem (z := r0) hjl)
      generalize r.getD j r0 = w at *
      have hkl : keptR g.1 upto now grace (r.take (j + 1)) = keptR g.1 upto now grace (r.take j) ++ (if stays w g.1 upto now grace then [w] else []) := by
        rw [hjt]
        unfold keptR
        rw [List.filter_append]
        simp only [List.filter]
        split <;> simp_all
      have hkr : (keptR g.1 upto now grace (r.take j)).length ≤ 100000 := Nat.le_trans (List.length_filter_le _ _) (by rw [List.length_take]; omega)
      have hjw : IntKind.i64.wrap ((j : Int) + 1) = ((j + 1 : Nat) : Int) := by rw [w64 (by omega) (by omega)]; rfl
      simp only [hjl', decide_true]
      refine Join.of (fun xs t5 => ∃ B', xs = [B'] ∧ HS.le s t5 ∧ t5 X = some (.cells (batC y)) ∧ Acc s t5 6 A (keptB g.1 upto now grace ((x.getD []).take i)).length (batsC (keptB g.1 upto now grace ((x.getD []).take i))) ∧
        Acc s t5 6 B' (keptR g.1 upto now grace (r.take (j + 1))).length (recsC (keptR g.1 upto now grace (r.take (j + 1)))) ∧ accId B' ≠ some X ∧ (∀ z, accId B' = some z → accId A ≠ some z)) ?_ ?_
      · rintro xs t5 ⟨B', rfl, h5, h6, h7, h8, h9, h10⟩
        simp only [List.headD_cons, hjw]
        exact hK2 (B', j + 1) _ _ rfl ⟨hjl, h5, h6, h7, h8, h9, h10⟩ (by show r.length - (j + 1) < r.length - j; omega)
      intro K21 hK21
      simp only [hjx, load_elt _ _ 6 (recC_len _)]
      have hqt : t2 q = some (rmO W o) := hst2 _ _ hq
      refine (refStays hqt h hlo w upto now grace htm h2 h3 h4).mono ?_
      rintro v t3 ⟨rfl, rfl⟩
      cases hstay : stays w g.1 upto now grace with
      | false =>
        simp only []
        refine hK21 _ _ ⟨B, rfl, hst2, hX2, hoA, ?_, hBX, hBA⟩
        rw [hkl, hstay]
        simpa using hoB
      | true =>
        simp only [load_at 5 hX2, x5, hjx, load_elt _ _ 6 (recC_len _)]
        refine hoB.app1 hst2 (hc_agg (recC w)) (recC_len w) rfl ⟨by omega, by omega⟩ ?_
        intro B' t4 g1 g2 g3
        have gA : Acc s t4 6 A (keptB g.1 upto now grace ((x.getD []).take i)).length (batsC (keptB g.1 upto now grace ((x.getD []).take i))) := hoA.keep fun z ob hz hz2 => (g3 z ob (fun e => hBA z e hz) hz2).1
        refine hK21 _ _ ⟨B', rfl, g2, (g3 X _ hBX hX2).1, gA, ?_, (g3 X _ hBX hX2).2, fun z hz hA => ?_⟩
        · rw [hkl, hstay, if_pos rfl, List.length_append, recsC_app]
          simpa [recsC] using g1
        · have hz2 := (hoA.free hA).2
          exact (g3 z _ (fun e => hBA z e hA) hz2).2 hz
    · obtain rfl : j = r.length := by omega
      have hjl' : ¬ (r.length : Int) < (r.length : Int) := by omega
      rw [List.take_length] at hoB
      have hcut : cutB g.1 upto now grace y = { y with recs := orNil (keptR g.1 upto now grace r) } := by unfold cutB; rw [hr]; rfl
      have hlB : ∀ t, vLenT (Try.prog.underlying 44) t B = some (.lit (.int .i64 (keptR g.1 upto now grace r).length)) := fun t => hoB.len 34 t
      have hp5 : putCells (batC y) 5 [B] = [.lit (.int .i64 y.base), .lit (.int .i64 y.last), .lit (.int .i64 y.prod), .lit (.int .i64 y.epoch), .lit (.int .i64 y.seq), B] := by simp [putCells, batC]
      simp only [hjl', decide_false, hStore, hoB.hc, hX2, List.length_singleton, batC_len, hp5]
      refine ⟨by trivial, by omega, by simpa using hoB.one, ?_⟩
      have hX3 := set_at t2 X (.cells [.lit (.int .i64 y.base), .lit (.int .i64 y.last), .lit (.int .i64 y.prod), .lit (.int .i64 y.epoch), .lit (.int .i64 y.seq), B])
      have hle3 := le_set_free (.cells [.lit (.int .i64 y.base), .lit (.int .i64 y.last), .lit (.int .i64 y.prod), .lit (.int .i64 y.epoch), .lit (.int .i64 y.seq), B]) hst2 hXs
      have hoA3 := hoA.put (.cells [.lit (.int .i64 y.base), .lit (.int .i64 y.last), .lit (.int .i64 y.prod), .lit (.int .i64 y.epoch), .lit (.int .i64 y.seq), B]) hAX
      have hoB3 := hoB.put (.cells [.lit (.int .i64 y.base), .lit (.int .i64 y.last), .lit (.int .i64 y.prod), .lit (.int .i64 y.epoch), .lit (.int .i64 y.seq), B]) hBX
      generalize t2.set X (.cells [.lit (.int .i64 y.base), .lit (.int .i64 y.last), .lit (.int .i64 y.prod), .lit (.int .i64 y.epoch), .lit (.int .i64 y.seq), B]) = t3 at *
      simp only [hlB]
      by_cases hne : keptR g.1 upto now grace r = []
      · have h0 : ¬ (((keptR g.1 upto now grace r).length : Int) > 0) := by rw [hne]; simp
        simp only [h0, decide_false]
        refine hK6 _ _ ⟨A, t3, rfl, fun n => UpL.refl _ _, hle3, ?_⟩
        rw [hkb, if_neg (by simpa using hne)]
        simpa using hoA3
      · have h0 : (((keptR g.1 upto now grace r).length : Int) > 0) := by have := List.length_pos_iff.2 hne; omega
        have hld : vLoad t3 (.ptr X 0) 6 true = some (.agg [.lit (.int .i64 y.base), .lit (.int .i64 y.last), .lit (.int .i64 y.prod), .lit (.int .i64 y.epoch), .lit (.int .i64 y.seq), B]) := by
          simp [vLoad, hX3, takeCells]
        simp only [h0, decide_true, hld]
        refine hoA3.app1 hle3 rfl rfl rfl ⟨by omega, by omega⟩ ?_
        intro A' t4 g1 g2 g3
        rcases hoB3 with ⟨-, hn, hn0⟩ | ⟨b, f, b1, rfl, b3, b4, b5⟩
        · exact absurd (List.length_eq_zero_iff.1 hn0) hne
        have hbA : accId A ≠ some b := hBA b rfl
        obtain ⟨k1, k2⟩ := g3 b _ hbA b3
        obtain ⟨t6, u1, u2, u3⟩ := acc_frzIn g1 g2 k1 b1 k2
        refine hK6 _ _ ⟨A', t6, rfl, fun n => u1 [] [.lit (.int .i64 n)] (fun _ _ => rfl) (fun _ _ => rfl), u2, ?_⟩
        have hcut6 : (recsC (keptR g.1 upto now grace r)).take ((keptR g.1 upto now grace r).length * 6) = recsC (keptR g.1 upto now grace r) := List.take_of_length_le (by rw [recsC_len]; exact Nat.le_refl _)
        have hfr : ([HV.lit (.int .i64 y.base), .lit (.int .i64 y.last), .lit (.int .i64 y.prod), .lit (.int .i64 y.epoch), .lit (.int .i64 y.seq), .view b 0 6 (keptR g.1 upto now grace r).length f] : List HV).map (frz0 b (recsC (keptR g.1 upto now grace r))) = batC (cutB g.1 upto now grace y) := by
          rw [hcut, orNil_ne hne]
          simp [frz0, phi, recsC_len, hcut6, batC, recsV]
        rw [List.map_append, frz_batsC, hfr] at u3
        rw [hkb, if_pos hne, List.length_append, batsC_app]
        simpa [batsC] using u3
  · obtain rfl : i = (x.getD []).length := by omega
    have hlt' : ¬ ((x.getD []).length : Int) < ((x.getD []).length : Int) := by omega
    simp only [hlt', decide_false, hcond]
    rw [List.take_length] at ho
    have := ho.up hst
    rw [accV_bats] at this
    exact ⟨_, s, this, rfl, rfl⟩
end Go.Proofs.Ytecnfekcflfihaa.CL

/- Clean over the H layer: the law that it is as the document says. -/
namespace Go.Proofs.Ytecnfekcflfihaa.CL
open Go.Proofs.Ytecnfekcflfihaa.H Go.Proofs.Ytecnfekcflfihaa.C4 Go.Proofs.Ytecnfekcflfihaa.C5
set_option linter.unusedVariables false
set_option linter.unusedSimpArgs false
set_option maxRecDepth 100000
-- how many are gone
def lenRS (l : List Bat) : Int := ((flatR l).length : Nat)
theorem cnt_fold : ∀ (l : List Bat) (a : Int), 0 ≤ a → a + ((flatR l).length : Nat) ≤ 100000000 → l.foldl (fun a b => IntKind.i64.wrap (a + ((b.recs.getD []).length : Nat))) a = a + ((flatR l).length : Nat)
  | [], a, _, _ => by simp [flatR]
  | b :: l, a, h0, h => by
    rw [flatR_cons, List.length_append] at h
    rw [List.foldl_cons, w64 (by omega) (by omega), cnt_fold l _ (by omega) (by omega), flatR_cons, List.length_append]
    omega
theorem cntF_eq {l : List Bat} (h : (flatR l).length ≤ 1000000) : cntF l = lenRS l := by
  unfold cntF lenRS
  rw [cnt_fold l 0 (by omega) (by omega)]
  omega
def goneZ (M : Value → Option Int) (upto now grace : Int) : List Seg → Int
  | [] => 0
  | x :: l => (lenRS (x.getD []) - lenRS (keptB M upto now grace (x.getD []))) + goneZ M upto now grace l
theorem goneZ_app (M : Value → Option Int) (upto now grace : Int) : ∀ a b : List Seg, goneZ M upto now grace (a ++ b) = goneZ M upto now grace a + goneZ M upto now grace b
  | [], b => by simp [goneZ]
  | x :: a, b => by simp only [List.cons_append, goneZ, goneZ_app M upto now grace a b]; omega
theorem goneZ_le (M : Value → Option Int) (upto now grace : Int) : ∀ l : List Seg, 0 ≤ goneZ M upto now grace l ∧ goneZ M upto now grace l ≤ lenRS (flatS l)
  | [] => by simp [goneZ, lenRS, flatS, flatR]
  | x :: l => by
    obtain ⟨h1, h2⟩ := goneZ_le M upto now grace l
    have h3 := keptB_lenR M upto now grace (x.getD [])
    simp only [goneZ]
    unfold lenRS at *
    rw [flatS_cons, flatR_app, List.length_append]
    omega
theorem lenRS_take (l : List Seg) (i : Nat) : lenRS (flatS (l.take i)) ≤ lenRS (flatS l) := by
  have := congrArg (fun x => (flatR x).length) (flatS_app (l.take i) (l.drop i))
  simp only [List.take_append_drop, flatR_app, List.length_append] at this
  unfold lenRS
  omega
theorem lenR_mem {l : List Seg} {x : Seg} (h : x ∈ l) : (flatR (x.getD [])).length ≤ (flatR (flatS l)).length := by
  induction l with
  | nil => cases h
  | cons y r ih =>
    rw [flatS_cons, flatR_app, List.length_append]
    rcases List.mem_cons.1 h with rfl | h
    · omega
    · have := ih h; omega
theorem goneF_take (M : Value → Option Int) (upto now grace : Int) (last : Nat) (segs : List Seg) (hR : (flatR (flatS segs)).length ≤ 60000) : ∀ k, k ≤ last → k ≤ segs.length → goneF M upto now grace last (segs.take k) = goneZ M upto now grace (segs.take k)
  | 0, _, _ => by simp [goneF, goneZ]
  | k + 1, h1, h2 => by
    have ih := goneF_take M upto now grace last segs hR k (by omega) (by omega)
    have hlt : k < segs.length := by omega
    have hm := lenR_mem (getD_mem (z := (none : Seg)) hlt)
    have hk := keptB_lenR M upto now grace ((segs.getD k none).getD [])
    have hz := goneZ_le M upto now grace (segs.take k)
    have hz2 := lenRS_take segs k
    rw [take_succ' none segs hlt]
    generalize segs.getD k none = x at *
    have e1 : goneF M upto now grace last (segs.take k ++ [x]) = IntKind.i64.wrap (goneF M upto now grace last (segs.take k) + goneAt M upto now grace last k x) := by
      unfold goneF; rw [List.mapIdx_concat, List.foldl_append, List.length_take, Nat.min_eq_left (by omega)]; rfl
    have e2 : goneAt M upto now grace last k x = lenRS (x.getD []) - lenRS (keptB M upto now grace (x.getD [])) := by
      unfold goneAt cleanAt
      rw [if_pos (by omega), getD_orNil, cntF_eq (by omega), cntF_eq (by omega), w64 (by unfold lenRS; omega) (by unfold lenRS; omega)]
    rw [e1, e2, ih, goneZ_app]
    simp only [goneZ]
    unfold lenRS at *
    rw [w64 (by omega) (by omega)]
    omega
theorem goneF_all (M : Value → Option Int) (upto now grace : Int) (segs : List Seg) (hne : segs ≠ []) (hR : (flatR (flatS segs)).length ≤ 60000) : goneF M upto now grace (segs.length - 1) segs = goneZ M upto now grace (segs.take (segs.length - 1)) := by
  have hpos := List.length_pos_iff.2 hne
  have h1 := goneF_take M upto now grace (segs.length - 1) segs hR (segs.length - 1) (Nat.le_refl _) (by omega)
  have hz := goneZ_le M upto now grace (segs.take (segs.length - 1))
  have hz2 := lenRS_take segs (segs.length - 1)
  have htk := take_succ' (none : Seg) segs (i := segs.length - 1) (by omega)
  rw [show segs.length - 1 + 1 = segs.length by omega, List.take_length] at htk
  generalize hx : segs.getD (segs.length - 1) none = x at *
  have e1 : goneF M upto now grace (segs.length - 1) segs = IntKind.i64.wrap (goneF M upto now grace (segs.length - 1) (segs.take (segs.length - 1)) + goneAt M upto now grace (segs.length - 1) (segs.length - 1) x) := by
    conv => lhs; rw [htk]
    unfold goneF
    have hl : (segs.take (segs.length - 1) ++ [x]).length - 1 = segs.length - 1 := by rw [← htk]
    rw [List.mapIdx_concat, List.foldl_append, List.length_append, List.length_take]
    rw [List.length_append, List.length_take] at hl
    rw [hl, Nat.min_eq_left (by omega)]; rfl
  have e2 : goneAt M upto now grace (segs.length - 1) (segs.length - 1) x = 0 := by
    unfold goneAt cleanAt
    rw [if_neg (by omega), getD_orNil, Int.sub_self, w64 (by omega) (by omega)]
  rw [e1, e2, h1, Int.add_zero]
  unfold lenRS at *
  rw [w64 (by omega) (by omega)]
-- what the document keeps
def refOuts (M : Value → Option Int) (upto now grace : Int) (segs : List Seg) : List Seg := (segs.take (segs.length - 1)).map (fun x => orNil (keptB M upto now grace (x.getD []))) ++ [segs.getD (segs.length - 1) none]
theorem all2_of {α : Type} {f : α → α → Bool} (z : α) : ∀ (a b : List α), a.length = b.length → (∀ i, i < a.length → f (a.getD i z) (b.getD i z) = true) → all2 f a b = true
  | [], [], _, _ => rfl
  | [], _ :: _, h, _ => by simp at h
  | _ :: _, [], h, _ => by simp at h
  | x :: a, y :: b, h, k => by
    have h0 := k 0 (by simp)
    simp only [List.getD_cons_zero] at h0
    simp only [all2, h0, Bool.true_and]
    exact all2_of z a b (by simpa using h) fun i hi => by have := k (i + 1) (by simpa using hi); simpa using this
theorem refOuts_len (M : Value → Option Int) (upto now grace : Int) (segs : List Seg) (hne : segs ≠ []) : (refOuts M upto now grace segs).length = segs.length := by
  have := List.length_pos_iff.2 hne
  unfold refOuts
  rw [List.length_append, List.length_map, List.length_take, List.length_singleton]
  omega
theorem refOuts_same (M : Value → Option Int) (upto now grace : Int) (segs : List Seg) (hne : segs ≠ []) : all2 sameSeg (outsF M upto now grace (segs.length - 1) segs) (refOuts M upto now grace segs) = true := by
  have hpos := List.length_pos_iff.2 hne
  refine all2_of none _ _ (by rw [outs_len, refOuts_len _ _ _ _ _ hne]) fun i hi => ?_
  rw [outs_len] at hi
  have e1 : (outsF M upto now grace (segs.length - 1) segs).getD i none = cleanAt M upto now grace (segs.length - 1) i (segs.getD i none) := by
    unfold outsF
    simp [List.getD, hi]
  rw [e1]
  unfold cleanAt
  by_cases hl : i < segs.length - 1
  · rw [if_pos hl]
    have e2 : (refOuts M upto now grace segs).getD i none = orNil (keptB M upto now grace ((segs.getD i none).getD [])) := by
      unfold refOuts
      simp [List.getD, List.getElem?_append_left, List.getElem?_map, List.getElem?_take, hl, hi]
    rw [e2]
    exact sameSeg_refl _
  · rw [if_neg hl]
    have hi' : i = segs.length - 1 := by omega
    have e2 : (refOuts M upto now grace segs).getD i none = segs.getD i none := by
      unfold refOuts
      have hm : ((segs.take (segs.length - 1)).map (fun x => orNil (keptB M upto now grace (x.getD [])))).length = segs.length - 1 := by rw [List.length_map, List.length_take]; omega
      rw [List.getD, List.getElem?_append_right (by omega), hm, hi']
      simp
    rw [e2]
    unfold sameSeg
    rw [getD_orNil]
    exact all2_refl _ fun x _ => sameBat_refl x
theorem mayTime {segs : List Seg} (h : Mayy segs) : ∀ x ∈ segs, ∀ b ∈ x.getD [], ∃ r, b.recs = some r ∧ r.length ≤ 100000 ∧ ∀ y ∈ r, TimeOk y := by
  intro x hx b hb
  obtain ⟨l, h1, h2, h3⟩ := h.ok x hx b hb
  refine ⟨l, h1, by have := h3.n; omega, fun r hr => ?_⟩
  obtain ⟨j, hj, rfl⟩ := List.mem_iff_getElem.1 hr
  have := h3.recs j hj
  rw [show l.getD j r0 = l[j] from by simp [List.getD, hj]] at this
  exact ⟨this.t0, this.t1⟩
theorem refClean {s : HS} (segs : List Seg) (dirty : Int) (c : Cfg) (now : Int) (hm : Mayy segs) (h2 : 0 ≤ now) (h3 : now ≤ 1125899906842624) (h4 : 0 ≤ c.grace) :
    HC Try.prog 16 [rowL segC 1 segs, .lit (.int .i64 dirty), .agg (cfgC c), .lit (.int .i64 now)] s (fun v s' => s' = s ∧ v = if segs.length < 2 then .tup [rowL segC 1 segs, .lit (.int .i64 dirty), .lit (.int .i64 0)] else
      .tup [segsV (refOuts (cleanMap segs dirty c.mm).1.1 (cleanMap segs dirty c.mm).2 now c.grace segs), .lit (.int .i64 (cleanMap segs dirty c.mm).2), .lit (.int .i64 (goneZ (cleanMap segs dirty c.mm).1.1 (cleanMap segs dirty c.mm).2 now c.grace (segs.take (segs.length - 1))))]) := by
  have hlS := hm.lenS
  have hlR := hm.lenR
  have hn20 := hm.n
  have hok := okB_of hm
  have htm := mayTime hm
  refine HC.up (HC16 ?_)
  unfold c16
  have hb9 : hcells (.agg (cfgC c)) = some (cfgC c) := rfl
  unfold hBox
  rw [hb9]
  intro p0 hp0
  obtain ⟨t0, ht0⟩ : ∃ t, t = s.set p0 (.cells (cfgC c)) := ⟨_, rfl⟩
  have hcfg : t0 p0 = some (.cells (cfgC c)) := by rw [ht0, set_at]
  have hst0 : HS.le s t0 := by rw [ht0]; exact le_set_new _ (le_refl' s) hp0
  rw [← ht0]
  clear ht0
  simp only [bindO, hcond, vCmp, vBin, vUn, vExtract, if_true, List.headD_cons, List.tail_cons, Bool.not_true, Bool.not_false, Try.underlying22, len_rowL]
  by_cases hlen : segs.length < 2
  · have hlen' : (segs.length : Int) < 2 := by omega
    simp only [hlen', decide_true]
    refine ⟨_, s, UpL.le _ hst0, rfl, ?_⟩
    rw [if_pos hlen]
  have hlen' : ¬ (segs.length : Int) < 2 := by omega
  simp only [hlen', decide_false]
  have hflat : ∀ i, (flatS (segs.take i)).length ≤ 600 := by
    intro i
    refine Nat.le_trans ?_ hlS
    have := congrArg List.length (flatS_app (segs.take i) (segs.drop i))
    rw [List.take_append_drop, List.length_append] at this
    omega
  refine HLoop.ghost (σ := HV × Nat) (fun g => [g.1, .lit (.int .i64 g.2)]) (fun g t => g.2 + 1 ≤ segs.length ∧ HS.le t0 t ∧ Acc t0 t 6 g.1 (flatS (segs.take g.2)).length (batsC (flatS (segs.take g.2)))) (fun g => segs.length - g.2) (nilV, 0) rfl ⟨by show 0 + 1 ≤ segs.length; omega, le_refl' _, Acc.nil _ _ _⟩ ?_
  rintro ⟨A, i⟩ t K ⟨hi, hst, ho⟩ hK
  simp only at hi hst ho
  have hw1 : IntKind.i64.wrap ((i : Int) + 1) = ((i + 1 : Nat) : Int) := by rw [w64 (by omega) (by omega)]; rfl
  simp only [bindO, hcond, vCmp, vBin, vUn, vExtract, if_true, List.headD_cons, List.tail_cons, Bool.not_true, Bool.not_false, hw1]
  by_cases hlt : i + 1 < segs.length
  · have hlt' : ((i + 1 : Nat) : Int) < (segs.length : Int) := by omega
    have htk := take_succ' (none : Seg) segs (i := i) (by omega)
    have hix := idx_rowL segC_len none segs .i64 (show i < segs.length by omega)
    simp only [hlt', decide_true, hix, load_elt1, seg0]
    generalize segs.getD i none = x at *
    have hfl : flatS (segs.take (i + 1)) = flatS (segs.take i) ++ x.getD [] := by rw [htk, flatS_app]; simp [flatS]
    have hfl2 := hflat (i + 1)
    rw [hfl, List.length_append] at hfl2
    refine ho.app hst (lcells_batsV x t) (llen_batsV x) (batsC_len _) ⟨by omega, by omega⟩ ?_
    intro A' t' g1 g2 _
    refine hK (A', i + 1) _ _ rfl ⟨by show i + 1 + 1 ≤ segs.length; omega, g2, ?_⟩ (by show segs.length - (i + 1) < segs.length - i; omega)
    rw [hfl, List.length_append, batsC_app]
    exact g1
  · obtain rfl : i = segs.length - 1 := by omega
    have hlt' : ¬ ((segs.length - 1 + 1 : Nat) : Int) < (segs.length : Int) := by omega
    have hp0t : t p0 = some (.cells (cfgC c)) := hst _ _ hcfg
    have hc7 : (cfgC c)[7]? = some (.lit (.int .i64 c.mm)) := rfl
    have hmx : (if (1 : Int) > c.mm then 1 else c.mm) = max c.mm 1 := by omega
    simp only [hlt', decide_false, vField, Nat.zero_add, load_at 7 hp0t, hc7, hfold, vMax2, Option.bind_some, hmx]
    refine HC.upArgs (args' := [.list 6 (flatS (segs.take (segs.length - 1))).length (batsC (flatS (segs.take (segs.length - 1)))) false, .lit (.int .i64 dirty), .lit (.int .i64 (max c.mm 1))]) (s' := t0) (ho.upAtL hst [] [.lit (.int .i64 dirty), .lit (.int .i64 (max c.mm 1))] (fun _ _ => rfl) (fun _ _ => rfl)) ?_
    refine (refBuild (flatS (segs.take (segs.length - 1))) dirty (max c.mm 1) t0 (by have := hflat (segs.length - 1); omega) ?_ _ (.inr rfl)).mono ?_
    · intro b hb
      obtain ⟨x, hx, hbx⟩ := mem_flatS.1 hb
      obtain ⟨r, g1, g2, g3⟩ := htm x (List.mem_of_mem_take hx) b hbx
      exact ⟨r, g1, g2⟩
    have hcm : buildF (min (max (max c.mm 1) 1) 1000000) dirty (flatS (segs.take (segs.length - 1))) (fun _ => none, 0) dirty = cleanMap segs dirty c.mm := rfl
    rw [hcm]
    generalize cleanMap segs dirty c.mm = CM at *
    obtain ⟨⟨M, nM⟩, upto⟩ := CM
    simp only
    rintro v s1 ⟨q, o, rfl, hs1, hqo, hrm, hol⟩
    simp only [vExtract, List.getElem?_cons_zero, List.getElem?_cons_succ]
    clear hK ho hst hp0t
    have hcfg1 := hs1 _ _ hcfg
    refine HLoop.ghost (σ := HV × Nat) (fun g => [g.1, .lit (.int .i64 (goneZ M upto now c.grace (segs.take g.2))), .lit (.int .i64 g.2)]) (fun g t => g.2 + 1 ≤ segs.length ∧ HS.le s1 t ∧ Acc s1 t 1 g.1 g.2 (rows segC ((segs.take g.2).map (fun x => orNil (keptB M upto now c.grace (x.getD [])))))) (fun g => segs.length - g.2) (nilV, 0) rfl ⟨by show 0 + 1 ≤ segs.length; omega, le_refl' _, Acc.nil _ _ _⟩ ?_
    rintro ⟨A, j⟩ t K ⟨hj, hst, ho⟩ hK
    simp only at hj hst ho
    have hwj : IntKind.i64.wrap ((j : Int) + 1) = ((j + 1 : Nat) : Int) := by rw [w64 (by omega) (by omega)]; rfl
    simp only [bindO, hcond, vCmp, vBin, vUn, vExtract, if_true, List.headD_cons, List.tail_cons, Bool.not_true, Bool.not_false, hwj]
    by_cases hlt : j + 1 < segs.length
    · have hltj : ((j + 1 : Nat) : Int) < (segs.length : Int) := by omega
      have htk := take_succ' (none : Seg) segs (i := j) (by omega)
      have hxm := htm _ (getD_mem (z := (none : Seg)) (show j < segs.length by omega))
      have hxl := hm.m _ (getD_mem (z := (none : Seg)) (show j < segs.length by omega))
      have hxr := lenR_mem (getD_mem (z := (none : Seg)) (show j < segs.length by omega))
      have hix := idx_rowL segC_len none segs .i64 (show j < segs.length by omega)
      generalize segs.getD j none = x at *
      have hc6 : (cfgC c)[6]? = some (.lit (.int .i64 c.grace)) := rfl
      have hkr := keptB_lenR M upto now c.grace (x.getD [])
      have hkl := keptB_len M upto now c.grace (x.getD [])
      simp only [hltj, decide_true, hix, load_elt1, seg0, load_at 6 (hst _ _ hcfg1), hc6]
      refine (refSegment (hst _ _ hqo) hrm hol x upto now c.grace (by omega) hxm h2 h3 h4).mono ?_
      rintro v t2 ⟨rfl, rfl⟩
      simp only [hix, load_elt1, seg0]
      refine (records x (by omega) (by omega)).mono ?_
      rintro v t3 ⟨rfl, rfl⟩
      simp only [len_recsV, getD_orNil]
      refine (records (orNil (keptB M upto now c.grace (x.getD []))) (by rw [getD_orNil]; omega) (by rw [getD_orNil]; omega)).mono ?_
      rintro v t4 ⟨rfl, rfl⟩
      simp only [len_recsV, getD_orNil]
      have hz := goneZ_le M upto now c.grace (segs.take j)
      have hz2 := lenRS_take segs j
      have hgz : goneZ M upto now c.grace (segs.take (j + 1)) = goneZ M upto now c.grace (segs.take j) + ((flatR (x.getD [])).length : Nat) - ((flatR (keptB M upto now c.grace (x.getD []))).length : Nat) := by
        rw [htk, goneZ_app]
        simp only [goneZ]
        unfold lenRS
        omega
      unfold lenRS at hz hz2
      have hwg : IntKind.i64.wrap (IntKind.i64.wrap (goneZ M upto now c.grace (segs.take j) + ((flatR (x.getD [])).length : Nat)) - ((flatR (keptB M upto now c.grace (x.getD []))).length : Nat)) = goneZ M upto now c.grace (segs.take (j + 1)) := by
        rw [w64 (x := goneZ M upto now c.grace (segs.take j) + _) (by omega) (by omega), w64 (by omega) (by omega), hgz]
      simp only [hwg]
      refine ho.app1 hst (hc_batsV _) rfl rfl ⟨by omega, by omega⟩ ?_
      intro A' t' g1 g2 _
      refine hK (A', j + 1) _ _ rfl ⟨by show j + 1 + 1 ≤ segs.length; omega, g2, ?_⟩ (by show segs.length - (j + 1) < segs.length - j; omega)
      show Acc s1 t' 1 A' (j + 1) (rows segC ((segs.take (j + 1)).map _))
      rw [htk, List.map_append, rows_app]
      exact g1
    · obtain rfl : j = segs.length - 1 := by omega
      have hltj : ¬ ((segs.length - 1 + 1 : Nat) : Int) < (segs.length : Int) := by omega
      have hwl : IntKind.i64.wrap ((segs.length : Int) - 1) = ((segs.length - 1 : Nat) : Int) := by rw [w64 (by omega) (by omega)]; omega
      have hix := idx_rowL segC_len none segs .i64 (show segs.length - 1 < segs.length by omega)
      simp only [hltj, decide_false, hwl, hix, load_elt1, seg0]
      refine ho.app1 hst (hc_batsV _) rfl rfl ⟨by omega, by omega⟩ ?_
      intro A' t' g1 g2 _
      have hne : segs ≠ [] := by rintro rfl; simp at hj
      have hro : rows segC ((segs.take (segs.length - 1)).map (fun x => orNil (keptB M upto now c.grace (x.getD [])))) ++ [batsV (segs.getD (segs.length - 1) none)] = rows segC (refOuts M upto now c.grace segs) := by
        unfold refOuts
        rw [rows_app, rows_one]; rfl
      rw [hro] at g1
      have hl2 := refOuts_len M upto now c.grace segs hne
      have := g1.upT g2 [] [.lit (.int .i64 upto), .lit (.int .i64 (goneZ M upto now c.grace (segs.take (segs.length - 1))))] (fun _ _ => rfl) (fun _ _ => rfl)
      rw [show segs.length - 1 + 1 = (refOuts M upto now c.grace segs).length by omega, accV_segs] at this
      refine ⟨_, s, this.trans (UpL.le _ (HS.le.trans hst0 hs1)), rfl, ?_⟩
      rw [if_neg hlen]
      rfl
theorem asks_law (segs : List Seg) (dirty : Int) (c : Cfg) (now : Int) (s : HS) (hl : segs.length ≤ 9223372036854775807) (hin : ∀ x ∈ segs, InSeg x) :
    HC Try.prog 3 [rowL segC 1 segs, .lit (.int .i64 dirty), .agg (cfgC c), .lit (.int .i64 now)] s (fun v _ => v = .lit (.bool true)) := by
  refine HC3 ?_
  unfold c3
  have hb9 : hcells (.agg (cfgC c)) = some (cfgC c) := rfl
  unfold hBox
  rw [hb9]
  intro p0 hp0
  have hcfg := set_at s p0 (.cells (cfgC c))
  generalize s.set p0 (.cells (cfgC c)) = t0 at *
  refine Join.of (fun xs s' => s' = t0 ∧ ∃ g : Bool, xs = [.lit (.bool g)] ∧ (g = false → Mayy segs ∧ 0 ≤ now ∧ now ≤ 1125899906842624 ∧ 0 ≤ c.grace)) ?_ ?_
  rotate_left
  · intro K hK
    refine (may segs hl hin).mono ?_
    rintro v t1 ⟨rfl, g, rfl, hg⟩
    have kt : K [.lit (.bool true)] t1 := hK _ _ ⟨rfl, true, rfl, by simp⟩
    cases g with
    | false => simp only [bindO, hcond, vCmp, vBin, vUn, vExtract, if_true, List.headD_cons, List.tail_cons, Bool.not_true, Bool.not_false]; exact kt
    | true =>
      have hm := hg rfl
      simp only [bindO, hcond, vCmp, vBin, vUn, vExtract, if_true, List.headD_cons, List.tail_cons, Bool.not_true, Bool.not_false, vField, Nat.zero_add, load_at 6 hcfg, cfg6]
      by_cases h0 : dirty < 0
      · simp only [h0, decide_true]; exact kt
      by_cases h00 : dirty > 4611686018427387904
      · simp only [h0, h00, decide_true, decide_false]; exact kt
      by_cases h1 : now < 0
      · simp only [h0, h00, h1, decide_true, decide_false]; exact kt
      by_cases h2 : now > 1125899906842624
      · simp only [h0, h00, h1, h2, decide_true, decide_false]; exact kt
      by_cases h3 : c.grace < 0
      · simp only [h0, h00, h1, h2, h3, decide_true, decide_false]; exact kt
      simp only [h0, h00, h1, h2, h3, decide_false]
      exact hK _ _ ⟨rfl, _, rfl, fun _ => ⟨hm, by omega, by omega, by omega⟩⟩
  rintro xs s1 ⟨rfl, g, rfl, hg⟩
  simp only [bindO, hcond, vCmp, vBin, vUn, vExtract, if_true, List.headD_cons, List.tail_cons, Bool.not_true, Bool.not_false]
  cases g with
  | true => exact awake s1
  | false =>
  obtain ⟨hm, h2, h3, h4⟩ := hg rfl
  have hlS := hm.lenS
  have hlR := hm.lenR
  have hn20 := hm.n
  have hok := okB_of hm
  simp only [load_cfg hcfg]
  refine (all segs dirty c now (by omega) (by omega) hok).mono ?_
  rintro v s2 ⟨rfl, hv⟩
  have hlS0 := lenS_of (l := segs) (by omega) hok
  -- what both say
  have key : ∃ (a b : Option (List Seg)) (u k : Int), v = .tup [rowV segC 1 a, .lit (.int .i64 u), .lit (.int .i64 k)] ∧ (if segs.length < 2 then HV.tup [rowL segC 1 segs, .lit (.int .i64 dirty), .lit (.int .i64 0)] else
      .tup [segsV (refOuts (cleanMap segs dirty c.mm).1.1 (cleanMap segs dirty c.mm).2 now c.grace segs), .lit (.int .i64 (cleanMap segs dirty c.mm).2), .lit (.int .i64 (goneZ (cleanMap segs dirty c.mm).1.1 (cleanMap segs dirty c.mm).2 now c.grace (segs.take (segs.length - 1))))]) = .tup [rowV segC 1 b, .lit (.int .i64 u), .lit (.int .i64 k)] ∧
      all2 sameSeg (a.getD []) (b.getD []) = true ∧ (a.getD []).length ≤ 100 ∧ ∀ x ∈ a.getD [], LenS x := by
    by_cases hne : segs = []
    · subst hne
      rw [if_pos rfl] at hv
      exact ⟨none, some [], dirty, 0, hv, rfl, rfl, by simp, by simp⟩
    · rw [if_neg hne] at hv
      have hsame := refOuts_same (cleanMap segs dirty c.mm).1.1 (cleanMap segs dirty c.mm).2 now c.grace segs hne
      have hgone := goneF_all (cleanMap segs dirty c.mm).1.1 (cleanMap segs dirty c.mm).2 now c.grace segs hne (by omega)
      have hL := outs_len (cleanMap segs dirty c.mm).1.1 (cleanMap segs dirty c.mm).2 now c.grace (segs.length - 1) segs
      have hS := outs_lenS (cleanMap segs dirty c.mm).1.1 (cleanMap segs dirty c.mm).2 now c.grace (segs.length - 1) segs
      have hokO := okB_outs (M := (cleanMap segs dirty c.mm).1.1) (upto := (cleanMap segs dirty c.mm).2) (now := now) (grace := c.grace) (last := segs.length - 1) hok
      rw [hgone] at hv
      by_cases hlen : segs.length < 2
      · have h1 : segs.length - 1 = 0 := by omega
        have hcl : (cleanMap segs dirty c.mm).2 = dirty := by
          unfold cleanMap
          rw [h1]
          rfl
        have hg0 : goneZ (cleanMap segs dirty c.mm).1.1 (cleanMap segs dirty c.mm).2 now c.grace (segs.take (segs.length - 1)) = 0 := by rw [h1]; rfl
        rw [hg0, hcl] at hv
        rw [if_pos hlen]
        have hro : refOuts (cleanMap segs dirty c.mm).1.1 (cleanMap segs dirty c.mm).2 now c.grace segs = segs := by
          unfold refOuts
          have htk := take_succ' (none : Seg) segs (i := segs.length - 1) (by have := List.length_pos_iff.2 hne; omega)
          rw [show segs.length - 1 + 1 = segs.length by have := List.length_pos_iff.2 hne; omega, List.take_length] at htk
          conv => rhs; rw [htk]
          rw [h1]
          rfl
        rw [hro] at hsame
        rw [hcl] at hsame hL hS hokO
        exact ⟨orNil _, some segs, dirty, 0, hv, rfl, by rw [getD_orNil]; exact hsame, by rw [getD_orNil]; omega, by rw [getD_orNil]; exact lenS_of (by omega) hokO⟩
      · rw [if_neg hlen]
        exact ⟨orNil _, orNil _, _, _, hv, rfl, by rw [getD_orNil, getD_orNil]; exact hsame, by rw [getD_orNil]; omega, by rw [getD_orNil]; exact lenS_of (by omega) hokO⟩
  obtain ⟨a, b, u, k, rfl, he, hs, hal, hLs⟩ := key
  simp only [bindO, hcond, vCmp, vBin, vUn, vExtract, if_true, List.headD_cons, List.tail_cons, Bool.not_true, Bool.not_false, List.getElem?_cons_zero, List.getElem?_cons_succ, load_cfg hcfg]
  refine (refClean segs dirty c now hm h2 h3 h4).mono ?_
  rintro v s3 ⟨rfl, rfl⟩
  rw [he]
  have eu : (u == u) = true := beq_self_eq_true u
  have ek : (k == k) = true := beq_self_eq_true k
  simp only [bindO, hcond, vCmp, vBin, vUn, vExtract, if_true, List.headD_cons, List.tail_cons, Bool.not_true, Bool.not_false, List.getElem?_cons_zero, List.getElem?_cons_succ]
  refine (sameSegs a b (by omega) hLs).mono ?_
  rintro v s4 ⟨rfl, rfl⟩
  simp only [hs, eu, ek]
  exact awake s4
end Go.Proofs.Ytecnfekcflfihaa.CL

