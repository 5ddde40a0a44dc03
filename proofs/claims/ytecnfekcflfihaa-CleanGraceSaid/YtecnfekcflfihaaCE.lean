/- Clean over the H layer: the map that a cleaning builds. -/
import Derived.Test.YtecnfekcflfihaaCD
namespace Go.Proofs.Ytecnfekcflfihaa.CL
open Go.Proofs.Ytecnfekcflfihaa.H Go.Proofs.Ytecnfekcflfihaa.C0
set_option linter.unusedVariables false
set_option linter.unusedSimpArgs false
set_option maxRecDepth 100000

noncomputable def offF (most : Int) (g : (Value → Option Int) × Nat) (k : Value) (x : Int) : (Value → Option Int) × Nat :=
  match g.1 k with
  | some y => (put g.1 k (max x y), g.2)
  | none => if most ≤ (g.2 : Int) then g else (put g.1 k x, g.2 + 1)
theorem offer' {s : HS} {p mid : Nat} {most : Int} {g : (Value → Option Int) × Nat} (h : IsKM s p mid most g.1 g.2) (k : Option (List Int)) (x : Int) :
    HC Try.prog 52 [.ptr p 0, byV k, .lit (.int .i64 x)] s (fun v s' => s' = s.set mid (mapO (offF most g (kv k) x).1 (offF most g (kv k) x).2)) := by
  cases hM : g.1 (kv k) with
  | some y =>
    refine (offer h k x (.inr (by rw [hM]; rfl))).mono ?_
    rintro v s' ⟨-, rfl⟩
    simp [offF, hM]
  | none =>
    by_cases hr : most ≤ (g.2 : Int)
    · refine HC.weaken (HC52 ?_)
      have h1 := h.1
      have h2 := h.2
      have h0 : s.set mid (mapO g.1 g.2) = s := by
        funext q
        simp only [HS.set]
        split
        · rename_i e; rw [e, h.2]
        · rfl
      simp only [kmO, mapO] at h1 h2
      have h3 := toStr_by s k
      have h4 := isStr_by k
      have h5 := keyIs_kv k
      simp [c52, bindO, hcond, vCmp, vBin, vEq, vUn, vNil, vField, vLoad, takeCells, vIdx, vLenT, vLen, vExtract, hBS, hfill, hNew, hStore, hBox, hc_int, hc_bool, hc_string, hc_slice, hc_nilp, hc_nilm, hc_nilf, hc_agg, hc_list, hc_view, hc_ptr, hc_map, hc_func, ho_int, ho_bool, ho_string, ho_slice, ho_nilp, ho_nilm, ho_nilf, ho_list, ho_view, ho_ptr, ho_map, ho_func, putCells, hAppend, lcells, litCells, isNilS, llen, room, vMk, set_at, Join, vToInt, vSlice, cutAt, intAt, bl_len, bits64, bits64u, bits8, hfold, vMax2, vMin2, Try.underlying3, Try.underlying9, Try.underlying22, Try.underlying31, Try.underlying32, Try.underlying36, Try.underlying44, Try.underlying90, h1, h2, h3, h4, vLookup, hMapSet, h5, sameKey_str, hM, hr, offF]
      rw [h0]
      exact le_refl' s
    · refine (offer h k x (.inl (by omega))).mono ?_
      rintro v s' ⟨-, rfl⟩
      simp [offF, hM, hr]
noncomputable def offStep (most from_ : Int) (g : (Value → Option Int) × Nat) (r : Rec) : (Value → Option Int) × Nat := if r.hasKey = true ∧ from_ ≤ r.off then offF most g (kv r.key) r.off else g
/-- What Build comes to from a state on. -/
noncomputable def buildF (most from_ : Int) : List Bat → (Value → Option Int) × Nat → Int → ((Value → Option Int) × Nat) × Int
  | [], g, upto => (g, upto)
  | b :: l, g, upto =>
    if IntKind.i64.wrap ((g.2 : Int) + (freshF g.1 from_ (b.recs.getD [])).2) > most then (g, max b.base from_)
    else buildF most from_ l ((b.recs.getD []).foldl (offStep most from_) g) (max (IntKind.i64.wrap (b.last + 1)) from_)
theorem IsKM.set {t : HS} {p mid : Nat} {most : Int} {M M' : Value → Option Int} {n n' : Nat} (h : IsKM t p mid most M n) : IsKM (t.set mid (mapO M' n')) p mid most M' n' := by
  have hne : p ≠ mid := by
    rintro rfl
    have h1 := h.1
    rw [h.2] at h1
    simp [kmO, mapO] at h1
  exact ⟨by rw [set_ne _ _ hne]; exact h.1, set_at _ _ _⟩
theorem build (l : List Bat) (from_ most : Int) (s : HS) (hl : l.length ≤ 100000) (hs : ∀ b ∈ l, ∃ r, b.recs = some r ∧ r.length ≤ 100000) :
    HC Try.prog 19 [.list 6 l.length (batsC l) false, .lit (.int .i64 from_), .lit (.int .i64 most)] s (fun v s' => ∃ p mid, v = .tup [.ptr p 0, .lit (.int .i64 (buildF (min (max most 1) 1000000) from_ l (fun _ => none, 0) from_).2)] ∧ HS.le s s' ∧
      IsKM s' p mid (min (max most 1) 1000000) (buildF (min (max most 1) 1000000) from_ l (fun _ => none, 0) from_).1.1 (buildF (min (max most 1) 1000000) from_ l (fun _ => none, 0) from_).1.2) := by
  refine HC19 ?_
  have hlen : ∀ t, vLenT (Try.prog.underlying 31) t (.list 6 l.length (batsC l) false) = some (.lit (.int .i64 l.length)) := fun t => by simp [bindO, hcond, vCmp, vBin, vEq, vUn, vNil, vField, vLoad, takeCells, vIdx, vLenT, vLen, vExtract, hBS, hfill, hNew, hStore, hBox, hc_int, hc_bool, hc_string, hc_slice, hc_nilp, hc_nilm, hc_nilf, hc_agg, hc_list, hc_view, hc_ptr, hc_map, hc_func, ho_int, ho_bool, ho_string, ho_slice, ho_nilp, ho_nilm, ho_nilf, ho_list, ho_view, ho_ptr, ho_map, ho_func, putCells, hAppend, lcells, litCells, isNilS, llen, room, vMk, set_at, Join, vToInt, vSlice, cutAt, intAt, bl_len, bits64, bits64u, bits8, hfold, vMax2, vMin2, Try.underlying3, Try.underlying9, Try.underlying22, Try.underlying31, Try.underlying32, Try.underlying36, Try.underlying44, Try.underlying90]
  have hmm : (if 1000000 < (if 1 > most then 1 else most) then (1000000 : Int) else (if 1 > most then 1 else most)) = min (max most 1) 1000000 := by omega
  simp only [c19, hfold, vMax2, vMin2, bindO, Option.bind_some]
  have hw1 : 1 ≤ min (max most 1) 1000000 := by omega
  have hw2 : min (max most 1) 1000000 ≤ 1000000 := by omega
  have hmm' : (if 1000000 < (if 1 > most then 1 else most) then (1000000 : Int) else (if 1 > most then 1 else most)) = min (max most 1) 1000000 := hmm
  first | rw [hmm'] | skip
  have hmm2 : ∀ z : Int, (if (1000000 : Int) < z then (1000000 : Int) else z) = min z 1000000 := fun z => by omega
  have hmm3 : (if 1 > most then 1 else most) = max most 1 := by omega
  try simp only [hmm3, hmm2]
  generalize min (max most 1) 1000000 = W at *
  refine (new W s hw1 hw2).mono ?_
  rintro v s1 ⟨p, mid, hp, hmid, rfl, hs1, hkm⟩
  simp only [vExtract, List.getElem?_cons_zero, List.getElem?_cons_succ, hlen]
  simp only [Join]
  have hfin : ∀ (g : ((Value → Option Int) × Nat) × Int) t, HS.le s t → IsKM t p mid W g.1.1 g.1.2 → g = buildF W from_ l (fun _ => none, 0) from_ → (∃ p mid, HV.tup [.ptr p 0, .lit (.int .i64 (buildF W from_ l (fun _ => none, 0) from_).2)] = HV.tup [.ptr p 0, .lit (.int .i64 (buildF W from_ l (fun _ => none, 0) from_).2)] ∧ HS.le s t ∧ IsKM t p mid W (buildF W from_ l (fun _ => none, 0) from_).1.1 (buildF W from_ l (fun _ => none, 0) from_).1.2) := by
    rintro g t h1 h2 rfl
    exact ⟨p, mid, rfl, h1, h2⟩
  refine HLoop.ghost (σ := ((Value → Option Int) × Nat) × Int × Nat) (fun g => [.lit (.int .i64 g.2.1), .lit (.int .i64 g.2.2)]) (fun g t => g.2.2 ≤ l.length ∧ HS.le s t ∧ IsKM t p mid W g.1.1 g.1.2 ∧ buildF W from_ (l.drop g.2.2) g.1 g.2.1 = buildF W from_ l (fun _ => none, 0) from_) (fun g => l.length - g.2.2) ((fun _ => none, 0), from_, 0) rfl ⟨Nat.zero_le _, hs1, hkm, rfl⟩ ?_
  rintro ⟨g, upto, i⟩ t K ⟨hi, hst, hkt, hbf⟩ hK
  simp only at hi hst hkt hbf
  by_cases hlt : i < l.length
  · have hlt' : (i : Int) < (l.length : Int) := by omega
    have hix := batsC_idx l i hlt
    have hdc := drop_cons' b0 l hlt
    have hsm := hs (l.getD i b0) (by rw [List.getD, List.getElem?_eq_getElem hlt]; exact List.getElem_mem hlt)
    generalize l.getD i b0 = x at *
    obtain ⟨r, hr, hr1⟩ := hsm
    simp [bindO, hcond, vCmp, vBin, vUn, vField, takeCells, vLoad, vIdx, vExtract, hNew, hStore, hBox, hc_int, hc_bool, hc_agg, hc_list, hc_view, hc_ptr, ho_int, ho_bool, putCells, set_at, Join, batC_len, ho_batC, hcb, hc_recs, ho_recs, hlt', hlt, hix]
    intro X hX
    rw [set_set]
    have hat := set_at t X (.cells (batC x))
    have hle := le_set_new (.cells (batC x)) hst hX
    have hk1 := hkt.le (le_set_new (.cells (batC x)) (le_refl' t) hX)
    generalize t.set X (.cells (batC x)) = t1 at *
    have hp1 := hk1.1
    simp only [kmO] at hp1
    simp [bindO, hcond, vCmp, vBin, vUn, vField, takeCells, vLoad, vIdx, vExtract, hNew, hStore, hBox, hc_int, hc_bool, hc_agg, hc_list, hc_view, hc_ptr, ho_int, ho_bool, putCells, set_at, Join, batC_len, ho_batC, hcb, hc_recs, ho_recs, vNil, hp1]
    refine (len hk1).mono ?_
    rintro v s2 ⟨rfl, rfl⟩
    simp [hp1, hat, batC_len, hcb]
    refine (fresh hk1 x r hr hr1 from_).mono ?_
    rintro v s3 ⟨rfl, rfl⟩
    simp [hp1, hat]
    have x0 : (batC x)[0]? = some (.lit (.int .i64 x.base)) := rfl
    have x1 : (batC x)[1]? = some (.lit (.int .i64 x.last)) := rfl
    have x5 : (batC x)[5]? = some (recsV (some r)) := by rw [← hr]; rfl
    rw [hdc] at hbf
    by_cases hroom : W < IntKind.i64.wrap ((g.2 : Int) + ((freshF g.1 from_ r).2 : Nat))
    · simp only [buildF, hr, Option.getD_some, gt_iff_lt, if_pos hroom] at hbf
      simp [bindO, hcond, vCmp, vBin, vUn, vField, takeCells, vLoad, vIdx, vExtract, hNew, hStore, hBox, hc_int, hc_bool, hc_agg, hc_list, hc_view, hc_ptr, ho_int, ho_bool, putCells, set_at, Join, batC_len, ho_batC, hcb, hc_recs, ho_recs, hroom, x0]
      rw [← hbf]
      exact ⟨p, ⟨rfl, by show (if x.base < from_ then from_ else x.base) = max x.base from_; omega⟩, hle, mid, hk1⟩
    · simp only [buildF, hr, Option.getD_some, gt_iff_lt, if_neg hroom] at hbf
      have hl5 := len_recs (some r) s3
      simp only [Option.getD_some] at hl5
      simp [bindO, hcond, vCmp, vBin, vUn, vField, takeCells, vLoad, vIdx, vExtract, hNew, hStore, hBox, hc_int, hc_bool, hc_agg, hc_list, hc_view, hc_ptr, ho_int, ho_bool, putCells, set_at, Join, batC_len, ho_batC, hcb, hc_recs, ho_recs, hroom, x5, hl5]
      refine HLoop.ghost (σ := Nat) (fun j => [.lit (.int .i64 j)]) (fun j t => j ≤ r.length ∧ HS.le s t ∧ t X = some (.cells (batC x)) ∧ IsKM t p mid W ((r.take j).foldl (offStep W from_) g).1 ((r.take j).foldl (offStep W from_) g).2) (fun j => r.length - j) 0 rfl ⟨Nat.zero_le _, hle, hat, hk1⟩ ?_
      rintro j t2 K2 ⟨hj, hst2, hat2, hk2⟩ hK2
      by_cases hjl : j < r.length
      · have hjl' : (j : Int) < (r.length : Int) := by omega
        have hjx := recsC_idx r j hjl
        have hjt := take_succ' r0 r hjl
        generalize r.getD j r0 = y at *
        have hfo : (r.take (j + 1)).foldl (offStep W from_) g = offStep W from_ ((r.take j).foldl (offStep W from_) g) y := by rw [hjt]; simp
        generalize (r.take j).foldl (offStep W from_) g = g2 at *
        simp [bindO, hcond, vCmp, vBin, vUn, vField, takeCells, vLoad, vIdx, vExtract, hNew, hStore, hBox, hc_int, hc_bool, hc_agg, hc_list, hc_view, hc_ptr, ho_int, ho_bool, putCells, set_at, Join, batC_len, ho_batC, hcb, hc_recs, ho_recs, recsV, hjl', hjl, hjx, recC_len, ho_recC, hcz]
        intro Y hY
        rw [set_set]
        have y0 : (recC y)[0]? = some (.lit (.int .i64 y.off)) := rfl
        have y2 : (recC y)[2]? = some (.lit (.bool y.hasKey)) := rfl
        have y3 : (recC y)[3]? = some (byV y.key) := rfl
        have hk3 := hk2.le (le_set_new (.cells (recC y)) (le_refl' t2) hY)
        have hle3 := le_set_new (.cells (recC y)) hst2 hY
        have hat3 : (t2.set Y (.cells (recC y))) X = some (.cells (batC x)) := by rw [set_ne _ _ (ne_new hat2 hY)]; exact hat2
        generalize t2.set Y (.cells (recC y)) = t3 at *
        have hXm : X ≠ mid := by
          rintro rfl
          rw [hk3.2] at hat3
          simp [mapO] at hat3
        have hjw : IntKind.i64.wrap ((j : Int) + 1) = ((j + 1 : Nat) : Int) := by rw [w64 (by omega) (by omega)]; rfl
        have hskip : offStep W from_ g2 y = g2 → K2 [.lit (.int .i64 (IntKind.i64.wrap ((j : Int) + 1)))] t3 := by
          intro e
          refine hK2 (j + 1) _ _ (by rw [hjw]) ⟨hjl, hle3, hat3, ?_⟩ (by omega)
          rw [hfo, e]
          exact hk3
        cases hh : y.hasKey with
        | false =>
          simp [y2, hh]
          exact hskip (by simp [offStep, hh])
        | true =>
          by_cases hof : from_ ≤ y.off
          · simp [y0, y2, y3, hh, hof]
            refine (offer' hk3 y.key y.off).mono ?_
            rintro v s5 rfl
            refine hK2 (j + 1) _ _ (by rw [hjw]) ⟨hjl, le_set_free _ hle3 hmid, by rw [set_ne _ _ hXm]; exact hat3, ?_⟩ (by omega)
            rw [hfo, offStep, if_pos ⟨hh, hof⟩]
            exact hk3.set
          · simp [y0, y2, hh, hof]
            exact hskip (by simp [offStep, hof])
      · obtain rfl : j = r.length := by omega
        rw [List.take_length] at hk2
        simp [bindO, hcond, vCmp, vBin, vUn, vField, takeCells, vLoad, vIdx, vExtract, hNew, hStore, hBox, hc_int, hc_bool, hc_agg, hc_list, hc_view, hc_ptr, ho_int, ho_bool, putCells, set_at, Join, batC_len, ho_batC, hcb, hc_recs, ho_recs, hat2, x1]
        refine hK (r.foldl (offStep W from_) g, max (IntKind.i64.wrap (x.last + 1)) from_, i + 1) _ _ ?_ ⟨hlt, hst2, hk2, hbf⟩ (by show l.length - (i + 1) < l.length - i; omega)
        rw [w64 (x := (i : Int) + 1) (by omega) (by omega), show (if IntKind.i64.wrap (x.last + 1) < from_ then from_ else IntKind.i64.wrap (x.last + 1)) = max (IntKind.i64.wrap (x.last + 1)) from_ by omega]
        rfl
  · obtain rfl : i = l.length := by omega
    rw [List.drop_length] at hbf
    simp [bindO, hcond, vCmp, vBin, vUn, vField, takeCells, vLoad, vIdx, vExtract, hNew, hStore, hBox, hc_int, hc_bool, hc_agg, hc_list, hc_view, hc_ptr, ho_int, ho_bool, putCells, set_at, Join, batC_len, ho_batC, hcb, hc_recs, ho_recs]
    simp only [buildF] at hbf
    rw [← hbf]
    exact ⟨p, ⟨rfl, rfl⟩, hst, mid, hkt⟩
end Go.Proofs.Ytecnfekcflfihaa.CL
