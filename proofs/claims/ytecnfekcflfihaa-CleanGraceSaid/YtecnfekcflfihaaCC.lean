/- Clean over the H layer: a batch, a segment. -/
import Derived.Test.YtecnfekcflfihaaCB
namespace Go.Proofs.Ytecnfekcflfihaa.CL
open Go.Proofs.Ytecnfekcflfihaa.H Go.Proofs.Ytecnfekcflfihaa.C0
set_option linter.unusedVariables false
set_option linter.unusedSimpArgs false
set_option maxRecDepth 100000

def keptR (M : Value → Option Int) (upto now grace : Int) (l : List Rec) : List Rec := l.filter fun r => stays r M upto now grace
def orNil {α : Type} (l : List α) : Option (List α) := match l with | [] => none | x :: r => some (x :: r)
theorem batch {s : HS} {p mid : Nat} {most : Int} {M : Value → Option Int} {n : Nat} (h : IsKM s p mid most M n) (b : Bat) (l : List Rec) (hb : b.recs = some l) (hl : l.length ≤ 100000) (hs : ∀ r ∈ l, ShortR r) (upto now grace : Int) :
    HC Try.prog 23 [.agg (batC b), .ptr p 0, .lit (.int .i64 upto), .lit (.int .i64 now), .lit (.int .i64 grace)] s (fun v s' => v = .tup [.agg (batC { b with recs := orNil (keptR M upto now grace l) }), .lit (.bool (decide (keptR M upto now grace l ≠ [])))] ∧ s' = s) := by
  obtain ⟨c0, c1, c2, c3, c4, recs⟩ := b
  simp only at hb
  subst hb
  refine HC.up (HC23 ?_)
  simp [c23, bindO, hcond, vCmp, vBin, vEq, vUn, vNil, vField, vLoad, takeCells, vIdx, vLenT, vLen, vExtract, hNew, hStore, hBox, hc_int, hc_bool, hc_string, hc_slice, hc_nilp, hc_nilm, hc_nilf, hc_agg, hc_list, hc_view, hc_ptr, hc_map, hc_func, ho_int, ho_bool, ho_string, ho_slice, ho_nilp, ho_nilm, ho_nilf, ho_list, ho_view, ho_ptr, ho_map, ho_func, putCells, lcells, litCells, isNilS, llen, room, vMk, set_at, Join, vToInt, vSlice, cutAt, intAt, bl_len, bits64, bits64u, bits8, hfold, vMax2, vMin2, Try.underlying3, Try.underlying9, Try.underlying22, Try.underlying31, Try.underlying32, Try.underlying36, Try.underlying44, Try.underlying90, recC_len, ho_recC, hcz, batC, recsV]
  intro p1 h1 p3 h3
  have n13 := ne_new (set_at s p1 _) h3
  simp only [set_none_iff] at h3
  obtain ⟨-, h3⟩ := h3
  simp [bindO, hcond, vCmp, vBin, vEq, vUn, vNil, vField, vLoad, takeCells, vIdx, vLenT, vLen, vExtract, hNew, hStore, hBox, hc_int, hc_bool, hc_string, hc_slice, hc_nilp, hc_nilm, hc_nilf, hc_agg, hc_list, hc_view, hc_ptr, hc_map, hc_func, ho_int, ho_bool, ho_string, ho_slice, ho_nilp, ho_nilm, ho_nilf, ho_list, ho_view, ho_ptr, ho_map, ho_func, putCells, lcells, litCells, isNilS, llen, room, vMk, set_at, Join, vToInt, vSlice, cutAt, intAt, bl_len, bits64, bits64u, bits8, hfold, vMax2, vMin2, Try.underlying3, Try.underlying9, Try.underlying22, Try.underlying31, Try.underlying32, Try.underlying36, Try.underlying44, Try.underlying90, recC_len, ho_recC, hcz, set_ne _ _ n13]
  intro p6 h6
  have h6' := h6
  simp only [set_none_iff] at h6'
  obtain ⟨n63, n61, h6'⟩ := h6'
  simp [bindO, hcond, vCmp, vBin, vEq, vUn, vNil, vField, vLoad, takeCells, vIdx, vLenT, vLen, vExtract, hNew, hStore, hBox, hc_int, hc_bool, hc_string, hc_slice, hc_nilp, hc_nilm, hc_nilf, hc_agg, hc_list, hc_view, hc_ptr, hc_map, hc_func, ho_int, ho_bool, ho_string, ho_slice, ho_nilp, ho_nilm, ho_nilf, ho_list, ho_view, ho_ptr, ho_map, ho_func, putCells, lcells, litCells, isNilS, llen, room, vMk, set_at, Join, vToInt, vSlice, cutAt, intAt, bl_len, bits64, bits64u, bits8, hfold, vMax2, vMin2, Try.underlying3, Try.underlying9, Try.underlying22, Try.underlying31, Try.underlying32, Try.underlying36, Try.underlying44, Try.underlying90, recC_len, ho_recC, hcz, set_ne _ _ n13, set_ne _ _ (Ne.symm n63), set_ne _ _ (Ne.symm n61)]
  obtain ⟨Z, hZ⟩ : ∃ Z, HObj.cells [.lit (.int .i64 0), .lit (.int .i64 0), .lit (.int .i64 0), .lit (.int .i64 0), .lit (.int .i64 0), .lit (.slice none 0 0)] = Z := ⟨_, rfl⟩
  rw [hZ] at h6 ⊢
  obtain ⟨B, hB⟩ : ∃ B, (s.set p1 (HObj.cells [.lit (.int .i64 c0), .lit (.int .i64 c1), .lit (.int .i64 c2), .lit (.int .i64 c3), .lit (.int .i64 c4), .list 6 l.length (recsC l) false])).set p3 Z = B := ⟨_, rfl⟩
  have hsB : HS.le s B := by rw [← hB]; exact le_set_new _ (le_set_new _ (le_refl' s) h1) (by rw [set_ne _ _ (Ne.symm n13)]; exact h3)
  have hB3 : B p3 = some Z := by rw [← hB, set_at]
  rw [hB] at h6 ⊢
  rw [set_set, set_set]
  clear hB
  have hcut : ∀ o : List Rec, (recsC o).take (o.length * 6) = recsC o := fun o => List.take_of_length_le (by rw [recsC_len]; exact Nat.le_refl _)
  refine HLoop.ghost (σ := HV × Nat) (fun g => [.lit (.int .i64 g.2)]) (fun g t => g.2 ≤ l.length ∧ HS.le B t ∧ t p6 = some (.cells [.lit (.int .i64 c0), .lit (.int .i64 c1), .lit (.int .i64 c2), .lit (.int .i64 c3), .lit (.int .i64 c4), g.1]) ∧ OutR B t p6 g.1 (keptR M upto now grace (l.take g.2))) (fun g => l.length - g.2) (.lit (.slice none 0 0), 0) rfl ?_ ?_
  · exact ⟨Nat.zero_le _, le_set_free _ (le_refl' B) h6, by rw [set_at], .inl ⟨rfl, rfl⟩⟩
  · rintro ⟨A, i⟩ t K ⟨hi, hst, htp, ho⟩ hK
    simp only at hi hst htp ho
    by_cases hlt : i < l.length
    · have hlt' : (i : Int) < (l.length : Int) := by omega
      have hix := recsC_idx l i hlt
      have hts := take_succ' r0 l hlt
      have hsm := hs (l.getD i r0) (by rw [List.getD, List.getElem?_eq_getElem hlt]; exact List.getElem_mem hlt)
      generalize l.getD i r0 = x at *
      simp [bindO, hcond, vCmp, vBin, vEq, vUn, vNil, vField, vLoad, takeCells, vIdx, vLenT, vLen, vExtract, hNew, hStore, hBox, hc_int, hc_bool, hc_string, hc_slice, hc_nilp, hc_nilm, hc_nilf, hc_agg, hc_list, hc_view, hc_ptr, hc_map, hc_func, ho_int, ho_bool, ho_string, ho_slice, ho_nilp, ho_nilm, ho_nilf, ho_list, ho_view, ho_ptr, ho_map, ho_func, putCells, lcells, litCells, isNilS, llen, room, vMk, set_at, Join, vToInt, vSlice, cutAt, intAt, bl_len, bits64, bits64u, bits8, hfold, vMax2, vMin2, Try.underlying3, Try.underlying9, Try.underlying22, Try.underlying31, Try.underlying32, Try.underlying36, Try.underlying44, Try.underlying90, recC_len, ho_recC, hcz, hlt', hlt, hix]
      intro X hX
      have nX := ne_new htp hX
      rw [set_set]
      have hkm := (h.le (HS.le.trans hsB hst)).le (le_set_new (.cells (recC x)) (le_refl' t) hX)
      refine (record hkm x upto now grace).mono ?_
      rintro v s1 ⟨rfl, rfl⟩
      have hkl : keptR M upto now grace (l.take (i + 1)) = keptR M upto now grace (l.take i) ++ (if stays x M upto now grace then [x] else []) := by
        rw [hts]
        unfold keptR
        rw [List.filter_append]
        simp only [List.filter]
        split <;> simp_all
      cases hstay : stays x M upto now grace with
      | false =>
        simp [bindO, hcond, vCmp, vBin, vEq, vUn, vNil, vField, vLoad, takeCells, vIdx, vLenT, vLen, vExtract, hNew, hStore, hBox, hc_int, hc_bool, hc_string, hc_slice, hc_nilp, hc_nilm, hc_nilf, hc_agg, hc_list, hc_view, hc_ptr, hc_map, hc_func, ho_int, ho_bool, ho_string, ho_slice, ho_nilp, ho_nilm, ho_nilf, ho_list, ho_view, ho_ptr, ho_map, ho_func, putCells, lcells, litCells, isNilS, llen, room, vMk, set_at, Join, vToInt, vSlice, cutAt, intAt, bl_len, bits64, bits64u, bits8, hfold, vMax2, vMin2, Try.underlying3, Try.underlying9, Try.underlying22, Try.underlying31, Try.underlying32, Try.underlying36, Try.underlying44, Try.underlying90, recC_len, ho_recC, hcz]
        refine hK (A, i + 1) _ _ (by rw [w64 (by omega) (by omega)]; rfl) ⟨hlt, le_set_new _ hst hX, by rw [set_ne _ _ nX]; exact htp, ?_⟩ (by show l.length - (i + 1) < l.length - i; omega)
        rw [hkl, hstay]
        simp
        exact ho.keep fun k ob _ h => by rw [set_ne _ _ (ne_new h hX)]; exact h
      | true =>
        simp [bindO, hcond, vCmp, vBin, vEq, vUn, vNil, vField, vLoad, takeCells, vIdx, vLenT, vLen, vExtract, hNew, hStore, hBox, hc_int, hc_bool, hc_string, hc_slice, hc_nilp, hc_nilm, hc_nilf, hc_agg, hc_list, hc_view, hc_ptr, hc_map, hc_func, ho_int, ho_bool, ho_string, ho_slice, ho_nilp, ho_nilm, ho_nilf, ho_list, ho_view, ho_ptr, ho_map, ho_func, putCells, lcells, litCells, isNilS, llen, room, vMk, set_at, Join, vToInt, vSlice, cutAt, intAt, bl_len, bits64, bits64u, bits8, hfold, vMax2, vMin2, Try.underlying3, Try.underlying9, Try.underlying22, Try.underlying31, Try.underlying32, Try.underlying36, Try.underlying44, Try.underlying90, recC_len, ho_recC, hcz, htp, set_ne _ _ nX]
        refine (own x _ hsm.1 hsm.2).mono ?_
        rintro v s1 ⟨rfl, rfl⟩
        simp [bindO, hcond, vCmp, vBin, vEq, vUn, vNil, vField, vLoad, takeCells, vIdx, vLenT, vLen, vExtract, hNew, hStore, hBox, hc_int, hc_bool, hc_string, hc_slice, hc_nilp, hc_nilm, hc_nilf, hc_agg, hc_list, hc_view, hc_ptr, hc_map, hc_func, ho_int, ho_bool, ho_string, ho_slice, ho_nilp, ho_nilm, ho_nilf, ho_list, ho_view, ho_ptr, ho_map, ho_func, putCells, lcells, litCells, isNilS, llen, room, vMk, set_at, Join, vToInt, vSlice, cutAt, intAt, bl_len, bits64, bits64u, bits8, hfold, vMax2, vMin2, Try.underlying3, Try.underlying9, Try.underlying22, Try.underlying31, Try.underlying32, Try.underlying36, Try.underlying44, Try.underlying90, recC_len, ho_recC, hcz, htp, set_ne _ _ nX]
        refine outR_append (b := B) (p := p6) (o := keptR M upto now grace (l.take i)) (r := x) (ob := _) ?_ (le_set_new _ hst hX) h6 (by rw [set_ne _ _ nX]; exact htp) ?_ ?_ ?_
        · exact ho.keep fun k ob _ h => by rw [set_ne _ _ (ne_new h hX)]; exact h
        · exact Nat.le_trans (List.length_filter_le _ _) (by rw [List.length_take]; omega)
        · intro s2 h2
          simp [h2]
        · intro A' t' g1 g2 g3
          have ho1 := g1.one
          simp [bindO, hcond, vCmp, vBin, vEq, vUn, vNil, vField, vLoad, takeCells, vIdx, vLenT, vLen, vExtract, hNew, hStore, hBox, hc_int, hc_bool, hc_string, hc_slice, hc_nilp, hc_nilm, hc_nilf, hc_agg, hc_list, hc_view, hc_ptr, hc_map, hc_func, ho_int, ho_bool, ho_string, ho_slice, ho_nilp, ho_nilm, ho_nilf, ho_list, ho_view, ho_ptr, ho_map, ho_func, putCells, lcells, litCells, isNilS, llen, room, vMk, set_at, Join, vToInt, vSlice, cutAt, intAt, bl_len, bits64, bits64u, bits8, hfold, vMax2, vMin2, Try.underlying3, Try.underlying9, Try.underlying22, Try.underlying31, Try.underlying32, Try.underlying36, Try.underlying44, Try.underlying90, recC_len, ho_recC, hcz, g3, ho1.1, ho1.2]
          refine hK (A', i + 1) _ _ (by rw [w64 (by omega) (by omega)]; rfl) ⟨hlt, le_set_free _ g2 h6, set_at _ _ _, ?_⟩ (by show l.length - (i + 1) < l.length - i; omega)
          rw [hkl, hstay]
          exact g1.keep fun k ob hk h => by rw [set_ne _ _ hk]; exact h
    · obtain rfl : i = l.length := by omega
      rw [List.take_length] at ho
      generalize keptR M upto now grace l = o at *
      have htq : t p3 = some Z := hst p3 Z hB3
      rw [← hZ] at htq
      have hsf : ∀ ob, HS.le s (t.set p3 ob) := fun ob => le_set_free _ (HS.le.trans hsB hst) h3
      rcases ho with ⟨rfl, rfl⟩ | ⟨k, g1, g2, rfl, g3, g4⟩
      · simp [bindO, hcond, vCmp, vBin, vEq, vUn, vNil, vField, vLoad, takeCells, vIdx, vLenT, vLen, vExtract, hNew, hStore, hBox, hc_int, hc_bool, hc_string, hc_slice, hc_nilp, hc_nilm, hc_nilf, hc_agg, hc_list, hc_view, hc_ptr, hc_map, hc_func, ho_int, ho_bool, ho_string, ho_slice, ho_nilp, ho_nilm, ho_nilf, ho_list, ho_view, ho_ptr, ho_map, ho_func, putCells, lcells, litCells, isNilS, llen, room, vMk, set_at, Join, vToInt, vSlice, cutAt, intAt, bl_len, bits64, bits64u, bits8, hfold, vMax2, vMin2, Try.underlying3, Try.underlying9, Try.underlying22, Try.underlying31, Try.underlying32, Try.underlying36, Try.underlying44, Try.underlying90, recC_len, ho_recC, hcz, htp, htq, set_ne _ _ n63, orNil]
        exact UpL.le _ (hsf _)
      · have hk3 : k ≠ p3 := by rintro rfl; rw [hB3] at g1; cases g1
        have hpos : 0 < o.length := List.length_pos_iff.2 g4
        have horn : orNil o = some o := by cases o with | nil => exact absurd rfl g4 | cons => rfl
        simp [bindO, hcond, vCmp, vBin, vEq, vUn, vNil, vField, vLoad, takeCells, vIdx, vLenT, vLen, vExtract, hNew, hStore, hBox, hc_int, hc_bool, hc_string, hc_slice, hc_nilp, hc_nilm, hc_nilf, hc_agg, hc_list, hc_view, hc_ptr, hc_map, hc_func, ho_int, ho_bool, ho_string, ho_slice, ho_nilp, ho_nilm, ho_nilf, ho_list, ho_view, ho_ptr, ho_map, ho_func, putCells, lcells, litCells, isNilS, llen, room, vMk, set_at, Join, vToInt, vSlice, cutAt, intAt, bl_len, bits64, bits64u, bits8, hfold, vMax2, vMin2, Try.underlying3, Try.underlying9, Try.underlying22, Try.underlying31, Try.underlying32, Try.underlying36, Try.underlying44, Try.underlying90, recC_len, ho_recC, hcz, htp, htq, set_ne _ _ n63, horn, hpos, g4]
        have hks : s k = none := none_of_le hsB g1
        have hu := UpL.frzD (xs := [.tup [.agg [.lit (.int .i64 c0), .lit (.int .i64 c1), .lit (.int .i64 c2), .lit (.int .i64 c3), .lit (.int .i64 c4), .view k 0 6 o.length false], .lit (.bool true)]]) (s := t.set p3 (.cells [.lit (.int .i64 c0), .lit (.int .i64 c1), .lit (.int .i64 c2), .lit (.int .i64 c3), .lit (.int .i64 c4), .view k 0 6 o.length false])) (s' := s) (by rw [set_ne _ _ hk3]; exact g3) (hsf _) hks
        simpa [frz2, frz1, frz0, phi, recsC_len, hcut] using hu
end Go.Proofs.Ytecnfekcflfihaa.CL
