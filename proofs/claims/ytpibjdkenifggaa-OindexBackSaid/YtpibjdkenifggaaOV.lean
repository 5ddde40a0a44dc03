/- OindexBack over the H layer: Encode, Decode, and what the law asks. -/
import Derived.Test.YtpibjdkenifggaaOW
namespace Go.Proofs.Ytpibjdkenifggaa.OW
open Go.Proofs.Ytpibjdkenifggaa.H Go.Proofs.Ytpibjdkenifggaa.C0
set_option linter.unusedVariables false
set_option linter.unusedSimpArgs false
set_option maxRecDepth 100000
def lastO (a b : Int) : HObj := .cells [.lit (.int .i64 a), .lit (.int .i64 b)]
/-- What Encode gives. -/
def encV (l : List (Int × Int)) : HV := if okE (-1) (-1) l then .tup [.list 1 (16 * l.length) (bl (encE l)) false, .lit (.int .i64 0)] else .tup [.lit (.slice none 0 0), .lit (.int .i64 1)]
/-- A row of entries, in whatever form. -/
def Ent (s : HS) (A : HV) (l : List (Int × Int)) : Prop :=
  (∀ t, vLenT (Try.prog.underlying 72) t A = some (.lit (.int .i64 l.length))) ∧ ∀ i : Nat, i < l.length → ∃ e, vIdx 2 A (.lit (.int .i64 i)) = some e ∧ (∀ t, HS.le s t → vLoad t e 2 true = some (.agg [.lit (.int .i64 (l.getD i (0, 0)).1), .lit (.int .i64 (l.getD i (0, 0)).2)])) ∧
    ∃ e0 e1, vField 0 e = some e0 ∧ vField 1 e = some e1 ∧ (∀ t, HS.le s t → vLoad t e0 1 false = some (.lit (.int .i64 (l.getD i (0, 0)).1))) ∧ (∀ t, HS.le s t → vLoad t e1 1 false = some (.lit (.int .i64 (l.getD i (0, 0)).2)))
theorem Ent.list (s : HS) (l : List (Int × Int)) (f : Bool) : Ent s (.list 2 l.length (el l) f) l := by
  refine ⟨fun t => by simp [bindO, hcond, vCmp, vBin, vEq, vUn, vNil, vField, vLoad, takeCells, vIdx, vLenT, vLen, vExtract, hBS, hfill, hNew, hStore, hBox, hc_int, hc_bool, hc_string, hc_slice, hc_nilp, hc_nilm, hc_nilf, hc_agg, hc_list, hc_view, hc_ptr, hc_map, hc_func, ho_int, ho_bool, ho_string, ho_slice, ho_nilp, ho_nilm, ho_nilf, ho_list, ho_view, ho_ptr, ho_map, ho_func, putCells, hAppend, lcells, litCells, isNilS, llen, room, vMk, set_at, Join, vToInt, vSlice, cutAt, intAt, bl_len, bits64, bits64u, bits8, Try.underlying3, Try.underlying24, Try.underlying29, Try.underlying70, Try.underlying72, Try.underlying119, Try.underlying128], fun i hi => ?_⟩
  have hi' : (i : Int) < (l.length : Int) := by omega
  have h1 := el_idx l i hi
  generalize l.getD i (0, 0) = x at *
  simp [bindO, hcond, vCmp, vBin, vEq, vUn, vNil, vField, vLoad, takeCells, vIdx, vLenT, vLen, vExtract, hBS, hfill, hNew, hStore, hBox, hc_int, hc_bool, hc_string, hc_slice, hc_nilp, hc_nilm, hc_nilf, hc_agg, hc_list, hc_view, hc_ptr, hc_map, hc_func, ho_int, ho_bool, ho_string, ho_slice, ho_nilp, ho_nilm, ho_nilf, ho_list, ho_view, ho_ptr, ho_map, ho_func, putCells, hAppend, lcells, litCells, isNilS, llen, room, vMk, set_at, Join, vToInt, vSlice, cutAt, intAt, bl_len, bits64, bits64u, bits8, Try.underlying3, Try.underlying24, Try.underlying29, Try.underlying70, Try.underlying72, Try.underlying119, Try.underlying128, hi', hi, h1]
theorem Ent.view {s : HS} {l : List (Int × Int)} {id : Nat} (h : s id = some (.cells (el l))) (full : Bool) : Ent s (.view id 0 2 l.length full) l := by
  refine ⟨fun t => by simp [bindO, hcond, vCmp, vBin, vEq, vUn, vNil, vField, vLoad, takeCells, vIdx, vLenT, vLen, vExtract, hBS, hfill, hNew, hStore, hBox, hc_int, hc_bool, hc_string, hc_slice, hc_nilp, hc_nilm, hc_nilf, hc_agg, hc_list, hc_view, hc_ptr, hc_map, hc_func, ho_int, ho_bool, ho_string, ho_slice, ho_nilp, ho_nilm, ho_nilf, ho_list, ho_view, ho_ptr, ho_map, ho_func, putCells, hAppend, lcells, litCells, isNilS, llen, room, vMk, set_at, Join, vToInt, vSlice, cutAt, intAt, bl_len, bits64, bits64u, bits8, Try.underlying3, Try.underlying24, Try.underlying29, Try.underlying70, Try.underlying72, Try.underlying119, Try.underlying128], fun i hi => ?_⟩
  have hi' : (i : Int) < (l.length : Int) := by omega
  have h1 := el_idx l i hi
  generalize l.getD i (0, 0) = x at *
  have h3 : i * 2 + 2 ≤ (el l).length := by rw [el_len]; omega
  have h4 : (el l)[i * 2]? = some (.lit (.int .i64 x.1)) := by
    have := congrArg (fun z => z[0]?) h1
    simpa using this
  have h5 : (el l)[i * 2 + 1]? = some (.lit (.int .i64 x.2)) := by
    have := congrArg (fun z => z[1]?) h1
    simpa using this
  simp [vIdx, vField, hi', hi]
  refine ⟨fun t ht => ?_, fun t ht => ?_, fun t ht => ?_⟩
  · have h2 := ht _ _ h
    simp [bindO, hcond, vCmp, vBin, vEq, vUn, vNil, vField, vLoad, takeCells, vIdx, vLenT, vLen, vExtract, hBS, hfill, hNew, hStore, hBox, hc_int, hc_bool, hc_string, hc_slice, hc_nilp, hc_nilm, hc_nilf, hc_agg, hc_list, hc_view, hc_ptr, hc_map, hc_func, ho_int, ho_bool, ho_string, ho_slice, ho_nilp, ho_nilm, ho_nilf, ho_list, ho_view, ho_ptr, ho_map, ho_func, putCells, hAppend, lcells, litCells, isNilS, llen, room, vMk, set_at, Join, vToInt, vSlice, cutAt, intAt, bl_len, bits64, bits64u, bits8, Try.underlying3, Try.underlying24, Try.underlying29, Try.underlying70, Try.underlying72, Try.underlying119, Try.underlying128, h2, h1, h3]
  · have h2 := ht _ _ h
    simp [bindO, hcond, vCmp, vBin, vEq, vUn, vNil, vField, vLoad, takeCells, vIdx, vLenT, vLen, vExtract, hBS, hfill, hNew, hStore, hBox, hc_int, hc_bool, hc_string, hc_slice, hc_nilp, hc_nilm, hc_nilf, hc_agg, hc_list, hc_view, hc_ptr, hc_map, hc_func, ho_int, ho_bool, ho_string, ho_slice, ho_nilp, ho_nilm, ho_nilf, ho_list, ho_view, ho_ptr, ho_map, ho_func, putCells, hAppend, lcells, litCells, isNilS, llen, room, vMk, set_at, Join, vToInt, vSlice, cutAt, intAt, bl_len, bits64, bits64u, bits8, Try.underlying3, Try.underlying24, Try.underlying29, Try.underlying70, Try.underlying72, Try.underlying119, Try.underlying128, h2, h4]
  · have h2 := ht _ _ h
    simp [bindO, hcond, vCmp, vBin, vEq, vUn, vNil, vField, vLoad, takeCells, vIdx, vLenT, vLen, vExtract, hBS, hfill, hNew, hStore, hBox, hc_int, hc_bool, hc_string, hc_slice, hc_nilp, hc_nilm, hc_nilf, hc_agg, hc_list, hc_view, hc_ptr, hc_map, hc_func, ho_int, ho_bool, ho_string, ho_slice, ho_nilp, ho_nilm, ho_nilf, ho_list, ho_view, ho_ptr, ho_map, ho_func, putCells, hAppend, lcells, litCells, isNilS, llen, room, vMk, set_at, Join, vToInt, vSlice, cutAt, intAt, bl_len, bits64, bits64u, bits8, Try.underlying3, Try.underlying24, Try.underlying29, Try.underlying70, Try.underlying72, Try.underlying119, Try.underlying128, h2, h5]
theorem Ent.nil (s : HS) : Ent s (.lit (.slice none 0 0)) [] := ⟨fun t => by simp [bindO, hcond, vCmp, vBin, vEq, vUn, vNil, vField, vLoad, takeCells, vIdx, vLenT, vLen, vExtract, hBS, hfill, hNew, hStore, hBox, hc_int, hc_bool, hc_string, hc_slice, hc_nilp, hc_nilm, hc_nilf, hc_agg, hc_list, hc_view, hc_ptr, hc_map, hc_func, ho_int, ho_bool, ho_string, ho_slice, ho_nilp, ho_nilm, ho_nilf, ho_list, ho_view, ho_ptr, ho_map, ho_func, putCells, hAppend, lcells, litCells, isNilS, llen, room, vMk, set_at, Join, vToInt, vSlice, cutAt, intAt, bl_len, bits64, bits64u, bits8, Try.underlying3, Try.underlying24, Try.underlying29, Try.underlying70, Try.underlying72, Try.underlying119, Try.underlying128], fun i hi => by simp at hi⟩
theorem encodeG {A : HV} {l : List (Int × Int)} {s : HS} (hE : Ent s A l) (hl : l.length ≤ 300) : HC Try.prog 38 [A] s (fun v s' => v = encV l ∧ s' = s) := by
  refine HC.weaken (HC38 ?_)
  have hlen := hE.1
  simp only [Try.underlying72] at hlen
  simp [c38, bindO, hcond, vCmp, vBin, vEq, vUn, vNil, vField, takeCells, vLen, vExtract, hBS, hfill, hNew, hStore, hBox, hc_int, hc_bool, hc_string, hc_slice, hc_nilp, hc_nilm, hc_nilf, hc_agg, hc_list, hc_view, hc_ptr, hc_map, hc_func, ho_int, ho_bool, ho_string, ho_slice, ho_nilp, ho_nilm, ho_nilf, ho_list, ho_view, ho_ptr, ho_map, ho_func, putCells, hAppend, lcells, litCells, isNilS, llen, room, vMk, set_at, Join, vToInt, vSlice, cutAt, intAt, bl_len, bits64, bits64u, bits8, Try.underlying3, Try.underlying24, Try.underlying29, Try.underlying70, Try.underlying72, Try.underlying119, Try.underlying128, hlen]
  intro p hp L hL
  have hpL : p ≠ L := ne_new (set_at s p _) hL
  simp only [set_none_iff] at hL
  refine HLoop.ghost (fun g : Nat × Int × Int => [.lit (.int .i64 g.1)]) (fun g t => g.1 ≤ l.length ∧ -1 ≤ g.2.1 ∧ -1 ≤ g.2.2 ∧ okE g.2.1 g.2.2 (l.drop g.1) = okE (-1) (-1) l ∧ IsW (s.set L (lastO g.2.1 g.2.2)) t p (encE (l.take g.1))) (fun g => l.length - g.1) (0, -1, -1) rfl ?_ ?_
  · refine ⟨Nat.zero_le _, by decide, by decide, rfl, ?_⟩
    rw [set_set]
    have := (IsW.new hp).setNew (lastO (-1) (-1)) (x := L) (by rw [set_none_iff]; exact hL)
    exact this
  · rintro ⟨i, a, b⟩ t K ⟨hi, ha, hb, hok, hI⟩ hK
    simp only at hi ha hb hok hI
    have hLt : t L = some (lastO a b) := hI.1 L _ (set_at _ _ _)
    by_cases hlt : i < l.length
    · have hlt' : (i : Int) < (l.length : Int) := by omega
      obtain ⟨e, he, hld, -⟩ := hE.2 i hlt
      have hix := hld t (HS.le.trans (le_set_new _ (le_refl' s) hL.2) hI.1)
      have hdc := drop_cons' (0, 0) l hlt
      have hts := take_succ' (0, 0) l hlt
      generalize l.getD i (0, 0) = x at *
      obtain ⟨x0, x1⟩ := x
      simp only at hix
      simp [bindO, hcond, vCmp, vBin, vEq, vUn, vNil, vField, takeCells, vLen, vExtract, hBS, hfill, hNew, hStore, hBox, hc_int, hc_bool, hc_string, hc_slice, hc_nilp, hc_nilm, hc_nilf, hc_agg, hc_list, hc_view, hc_ptr, hc_map, hc_func, ho_int, ho_bool, ho_string, ho_slice, ho_nilp, ho_nilm, ho_nilf, ho_list, ho_view, ho_ptr, ho_map, ho_func, putCells, hAppend, lcells, litCells, isNilS, llen, room, vMk, set_at, Join, vToInt, vSlice, cutAt, intAt, bl_len, bits64, bits64u, bits8, Try.underlying3, Try.underlying24, Try.underlying29, Try.underlying70, Try.underlying72, Try.underlying119, Try.underlying128, hlt', hlt, he, hix]
      intro X hX
      have nL := ne_new hLt hX
      have hIX := hI.setNew (lastO x0 x1) hX
      simp only [lastO] at hLt
      simp [bindO, hcond, vCmp, vBin, vEq, vUn, vNil, vField, vLoad, takeCells, vIdx, vLenT, vLen, vExtract, hBS, hfill, hNew, hStore, hBox, hc_int, hc_bool, hc_string, hc_slice, hc_nilp, hc_nilm, hc_nilf, hc_agg, hc_list, hc_view, hc_ptr, hc_map, hc_func, ho_int, ho_bool, ho_string, ho_slice, ho_nilp, ho_nilm, ho_nilf, ho_list, ho_view, ho_ptr, ho_map, ho_func, putCells, hAppend, lcells, litCells, isNilS, llen, room, vMk, set_at, Join, vToInt, vSlice, cutAt, intAt, bl_len, bits64, bits64u, bits8, Try.underlying3, Try.underlying24, Try.underlying29, Try.underlying70, Try.underlying72, Try.underlying119, Try.underlying128, hLt, set_ne _ _ nL]
      rw [set_set]
      by_cases hx0 : x0 ≤ a
      · have hno : okE (-1) (-1) l = false := by rw [← hok, hdc]; simp [okE, hx0]
        simp [bindO, hcond, vCmp, vBin, vEq, vUn, vNil, vField, vLoad, takeCells, vIdx, vLenT, vLen, vExtract, hBS, hfill, hNew, hStore, hBox, hc_int, hc_bool, hc_string, hc_slice, hc_nilp, hc_nilm, hc_nilf, hc_agg, hc_list, hc_view, hc_ptr, hc_map, hc_func, ho_int, ho_bool, ho_string, ho_slice, ho_nilp, ho_nilm, ho_nilf, ho_list, ho_view, ho_ptr, ho_map, ho_func, putCells, hAppend, lcells, litCells, isNilS, llen, room, vMk, set_at, Join, vToInt, vSlice, cutAt, intAt, bl_len, bits64, bits64u, bits8, Try.underlying3, Try.underlying24, Try.underlying29, Try.underlying70, Try.underlying72, Try.underlying119, Try.underlying128, hx0, encV, hno]
        exact le_set_new _ (HS.le.trans (le_set_new _ (le_refl' s) hL.2) hI.1) hX
      · by_cases hx1 : x1 ≤ b
        · have hno : okE (-1) (-1) l = false := by rw [← hok, hdc]; simp [okE, hx1]
          simp [bindO, hcond, vCmp, vBin, vEq, vUn, vNil, vField, vLoad, takeCells, vIdx, vLenT, vLen, vExtract, hBS, hfill, hNew, hStore, hBox, hc_int, hc_bool, hc_string, hc_slice, hc_nilp, hc_nilm, hc_nilf, hc_agg, hc_list, hc_view, hc_ptr, hc_map, hc_func, ho_int, ho_bool, ho_string, ho_slice, ho_nilp, ho_nilm, ho_nilf, ho_list, ho_view, ho_ptr, ho_map, ho_func, putCells, hAppend, lcells, litCells, isNilS, llen, room, vMk, set_at, Join, vToInt, vSlice, cutAt, intAt, bl_len, bits64, bits64u, bits8, Try.underlying3, Try.underlying24, Try.underlying29, Try.underlying70, Try.underlying72, Try.underlying119, Try.underlying128, hx0, hx1, encV, hno]
          exact le_set_new _ (HS.le.trans (le_set_new _ (le_refl' s) hL.2) hI.1) hX
        · simp [bindO, hcond, vCmp, vBin, vEq, vUn, vNil, vField, vLoad, takeCells, vIdx, vLenT, vLen, vExtract, hBS, hfill, hNew, hStore, hBox, hc_int, hc_bool, hc_string, hc_slice, hc_nilp, hc_nilm, hc_nilf, hc_agg, hc_list, hc_view, hc_ptr, hc_map, hc_func, ho_int, ho_bool, ho_string, ho_slice, ho_nilp, ho_nilm, ho_nilf, ho_list, ho_view, ho_ptr, ho_map, ho_func, putCells, hAppend, lcells, litCells, isNilS, llen, room, vMk, set_at, Join, vToInt, vSlice, cutAt, intAt, bl_len, bits64, bits64u, bits8, Try.underlying3, Try.underlying24, Try.underlying29, Try.underlying70, Try.underlying72, Try.underlying119, Try.underlying128, hx0, hx1]
          refine (fixed _ p x0 _ _ hIX (by omega) (by rw [encE_len, List.length_take]; omega)).mono ?_
          rintro v s1 ⟨rfl, hI1⟩
          have g1 : s1 X = _ := hI1.1 X _ (set_at _ _ _)
          simp only [lastO] at g1
          simp [bindO, hcond, vCmp, vBin, vEq, vUn, vNil, vField, vLoad, takeCells, vIdx, vLenT, vLen, vExtract, hBS, hfill, hNew, hStore, hBox, hc_int, hc_bool, hc_string, hc_slice, hc_nilp, hc_nilm, hc_nilf, hc_agg, hc_list, hc_view, hc_ptr, hc_map, hc_func, ho_int, ho_bool, ho_string, ho_slice, ho_nilp, ho_nilm, ho_nilf, ho_list, ho_view, ho_ptr, ho_map, ho_func, putCells, hAppend, lcells, litCells, isNilS, llen, room, vMk, set_at, Join, vToInt, vSlice, cutAt, intAt, bl_len, bits64, bits64u, bits8, Try.underlying3, Try.underlying24, Try.underlying29, Try.underlying70, Try.underlying72, Try.underlying119, Try.underlying128, g1]
          refine (fixed _ p x1 _ _ hI1 (by omega) (by rw [List.length_append, fx_len, encE_len, List.length_take]; omega)).mono ?_
          rintro v s2 ⟨rfl, hI2⟩
          have g2 : s2 X = _ := hI2.1 X _ (set_at _ _ _)
          have g3 : s2 L = _ := hI2.1 L _ (by rw [set_ne _ _ nL, set_at])
          simp only [lastO] at g2 g3
          simp [bindO, hcond, vCmp, vBin, vEq, vUn, vNil, vField, vLoad, takeCells, vIdx, vLenT, vLen, vExtract, hBS, hfill, hNew, hStore, hBox, hc_int, hc_bool, hc_string, hc_slice, hc_nilp, hc_nilm, hc_nilf, hc_agg, hc_list, hc_view, hc_ptr, hc_map, hc_func, ho_int, ho_bool, ho_string, ho_slice, ho_nilp, ho_nilm, ho_nilf, ho_list, ho_view, ho_ptr, ho_map, ho_func, putCells, hAppend, lcells, litCells, isNilS, llen, room, vMk, set_at, Join, vToInt, vSlice, cutAt, intAt, bl_len, bits64, bits64u, bits8, Try.underlying3, Try.underlying24, Try.underlying29, Try.underlying70, Try.underlying72, Try.underlying119, Try.underlying128, g2, g3]
          have hbX : (s.set L (lastO a b)) X = none := le_none hI.1 hX
          refine hK (i + 1, x0, x1) _ _ (by rw [w64 (by omega) (by omega)]; rfl) ⟨hlt, by show -1 ≤ x0; omega, by show -1 ≤ x1; omega, ?_, ?_⟩ (by show l.length - (i + 1) < l.length - i; omega)
          · show okE x0 x1 (l.drop (i + 1)) = _
            rw [← hok, hdc]
            simp [okE, hx0, hx1]
          · have h5 := hI2.setOld (lastO x0 x1) (x := L) (o' := lastO a b) (by rw [set_ne _ _ nL, set_at])
            have h6 := h5.weaken (b' := (s.set L (lastO a b)).set L (lastO x0 x1)) (le_set (le_set_new _ (le_refl' _) hbX) _ _)
            rw [set_set] at h6
            show IsW (s.set L (lastO x0 x1)) _ p (encE (l.take (i + 1)))
            rw [hts, encE_snoc]
            exact h6
    · obtain rfl : i = l.length := by omega
      simp [bindO, hcond, vCmp, vBin, vEq, vUn, vNil, vField, vLoad, takeCells, vIdx, vLenT, vLen, vExtract, hBS, hfill, hNew, hStore, hBox, hc_int, hc_bool, hc_string, hc_slice, hc_nilp, hc_nilm, hc_nilf, hc_agg, hc_list, hc_view, hc_ptr, hc_map, hc_func, ho_int, ho_bool, ho_string, ho_slice, ho_nilp, ho_nilm, ho_nilf, ho_list, ho_view, ho_ptr, ho_map, ho_func, putCells, hAppend, lcells, litCells, isNilS, llen, room, vMk, set_at, Join, vToInt, vSlice, cutAt, intAt, bl_len, bits64, bits64u, bits8, Try.underlying3, Try.underlying24, Try.underlying29, Try.underlying70, Try.underlying72, Try.underlying119, Try.underlying128]
      rw [List.take_length] at hI
      rw [List.drop_length] at hok
      refine (wdone _ p _ t hI (by rw [encE_len]; omega)).mono ?_
      rintro v s1 ⟨rfl, rfl⟩
      simp [bindO, hcond, vCmp, vBin, vEq, vUn, vNil, vField, vLoad, takeCells, vIdx, vLenT, vLen, vExtract, hBS, hfill, hNew, hStore, hBox, hc_int, hc_bool, hc_string, hc_slice, hc_nilp, hc_nilm, hc_nilf, hc_agg, hc_list, hc_view, hc_ptr, hc_map, hc_func, ho_int, ho_bool, ho_string, ho_slice, ho_nilp, ho_nilm, ho_nilf, ho_list, ho_view, ho_ptr, ho_map, ho_func, putCells, hAppend, lcells, litCells, isNilS, llen, room, vMk, set_at, Join, vToInt, vSlice, cutAt, intAt, bl_len, bits64, bits64u, bits8, Try.underlying3, Try.underlying24, Try.underlying29, Try.underlying70, Try.underlying72, Try.underlying119, Try.underlying128]
      refine ⟨?_, ?_⟩
      · exact HS.le.trans (le_set_new _ (le_refl' s) hL.2) hI.1
      · unfold encV
        rw [← hok, encE_len]
        rfl
theorem encode (l : List (Int × Int)) (f : Bool) (s : HS) (hl : l.length ≤ 300) : HC Try.prog 38 [.list 2 l.length (el l) f] s (fun v s' => v = encV l ∧ s' = s) := encodeG (Ent.list s l f) hl

theorem Ent.mono {s s' : HS} {A : HV} {l : List (Int × Int)} (h : Ent s A l) (hs : HS.le s s') : Ent s' A l :=
  ⟨h.1, fun i hi => by obtain ⟨e, h1, h2, e0, e1, h3, h4, h5, h6⟩ := h.2 i hi; exact ⟨e, h1, fun t ht => h2 t (hs.trans ht), e0, e1, h3, h4, fun t ht => h5 t (hs.trans ht), fun t ht => h6 t (hs.trans ht)⟩⟩
/-- A row of entries that grows. -/
def Out (b t : HS) (p : Nat) (A : HV) (o : List (Int × Int)) : Prop :=
  (A = .lit (.slice none 0 0) ∧ o = []) ∨ ∃ q, b q = none ∧ q ≠ p ∧ A = .view q 0 2 o.length false ∧ t q = some (.cells (el o))
theorem Out.ent {b t : HS} {p : Nat} {A : HV} {o : List (Int × Int)} (h : Out b t p A o) : Ent t A o := by
  rcases h with ⟨rfl, rfl⟩ | ⟨q, h1, h2, rfl, h3⟩
  · exact Ent.nil t
  · exact Ent.view h3 false
theorem Out.keep {b t t' : HS} {p : Nat} {A : HV} {o : List (Int × Int)} (h : Out b t p A o) (hk : ∀ q ob, q ≠ p → t q = some ob → t' q = some ob) : Out b t' p A o := by
  rcases h with h | ⟨q, h1, h2, h3, h4⟩
  · exact .inl h
  · exact .inr ⟨q, h1, h2, h3, hk _ _ h2 h4⟩
theorem le_set_free {b t : HS} {p : Nat} (o : HObj) (h : HS.le b t) (hp : b p = none) : HS.le b (t.set p o) := by
  intro k ob hk
  have hne : k ≠ p := by rintro rfl; rw [hp] at hk; cases hk
  rw [set_ne _ _ hne]
  exact h k ob hk
/-- An append of one entry. -/
theorem out_append {b t : HS} {p : Nat} {A : HV} {o : List (Int × Int)} {x0 x1 : Int} {K : HV → HS → Prop} (h : Out b t p A o) (hb : HS.le b t) (hp : b p = none) {r : HObj} (hr : t p = some r) (hl : o.length ≤ 100000)
    (hK : ∀ A' t', Out b t' p A' (o ++ [(x0, x1)]) → HS.le b t' → t' p = some r → K A' t') :
    hBS t 2 1 [.lit (.int .i64 0), .lit (.int .i64 0)] [(0, .agg [.lit (.int .i64 x0), .lit (.int .i64 x1)])] (fun x s => hAppend s 2 16 A x K) := by
  simp [bindO, hcond, vCmp, vBin, vEq, vUn, vNil, vField, vLoad, takeCells, vIdx, vLenT, vLen, vExtract, hBS, hfill, hNew, hStore, hBox, hc_int, hc_bool, hc_string, hc_slice, hc_nilp, hc_nilm, hc_nilf, hc_agg, hc_list, hc_view, hc_ptr, hc_map, hc_func, ho_int, ho_bool, ho_string, ho_slice, ho_nilp, ho_nilm, ho_nilf, ho_list, ho_view, ho_ptr, ho_map, ho_func, putCells, hAppend, lcells, litCells, isNilS, llen, room, vMk, set_at, Join, vToInt, vSlice, cutAt, intAt, bl_len, bits64, bits64u, bits8, Try.underlying3, Try.underlying24, Try.underlying29, Try.underlying70, Try.underlying72, Try.underlying119, Try.underlying128]
  intro i1 f1
  have n1 := ne_new hr f1
  rcases h with ⟨rfl, rfl⟩ | ⟨q, h1, h2, rfl, h3⟩
  · simp [bindO, hcond, vCmp, vBin, vEq, vUn, vNil, vField, vLoad, takeCells, vIdx, vLenT, vLen, vExtract, hBS, hfill, hNew, hStore, hBox, hc_int, hc_bool, hc_string, hc_slice, hc_nilp, hc_nilm, hc_nilf, hc_agg, hc_list, hc_view, hc_ptr, hc_map, hc_func, ho_int, ho_bool, ho_string, ho_slice, ho_nilp, ho_nilm, ho_nilf, ho_list, ho_view, ho_ptr, ho_map, ho_func, putCells, hAppend, lcells, litCells, isNilS, llen, room, vMk, set_at, Join, vToInt, vSlice, cutAt, intAt, bl_len, bits64, bits64u, bits8, Try.underlying3, Try.underlying24, Try.underlying29, Try.underlying70, Try.underlying72, Try.underlying119, Try.underlying128]
    intro i2 f2
    simp only [set_none_iff] at f2
    have n2 := ne_new hr f2.2
    refine hK _ _ (.inr ⟨i2, le_none hb f2.2, Ne.symm n2, rfl, set_at _ _ _⟩) (le_set_new _ (le_set_new _ hb f1) (by rw [set_none_iff]; exact f2)) ?_
    rw [set_ne _ _ n2, set_ne _ _ n1]; exact hr
  · have m1 := ne_new h3 f1
    simp [bindO, hcond, vCmp, vBin, vEq, vUn, vNil, vField, vLoad, takeCells, vIdx, vLenT, vLen, vExtract, hBS, hfill, hNew, hStore, hBox, hc_int, hc_bool, hc_string, hc_slice, hc_nilp, hc_nilm, hc_nilf, hc_agg, hc_list, hc_view, hc_ptr, hc_map, hc_func, ho_int, ho_bool, ho_string, ho_slice, ho_nilp, ho_nilm, ho_nilf, ho_list, ho_view, ho_ptr, ho_map, ho_func, putCells, hAppend, lcells, litCells, isNilS, llen, room, vMk, set_at, Join, vToInt, vSlice, cutAt, intAt, bl_len, bits64, bits64u, bits8, Try.underlying3, Try.underlying24, Try.underlying29, Try.underlying70, Try.underlying72, Try.underlying119, Try.underlying128, set_ne _ _ m1, h3, el_len, Nat.mul_comm]
    refine ⟨by omega, fun i2 f2 => ?_⟩
    simp only [set_none_iff] at f2
    have n2 := ne_new hr f2.2
    have m2 := ne_new h3 f2.2
    refine hK _ _ (.inr ⟨i2, le_none hb f2.2, Ne.symm n2, by simp, ?_⟩) ?_ ?_
    · rw [set_at, el_app]; rfl
    · intro k ob hk
      have hkq : k ≠ q := by rintro rfl; rw [h1] at hk; cases hk
      have hk1 := hb k ob hk
      rw [set_ne _ _ (ne_new hk1 f2.2), del_ne _ hkq, set_ne _ _ (ne_new hk1 f1)]
      exact hk1
    · rw [set_ne _ _ n2, del_ne _ (Ne.symm h2), set_ne _ _ n1]; exact hr
theorem decode (l : List (Int × Int)) (rest pl : List Int) (f : Bool) (s : HS) (hpl : pl = encE l ++ rest) (hl : l.length ≤ 250) (hre : rest.length ≤ 1) (hok : okE (-1) (-1) l = true) (hx : ∀ x ∈ l, 0 ≤ x.1 ∧ x.1 < 9223372036854775808 ∧ 0 ≤ x.2 ∧ x.2 < 9223372036854775808) :
    HC Try.prog 41 [.list 1 pl.length (bl pl) f] s (fun v s' => HS.le s s' ∧ if rest = [] then ∃ A, v = .tup [A, .lit (.int .i64 0)] ∧ Ent s' A l else v = .tup [.lit (.slice none 0 0), .lit (.int .i64 2)]) := by
  refine HC41 ?_
  have hpn : pl.length = 16 * l.length + rest.length := by rw [hpl, List.length_append, encE_len]
  simp only [c41]
  refine (newReader' pl f s (by omega)).mono ?_
  rintro v s1 ⟨p, hp, rfl, rfl⟩
  refine HLoop.ghost (σ := HV × List (Int × Int) × List Int × Int) (fun g => [g.1]) (fun g t => HS.le s t ∧ t p = some (rd g.2.2.1 g.2.2.2) ∧ Out s t p g.1 g.2.1 ∧ ((g.2.2.2 = 0 ∧ ∃ i, i ≤ l.length ∧ g.2.1 = l.take i ∧ g.2.2.1 = encE (l.drop i) ++ rest) ∨ (g.2.2.2 = 2 ∧ rest ≠ [] ∧ g.2.1 = l ++ [(0, 0)]))) (fun g => l.length + 1 - g.2.1.length) (.lit (.slice none 0 0), [], pl, 0) rfl ?_ ?_
  · exact ⟨le_set_new _ (le_refl' s) hp, set_at _ _ _, .inl ⟨rfl, rfl⟩, .inl ⟨rfl, 0, Nat.zero_le _, rfl, hpl⟩⟩
  · rintro ⟨A, o, bs, e⟩ t K ⟨hst, htp, ho, hc⟩ hK
    simp only at hst htp ho hc
    refine (left p bs e t htp).mono ?_
    rintro v s1 ⟨rfl, rfl⟩
    rcases hc with ⟨rfl, i, hi, rfl, rfl⟩ | ⟨rfl, hr, rfl⟩
    · by_cases hlt : i < l.length
      · have hxm := hx (l.getD i (0, 0)) (by rw [List.getD, List.getElem?_eq_getElem hlt]; exact List.getElem_mem hlt)
        have hdc := drop_cons' (0, 0) l hlt
        have hts := take_succ' (0, 0) l hlt
        generalize l.getD i (0, 0) = x at *
        obtain ⟨x0, x1⟩ := x
        obtain ⟨ha0, ha1, hb0, hb1⟩ := hxm
        rw [hdc, encE_cons, List.append_assoc, List.append_assoc] at htp ⊢
        have hlen : (fx x0 8 ++ (fx x1 8 ++ (encE (l.drop (i + 1)) ++ rest))).length = 16 + (16 * (l.length - (i + 1)) + rest.length) := by
          rw [List.length_append, List.length_append, List.length_append, fx_len, fx_len, encE_len, List.length_drop]; omega
        rw [hlen]
        obtain ⟨N, hN⟩ : ∃ N : Nat, 16 + (16 * (l.length - (i + 1)) + rest.length) = N := ⟨_, rfl⟩
        rw [hN]
        have hpos : (0 : Int) < (N : Int) := by omega
        simp only [bindO, vBin, if_true, hcond, hpos, decide_true, gt_iff_lt]
        refine (getFixed p x0 _ s1 htp ha0 ha1 (by rw [List.length_append, List.length_append, fx_len, encE_len, List.length_drop]; omega)).mono ?_
        rintro v t2 ⟨rfl, rfl⟩
        refine (getFixed p x1 _ _ (set_at _ _ _) hb0 hb1 (by rw [List.length_append, encE_len, List.length_drop]; omega)).mono ?_
        rintro v t3 ⟨rfl, rfl⟩
        rw [set_set]
        have hM : vMk [(0, 1), (1, 1)] [.lit (.int .i64 0), .lit (.int .i64 0)] [(0, .lit (.int .i64 x0)), (1, .lit (.int .i64 x1))] = some (.agg [.lit (.int .i64 x0), .lit (.int .i64 x1)]) := by simp [bindO, hcond, vCmp, vBin, vEq, vUn, vNil, vField, vLoad, takeCells, vIdx, vLenT, vLen, vExtract, hBS, hfill, hNew, hStore, hBox, hc_int, hc_bool, hc_string, hc_slice, hc_nilp, hc_nilm, hc_nilf, hc_agg, hc_list, hc_view, hc_ptr, hc_map, hc_func, ho_int, ho_bool, ho_string, ho_slice, ho_nilp, ho_nilm, ho_nilf, ho_list, ho_view, ho_ptr, ho_map, ho_func, putCells, hAppend, lcells, litCells, isNilS, llen, room, vMk, set_at, Join, vToInt, vSlice, cutAt, intAt, bl_len, bits64, bits64u, bits8, Try.underlying3, Try.underlying24, Try.underlying29, Try.underlying70, Try.underlying72, Try.underlying119, Try.underlying128]
        simp only [hM]
        refine out_append (b := s) (p := p) (o := l.take i) (x0 := x0) (x1 := x1) (r := rd (encE (l.drop (i + 1)) ++ rest) 0) ?_ (le_set_free _ hst hp) hp (set_at _ _ _) (by rw [List.length_take]; omega) ?_
        · exact ho.keep fun q ob hq h => by rw [set_ne _ _ hq]; exact h
        · intro A' t' h1 h2 h3
          refine hK (A', l.take (i + 1), encE (l.drop (i + 1)) ++ rest, 0) _ _ rfl ⟨h2, h3, by rw [hts]; exact h1, .inl ⟨rfl, i + 1, hlt, rfl, rfl⟩⟩ ?_
          show l.length + 1 - (l.take (i + 1)).length < l.length + 1 - (l.take i).length
          rw [List.length_take, List.length_take]
          omega
      · obtain rfl : i = l.length := by omega
        rw [List.drop_length, show encE ([] : List (Int × Int)) = [] from rfl, List.nil_append] at htp ⊢
        rw [List.take_length] at ho
        by_cases hr : rest = []
        · subst hr
          simp only [bindO, vBin, if_true, hcond, List.length_nil, decide_true, gt_iff_lt]
          simp
          refine (encodeG ho.ent (by omega)).mono ?_
          rintro v t2 ⟨rfl, rfl⟩
          simp [encV, hok, bindO, hcond, vCmp, vBin, vEq, vUn, vNil, vField, vLoad, takeCells, vIdx, vLenT, vLen, vExtract, hBS, hfill, hNew, hStore, hBox, hc_int, hc_bool, hc_string, hc_slice, hc_nilp, hc_nilm, hc_nilf, hc_agg, hc_list, hc_view, hc_ptr, hc_map, hc_func, ho_int, ho_bool, ho_string, ho_slice, ho_nilp, ho_nilm, ho_nilf, ho_list, ho_view, ho_ptr, ho_map, ho_func, putCells, hAppend, lcells, litCells, isNilS, llen, room, vMk, set_at, Join, vToInt, vSlice, cutAt, intAt, bl_len, bits64, bits64u, bits8, Try.underlying3, Try.underlying24, Try.underlying29, Try.underlying70, Try.underlying72, Try.underlying119, Try.underlying128]
          refine (err p _ _ _ htp).mono ?_
          rintro v t3 ⟨rfl, rfl⟩
          have h16 : ((16 * (l.length : Int)).tmod 16 != 0) = false := by simp
          simp [bindO, hcond, vCmp, vBin, vEq, vUn, vNil, vField, vLoad, takeCells, vIdx, vLenT, vLen, vExtract, hBS, hfill, hNew, hStore, hBox, hc_int, hc_bool, hc_string, hc_slice, hc_nilp, hc_nilm, hc_nilf, hc_agg, hc_list, hc_view, hc_ptr, hc_map, hc_func, ho_int, ho_bool, ho_string, ho_slice, ho_nilp, ho_nilm, ho_nilf, ho_list, ho_view, ho_ptr, ho_map, ho_func, putCells, hAppend, lcells, litCells, isNilS, llen, room, vMk, set_at, Join, vToInt, vSlice, cutAt, intAt, bl_len, bits64, bits64u, bits8, Try.underlying3, Try.underlying24, Try.underlying29, Try.underlying70, Try.underlying72, Try.underlying119, Try.underlying128, hpn, h16]
          exact ⟨hst, ho.ent⟩
        · have hrl : 0 < rest.length := List.length_pos_iff.2 hr
          have hrl' : (0 : Int) < (rest.length : Int) := by omega
          simp only [bindO, vBin, if_true, hcond, hrl', decide_true, gt_iff_lt]
          refine (fixed_short p rest s1 htp (by omega)).mono ?_
          rintro v t2 ⟨rfl, rfl⟩
          refine (fixed_bad p rest _ (set_at _ _ _)).mono ?_
          rintro v t3 ⟨rfl, rfl⟩
          have hM : vMk [(0, 1), (1, 1)] [.lit (.int .i64 0), .lit (.int .i64 0)] [(0, .lit (.int .i64 0)), (1, .lit (.int .i64 0))] = some (.agg [.lit (.int .i64 0), .lit (.int .i64 0)]) := by simp [bindO, hcond, vCmp, vBin, vEq, vUn, vNil, vField, vLoad, takeCells, vIdx, vLenT, vLen, vExtract, hBS, hfill, hNew, hStore, hBox, hc_int, hc_bool, hc_string, hc_slice, hc_nilp, hc_nilm, hc_nilf, hc_agg, hc_list, hc_view, hc_ptr, hc_map, hc_func, ho_int, ho_bool, ho_string, ho_slice, ho_nilp, ho_nilm, ho_nilf, ho_list, ho_view, ho_ptr, ho_map, ho_func, putCells, hAppend, lcells, litCells, isNilS, llen, room, vMk, set_at, Join, vToInt, vSlice, cutAt, intAt, bl_len, bits64, bits64u, bits8, Try.underlying3, Try.underlying24, Try.underlying29, Try.underlying70, Try.underlying72, Try.underlying119, Try.underlying128]
          simp only [hM]
          refine out_append (b := s) (p := p) (o := l) (x0 := 0) (x1 := 0) (r := rd rest 2) ?_ (le_set_free _ hst hp) hp (set_at _ _ _) (by omega) ?_
          · exact ho.keep fun q ob hq h => by rw [set_ne _ _ hq]; exact h
          · intro A' t' h1 h2 h3
            refine hK (A', l ++ [(0, 0)], rest, 2) _ _ rfl ⟨h2, h3, h1, .inr ⟨rfl, hr, rfl⟩⟩ ?_
            show l.length + 1 - (l ++ [(0, 0)]).length < l.length + 1 - (l.take l.length).length
            rw [List.length_take, List.length_append]
            simp
    · have hm : (fun (n : Int) => n) 2 = 2 := rfl
      simp [bindO, hcond, vCmp, vBin, vEq, vUn, vNil, vField, vLoad, takeCells, vIdx, vLenT, vLen, vExtract, hBS, hfill, hNew, hStore, hBox, hc_int, hc_bool, hc_string, hc_slice, hc_nilp, hc_nilm, hc_nilf, hc_agg, hc_list, hc_view, hc_ptr, hc_map, hc_func, ho_int, ho_bool, ho_string, ho_slice, ho_nilp, ho_nilm, ho_nilf, ho_list, ho_view, ho_ptr, ho_map, ho_func, putCells, hAppend, lcells, litCells, isNilS, llen, room, vMk, set_at, Join, vToInt, vSlice, cutAt, intAt, bl_len, bits64, bits64u, bits8, Try.underlying3, Try.underlying24, Try.underlying29, Try.underlying70, Try.underlying72, Try.underlying119, Try.underlying128]
      refine (encodeG ho.ent (by simp; omega)).mono ?_
      rintro v t2 ⟨rfl, rfl⟩
      by_cases ho2 : okE (-1) (-1) (l ++ [(0, 0)]) = true
      · simp [encV, ho2, bindO, hcond, vCmp, vBin, vEq, vUn, vNil, vField, vLoad, takeCells, vIdx, vLenT, vLen, vExtract, hBS, hfill, hNew, hStore, hBox, hc_int, hc_bool, hc_string, hc_slice, hc_nilp, hc_nilm, hc_nilf, hc_agg, hc_list, hc_view, hc_ptr, hc_map, hc_func, ho_int, ho_bool, ho_string, ho_slice, ho_nilp, ho_nilm, ho_nilf, ho_list, ho_view, ho_ptr, ho_map, ho_func, putCells, hAppend, lcells, litCells, isNilS, llen, room, vMk, set_at, Join, vToInt, vSlice, cutAt, intAt, bl_len, bits64, bits64u, bits8, Try.underlying3, Try.underlying24, Try.underlying29, Try.underlying70, Try.underlying72, Try.underlying119, Try.underlying128]
        refine (err p _ _ _ htp).mono ?_
        rintro v t3 ⟨rfl, rfl⟩
        simp [bindO, hcond, vCmp, vBin, vEq, vUn, vNil, vField, vLoad, takeCells, vIdx, vLenT, vLen, vExtract, hBS, hfill, hNew, hStore, hBox, hc_int, hc_bool, hc_string, hc_slice, hc_nilp, hc_nilm, hc_nilf, hc_agg, hc_list, hc_view, hc_ptr, hc_map, hc_func, ho_int, ho_bool, ho_string, ho_slice, ho_nilp, ho_nilm, ho_nilf, ho_list, ho_view, ho_ptr, ho_map, ho_func, putCells, hAppend, lcells, litCells, isNilS, llen, room, vMk, set_at, Join, vToInt, vSlice, cutAt, intAt, bl_len, bits64, bits64u, bits8, Try.underlying3, Try.underlying24, Try.underlying29, Try.underlying70, Try.underlying72, Try.underlying119, Try.underlying128, hr]
        exact hst
      · simp [encV, ho2, bindO, hcond, vCmp, vBin, vEq, vUn, vNil, vField, vLoad, takeCells, vIdx, vLenT, vLen, vExtract, hBS, hfill, hNew, hStore, hBox, hc_int, hc_bool, hc_string, hc_slice, hc_nilp, hc_nilm, hc_nilf, hc_agg, hc_list, hc_view, hc_ptr, hc_map, hc_func, ho_int, ho_bool, ho_string, ho_slice, ho_nilp, ho_nilm, ho_nilf, ho_list, ho_view, ho_ptr, ho_map, ho_func, putCells, hAppend, lcells, litCells, isNilS, llen, room, vMk, set_at, Join, vToInt, vSlice, cutAt, intAt, bl_len, bits64, bits64u, bits8, Try.underlying3, Try.underlying24, Try.underlying29, Try.underlying70, Try.underlying72, Try.underlying119, Try.underlying128, hr]
        exact hst

def OutN (b t : HS) (A : HV) (o : List (Int × Int)) : Prop :=
  (A = .lit (.slice none 0 0) ∧ o = []) ∨ ∃ q, b q = none ∧ A = .view q 0 2 o.length false ∧ t q = some (.cells (el o))
theorem OutN.ent {b t : HS} {A : HV} {o : List (Int × Int)} (h : OutN b t A o) : Ent t A o := by
  rcases h with ⟨rfl, rfl⟩ | ⟨q, h1, rfl, h3⟩
  · exact Ent.nil t
  · exact Ent.view h3 false
theorem outN_append {b t : HS} {A : HV} {o : List (Int × Int)} {x0 x1 : Int} {K : HV → HS → Prop} (h : OutN b t A o) (hb : HS.le b t) (hl : o.length ≤ 100000)
    (hK : ∀ A' t', OutN b t' A' (o ++ [(x0, x1)]) → HS.le b t' → K A' t') :
    hBS t 2 1 [.lit (.int .i64 0), .lit (.int .i64 0)] [(0, .agg [.lit (.int .i64 x0), .lit (.int .i64 x1)])] (fun x s => hAppend s 2 16 A x K) := by
  simp [bindO, hcond, vCmp, vBin, vEq, vUn, vNil, vField, vLoad, takeCells, vIdx, vLenT, vLen, vExtract, hBS, hfill, hNew, hStore, hBox, hc_int, hc_bool, hc_string, hc_slice, hc_nilp, hc_nilm, hc_nilf, hc_agg, hc_list, hc_view, hc_ptr, hc_map, hc_func, ho_int, ho_bool, ho_string, ho_slice, ho_nilp, ho_nilm, ho_nilf, ho_list, ho_view, ho_ptr, ho_map, ho_func, putCells, hAppend, lcells, litCells, isNilS, llen, room, vMk, set_at, Join, vToInt, vSlice, cutAt, intAt, bl_len, bits64, bits64u, bits8, Try.underlying3, Try.underlying24, Try.underlying29, Try.underlying70, Try.underlying72, Try.underlying119, Try.underlying128]
  intro i1 f1
  rcases h with ⟨rfl, rfl⟩ | ⟨q, h1, rfl, h3⟩
  · simp [bindO, hcond, vCmp, vBin, vEq, vUn, vNil, vField, vLoad, takeCells, vIdx, vLenT, vLen, vExtract, hBS, hfill, hNew, hStore, hBox, hc_int, hc_bool, hc_string, hc_slice, hc_nilp, hc_nilm, hc_nilf, hc_agg, hc_list, hc_view, hc_ptr, hc_map, hc_func, ho_int, ho_bool, ho_string, ho_slice, ho_nilp, ho_nilm, ho_nilf, ho_list, ho_view, ho_ptr, ho_map, ho_func, putCells, hAppend, lcells, litCells, isNilS, llen, room, vMk, set_at, Join, vToInt, vSlice, cutAt, intAt, bl_len, bits64, bits64u, bits8, Try.underlying3, Try.underlying24, Try.underlying29, Try.underlying70, Try.underlying72, Try.underlying119, Try.underlying128]
    intro i2 f2
    simp only [set_none_iff] at f2
    exact hK _ _ (.inr ⟨i2, le_none hb f2.2, rfl, set_at _ _ _⟩) (le_set_new _ (le_set_new _ hb f1) (by rw [set_none_iff]; exact f2))
  · have m1 := ne_new h3 f1
    simp [bindO, hcond, vCmp, vBin, vEq, vUn, vNil, vField, vLoad, takeCells, vIdx, vLenT, vLen, vExtract, hBS, hfill, hNew, hStore, hBox, hc_int, hc_bool, hc_string, hc_slice, hc_nilp, hc_nilm, hc_nilf, hc_agg, hc_list, hc_view, hc_ptr, hc_map, hc_func, ho_int, ho_bool, ho_string, ho_slice, ho_nilp, ho_nilm, ho_nilf, ho_list, ho_view, ho_ptr, ho_map, ho_func, putCells, hAppend, lcells, litCells, isNilS, llen, room, vMk, set_at, Join, vToInt, vSlice, cutAt, intAt, bl_len, bits64, bits64u, bits8, Try.underlying3, Try.underlying24, Try.underlying29, Try.underlying70, Try.underlying72, Try.underlying119, Try.underlying128, set_ne _ _ m1, h3, el_len, Nat.mul_comm]
    refine ⟨by omega, fun i2 f2 => ?_⟩
    simp only [set_none_iff] at f2
    have m2 := ne_new h3 f2.2
    refine hK _ _ (.inr ⟨i2, le_none hb f2.2, by simp, ?_⟩) ?_
    · rw [set_at, el_app]; rfl
    · intro k ob hk
      have hkq : k ≠ q := by rintro rfl; rw [h1] at hk; cases hk
      have hk1 := hb k ob hk
      rw [set_ne _ _ (ne_new hk1 f2.2), del_ne _ hkq, set_ne _ _ (ne_new hk1 f1)]
      exact hk1
end Go.Proofs.Ytpibjdkenifggaa.OW
