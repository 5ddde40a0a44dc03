/- OindexBack over the H layer: the reader and the writer of bytes. -/
import Derived.Test.YtpibjdkenifggaaOP
import Derived.Test.YtpibjdkenifggaaC0
namespace Go.Proofs.Ytpibjdkenifggaa.OW
open Go.Proofs.Ytpibjdkenifggaa.H Go.Proofs.Ytpibjdkenifggaa.C0
set_option linter.unusedVariables false
set_option linter.unusedSimpArgs false
theorem clone_list (l : List Int) (f : Bool) (s : HS) (hb : l.length ≤ 140737488355328) : HC Try.prog 53 [.list 1 l.length (bl l) f] s (fun v s' => v = .list 1 l.length (bl l) false ∧ s' = s) := by
  cases l with
  | nil =>
    refine HC.nilOr (pre := []) (post := []) ?_ ?_
    · refine HC.up (HC53 ?_)
      simp [c53, bindO, hcond, vCmp, vBin, vEq, vUn, vNil, vField, vLoad, takeCells, vIdx, vLenT, vLen, vExtract, hBS, hfill, hNew, hStore, hBox, hc_int, hc_bool, hc_string, hc_slice, hc_nilp, hc_nilm, hc_nilf, hc_agg, hc_list, hc_view, hc_ptr, hc_map, hc_func, ho_int, ho_bool, ho_string, ho_slice, ho_nilp, ho_nilm, ho_nilf, ho_list, ho_view, ho_ptr, ho_map, ho_func, putCells, hAppend, lcells, litCells, isNilS, llen, room, vMk, set_at, Join, vToInt, vSlice, cutAt, intAt, bl_len, bits64, bits64u, bits8, Try.underlying3, Try.underlying24, Try.underlying29, Try.underlying70, Try.underlying72, Try.underlying119, Try.underlying128]
      exact up_lit_nil 1 (le_refl' s)
    · refine HC.up (HC53 ?_)
      simp [c53, bindO, hcond, vCmp, vBin, vEq, vUn, vNil, vField, vLoad, takeCells, vIdx, vLenT, vLen, vExtract, hBS, hfill, hNew, hStore, hBox, hc_int, hc_bool, hc_string, hc_slice, hc_nilp, hc_nilm, hc_nilf, hc_agg, hc_list, hc_view, hc_ptr, hc_map, hc_func, ho_int, ho_bool, ho_string, ho_slice, ho_nilp, ho_nilm, ho_nilf, ho_list, ho_view, ho_ptr, ho_map, ho_func, putCells, hAppend, lcells, litCells, isNilS, llen, room, vMk, set_at, Join, vToInt, vSlice, cutAt, intAt, bl_len, bits64, bits64u, bits8, Try.underlying3, Try.underlying24, Try.underlying29, Try.underlying70, Try.underlying72, Try.underlying119, Try.underlying128]
      intro id hid
      exact up1 (set_at _ _ _) rfl (le_del_new (le_set_new _ (le_refl' s) hid) hid)
  | cons b l =>
    refine HC.up (HC53 ?_)
    simp [c53, bindO, hcond, vCmp, vBin, vEq, vUn, vNil, vField, vLoad, takeCells, vIdx, vLenT, vLen, vExtract, hBS, hfill, hNew, hStore, hBox, hc_int, hc_bool, hc_string, hc_slice, hc_nilp, hc_nilm, hc_nilf, hc_agg, hc_list, hc_view, hc_ptr, hc_map, hc_func, ho_int, ho_bool, ho_string, ho_slice, ho_nilp, ho_nilm, ho_nilf, ho_list, ho_view, ho_ptr, ho_map, ho_func, putCells, hAppend, lcells, litCells, isNilS, llen, room, vMk, set_at, Join, vToInt, vSlice, cutAt, intAt, bl_len, bits64, bits64u, bits8, Try.underlying3, Try.underlying24, Try.underlying29, Try.underlying70, Try.underlying72, Try.underlying119, Try.underlying128]
    intro id hid
    refine ⟨by simp at hb; omega, ?_⟩
    intro id2 h2
    simp only [set_none_iff] at h2
    exact up1 (set_at _ _ _) (by simp [bl_len]) (le_del_new (le_set_new _ (le_set_new _ (le_refl' s) hid) (by simp [set_none_iff, *])) h2.2)
/-- A copy of part of a row that is still written. -/
theorem clone_view (id n : Nat) (l : List Int) (s : HS) (hs : s id = some (.cells (bl l))) (hn : n ≤ l.length) (hb : l.length ≤ 140737488355328) :
    HC Try.prog 53 [.view id 0 1 n false] s (fun v s' => v = .list 1 n (bl (l.take n)) false ∧ s' = s) := by
  refine HC.up (HC53 ?_)
  simp [c53, bindO, hcond, vCmp, vBin, vEq, vUn, vNil, vField, vLoad, takeCells, vIdx, vLenT, vLen, vExtract, hBS, hfill, hNew, hStore, hBox, hc_int, hc_bool, hc_string, hc_slice, hc_nilp, hc_nilm, hc_nilf, hc_agg, hc_list, hc_view, hc_ptr, hc_map, hc_func, ho_int, ho_bool, ho_string, ho_slice, ho_nilp, ho_nilm, ho_nilf, ho_list, ho_view, ho_ptr, ho_map, ho_func, putCells, hAppend, lcells, litCells, isNilS, llen, room, vMk, set_at, Join, vToInt, vSlice, cutAt, intAt, bl_len, bits64, bits64u, bits8, Try.underlying3, Try.underlying24, Try.underlying29, Try.underlying70, Try.underlying72, Try.underlying119, Try.underlying128]
  intro i1 h1
  have hne : id ≠ i1 := fun e => by rw [e, h1] at hs; cases hs
  have e0 : ((bl l).take n) = bl (l.take n) := by simp [bl, List.map_take]
  by_cases h0 : n = 0
  · subst h0
    simp [bindO, hcond, vCmp, vBin, vEq, vUn, vNil, vField, vLoad, takeCells, vIdx, vLenT, vLen, vExtract, hBS, hfill, hNew, hStore, hBox, hc_int, hc_bool, hc_string, hc_slice, hc_nilp, hc_nilm, hc_nilf, hc_agg, hc_list, hc_view, hc_ptr, hc_map, hc_func, ho_int, ho_bool, ho_string, ho_slice, ho_nilp, ho_nilm, ho_nilf, ho_list, ho_view, ho_ptr, ho_map, ho_func, putCells, hAppend, lcells, litCells, isNilS, llen, room, vMk, set_at, Join, vToInt, vSlice, cutAt, intAt, bl_len, bits64, bits64u, bits8, Try.underlying3, Try.underlying24, Try.underlying29, Try.underlying70, Try.underlying72, Try.underlying119, Try.underlying128, set_ne _ _ hne, hs, bl_len, hn]
    exact up1 (set_at _ _ _) (by simp [bl]) (le_del_new (le_set_new _ (le_refl' s) h1) h1)
  · simp [bindO, hcond, vCmp, vBin, vEq, vUn, vNil, vField, vLoad, takeCells, vIdx, vLenT, vLen, vExtract, hBS, hfill, hNew, hStore, hBox, hc_int, hc_bool, hc_string, hc_slice, hc_nilp, hc_nilm, hc_nilf, hc_agg, hc_list, hc_view, hc_ptr, hc_map, hc_func, ho_int, ho_bool, ho_string, ho_slice, ho_nilp, ho_nilm, ho_nilf, ho_list, ho_view, ho_ptr, ho_map, ho_func, putCells, hAppend, lcells, litCells, isNilS, llen, room, vMk, set_at, Join, vToInt, vSlice, cutAt, intAt, bl_len, bits64, bits64u, bits8, Try.underlying3, Try.underlying24, Try.underlying29, Try.underlying70, Try.underlying72, Try.underlying119, Try.underlying128, set_ne _ _ hne, hs, bl_len, hn, h0]
    refine ⟨by omega, fun i2 h2 => ?_⟩
    simp only [set_none_iff] at h2
    rw [e0]
    exact up1 (set_at _ _ _) (by simp [bl_len, hn]) (le_del_new (le_set_new _ (le_set_new _ (le_refl' s) h1) (by simp [set_none_iff, *])) h2.2)
theorem clone_nil (s : HS) : HC Try.prog 53 [.lit (.slice none 0 0)] s (fun v s' => v = .list 1 0 (bl []) false ∧ s' = s) := by
  refine HC.up (HC53 ?_)
  simp [c53, bindO, hcond, vCmp, vBin, vEq, vUn, vNil, vField, vLoad, takeCells, vIdx, vLenT, vLen, vExtract, hBS, hfill, hNew, hStore, hBox, hc_int, hc_bool, hc_string, hc_slice, hc_nilp, hc_nilm, hc_nilf, hc_agg, hc_list, hc_view, hc_ptr, hc_map, hc_func, ho_int, ho_bool, ho_string, ho_slice, ho_nilp, ho_nilm, ho_nilf, ho_list, ho_view, ho_ptr, ho_map, ho_func, putCells, hAppend, lcells, litCells, isNilS, llen, room, vMk, set_at, Join, vToInt, vSlice, cutAt, intAt, bl_len, bits64, bits64u, bits8, Try.underlying3, Try.underlying24, Try.underlying29, Try.underlying70, Try.underlying72, Try.underlying119, Try.underlying128]
  exact up_lit_nil 1 (le_refl' s)

-- the reader
def IsRd (s : HS) (p : Nat) (bs : List Int) (e : Int) : Prop := s p = some (.cells [.list 1 bs.length (bl bs) false, .lit (.int .i64 e)])
def rd (bs : List Int) (e : Int) : HObj := .cells [.list 1 bs.length (bl bs) false, .lit (.int .i64 e)]
theorem newReader (l : List Int) (s : HS) (hb : l.length ≤ 140737488355328) : HC Try.prog 61 [.list 1 l.length (bl l) false] s (fun v s' => ∃ p, s p = none ∧ v = .ptr p 0 ∧ s' = s.set p (rd l 0)) := by
  refine HC61 ?_
  simp only [c61]
  refine (clone_list l false s hb).mono ?_
  rintro v s1 ⟨rfl, rfl⟩
  simp [bindO, hcond, vCmp, vBin, vEq, vUn, vNil, vField, vLoad, takeCells, vIdx, vLenT, vLen, vExtract, hBS, hfill, hNew, hStore, hBox, hc_int, hc_bool, hc_string, hc_slice, hc_nilp, hc_nilm, hc_nilf, hc_agg, hc_list, hc_view, hc_ptr, hc_map, hc_func, ho_int, ho_bool, ho_string, ho_slice, ho_nilp, ho_nilm, ho_nilf, ho_list, ho_view, ho_ptr, ho_map, ho_func, putCells, hAppend, lcells, litCells, isNilS, llen, room, vMk, set_at, Join, vToInt, vSlice, cutAt, intAt, bl_len, bits64, bits64u, bits8, Try.underlying3, Try.underlying24, Try.underlying29, Try.underlying70, Try.underlying72, Try.underlying119, Try.underlying128]
  intro p hp
  exact ⟨p, hp, rfl, rfl⟩
theorem newReader' (l : List Int) (f : Bool) (s : HS) (hb : l.length ≤ 140737488355328) : HC Try.prog 61 [.list 1 l.length (bl l) f] s (fun v s' => ∃ p, s p = none ∧ v = .ptr p 0 ∧ s' = s.set p (rd l 0)) := by
  refine HC61 ?_
  simp only [c61]
  refine (clone_list l f s hb).mono ?_
  rintro v s1 ⟨rfl, rfl⟩
  simp [bindO, hcond, vCmp, vBin, vEq, vUn, vNil, vField, vLoad, takeCells, vIdx, vLenT, vLen, vExtract, hBS, hfill, hNew, hStore, hBox, hc_int, hc_bool, hc_string, hc_slice, hc_nilp, hc_nilm, hc_nilf, hc_agg, hc_list, hc_view, hc_ptr, hc_map, hc_func, ho_int, ho_bool, ho_string, ho_slice, ho_nilp, ho_nilm, ho_nilf, ho_list, ho_view, ho_ptr, ho_map, ho_func, putCells, hAppend, lcells, litCells, isNilS, llen, room, vMk, set_at, Join, vToInt, vSlice, cutAt, intAt, bl_len, bits64, bits64u, bits8, Try.underlying3, Try.underlying24, Try.underlying29, Try.underlying70, Try.underlying72, Try.underlying119, Try.underlying128]
  intro p hp
  exact ⟨p, hp, rfl, rfl⟩
theorem err (p : Nat) (bs : List Int) (e : Int) (s : HS) (hs : s p = some (rd bs e)) : HC Try.prog 64 [.ptr p 0] s (fun v s' => v = .lit (.int .i64 e) ∧ s' = s) := by
  refine HC64 ?_
  simp [c64, bindO, hcond, vCmp, vBin, vEq, vUn, vNil, vField, vLoad, takeCells, vIdx, vLenT, vLen, vExtract, hBS, hfill, hNew, hStore, hBox, hc_int, hc_bool, hc_string, hc_slice, hc_nilp, hc_nilm, hc_nilf, hc_agg, hc_list, hc_view, hc_ptr, hc_map, hc_func, ho_int, ho_bool, ho_string, ho_slice, ho_nilp, ho_nilm, ho_nilf, ho_list, ho_view, ho_ptr, ho_map, ho_func, putCells, hAppend, lcells, litCells, isNilS, llen, room, vMk, set_at, Join, vToInt, vSlice, cutAt, intAt, bl_len, bits64, bits64u, bits8, Try.underlying3, Try.underlying24, Try.underlying29, Try.underlying70, Try.underlying72, Try.underlying119, Try.underlying128, hs, rd]
theorem left (p : Nat) (bs : List Int) (e : Int) (s : HS) (hs : s p = some (rd bs e)) : HC Try.prog 62 [.ptr p 0] s (fun v s' => v = .lit (.int .i64 (if e = 0 then bs.length else 0)) ∧ s' = s) := by
  refine HC62 ?_
  simp only [c62]
  refine (err p bs e s hs).mono ?_
  rintro v s1 ⟨rfl, rfl⟩
  by_cases h : e = 0
  · simp [bindO, hcond, vCmp, vBin, vEq, vUn, vNil, vField, vLoad, takeCells, vIdx, vLenT, vLen, vExtract, hBS, hfill, hNew, hStore, hBox, hc_int, hc_bool, hc_string, hc_slice, hc_nilp, hc_nilm, hc_nilf, hc_agg, hc_list, hc_view, hc_ptr, hc_map, hc_func, ho_int, ho_bool, ho_string, ho_slice, ho_nilp, ho_nilm, ho_nilf, ho_list, ho_view, ho_ptr, ho_map, ho_func, putCells, hAppend, lcells, litCells, isNilS, llen, room, vMk, set_at, Join, vToInt, vSlice, cutAt, intAt, bl_len, bits64, bits64u, bits8, Try.underlying3, Try.underlying24, Try.underlying29, Try.underlying70, Try.underlying72, Try.underlying119, Try.underlying128, hs, rd, h]
  · have h' : (e != 0) = true := by simpa using h
    simp [bindO, hcond, vCmp, vBin, vEq, vUn, vNil, vField, vLoad, takeCells, vIdx, vLenT, vLen, vExtract, hBS, hfill, hNew, hStore, hBox, hc_int, hc_bool, hc_string, hc_slice, hc_nilp, hc_nilm, hc_nilf, hc_agg, hc_list, hc_view, hc_ptr, hc_map, hc_func, ho_int, ho_bool, ho_string, ho_slice, ho_nilp, ho_nilm, ho_nilf, ho_list, ho_view, ho_ptr, ho_map, ho_func, putCells, hAppend, lcells, litCells, isNilS, llen, room, vMk, set_at, Join, vToInt, vSlice, cutAt, intAt, bl_len, bits64, bits64u, bits8, Try.underlying3, Try.underlying24, Try.underlying29, Try.underlying70, Try.underlying72, Try.underlying119, Try.underlying128, hs, rd, h, h']
theorem fails (p : Nat) (bs : List Int) (s : HS) (hs : s p = some (rd bs 0)) : HC Try.prog 74 [.ptr p 0, .lit (.int .i64 2)] s (fun v s' => s' = s.set p (rd bs 2)) := by
  refine HC74 ?_
  simp only [c74]
  refine (err p bs 0 s hs).mono ?_
  rintro v s1 ⟨rfl, rfl⟩
  simp [bindO, hcond, vCmp, vBin, vEq, vUn, vNil, vField, vLoad, takeCells, vIdx, vLenT, vLen, vExtract, hBS, hfill, hNew, hStore, hBox, hc_int, hc_bool, hc_string, hc_slice, hc_nilp, hc_nilm, hc_nilf, hc_agg, hc_list, hc_view, hc_ptr, hc_map, hc_func, ho_int, ho_bool, ho_string, ho_slice, ho_nilp, ho_nilm, ho_nilf, ho_list, ho_view, ho_ptr, ho_map, ho_func, putCells, hAppend, lcells, litCells, isNilS, llen, room, vMk, set_at, Join, vToInt, vSlice, cutAt, intAt, bl_len, bits64, bits64u, bits8, Try.underlying3, Try.underlying24, Try.underlying29, Try.underlying70, Try.underlying72, Try.underlying119, Try.underlying128, hs, rd]
theorem takes (p : Nat) (bs : List Int) (s : HS) (hs : s p = some (rd bs 0)) (h8 : 8 ≤ bs.length) (hb : bs.length ≤ 140737488355328) :
    HC Try.prog 75 [.ptr p 0, .lit (.int .i64 8)] s (fun v s' => v = .list 1 8 (bl (bs.take 8)) false ∧ s' = s.set p (rd (bs.drop 8) 0)) := by
  refine HC75 ?_
  simp only [c75]
  refine (err p bs 0 s hs).mono ?_
  rintro v s1 ⟨rfl, rfl⟩
  have h8' : ¬ ((bs.length : Int) < 8) := by omega
  have h8'' : (8 : Int) ≤ bs.length := by omega
  have e1 : (bs.take 8).length = 8 := by simp; omega
  have e2 : (bl bs).take 8 = bl (bs.take 8) := by simp [bl, List.map_take]
  have e3 : ((bl bs).drop 8).take (bs.length - 8) = bl (bs.drop 8) := by simp only [bl, ← List.map_take, ← List.map_drop]; rw [List.take_of_length_le (by simp)]
  simp [bindO, hcond, vCmp, vBin, vEq, vUn, vNil, vField, vLoad, takeCells, vIdx, vLenT, vLen, vExtract, hBS, hfill, hNew, hStore, hBox, hc_int, hc_bool, hc_string, hc_slice, hc_nilp, hc_nilm, hc_nilf, hc_agg, hc_list, hc_view, hc_ptr, hc_map, hc_func, ho_int, ho_bool, ho_string, ho_slice, ho_nilp, ho_nilm, ho_nilf, ho_list, ho_view, ho_ptr, ho_map, ho_func, putCells, hAppend, lcells, litCells, isNilS, llen, room, vMk, set_at, Join, vToInt, vSlice, cutAt, intAt, bl_len, bits64, bits64u, bits8, Try.underlying3, Try.underlying24, Try.underlying29, Try.underlying70, Try.underlying72, Try.underlying119, Try.underlying128, hs, rd, h8', h8'', e2]
  have := clone_list (bs.take 8) false s1 (by omega)
  rw [e1] at this
  refine this.mono ?_
  rintro v s2 ⟨rfl, rfl⟩
  simp [bindO, hcond, vCmp, vBin, vEq, vUn, vNil, vField, vLoad, takeCells, vIdx, vLenT, vLen, vExtract, hBS, hfill, hNew, hStore, hBox, hc_int, hc_bool, hc_string, hc_slice, hc_nilp, hc_nilm, hc_nilf, hc_agg, hc_list, hc_view, hc_ptr, hc_map, hc_func, ho_int, ho_bool, ho_string, ho_slice, ho_nilp, ho_nilm, ho_nilf, ho_list, ho_view, ho_ptr, ho_map, ho_func, putCells, hAppend, lcells, litCells, isNilS, llen, room, vMk, set_at, Join, vToInt, vSlice, cutAt, intAt, bl_len, bits64, bits64u, bits8, Try.underlying3, Try.underlying24, Try.underlying29, Try.underlying70, Try.underlying72, Try.underlying119, Try.underlying128, hs, rd, h8', h8'', e3]
theorem fixed_bad (p : Nat) (bs : List Int) (s : HS) (hs : s p = some (rd bs 2)) : HC Try.prog 63 [.ptr p 0, .lit (.int .i64 8)] s (fun v s' => v = .lit (.int .i64 0) ∧ s' = s) := by
  refine HC63 ?_
  simp only [c63]
  refine (err p bs 2 s hs).mono ?_
  rintro v s1 ⟨rfl, rfl⟩
  simp [bindO, hcond, vCmp, vBin, vEq, vUn, vNil, vField, vLoad, takeCells, vIdx, vLenT, vLen, vExtract, hBS, hfill, hNew, hStore, hBox, hc_int, hc_bool, hc_string, hc_slice, hc_nilp, hc_nilm, hc_nilf, hc_agg, hc_list, hc_view, hc_ptr, hc_map, hc_func, ho_int, ho_bool, ho_string, ho_slice, ho_nilp, ho_nilm, ho_nilf, ho_list, ho_view, ho_ptr, ho_map, ho_func, putCells, hAppend, lcells, litCells, isNilS, llen, room, vMk, set_at, Join, vToInt, vSlice, cutAt, intAt, bl_len, bits64, bits64u, bits8, Try.underlying3, Try.underlying24, Try.underlying29, Try.underlying70, Try.underlying72, Try.underlying119, Try.underlying128]
theorem fixed_short (p : Nat) (bs : List Int) (s : HS) (hs : s p = some (rd bs 0)) (h : bs.length < 8) : HC Try.prog 63 [.ptr p 0, .lit (.int .i64 8)] s (fun v s' => v = .lit (.int .i64 0) ∧ s' = s.set p (rd bs 2)) := by
  refine HC63 ?_
  simp only [c63]
  refine (err p bs 0 s hs).mono ?_
  rintro v s1 ⟨rfl, rfl⟩
  have h' : (bs.length : Int) < 8 := by omega
  have hs' := hs
  simp only [rd] at hs'
  simp [bindO, hcond, vCmp, vBin, vEq, vUn, vNil, vField, vLoad, takeCells, vIdx, vLenT, vLen, vExtract, hBS, hfill, hNew, hStore, hBox, hc_int, hc_bool, hc_string, hc_slice, hc_nilp, hc_nilm, hc_nilf, hc_agg, hc_list, hc_view, hc_ptr, hc_map, hc_func, ho_int, ho_bool, ho_string, ho_slice, ho_nilp, ho_nilm, ho_nilf, ho_list, ho_view, ho_ptr, ho_map, ho_func, putCells, hAppend, lcells, litCells, isNilS, llen, room, vMk, set_at, Join, vToInt, vSlice, cutAt, intAt, bl_len, bits64, bits64u, bits8, Try.underlying3, Try.underlying24, Try.underlying29, Try.underlying70, Try.underlying72, Try.underlying119, Try.underlying128, hs', h']
  refine (fails p bs s1 hs).mono ?_
  rintro v s2 rfl
  simp

theorem getFixed (p : Nat) (n : Int) (rest : List Int) (s : HS) (hs : s p = some (rd (fx n 8 ++ rest) 0)) (hn : 0 ≤ n) (hn2 : n < 9223372036854775808) (hb : rest.length ≤ 140737488350000) :
    HC Try.prog 63 [.ptr p 0, .lit (.int .i64 8)] s (fun v s' => v = .lit (.int .i64 n) ∧ s' = s.set p (rd rest 0)) := by
  refine HC63 ?_
  simp only [c63]
  refine (err p _ 0 s hs).mono ?_
  rintro v s1 ⟨rfl, rfl⟩
  have hs' := hs
  simp only [rd] at hs'
  have hl : (fx n 8 ++ rest).length = 8 + rest.length := by rw [List.length_append, fx_len]
  obtain ⟨N, hN⟩ : ∃ N, (fx n 8 ++ rest).length = N := ⟨_, rfl⟩
  have h1 : ¬ ((N : Int) < 8) := by omega
  have hi := bl_idx (fx n 8 ++ rest) 0 (by omega)
  have h0 : (fx n 8 ++ rest).getD 0 0 = by8 n 7 := rfl
  rw [h0, List.drop_zero] at hi
  have hsm : ¬ 127 < by8 n 7 := by
    unfold by8
    show ¬ 127 < (n / 72057594037927936) % 256
    omega
  have hpos : 0 < N := by omega
  rw [hN] at hs'
  simp [bindO, hcond, vCmp, vBin, vEq, vUn, vNil, vField, vLoad, takeCells, vIdx, vLenT, vLen, vExtract, hBS, hfill, hNew, hStore, hBox, hc_int, hc_bool, hc_string, hc_slice, hc_nilp, hc_nilm, hc_nilf, hc_agg, hc_list, hc_view, hc_ptr, hc_map, hc_func, ho_int, ho_bool, ho_string, ho_slice, ho_nilp, ho_nilm, ho_nilf, ho_list, ho_view, ho_ptr, ho_map, ho_func, putCells, hAppend, lcells, litCells, isNilS, llen, room, vMk, set_at, Join, vToInt, vSlice, cutAt, intAt, bl_len, bits64, bits64u, bits8, Try.underlying3, Try.underlying24, Try.underlying29, Try.underlying70, Try.underlying72, Try.underlying119, Try.underlying128, hs', hi, h1, hpos, hsm]
  refine (takes p _ s1 hs (by omega) (by omega)).mono ?_
  rintro v s2 ⟨rfl, rfl⟩
  have ht : (fx n 8 ++ rest).take 8 = fx n 8 := by rw [List.take_append_of_le_length (by rw [fx_len]; exact Nat.le_refl _)]; exact List.take_of_length_le (by rw [fx_len]; exact Nat.le_refl _)
  have hd : (fx n 8 ++ rest).drop 8 = rest := by rw [List.drop_append_of_le_length (by rw [fx_len]; exact Nat.le_refl _), List.drop_of_length_le (by rw [fx_len]; exact Nat.le_refl _)]; rfl
  rw [ht, hd]
  simp only [bindO, hcond, vCmp, vBin, vEq, vUn, vNil, vField, vLoad, takeCells, vIdx, vLenT, vLen, vExtract, hBS, hfill, hNew, hStore, hBox, hc_int, hc_bool, hc_string, hc_slice, hc_nilp, hc_nilm, hc_nilf, hc_agg, hc_list, hc_view, hc_ptr, hc_map, hc_func, ho_int, ho_bool, ho_string, ho_slice, ho_nilp, ho_nilm, ho_nilf, ho_list, ho_view, ho_ptr, ho_map, ho_func, putCells, hAppend, lcells, litCells, isNilS, llen, room, vMk, set_at, Join, vToInt, vSlice, cutAt, intAt, bl_len, bits64, bits64u, bits8, Try.underlying3, Try.underlying24, Try.underlying29, Try.underlying70, Try.underlying72, Try.underlying119, Try.underlying128]
  refine HLoop.ghost (fun k : Nat => [.lit (.int .i64 (upto n k)), .lit (.int .i64 k)]) (fun k s => k ≤ 8 ∧ s = s1.set p (rd rest 0)) (fun k => 8 - k) 0 ?_ ⟨by decide, rfl⟩ ?_
  · rw [show upto n 0 = 0 from Int.ediv_eq_zero_of_lt hn (by show n < 18446744073709551616; omega)]
    rfl
  · rintro k s K ⟨hk, rfl⟩ hK
    by_cases hlt : k < 8
    · have hbk := bl_idx (fx n 8) k (by rw [fx_len]; exact hlt)
      rw [fx_get hlt] at hbk
      have hus := upto_succ (n := n) hlt
      have hbr := by8_range n (7 - (k : Int))
      generalize by8 n (7 - (k : Int)) = bk at *
      have hul := upto_le hn (k + 1)
      have hun := upto_nonneg hn k
      have hor := or_256 (x := upto n k) (c := bk) hun (by omega) hbr.1 hbr.2
      have hlt' : (k : Int) < 8 := by omega
      simp [bindO, hcond, vCmp, vBin, vEq, vUn, vNil, vField, vLoad, takeCells, vIdx, vLenT, vLen, vExtract, hBS, hfill, hNew, hStore, hBox, hc_int, hc_bool, hc_string, hc_slice, hc_nilp, hc_nilm, hc_nilf, hc_agg, hc_list, hc_view, hc_ptr, hc_map, hc_func, ho_int, ho_bool, ho_string, ho_slice, ho_nilp, ho_nilm, ho_nilf, ho_list, ho_view, ho_ptr, ho_map, ho_func, putCells, hAppend, lcells, litCells, isNilS, llen, room, vMk, set_at, Join, vToInt, vSlice, cutAt, intAt, bl_len, bits64, bits64u, bits8, Try.underlying3, Try.underlying24, Try.underlying29, Try.underlying70, Try.underlying72, Try.underlying119, Try.underlying128, hlt', hlt, hbk]
      refine hK (k + 1) _ _ ?_ ⟨hlt, rfl⟩ (by omega)
      rw [hus, ← hor, w64 (x := (k : Int) + 1) (by omega) (by omega)]
      rfl
    · obtain rfl : k = 8 := by omega
      have hu : upto n 8 = n := by unfold upto; simp
      simp [bindO, hcond, vCmp, vBin, vEq, vUn, vNil, vField, vLoad, takeCells, vIdx, vLenT, vLen, vExtract, hBS, hfill, hNew, hStore, hBox, hc_int, hc_bool, hc_string, hc_slice, hc_nilp, hc_nilm, hc_nilf, hc_agg, hc_list, hc_view, hc_ptr, hc_map, hc_func, ho_int, ho_bool, ho_string, ho_slice, ho_nilp, ho_nilm, ho_nilf, ho_list, ho_view, ho_ptr, ho_map, ho_func, putCells, hAppend, lcells, litCells, isNilS, llen, room, vMk, set_at, Join, vToInt, vSlice, cutAt, intAt, bl_len, bits64, bits64u, bits8, Try.underlying3, Try.underlying24, Try.underlying29, Try.underlying70, Try.underlying72, Try.underlying119, Try.underlying128, hu]

-- the writer
def wr0 : HObj := .cells [.lit (.slice none 0 0), .lit (.bool false)]
def wrq (q n : Nat) : HObj := .cells [.view q 0 1 n false, .lit (.bool false)]
/-- A writer at p beside what b tells. -/
def IsW (b s : HS) (p : Nat) (bs : List Int) : Prop :=
  HS.le b s ∧ b p = none ∧ ((bs = [] ∧ s p = some wr0) ∨ ∃ q, b q = none ∧ q ≠ p ∧ s p = some (wrq q bs.length) ∧ s q = some (.cells (bl bs)))
theorem IsW.new {s : HS} {p : Nat} (h : s p = none) : IsW s (s.set p wr0) p [] := ⟨le_set_new _ (le_refl' s) h, h, .inl ⟨rfl, set_at _ _ _⟩⟩
theorem IsW.setNew {b s : HS} {p x : Nat} {bs : List Int} (o : HObj) (h : IsW b s p bs) (hx : s x = none) : IsW (b.set x o) (s.set x o) p bs := by
  obtain ⟨h1, h2, h3⟩ := h
  have hbx : b x = none := by
    cases e : b x with
    | none => rfl
    | some o' => rw [h1 x o' e] at hx; cases hx
  have hpx : p ≠ x := by
    rintro rfl
    rcases h3 with ⟨-, h⟩ | ⟨q, -, -, h, -⟩ <;> rw [h] at hx <;> cases hx
  refine ⟨le_set h1 x o, by rw [set_ne _ _ hpx]; exact h2, ?_⟩
  rcases h3 with ⟨e, h⟩ | ⟨q, hq, hqp, h, hc⟩
  · exact .inl ⟨e, by rw [set_ne _ _ hpx]; exact h⟩
  · have hqx : q ≠ x := by rintro rfl; rw [hc] at hx; cases hx
    exact .inr ⟨q, by rw [set_ne _ _ hqx]; exact hq, hqp, by rw [set_ne _ _ hpx]; exact h, by rw [set_ne _ _ hqx]; exact hc⟩
theorem IsW.setOld {b s : HS} {p x : Nat} {bs : List Int} (o : HObj) {o' : HObj} (h : IsW b s p bs) (hx : b x = some o') : IsW (b.set x o) (s.set x o) p bs := by
  obtain ⟨h1, h2, h3⟩ := h
  have hpx : p ≠ x := by rintro rfl; rw [h2] at hx; cases hx
  refine ⟨le_set h1 x o, by rw [set_ne _ _ hpx]; exact h2, ?_⟩
  rcases h3 with ⟨e, h⟩ | ⟨q, hq, hqp, h, hc⟩
  · exact .inl ⟨e, by rw [set_ne _ _ hpx]; exact h⟩
  · have hqx : q ≠ x := by rintro rfl; rw [hq] at hx; cases hx
    exact .inr ⟨q, by rw [set_ne _ _ hqx]; exact hq, hqp, by rw [set_ne _ _ hpx]; exact h, by rw [set_ne _ _ hqx]; exact hc⟩
theorem le_none {b' b : HS} (h : HS.le b' b) {p : Nat} (hp : b p = none) : b' p = none := by
  cases e : b' p with
  | none => rfl
  | some o => rw [h p o e] at hp; cases hp
theorem IsW.weaken {b b' s : HS} {p : Nat} {bs : List Int} (h : IsW b s p bs) (hb : HS.le b' b) : IsW b' s p bs := by
  obtain ⟨h1, h2, h3⟩ := h
  refine ⟨hb.trans h1, le_none hb h2, ?_⟩
  rcases h3 with h3 | ⟨q, hq, r⟩
  · exact .inl h3
  · exact .inr ⟨q, le_none hb hq, r⟩
theorem fixed (b : HS) (p : Nat) (n : Int) (bs : List Int) (s : HS) (hs : IsW b s p bs) (hn : 0 ≤ n) (hb : bs.length ≤ 100000) :
    HC Try.prog 58 [.ptr p 0, .lit (.int .i64 n), .lit (.int .i64 8)] s (fun v s' => v = .ptr p 0 ∧ IsW b s' p (bs ++ fx n 8)) := by
  refine HC58 ?_
  have hn' : ¬ n < 0 := by omega
  simp [c58, bindO, hcond, vCmp, vBin, vEq, vUn, vNil, vField, vLoad, takeCells, vIdx, vLenT, vLen, vExtract, hBS, hfill, hNew, hStore, hBox, hc_int, hc_bool, hc_string, hc_slice, hc_nilp, hc_nilm, hc_nilf, hc_agg, hc_list, hc_view, hc_ptr, hc_map, hc_func, ho_int, ho_bool, ho_string, ho_slice, ho_nilp, ho_nilm, ho_nilf, ho_list, ho_view, ho_ptr, ho_map, ho_func, putCells, hAppend, lcells, litCells, isNilS, llen, room, vMk, set_at, Join, vToInt, vSlice, cutAt, intAt, bl_len, bits64, bits64u, bits8, Try.underlying3, Try.underlying24, Try.underlying29, Try.underlying70, Try.underlying72, Try.underlying119, Try.underlying128, hn', show IntKind.i64.wrap 7 = 7 from rfl]
  refine HLoop.ghost (fun k : Nat => [.lit (.int .i64 (7 - k))]) (fun k s => k ≤ 8 ∧ IsW b s p (bs ++ fx n k)) (fun k => 8 - k) 0 rfl ⟨by decide, by simpa [fx] using hs⟩ ?_
  rintro k s1 K ⟨hk, hI⟩ hK
  by_cases hlt : k < 8
  · have h1 : (k : Int) ≤ 7 := by omega
    have hI0 := hI
    obtain ⟨g1, g2, g3⟩ := hI
    have e1 : IntKind.i64.wrap (8 * (7 - (k : Int))) = 8 * (7 - (k : Int)) := w64 (by omega) (by omega)
    have e2 : ¬ 8 * (7 - (k : Int)) < 0 := by omega
    have e3 : IntKind.u8.wrap (n.fdiv (2 ^ min (8 * (7 - (k : Int))).toNat 64)) = by8 n (7 - k) := by
      rw [w8, Int.fdiv_eq_ediv_of_nonneg _ (Int.le_of_lt (Int.pow_pos (by decide))), Nat.min_eq_left (by omega)]
      rfl
    have hfin : ∀ (s2 : HS) (q : Nat), HS.le b s2 → b q = none → q ≠ p → s2 p = some (wrq q (bs ++ fx n k).length.succ) → s2 q = some (.cells (bl (bs ++ fx n k) ++ [.lit (.int .u8 (by8 n (7 - k)))])) → K [.lit (.int .i64 (IntKind.i64.wrap (7 - (k : Int) - 1)))] s2 := by
      intro s2 q f1 f2 f3 f4 f5
      refine hK (k + 1) _ _ ?_ ⟨hlt, f1, g2, .inr ⟨q, f2, f3, ?_, ?_⟩⟩ (by omega)
      · rw [w64 (by omega) (by omega)]
        simp; omega
      · rw [fx_succ, ← List.append_assoc, List.length_append]
        exact f4
      · rw [fx_succ, ← List.append_assoc, bl_app]
        exact f5
    have hL : (bs ++ fx n k).length ≤ 100008 := by rw [List.length_append, fx_len]; omega
    generalize bs ++ fx n k = L at *
    rcases g3 with ⟨e, hp⟩ | ⟨q, hq, hqp, hp, hc⟩
    · simp only [wr0] at hp
      simp [bindO, hcond, vCmp, vBin, vEq, vUn, vNil, vField, vLoad, takeCells, vIdx, vLenT, vLen, vExtract, hBS, hfill, hNew, hStore, hBox, hc_int, hc_bool, hc_string, hc_slice, hc_nilp, hc_nilm, hc_nilf, hc_agg, hc_list, hc_view, hc_ptr, hc_map, hc_func, ho_int, ho_bool, ho_string, ho_slice, ho_nilp, ho_nilm, ho_nilf, ho_list, ho_view, ho_ptr, ho_map, ho_func, putCells, hAppend, lcells, litCells, isNilS, llen, room, vMk, set_at, Join, vToInt, vSlice, cutAt, intAt, bl_len, bits64, bits64u, bits8, Try.underlying3, Try.underlying24, Try.underlying29, Try.underlying70, Try.underlying72, Try.underlying119, Try.underlying128, h1, hp, e1, e2, e3]
      intro i1 f1
      have n1 := ne_new hp f1
      simp [bindO, hcond, vCmp, vBin, vEq, vUn, vNil, vField, vLoad, takeCells, vIdx, vLenT, vLen, vExtract, hBS, hfill, hNew, hStore, hBox, hc_int, hc_bool, hc_string, hc_slice, hc_nilp, hc_nilm, hc_nilf, hc_agg, hc_list, hc_view, hc_ptr, hc_map, hc_func, ho_int, ho_bool, ho_string, ho_slice, ho_nilp, ho_nilm, ho_nilf, ho_list, ho_view, ho_ptr, ho_map, ho_func, putCells, hAppend, lcells, litCells, isNilS, llen, room, vMk, set_at, Join, vToInt, vSlice, cutAt, intAt, bl_len, bits64, bits64u, bits8, Try.underlying3, Try.underlying24, Try.underlying29, Try.underlying70, Try.underlying72, Try.underlying119, Try.underlying128, set_ne _ _ n1, hp, e3]
      intro i2 f2
      simp only [set_none_iff] at f2
      have n2 := ne_new hp f2.2
      simp [bindO, hcond, vCmp, vBin, vEq, vUn, vNil, vField, vLoad, takeCells, vIdx, vLenT, vLen, vExtract, hBS, hfill, hNew, hStore, hBox, hc_int, hc_bool, hc_string, hc_slice, hc_nilp, hc_nilm, hc_nilf, hc_agg, hc_list, hc_view, hc_ptr, hc_map, hc_func, ho_int, ho_bool, ho_string, ho_slice, ho_nilp, ho_nilm, ho_nilf, ho_list, ho_view, ho_ptr, ho_map, ho_func, putCells, hAppend, lcells, litCells, isNilS, llen, room, vMk, set_at, Join, vToInt, vSlice, cutAt, intAt, bl_len, bits64, bits64u, bits8, Try.underlying3, Try.underlying24, Try.underlying29, Try.underlying70, Try.underlying72, Try.underlying119, Try.underlying128, set_ne _ _ n1, set_ne _ _ n2, hp]
      subst e
      refine hfin _ i2 ?_ (le_none g1 f2.2) (Ne.symm n2) ?_ ?_
      · intro x o hx
        have hxp : x ≠ p := by rintro rfl; rw [g2] at hx; cases hx
        have hx1 := g1 x o hx
        rw [set_ne _ _ hxp, set_ne _ _ (ne_new hx1 f2.2), set_ne _ _ (ne_new hx1 f1)]
        exact hx1
      · rw [set_at]; rfl
      · rw [set_ne _ _ (Ne.symm n2), set_at]; rfl
    · simp only [wrq] at hp
      simp [bindO, hcond, vCmp, vBin, vEq, vUn, vNil, vField, vLoad, takeCells, vIdx, vLenT, vLen, vExtract, hBS, hfill, hNew, hStore, hBox, hc_int, hc_bool, hc_string, hc_slice, hc_nilp, hc_nilm, hc_nilf, hc_agg, hc_list, hc_view, hc_ptr, hc_map, hc_func, ho_int, ho_bool, ho_string, ho_slice, ho_nilp, ho_nilm, ho_nilf, ho_list, ho_view, ho_ptr, ho_map, ho_func, putCells, hAppend, lcells, litCells, isNilS, llen, room, vMk, set_at, Join, vToInt, vSlice, cutAt, intAt, bl_len, bits64, bits64u, bits8, Try.underlying3, Try.underlying24, Try.underlying29, Try.underlying70, Try.underlying72, Try.underlying119, Try.underlying128, h1, hp, e1, e2, e3]
      intro i1 f1
      have n1 := ne_new hp f1
      have m1 := ne_new hc f1
      simp [bindO, hcond, vCmp, vBin, vEq, vUn, vNil, vField, vLoad, takeCells, vIdx, vLenT, vLen, vExtract, hBS, hfill, hNew, hStore, hBox, hc_int, hc_bool, hc_string, hc_slice, hc_nilp, hc_nilm, hc_nilf, hc_agg, hc_list, hc_view, hc_ptr, hc_map, hc_func, ho_int, ho_bool, ho_string, ho_slice, ho_nilp, ho_nilm, ho_nilf, ho_list, ho_view, ho_ptr, ho_map, ho_func, putCells, hAppend, lcells, litCells, isNilS, llen, room, vMk, set_at, Join, vToInt, vSlice, cutAt, intAt, bl_len, bits64, bits64u, bits8, Try.underlying3, Try.underlying24, Try.underlying29, Try.underlying70, Try.underlying72, Try.underlying119, Try.underlying128, set_ne _ _ n1, set_ne _ _ m1, hp, hc, e3]
      refine ⟨by omega, fun i2 f2 => ?_⟩
      simp only [set_none_iff] at f2
      have n2 := ne_new hp f2.2
      have m2 := ne_new hc f2.2
      simp [bindO, hcond, vCmp, vBin, vEq, vUn, vNil, vField, vLoad, takeCells, vIdx, vLenT, vLen, vExtract, hBS, hfill, hNew, hStore, hBox, hc_int, hc_bool, hc_string, hc_slice, hc_nilp, hc_nilm, hc_nilf, hc_agg, hc_list, hc_view, hc_ptr, hc_map, hc_func, ho_int, ho_bool, ho_string, ho_slice, ho_nilp, ho_nilm, ho_nilf, ho_list, ho_view, ho_ptr, ho_map, ho_func, putCells, hAppend, lcells, litCells, isNilS, llen, room, vMk, set_at, Join, vToInt, vSlice, cutAt, intAt, bl_len, bits64, bits64u, bits8, Try.underlying3, Try.underlying24, Try.underlying29, Try.underlying70, Try.underlying72, Try.underlying119, Try.underlying128, set_ne _ _ n1, set_ne _ _ n2, del_ne _ (Ne.symm hqp), hp]
      refine hfin _ i2 ?_ (le_none g1 f2.2) (Ne.symm n2) ?_ ?_
      · intro x o hx
        have hxp : x ≠ p := by rintro rfl; rw [g2] at hx; cases hx
        have hxq : x ≠ q := by rintro rfl; rw [hq] at hx; cases hx
        have hx1 := g1 x o hx
        rw [set_ne _ _ hxp, set_ne _ _ (ne_new hx1 f2.2), del_ne _ hxq, set_ne _ _ (ne_new hx1 f1)]
        exact hx1
      · rw [set_at]; rfl
      · rw [set_ne _ _ (Ne.symm n2), set_at]
  · obtain rfl : k = 8 := by omega
    simp [bindO, hcond, vCmp, vBin, vEq, vUn, vNil, vField, vLoad, takeCells, vIdx, vLenT, vLen, vExtract, hBS, hfill, hNew, hStore, hBox, hc_int, hc_bool, hc_string, hc_slice, hc_nilp, hc_nilm, hc_nilf, hc_agg, hc_list, hc_view, hc_ptr, hc_map, hc_func, ho_int, ho_bool, ho_string, ho_slice, ho_nilp, ho_nilm, ho_nilf, ho_list, ho_view, ho_ptr, ho_map, ho_func, putCells, hAppend, lcells, litCells, isNilS, llen, room, vMk, set_at, Join, vToInt, vSlice, cutAt, intAt, bl_len, bits64, bits64u, bits8, Try.underlying3, Try.underlying24, Try.underlying29, Try.underlying70, Try.underlying72, Try.underlying119, Try.underlying128]
    exact hI
set_option maxRecDepth 100000 in
theorem wdone (b : HS) (p : Nat) (bs : List Int) (s : HS) (hs : IsW b s p bs) (hb : bs.length ≤ 100000) :
    HC Try.prog 59 [.ptr p 0] s (fun v s' => v = .tup [.list 1 bs.length (bl bs) false, .lit (.bool true)] ∧ s' = s) := by
  unfold IsW at hs
  obtain ⟨g1, g2, g3⟩ := hs
  refine HC59 ?_
  rcases g3 with ⟨e, hp⟩ | ⟨q, hq, hqp, hp, hc⟩
  · rw [e]
    simp only [wr0] at hp
    simp [c59, bindO, hcond, vCmp, vBin, vEq, vUn, vNil, vField, vLoad, takeCells, vIdx, vLenT, vLen, vExtract, hBS, hfill, hNew, hStore, hBox, hc_int, hc_bool, hc_string, hc_slice, hc_nilp, hc_nilm, hc_nilf, hc_agg, hc_list, hc_view, hc_ptr, hc_map, hc_func, ho_int, ho_bool, ho_string, ho_slice, ho_nilp, ho_nilm, ho_nilf, ho_list, ho_view, ho_ptr, ho_map, ho_func, putCells, hAppend, lcells, litCells, isNilS, llen, room, vMk, set_at, Join, vToInt, vSlice, cutAt, intAt, bl_len, bits64, bits64u, bits8, Try.underlying3, Try.underlying24, Try.underlying29, Try.underlying70, Try.underlying72, Try.underlying119, Try.underlying128, hp]
    refine (clone_nil s).mono ?_
    rintro v s1 ⟨rfl, rfl⟩
    exact ⟨rfl, rfl⟩
  · simp only [wrq] at hp
    simp [c59, bindO, hcond, vCmp, vBin, vEq, vUn, vNil, vField, vLoad, takeCells, vIdx, vLenT, vLen, vExtract, hBS, hfill, hNew, hStore, hBox, hc_int, hc_bool, hc_string, hc_slice, hc_nilp, hc_nilm, hc_nilf, hc_agg, hc_list, hc_view, hc_ptr, hc_map, hc_func, ho_int, ho_bool, ho_string, ho_slice, ho_nilp, ho_nilm, ho_nilf, ho_list, ho_view, ho_ptr, ho_map, ho_func, putCells, hAppend, lcells, litCells, isNilS, llen, room, vMk, set_at, Join, vToInt, vSlice, cutAt, intAt, bl_len, bits64, bits64u, bits8, Try.underlying3, Try.underlying24, Try.underlying29, Try.underlying70, Try.underlying72, Try.underlying119, Try.underlying128, hp]
    refine (clone_view q bs.length bs s hc (Nat.le_refl _) (Nat.le_trans hb (by decide))).mono ?_
    rintro v s1 ⟨rfl, rfl⟩
    rw [List.take_length]
    exact ⟨rfl, rfl⟩
end Go.Proofs.Ytpibjdkenifggaa.OW
