/- What the proof of the law CleanFolds needs, cut out of the session's own texts by a program (slim.py): part 3. -/
import Derived.Test.YtecnfekcflfihaaQCleanFoldsb
section
namespace Go.Proofs.Ytecnfekcflfihaa.CL
open Go.Proofs.Ytecnfekcflfihaa.H Go.Proofs.Ytecnfekcflfihaa.C0
set_option linter.unusedVariables false
set_option linter.unusedSimpArgs false
set_option maxRecDepth 100000
theorem w64 {x : Int} (h : -9223372036854775808 ≤ x) (h' : x < 9223372036854775808) : IntKind.i64.wrap x = x := by rw [IntKind.wrap_i64]; omega
theorem clone_list (l : List Int) (f : Bool) (s : HS) (hb : l.length ≤ 140737488355328) : HC Try.prog 72 [.list 1 l.length (bl l) f] s (fun v s' => v = .list 1 l.length (bl l) false ∧ s' = s) := by
  cases l with
  | nil =>
    refine HC.nilOr (pre := []) (post := []) ?_ ?_
    · refine HC.up (HC72 ?_)
      simp [c72, bindO, hcond, vCmp, vBin, vEq, vUn, vNil, vField, vLoad, takeCells, vIdx, vLenT, vLen, vExtract, hBS, hfill, hNew, hStore, hBox, hc_int, hc_bool, hc_string, hc_slice, hc_nilp, hc_nilm, hc_nilf, hc_agg, hc_list, hc_view, hc_ptr, hc_map, hc_func, ho_int, ho_bool, ho_string, ho_slice, ho_nilp, ho_nilm, ho_nilf, ho_list, ho_view, ho_ptr, ho_map, ho_func, putCells, hAppend, lcells, litCells, isNilS, llen, room, vMk, set_at, Join, vToInt, vSlice, vSliceX, cutAt, intAt, bl_len, bits64, bits64u, bits8, hfold, vMax2, vMin2, Try.underlying3, Try.underlying4, Try.underlying9, Try.underlying22, Try.underlying31, Try.underlying32, Try.underlying36, Try.underlying44, Try.underlying64, Try.underlying80, Try.underlying90, Try.underlying123]
      exact up_lit_nil 1 (le_refl' s)
    · refine HC.up (HC72 ?_)
      simp [c72, bindO, hcond, vCmp, vBin, vEq, vUn, vNil, vField, vLoad, takeCells, vIdx, vLenT, vLen, vExtract, hBS, hfill, hNew, hStore, hBox, hc_int, hc_bool, hc_string, hc_slice, hc_nilp, hc_nilm, hc_nilf, hc_agg, hc_list, hc_view, hc_ptr, hc_map, hc_func, ho_int, ho_bool, ho_string, ho_slice, ho_nilp, ho_nilm, ho_nilf, ho_list, ho_view, ho_ptr, ho_map, ho_func, putCells, hAppend, lcells, litCells, isNilS, llen, room, vMk, set_at, Join, vToInt, vSlice, vSliceX, cutAt, intAt, bl_len, bits64, bits64u, bits8, hfold, vMax2, vMin2, Try.underlying3, Try.underlying4, Try.underlying9, Try.underlying22, Try.underlying31, Try.underlying32, Try.underlying36, Try.underlying44, Try.underlying64, Try.underlying80, Try.underlying90, Try.underlying123]
      intro id hid
      exact up1 (set_at _ _ _) rfl (le_del_new (le_set_new _ (le_refl' s) hid) hid)
  | cons b l =>
    refine HC.up (HC72 ?_)
    simp [c72, bindO, hcond, vCmp, vBin, vEq, vUn, vNil, vField, vLoad, takeCells, vIdx, vLenT, vLen, vExtract, hBS, hfill, hNew, hStore, hBox, hc_int, hc_bool, hc_string, hc_slice, hc_nilp, hc_nilm, hc_nilf, hc_agg, hc_list, hc_view, hc_ptr, hc_map, hc_func, ho_int, ho_bool, ho_string, ho_slice, ho_nilp, ho_nilm, ho_nilf, ho_list, ho_view, ho_ptr, ho_map, ho_func, putCells, hAppend, lcells, litCells, isNilS, llen, room, vMk, set_at, Join, vToInt, vSlice, vSliceX, cutAt, intAt, bl_len, bits64, bits64u, bits8, hfold, vMax2, vMin2, Try.underlying3, Try.underlying4, Try.underlying9, Try.underlying22, Try.underlying31, Try.underlying32, Try.underlying36, Try.underlying44, Try.underlying64, Try.underlying80, Try.underlying90, Try.underlying123]
    intro id hid
    refine ⟨by simp at hb; omega, ?_⟩
    intro id2 h2
    simp only [set_none_iff] at h2
    exact up1 (set_at _ _ _) (by simp [bl_len]) (le_del_new (le_set_new _ (le_set_new _ (le_refl' s) hid) (by simp [set_none_iff, *])) h2.2)
theorem clone_nil (s : HS) : HC Try.prog 72 [.lit (.slice none 0 0)] s (fun v s' => v = .lit (.slice none 0 0) ∧ s' = s) := by
  refine HC72 ?_
  simp [c72, bindO, hcond, vCmp, vBin, vEq, vUn, vNil, vField, vLoad, takeCells, vIdx, vLenT, vLen, vExtract, hBS, hfill, hNew, hStore, hBox, hc_int, hc_bool, hc_string, hc_slice, hc_nilp, hc_nilm, hc_nilf, hc_agg, hc_list, hc_view, hc_ptr, hc_map, hc_func, ho_int, ho_bool, ho_string, ho_slice, ho_nilp, ho_nilm, ho_nilf, ho_list, ho_view, ho_ptr, ho_map, ho_func, putCells, hAppend, lcells, litCells, isNilS, llen, room, vMk, set_at, Join, vToInt, vSlice, vSliceX, cutAt, intAt, bl_len, bits64, bits64u, bits8, hfold, vMax2, vMin2, Try.underlying3, Try.underlying4, Try.underlying9, Try.underlying22, Try.underlying31, Try.underlying32, Try.underlying36, Try.underlying44, Try.underlying64, Try.underlying80, Try.underlying90, Try.underlying123]
/-- Bytes that may be nil. -/
def byV : Option (List Int) → HV
  | none => .lit (.slice none 0 0)
  | some l => .list 1 l.length (bl l) false
def short : Option (List Int) → Prop
  | none => True
  | some l => l.length ≤ 140737488355328
theorem clone (k : Option (List Int)) (s : HS) (hk : short k) : HC Try.prog 72 [byV k] s (fun v s' => v = byV k ∧ s' = s) := by
  cases k with
  | none => exact clone_nil s
  | some l => exact clone_list l false s hk
theorem hc_by (k : Option (List Int)) : hcells (byV k) = some [byV k] := by cases k <;> rfl
theorem ho_by (k : Option (List Int)) : hone (byV k) = true := by cases k <;> rfl
structure Rec where
  off : Int
  time : Int
  hasKey : Bool
  key : Option (List Int)
  hasVal : Bool
  val : Option (List Int)
def recC (r : Rec) : List HV := [.lit (.int .i64 r.off), .lit (.int .i64 r.time), .lit (.bool r.hasKey), byV r.key, .lit (.bool r.hasVal), byV r.val]
theorem recC_len (r : Rec) : (recC r).length = 6 := rfl
theorem ho_recC (r : Rec) : (∀ x ∈ recC r, hone x = true) = True := by
  simp [recC, bindO, hcond, vCmp, vBin, vEq, vUn, vNil, vField, vLoad, takeCells, vIdx, vLenT, vLen, vExtract, hBS, hfill, hNew, hStore, hBox, hc_int, hc_bool, hc_string, hc_slice, hc_nilp, hc_nilm, hc_nilf, hc_agg, hc_list, hc_view, hc_ptr, hc_map, hc_func, ho_int, ho_bool, ho_string, ho_slice, ho_nilp, ho_nilm, ho_nilf, ho_list, ho_view, ho_ptr, ho_map, ho_func, putCells, hAppend, lcells, litCells, isNilS, llen, room, vMk, set_at, Join, vToInt, vSlice, vSliceX, cutAt, intAt, bl_len, bits64, bits64u, bits8, hfold, vMax2, vMin2, Try.underlying3, Try.underlying4, Try.underlying9, Try.underlying22, Try.underlying31, Try.underlying32, Try.underlying36, Try.underlying44, Try.underlying64, Try.underlying80, Try.underlying90, Try.underlying123, ho_by]
theorem hcz (r : Rec) : (recC r).take 6 = recC r := rfl
theorem own (r : Rec) (s : HS) (h1 : short r.key) (h2 : short r.val) : HC Try.prog 58 [.agg (recC r)] s (fun v s' => v = .agg (recC r) ∧ s' = s) := by
  refine HC.weaken (HC58 ?_)
  simp [c58, bindO, hcond, vCmp, vBin, vEq, vUn, vNil, vField, vLoad, takeCells, vIdx, vLenT, vLen, vExtract, hBS, hfill, hNew, hStore, hBox, hc_int, hc_bool, hc_string, hc_slice, hc_nilp, hc_nilm, hc_nilf, hc_agg, hc_list, hc_view, hc_ptr, hc_map, hc_func, ho_int, ho_bool, ho_string, ho_slice, ho_nilp, ho_nilm, ho_nilf, ho_list, ho_view, ho_ptr, ho_map, ho_func, putCells, hAppend, lcells, litCells, isNilS, llen, room, vMk, set_at, Join, vToInt, vSlice, vSliceX, cutAt, intAt, bl_len, bits64, bits64u, bits8, hfold, vMax2, vMin2, Try.underlying3, Try.underlying4, Try.underlying9, Try.underlying22, Try.underlying31, Try.underlying32, Try.underlying36, Try.underlying44, Try.underlying64, Try.underlying80, Try.underlying90, Try.underlying123, recC]
  intro p hp q hq
  have hne := ne_new (set_at s p _) hq
  simp only [set_none_iff] at hq
  obtain ⟨-, hq⟩ := hq
  simp [bindO, hcond, vCmp, vBin, vEq, vUn, vNil, vField, vLoad, takeCells, vIdx, vLenT, vLen, vExtract, hBS, hfill, hNew, hStore, hBox, hc_int, hc_bool, hc_string, hc_slice, hc_nilp, hc_nilm, hc_nilf, hc_agg, hc_list, hc_view, hc_ptr, hc_map, hc_func, ho_int, ho_bool, ho_string, ho_slice, ho_nilp, ho_nilm, ho_nilf, ho_list, ho_view, ho_ptr, ho_map, ho_func, putCells, hAppend, lcells, litCells, isNilS, llen, room, vMk, set_at, Join, vToInt, vSlice, vSliceX, cutAt, intAt, bl_len, bits64, bits64u, bits8, hfold, vMax2, vMin2, Try.underlying3, Try.underlying4, Try.underlying9, Try.underlying22, Try.underlying31, Try.underlying32, Try.underlying36, Try.underlying44, Try.underlying64, Try.underlying80, Try.underlying90, Try.underlying123, set_ne _ _ hne, hc_by, ho_by]
  refine (clone r.key _ h1).mono ?_
  rintro v s1 ⟨rfl, rfl⟩
  simp [bindO, hcond, vCmp, vBin, vEq, vUn, vNil, vField, vLoad, takeCells, vIdx, vLenT, vLen, vExtract, hBS, hfill, hNew, hStore, hBox, hc_int, hc_bool, hc_string, hc_slice, hc_nilp, hc_nilm, hc_nilf, hc_agg, hc_list, hc_view, hc_ptr, hc_map, hc_func, ho_int, ho_bool, ho_string, ho_slice, ho_nilp, ho_nilm, ho_nilf, ho_list, ho_view, ho_ptr, ho_map, ho_func, putCells, hAppend, lcells, litCells, isNilS, llen, room, vMk, set_at, Join, vToInt, vSlice, vSliceX, cutAt, intAt, bl_len, bits64, bits64u, bits8, hfold, vMax2, vMin2, Try.underlying3, Try.underlying4, Try.underlying9, Try.underlying22, Try.underlying31, Try.underlying32, Try.underlying36, Try.underlying44, Try.underlying64, Try.underlying80, Try.underlying90, Try.underlying123, set_ne _ _ hne, hc_by, ho_by]
  refine (clone r.val _ h2).mono ?_
  rintro v s1 ⟨rfl, rfl⟩
  simp [bindO, hcond, vCmp, vBin, vEq, vUn, vNil, vField, vLoad, takeCells, vIdx, vLenT, vLen, vExtract, hBS, hfill, hNew, hStore, hBox, hc_int, hc_bool, hc_string, hc_slice, hc_nilp, hc_nilm, hc_nilf, hc_agg, hc_list, hc_view, hc_ptr, hc_map, hc_func, ho_int, ho_bool, ho_string, ho_slice, ho_nilp, ho_nilm, ho_nilf, ho_list, ho_view, ho_ptr, ho_map, ho_func, putCells, hAppend, lcells, litCells, isNilS, llen, room, vMk, set_at, Join, vToInt, vSlice, vSliceX, cutAt, intAt, bl_len, bits64, bits64u, bits8, hfold, vMax2, vMin2, Try.underlying3, Try.underlying4, Try.underlying9, Try.underlying22, Try.underlying31, Try.underlying32, Try.underlying36, Try.underlying44, Try.underlying64, Try.underlying80, Try.underlying90, Try.underlying123, set_ne _ _ hne, set_ne _ _ (Ne.symm hne), hc_by, ho_by]
  repeat (first | exact le_refl' _ | exact HS.le.trans (by assumption) (by assumption) | assumption | refine le_set_free _ ?_ (by assumption))
structure Bat where
  base : Int
  last : Int
  prod : Int
  epoch : Int
  seq : Int
  recs : Option (List Rec)
def recsC (l : List Rec) : List HV := l.flatMap recC
theorem recsC_len (l : List Rec) : (recsC l).length = l.length * 6 := by
  unfold recsC
  induction l with
  | nil => rfl
  | cons x r ih => rw [List.flatMap_cons, List.length_append, ih]; simp [recC]; omega
theorem recsC_app (a b : List Rec) : recsC (a ++ b) = recsC a ++ recsC b := by simp [recsC]
def r0 : Rec := ⟨0, 0, false, none, false, none⟩
theorem recsC_idx : ∀ (l : List Rec) (i : Nat), i < l.length → ((recsC l).drop (i * 6)).take 6 = recC (l.getD i r0)
  | x :: l, 0, _ => rfl
  | x :: l, i + 1, h => by
    have := recsC_idx l i (by simpa using h)
    rw [show recsC (x :: l) = recC x ++ recsC l from rfl, show (i + 1) * 6 = i * 6 + 1 + 1 + 1 + 1 + 1 + 1 by omega]
    simp only [recC, List.cons_append, List.nil_append, List.drop_succ_cons]
    exact this
def recsV : Option (List Rec) → HV
  | none => .lit (.slice none 0 0)
  | some l => .list 6 l.length (recsC l) false
def batC (b : Bat) : List HV := [.lit (.int .i64 b.base), .lit (.int .i64 b.last), .lit (.int .i64 b.prod), .lit (.int .i64 b.epoch), .lit (.int .i64 b.seq), recsV b.recs]
theorem hc_recs (k : Option (List Rec)) : hcells (recsV k) = some [recsV k] := by cases k <;> rfl
theorem ho_recs (k : Option (List Rec)) : hone (recsV k) = true := by cases k <;> rfl
def ShortR (r : Rec) : Prop := short r.key ∧ short r.val
/-- A row of records that grows. -/
def OutR (b t : HS) (p : Nat) (A : HV) (o : List Rec) : Prop :=
  (A = .lit (.slice none 0 0) ∧ o = []) ∨ ∃ q, b q = none ∧ q ≠ p ∧ A = .view q 0 6 o.length false ∧ t q = some (.cells (recsC o)) ∧ o ≠ []
theorem OutR.keep {b t t' : HS} {p : Nat} {A : HV} {o : List Rec} (h : OutR b t p A o) (hk : ∀ q ob, q ≠ p → t q = some ob → t' q = some ob) : OutR b t' p A o := by
  rcases h with h | ⟨q, h1, h2, h3, h4, h5⟩
  · exact .inl h
  · exact .inr ⟨q, h1, h2, h3, hk _ _ h2 h4, h5⟩
theorem OutR.one {b t : HS} {p : Nat} {A : HV} {o : List Rec} (h : OutR b t p A o) : hone A = true ∧ hcells A = some [A] := by
  rcases h with ⟨rfl, -⟩ | ⟨q, -, -, rfl, -, -⟩ <;> exact ⟨rfl, rfl⟩
theorem outR_append {b t : HS} {p : Nat} {A : HV} {o : List Rec} {r : Rec} {ob : HObj} {W : HS → Prop} {K : HV → HS → Prop} (h : OutR b t p A o) (hb : HS.le b t) (hp : b p = none) (hr : t p = some ob) (hl : o.length ≤ 100000)
    (hW : ∀ s, s p = some ob → W s) (hK : ∀ A' t', OutR b t' p A' (o ++ [r]) → HS.le b t' → t' p = some ob → K A' t') :
    hBS t 6 1 [.lit (.int .i64 0), .lit (.int .i64 0), .lit (.bool false), .lit (.slice none 0 0), .lit (.bool false), .lit (.slice none 0 0)] [(0, .agg (recC r))] (fun x s => (W s ∧ hAppend s 6 80 A x K)) := by
  have e6 : (recC r).length = 6 := rfl
  simp [bindO, hcond, vCmp, vBin, vEq, vUn, vNil, vField, vLoad, takeCells, vIdx, vLenT, vLen, vExtract, hBS, hfill, hNew, hStore, hBox, hc_int, hc_bool, hc_string, hc_slice, hc_nilp, hc_nilm, hc_nilf, hc_agg, hc_list, hc_view, hc_ptr, hc_map, hc_func, ho_int, ho_bool, ho_string, ho_slice, ho_nilp, ho_nilm, ho_nilf, ho_list, ho_view, ho_ptr, ho_map, ho_func, putCells, hAppend, lcells, litCells, isNilS, llen, room, vMk, set_at, Join, vToInt, vSlice, vSliceX, cutAt, intAt, bl_len, bits64, bits64u, bits8, hfold, vMax2, vMin2, Try.underlying3, Try.underlying4, Try.underlying9, Try.underlying22, Try.underlying31, Try.underlying32, Try.underlying36, Try.underlying44, Try.underlying64, Try.underlying80, Try.underlying90, Try.underlying123, e6]
  intro i1 f1
  have n1 := ne_new hr f1
  have et : (recC r).take 6 = recC r := rfl
  refine ⟨hW _ (by rw [set_ne _ _ n1]; exact hr), ?_⟩
  rcases h with ⟨rfl, rfl⟩ | ⟨q, h1, h2, rfl, h3, -⟩
  · simp [bindO, hcond, vCmp, vBin, vEq, vUn, vNil, vField, vLoad, takeCells, vIdx, vLenT, vLen, vExtract, hBS, hfill, hNew, hStore, hBox, hc_int, hc_bool, hc_string, hc_slice, hc_nilp, hc_nilm, hc_nilf, hc_agg, hc_list, hc_view, hc_ptr, hc_map, hc_func, ho_int, ho_bool, ho_string, ho_slice, ho_nilp, ho_nilm, ho_nilf, ho_list, ho_view, ho_ptr, ho_map, ho_func, putCells, hAppend, lcells, litCells, isNilS, llen, room, vMk, set_at, Join, vToInt, vSlice, vSliceX, cutAt, intAt, bl_len, bits64, bits64u, bits8, hfold, vMax2, vMin2, Try.underlying3, Try.underlying4, Try.underlying9, Try.underlying22, Try.underlying31, Try.underlying32, Try.underlying36, Try.underlying44, Try.underlying64, Try.underlying80, Try.underlying90, Try.underlying123, e6, et]
    intro i2 f2
    simp only [set_none_iff] at f2
    have n2 := ne_new hr f2.2
    refine hK _ _ (.inr ⟨i2, none_of_le hb f2.2, Ne.symm n2, rfl, ?_, by simp⟩) (le_set_new _ (le_set_new _ hb f1) (by rw [set_none_iff]; exact f2)) ?_
    · rw [set_at]; simp [recsC]
    · rw [set_ne _ _ n2, set_ne _ _ n1]; exact hr
  · have m1 := ne_new h3 f1
    have el : (recsC o).length = o.length * 6 := recsC_len o
    simp [bindO, hcond, vCmp, vBin, vEq, vUn, vNil, vField, vLoad, takeCells, vIdx, vLenT, vLen, vExtract, hBS, hfill, hNew, hStore, hBox, hc_int, hc_bool, hc_string, hc_slice, hc_nilp, hc_nilm, hc_nilf, hc_agg, hc_list, hc_view, hc_ptr, hc_map, hc_func, ho_int, ho_bool, ho_string, ho_slice, ho_nilp, ho_nilm, ho_nilf, ho_list, ho_view, ho_ptr, ho_map, ho_func, putCells, hAppend, lcells, litCells, isNilS, llen, room, vMk, set_at, Join, vToInt, vSlice, vSliceX, cutAt, intAt, bl_len, bits64, bits64u, bits8, hfold, vMax2, vMin2, Try.underlying3, Try.underlying4, Try.underlying9, Try.underlying22, Try.underlying31, Try.underlying32, Try.underlying36, Try.underlying44, Try.underlying64, Try.underlying80, Try.underlying90, Try.underlying123, set_ne _ _ m1, h3, el, e6, et]
    refine ⟨by omega, fun i2 f2 => ?_⟩
    simp only [set_none_iff] at f2
    have n2 := ne_new hr f2.2
    have m2 := ne_new h3 f2.2
    refine hK _ _ (.inr ⟨i2, none_of_le hb f2.2, Ne.symm n2, by simp, ?_, by simp⟩) ?_ ?_
    · rw [set_at, recsC_app]; simp [recsC]
    · intro k ob hk
      have hkq : k ≠ q := by rintro rfl; rw [h1] at hk; cases hk
      have hk1 := hb k ob hk
      rw [set_ne _ _ (ne_new hk1 f2.2), del_ne _ hkq, set_ne _ _ (ne_new hk1 f1)]
      exact hk1
    · rw [set_ne _ _ n2, del_ne _ (Ne.symm h2), set_ne _ _ n1]; exact hr
theorem far (n : Int) (s : HS) : HC Try.prog 55 [.lit (.int .i64 n)] s (fun v s' => v = .lit (.int .i64 (min (max n (-2305843009213693952)) 2305843009213693952)) ∧ s' = s) := by
  refine HC55 ?_
  simp [c55, bindO, hcond, vCmp, vBin, vEq, vUn, vNil, vField, vLoad, takeCells, vIdx, vLenT, vLen, vExtract, hBS, hfill, hNew, hStore, hBox, hc_int, hc_bool, hc_string, hc_slice, hc_nilp, hc_nilm, hc_nilf, hc_agg, hc_list, hc_view, hc_ptr, hc_map, hc_func, ho_int, ho_bool, ho_string, ho_slice, ho_nilp, ho_nilm, ho_nilf, ho_list, ho_view, ho_ptr, ho_map, ho_func, putCells, hAppend, lcells, litCells, isNilS, llen, room, vMk, set_at, Join, vToInt, vSlice, vSliceX, cutAt, intAt, bl_len, bits64, bits64u, bits8, hfold, vMax2, vMin2, Try.underlying3, Try.underlying4, Try.underlying9, Try.underlying22, Try.underlying31, Try.underlying32, Try.underlying36, Try.underlying44, Try.underlying64, Try.underlying80, Try.underlying90, Try.underlying123]
  omega
theorem take_succ' {α : Type} (z : α) (l : List α) {i : Nat} (h : i < l.length) : l.take (i + 1) = l.take i ++ [l.getD i z] := by
  rw [List.take_succ_eq_append_getElem h]
  simp [List.getD, h]
theorem drop_cons' {α : Type} (z : α) (l : List α) {i : Nat} (h : i < l.length) : l.drop i = l.getD i z :: l.drop (i + 1) := by
  rw [List.drop_eq_getElem_cons h]
  simp [List.getD, h]
/-- A batch's own copy. -/
theorem copy (b : Bat) (l : List Rec) (s : HS) (hb : b.recs = some l) (hl : l.length ≤ 100000) (hs : ∀ r ∈ l, ShortR r) (hne : l ≠ []) : HC Try.prog 47 [.agg (batC b)] s (fun v s' => v = .agg (batC b) ∧ s' = s) := by
  obtain ⟨c0, c1, c2, c3, c4, recs⟩ := b
  simp only at hb
  subst hb
  refine HC.up (HC47 ?_)
  simp [c47, bindO, hcond, vCmp, vBin, vEq, vUn, vNil, vField, vLoad, takeCells, vIdx, vLenT, vLen, vExtract, hNew, hStore, hBox, hc_int, hc_bool, hc_string, hc_slice, hc_nilp, hc_nilm, hc_nilf, hc_agg, hc_list, hc_view, hc_ptr, hc_map, hc_func, ho_int, ho_bool, ho_string, ho_slice, ho_nilp, ho_nilm, ho_nilf, ho_list, ho_view, ho_ptr, ho_map, ho_func, putCells, lcells, litCells, isNilS, llen, room, vMk, set_at, Join, vToInt, vSlice, vSliceX, cutAt, intAt, bl_len, bits64, bits64u, bits8, hfold, vMax2, vMin2, Try.underlying3, Try.underlying4, Try.underlying9, Try.underlying22, Try.underlying31, Try.underlying32, Try.underlying36, Try.underlying44, Try.underlying64, Try.underlying80, Try.underlying90, Try.underlying123, recC_len, ho_recC, hcz, batC, recsV]
  intro p hp q hq
  have hpq := ne_new (set_at s p _) hq
  simp only [set_none_iff] at hq
  obtain ⟨-, hq⟩ := hq
  simp [bindO, hcond, vCmp, vBin, vEq, vUn, vNil, vField, vLoad, takeCells, vIdx, vLenT, vLen, vExtract, hNew, hStore, hBox, hc_int, hc_bool, hc_string, hc_slice, hc_nilp, hc_nilm, hc_nilf, hc_agg, hc_list, hc_view, hc_ptr, hc_map, hc_func, ho_int, ho_bool, ho_string, ho_slice, ho_nilp, ho_nilm, ho_nilf, ho_list, ho_view, ho_ptr, ho_map, ho_func, putCells, lcells, litCells, isNilS, llen, room, vMk, set_at, Join, vToInt, vSlice, vSliceX, cutAt, intAt, bl_len, bits64, bits64u, bits8, hfold, vMax2, vMin2, Try.underlying3, Try.underlying4, Try.underlying9, Try.underlying22, Try.underlying31, Try.underlying32, Try.underlying36, Try.underlying44, Try.underlying64, Try.underlying80, Try.underlying90, Try.underlying123, recC_len, ho_recC, hcz, set_ne _ _ hpq]
  obtain ⟨Z, hZ⟩ : ∃ Z, HObj.cells [.lit (.int .i64 0), .lit (.int .i64 0), .lit (.int .i64 0), .lit (.int .i64 0), .lit (.int .i64 0), .lit (.slice none 0 0)] = Z := ⟨_, rfl⟩
  rw [hZ]
  have hbp : (s.set q Z) p = none := by rw [set_ne _ _ hpq]; exact hp
  have hsb : HS.le s (s.set q Z) := le_set_new _ (le_refl' s) hq
  have hcut : (recsC l).take (l.length * 6) = recsC l := List.take_of_length_le (by rw [recsC_len]; exact Nat.le_refl _)
  refine HLoop.ghost (σ := HV × Nat) (fun g => [.lit (.int .i64 g.2)]) (fun g t => g.2 ≤ l.length ∧ HS.le (s.set q Z) t ∧ t p = some (.cells [.lit (.int .i64 c0), .lit (.int .i64 c1), .lit (.int .i64 c2), .lit (.int .i64 c3), .lit (.int .i64 c4), g.1]) ∧ OutR (s.set q Z) t p g.1 (l.take g.2)) (fun g => l.length - g.2) (.lit (.slice none 0 0), 0) rfl ?_ ?_
  · refine ⟨Nat.zero_le _, ?_, by rw [set_at], .inl ⟨rfl, rfl⟩⟩
    exact le_set_free _ (le_set (le_set_new _ (le_refl' s) hp) _ _) hbp
  · rintro ⟨A, i⟩ t K ⟨hi, hst, htp, ho⟩ hK
    simp only at hi hst htp ho
    by_cases hlt : i < l.length
    · have hlt' : (i : Int) < (l.length : Int) := by omega
      have hix := recsC_idx l i hlt
      have hts := take_succ' r0 l hlt
      have hsm := hs (l.getD i r0) (by rw [List.getD, List.getElem?_eq_getElem hlt]; exact List.getElem_mem hlt)
      generalize l.getD i r0 = x at *
      simp [bindO, hcond, vCmp, vBin, vEq, vUn, vNil, vField, vLoad, takeCells, vIdx, vLenT, vLen, vExtract, hNew, hStore, hBox, hc_int, hc_bool, hc_string, hc_slice, hc_nilp, hc_nilm, hc_nilf, hc_agg, hc_list, hc_view, hc_ptr, hc_map, hc_func, ho_int, ho_bool, ho_string, ho_slice, ho_nilp, ho_nilm, ho_nilf, ho_list, ho_view, ho_ptr, ho_map, ho_func, putCells, lcells, litCells, isNilS, llen, room, vMk, set_at, Join, vToInt, vSlice, vSliceX, cutAt, intAt, bl_len, bits64, bits64u, bits8, hfold, vMax2, vMin2, Try.underlying3, Try.underlying4, Try.underlying9, Try.underlying22, Try.underlying31, Try.underlying32, Try.underlying36, Try.underlying44, Try.underlying64, Try.underlying80, Try.underlying90, Try.underlying123, recC_len, ho_recC, hcz, hlt', hlt, hix]
      intro X hX
      have nX := ne_new htp hX
      simp [bindO, hcond, vCmp, vBin, vEq, vUn, vNil, vField, vLoad, takeCells, vIdx, vLenT, vLen, vExtract, hNew, hStore, hBox, hc_int, hc_bool, hc_string, hc_slice, hc_nilp, hc_nilm, hc_nilf, hc_agg, hc_list, hc_view, hc_ptr, hc_map, hc_func, ho_int, ho_bool, ho_string, ho_slice, ho_nilp, ho_nilm, ho_nilf, ho_list, ho_view, ho_ptr, ho_map, ho_func, putCells, lcells, litCells, isNilS, llen, room, vMk, set_at, Join, vToInt, vSlice, vSliceX, cutAt, intAt, bl_len, bits64, bits64u, bits8, hfold, vMax2, vMin2, Try.underlying3, Try.underlying4, Try.underlying9, Try.underlying22, Try.underlying31, Try.underlying32, Try.underlying36, Try.underlying44, Try.underlying64, Try.underlying80, Try.underlying90, Try.underlying123, recC_len, ho_recC, hcz, htp, set_ne _ _ nX]
      rw [set_set]
      refine (own x _ hsm.1 hsm.2).mono ?_
      rintro v s1 ⟨rfl, rfl⟩
      simp [bindO, hcond, vCmp, vBin, vEq, vUn, vNil, vField, vLoad, takeCells, vIdx, vLenT, vLen, vExtract, hNew, hStore, hBox, hc_int, hc_bool, hc_string, hc_slice, hc_nilp, hc_nilm, hc_nilf, hc_agg, hc_list, hc_view, hc_ptr, hc_map, hc_func, ho_int, ho_bool, ho_string, ho_slice, ho_nilp, ho_nilm, ho_nilf, ho_list, ho_view, ho_ptr, ho_map, ho_func, putCells, lcells, litCells, isNilS, llen, room, vMk, set_at, Join, vToInt, vSlice, vSliceX, cutAt, intAt, bl_len, bits64, bits64u, bits8, hfold, vMax2, vMin2, Try.underlying3, Try.underlying4, Try.underlying9, Try.underlying22, Try.underlying31, Try.underlying32, Try.underlying36, Try.underlying44, Try.underlying64, Try.underlying80, Try.underlying90, Try.underlying123, recC_len, ho_recC, hcz, htp, set_ne _ _ nX]
      refine outR_append (b := s.set q Z) (p := p) (o := l.take i) (r := x) (ob := _) ?_ (le_set_new _ hst hX) hbp (by rw [set_ne _ _ nX]; exact htp) (by rw [List.length_take]; omega) ?_ ?_
      · exact ho.keep fun k ob _ h => by rw [set_ne _ _ (ne_new h hX)]; exact h
      · intro s2 h2
        simp [h2]
      · intro A' t' h1 h2 h3
        have ho1 := h1.one
        simp [bindO, hcond, vCmp, vBin, vEq, vUn, vNil, vField, vLoad, takeCells, vIdx, vLenT, vLen, vExtract, hNew, hStore, hBox, hc_int, hc_bool, hc_string, hc_slice, hc_nilp, hc_nilm, hc_nilf, hc_agg, hc_list, hc_view, hc_ptr, hc_map, hc_func, ho_int, ho_bool, ho_string, ho_slice, ho_nilp, ho_nilm, ho_nilf, ho_list, ho_view, ho_ptr, ho_map, ho_func, putCells, lcells, litCells, isNilS, llen, room, vMk, set_at, Join, vToInt, vSlice, vSliceX, cutAt, intAt, bl_len, bits64, bits64u, bits8, hfold, vMax2, vMin2, Try.underlying3, Try.underlying4, Try.underlying9, Try.underlying22, Try.underlying31, Try.underlying32, Try.underlying36, Try.underlying44, Try.underlying64, Try.underlying80, Try.underlying90, Try.underlying123, recC_len, ho_recC, hcz, h3, ho1.1, ho1.2]
        refine hK (A', i + 1) _ _ (by rw [w64 (by omega) (by omega)]; rfl) ⟨hlt, le_set_free _ h2 hbp, set_at _ _ _, ?_⟩ (by show l.length - (i + 1) < l.length - i; omega)
        rw [hts]
        exact h1.keep fun k ob hk h => by rw [set_ne _ _ hk]; exact h
    · obtain rfl : i = l.length := by omega
      rw [List.take_length] at ho
      have htq : t q = some Z := hst q Z (set_at _ _ _)
      rw [← hZ] at htq
      have ho1 := ho.one
      simp [bindO, hcond, vCmp, vBin, vEq, vUn, vNil, vField, vLoad, takeCells, vIdx, vLenT, vLen, vExtract, hNew, hStore, hBox, hc_int, hc_bool, hc_string, hc_slice, hc_nilp, hc_nilm, hc_nilf, hc_agg, hc_list, hc_view, hc_ptr, hc_map, hc_func, ho_int, ho_bool, ho_string, ho_slice, ho_nilp, ho_nilm, ho_nilf, ho_list, ho_view, ho_ptr, ho_map, ho_func, putCells, lcells, litCells, isNilS, llen, room, vMk, set_at, Join, vToInt, vSlice, vSliceX, cutAt, intAt, bl_len, bits64, bits64u, bits8, hfold, vMax2, vMin2, Try.underlying3, Try.underlying4, Try.underlying9, Try.underlying22, Try.underlying31, Try.underlying32, Try.underlying36, Try.underlying44, Try.underlying64, Try.underlying80, Try.underlying90, Try.underlying123, recC_len, ho_recC, hcz, htp, htq, ho1.1, ho1.2]
      rcases ho with ⟨rfl, rfl⟩ | ⟨k, g1, g2, rfl, g3, -⟩
      · exact absurd rfl hne
      · have hkq : k ≠ q := by rintro rfl; rw [set_at] at g1; cases g1
        have hks : s k = none := none_of_le hsb g1
        have hu := UpL.frzD (xs := [.agg [.lit (.int .i64 c0), .lit (.int .i64 c1), .lit (.int .i64 c2), .lit (.int .i64 c3), .lit (.int .i64 c4), .view k 0 6 l.length false]]) (s := t.set q (.cells [.lit (.int .i64 c0), .lit (.int .i64 c1), .lit (.int .i64 c2), .lit (.int .i64 c3), .lit (.int .i64 c4), .view k 0 6 l.length false])) (s' := s) (by rw [set_ne _ _ hkq]; exact g3) (le_set_free _ (HS.le.trans hsb hst) hq) hks
        simpa [frz2, frz1, frz0, phi, recsC_len, hcut] using hu
end Go.Proofs.Ytecnfekcflfihaa.CL
namespace Go.Proofs.Ytecnfekcflfihaa.CL
open Go.Proofs.Ytecnfekcflfihaa.H Go.Proofs.Ytecnfekcflfihaa.C0
set_option linter.unusedVariables false
set_option linter.unusedSimpArgs false
set_option maxRecDepth 100000
def keyB (k : Option (List Int)) : List UInt8 := (k.getD []).map fun n => UInt8.ofNat n.toNat
def kv (k : Option (List Int)) : Value := .string ⟨(keyB k).toArray⟩
theorem bytesOf_bl : ∀ l : List Int, bytesOf (bl l) = some (l.map fun n => UInt8.ofNat n.toNat)
  | [] => rfl
  | x :: l => by
    have := bytesOf_bl l
    unfold bytesOf bl at *
    simp [byteOfHV, this]
theorem toStr_by (s : HS) (k : Option (List Int)) : vToStr s (byV k) = some (.lit (kv k)) := by
  cases k with
  | none => rfl
  | some l =>
    simp only [vToStr, byV, lcells, if_true, Option.bind_some, bytesOf_bl, Option.map_some]
    rfl
theorem isStr_by (k : Option (List Int)) : isStrHV (byV k) = false := by cases k <;> rfl
theorem keyIs_kv (k : Option (List Int)) : keyIs .string (kv k) = true := rfl
theorem sameKey_str : sameKey .string .string = true := rfl
/-- A map of keys. -/
def mapO (M : Value → Option Int) (n : Nat) : HObj := .map .string (fun k => (M k).map fun x => .lit (.int .i64 x)) n
open Classical in
noncomputable def put (M : Value → Option Int) (k : Value) (x : Int) : Value → Option Int := fun q => if q = k then some x else M q
theorem mapO_put (M : Value → Option Int) (k : Value) (x : Int) (n : Nat) : HObj.map .string (fput (fun k => (M k).map fun x => .lit (.int .i64 x)) k (some (.lit (.int .i64 x)))) n = mapO (put M k x) n := by
  unfold mapO put fput
  congr
  funext q
  split <;> rfl
def kmO (most : Int) (mid : Nat) : HObj := .cells [.lit (.int .i64 most), .map mid]
/-- A keymap at p. -/
def IsKM (s : HS) (p mid : Nat) (most : Int) (M : Value → Option Int) (n : Nat) : Prop := s p = some (kmO most mid) ∧ s mid = some (mapO M n)
theorem len {s : HS} {p mid : Nat} {most : Int} {M : Value → Option Int} {n : Nat} (h : IsKM s p mid most M n) : HC Try.prog 50 [.ptr p 0] s (fun v s' => v = .lit (.int .i64 n) ∧ s' = s) := by
  refine HC50 ?_
  have h1 := h.1
  have h2 := h.2
  simp only [kmO, mapO] at h1 h2
  simp [c50, bindO, hcond, vCmp, vBin, vEq, vUn, vNil, vField, vLoad, takeCells, vIdx, vLenT, vLen, vExtract, hBS, hfill, hNew, hStore, hBox, hc_int, hc_bool, hc_string, hc_slice, hc_nilp, hc_nilm, hc_nilf, hc_agg, hc_list, hc_view, hc_ptr, hc_map, hc_func, ho_int, ho_bool, ho_string, ho_slice, ho_nilp, ho_nilm, ho_nilf, ho_list, ho_view, ho_ptr, ho_map, ho_func, putCells, hAppend, lcells, litCells, isNilS, llen, room, vMk, set_at, Join, vToInt, vSlice, vSliceX, cutAt, intAt, bl_len, bits64, bits64u, bits8, hfold, vMax2, vMin2, Try.underlying3, Try.underlying4, Try.underlying9, Try.underlying22, Try.underlying31, Try.underlying32, Try.underlying36, Try.underlying44, Try.underlying64, Try.underlying80, Try.underlying90, Try.underlying123, h1, h2]
theorem last {s : HS} {p mid : Nat} {most : Int} {M : Value → Option Int} {n : Nat} (h : IsKM s p mid most M n) (k : Option (List Int)) :
    HC Try.prog 54 [.ptr p 0, byV k] s (fun v s' => v = .tup [.lit (.int .i64 ((M (kv k)).getD 0)), .lit (.bool (M (kv k)).isSome)] ∧ s' = s) := by
  refine HC54 ?_
  have h1 := h.1
  have h2 := h.2
  simp only [kmO, mapO] at h1 h2
  have h3 := toStr_by s k
  have h4 := isStr_by k
  have h5 := keyIs_kv k
  generalize kv k = K at *
  generalize byV k = B at *
  simp [c54, bindO, hcond, vCmp, vBin, vEq, vUn, vNil, vField, vLoad, takeCells, vIdx, vLenT, vLen, vExtract, hBS, hfill, hNew, hStore, hBox, hc_int, hc_bool, hc_string, hc_slice, hc_nilp, hc_nilm, hc_nilf, hc_agg, hc_list, hc_view, hc_ptr, hc_map, hc_func, ho_int, ho_bool, ho_string, ho_slice, ho_nilp, ho_nilm, ho_nilf, ho_list, ho_view, ho_ptr, ho_map, ho_func, putCells, hAppend, lcells, litCells, isNilS, llen, room, vMk, set_at, Join, vToInt, vSlice, vSliceX, cutAt, intAt, bl_len, bits64, bits64u, bits8, hfold, vMax2, vMin2, Try.underlying3, Try.underlying4, Try.underlying9, Try.underlying22, Try.underlying31, Try.underlying32, Try.underlying36, Try.underlying44, Try.underlying64, Try.underlying80, Try.underlying90, Try.underlying123, h1, h2, h3, h4, vLookup, h5, sameKey_str]
theorem new (most : Int) (s : HS) (h1 : 1 ≤ most) (h2 : most ≤ 1000000) : HC Try.prog 49 [.lit (.int .i64 most)] s (fun v s' => ∃ p mid, s p = none ∧ s mid = none ∧ v = .tup [.ptr p 0, .lit (.int .i64 0)] ∧ HS.le s s' ∧ IsKM s' p mid most (fun _ => none) 0) := by
  refine HC49 ?_
  have e1 : ¬ most < 1 := by omega
  have e2 : ¬ 1000000 < most := by omega
  simp [c49, bindO, hcond, vCmp, vBin, vEq, vUn, vNil, vField, vLoad, takeCells, vIdx, vLenT, vLen, vExtract, hBS, hfill, hNew, hStore, hBox, hc_int, hc_bool, hc_string, hc_slice, hc_nilp, hc_nilm, hc_nilf, hc_agg, hc_list, hc_view, hc_ptr, hc_map, hc_func, ho_int, ho_bool, ho_string, ho_slice, ho_nilp, ho_nilm, ho_nilf, ho_list, ho_view, ho_ptr, ho_map, ho_func, putCells, hAppend, lcells, litCells, isNilS, llen, room, vMk, set_at, Join, vToInt, vSlice, vSliceX, cutAt, intAt, bl_len, bits64, bits64u, bits8, hfold, vMax2, vMin2, Try.underlying3, Try.underlying4, Try.underlying9, Try.underlying22, Try.underlying31, Try.underlying32, Try.underlying36, Try.underlying44, Try.underlying64, Try.underlying80, Try.underlying90, Try.underlying123, e1, e2]
  intro mid hm p hp
  have hne := ne_new (set_at s mid _) hp
  have hp' := hp
  simp only [set_none_iff] at hp'
  exact ⟨p, hp'.2, mid, hm, rfl, le_set_new _ (le_set_new _ (le_refl' s) hm) hp, set_at _ _ _, by rw [set_ne _ _ hne, set_at]; rfl⟩
theorem offer {s : HS} {p mid : Nat} {most : Int} {M : Value → Option Int} {n : Nat} (h : IsKM s p mid most M n) (k : Option (List Int)) (x : Int) (hroom : (n : Int) < most ∨ (M (kv k)).isSome = true) :
    HC Try.prog 52 [.ptr p 0, byV k, .lit (.int .i64 x)] s (fun v s' => v = .lit (.bool true) ∧ s' = s.set mid (mapO (put M (kv k) (match M (kv k) with | some y => max x y | none => x)) (if (M (kv k)).isSome then n else n + 1))) := by
  refine HC52 ?_
  have h1 := h.1
  have h2 := h.2
  simp only [kmO, mapO] at h1 h2
  have h3 := toStr_by s k
  have h4 := isStr_by k
  have h5 := keyIs_kv k
  have h6 := mapO_put M (kv k)
  generalize kv k = K at *
  generalize byV k = B at *
  cases hM : M K with
  | none =>
    have hr : ¬ most ≤ (n : Int) := by rcases hroom with h | h; omega; rw [hM] at h; cases h
    simp [c52, bindO, hcond, vCmp, vBin, vEq, vUn, vNil, vField, vLoad, takeCells, vIdx, vLenT, vLen, vExtract, hBS, hfill, hNew, hStore, hBox, hc_int, hc_bool, hc_string, hc_slice, hc_nilp, hc_nilm, hc_nilf, hc_agg, hc_list, hc_view, hc_ptr, hc_map, hc_func, ho_int, ho_bool, ho_string, ho_slice, ho_nilp, ho_nilm, ho_nilf, ho_list, ho_view, ho_ptr, ho_map, ho_func, putCells, hAppend, lcells, litCells, isNilS, llen, room, vMk, set_at, Join, vToInt, vSlice, vSliceX, cutAt, intAt, bl_len, bits64, bits64u, bits8, hfold, vMax2, vMin2, Try.underlying3, Try.underlying4, Try.underlying9, Try.underlying22, Try.underlying31, Try.underlying32, Try.underlying36, Try.underlying44, Try.underlying64, Try.underlying80, Try.underlying90, Try.underlying123, h1, h2, h3, h4, vLookup, hMapSet, h5, sameKey_str, hM, hr]
    rw [h6]
  | some y =>
    simp [c52, bindO, hcond, vCmp, vBin, vEq, vUn, vNil, vField, vLoad, takeCells, vIdx, vLenT, vLen, vExtract, hBS, hfill, hNew, hStore, hBox, hc_int, hc_bool, hc_string, hc_slice, hc_nilp, hc_nilm, hc_nilf, hc_agg, hc_list, hc_view, hc_ptr, hc_map, hc_func, ho_int, ho_bool, ho_string, ho_slice, ho_nilp, ho_nilm, ho_nilf, ho_list, ho_view, ho_ptr, ho_map, ho_func, putCells, hAppend, lcells, litCells, isNilS, llen, room, vMk, set_at, Join, vToInt, vSlice, vSliceX, cutAt, intAt, bl_len, bits64, bits64u, bits8, hfold, vMax2, vMin2, Try.underlying3, Try.underlying4, Try.underlying9, Try.underlying22, Try.underlying31, Try.underlying32, Try.underlying36, Try.underlying44, Try.underlying64, Try.underlying80, Try.underlying90, Try.underlying123, h1, h2, h3, h4, vLookup, hMapSet, h5, sameKey_str, hM]
    rw [h6]
    rw [show (if x < y then y else x) = max x y by omega]
/-- Whether a record stays. -/
def stays (r : Rec) (M : Value → Option Int) (upto now grace : Int) : Bool :=
  if r.hasKey = false ∨ r.off ≥ upto then true else match M (kv r.key) with
  | none => true
  | some l => if l > r.off then false else if r.hasVal = false ∧ min (max now (-2305843009213693952)) 2305843009213693952 - min (max r.time (-2305843009213693952)) 2305843009213693952 > grace then false else true
theorem record {s : HS} {p mid : Nat} {most : Int} {M : Value → Option Int} {n : Nat} (h : IsKM s p mid most M n) (r : Rec) (upto now grace : Int) :
    HC Try.prog 21 [.agg (recC r), .ptr p 0, .lit (.int .i64 upto), .lit (.int .i64 now), .lit (.int .i64 grace)] s (fun v s' => v = .lit (.bool (stays r M upto now grace)) ∧ s' = s) := by
  refine HC.weaken (HC21 ?_)
  obtain ⟨off, time, hk, key, hv, val⟩ := r
  simp only [recC]
  simp [c21, bindO, hcond, vCmp, vBin, vEq, vUn, vNil, vField, vLoad, takeCells, vIdx, vLenT, vLen, vExtract, hBS, hfill, hNew, hStore, hBox, hc_int, hc_bool, hc_string, hc_slice, hc_nilp, hc_nilm, hc_nilf, hc_agg, hc_list, hc_view, hc_ptr, hc_map, hc_func, ho_int, ho_bool, ho_string, ho_slice, ho_nilp, ho_nilm, ho_nilf, ho_list, ho_view, ho_ptr, ho_map, ho_func, putCells, hAppend, lcells, litCells, isNilS, llen, room, vMk, set_at, Join, vToInt, vSlice, vSliceX, cutAt, intAt, bl_len, bits64, bits64u, bits8, hfold, vMax2, vMin2, Try.underlying3, Try.underlying4, Try.underlying9, Try.underlying22, Try.underlying31, Try.underlying32, Try.underlying36, Try.underlying44, Try.underlying64, Try.underlying80, Try.underlying90, Try.underlying123]
  intro i hi
  have hkm : IsKM (s.set i (.cells [.lit (.int .i64 off), .lit (.int .i64 time), .lit (.bool hk), byV key, .lit (.bool hv), byV val])) p mid most M n := ⟨by rw [set_ne _ _ (ne_new h.1 hi)]; exact h.1, by rw [set_ne _ _ (ne_new h.2 hi)]; exact h.2⟩
  have hle := le_set_new (HObj.cells [.lit (.int .i64 off), .lit (.int .i64 time), .lit (.bool hk), byV key, .lit (.bool hv), byV val]) (le_refl' s) hi
  have hat := set_at s i (HObj.cells [.lit (.int .i64 off), .lit (.int .i64 time), .lit (.bool hk), byV key, .lit (.bool hv), byV val])
  generalize s.set i (HObj.cells [.lit (.int .i64 off), .lit (.int .i64 time), .lit (.bool hk), byV key, .lit (.bool hv), byV val]) = t at *
  have hst : ∀ b, ∃ s'', HS.le s'' t ∧ (HV.lit (.bool b) = .lit (.bool b) ∧ s'' = s) := fun b => ⟨s, hle, rfl, rfl⟩
  cases hk with
  | false =>
    simp [bindO, hcond, vCmp, vBin, vEq, vUn, vNil, vField, vLoad, takeCells, vIdx, vLenT, vLen, vExtract, hBS, hfill, hNew, hStore, hBox, hc_int, hc_bool, hc_string, hc_slice, hc_nilp, hc_nilm, hc_nilf, hc_agg, hc_list, hc_view, hc_ptr, hc_map, hc_func, ho_int, ho_bool, ho_string, ho_slice, ho_nilp, ho_nilm, ho_nilf, ho_list, ho_view, ho_ptr, ho_map, ho_func, putCells, hAppend, lcells, litCells, isNilS, llen, room, vMk, set_at, Join, vToInt, vSlice, vSliceX, cutAt, intAt, bl_len, bits64, bits64u, bits8, hfold, vMax2, vMin2, Try.underlying3, Try.underlying4, Try.underlying9, Try.underlying22, Try.underlying31, Try.underlying32, Try.underlying36, Try.underlying44, Try.underlying64, Try.underlying80, Try.underlying90, Try.underlying123, stays]
    exact hle
  | true =>
    by_cases hu : upto ≤ off
    · simp [bindO, hcond, vCmp, vBin, vEq, vUn, vNil, vField, vLoad, takeCells, vIdx, vLenT, vLen, vExtract, hBS, hfill, hNew, hStore, hBox, hc_int, hc_bool, hc_string, hc_slice, hc_nilp, hc_nilm, hc_nilf, hc_agg, hc_list, hc_view, hc_ptr, hc_map, hc_func, ho_int, ho_bool, ho_string, ho_slice, ho_nilp, ho_nilm, ho_nilf, ho_list, ho_view, ho_ptr, ho_map, ho_func, putCells, hAppend, lcells, litCells, isNilS, llen, room, vMk, set_at, Join, vToInt, vSlice, vSliceX, cutAt, intAt, bl_len, bits64, bits64u, bits8, hfold, vMax2, vMin2, Try.underlying3, Try.underlying4, Try.underlying9, Try.underlying22, Try.underlying31, Try.underlying32, Try.underlying36, Try.underlying44, Try.underlying64, Try.underlying80, Try.underlying90, Try.underlying123, stays, hat, hu]
      exact hle
    · simp [bindO, hcond, vCmp, vBin, vEq, vUn, vNil, vField, vLoad, takeCells, vIdx, vLenT, vLen, vExtract, hBS, hfill, hNew, hStore, hBox, hc_int, hc_bool, hc_string, hc_slice, hc_nilp, hc_nilm, hc_nilf, hc_agg, hc_list, hc_view, hc_ptr, hc_map, hc_func, ho_int, ho_bool, ho_string, ho_slice, ho_nilp, ho_nilm, ho_nilf, ho_list, ho_view, ho_ptr, ho_map, ho_func, putCells, hAppend, lcells, litCells, isNilS, llen, room, vMk, set_at, Join, vToInt, vSlice, vSliceX, cutAt, intAt, bl_len, bits64, bits64u, bits8, hfold, vMax2, vMin2, Try.underlying3, Try.underlying4, Try.underlying9, Try.underlying22, Try.underlying31, Try.underlying32, Try.underlying36, Try.underlying44, Try.underlying64, Try.underlying80, Try.underlying90, Try.underlying123, hat, hu]
      refine (last hkm key).mono ?_
      rintro v s1 ⟨rfl, rfl⟩
      cases hM : M (kv key) with
      | none =>
        simp [bindO, hcond, vCmp, vBin, vEq, vUn, vNil, vField, vLoad, takeCells, vIdx, vLenT, vLen, vExtract, hBS, hfill, hNew, hStore, hBox, hc_int, hc_bool, hc_string, hc_slice, hc_nilp, hc_nilm, hc_nilf, hc_agg, hc_list, hc_view, hc_ptr, hc_map, hc_func, ho_int, ho_bool, ho_string, ho_slice, ho_nilp, ho_nilm, ho_nilf, ho_list, ho_view, ho_ptr, ho_map, ho_func, putCells, hAppend, lcells, litCells, isNilS, llen, room, vMk, set_at, Join, vToInt, vSlice, vSliceX, cutAt, intAt, bl_len, bits64, bits64u, bits8, hfold, vMax2, vMin2, Try.underlying3, Try.underlying4, Try.underlying9, Try.underlying22, Try.underlying31, Try.underlying32, Try.underlying36, Try.underlying44, Try.underlying64, Try.underlying80, Try.underlying90, Try.underlying123, stays, hM, hu]
        exact hle
      | some l =>
        by_cases hl : off < l
        · simp [bindO, hcond, vCmp, vBin, vEq, vUn, vNil, vField, vLoad, takeCells, vIdx, vLenT, vLen, vExtract, hBS, hfill, hNew, hStore, hBox, hc_int, hc_bool, hc_string, hc_slice, hc_nilp, hc_nilm, hc_nilf, hc_agg, hc_list, hc_view, hc_ptr, hc_map, hc_func, ho_int, ho_bool, ho_string, ho_slice, ho_nilp, ho_nilm, ho_nilf, ho_list, ho_view, ho_ptr, ho_map, ho_func, putCells, hAppend, lcells, litCells, isNilS, llen, room, vMk, set_at, Join, vToInt, vSlice, vSliceX, cutAt, intAt, bl_len, bits64, bits64u, bits8, hfold, vMax2, vMin2, Try.underlying3, Try.underlying4, Try.underlying9, Try.underlying22, Try.underlying31, Try.underlying32, Try.underlying36, Try.underlying44, Try.underlying64, Try.underlying80, Try.underlying90, Try.underlying123, stays, hM, hu, hat, hl]
          exact hle
        · cases hv with
          | true =>
            simp [bindO, hcond, vCmp, vBin, vEq, vUn, vNil, vField, vLoad, takeCells, vIdx, vLenT, vLen, vExtract, hBS, hfill, hNew, hStore, hBox, hc_int, hc_bool, hc_string, hc_slice, hc_nilp, hc_nilm, hc_nilf, hc_agg, hc_list, hc_view, hc_ptr, hc_map, hc_func, ho_int, ho_bool, ho_string, ho_slice, ho_nilp, ho_nilm, ho_nilf, ho_list, ho_view, ho_ptr, ho_map, ho_func, putCells, hAppend, lcells, litCells, isNilS, llen, room, vMk, set_at, Join, vToInt, vSlice, vSliceX, cutAt, intAt, bl_len, bits64, bits64u, bits8, hfold, vMax2, vMin2, Try.underlying3, Try.underlying4, Try.underlying9, Try.underlying22, Try.underlying31, Try.underlying32, Try.underlying36, Try.underlying44, Try.underlying64, Try.underlying80, Try.underlying90, Try.underlying123, stays, hM, hu, hat, hl]
            exact hle
          | false =>
            simp [bindO, hcond, vCmp, vBin, vEq, vUn, vNil, vField, vLoad, takeCells, vIdx, vLenT, vLen, vExtract, hBS, hfill, hNew, hStore, hBox, hc_int, hc_bool, hc_string, hc_slice, hc_nilp, hc_nilm, hc_nilf, hc_agg, hc_list, hc_view, hc_ptr, hc_map, hc_func, ho_int, ho_bool, ho_string, ho_slice, ho_nilp, ho_nilm, ho_nilf, ho_list, ho_view, ho_ptr, ho_map, ho_func, putCells, hAppend, lcells, litCells, isNilS, llen, room, vMk, set_at, Join, vToInt, vSlice, vSliceX, cutAt, intAt, bl_len, bits64, bits64u, bits8, hfold, vMax2, vMin2, Try.underlying3, Try.underlying4, Try.underlying9, Try.underlying22, Try.underlying31, Try.underlying32, Try.underlying36, Try.underlying44, Try.underlying64, Try.underlying80, Try.underlying90, Try.underlying123, hM, hu, hat, hl]
            refine (far now s1).mono ?_
            rintro v s2 ⟨rfl, rfl⟩
            simp only [hat]
            refine ⟨rfl, ?_⟩
            refine (far time s2).mono ?_
            rintro v s3 ⟨rfl, rfl⟩
            have hw := w64 (x := min (max now (-2305843009213693952)) 2305843009213693952 - min (max time (-2305843009213693952)) 2305843009213693952) (by omega) (by omega)
            by_cases hg : grace < min (max now (-2305843009213693952)) 2305843009213693952 - min (max time (-2305843009213693952)) 2305843009213693952
            · simp [hw, hg, stays, hM, hu, hl]
              exact hle
            · simp [hw, hg, stays, hM, hu, hl]
              exact hle
/-- Keys of records from an offset on that are not there. -/
def isFresh (M : Value → Option Int) (from_ : Int) (r : Rec) : Bool := r.hasKey && decide (from_ ≤ r.off) && !(M (kv r.key)).isSome
noncomputable def freshStep (M : Value → Option Int) (from_ : Int) (g : (Value → Option Int) × Nat) (r : Rec) : (Value → Option Int) × Nat :=
  if isFresh M from_ r = true then (put g.1 (kv r.key) (IntKind.i64.wrap ((g.1 (kv r.key)).getD 0 + 1)), if (g.1 (kv r.key)).isSome then g.2 else g.2 + 1) else g
noncomputable def freshF (M : Value → Option Int) (from_ : Int) (l : List Rec) : (Value → Option Int) × Nat := l.foldl (freshStep M from_) (fun _ => none, 0)
theorem IsKM.le {s t : HS} {p mid : Nat} {most : Int} {M : Value → Option Int} {n : Nat} (h : IsKM s p mid most M n) (hle : HS.le s t) : IsKM t p mid most M n := ⟨hle _ _ h.1, hle _ _ h.2⟩
theorem fresh {s : HS} {p mid : Nat} {most : Int} {M : Value → Option Int} {n : Nat} (h : IsKM s p mid most M n) (b : Bat) (l : List Rec) (hb : b.recs = some l) (hl : l.length ≤ 100000) (from_ : Int) :
    HC Try.prog 51 [.ptr p 0, .agg (batC b), .lit (.int .i64 from_)] s (fun v s' => v = .lit (.int .i64 (freshF M from_ l).2) ∧ s' = s) := by
  refine HC.weaken (HC51 ?_)
  obtain ⟨c0, c1, c2, c3, c4, recs⟩ := b
  simp only at hb
  subst hb
  simp [c51, bindO, hcond, vCmp, vBin, vEq, vUn, vNil, vField, vLoad, takeCells, vIdx, vLenT, vLen, vExtract, hNew, hStore, hBox, hc_int, hc_bool, hc_string, hc_slice, hc_nilp, hc_nilm, hc_nilf, hc_agg, hc_list, hc_view, hc_ptr, hc_map, hc_func, ho_int, ho_bool, ho_string, ho_slice, ho_nilp, ho_nilm, ho_nilf, ho_list, ho_view, ho_ptr, ho_map, ho_func, putCells, lcells, litCells, isNilS, llen, room, vMk, set_at, Join, vToInt, vSlice, vSliceX, cutAt, intAt, bl_len, bits64, bits64u, bits8, hfold, vMax2, vMin2, Try.underlying3, Try.underlying4, Try.underlying9, Try.underlying22, Try.underlying31, Try.underlying32, Try.underlying36, Try.underlying44, Try.underlying64, Try.underlying80, Try.underlying90, Try.underlying123, recC_len, ho_recC, hcz, batC, recsV]
  intro i1 f1 mm f2
  have n1 := ne_new (set_at s i1 _) f2
  simp only [set_none_iff] at f2
  obtain ⟨-, f2⟩ := f2
  simp [bindO, hcond, vCmp, vBin, vEq, vUn, vNil, vField, vLoad, takeCells, vIdx, vLenT, vLen, vExtract, hNew, hStore, hBox, hc_int, hc_bool, hc_string, hc_slice, hc_nilp, hc_nilm, hc_nilf, hc_agg, hc_list, hc_view, hc_ptr, hc_map, hc_func, ho_int, ho_bool, ho_string, ho_slice, ho_nilp, ho_nilm, ho_nilf, ho_list, ho_view, ho_ptr, ho_map, ho_func, putCells, lcells, litCells, isNilS, llen, room, vMk, set_at, Join, vToInt, vSlice, vSliceX, cutAt, intAt, bl_len, bits64, bits64u, bits8, hfold, vMax2, vMin2, Try.underlying3, Try.underlying4, Try.underlying9, Try.underlying22, Try.underlying31, Try.underlying32, Try.underlying36, Try.underlying44, Try.underlying64, Try.underlying80, Try.underlying90, Try.underlying123, recC_len, ho_recC, hcz, set_ne _ _ n1]
  refine HLoop.ghost (σ := Nat) (fun i => [.lit (.int .i64 i)]) (fun i t => i ≤ l.length ∧ HS.le s t ∧ t mm = some (mapO (freshF M from_ (l.take i)).1 (freshF M from_ (l.take i)).2)) (fun i => l.length - i) 0 rfl ⟨Nat.zero_le _, by repeat (first | exact le_refl' _ | exact HS.le.trans (by assumption) (by assumption) | assumption | refine le_set_free _ ?_ (by assumption)), by rw [set_at]; rfl⟩ ?_
  rintro i t K ⟨hi, hst, htm⟩ hK
  by_cases hlt : i < l.length
  · have hlt' : (i : Int) < (l.length : Int) := by omega
    have hix := recsC_idx l i hlt
    have hts := take_succ' r0 l hlt
    generalize l.getD i r0 = x at *
    simp [bindO, hcond, vCmp, vBin, vEq, vUn, vNil, vField, vLoad, takeCells, vIdx, vLenT, vLen, vExtract, hNew, hStore, hBox, hc_int, hc_bool, hc_string, hc_slice, hc_nilp, hc_nilm, hc_nilf, hc_agg, hc_list, hc_view, hc_ptr, hc_map, hc_func, ho_int, ho_bool, ho_string, ho_slice, ho_nilp, ho_nilm, ho_nilf, ho_list, ho_view, ho_ptr, ho_map, ho_func, putCells, lcells, litCells, isNilS, llen, room, vMk, set_at, Join, vToInt, vSlice, vSliceX, cutAt, intAt, bl_len, bits64, bits64u, bits8, hfold, vMax2, vMin2, Try.underlying3, Try.underlying4, Try.underlying9, Try.underlying22, Try.underlying31, Try.underlying32, Try.underlying36, Try.underlying44, Try.underlying64, Try.underlying80, Try.underlying90, Try.underlying123, recC_len, ho_recC, hcz, hlt', hlt, hix]
    intro X hX
    have nX := ne_new htm hX
    rw [set_set]
    have hk1 : IsKM (t.set X (.cells (recC x))) p mid most M n := (h.le hst).le (le_set_new _ (le_refl' t) hX)
    have hF : freshF M from_ (l.take (i + 1)) = freshStep M from_ (freshF M from_ (l.take i)) x := by rw [hts]; simp [freshF]
    have hle1 : HS.le s (t.set X (.cells (recC x))) := le_set_new _ hst hX
    have htm1 : (t.set X (.cells (recC x))) mm = some (mapO (freshF M from_ (l.take i)).1 (freshF M from_ (l.take i)).2) := by rw [set_ne _ _ nX]; exact htm
    have hat := set_at t X (.cells (recC x))
    generalize t.set X (.cells (recC x)) = t1 at *
    obtain ⟨off, time, hk, key, hv, val⟩ := x
    simp only [recC] at hat
    simp [bindO, hcond, vCmp, vBin, vEq, vUn, vNil, vField, vLoad, takeCells, vIdx, vLenT, vLen, vExtract, hNew, hStore, hBox, hc_int, hc_bool, hc_string, hc_slice, hc_nilp, hc_nilm, hc_nilf, hc_agg, hc_list, hc_view, hc_ptr, hc_map, hc_func, ho_int, ho_bool, ho_string, ho_slice, ho_nilp, ho_nilm, ho_nilf, ho_list, ho_view, ho_ptr, ho_map, ho_func, putCells, lcells, litCells, isNilS, llen, room, vMk, set_at, Join, vToInt, vSlice, vSliceX, cutAt, intAt, bl_len, bits64, bits64u, bits8, hfold, vMax2, vMin2, Try.underlying3, Try.underlying4, Try.underlying9, Try.underlying22, Try.underlying31, Try.underlying32, Try.underlying36, Try.underlying44, Try.underlying64, Try.underlying80, Try.underlying90, Try.underlying123, recC_len, ho_recC, hcz, hat, recC]
    refine (last hk1 key).mono ?_
    rintro v s1 ⟨rfl, rfl⟩
    generalize freshF M from_ (l.take i) = g at *
    have hgo : isFresh M from_ ⟨off, time, hk, key, hv, val⟩ = false → K [.lit (.int .i64 (IntKind.i64.wrap ((i : Int) + 1)))] s1 := by
      intro hf
      refine hK (i + 1) _ _ (by rw [w64 (by omega) (by omega)]; rfl) ⟨hlt, hle1, ?_⟩ (by omega)
      rw [hF, freshStep, hf]
      exact htm1
    cases hk with
    | false =>
      simp [bindO, hcond, vCmp, vBin, vEq, vUn, vNil, vField, vLoad, takeCells, vIdx, vLenT, vLen, vExtract, hNew, hStore, hBox, hc_int, hc_bool, hc_string, hc_slice, hc_nilp, hc_nilm, hc_nilf, hc_agg, hc_list, hc_view, hc_ptr, hc_map, hc_func, ho_int, ho_bool, ho_string, ho_slice, ho_nilp, ho_nilm, ho_nilf, ho_list, ho_view, ho_ptr, ho_map, ho_func, putCells, lcells, litCells, isNilS, llen, room, vMk, set_at, Join, vToInt, vSlice, vSliceX, cutAt, intAt, bl_len, bits64, bits64u, bits8, hfold, vMax2, vMin2, Try.underlying3, Try.underlying4, Try.underlying9, Try.underlying22, Try.underlying31, Try.underlying32, Try.underlying36, Try.underlying44, Try.underlying64, Try.underlying80, Try.underlying90, Try.underlying123, recC_len, ho_recC, hcz, hat]
      exact hgo (by simp [isFresh])
    | true =>
      by_cases ho : from_ ≤ off
      · cases hM : M (kv key) with
        | some y =>
          simp [bindO, hcond, vCmp, vBin, vEq, vUn, vNil, vField, vLoad, takeCells, vIdx, vLenT, vLen, vExtract, hNew, hStore, hBox, hc_int, hc_bool, hc_string, hc_slice, hc_nilp, hc_nilm, hc_nilf, hc_agg, hc_list, hc_view, hc_ptr, hc_map, hc_func, ho_int, ho_bool, ho_string, ho_slice, ho_nilp, ho_nilm, ho_nilf, ho_list, ho_view, ho_ptr, ho_map, ho_func, putCells, lcells, litCells, isNilS, llen, room, vMk, set_at, Join, vToInt, vSlice, vSliceX, cutAt, intAt, bl_len, bits64, bits64u, bits8, hfold, vMax2, vMin2, Try.underlying3, Try.underlying4, Try.underlying9, Try.underlying22, Try.underlying31, Try.underlying32, Try.underlying36, Try.underlying44, Try.underlying64, Try.underlying80, Try.underlying90, Try.underlying123, recC_len, ho_recC, hcz, hat, ho, hM]
          exact hgo (by simp [isFresh, hM])
        | none =>
          have h3 := toStr_by s1 key
          have h4 := isStr_by key
          have h5 := keyIs_kv key
          have h6 := mapO_put g.1 (kv key)
          simp only [mapO] at htm1
          simp [bindO, hcond, vCmp, vBin, vEq, vUn, vNil, vField, vLoad, takeCells, vIdx, vLenT, vLen, vExtract, hNew, hStore, hBox, hc_int, hc_bool, hc_string, hc_slice, hc_nilp, hc_nilm, hc_nilf, hc_agg, hc_list, hc_view, hc_ptr, hc_map, hc_func, ho_int, ho_bool, ho_string, ho_slice, ho_nilp, ho_nilm, ho_nilf, ho_list, ho_view, ho_ptr, ho_map, ho_func, putCells, lcells, litCells, isNilS, llen, room, vMk, set_at, Join, vToInt, vSlice, vSliceX, cutAt, intAt, bl_len, bits64, bits64u, bits8, hfold, vMax2, vMin2, Try.underlying3, Try.underlying4, Try.underlying9, Try.underlying22, Try.underlying31, Try.underlying32, Try.underlying36, Try.underlying44, Try.underlying64, Try.underlying80, Try.underlying90, Try.underlying123, recC_len, ho_recC, hcz, hat, ho, hM, h3, h4, vLookup, hMapSet, h5, sameKey_str, htm1]
          rw [h6]
          refine hK (i + 1) _ _ (by rw [w64 (by omega) (by omega)]; rfl) ⟨hlt, le_set_free _ hle1 f2, ?_⟩ (by omega)
          have hf : isFresh M from_ ⟨off, time, true, key, hv, val⟩ = true := by simp [isFresh, hM, ho]
          rw [set_at, hF, freshStep, if_pos hf]
      · simp [bindO, hcond, vCmp, vBin, vEq, vUn, vNil, vField, vLoad, takeCells, vIdx, vLenT, vLen, vExtract, hNew, hStore, hBox, hc_int, hc_bool, hc_string, hc_slice, hc_nilp, hc_nilm, hc_nilf, hc_agg, hc_list, hc_view, hc_ptr, hc_map, hc_func, ho_int, ho_bool, ho_string, ho_slice, ho_nilp, ho_nilm, ho_nilf, ho_list, ho_view, ho_ptr, ho_map, ho_func, putCells, lcells, litCells, isNilS, llen, room, vMk, set_at, Join, vToInt, vSlice, vSliceX, cutAt, intAt, bl_len, bits64, bits64u, bits8, hfold, vMax2, vMin2, Try.underlying3, Try.underlying4, Try.underlying9, Try.underlying22, Try.underlying31, Try.underlying32, Try.underlying36, Try.underlying44, Try.underlying64, Try.underlying80, Try.underlying90, Try.underlying123, recC_len, ho_recC, hcz, hat, ho]
        exact hgo (by simp [isFresh, ho])
  · obtain rfl : i = l.length := by omega
    rw [List.take_length] at htm
    simp only [mapO] at htm
    simp [bindO, hcond, vCmp, vBin, vEq, vUn, vNil, vField, vLoad, takeCells, vIdx, vLenT, vLen, vExtract, hNew, hStore, hBox, hc_int, hc_bool, hc_string, hc_slice, hc_nilp, hc_nilm, hc_nilf, hc_agg, hc_list, hc_view, hc_ptr, hc_map, hc_func, ho_int, ho_bool, ho_string, ho_slice, ho_nilp, ho_nilm, ho_nilf, ho_list, ho_view, ho_ptr, ho_map, ho_func, putCells, lcells, litCells, isNilS, llen, room, vMk, set_at, Join, vToInt, vSlice, vSliceX, cutAt, intAt, bl_len, bits64, bits64u, bits8, hfold, vMax2, vMin2, Try.underlying3, Try.underlying4, Try.underlying9, Try.underlying22, Try.underlying31, Try.underlying32, Try.underlying36, Try.underlying44, Try.underlying64, Try.underlying80, Try.underlying90, Try.underlying123, recC_len, ho_recC, hcz, htm]
    exact hst
end Go.Proofs.Ytecnfekcflfihaa.CL
namespace Go.Proofs.Ytecnfekcflfihaa.CL
open Go.Proofs.Ytecnfekcflfihaa.H Go.Proofs.Ytecnfekcflfihaa.C0
set_option linter.unusedVariables false
set_option linter.unusedSimpArgs false
set_option maxRecDepth 100000
def keptR (M : Value → Option Int) (upto now grace : Int) (l : List Rec) : List Rec := l.filter fun r => stays r M upto now grace
def orNil {α : Type} (l : List α) : Option (List α) := match l with | [] => none | x :: r => some (x :: r)
theorem batch {s : HS} {p mid : Nat} {most : Int} {M : Value → Option Int} {n : Nat} (h : IsKM s p mid most M n) (b : Bat) (l : List Rec) (hb : b.recs = some l) (hl : l.length ≤ 100000) (hs : ∀ r ∈ l, ShortR r) (upto now grace : Int) :
    HC Try.prog 23 [.agg (batC b), .ptr p 0, .lit (.int .i64 upto), .lit (.int .i64 now), .lit (.int .i64 grace)] s (fun v s' => v = .tup [.agg (batC { b with recs := orNil (keptR M upto now grace l) }), .lit (.bool (decide (keptR M upto now grace l ≠ [])))] ∧ s' = s) := by
  obtain ⟨c0, c1, c2, c3, c4, recs⟩ := b
  simp only at hb
  subst hb
  refine HC.up (HC23 ?_)
  simp [c23, bindO, hcond, vCmp, vBin, vEq, vUn, vNil, vField, vLoad, takeCells, vIdx, vLenT, vLen, vExtract, hNew, hStore, hBox, hc_int, hc_bool, hc_string, hc_slice, hc_nilp, hc_nilm, hc_nilf, hc_agg, hc_list, hc_view, hc_ptr, hc_map, hc_func, ho_int, ho_bool, ho_string, ho_slice, ho_nilp, ho_nilm, ho_nilf, ho_list, ho_view, ho_ptr, ho_map, ho_func, putCells, lcells, litCells, isNilS, llen, room, vMk, set_at, Join, vToInt, vSlice, vSliceX, cutAt, intAt, bl_len, bits64, bits64u, bits8, hfold, vMax2, vMin2, Try.underlying3, Try.underlying4, Try.underlying9, Try.underlying22, Try.underlying31, Try.underlying32, Try.underlying36, Try.underlying44, Try.underlying64, Try.underlying80, Try.underlying90, Try.underlying123, recC_len, ho_recC, hcz, batC, recsV]
  intro p1 h1 p3 h3
  have n13 := ne_new (set_at s p1 _) h3
  simp only [set_none_iff] at h3
  obtain ⟨-, h3⟩ := h3
  simp [bindO, hcond, vCmp, vBin, vEq, vUn, vNil, vField, vLoad, takeCells, vIdx, vLenT, vLen, vExtract, hNew, hStore, hBox, hc_int, hc_bool, hc_string, hc_slice, hc_nilp, hc_nilm, hc_nilf, hc_agg, hc_list, hc_view, hc_ptr, hc_map, hc_func, ho_int, ho_bool, ho_string, ho_slice, ho_nilp, ho_nilm, ho_nilf, ho_list, ho_view, ho_ptr, ho_map, ho_func, putCells, lcells, litCells, isNilS, llen, room, vMk, set_at, Join, vToInt, vSlice, vSliceX, cutAt, intAt, bl_len, bits64, bits64u, bits8, hfold, vMax2, vMin2, Try.underlying3, Try.underlying4, Try.underlying9, Try.underlying22, Try.underlying31, Try.underlying32, Try.underlying36, Try.underlying44, Try.underlying64, Try.underlying80, Try.underlying90, Try.underlying123, recC_len, ho_recC, hcz, set_ne _ _ n13]
  intro p6 h6
  have h6' := h6
  simp only [set_none_iff] at h6'
  obtain ⟨n63, n61, h6'⟩ := h6'
  simp [bindO, hcond, vCmp, vBin, vEq, vUn, vNil, vField, vLoad, takeCells, vIdx, vLenT, vLen, vExtract, hNew, hStore, hBox, hc_int, hc_bool, hc_string, hc_slice, hc_nilp, hc_nilm, hc_nilf, hc_agg, hc_list, hc_view, hc_ptr, hc_map, hc_func, ho_int, ho_bool, ho_string, ho_slice, ho_nilp, ho_nilm, ho_nilf, ho_list, ho_view, ho_ptr, ho_map, ho_func, putCells, lcells, litCells, isNilS, llen, room, vMk, set_at, Join, vToInt, vSlice, vSliceX, cutAt, intAt, bl_len, bits64, bits64u, bits8, hfold, vMax2, vMin2, Try.underlying3, Try.underlying4, Try.underlying9, Try.underlying22, Try.underlying31, Try.underlying32, Try.underlying36, Try.underlying44, Try.underlying64, Try.underlying80, Try.underlying90, Try.underlying123, recC_len, ho_recC, hcz, set_ne _ _ n13, set_ne _ _ (Ne.symm n63), set_ne _ _ (Ne.symm n61)]
  obtain ⟨Z, hZ⟩ : ∃ Z, HObj.cells [.lit (.int .i64 0), .lit (.int .i64 0), .lit (.int .i64 0), .lit (.int .i64 0), .lit (.int .i64 0), .lit (.slice none 0 0)] = Z := ⟨_, rfl⟩
  rw [hZ] at h6 ⊢
  obtain ⟨B, hB⟩ : ∃ B, (s.set p1 (HObj.cells [.lit (.int .i64 c0), .lit (.int .i64 c1), .lit (.int .i64 c2), .lit (.int .i64 c3), .lit (.int .i64 c4), .list 6 l.length (recsC l) false])).set p3 Z = B := ⟨_, rfl⟩
  have hsB : HS.le s B := by rw [← hB]; exact le_set_new _ (le_set_new _ (le_refl' s) h1) (by rw [set_ne _ _ (Ne.symm n13)]; exact h3)
  have hB3 : B p3 = some Z := by rw [← hB, set_at]
  rw [hB] at h6 ⊢
  rw [set_set, set_set]
  clear hB
  have hcut : ∀ o : List Rec, (recsC o).take (o.length * 6) = recsC o := fun o => List.take_of_length_le (by rw [recsC_len]; exact Nat.le_refl _)
  refine HLoop.ghost (σ := HV × Nat) (fun g => [.lit (.int .i64 g.2)]) (fun g t => g.2 ≤ l.length ∧ HS.le B t ∧ t p6 = some (.cells [.lit (.int .i64 c0), .lit (.int .i64 c1), .lit (.int .i64 c2), .lit (.int .i64 c3), .lit (.int .i64 c4), g.1]) ∧ OutR B t p6 g.1 (keptR M upto now grace (l.take g.2))) (fun g => l.length - g.2) (.lit (.slice none 0 0), 0) rfl ?_ ?_
  · exact ⟨Nat.zero_le _, le_set_free _ (le_refl' B) h6, by rw [set_at], .inl ⟨rfl, rfl⟩⟩
  · rintro ⟨A, i⟩ t K ⟨hi, hst, htp, ho⟩ hK
    simp only at hi hst htp ho
    by_cases hlt : i < l.length
    · have hlt' : (i : Int) < (l.length : Int) := by omega
      have hix := recsC_idx l i hlt
      have hts := take_succ' r0 l hlt
      have hsm := hs (l.getD i r0) (by rw [List.getD, List.getElem?_eq_getElem hlt]; exact List.getElem_mem hlt)
      generalize l.getD i r0 = x at *
      simp [bindO, hcond, vCmp, vBin, vEq, vUn, vNil, vField, vLoad, takeCells, vIdx, vLenT, vLen, vExtract, hNew, hStore, hBox, hc_int, hc_bool, hc_string, hc_slice, hc_nilp, hc_nilm, hc_nilf, hc_agg, hc_list, hc_view, hc_ptr, hc_map, hc_func, ho_int, ho_bool, ho_string, ho_slice, ho_nilp, ho_nilm, ho_nilf, ho_list, ho_view, ho_ptr, ho_map, ho_func, putCells, lcells, litCells, isNilS, llen, room, vMk, set_at, Join, vToInt, vSlice, vSliceX, cutAt, intAt, bl_len, bits64, bits64u, bits8, hfold, vMax2, vMin2, Try.underlying3, Try.underlying4, Try.underlying9, Try.underlying22, Try.underlying31, Try.underlying32, Try.underlying36, Try.underlying44, Try.underlying64, Try.underlying80, Try.underlying90, Try.underlying123, recC_len, ho_recC, hcz, hlt', hlt, hix]
      intro X hX
      have nX := ne_new htp hX
      rw [set_set]
      have hkm := (h.le (HS.le.trans hsB hst)).le (le_set_new (.cells (recC x)) (le_refl' t) hX)
      refine (record hkm x upto now grace).mono ?_
      rintro v s1 ⟨rfl, rfl⟩
      have hkl : keptR M upto now grace (l.take (i + 1)) = keptR M upto now grace (l.take i) ++ (if stays x M upto now grace then [x] else []) := by
        rw [hts]
        unfold keptR
        rw [List.filter_append]
        simp only [List.filter]
        split <;> simp_all
      cases hstay : stays x M upto now grace with
      | false =>
        simp [bindO, hcond, vCmp, vBin, vEq, vUn, vNil, vField, vLoad, takeCells, vIdx, vLenT, vLen, vExtract, hNew, hStore, hBox, hc_int, hc_bool, hc_string, hc_slice, hc_nilp, hc_nilm, hc_nilf, hc_agg, hc_list, hc_view, hc_ptr, hc_map, hc_func, ho_int, ho_bool, ho_string, ho_slice, ho_nilp, ho_nilm, ho_nilf, ho_list, ho_view, ho_ptr, ho_map, ho_func, putCells, lcells, litCells, isNilS, llen, room, vMk, set_at, Join, vToInt, vSlice, vSliceX, cutAt, intAt, bl_len, bits64, bits64u, bits8, hfold, vMax2, vMin2, Try.underlying3, Try.underlying4, Try.underlying9, Try.underlying22, Try.underlying31, Try.underlying32, Try.underlying36, Try.underlying44, Try.underlying64, Try.underlying80, Try.underlying90, Try.underlying123, recC_len, ho_recC, hcz]
        refine hK (A, i + 1) _ _ (by rw [w64 (by omega) (by omega)]; rfl) ⟨hlt, le_set_new _ hst hX, by rw [set_ne _ _ nX]; exact htp, ?_⟩ (by show l.length - (i + 1) < l.length - i; omega)
        rw [hkl, hstay]
        simp
        exact ho.keep fun k ob _ h => by rw [set_ne _ _ (ne_new h hX)]; exact h
      | true =>
        simp [bindO, hcond, vCmp, vBin, vEq, vUn, vNil, vField, vLoad, takeCells, vIdx, vLenT, vLen, vExtract, hNew, hStore, hBox, hc_int, hc_bool, hc_string, hc_slice, hc_nilp, hc_nilm, hc_nilf, hc_agg, hc_list, hc_view, hc_ptr, hc_map, hc_func, ho_int, ho_bool, ho_string, ho_slice, ho_nilp, ho_nilm, ho_nilf, ho_list, ho_view, ho_ptr, ho_map, ho_func, putCells, lcells, litCells, isNilS, llen, room, vMk, set_at, Join, vToInt, vSlice, vSliceX, cutAt, intAt, bl_len, bits64, bits64u, bits8, hfold, vMax2, vMin2, Try.underlying3, Try.underlying4, Try.underlying9, Try.underlying22, Try.underlying31, Try.underlying32, Try.underlying36, Try.underlying44, Try.underlying64, Try.underlying80, Try.underlying90, Try.underlying123, recC_len, ho_recC, hcz, htp, set_ne _ _ nX]
        refine (own x _ hsm.1 hsm.2).mono ?_
        rintro v s1 ⟨rfl, rfl⟩
        simp [bindO, hcond, vCmp, vBin, vEq, vUn, vNil, vField, vLoad, takeCells, vIdx, vLenT, vLen, vExtract, hNew, hStore, hBox, hc_int, hc_bool, hc_string, hc_slice, hc_nilp, hc_nilm, hc_nilf, hc_agg, hc_list, hc_view, hc_ptr, hc_map, hc_func, ho_int, ho_bool, ho_string, ho_slice, ho_nilp, ho_nilm, ho_nilf, ho_list, ho_view, ho_ptr, ho_map, ho_func, putCells, lcells, litCells, isNilS, llen, room, vMk, set_at, Join, vToInt, vSlice, vSliceX, cutAt, intAt, bl_len, bits64, bits64u, bits8, hfold, vMax2, vMin2, Try.underlying3, Try.underlying4, Try.underlying9, Try.underlying22, Try.underlying31, Try.underlying32, Try.underlying36, Try.underlying44, Try.underlying64, Try.underlying80, Try.underlying90, Try.underlying123, recC_len, ho_recC, hcz, htp, set_ne _ _ nX]
        refine outR_append (b := B) (p := p6) (o := keptR M upto now grace (l.take i)) (r := x) (ob := _) ?_ (le_set_new _ hst hX) h6 (by rw [set_ne _ _ nX]; exact htp) ?_ ?_ ?_
        · exact ho.keep fun k ob _ h => by rw [set_ne _ _ (ne_new h hX)]; exact h
        · exact Nat.le_trans (List.length_filter_le _ _) (by rw [List.length_take]; omega)
        · intro s2 h2
          simp [h2]
        · intro A' t' g1 g2 g3
          have ho1 := g1.one
          simp [bindO, hcond, vCmp, vBin, vEq, vUn, vNil, vField, vLoad, takeCells, vIdx, vLenT, vLen, vExtract, hNew, hStore, hBox, hc_int, hc_bool, hc_string, hc_slice, hc_nilp, hc_nilm, hc_nilf, hc_agg, hc_list, hc_view, hc_ptr, hc_map, hc_func, ho_int, ho_bool, ho_string, ho_slice, ho_nilp, ho_nilm, ho_nilf, ho_list, ho_view, ho_ptr, ho_map, ho_func, putCells, lcells, litCells, isNilS, llen, room, vMk, set_at, Join, vToInt, vSlice, vSliceX, cutAt, intAt, bl_len, bits64, bits64u, bits8, hfold, vMax2, vMin2, Try.underlying3, Try.underlying4, Try.underlying9, Try.underlying22, Try.underlying31, Try.underlying32, Try.underlying36, Try.underlying44, Try.underlying64, Try.underlying80, Try.underlying90, Try.underlying123, recC_len, ho_recC, hcz, g3, ho1.1, ho1.2]
          refine hK (A', i + 1) _ _ (by rw [w64 (by omega) (by omega)]; rfl) ⟨hlt, le_set_free _ g2 h6, set_at _ _ _, ?_⟩ (by show l.length - (i + 1) < l.length - i; omega)
          rw [hkl, hstay]
          exact g1.keep fun k ob hk h => by rw [set_ne _ _ hk]; exact h
    · obtain rfl : i = l.length := by omega
      rw [List.take_length] at ho
      generalize keptR M upto now grace l = o at *
      have htq : t p3 = some Z := hst p3 Z hB3
      rw [← hZ] at htq
      have hsf : ∀ ob, HS.le s (t.set p3 ob) := fun ob => le_set_free _ (HS.le.trans hsB hst) h3
      rcases ho with ⟨rfl, rfl⟩ | ⟨k, g1, g2, rfl, g3, g4⟩
      · simp [bindO, hcond, vCmp, vBin, vEq, vUn, vNil, vField, vLoad, takeCells, vIdx, vLenT, vLen, vExtract, hNew, hStore, hBox, hc_int, hc_bool, hc_string, hc_slice, hc_nilp, hc_nilm, hc_nilf, hc_agg, hc_list, hc_view, hc_ptr, hc_map, hc_func, ho_int, ho_bool, ho_string, ho_slice, ho_nilp, ho_nilm, ho_nilf, ho_list, ho_view, ho_ptr, ho_map, ho_func, putCells, lcells, litCells, isNilS, llen, room, vMk, set_at, Join, vToInt, vSlice, vSliceX, cutAt, intAt, bl_len, bits64, bits64u, bits8, hfold, vMax2, vMin2, Try.underlying3, Try.underlying4, Try.underlying9, Try.underlying22, Try.underlying31, Try.underlying32, Try.underlying36, Try.underlying44, Try.underlying64, Try.underlying80, Try.underlying90, Try.underlying123, recC_len, ho_recC, hcz, htp, htq, set_ne _ _ n63, orNil]
        exact UpL.le _ (hsf _)
      · have hk3 : k ≠ p3 := by rintro rfl; rw [hB3] at g1; cases g1
        have hpos : 0 < o.length := List.length_pos_iff.2 g4
        have horn : orNil o = some o := by cases o with | nil => exact absurd rfl g4 | cons => rfl
        simp [bindO, hcond, vCmp, vBin, vEq, vUn, vNil, vField, vLoad, takeCells, vIdx, vLenT, vLen, vExtract, hNew, hStore, hBox, hc_int, hc_bool, hc_string, hc_slice, hc_nilp, hc_nilm, hc_nilf, hc_agg, hc_list, hc_view, hc_ptr, hc_map, hc_func, ho_int, ho_bool, ho_string, ho_slice, ho_nilp, ho_nilm, ho_nilf, ho_list, ho_view, ho_ptr, ho_map, ho_func, putCells, lcells, litCells, isNilS, llen, room, vMk, set_at, Join, vToInt, vSlice, vSliceX, cutAt, intAt, bl_len, bits64, bits64u, bits8, hfold, vMax2, vMin2, Try.underlying3, Try.underlying4, Try.underlying9, Try.underlying22, Try.underlying31, Try.underlying32, Try.underlying36, Try.underlying44, Try.underlying64, Try.underlying80, Try.underlying90, Try.underlying123, recC_len, ho_recC, hcz, htp, htq, set_ne _ _ n63, horn, hpos, g4]
        have hks : s k = none := none_of_le hsB g1
        have hu := UpL.frzD (xs := [.tup [.agg [.lit (.int .i64 c0), .lit (.int .i64 c1), .lit (.int .i64 c2), .lit (.int .i64 c3), .lit (.int .i64 c4), .view k 0 6 o.length false], .lit (.bool true)]]) (s := t.set p3 (.cells [.lit (.int .i64 c0), .lit (.int .i64 c1), .lit (.int .i64 c2), .lit (.int .i64 c3), .lit (.int .i64 c4), .view k 0 6 o.length false])) (s' := s) (by rw [set_ne _ _ hk3]; exact g3) (hsf _) hks
        simpa [frz2, frz1, frz0, phi, recsC_len, hcut] using hu
end Go.Proofs.Ytecnfekcflfihaa.CL
namespace Go.Proofs.Ytecnfekcflfihaa.CL
open Go.Proofs.Ytecnfekcflfihaa.H Go.Proofs.Ytecnfekcflfihaa.C0
set_option linter.unusedVariables false
set_option linter.unusedSimpArgs false
set_option maxRecDepth 100000
theorem batC_len (b : Bat) : (batC b).length = 6 := rfl
theorem hcb (b : Bat) : (batC b).take 6 = batC b := rfl
theorem ho_batC (b : Bat) : (∀ x ∈ batC b, hone x = true) = True := by simp [batC, bindO, hcond, vCmp, vBin, vEq, vUn, vNil, vField, vLoad, takeCells, vIdx, vLenT, vLen, vExtract, hBS, hfill, hNew, hStore, hBox, hc_int, hc_bool, hc_string, hc_slice, hc_nilp, hc_nilm, hc_nilf, hc_agg, hc_list, hc_view, hc_ptr, hc_map, hc_func, ho_int, ho_bool, ho_string, ho_slice, ho_nilp, ho_nilm, ho_nilf, ho_list, ho_view, ho_ptr, ho_map, ho_func, putCells, hAppend, lcells, litCells, isNilS, llen, room, vMk, set_at, Join, vToInt, vSlice, vSliceX, cutAt, intAt, bl_len, bits64, bits64u, bits8, hfold, vMax2, vMin2, Try.underlying3, Try.underlying4, Try.underlying9, Try.underlying22, Try.underlying31, Try.underlying32, Try.underlying36, Try.underlying44, Try.underlying64, Try.underlying80, Try.underlying90, Try.underlying123, ho_recs]
def batsC (l : List Bat) : List HV := l.flatMap batC
theorem batsC_len (l : List Bat) : (batsC l).length = l.length * 6 := by
  unfold batsC
  induction l with
  | nil => rfl
  | cons x r ih => rw [List.flatMap_cons, List.length_append, ih]; simp [batC]; omega
theorem batsC_app (a b : List Bat) : batsC (a ++ b) = batsC a ++ batsC b := by simp [batsC]
def b0 : Bat := ⟨0, 0, 0, 0, 0, none⟩
theorem batsC_idx : ∀ (l : List Bat) (i : Nat), i < l.length → ((batsC l).drop (i * 6)).take 6 = batC (l.getD i b0)
  | x :: l, 0, _ => rfl
  | x :: l, i + 1, h => by
    have := batsC_idx l i (by simpa using h)
    rw [show batsC (x :: l) = batC x ++ batsC l from rfl, show (i + 1) * 6 = i * 6 + 1 + 1 + 1 + 1 + 1 + 1 by omega]
    simp only [batC, List.cons_append, List.nil_append, List.drop_succ_cons]
    exact this
def batsV : Option (List Bat) → HV
  | none => .lit (.slice none 0 0)
  | some l => .list 6 l.length (batsC l) false
/-- A row of batches that grows. -/
def OutT (b t : HS) (A : HV) (o : List Bat) : Prop :=
  (A = .lit (.slice none 0 0) ∧ o = []) ∨ ∃ q, b q = none ∧ A = .view q 0 6 o.length false ∧ t q = some (.cells (batsC o)) ∧ o ≠ []
theorem OutT.keep {b t t' : HS} {A : HV} {o : List Bat} (h : OutT b t A o) (hk : ∀ q ob, t q = some ob → t' q = some ob) : OutT b t' A o := by
  rcases h with h | ⟨q, h1, h3, h4, h5⟩
  · exact .inl h
  · exact .inr ⟨q, h1, h3, hk _ _ h4, h5⟩
theorem outT_append {b t : HS} {A : HV} {o : List Bat} {r : Bat} {K : HV → HS → Prop} (h : OutT b t A o) (hb : HS.le b t) (hl : o.length ≤ 100000)
    (hK : ∀ A' t', OutT b t' A' (o ++ [r]) → HS.le b t' → K A' t') :
    hBS t 6 1 [.lit (.int .i64 0), .lit (.int .i64 0), .lit (.int .i64 0), .lit (.int .i64 0), .lit (.int .i64 0), .lit (.slice none 0 0)] [(0, .agg (batC r))] (fun x s => hAppend s 6 64 A x K) := by
  have e6 : (batC r).length = 6 := rfl
  have et : (batC r).take 6 = batC r := rfl
  simp [bindO, hcond, vCmp, vBin, vEq, vUn, vNil, vField, vLoad, takeCells, vIdx, vLenT, vLen, vExtract, hBS, hfill, hNew, hStore, hBox, hc_int, hc_bool, hc_string, hc_slice, hc_nilp, hc_nilm, hc_nilf, hc_agg, hc_list, hc_view, hc_ptr, hc_map, hc_func, ho_int, ho_bool, ho_string, ho_slice, ho_nilp, ho_nilm, ho_nilf, ho_list, ho_view, ho_ptr, ho_map, ho_func, putCells, hAppend, lcells, litCells, isNilS, llen, room, vMk, set_at, Join, vToInt, vSlice, vSliceX, cutAt, intAt, bl_len, bits64, bits64u, bits8, hfold, vMax2, vMin2, Try.underlying3, Try.underlying4, Try.underlying9, Try.underlying22, Try.underlying31, Try.underlying32, Try.underlying36, Try.underlying44, Try.underlying64, Try.underlying80, Try.underlying90, Try.underlying123, e6]
  intro i1 f1
  rcases h with ⟨rfl, rfl⟩ | ⟨q, h1, rfl, h3, -⟩
  · simp [bindO, hcond, vCmp, vBin, vEq, vUn, vNil, vField, vLoad, takeCells, vIdx, vLenT, vLen, vExtract, hBS, hfill, hNew, hStore, hBox, hc_int, hc_bool, hc_string, hc_slice, hc_nilp, hc_nilm, hc_nilf, hc_agg, hc_list, hc_view, hc_ptr, hc_map, hc_func, ho_int, ho_bool, ho_string, ho_slice, ho_nilp, ho_nilm, ho_nilf, ho_list, ho_view, ho_ptr, ho_map, ho_func, putCells, hAppend, lcells, litCells, isNilS, llen, room, vMk, set_at, Join, vToInt, vSlice, vSliceX, cutAt, intAt, bl_len, bits64, bits64u, bits8, hfold, vMax2, vMin2, Try.underlying3, Try.underlying4, Try.underlying9, Try.underlying22, Try.underlying31, Try.underlying32, Try.underlying36, Try.underlying44, Try.underlying64, Try.underlying80, Try.underlying90, Try.underlying123, e6, et]
    intro i2 f2
    simp only [set_none_iff] at f2
    refine hK _ _ (.inr ⟨i2, none_of_le hb f2.2, rfl, ?_, by simp⟩) (le_set_new _ (le_set_new _ hb f1) (by rw [set_none_iff]; exact f2))
    rw [set_at]; simp [batsC]
  · have m1 := ne_new h3 f1
    have el : (batsC o).length = o.length * 6 := batsC_len o
    simp [bindO, hcond, vCmp, vBin, vEq, vUn, vNil, vField, vLoad, takeCells, vIdx, vLenT, vLen, vExtract, hBS, hfill, hNew, hStore, hBox, hc_int, hc_bool, hc_string, hc_slice, hc_nilp, hc_nilm, hc_nilf, hc_agg, hc_list, hc_view, hc_ptr, hc_map, hc_func, ho_int, ho_bool, ho_string, ho_slice, ho_nilp, ho_nilm, ho_nilf, ho_list, ho_view, ho_ptr, ho_map, ho_func, putCells, hAppend, lcells, litCells, isNilS, llen, room, vMk, set_at, Join, vToInt, vSlice, vSliceX, cutAt, intAt, bl_len, bits64, bits64u, bits8, hfold, vMax2, vMin2, Try.underlying3, Try.underlying4, Try.underlying9, Try.underlying22, Try.underlying31, Try.underlying32, Try.underlying36, Try.underlying44, Try.underlying64, Try.underlying80, Try.underlying90, Try.underlying123, set_ne _ _ m1, h3, el, e6, et]
    refine ⟨by omega, fun i2 f2 => ?_⟩
    simp only [set_none_iff] at f2
    refine hK _ _ (.inr ⟨i2, none_of_le hb f2.2, by simp, ?_, by simp⟩) ?_
    · rw [set_at, batsC_app]; simp [batsC]
    · intro k ob hk
      have hkq : k ≠ q := by rintro rfl; rw [h1] at hk; cases hk
      have hk1 := hb k ob hk
      rw [set_ne _ _ (ne_new hk1 f2.2), del_ne _ hkq, set_ne _ _ (ne_new hk1 f1)]
      exact hk1
theorem len_recs (k : Option (List Rec)) (s : HS) : vLenT (some (.slice 34)) s (recsV k) = some (.lit (.int .i64 ((k.getD []).length : Nat))) := by cases k <;> rfl
def cntF (l : List Bat) : Int := l.foldl (fun a b => IntKind.i64.wrap (a + ((b.recs.getD []).length : Nat))) 0
theorem count (l : List Bat) (s : HS) (hl : l.length ≤ 100000) : HC Try.prog 48 [.list 6 l.length (batsC l) false] s (fun v s' => v = .lit (.int .i64 (cntF l)) ∧ s' = s) := by
  refine HC.weaken (HC48 ?_)
  have hlen : vLenT (Try.prog.underlying 31) s (.list 6 l.length (batsC l) false) = some (.lit (.int .i64 l.length)) := by simp [bindO, hcond, vCmp, vBin, vEq, vUn, vNil, vField, vLoad, takeCells, vIdx, vLenT, vLen, vExtract, hBS, hfill, hNew, hStore, hBox, hc_int, hc_bool, hc_string, hc_slice, hc_nilp, hc_nilm, hc_nilf, hc_agg, hc_list, hc_view, hc_ptr, hc_map, hc_func, ho_int, ho_bool, ho_string, ho_slice, ho_nilp, ho_nilm, ho_nilf, ho_list, ho_view, ho_ptr, ho_map, ho_func, putCells, hAppend, lcells, litCells, isNilS, llen, room, vMk, set_at, Join, vToInt, vSlice, vSliceX, cutAt, intAt, bl_len, bits64, bits64u, bits8, hfold, vMax2, vMin2, Try.underlying3, Try.underlying4, Try.underlying9, Try.underlying22, Try.underlying31, Try.underlying32, Try.underlying36, Try.underlying44, Try.underlying64, Try.underlying80, Try.underlying90, Try.underlying123]
  simp only [c48, hlen, bindO]
  refine HLoop.ghost (σ := Nat) (fun i => [.lit (.int .i64 (cntF (l.take i))), .lit (.int .i64 i)]) (fun i t => i ≤ l.length ∧ HS.le s t) (fun i => l.length - i) 0 rfl ⟨Nat.zero_le _, le_refl' s⟩ ?_
  rintro i t K ⟨hi, hst⟩ hK
  by_cases hlt : i < l.length
  · have hlt' : (i : Int) < (l.length : Int) := by omega
    have hix := batsC_idx l i hlt
    have hts := take_succ' b0 l hlt
    generalize l.getD i b0 = x at *
    have hc : cntF (l.take (i + 1)) = IntKind.i64.wrap (cntF (l.take i) + ((x.recs.getD []).length : Nat)) := by rw [hts]; simp [cntF]
    have h5 : (batC x)[5]? = some (recsV x.recs) := rfl
    simp [bindO, hcond, vCmp, vBin, vUn, vField, takeCells, vLoad, vIdx, vExtract, hNew, hStore, hBox, hc_int, hc_bool, hc_agg, hc_list, hc_view, hc_ptr, ho_int, ho_bool, putCells, set_at, Join, batC_len, ho_batC, hcb, hc_recs, ho_recs, hlt', hlt, hix]
    intro X hX
    rw [set_set]
    have hle := le_set_new (.cells (batC x)) hst hX
    simp [bindO, hcond, vCmp, vBin, vUn, vField, takeCells, vLoad, vIdx, vExtract, hNew, hStore, hBox, hc_int, hc_bool, hc_agg, hc_list, hc_view, hc_ptr, ho_int, ho_bool, putCells, set_at, Join, batC_len, ho_batC, hcb, hc_recs, ho_recs, h5, Try.underlying44, len_recs]
    refine hK (i + 1) _ _ (by rw [w64 (x := (i : Int) + 1) (by omega) (by omega), hc]; rfl) ⟨hlt, hle⟩ (by omega)
  · obtain rfl : i = l.length := by omega
    rw [List.take_length]
    simp [bindO, hcond, vCmp, vBin, vUn, vField, takeCells, vLoad, vIdx, vExtract, hNew, hStore, hBox, hc_int, hc_bool, hc_agg, hc_list, hc_view, hc_ptr, ho_int, ho_bool, putCells, set_at, Join, batC_len, ho_batC, hcb, hc_recs, ho_recs]
    exact hst
def cutB (M : Value → Option Int) (upto now grace : Int) (b : Bat) : Bat := { b with recs := orNil (keptR M upto now grace (b.recs.getD [])) }
def keptB (M : Value → Option Int) (upto now grace : Int) : List Bat → List Bat
  | [] => []
  | b :: l => if keptR M upto now grace (b.recs.getD []) ≠ [] then cutB M upto now grace b :: keptB M upto now grace l else keptB M upto now grace l
theorem keptB_app (M : Value → Option Int) (upto now grace : Int) (a b : List Bat) : keptB M upto now grace (a ++ b) = keptB M upto now grace a ++ keptB M upto now grace b := by
  induction a with
  | nil => rfl
  | cons x r ih => simp only [List.cons_append, keptB, ih]; split <;> rfl
theorem keptB_len (M : Value → Option Int) (upto now grace : Int) (a : List Bat) : (keptB M upto now grace a).length ≤ a.length := by
  induction a with
  | nil => exact Nat.le_refl _
  | cons x r ih => simp only [keptB]; split <;> simp <;> omega
theorem segment {s : HS} {p mid : Nat} {most : Int} {M : Value → Option Int} {n : Nat} (h : IsKM s p mid most M n) (l : List Bat) (hl : l.length ≤ 100000) (hs : ∀ b ∈ l, ∃ r, b.recs = some r ∧ r.length ≤ 100000 ∧ ∀ x ∈ r, ShortR x) (upto now grace : Int) :
    HC Try.prog 27 [.list 6 l.length (batsC l) false, .ptr p 0, .lit (.int .i64 upto), .lit (.int .i64 now), .lit (.int .i64 grace)] s (fun v s' => v = batsV (orNil (keptB M upto now grace l)) ∧ s' = s) := by
  refine HC.up (HC27 ?_)
  have hlen : vLenT (Try.prog.underlying 31) s (.list 6 l.length (batsC l) false) = some (.lit (.int .i64 l.length)) := by simp [bindO, hcond, vCmp, vBin, vEq, vUn, vNil, vField, vLoad, takeCells, vIdx, vLenT, vLen, vExtract, hBS, hfill, hNew, hStore, hBox, hc_int, hc_bool, hc_string, hc_slice, hc_nilp, hc_nilm, hc_nilf, hc_agg, hc_list, hc_view, hc_ptr, hc_map, hc_func, ho_int, ho_bool, ho_string, ho_slice, ho_nilp, ho_nilm, ho_nilf, ho_list, ho_view, ho_ptr, ho_map, ho_func, putCells, hAppend, lcells, litCells, isNilS, llen, room, vMk, set_at, Join, vToInt, vSlice, vSliceX, cutAt, intAt, bl_len, bits64, bits64u, bits8, hfold, vMax2, vMin2, Try.underlying3, Try.underlying4, Try.underlying9, Try.underlying22, Try.underlying31, Try.underlying32, Try.underlying36, Try.underlying44, Try.underlying64, Try.underlying80, Try.underlying90, Try.underlying123]
  simp only [c27, hlen, bindO]
  refine HLoop.ghost (σ := HV × Nat) (fun g => [g.1, .lit (.int .i64 g.2)]) (fun g t => g.2 ≤ l.length ∧ HS.le s t ∧ OutT s t g.1 (keptB M upto now grace (l.take g.2))) (fun g => l.length - g.2) (.lit (.slice none 0 0), 0) rfl ⟨Nat.zero_le _, le_refl' s, .inl ⟨rfl, rfl⟩⟩ ?_
  rintro ⟨A, i⟩ t K ⟨hi, hst, ho⟩ hK
  simp only at hi hst ho
  by_cases hlt : i < l.length
  · have hlt' : (i : Int) < (l.length : Int) := by omega
    have hix := batsC_idx l i hlt
    have hts := take_succ' b0 l hlt
    have hsm := hs (l.getD i b0) (by rw [List.getD, List.getElem?_eq_getElem hlt]; exact List.getElem_mem hlt)
    generalize l.getD i b0 = x at *
    obtain ⟨r, hr, hr1, hr2⟩ := hsm
    simp [bindO, hcond, vCmp, vBin, vUn, vField, takeCells, vLoad, vIdx, vExtract, hNew, hStore, hBox, hc_int, hc_bool, hc_agg, hc_list, hc_view, hc_ptr, ho_int, ho_bool, putCells, set_at, Join, batC_len, ho_batC, hcb, hc_recs, ho_recs, hlt', hlt, hix]
    intro X hX
    rw [set_set]
    have hle := le_set_new (.cells (batC x)) hst hX
    have hkeep : ∀ q ob, t q = some ob → (t.set X (.cells (batC x))) q = some ob := fun q ob h => by rw [set_ne _ _ (ne_new h hX)]; exact h
    have ho1 := ho.keep hkeep
    have hkm := h.le hle
    generalize t.set X (.cells (batC x)) = t1 at *
    refine (batch hkm x r hr hr1 hr2 upto now grace).mono ?_
    rintro v s1 ⟨rfl, rfl⟩
    have hcut : ({ x with recs := orNil (keptR M upto now grace r) } : Bat) = cutB M upto now grace x := by unfold cutB; rw [hr]; rfl
    rw [hcut]
    have hkb : keptB M upto now grace (l.take (i + 1)) = keptB M upto now grace (l.take i) ++ (if keptR M upto now grace r ≠ [] then [cutB M upto now grace x] else []) := by
      rw [hts, keptB_app]
      simp only [keptB, hr, Option.getD_some]
    simp [bindO, hcond, vCmp, vBin, vUn, vField, takeCells, vLoad, vIdx, vExtract, hNew, hStore, hBox, hc_int, hc_bool, hc_agg, hc_list, hc_view, hc_ptr, ho_int, ho_bool, putCells, set_at, Join, batC_len, ho_batC, hcb, hc_recs, ho_recs]
    intro Y hY
    rw [set_set]
    have hle2 := le_set_new (.cells (batC (cutB M upto now grace x))) hle hY
    have ho2 := ho1.keep (t' := s1.set Y (.cells (batC (cutB M upto now grace x)))) fun q ob h => by rw [set_ne _ _ (ne_new h hY)]; exact h
    by_cases hk : keptR M upto now grace r = []
    · simp [bindO, hcond, vCmp, vBin, vUn, vField, takeCells, vLoad, vIdx, vExtract, hNew, hStore, hBox, hc_int, hc_bool, hc_agg, hc_list, hc_view, hc_ptr, ho_int, ho_bool, putCells, set_at, Join, batC_len, ho_batC, hcb, hc_recs, ho_recs, hk]
      refine hK (A, i + 1) _ _ (by rw [w64 (by omega) (by omega)]; rfl) ⟨hlt, hle2, ?_⟩ (by show l.length - (i + 1) < l.length - i; omega)
      rw [hkb, hk]
      simpa using ho2
    · simp [bindO, hcond, vCmp, vBin, vUn, vField, takeCells, vLoad, vIdx, vExtract, hNew, hStore, hBox, hc_int, hc_bool, hc_agg, hc_list, hc_view, hc_ptr, ho_int, ho_bool, putCells, set_at, Join, batC_len, ho_batC, hcb, hc_recs, ho_recs, hk]
      refine outT_append ho2 hle2 (Nat.le_trans (keptB_len _ _ _ _ _) (by rw [List.length_take]; omega)) ?_
      intro A' t' g1 g2
      refine hK (A', i + 1) _ _ (by rw [w64 (by omega) (by omega)]; rfl) ⟨hlt, g2, ?_⟩ (by show l.length - (i + 1) < l.length - i; omega)
      rw [hkb, if_pos hk]
      exact g1
  · obtain rfl : i = l.length := by omega
    rw [List.take_length] at ho
    generalize keptB M upto now grace l = o at *
    simp [bindO, hcond, vCmp, vBin, vUn, vField, takeCells, vLoad, vIdx, vExtract, hNew, hStore, hBox, hc_int, hc_bool, hc_agg, hc_list, hc_view, hc_ptr, ho_int, ho_bool, putCells, set_at, Join, batC_len, ho_batC, hcb, hc_recs, ho_recs]
    rcases ho with ⟨rfl, rfl⟩ | ⟨k, g1, rfl, g3, g4⟩
    · exact UpL.le _ hst
    · have horn : orNil o = some o := by cases o with | nil => exact absurd rfl g4 | cons => rfl
      rw [horn]
      have hu := UpL.frzD (xs := [.view k 0 6 o.length false]) g3 hst g1
      have hcut : (batsC o).take (o.length * 6) = batsC o := List.take_of_length_le (by rw [batsC_len]; exact Nat.le_refl _)
      simpa [frz2, frz1, frz0, phi, batsC_len, hcut, batsV] using hu
end Go.Proofs.Ytecnfekcflfihaa.CL
namespace Go.Proofs.Ytecnfekcflfihaa.CL
open Go.Proofs.Ytecnfekcflfihaa.H Go.Proofs.Ytecnfekcflfihaa.C0
set_option linter.unusedVariables false
set_option linter.unusedSimpArgs false
set_option maxRecDepth 100000
noncomputable def offF (most : Int) (g : (Value → Option Int) × Nat) (k : Value) (x : Int) : (Value → Option Int) × Nat :=
  match g.1 k with
  | some y => (put g.1 k (max x y), g.2)
  | none => if most ≤ (g.2 : Int) then g else (put g.1 k x, g.2 + 1)
theorem offer' {s : HS} {p mid : Nat} {most : Int} {g : (Value → Option Int) × Nat} (h : IsKM s p mid most g.1 g.2) (k : Option (List Int)) (x : Int) :
    HC Try.prog 52 [.ptr p 0, byV k, .lit (.int .i64 x)] s (fun v s' => s' = s.set mid (mapO (offF most g (kv k) x).1 (offF most g (kv k) x).2)) := by
  cases hM : g.1 (kv k) with
  | some y =>
    refine (offer h k x (.inr (by rw [hM]; rfl))).mono ?_
    rintro v s' ⟨-, rfl⟩
    simp [offF, hM]
  | none =>
    by_cases hr : most ≤ (g.2 : Int)
    · refine HC.weaken (HC52 ?_)
      have h1 := h.1
      have h2 := h.2
      have h0 : s.set mid (mapO g.1 g.2) = s := by
        funext q
        simp only [HS.set]
        split
        · rename_i e; rw [e, h.2]
        · rfl
      simp only [kmO, mapO] at h1 h2
      have h3 := toStr_by s k
      have h4 := isStr_by k
      have h5 := keyIs_kv k
      simp [c52, bindO, hcond, vCmp, vBin, vEq, vUn, vNil, vField, vLoad, takeCells, vIdx, vLenT, vLen, vExtract, hBS, hfill, hNew, hStore, hBox, hc_int, hc_bool, hc_string, hc_slice, hc_nilp, hc_nilm, hc_nilf, hc_agg, hc_list, hc_view, hc_ptr, hc_map, hc_func, ho_int, ho_bool, ho_string, ho_slice, ho_nilp, ho_nilm, ho_nilf, ho_list, ho_view, ho_ptr, ho_map, ho_func, putCells, hAppend, lcells, litCells, isNilS, llen, room, vMk, set_at, Join, vToInt, vSlice, vSliceX, cutAt, intAt, bl_len, bits64, bits64u, bits8, hfold, vMax2, vMin2, Try.underlying3, Try.underlying4, Try.underlying9, Try.underlying22, Try.underlying31, Try.underlying32, Try.underlying36, Try.underlying44, Try.underlying64, Try.underlying80, Try.underlying90, Try.underlying123, h1, h2, h3, h4, vLookup, hMapSet, h5, sameKey_str, hM, hr, offF]
      rw [h0]
      exact le_refl' s
    · refine (offer h k x (.inl (by omega))).mono ?_
      rintro v s' ⟨-, rfl⟩
      simp [offF, hM, hr]
noncomputable def offStep (most from_ : Int) (g : (Value → Option Int) × Nat) (r : Rec) : (Value → Option Int) × Nat := if r.hasKey = true ∧ from_ ≤ r.off then offF most g (kv r.key) r.off else g
/-- What Build comes to from a state on. -/
noncomputable def buildF (most from_ : Int) : List Bat → (Value → Option Int) × Nat → Int → ((Value → Option Int) × Nat) × Int
  | [], g, upto => (g, upto)
  | b :: l, g, upto =>
    if IntKind.i64.wrap ((g.2 : Int) + (freshF g.1 from_ (b.recs.getD [])).2) > most then (g, max b.base from_)
    else buildF most from_ l ((b.recs.getD []).foldl (offStep most from_) g) (max (IntKind.i64.wrap (b.last + 1)) from_)
theorem IsKM.set {t : HS} {p mid : Nat} {most : Int} {M M' : Value → Option Int} {n n' : Nat} (h : IsKM t p mid most M n) : IsKM (t.set mid (mapO M' n')) p mid most M' n' := by
  have hne : p ≠ mid := by
    rintro rfl
    have h1 := h.1
    rw [h.2] at h1
    simp [kmO, mapO] at h1
  exact ⟨by rw [set_ne _ _ hne]; exact h.1, set_at _ _ _⟩
theorem build (l : List Bat) (from_ most : Int) (s : HS) (hl : l.length ≤ 100000) (hs : ∀ b ∈ l, ∃ r, b.recs = some r ∧ r.length ≤ 100000) :
    HC Try.prog 19 [.list 6 l.length (batsC l) false, .lit (.int .i64 from_), .lit (.int .i64 most)] s (fun v s' => ∃ p mid, v = .tup [.ptr p 0, .lit (.int .i64 (buildF (min (max most 1) 1000000) from_ l (fun _ => none, 0) from_).2)] ∧ HS.le s s' ∧
      IsKM s' p mid (min (max most 1) 1000000) (buildF (min (max most 1) 1000000) from_ l (fun _ => none, 0) from_).1.1 (buildF (min (max most 1) 1000000) from_ l (fun _ => none, 0) from_).1.2) := by
  refine HC19 ?_
  have hlen : ∀ t, vLenT (Try.prog.underlying 31) t (.list 6 l.length (batsC l) false) = some (.lit (.int .i64 l.length)) := fun t => by simp [bindO, hcond, vCmp, vBin, vEq, vUn, vNil, vField, vLoad, takeCells, vIdx, vLenT, vLen, vExtract, hBS, hfill, hNew, hStore, hBox, hc_int, hc_bool, hc_string, hc_slice, hc_nilp, hc_nilm, hc_nilf, hc_agg, hc_list, hc_view, hc_ptr, hc_map, hc_func, ho_int, ho_bool, ho_string, ho_slice, ho_nilp, ho_nilm, ho_nilf, ho_list, ho_view, ho_ptr, ho_map, ho_func, putCells, hAppend, lcells, litCells, isNilS, llen, room, vMk, set_at, Join, vToInt, vSlice, vSliceX, cutAt, intAt, bl_len, bits64, bits64u, bits8, hfold, vMax2, vMin2, Try.underlying3, Try.underlying4, Try.underlying9, Try.underlying22, Try.underlying31, Try.underlying32, Try.underlying36, Try.underlying44, Try.underlying64, Try.underlying80, Try.underlying90, Try.underlying123]
  have hmm : (if 1000000 < (if 1 > most then 1 else most) then (1000000 : Int) else (if 1 > most then 1 else most)) = min (max most 1) 1000000 := by omega
  simp only [c19, hfold, vMax2, vMin2, bindO, Option.bind_some]
  have hw1 : 1 ≤ min (max most 1) 1000000 := by omega
  have hw2 : min (max most 1) 1000000 ≤ 1000000 := by omega
  have hmm' : (if 1000000 < (if 1 > most then 1 else most) then (1000000 : Int) else (if 1 > most then 1 else most)) = min (max most 1) 1000000 := hmm
  first | rw [hmm'] | skip
  have hmm2 : ∀ z : Int, (if (1000000 : Int) < z then (1000000 : Int) else z) = min z 1000000 := fun z => by omega
  have hmm3 : (if 1 > most then 1 else most) = max most 1 := by omega
  try simp only [hmm3, hmm2]
  generalize min (max most 1) 1000000 = W at *
  refine (new W s hw1 hw2).mono ?_
  rintro v s1 ⟨p, mid, hp, hmid, rfl, hs1, hkm⟩
  simp only [vExtract, List.getElem?_cons_zero, List.getElem?_cons_succ, hlen]
  simp only [Join]
  have hfin : ∀ (g : ((Value → Option Int) × Nat) × Int) t, HS.le s t → IsKM t p mid W g.1.1 g.1.2 → g = buildF W from_ l (fun _ => none, 0) from_ → (∃ p mid, HV.tup [.ptr p 0, .lit (.int .i64 (buildF W from_ l (fun _ => none, 0) from_).2)] = HV.tup [.ptr p 0, .lit (.int .i64 (buildF W from_ l (fun _ => none, 0) from_).2)] ∧ HS.le s t ∧ IsKM t p mid W (buildF W from_ l (fun _ => none, 0) from_).1.1 (buildF W from_ l (fun _ => none, 0) from_).1.2) := by
    rintro g t h1 h2 rfl
    exact ⟨p, mid, rfl, h1, h2⟩
  refine HLoop.ghost (σ := ((Value → Option Int) × Nat) × Int × Nat) (fun g => [.lit (.int .i64 g.2.1), .lit (.int .i64 g.2.2)]) (fun g t => g.2.2 ≤ l.length ∧ HS.le s t ∧ IsKM t p mid W g.1.1 g.1.2 ∧ buildF W from_ (l.drop g.2.2) g.1 g.2.1 = buildF W from_ l (fun _ => none, 0) from_) (fun g => l.length - g.2.2) ((fun _ => none, 0), from_, 0) rfl ⟨Nat.zero_le _, hs1, hkm, rfl⟩ ?_
  rintro ⟨g, upto, i⟩ t K ⟨hi, hst, hkt, hbf⟩ hK
  simp only at hi hst hkt hbf
  by_cases hlt : i < l.length
  · have hlt' : (i : Int) < (l.length : Int) := by omega
    have hix := batsC_idx l i hlt
    have hdc := drop_cons' b0 l hlt
    have hsm := hs (l.getD i b0) (by rw [List.getD, List.getElem?_eq_getElem hlt]; exact List.getElem_mem hlt)
    generalize l.getD i b0 = x at *
    obtain ⟨r, hr, hr1⟩ := hsm
    simp [bindO, hcond, vCmp, vBin, vUn, vField, takeCells, vLoad, vIdx, vExtract, hNew, hStore, hBox, hc_int, hc_bool, hc_agg, hc_list, hc_view, hc_ptr, ho_int, ho_bool, putCells, set_at, Join, batC_len, ho_batC, hcb, hc_recs, ho_recs, hlt', hlt, hix]
    intro X hX
    rw [set_set]
    have hat := set_at t X (.cells (batC x))
    have hle := le_set_new (.cells (batC x)) hst hX
    have hk1 := hkt.le (le_set_new (.cells (batC x)) (le_refl' t) hX)
    generalize t.set X (.cells (batC x)) = t1 at *
    have hp1 := hk1.1
    simp only [kmO] at hp1
    simp [bindO, hcond, vCmp, vBin, vUn, vField, takeCells, vLoad, vIdx, vExtract, hNew, hStore, hBox, hc_int, hc_bool, hc_agg, hc_list, hc_view, hc_ptr, ho_int, ho_bool, putCells, set_at, Join, batC_len, ho_batC, hcb, hc_recs, ho_recs, vNil, hp1]
    refine (len hk1).mono ?_
    rintro v s2 ⟨rfl, rfl⟩
    simp [hp1, hat, batC_len, hcb]
    refine (fresh hk1 x r hr hr1 from_).mono ?_
    rintro v s3 ⟨rfl, rfl⟩
    simp [hp1, hat]
    have x0 : (batC x)[0]? = some (.lit (.int .i64 x.base)) := rfl
    have x1 : (batC x)[1]? = some (.lit (.int .i64 x.last)) := rfl
    have x5 : (batC x)[5]? = some (recsV (some r)) := by rw [← hr]; rfl
    rw [hdc] at hbf
    by_cases hroom : W < IntKind.i64.wrap ((g.2 : Int) + ((freshF g.1 from_ r).2 : Nat))
    · simp only [buildF, hr, Option.getD_some, gt_iff_lt, if_pos hroom] at hbf
      simp [bindO, hcond, vCmp, vBin, vUn, vField, takeCells, vLoad, vIdx, vExtract, hNew, hStore, hBox, hc_int, hc_bool, hc_agg, hc_list, hc_view, hc_ptr, ho_int, ho_bool, putCells, set_at, Join, batC_len, ho_batC, hcb, hc_recs, ho_recs, hroom, x0]
      rw [← hbf]
      exact ⟨p, ⟨rfl, by show (if x.base < from_ then from_ else x.base) = max x.base from_; omega⟩, hle, mid, hk1⟩
    · simp only [buildF, hr, Option.getD_some, gt_iff_lt, if_neg hroom] at hbf
      have hl5 := len_recs (some r) s3
      simp only [Option.getD_some] at hl5
      simp [bindO, hcond, vCmp, vBin, vUn, vField, takeCells, vLoad, vIdx, vExtract, hNew, hStore, hBox, hc_int, hc_bool, hc_agg, hc_list, hc_view, hc_ptr, ho_int, ho_bool, putCells, set_at, Join, batC_len, ho_batC, hcb, hc_recs, ho_recs, hroom, x5, hl5]
      refine HLoop.ghost (σ := Nat) (fun j => [.lit (.int .i64 j)]) (fun j t => j ≤ r.length ∧ HS.le s t ∧ t X = some (.cells (batC x)) ∧ IsKM t p mid W ((r.take j).foldl (offStep W from_) g).1 ((r.take j).foldl (offStep W from_) g).2) (fun j => r.length - j) 0 rfl ⟨Nat.zero_le _, hle, hat, hk1⟩ ?_
      rintro j t2 K2 ⟨hj, hst2, hat2, hk2⟩ hK2
      by_cases hjl : j < r.length
      · have hjl' : (j : Int) < (r.length : Int) := by omega
        have hjx := recsC_idx r j hjl
        have hjt := take_succ' r0 r hjl
        generalize r.getD j r0 = y at *
        have hfo : (r.take (j + 1)).foldl (offStep W from_) g = offStep W from_ ((r.take j).foldl (offStep W from_) g) y := by rw [hjt]; simp
        generalize (r.take j).foldl (offStep W from_) g = g2 at *
        simp [bindO, hcond, vCmp, vBin, vUn, vField, takeCells, vLoad, vIdx, vExtract, hNew, hStore, hBox, hc_int, hc_bool, hc_agg, hc_list, hc_view, hc_ptr, ho_int, ho_bool, putCells, set_at, Join, batC_len, ho_batC, hcb, hc_recs, ho_recs, recsV, hjl', hjl, hjx, recC_len, ho_recC, hcz]
        intro Y hY
        rw [set_set]
        have y0 : (recC y)[0]? = some (.lit (.int .i64 y.off)) := rfl
        have y2 : (recC y)[2]? = some (.lit (.bool y.hasKey)) := rfl
        have y3 : (recC y)[3]? = some (byV y.key) := rfl
        have hk3 := hk2.le (le_set_new (.cells (recC y)) (le_refl' t2) hY)
        have hle3 := le_set_new (.cells (recC y)) hst2 hY
        have hat3 : (t2.set Y (.cells (recC y))) X = some (.cells (batC x)) := by rw [set_ne _ _ (ne_new hat2 hY)]; exact hat2
        generalize t2.set Y (.cells (recC y)) = t3 at *
        have hXm : X ≠ mid := by
          rintro rfl
          rw [hk3.2] at hat3
          simp [mapO] at hat3
        have hjw : IntKind.i64.wrap ((j : Int) + 1) = ((j + 1 : Nat) : Int) := by rw [w64 (by omega) (by omega)]; rfl
        have hskip : offStep W from_ g2 y = g2 → K2 [.lit (.int .i64 (IntKind.i64.wrap ((j : Int) + 1)))] t3 := by
          intro e
          refine hK2 (j + 1) _ _ (by rw [hjw]) ⟨hjl, hle3, hat3, ?_⟩ (by omega)
          rw [hfo, e]
          exact hk3
        cases hh : y.hasKey with
        | false =>
          simp [y2, hh]
          exact hskip (by simp [offStep, hh])
        | true =>
          by_cases hof : from_ ≤ y.off
          · simp [y0, y2, y3, hh, hof]
            refine (offer' hk3 y.key y.off).mono ?_
            rintro v s5 rfl
            refine hK2 (j + 1) _ _ (by rw [hjw]) ⟨hjl, le_set_free _ hle3 hmid, by rw [set_ne _ _ hXm]; exact hat3, ?_⟩ (by omega)
            rw [hfo, offStep, if_pos ⟨hh, hof⟩]
            exact hk3.set
          · simp [y0, y2, hh, hof]
            exact hskip (by simp [offStep, hof])
      · obtain rfl : j = r.length := by omega
        rw [List.take_length] at hk2
        simp [bindO, hcond, vCmp, vBin, vUn, vField, takeCells, vLoad, vIdx, vExtract, hNew, hStore, hBox, hc_int, hc_bool, hc_agg, hc_list, hc_view, hc_ptr, ho_int, ho_bool, putCells, set_at, Join, batC_len, ho_batC, hcb, hc_recs, ho_recs, hat2, x1]
        refine hK (r.foldl (offStep W from_) g, max (IntKind.i64.wrap (x.last + 1)) from_, i + 1) _ _ ?_ ⟨hlt, hst2, hk2, hbf⟩ (by show l.length - (i + 1) < l.length - i; omega)
        rw [w64 (x := (i : Int) + 1) (by omega) (by omega), show (if IntKind.i64.wrap (x.last + 1) < from_ then from_ else IntKind.i64.wrap (x.last + 1)) = max (IntKind.i64.wrap (x.last + 1)) from_ by omega]
        rfl
  · obtain rfl : i = l.length := by omega
    rw [List.drop_length] at hbf
    simp [bindO, hcond, vCmp, vBin, vUn, vField, takeCells, vLoad, vIdx, vExtract, hNew, hStore, hBox, hc_int, hc_bool, hc_agg, hc_list, hc_view, hc_ptr, ho_int, ho_bool, putCells, set_at, Join, batC_len, ho_batC, hcb, hc_recs, ho_recs]
    simp only [buildF] at hbf
    rw [← hbf]
    exact ⟨p, ⟨rfl, rfl⟩, hst, mid, hkt⟩
end Go.Proofs.Ytecnfekcflfihaa.CL
end
section
namespace Go.Proofs.Ytecnfekcflfihaa.F0
open Go.Proofs.Ytecnfekcflfihaa.H
set_option linter.unusedVariables false
set_option maxRecDepth 100000
/-- cordwain/fold.Records -/
def c34 (a0 : HV) (s : HS) (Q : HV → HS → Prop) : Prop :=
  hBox s a0 (fun x1 s2 => Q (.func (.func 59) [x1]) s2)
theorem c34_eq (a0 : HV) (s : HS) (Q : HV → HS → Prop) : (match Try.f34.body with | some c => hwp Try.prog (fun p => none) false 1 c (hretQ Try.prog Try.f34.results.toList Q) (([a0] : List HV) ++ List.replicate (Try.f34.ntmps - 1) (.lit undef)) s | none => False) = c34 a0 s Q := by kernel_rfl
theorem HC34 {a0 : HV} {s : HS} {Q : HV → HS → Prop} (h : c34 a0 s Q) : HC Try.prog 34 [a0] s Q := HC_by Try.func34 (by have := c34_eq a0 s Q; exact this.mpr h)
/-- cordwain/fold.Records$1 -/
def c59 (a0 a1 : HV) (s : HS) (Q : HV → HS → Prop) : Prop :=
  bindO (vLoad s a1 1 false) fun x1 => bindO (vLenT (Try.prog.underlying 31) s x1) fun x2 => HLoop (fun y4 s5 K3 => bindO (vBin .lss (y4.headD .junk) x2) fun x6 => hcond x6 (bindO (vIdx 6 x1 (y4.headD .junk)) fun x7 => bindO (vLoad s5 x7 6 true) fun x8 => hNew s5 (.cells [.lit (.int .i64 0), .lit (.int .i64 0), .lit (.int .i64 0), .lit (.int .i64 0), .lit (.int .i64 0), .lit (.slice none 0 0)]) (fun id => .ptr id 0) (fun x9 s10 => hStore s10 x9 x8 6 (fun s11 => bindO (vField 5 x9) fun x12 => bindO (vLoad s11 x12 1 false) fun x13 => bindO (vLenT (Try.prog.underlying 44) s11 x13) fun x14 => HLoop (fun y16 s17 K15 => bindO (vBin .lss (y16.headD .junk) x14) fun x18 => hcond x18 (bindO (vIdx 6 x13 (y16.headD .junk)) fun x19 => bindO (vLoad s17 x19 6 true) fun x20 => hNew s17 (.cells [.lit (.int .i64 0), .lit (.int .i64 0), .lit (.bool false), .lit (.slice none 0 0), .lit (.bool false), .lit (.slice none 0 0)]) (fun id => .ptr id 0) (fun x21 s22 => hStore s22 x21 x20 6 (fun s23 => bindO (vLoad s23 x21 6 true) fun x24 => HC Try.prog 58 [x24] s23 (fun r25 s26 => hcall Try.prog a0 [r25] s26 (fun r27 s28 => bindO (vUn .not r27) fun x29 => hcond x29 (Q (.tup []) s28) (bindO (vBin .add (y16.headD .junk) (.lit (.int .i64 1))) fun x30 => K15 [x30] s28)))))) (bindO (vBin .add (y4.headD .junk) (.lit (.int .i64 1))) fun x31 => K3 [x31] s17)) [(.lit (.int .i64 0))] s11))) (Q (.tup []) s5)) [(.lit (.int .i64 0))] s
theorem c59_eq (a0 a1 : HV) (s : HS) (Q : HV → HS → Prop) : (match Try.f59.body with | some c => hwp Try.prog (fun p => if p = 22 then some [9] else if p = 5734 then some [16] else none) false 1 c (hretQ Try.prog Try.f59.results.toList Q) (([a0, a1] : List HV) ++ List.replicate (Try.f59.ntmps - 2) (.lit undef)) s | none => False) = c59 a0 a1 s Q := by kernel_rfl
theorem HC59 {a0 a1 : HV} {s : HS} {Q : HV → HS → Prop} (h : c59 a0 a1 s Q) : HC Try.prog 59 [a0, a1] s Q := HC_by Try.func59 (by have := c59_eq a0 a1 s Q; exact this.mpr h)
/-- cordwain/fold.Batches -/
def c39 (a0 : HV) (s : HS) (Q : HV → HS → Prop) : Prop :=
  HC Try.prog 34 [a0] s (fun r1 s2 => HC Try.prog 40 [r1] s2 (fun r3 s4 => Q r3 s4))
theorem c39_eq (a0 : HV) (s : HS) (Q : HV → HS → Prop) : (match Try.f39.body with | some c => hwp Try.prog (fun p => none) false 1 c (hretQ Try.prog Try.f39.results.toList Q) (([a0] : List HV) ++ List.replicate (Try.f39.ntmps - 1) (.lit undef)) s | none => False) = c39 a0 s Q := by kernel_rfl
theorem HC39 {a0 : HV} {s : HS} {Q : HV → HS → Prop} (h : c39 a0 s Q) : HC Try.prog 39 [a0] s Q := HC_by Try.func39 (by have := c39_eq a0 s Q; exact this.mpr h)
/-- cordwain/fold.Of -/
def c40 (a0 : HV) (s : HS) (Q : HV → HS → Prop) : Prop :=
  hNew s (.map .string (fun _ => none) 0) (fun id => .map id) (fun x1 s2 => hNew s2 (.cells [.lit (.map none)]) (fun id => .ptr id 0) (fun x3 s4 => hStore s4 x3 x1 1 (fun s5 => Join (fun K6 => bindO (vCmp (Try.prog.underlying 62) .neq a0 (.lit .nilFunc)) fun x9 => hcond x9 (HRange Try.prog a0 1 [a0, (.lit undef), (.lit (.slice none 0 0)), x3, (.lit undef), (.lit undef), (.lit undef), (.lit undef), x1, a0, (.lit (.bool true)), a0, (.lit undef), (.lit undef), (.lit undef), (.lit undef), (.lit undef), (.lit undef), (.lit undef), (.lit undef), (.lit undef), (.lit undef), (.lit undef), (.lit undef), (.lit undef), (.lit undef), (.lit undef), (.lit undef), (.lit undef), (.lit undef), (.lit undef), (.lit undef), (.lit undef), (.lit undef), (.lit undef), (.lit undef), (.lit undef), (.lit undef), (.lit undef), (.lit undef), (.lit undef), (.lit undef), (.lit undef), (.lit undef), (.lit undef), (.lit undef)] (fun B10 y11 s12 K13 => hNew s12 (.cells [.lit (.int .i64 0), .lit (.int .i64 0), .lit (.bool false), .lit (.slice none 0 0), .lit (.bool false), .lit (.slice none 0 0)]) (fun id => .ptr id 0) (fun x14 s15 => hStore s15 x14 (y11.headD .junk) 6 (fun s16 => B10 s16 fun s17 => bindO (vField 2 x14) fun x18 => bindO (vLoad s17 x18 1 false) fun x19 => hcond x19 (bindO (vLoad s17 x3 1 false) fun x20 => bindO (vField 3 x14) fun x21 => bindO (vLoad s17 x21 1 false) fun x22 => bindO ((if isStrHV x22 then none else vToStr s17 x22)) fun x23 => bindO (vLoad s17 x14 6 true) fun x24 => HC Try.prog 58 [x24] s17 (fun r25 s26 => ((if isStrHV x22 then none else vToStr s26 x22) = (if isStrHV x22 then none else vToStr s17 x22) ∧ (vLoad s26 x21 1 false = vLoad s17 x21 1 false ∧ (vLoad s26 x3 1 false = vLoad s17 x3 1 false ∧ hMapSet s26 (Try.prog.underlying 9) x20 x23 r25 (fun s27 => K13 .normal s27)))))) (K13 .normal s17)))) s5 (fun s28 => K6 [] s28) (fun s29 => Q (.lit (.slice none 0 0)) s29) (fun i31 s30 => if i31 = 0 then K6 [] s30 else False)) (K6 [] s5)) (fun y7 s8 => bindO (vLoad s8 x3 1 false) fun x32 => HC Try.prog 63 [x32] s8 (fun r33 s34 => HC Try.prog 62 [r33] s34 (fun r35 s36 => bindO (vLenT (Try.prog.underlying 106) s36 r35) fun x37 => HLoop (fun y39 s40 K38 => bindO (vBin .lss (y39.tail.headD .junk) x37) fun x41 => hcond x41 (Join (fun K42 => bindO (vIdx 1 r35 (y39.tail.headD .junk)) fun x45 => bindO (vLoad s40 x45 1 false) fun x46 => bindO (vLoad s40 x3 1 false) fun x47 => bindO (vLookup s40 (Try.prog.underlying 9) (.lit (.agg #[(.int .i64 0), (.int .i64 0), (.bool false), (.slice none 0 0), (.bool false), (.slice none 0 0)])) x47 x46 false) fun x48 => hNew s40 (.cells [.lit (.int .i64 0), .lit (.int .i64 0), .lit (.bool false), .lit (.slice none 0 0), .lit (.bool false), .lit (.slice none 0 0)]) (fun id => .ptr id 0) (fun x49 s50 => hStore s50 x49 x48 6 (fun s51 => bindO (vField 4 x49) fun x52 => bindO (vLoad s51 x52 1 false) fun x53 => hcond x53 (hStrBytes s51 x46 (fun x54 s55 => bindO (vField 5 x49) fun x56 => bindO (vLoad s55 x56 1 false) fun x57 => bindO (vField 0 x49) fun x58 => bindO (vLoad s55 x58 1 false) fun x59 => bindO (vMk [(0, 1), (1, 1), (2, 1)] [.lit (.slice none 0 0), .lit (.slice none 0 0), .lit (.int .i64 0)] [(0, x54), (1, x57), (2, x59)]) fun x60 => hBS s55 3 1 [.lit (.slice none 0 0), .lit (.slice none 0 0), .lit (.int .i64 0)] [(0, x60)] (fun x61 s62 => hAppend s62 3 56 (y39.headD .junk) x61 (fun x63 s64 => K42 [x63] s64)))) (K42 [(y39.headD .junk)] s51)))) (fun y43 s44 => bindO (vBin .add (y39.tail.headD .junk) (.lit (.int .i64 1))) fun x65 => K38 [(y43.headD .junk), x65] s44)) (Q (y39.headD .junk) s40)) [(.lit (.slice none 0 0)), (.lit (.int .i64 0))] s36))))))
theorem c40_eq (a0 : HV) (s : HS) (Q : HV → HS → Prop) : (match Try.f40.body with | some c => hwp Try.prog (fun p => if p = 7 then some [] else if p = 122 then some [2, 25] else if p = 979 then some [2] else none) false 1 c (hretQ Try.prog Try.f40.results.toList Q) (([a0] : List HV) ++ List.replicate (Try.f40.ntmps - 1) (.lit undef)) s | none => False) = c40 a0 s Q := by kernel_rfl
theorem HC40 {a0 : HV} {s : HS} {Q : HV → HS → Prop} (h : c40 a0 s Q) : HC Try.prog 40 [a0] s Q := HC_by Try.func40 (by have := c40_eq a0 s Q; exact this.mpr h)
/-- cordwain/fold.Same -/
def c43 (a0 a1 : HV) (s : HS) (Q : HV → HS → Prop) : Prop :=
  HC Try.prog 66 [a0, a1, (.func (.func 67) [])] s (fun r1 s2 => Q r1 s2)
theorem c43_eq (a0 a1 : HV) (s : HS) (Q : HV → HS → Prop) : (match Try.f43.body with | some c => hwp Try.prog (fun p => none) false 1 c (hretQ Try.prog Try.f43.results.toList Q) (([a0, a1] : List HV) ++ List.replicate (Try.f43.ntmps - 2) (.lit undef)) s | none => False) = c43 a0 a1 s Q := by kernel_rfl
theorem HC43 {a0 a1 : HV} {s : HS} {Q : HV → HS → Prop} (h : c43 a0 a1 s Q) : HC Try.prog 43 [a0, a1] s Q := HC_by Try.func43 (by have := c43_eq a0 a1 s Q; exact this.mpr h)
/-- slices.EqualFunc[[]cordwain/fold.Pair,[]cordwain/fold.Pair,cordwain/fold.Pair,cordwain/fold.Pair] -/
def c66 (a0 a1 a2 : HV) (s : HS) (Q : HV → HS → Prop) : Prop :=
  bindO (vLenT (Try.prog.underlying 69) s a0) fun x1 => bindO (vLenT (Try.prog.underlying 69) s a1) fun x2 => bindO (vCmp (Try.prog.underlying 3) .neq x1 x2) fun x3 => hcond x3 (Q (.lit (.bool false)) s) (bindO (vLenT (Try.prog.underlying 69) s a0) fun x4 => HLoop (fun y6 s7 K5 => bindO (vBin .lss (y6.headD .junk) x4) fun x8 => hcond x8 (bindO (vIdx 3 a0 (y6.headD .junk)) fun x9 => bindO (vLoad s7 x9 3 true) fun x10 => hNew s7 (.cells [.lit (.slice none 0 0), .lit (.slice none 0 0), .lit (.int .i64 0)]) (fun id => .ptr id 0) (fun x11 s12 => hStore s12 x11 x10 3 (fun s13 => bindO (vIdx 3 a1 (y6.headD .junk)) fun x14 => bindO (vLoad s13 x14 3 true) fun x15 => hNew s13 (.cells [.lit (.slice none 0 0), .lit (.slice none 0 0), .lit (.int .i64 0)]) (fun id => .ptr id 0) (fun x16 s17 => hStore s17 x16 x15 3 (fun s18 => bindO (vLoad s18 x11 3 true) fun x19 => bindO (vLoad s18 x16 3 true) fun x20 => hcall Try.prog a2 [x19, x20] s18 (fun r21 s22 => bindO (vUn .not r21) fun x23 => hcond x23 (Q (.lit (.bool false)) s22) (bindO (vBin .add (y6.headD .junk) (.lit (.int .i64 1))) fun x24 => K5 [x24] s22))))))) (Q (.lit (.bool true)) s7)) [(.lit (.int .i64 0))] s)
theorem c66_eq (a0 a1 a2 : HV) (s : HS) (Q : HV → HS → Prop) : (match Try.f66.body with | some c => hwp Try.prog (fun p => if p = 58 then some [17] else none) false 1 c (hretQ Try.prog Try.f66.results.toList Q) (([a0, a1, a2] : List HV) ++ List.replicate (Try.f66.ntmps - 3) (.lit undef)) s | none => False) = c66 a0 a1 a2 s Q := by kernel_rfl
theorem HC66 {a0 a1 a2 : HV} {s : HS} {Q : HV → HS → Prop} (h : c66 a0 a1 a2 s Q) : HC Try.prog 66 [a0, a1, a2] s Q := HC_by Try.func66 (by have := c66_eq a0 a1 a2 s Q; exact this.mpr h)
/-- cordwain/fold.Same$1 -/
def c67 (a0 a1 : HV) (s : HS) (Q : HV → HS → Prop) : Prop :=
  hBox s a0 (fun x1 s2 => hBox s2 a1 (fun x3 s4 => bindO (vField 0 x1) fun x5 => bindO (vLoad s4 x5 1 false) fun x6 => bindO (vField 0 x3) fun x7 => bindO (vLoad s4 x7 1 false) fun x8 => HC Try.prog 68 [x6, x8] s4 (fun r9 s10 => hcond r9 (bindO (vField 1 x1) fun x11 => bindO (vLoad s10 x11 1 false) fun x12 => bindO (vField 1 x3) fun x13 => bindO (vLoad s10 x13 1 false) fun x14 => HC Try.prog 68 [x12, x14] s10 (fun r15 s16 => Q r15 s16)) (Q (.lit (.bool false)) s10))))
theorem c67_eq (a0 a1 : HV) (s : HS) (Q : HV → HS → Prop) : (match Try.f67.body with | some c => hwp Try.prog (fun p => none) false 1 c (hretQ Try.prog Try.f67.results.toList Q) (([a0, a1] : List HV) ++ List.replicate (Try.f67.ntmps - 2) (.lit undef)) s | none => False) = c67 a0 a1 s Q := by kernel_rfl
theorem HC67 {a0 a1 : HV} {s : HS} {Q : HV → HS → Prop} (h : c67 a0 a1 s Q) : HC Try.prog 67 [a0, a1] s Q := HC_by Try.func67 (by have := c67_eq a0 a1 s Q; exact this.mpr h)
/-- bytes.Equal -/
def c68 (a0 a1 : HV) (s : HS) (Q : HV → HS → Prop) : Prop :=
  bindO ((if isStrHV a0 then none else vToStr s a0)) fun x1 => bindO ((if isStrHV a1 then none else vToStr s a1)) fun x2 => bindO (vCmp (Try.prog.underlying 9) .eql x1 x2) fun x3 => Q x3 s
theorem c68_eq (a0 a1 : HV) (s : HS) (Q : HV → HS → Prop) : (match Try.f68.body with | some c => hwp Try.prog (fun p => none) false 1 c (hretQ Try.prog Try.f68.results.toList Q) (([a0, a1] : List HV) ++ List.replicate (Try.f68.ntmps - 2) (.lit undef)) s | none => False) = c68 a0 a1 s Q := by kernel_rfl
theorem HC68 {a0 a1 : HV} {s : HS} {Q : HV → HS → Prop} (h : c68 a0 a1 s Q) : HC Try.prog 68 [a0, a1] s Q := HC_by Try.func68 (by have := c68_eq a0 a1 s Q; exact this.mpr h)
end Go.Proofs.Ytecnfekcflfihaa.F0
end
section
namespace Go.Proofs.Ytecnfekcflfihaa.CL
open Go.Proofs.Ytecnfekcflfihaa.H Go.Proofs.Ytecnfekcflfihaa.C0 Go.Proofs.Ytecnfekcflfihaa.F0
set_option linter.unusedVariables false
set_option linter.unusedSimpArgs false
set_option maxRecDepth 100000
def recsOf (l : List Bat) : List Rec := l.flatMap fun b => b.recs.getD []
theorem recsOf_take (l : List Bat) (i : Nat) (hi : i < l.length) : recsOf (l.take (i + 1)) = recsOf (l.take i) ++ ((l.getD i b0).recs.getD []) := by
  rw [take_succ' b0 l hi]; simp [recsOf]
theorem recsOf_at (l : List Bat) (i k : Nat) (hi : i < l.length) (hk : k < ((l.getD i b0).recs.getD []).length) :
    (recsOf (l.take i)).length + k < (recsOf l).length ∧ (recsOf l).getD ((recsOf (l.take i)).length + k) r0 = ((l.getD i b0).recs.getD []).getD k r0 := by
  have e : recsOf l = recsOf (l.take i) ++ (((l.getD i b0).recs.getD []) ++ recsOf (l.drop (i + 1))) := by
    have h := List.take_append_drop i l
    rw [drop_cons' b0 l hi] at h
    conv => lhs; rw [← h]
    simp [recsOf]
  generalize ((l.getD i b0).recs.getD []) = y at *
  constructor
  · rw [e, List.length_append, List.length_append]; omega
  · rw [e]
    simp only [List.getD]
    rw [List.getElem?_append_right (Nat.le_add_right _ _), Nat.add_sub_cancel_left, List.getElem?_append_left hk]
theorem iter59 (l : List Bat) (idl p : Nat) (s : HS) (hl : l.length ≤ 100000) (hs : ∀ b ∈ l, ∃ r, b.recs = some r ∧ r.length ≤ 100000 ∧ ∀ x ∈ r, ShortR x) (J : Nat → HS → Prop) (E : HS → Prop)
    (hJ : ∀ i t t', J i t → HS.le t t' → J i t')
    (hround : ∀ i t (K : HV → HS → Prop), i < (recsOf l).length → J i t → (∀ t', J (i + 1) t' → K (.lit (.bool true)) t') → (∀ t', E t' → K (.lit (.bool false)) t') → HY Try.prog idl [.agg (recC ((recsOf l).getD i r0))] t K)
    (hp : s p = some (.cells [batsV (some l)])) (h0 : J 0 s) : HC Try.prog 59 [.yld idl, .ptr p 0] s (fun v t => J (recsOf l).length t ∨ E t) := by
  refine HC59 ?_
  simp [c59, bindO, hcond, vCmp, vBin, vEq, vUn, vNil, vField, vLoad, takeCells, vIdx, vLenT, vLen, vExtract, hNew, hStore, hBox, hc_int, hc_bool, hc_string, hc_slice, hc_nilp, hc_nilm, hc_nilf, hc_agg, hc_list, hc_view, hc_ptr, hc_map, hc_func, ho_int, ho_bool, ho_string, ho_slice, ho_nilp, ho_nilm, ho_nilf, ho_list, ho_view, ho_ptr, ho_map, ho_func, putCells, lcells, litCells, isNilS, llen, room, vMk, set_at, Join, Try.underlying3, Try.underlying4, Try.underlying9, Try.underlying22, Try.underlying31, Try.underlying32, Try.underlying36, Try.underlying44, Try.underlying64, Try.underlying80, Try.underlying90, Try.underlying123, hp, batsV]
  refine HLoop.ghost (σ := Nat) (fun i => [.lit (.int .i64 i)]) (fun i t => i ≤ l.length ∧ J (recsOf (l.take i)).length t) (fun i => l.length - i) 0 rfl ⟨Nat.zero_le _, h0⟩ ?_
  rintro i t K ⟨hi, hj⟩ hK
  by_cases hlt : i < l.length
  · have hlt' : (i : Int) < (l.length : Int) := by omega
    have hix := batsC_idx l i hlt
    have hts := recsOf_take l i hlt
    have hat := fun k => recsOf_at l i k hlt
    have hsm := hs (l.getD i b0) (by rw [List.getD, List.getElem?_eq_getElem hlt]; exact List.getElem_mem hlt)
    generalize l.getD i b0 = x at *
    obtain ⟨c0, c1, c2, c3, c4, recs⟩ := x
    obtain ⟨rs, hrs, hrl, hsh⟩ := hsm
    simp only at hrs
    subst hrs
    simp only [Option.getD_some] at hts hat
    simp [bindO, hcond, vCmp, vBin, vEq, vUn, vNil, vField, vLoad, takeCells, vIdx, vLenT, vLen, vExtract, hNew, hStore, hBox, hc_int, hc_bool, hc_string, hc_slice, hc_nilp, hc_nilm, hc_nilf, hc_agg, hc_list, hc_view, hc_ptr, hc_map, hc_func, ho_int, ho_bool, ho_string, ho_slice, ho_nilp, ho_nilm, ho_nilf, ho_list, ho_view, ho_ptr, ho_map, ho_func, putCells, lcells, litCells, isNilS, llen, room, vMk, set_at, Join, Try.underlying3, Try.underlying4, Try.underlying9, Try.underlying22, Try.underlying31, Try.underlying32, Try.underlying36, Try.underlying44, Try.underlying64, Try.underlying80, Try.underlying90, Try.underlying123, hlt', hlt, hix, batC_len, hcb, ho_batC]
    intro X hX
    have hj1 := hJ _ _ _ hj (le_set_new (.cells (batC ⟨c0, c1, c2, c3, c4, some rs⟩)) (le_refl' t) hX)
    simp [bindO, hcond, vCmp, vBin, vEq, vUn, vNil, vField, vLoad, takeCells, vIdx, vLenT, vLen, vExtract, hNew, hStore, hBox, hc_int, hc_bool, hc_string, hc_slice, hc_nilp, hc_nilm, hc_nilf, hc_agg, hc_list, hc_view, hc_ptr, hc_map, hc_func, ho_int, ho_bool, ho_string, ho_slice, ho_nilp, ho_nilm, ho_nilf, ho_list, ho_view, ho_ptr, ho_map, ho_func, putCells, lcells, litCells, isNilS, llen, room, vMk, set_at, Join, Try.underlying3, Try.underlying4, Try.underlying9, Try.underlying22, Try.underlying31, Try.underlying32, Try.underlying36, Try.underlying44, Try.underlying64, Try.underlying80, Try.underlying90, Try.underlying123, set_set, batC, recsV] at hj1 ⊢
    generalize t.set X _ = t1 at *
    refine HLoop.ghost (σ := Nat) (fun k => [.lit (.int .i64 k)]) (fun k t => k ≤ rs.length ∧ J ((recsOf (l.take i)).length + k) t) (fun k => rs.length - k) 0 rfl ⟨Nat.zero_le _, hj1⟩ ?_
    rintro k t2 K2 ⟨hk, hj2⟩ hK2
    by_cases hkl : k < rs.length
    · have hkl' : (k : Int) < (rs.length : Int) := by omega
      have hkx := recsC_idx rs k hkl
      obtain ⟨ha1, ha2⟩ := hat k hkl
      have hsr := hsh (rs.getD k r0) (by rw [List.getD, List.getElem?_eq_getElem hkl]; exact List.getElem_mem hkl)
      generalize rs.getD k r0 = y at *
      simp [bindO, hcond, vCmp, vBin, vEq, vUn, vNil, vField, vLoad, takeCells, vIdx, vLenT, vLen, vExtract, hNew, hStore, hBox, hc_int, hc_bool, hc_string, hc_slice, hc_nilp, hc_nilm, hc_nilf, hc_agg, hc_list, hc_view, hc_ptr, hc_map, hc_func, ho_int, ho_bool, ho_string, ho_slice, ho_nilp, ho_nilm, ho_nilf, ho_list, ho_view, ho_ptr, ho_map, ho_func, putCells, lcells, litCells, isNilS, llen, room, vMk, set_at, Join, Try.underlying3, Try.underlying4, Try.underlying9, Try.underlying22, Try.underlying31, Try.underlying32, Try.underlying36, Try.underlying44, Try.underlying64, Try.underlying80, Try.underlying90, Try.underlying123, hkl', hkl, hkx, recsC_len, hcz, ho_recC, recC_len]
      intro X2 hX2
      have hj3 := hJ _ _ _ hj2 (le_set_new (.cells (recC y)) (le_refl' t2) hX2)
      simp [bindO, hcond, vCmp, vBin, vEq, vUn, vNil, vField, vLoad, takeCells, vIdx, vLenT, vLen, vExtract, hNew, hStore, hBox, hc_int, hc_bool, hc_string, hc_slice, hc_nilp, hc_nilm, hc_nilf, hc_agg, hc_list, hc_view, hc_ptr, hc_map, hc_func, ho_int, ho_bool, ho_string, ho_slice, ho_nilp, ho_nilm, ho_nilf, ho_list, ho_view, ho_ptr, ho_map, ho_func, putCells, lcells, litCells, isNilS, llen, room, vMk, set_at, Join, Try.underlying3, Try.underlying4, Try.underlying9, Try.underlying22, Try.underlying31, Try.underlying32, Try.underlying36, Try.underlying44, Try.underlying64, Try.underlying80, Try.underlying90, Try.underlying123, set_set, hcz, ho_recC, recC_len] at hj3 ⊢
      generalize t2.set X2 _ = t3 at *
      refine (own y _ hsr.1 hsr.2).mono ?_
      rintro v s1 ⟨rfl, rfl⟩
      simp only [hcall]
      rw [← ha2]
      refine hround _ _ _ ha1 hj3 (fun t' h' => ?_) (fun t' h' => ?_)
      · simp [bindO, hcond, vCmp, vBin, vEq, vUn, vNil, vField, vLoad, takeCells, vIdx, vLenT, vLen, vExtract, hNew, hStore, hBox, hc_int, hc_bool, hc_string, hc_slice, hc_nilp, hc_nilm, hc_nilf, hc_agg, hc_list, hc_view, hc_ptr, hc_map, hc_func, ho_int, ho_bool, ho_string, ho_slice, ho_nilp, ho_nilm, ho_nilf, ho_list, ho_view, ho_ptr, ho_map, ho_func, putCells, lcells, litCells, isNilS, llen, room, vMk, set_at, Join, Try.underlying3, Try.underlying4, Try.underlying9, Try.underlying22, Try.underlying31, Try.underlying32, Try.underlying36, Try.underlying44, Try.underlying64, Try.underlying80, Try.underlying90, Try.underlying123]
        exact hK2 (k + 1) _ _ (by rw [w64 (by omega) (by omega)]; rfl) ⟨hkl, h'⟩ (by omega)
      · simp [bindO, hcond, vCmp, vBin, vEq, vUn, vNil, vField, vLoad, takeCells, vIdx, vLenT, vLen, vExtract, hNew, hStore, hBox, hc_int, hc_bool, hc_string, hc_slice, hc_nilp, hc_nilm, hc_nilf, hc_agg, hc_list, hc_view, hc_ptr, hc_map, hc_func, ho_int, ho_bool, ho_string, ho_slice, ho_nilp, ho_nilm, ho_nilf, ho_list, ho_view, ho_ptr, ho_map, ho_func, putCells, lcells, litCells, isNilS, llen, room, vMk, set_at, Join, Try.underlying3, Try.underlying4, Try.underlying9, Try.underlying22, Try.underlying31, Try.underlying32, Try.underlying36, Try.underlying44, Try.underlying64, Try.underlying80, Try.underlying90, Try.underlying123]
        exact .inr h'
    · obtain rfl : k = rs.length := by omega
      simp [bindO, hcond, vCmp, vBin, vEq, vUn, vNil, vField, vLoad, takeCells, vIdx, vLenT, vLen, vExtract, hNew, hStore, hBox, hc_int, hc_bool, hc_string, hc_slice, hc_nilp, hc_nilm, hc_nilf, hc_agg, hc_list, hc_view, hc_ptr, hc_map, hc_func, ho_int, ho_bool, ho_string, ho_slice, ho_nilp, ho_nilm, ho_nilf, ho_list, ho_view, ho_ptr, ho_map, ho_func, putCells, lcells, litCells, isNilS, llen, room, vMk, set_at, Join, Try.underlying3, Try.underlying4, Try.underlying9, Try.underlying22, Try.underlying31, Try.underlying32, Try.underlying36, Try.underlying44, Try.underlying64, Try.underlying80, Try.underlying90, Try.underlying123]
      refine hK (i + 1) _ _ (by rw [w64 (by omega) (by omega)]; rfl) ⟨hlt, ?_⟩ (by show l.length - (i + 1) < l.length - i; omega)
      rw [hts, List.length_append]
      exact hj2
  · obtain rfl : i = l.length := by omega
    rw [List.take_length] at hj
    simp [bindO, hcond, vCmp, vBin, vEq, vUn, vNil, vField, vLoad, takeCells, vIdx, vLenT, vLen, vExtract, hNew, hStore, hBox, hc_int, hc_bool, hc_string, hc_slice, hc_nilp, hc_nilm, hc_nilf, hc_agg, hc_list, hc_view, hc_ptr, hc_map, hc_func, ho_int, ho_bool, ho_string, ho_slice, ho_nilp, ho_nilm, ho_nilf, ho_list, ho_view, ho_ptr, ho_map, ho_func, putCells, lcells, litCells, isNilS, llen, room, vMk, set_at, Join, Try.underlying3, Try.underlying4, Try.underlying9, Try.underlying22, Try.underlying31, Try.underlying32, Try.underlying36, Try.underlying44, Try.underlying64, Try.underlying80, Try.underlying90, Try.underlying123]
    exact .inl hj
end Go.Proofs.Ytecnfekcflfihaa.CL
end
section
namespace Go.Proofs.Ytecnfekcflfihaa.H
open Go.RowKit Go.MapKept
set_option linter.unusedVariables false
set_option linter.unusedSimpArgs false
variable {P : Program} {s : HS}
def IsTok : HObj → Prop
  | .tok _ _ _ => True
  | _ => False
/-- But for a token, all that t knows t' knows. -/
structure Near (idl : Nat) (t t' : HS) : Prop where
  tok : ∀ ob, t idl = some ob → IsTok ob
  rest : ∀ k ob, k ≠ idl → t k = some ob → t' k = some ob
theorem Near.ob {idl : Nat} {t t' : HS} (h : Near idl t t') {k : Nat} {ob : HObj} (hk : t k = some ob) (ho : ¬ IsTok ob) : t' k = some ob :=
  h.rest k ob (by rintro rfl; exact ho (h.tok _ hk)) hk
theorem Near.cells {idl : Nat} {t t' : HS} (h : Near idl t t') {k : Nat} {cs : List HV} (hk : t k = some (.cells cs)) : t' k = some (.cells cs) := h.ob hk (fun h => h)
theorem Near.map {idl : Nat} {t t' : HS} (h : Near idl t t') {k : Nat} {d : TypeDesc} {f : Value → Option HV} {n : Nat} (hk : t k = some (.map d f n)) : t' k = some (.map d f n) := h.ob hk (fun h => h)
theorem Near.le {idl : Nat} {b t t' : HS} (h : Near idl t t') (hb : HS.le b t) (hn : b idl = none) : HS.le b t' := fun k ob hk => h.rest k ob (by rintro rfl; rw [hn] at hk; cases hk) (hb k ob hk)
/-- Function f, which captures caps, gives yield the rows enc 0 .. enc (n-1), one behind the other, till it says no. -/
def Gives (P : Program) (f : FuncId) (caps : List HV) (n : Nat) (enc : Nat → List HV) (s : HS) : Prop :=
  ∀ (idl : Nat) (J : Nat → HS → Prop) (E : HS → Prop) (s' : HS), HS.le s s' → (∀ i t t', J i t → HS.le t t' → J i t') →
    (∀ (i : Nat) (t : HS) (K : HV → HS → Prop), i < n → J i t → (∀ t', J (i + 1) t' → K (.lit (.bool true)) t') → (∀ t', E t' → K (.lit (.bool false)) t') → HY P idl (enc i) t K) →
    J 0 s' → HC P f (.yld idl :: caps) s' fun v t => J n t ∨ E t
theorem Gives.le {f : FuncId} {caps : List HV} {n : Nat} {enc : Nat → List HV} {s' : HS} (h : Gives P f caps n enc s) (hle : HS.le s s') : Gives P f caps n enc s' :=
  fun idl J E s2 h2 => h idl J E s2 (fun k ob hk => h2 k ob (hle k ob hk))
theorem HRange.seq {f : FuncId} {caps env : List HV} {n n1 : Nat} {enc : Nat → List HV} {B : (HS → (HS → Prop) → Prop) → List HV → HS → (Exit → HS → Prop) → Prop} {Qn Qr : HS → Prop} {Qx : Nat → HS → Prop}
    (hp : plainFn P f = true) (it : Gives P f caps n enc s) (hl : ∀ i, i < n → (enc i).length = n1) (I : Nat → HS → Prop) (Er : HS → Prop) (Ex : Nat → HS → Prop)
    (hI : ∀ idl i t t', s idl = none → Near idl t t' → I i t → I i t') (hEr : ∀ idl t t', s idl = none → Near idl t t' → Er t → Er t') (hEx : ∀ idl i t t', s idl = none → Near idl t t' → Ex i t → Ex i t')
    (h0 : I 0 s) (hn : ∀ t, I n t → Qn t) (hr : ∀ t, Er t → Qr t) (hx : ∀ i t, Ex i t → Qx i t)
    (round : ∀ (i : Nat) (t : HS) (idl : Nat) (R0 R1 : HObj) (K : Exit → HS → Prop), i < n → s idl = none → t idl = some R0 → I i t → (∀ t', t' idl = some R1 → I (i + 1) t' → K .normal t') →
      (∀ t', t' idl = some R1 → Er t' → K .ret t') → (∀ j t', t' idl = some R1 → Ex j t' → K (.exit j) t') → IsTok R0 → IsTok R1 → B (fun t' G => t' idl = some R0 ∧ G (t'.set idl R1)) (enc i) t K) :
    HRange P (.func (.func f) caps) n1 env B s Qn Qr Qx := by
  unfold HRange
  simp only
  rw [hite_eq, if_pos hp]
  intro idl r hid hrounds
  have near : ∀ {t t' : HS} {st : Option (Option Code)}, t idl = some (.tok r env st) → (∀ k ob, k ≠ idl → t k = some ob → t' k = some ob) → Near idl t t' := fun h1 h2 => ⟨fun ob ho => by rw [h1] at ho; cases ho; exact True.intro, h2⟩
  have setN : ∀ (t : HS) (o : HObj) k ob, k ≠ idl → t k = some ob → (t.set idl o) k = some ob := fun t o k ob hk h => by simp only [HS.set, if_neg hk]; exact h
  have delN : ∀ (t : HS) k ob, k ≠ idl → t k = some ob → (t.del idl) k = some ob := fun t k ob hk h => by simp only [HS.del, if_neg hk]; exact h
  refine (it idl (fun i t => t idl = some (.tok r env (some none)) ∧ I i t) (fun t => (t idl = some (.tok r env (some (some .ret))) ∧ Er t) ∨ ∃ i, t idl = some (.tok r env (some (some (.exit i)))) ∧ Ex i t) (s.set idl (.tok r env (some none))) ?_ ?_ ?_ ?_).mono ?_
  · intro k ob hk
    exact setN s _ k ob (by rintro rfl; rw [hid] at hk; cases hk) hk
  · rintro i t t' ⟨h1, h2⟩ hle
    exact ⟨hle _ _ h1, hI idl i t t' hid (near h1 fun k ob _ hk => hle k ob hk) h2⟩
  · rintro i t K hi ⟨h1, h2⟩ hT hF
    refine hrounds (enc i) t K h1 (hl i hi) ?_
    refine round i t idl _ _ _ hi hid h1 h2 (fun t' g1 g2 => ⟨g1, ?_⟩) (fun t' g1 g2 => ⟨g1, ?_⟩) (fun j t' g1 g2 => ⟨g1, ?_⟩) True.intro True.intro
    · exact hT _ ⟨by simp [HS.set], hI idl _ _ _ hid (near g1 (setN t' _)) g2⟩
    · exact hF _ (.inl ⟨by simp [HS.set], hEr idl _ _ hid (near g1 (setN t' _)) g2⟩)
    · exact hF _ (.inr ⟨j, by simp [HS.set], hEx idl _ _ _ hid (near g1 (setN t' _)) g2⟩)
  · exact ⟨by simp [HS.set], hI idl 0 s _ hid ⟨fun ob ho => (by rw [hid] at ho; cases ho), setN s _⟩ h0⟩
  · rintro v t (⟨h1, h2⟩ | ⟨h1, h2⟩ | ⟨i, h1, h2⟩)
    · exact .inl ⟨h1, hn _ (hI idl _ _ _ hid (near h1 (delN t)) h2)⟩
    · exact .inr (.inl ⟨h1, hr _ (hEr idl _ _ hid (near h1 (delN t)) h2)⟩)
    · exact .inr (.inr ⟨i, h1, hx _ _ (hEx idl _ _ _ hid (near h1 (delN t)) h2)⟩)
end Go.Proofs.Ytecnfekcflfihaa.H
end
section
namespace Go.Proofs.Ytecnfekcflfihaa.C1
open Go.Proofs.Ytecnfekcflfihaa.H
set_option linter.unusedVariables false
set_option maxRecDepth 100000
/-- cordwain/cordwainalike.Sum -/
def c18 (a0 a1 : HV) (s : HS) (Q : HV → HS → Prop) : Prop :=
  HLoop (fun y2 s3 K1 => bindO (vLenT (Try.prog.underlying 80) s3 a1) fun x4 => bindO (vBin .lss (y2.tail.headD .junk) x4) fun x5 => hcond x5 (Join (fun K6 => bindO (vBin .gtr (y2.headD .junk) (.lit (.int .i64 1099511627776))) fun x9 => hcond x9 (K6 [(.lit (.bool true))] s3) (bindO (vIdx 1 a1 (y2.tail.headD .junk)) fun x10 => bindO (vLoad s3 x10 1 false) fun x11 => bindO (vBin .sub (.lit (.int .i64 1099511627776)) (y2.headD .junk)) fun x12 => bindO (vBin .gtr x11 x12) fun x13 => K6 [x13] s3)) (fun y7 s8 => hcond (y7.headD .junk) (Q (.lit (.int .i64 1099511627776)) s8) (bindO (vIdx 1 a1 (y2.tail.headD .junk)) fun x14 => bindO (vLoad s8 x14 1 false) fun x15 => bindO (vBin .add (y2.headD .junk) x15) fun x16 => bindO (vBin .add (y2.tail.headD .junk) (.lit (.int .i64 1))) fun x17 => K1 [x16, x17] s8))) (Q (y2.headD .junk) s3)) [a0, (.lit (.int .i64 0))] s
theorem c18_eq (a0 a1 : HV) (s : HS) (Q : HV → HS → Prop) : (match Try.f18.body with | some c => hwp Try.prog (fun p => if p = 26 then some [0, 5] else if p = 840 then some [22] else none) false 1 c (hretQ Try.prog Try.f18.results.toList Q) (([a0, a1] : List HV) ++ List.replicate (Try.f18.ntmps - 2) (.lit undef)) s | none => False) = c18 a0 a1 s Q := by kernel_rfl
theorem HC18 {a0 a1 : HV} {s : HS} {Q : HV → HS → Prop} (h : c18 a0 a1 s Q) : HC Try.prog 18 [a0, a1] s Q := HC_by Try.func18 (by have := c18_eq a0 a1 s Q; exact this.mpr h)
/-- cordwain/cordwainalike.Batch -/
def c71 (a0 : HV) (s : HS) (Q : HV → HS → Prop) : Prop :=
  hBox s a0 (fun x1 s2 => HLoop (fun y4 s5 K3 => Join (fun K6 => bindO (vField 5 x1) fun x9 => bindO (vLoad s5 x9 1 false) fun x10 => bindO (vLenT (Try.prog.underlying 44) s5 x10) fun x11 => bindO (vBin .lss (y4.tail.headD .junk) x11) fun x12 => hcond x12 (bindO (vBin .leq (y4.headD .junk) (.lit (.int .i64 1099511627776))) fun x13 => K6 [x13] s5) (K6 [(.lit (.bool false))] s5)) (fun y7 s8 => hcond (y7.headD .junk) (bindO (vField 5 x1) fun x14 => bindO (vLoad s8 x14 1 false) fun x15 => bindO (vIdx 6 x15 (y4.tail.headD .junk)) fun x16 => bindO (vField 3 x16) fun x17 => bindO (vLoad s8 x17 1 false) fun x18 => bindO (vLenT (Try.prog.underlying 32) s8 x18) fun x19 => bindO (vField 5 x1) fun x20 => bindO (vLoad s8 x20 1 false) fun x21 => bindO (vIdx 6 x21 (y4.tail.headD .junk)) fun x22 => bindO (vField 5 x22) fun x23 => bindO (vLoad s8 x23 1 false) fun x24 => bindO (vLenT (Try.prog.underlying 32) s8 x24) fun x25 => hBS s8 1 3 [.lit (.int .i64 0), .lit (.int .i64 0), .lit (.int .i64 0)] [(0, (.lit (.int .i64 1))), (1, x19), (2, x25)] (fun x26 s27 => HC Try.prog 18 [(y4.headD .junk), x26] s27 (fun r28 s29 => bindO (vBin .add (y4.tail.headD .junk) (.lit (.int .i64 1))) fun x30 => K3 [r28, x30] s29))) (Q (y4.headD .junk) s8))) [(.lit (.int .i64 1)), (.lit (.int .i64 0))] s2)
theorem c71_eq (a0 : HV) (s : HS) (Q : HV → HS → Prop) : (match Try.f71.body with | some c => hwp Try.prog (fun p => if p = 58 then some [3, 4] else if p = 232 then some [13] else none) false 1 c (hretQ Try.prog Try.f71.results.toList Q) (([a0] : List HV) ++ List.replicate (Try.f71.ntmps - 1) (.lit undef)) s | none => False) = c71 a0 s Q := by kernel_rfl
theorem HC71 {a0 : HV} {s : HS} {Q : HV → HS → Prop} (h : c71 a0 s Q) : HC Try.prog 71 [a0] s Q := HC_by Try.func71 (by have := c71_eq a0 s Q; exact this.mpr h)
/-- cordwain/cordwainalike.Batches -/
def c46 (a0 a1 : HV) (s : HS) (Q : HV → HS → Prop) : Prop :=
  HLoop (fun y2 s3 K1 => Join (fun K4 => bindO (vLenT (Try.prog.underlying 31) s3 a0) fun x7 => bindO (vBin .lss (y2.tail.headD .junk) x7) fun x8 => hcond x8 (bindO (vBin .leq (y2.headD .junk) a1) fun x9 => K4 [x9] s3) (K4 [(.lit (.bool false))] s3)) (fun y5 s6 => hcond (y5.headD .junk) (bindO (vIdx 6 a0 (y2.tail.headD .junk)) fun x10 => bindO (vLoad s6 x10 6 true) fun x11 => HC Try.prog 71 [x11] s6 (fun r12 s13 => hBS s13 1 1 [.lit (.int .i64 0)] [(0, r12)] (fun x14 s15 => HC Try.prog 18 [(y2.headD .junk), x14] s15 (fun r16 s17 => bindO (vBin .add (y2.tail.headD .junk) (.lit (.int .i64 1))) fun x18 => K1 [r16, x18] s17)))) (Q (y2.headD .junk) s6))) [(.lit (.int .i64 0)), (.lit (.int .i64 0))] s
theorem c46_eq (a0 a1 : HV) (s : HS) (Q : HV → HS → Prop) : (match Try.f46.body with | some c => hwp Try.prog (fun p => if p = 58 then some [5, 6] else if p = 232 then some [15] else none) false 1 c (hretQ Try.prog Try.f46.results.toList Q) (([a0, a1] : List HV) ++ List.replicate (Try.f46.ntmps - 2) (.lit undef)) s | none => False) = c46 a0 a1 s Q := by kernel_rfl
theorem HC46 {a0 a1 : HV} {s : HS} {Q : HV → HS → Prop} (h : c46 a0 a1 s Q) : HC Try.prog 46 [a0, a1] s Q := HC_by Try.func46 (by have := c46_eq a0 a1 s Q; exact this.mpr h)
/-- cordwain/cordwainref1.checkRecord -/
def c69 (a0 a1 a2 : HV) (s : HS) (Q : HV → HS → Prop) : Prop :=
  hBox s a0 (fun x1 s2 => hBox s2 a1 (fun x3 s4 => Join (fun K5 => bindO (vField 0 x1) fun x8 => bindO (vLoad s4 x8 1 false) fun x9 => bindO (vField 0 x3) fun x10 => bindO (vLoad s4 x10 1 false) fun x11 => bindO (vBin .lss x9 x11) fun x12 => hcond x12 (K5 [(.lit (.bool true))] s4) (bindO (vField 0 x1) fun x13 => bindO (vLoad s4 x13 1 false) fun x14 => bindO (vField 1 x3) fun x15 => bindO (vLoad s4 x15 1 false) fun x16 => bindO (vBin .gtr x14 x16) fun x17 => hcond x17 (K5 [(.lit (.bool true))] s4) (bindO (vField 0 x1) fun x18 => bindO (vLoad s4 x18 1 false) fun x19 => bindO (vBin .leq x19 a2) fun x20 => hcond x20 (K5 [(.lit (.bool true))] s4) (bindO (vField 1 x1) fun x21 => bindO (vLoad s4 x21 1 false) fun x22 => bindO (vBin .lss x22 (.lit (.int .i64 0))) fun x23 => hcond x23 (K5 [(.lit (.bool true))] s4) (bindO (vField 1 x1) fun x24 => bindO (vLoad s4 x24 1 false) fun x25 => bindO (vBin .gtr x25 (.lit (.int .i64 1125899906842624))) fun x26 => hcond x26 (K5 [(.lit (.bool true))] s4) (bindO (vField 2 x1) fun x27 => bindO (vLoad s4 x27 1 false) fun x28 => bindO (vUn .not x28) fun x29 => hcond x29 (bindO (vField 3 x1) fun x30 => bindO (vLoad s4 x30 1 false) fun x31 => bindO (vLenT (Try.prog.underlying 32) s4 x31) fun x32 => bindO (vBin .gtr x32 (.lit (.int .i64 0))) fun x33 => hcond x33 (K5 [(.lit (.bool true))] s4) (bindO (vField 4 x1) fun x34 => bindO (vLoad s4 x34 1 false) fun x35 => bindO (vUn .not x35) fun x36 => hcond x36 (bindO (vField 5 x1) fun x37 => bindO (vLoad s4 x37 1 false) fun x38 => bindO (vLenT (Try.prog.underlying 32) s4 x38) fun x39 => bindO (vBin .gtr x39 (.lit (.int .i64 0))) fun x40 => K5 [x40] s4) (K5 [(.lit (.bool false))] s4))) (bindO (vField 4 x1) fun x41 => bindO (vLoad s4 x41 1 false) fun x42 => bindO (vUn .not x42) fun x43 => hcond x43 (bindO (vField 5 x1) fun x44 => bindO (vLoad s4 x44 1 false) fun x45 => bindO (vLenT (Try.prog.underlying 32) s4 x45) fun x46 => bindO (vBin .gtr x46 (.lit (.int .i64 0))) fun x47 => K5 [x47] s4) (K5 [(.lit (.bool false))] s4)))))))) (fun y6 s7 => hcond (y6.headD .junk) (Q (.lit (.int .i64 1)) s7) (Join (fun K48 => bindO (vField 3 x1) fun x51 => bindO (vLoad s7 x51 1 false) fun x52 => bindO (vLenT (Try.prog.underlying 32) s7 x52) fun x53 => bindO (vBin .gtr x53 (.lit (.int .i64 200))) fun x54 => hcond x54 (K48 [(.lit (.bool true))] s7) (bindO (vField 5 x1) fun x55 => bindO (vLoad s7 x55 1 false) fun x56 => bindO (vLenT (Try.prog.underlying 32) s7 x56) fun x57 => bindO (vBin .gtr x57 (.lit (.int .i64 2000))) fun x58 => K48 [x58] s7)) (fun y49 s50 => hcond (y49.headD .junk) (Q (.lit (.int .i64 3)) s50) (Q (.lit (.int .i64 0)) s50))))))
theorem c69_eq (a0 a1 a2 : HV) (s : HS) (Q : HV → HS → Prop) : (match Try.f69.body with | some c => hwp Try.prog (fun p => if p = 12 then some [7] else if p = 51 then some [58] else none) false 1 c (hretQ Try.prog Try.f69.results.toList Q) (([a0, a1, a2] : List HV) ++ List.replicate (Try.f69.ntmps - 3) (.lit undef)) s | none => False) = c69 a0 a1 a2 s Q := by kernel_rfl
theorem HC69 {a0 a1 a2 : HV} {s : HS} {Q : HV → HS → Prop} (h : c69 a0 a1 a2 s Q) : HC Try.prog 69 [a0, a1, a2] s Q := HC_by Try.func69 (by have := c69_eq a0 a1 a2 s Q; exact this.mpr h)
/-- cordwain/cordwainref1.Check -/
def c45 (a0 : HV) (s : HS) (Q : HV → HS → Prop) : Prop :=
  hBox s a0 (fun x1 s2 => Join (fun K3 => bindO (vField 0 x1) fun x6 => bindO (vLoad s2 x6 1 false) fun x7 => bindO (vBin .lss x7 (.lit (.int .i64 0))) fun x8 => hcond x8 (K3 [(.lit (.bool true))] s2) (bindO (vField 0 x1) fun x9 => bindO (vLoad s2 x9 1 false) fun x10 => bindO (vBin .gtr x10 (.lit (.int .i64 4611686018427387904))) fun x11 => hcond x11 (K3 [(.lit (.bool true))] s2) (bindO (vField 1 x1) fun x12 => bindO (vLoad s2 x12 1 false) fun x13 => bindO (vField 0 x1) fun x14 => bindO (vLoad s2 x14 1 false) fun x15 => bindO (vBin .lss x13 x15) fun x16 => hcond x16 (K3 [(.lit (.bool true))] s2) (bindO (vField 1 x1) fun x17 => bindO (vLoad s2 x17 1 false) fun x18 => bindO (vBin .gtr x18 (.lit (.int .i64 4611686018427387904))) fun x19 => hcond x19 (K3 [(.lit (.bool true))] s2) (bindO (vField 2 x1) fun x20 => bindO (vLoad s2 x20 1 false) fun x21 => bindO (vBin .lss x21 (.lit (.int .i64 0))) fun x22 => hcond x22 (K3 [(.lit (.bool true))] s2) (bindO (vField 2 x1) fun x23 => bindO (vLoad s2 x23 1 false) fun x24 => bindO (vBin .gtr x24 (.lit (.int .i64 1099511627776))) fun x25 => hcond x25 (K3 [(.lit (.bool true))] s2) (bindO (vField 3 x1) fun x26 => bindO (vLoad s2 x26 1 false) fun x27 => bindO (vBin .lss x27 (.lit (.int .i64 0))) fun x28 => hcond x28 (K3 [(.lit (.bool true))] s2) (bindO (vField 3 x1) fun x29 => bindO (vLoad s2 x29 1 false) fun x30 => bindO (vBin .gtr x30 (.lit (.int .i64 32767))) fun x31 => hcond x31 (K3 [(.lit (.bool true))] s2) (bindO (vField 4 x1) fun x32 => bindO (vLoad s2 x32 1 false) fun x33 => bindO (vBin .lss x33 (.lit (.int .i64 0))) fun x34 => hcond x34 (K3 [(.lit (.bool true))] s2) (bindO (vField 4 x1) fun x35 => bindO (vLoad s2 x35 1 false) fun x36 => bindO (vBin .gtr x36 (.lit (.int .i64 2147483647))) fun x37 => hcond x37 (K3 [(.lit (.bool true))] s2) (bindO (vField 2 x1) fun x38 => bindO (vLoad s2 x38 1 false) fun x39 => bindO (vCmp (Try.prog.underlying 3) .eql x39 (.lit (.int .i64 0))) fun x40 => hcond x40 (bindO (vField 3 x1) fun x41 => bindO (vLoad s2 x41 1 false) fun x42 => bindO (vCmp (Try.prog.underlying 3) .neq x42 (.lit (.int .i64 0))) fun x43 => hcond x43 (K3 [(.lit (.bool true))] s2) (bindO (vField 4 x1) fun x44 => bindO (vLoad s2 x44 1 false) fun x45 => bindO (vCmp (Try.prog.underlying 3) .neq x45 (.lit (.int .i64 0))) fun x46 => K3 [x46] s2)) (K3 [(.lit (.bool false))] s2)))))))))))) (fun y4 s5 => hcond (y4.headD .junk) (Q (.lit (.int .i64 1)) s5) (bindO (vField 5 x1) fun x47 => bindO (vLoad s5 x47 1 false) fun x48 => bindO (vLenT (Try.prog.underlying 44) s5 x48) fun x49 => bindO (vBin .gtr x49 (.lit (.int .i64 100))) fun x50 => hcond x50 (Q (.lit (.int .i64 3)) s5) (HLoop (fun y52 s53 K51 => bindO (vField 5 x1) fun x54 => bindO (vLoad s53 x54 1 false) fun x55 => bindO (vLenT (Try.prog.underlying 44) s53 x55) fun x56 => bindO (vBin .lss (y52.tail.headD .junk) x56) fun x57 => hcond x57 (bindO (vField 5 x1) fun x58 => bindO (vLoad s53 x58 1 false) fun x59 => bindO (vIdx 6 x59 (y52.tail.headD .junk)) fun x60 => bindO (vLoad s53 x60 6 true) fun x61 => bindO (vLoad s53 x1 6 true) fun x62 => HC Try.prog 69 [x61, x62, (y52.headD .junk)] s53 (fun r63 s64 => bindO (vCmp (Try.prog.underlying 3) .neq r63 (.lit (.int .i64 0))) fun x65 => hcond x65 (Q r63 s64) (bindO (vField 5 x1) fun x66 => bindO (vLoad s64 x66 1 false) fun x67 => bindO (vIdx 6 x67 (y52.tail.headD .junk)) fun x68 => bindO (vField 0 x68) fun x69 => bindO (vLoad s64 x69 1 false) fun x70 => bindO (vBin .add (y52.tail.headD .junk) (.lit (.int .i64 1))) fun x71 => K51 [x70, x71] s64))) (bindO (vLoad s53 x1 6 true) fun x72 => HC Try.prog 70 [x72] s53 (fun r73 s74 => bindO (vLenT (Try.prog.underlying 32) s74 r73) fun x75 => bindO (vBin .gtr x75 (.lit (.int .i64 65536))) fun x76 => hcond x76 (Q (.lit (.int .i64 3)) s74) (Q (.lit (.int .i64 0)) s74)))) [(.lit (.int .i64 (-1))), (.lit (.int .i64 0))] s5))))
theorem c45_eq (a0 : HV) (s : HS) (Q : HV → HS → Prop) : (match Try.f45.body with | some c => hwp Try.prog (fun p => if p = 6 then some [70] else if p = 250 then some [3, 4] else none) false 1 c (hretQ Try.prog Try.f45.results.toList Q) (([a0] : List HV) ++ List.replicate (Try.f45.ntmps - 1) (.lit undef)) s | none => False) = c45 a0 s Q := by kernel_rfl
theorem HC45 {a0 : HV} {s : HS} {Q : HV → HS → Prop} (h : c45 a0 s Q) : HC Try.prog 45 [a0] s Q := HC_by Try.func45 (by have := c45_eq a0 s Q; exact this.mpr h)
/-- cordwain/cordwainlaw14.may -/
def c13 (a0 : HV) (s : HS) (Q : HV → HS → Prop) : Prop :=
  bindO (vLenT (Try.prog.underlying 22) s a0) fun x1 => bindO (vBin .gtr x1 (.lit (.int .i64 20))) fun x2 => hcond x2 (Q (.lit (.bool false)) s) (HLoop (fun y4 s5 K3 => bindO (vLenT (Try.prog.underlying 22) s5 a0) fun x6 => bindO (vBin .lss (y4.tail.tail.headD .junk) x6) fun x7 => hcond x7 (bindO (vIdx 1 a0 (y4.tail.tail.headD .junk)) fun x8 => bindO (vLoad s5 x8 1 false) fun x9 => HC Try.prog 46 [x9, (.lit (.int .i64 4000))] s5 (fun r10 s11 => hBS s11 1 1 [.lit (.int .i64 0)] [(0, r10)] (fun x12 s13 => HC Try.prog 18 [(y4.tail.headD .junk), x12] s13 (fun r14 s15 => Join (fun K16 => bindO (vBin .gtr r14 (.lit (.int .i64 4000))) fun x19 => hcond x19 (K16 [(.lit (.bool true))] s15) (bindO (vIdx 1 a0 (y4.tail.tail.headD .junk)) fun x20 => bindO (vLoad s15 x20 1 false) fun x21 => bindO (vLenT (Try.prog.underlying 31) s15 x21) fun x22 => bindO (vBin .gtr x22 (.lit (.int .i64 30))) fun x23 => K16 [x23] s15)) (fun y17 s18 => hcond (y17.headD .junk) (Q (.lit (.bool false)) s18) (HLoop (fun y25 s26 K24 => bindO (vIdx 1 a0 (y4.tail.tail.headD .junk)) fun x27 => bindO (vLoad s26 x27 1 false) fun x28 => bindO (vLenT (Try.prog.underlying 31) s26 x28) fun x29 => bindO (vBin .lss (y25.tail.headD .junk) x29) fun x30 => hcond x30 (bindO (vIdx 1 a0 (y4.tail.tail.headD .junk)) fun x31 => bindO (vLoad s26 x31 1 false) fun x32 => bindO (vIdx 6 x32 (y25.tail.headD .junk)) fun x33 => bindO (vLoad s26 x33 6 true) fun x34 => hNew s26 (.cells [.lit (.int .i64 0), .lit (.int .i64 0), .lit (.int .i64 0), .lit (.int .i64 0), .lit (.int .i64 0), .lit (.slice none 0 0)]) (fun id => .ptr id 0) (fun x35 s36 => hStore s36 x35 x34 6 (fun s37 => Join (fun K38 => bindO (vField 5 x35) fun x41 => bindO (vLoad s37 x41 1 false) fun x42 => bindO (vLenT (Try.prog.underlying 44) s37 x42) fun x43 => bindO (vCmp (Try.prog.underlying 3) .eql x43 (.lit (.int .i64 0))) fun x44 => hcond x44 (K38 [(.lit (.bool true))] s37) (bindO (vField 5 x35) fun x45 => bindO (vLoad s37 x45 1 false) fun x46 => bindO (vLenT (Try.prog.underlying 44) s37 x46) fun x47 => bindO (vBin .gtr x47 (.lit (.int .i64 100))) fun x48 => hcond x48 (K38 [(.lit (.bool true))] s37) (bindO (vLoad s37 x35 6 true) fun x49 => HC Try.prog 45 [x49] s37 (fun r50 s51 => bindO (vCmp (Try.prog.underlying 3) .neq r50 (.lit (.int .i64 0))) fun x52 => hcond x52 (K38 [(.lit (.bool true))] s51) (bindO (vField 0 x35) fun x53 => bindO (vLoad s51 x53 1 false) fun x54 => bindO (vBin .leq x54 (y25.headD .junk)) fun x55 => K38 [x55] s51))))) (fun y39 s40 => hcond (y39.headD .junk) (Q (.lit (.bool false)) s40) (bindO (vField 1 x35) fun x56 => bindO (vLoad s40 x56 1 false) fun x57 => bindO (vBin .add (y25.tail.headD .junk) (.lit (.int .i64 1))) fun x58 => K24 [x57, x58] s40))))) (bindO (vBin .add (y4.tail.tail.headD .junk) (.lit (.int .i64 1))) fun x59 => K3 [(y25.headD .junk), r14, x59] s26)) [(y4.headD .junk), (.lit (.int .i64 0))] s18)))))) (Q (.lit (.bool true)) s5)) [(.lit (.int .i64 (-1))), (.lit (.int .i64 0)), (.lit (.int .i64 0))] s)
theorem c13_eq (a0 : HV) (s : HS) (Q : HV → HS → Prop) : (match Try.f13.body with | some c => hwp Try.prog (fun p => if p = 122 then some [3, 4, 5] else if p = 7826 then some [34] else if p = 31310 then some [3, 6] else if p = 2003858 then some [71] else none) false 1 c (hretQ Try.prog Try.f13.results.toList Q) (([a0] : List HV) ++ List.replicate (Try.f13.ntmps - 1) (.lit undef)) s | none => False) = c13 a0 s Q := by kernel_rfl
theorem HC13 {a0 : HV} {s : HS} {Q : HV → HS → Prop} (h : c13 a0 s Q) : HC Try.prog 13 [a0] s Q := HC_by Try.func13 (by have := c13_eq a0 s Q; exact this.mpr h)
end Go.Proofs.Ytecnfekcflfihaa.C1
end
section
namespace Go.Proofs.Ytecnfekcflfihaa.C2
open Go.Proofs.Ytecnfekcflfihaa.H
set_option linter.unusedVariables false
set_option maxRecDepth 100000
/-- cordwain/cordwainref1.Fixed -/
def c77 (a0 a1 : HV) (s : HS) (Q : HV → HS → Prop) : Prop :=
  hMake s 1 1 (.int .u8 0) a1 a1 (fun x1 s2 => HLoop (fun y4 s5 K3 => bindO (vBin .lss (y4.headD .junk) a1) fun x6 => hcond x6 (bindO (vBin .sub a1 (.lit (.int .i64 1))) fun x7 => bindO (vBin .sub x7 (y4.headD .junk)) fun x8 => bindO (vToInt .u64 a0) fun x9 => bindO (vBin .mul (.lit (.int .i64 8)) (y4.headD .junk)) fun x10 => bindO (vBin .shr x9 x10) fun x11 => bindO (vToInt .u8 x11) fun x12 => bindO (vIdx 1 x1 x8) fun x13 => hStore s5 x13 x12 1 (fun s14 => bindO (vBin .add (y4.headD .junk) (.lit (.int .i64 1))) fun x15 => K3 [x15] s14)) (Q x1 s5)) [(.lit (.int .i64 0))] s2)
theorem c77_eq (a0 a1 : HV) (s : HS) (Q : HV → HS → Prop) : (match Try.f77.body with | some c => hwp Try.prog (fun p => if p = 58 then some [6] else none) false 1 c (hretQ Try.prog Try.f77.results.toList Q) (([a0, a1] : List HV) ++ List.replicate (Try.f77.ntmps - 2) (.lit undef)) s | none => False) = c77 a0 a1 s Q := by kernel_rfl
theorem HC77 {a0 a1 : HV} {s : HS} {Q : HV → HS → Prop} (h : c77 a0 a1 s Q) : HC Try.prog 77 [a0, a1] s Q := HC_by Try.func77 (by have := c77_eq a0 a1 s Q; exact this.mpr h)
/-- cordwain/cordwainref1.Zig -/
def c97 (a0 : HV) (s : HS) (Q : HV → HS → Prop) : Prop :=
  bindO (vBin .lss a0 (.lit (.int .i64 0))) fun x1 => hcond x1 (bindO (vBin .add a0 (.lit (.int .i64 1))) fun x2 => bindO (vUn .neg x2) fun x3 => bindO (vToInt .u64 x3) fun x4 => bindO (vBin .mul (.lit (.int .u64 2)) x4) fun x5 => bindO (vBin .add x5 (.lit (.int .u64 1))) fun x6 => Q x6 s) (bindO (vToInt .u64 a0) fun x7 => bindO (vBin .mul (.lit (.int .u64 2)) x7) fun x8 => Q x8 s)
theorem c97_eq (a0 : HV) (s : HS) (Q : HV → HS → Prop) : (match Try.f97.body with | some c => hwp Try.prog (fun p => none) false 1 c (hretQ Try.prog Try.f97.results.toList Q) (([a0] : List HV) ++ List.replicate (Try.f97.ntmps - 1) (.lit undef)) s | none => False) = c97 a0 s Q := by kernel_rfl
theorem HC97 {a0 : HV} {s : HS} {Q : HV → HS → Prop} (h : c97 a0 s Q) : HC Try.prog 97 [a0] s Q := HC_by Try.func97 (by have := c97_eq a0 s Q; exact this.mpr h)
/-- cordwain/cordwainref1.Put -/
def c84 (a0 : HV) (s : HS) (Q : HV → HS → Prop) : Prop :=
  HC Try.prog 97 [a0] s (fun r1 s2 => HLoop (fun y4 s5 K3 => bindO (vBin .geq (y4.headD .junk) (.lit (.int .u64 128))) fun x6 => hcond x6 (bindO (vToInt .u8 (y4.headD .junk)) fun x7 => bindO (vBin .or x7 (.lit (.int .u8 128))) fun x8 => hBS s5 1 1 [.lit (.int .u8 0)] [(0, x8)] (fun x9 s10 => hAppend s10 1 1 (y4.tail.headD .junk) x9 (fun x11 s12 => bindO (vBin .shr (y4.headD .junk) (.lit (.int .u64 7))) fun x13 => K3 [x13, x11] s12))) (bindO (vToInt .u8 (y4.headD .junk)) fun x14 => hBS s5 1 1 [.lit (.int .u8 0)] [(0, x14)] (fun x15 s16 => hAppend s16 1 1 (y4.tail.headD .junk) x15 (fun x17 s18 => Q x17 s18)))) [r1, (.lit (.slice none 0 0))] s2)
theorem c84_eq (a0 : HV) (s : HS) (Q : HV → HS → Prop) : (match Try.f84.body with | some c => hwp Try.prog (fun p => if p = 60 then some [3, 4] else none) false 1 c (hretQ Try.prog Try.f84.results.toList Q) (([a0] : List HV) ++ List.replicate (Try.f84.ntmps - 1) (.lit undef)) s | none => False) = c84 a0 s Q := by kernel_rfl
theorem HC84 {a0 : HV} {s : HS} {Q : HV → HS → Prop} (h : c84 a0 s Q) : HC Try.prog 84 [a0] s Q := HC_by Try.func84 (by have := c84_eq a0 s Q; exact this.mpr h)
/-- cordwain/cordwainref1.Bytes -/
def c78 (a0 : HV) (s : HS) (Q : HV → HS → Prop) : Prop :=
  bindO (vLenT (Try.prog.underlying 32) s a0) fun x1 => HC Try.prog 84 [x1] s (fun r2 s3 => hAppend s3 1 1 r2 a0 (fun x4 s5 => Q x4 s5))
theorem c78_eq (a0 : HV) (s : HS) (Q : HV → HS → Prop) : (match Try.f78.body with | some c => hwp Try.prog (fun p => none) false 1 c (hretQ Try.prog Try.f78.results.toList Q) (([a0] : List HV) ++ List.replicate (Try.f78.ntmps - 1) (.lit undef)) s | none => False) = c78 a0 s Q := by kernel_rfl
theorem HC78 {a0 : HV} {s : HS} {Q : HV → HS → Prop} (h : c78 a0 s Q) : HC Try.prog 78 [a0] s Q := HC_by Try.func78 (by have := c78_eq a0 s Q; exact this.mpr h)
/-- cordwain/cordwainref1.body -/
def c79 (a0 a1 a2 : HV) (s : HS) (Q : HV → HS → Prop) : Prop :=
  hBox s a0 (fun x1 s2 => bindO (vField 1 x1) fun x3 => bindO (vLoad s2 x3 1 false) fun x4 => bindO (vBin .sub x4 a1) fun x5 => bindO (vField 0 x1) fun x6 => bindO (vLoad s2 x6 1 false) fun x7 => bindO (vBin .sub x7 a2) fun x8 => HC Try.prog 84 [x5] s2 (fun r9 s10 => (vLoad s10 x6 1 false = vLoad s2 x6 1 false ∧ HC Try.prog 84 [x8] s10 (fun r11 s12 => hAppend s12 1 1 r9 r11 (fun x13 s14 => Join (fun K15 => bindO (vField 2 x1) fun x18 => bindO (vLoad s14 x18 1 false) fun x19 => hcond x19 (bindO (vField 3 x1) fun x20 => bindO (vLoad s14 x20 1 false) fun x21 => HC Try.prog 78 [x21] s14 (fun r22 s23 => hAppend s23 1 1 x13 r22 (fun x24 s25 => K15 [x24] s25))) (HC Try.prog 84 [(.lit (.int .i64 (-1)))] s14 (fun r26 s27 => hAppend s27 1 1 x13 r26 (fun x28 s29 => K15 [x28] s29)))) (fun y16 s17 => bindO (vField 4 x1) fun x30 => bindO (vLoad s17 x30 1 false) fun x31 => hcond x31 (bindO (vField 5 x1) fun x32 => bindO (vLoad s17 x32 1 false) fun x33 => HC Try.prog 78 [x33] s17 (fun r34 s35 => hAppend s35 1 1 (y16.headD .junk) r34 (fun x36 s37 => Q x36 s37))) (HC Try.prog 84 [(.lit (.int .i64 (-1)))] s17 (fun r38 s39 => hAppend s39 1 1 (y16.headD .junk) r38 (fun x40 s41 => Q x40 s41)))))))))
theorem c79_eq (a0 a1 a2 : HV) (s : HS) (Q : HV → HS → Prop) : (match Try.f79.body with | some c => hwp Try.prog (fun p => if p = 7 then some [7] else none) false 1 c (hretQ Try.prog Try.f79.results.toList Q) (([a0, a1, a2] : List HV) ++ List.replicate (Try.f79.ntmps - 3) (.lit undef)) s | none => False) = c79 a0 a1 a2 s Q := by kernel_rfl
theorem HC79 {a0 a1 a2 : HV} {s : HS} {Q : HV → HS → Prop} (h : c79 a0 a1 a2 s Q) : HC Try.prog 79 [a0, a1, a2] s Q := HC_by Try.func79 (by have := c79_eq a0 a1 a2 s Q; exact this.mpr h)
/-- cordwain/cordwainref1.More -/
def c85 (a0 a1 : HV) (s : HS) (Q : HV → HS → Prop) : Prop :=
  HLoop (fun y2 s3 K1 => bindO (vLenT (Try.prog.underlying 32) s3 a1) fun x4 => bindO (vBin .lss (y2.tail.headD .junk) x4) fun x5 => hcond x5 (bindO (vIdx 1 a1 (y2.tail.headD .junk)) fun x6 => bindO (vLoad s3 x6 1 false) fun x7 => bindO (vToInt .u32 x7) fun x8 => bindO (vBin .xor (y2.headD .junk) x8) fun x9 => HLoop (fun y11 s12 K10 => bindO (vBin .lss (y11.tail.headD .junk) (.lit (.int .i64 8))) fun x13 => hcond x13 (Join (fun K14 => bindO (vBin .and (y11.headD .junk) (.lit (.int .u32 1))) fun x17 => bindO (vCmp (Try.prog.underlying 123) .eql x17 (.lit (.int .u32 1))) fun x18 => hcond x18 (bindO (vBin .shr (y11.headD .junk) (.lit (.int .u64 1))) fun x19 => bindO (vBin .xor x19 (.lit (.int .u32 2197175160))) fun x20 => K14 [x20] s12) (bindO (vBin .shr (y11.headD .junk) (.lit (.int .u64 1))) fun x21 => K14 [x21] s12)) (fun y15 s16 => bindO (vBin .add (y11.tail.headD .junk) (.lit (.int .i64 1))) fun x22 => K10 [(y15.headD .junk), x22] s16)) (bindO (vBin .add (y2.tail.headD .junk) (.lit (.int .i64 1))) fun x23 => K1 [(y11.headD .junk), x23] s12)) [x9, (.lit (.int .i64 0))] s3) (Q (y2.headD .junk) s3)) [a0, (.lit (.int .i64 0))] s
theorem c85_eq (a0 a1 : HV) (s : HS) (Q : HV → HS → Prop) : (match Try.f85.body with | some c => hwp Try.prog (fun p => if p = 26 then some [0, 5] else if p = 3366 then some [0, 6] else if p = 13465 then some [0] else none) false 1 c (hretQ Try.prog Try.f85.results.toList Q) (([a0, a1] : List HV) ++ List.replicate (Try.f85.ntmps - 2) (.lit undef)) s | none => False) = c85 a0 a1 s Q := by kernel_rfl
theorem HC85 {a0 a1 : HV} {s : HS} {Q : HV → HS → Prop} (h : c85 a0 a1 s Q) : HC Try.prog 85 [a0, a1] s Q := HC_by Try.func85 (by have := c85_eq a0 a1 s Q; exact this.mpr h)
/-- cordwain/cordwainref1.Sum -/
def c80 (a0 : HV) (s : HS) (Q : HV → HS → Prop) : Prop :=
  HC Try.prog 85 [(.lit (.int .u32 4294967295)), a0] s (fun r1 s2 => bindO (vUn .xor r1) fun x3 => Q x3 s2)
theorem c80_eq (a0 : HV) (s : HS) (Q : HV → HS → Prop) : (match Try.f80.body with | some c => hwp Try.prog (fun p => none) false 1 c (hretQ Try.prog Try.f80.results.toList Q) (([a0] : List HV) ++ List.replicate (Try.f80.ntmps - 1) (.lit undef)) s | none => False) = c80 a0 s Q := by kernel_rfl
theorem HC80 {a0 : HV} {s : HS} {Q : HV → HS → Prop} (h : c80 a0 s Q) : HC Try.prog 80 [a0] s Q := HC_by Try.func80 (by have := c80_eq a0 s Q; exact this.mpr h)
end Go.Proofs.Ytecnfekcflfihaa.C2
end
section
namespace Go.Proofs.Ytecnfekcflfihaa.C3
open Go.Proofs.Ytecnfekcflfihaa.H
set_option linter.unusedVariables false
set_option maxRecDepth 100000
/-- cordwain/cordwainref1.encode -/
def c70 (a0 : HV) (s : HS) (Q : HV → HS → Prop) : Prop :=
  hBox s a0 (fun x1 s2 => Join (fun K3 => bindO (vField 5 x1) fun x6 => bindO (vLoad s2 x6 1 false) fun x7 => bindO (vLenT (Try.prog.underlying 44) s2 x7) fun x8 => bindO (vBin .gtr x8 (.lit (.int .i64 0))) fun x9 => hcond x9 (bindO (vField 5 x1) fun x10 => bindO (vLoad s2 x10 1 false) fun x11 => bindO (vIdx 6 x11 (.lit (.int .i64 0))) fun x12 => bindO (vField 1 x12) fun x13 => bindO (vLoad s2 x13 1 false) fun x14 => K3 [x14] s2) (K3 [(.lit (.int .i64 0))] s2)) (fun y4 s5 => bindO (vField 1 x1) fun x15 => bindO (vLoad s5 x15 1 false) fun x16 => bindO (vField 0 x1) fun x17 => bindO (vLoad s5 x17 1 false) fun x18 => bindO (vBin .sub x16 x18) fun x19 => HC Try.prog 77 [x19, (.lit (.int .i64 8))] s5 (fun r20 s21 => HC Try.prog 77 [(y4.headD .junk), (.lit (.int .i64 8))] s21 (fun r22 s23 => hAppend s23 1 1 r20 r22 (fun x24 s25 => bindO (vField 2 x1) fun x26 => bindO (vLoad s25 x26 1 false) fun x27 => bindO (vField 3 x1) fun x28 => bindO (vLoad s25 x28 1 false) fun x29 => bindO (vField 4 x1) fun x30 => bindO (vLoad s25 x30 1 false) fun x31 => bindO (vField 5 x1) fun x32 => bindO (vLoad s25 x32 1 false) fun x33 => bindO (vLenT (Try.prog.underlying 44) s25 x33) fun x34 => HC Try.prog 77 [x27, (.lit (.int .i64 8))] s25 (fun r35 s36 => (vLenT (Try.prog.underlying 44) s36 x33 = vLenT (Try.prog.underlying 44) s25 x33 ∧ (vLoad s36 x32 1 false = vLoad s25 x32 1 false ∧ (vLoad s36 x30 1 false = vLoad s25 x30 1 false ∧ (vLoad s36 x28 1 false = vLoad s25 x28 1 false ∧ hAppend s36 1 1 x24 r35 (fun x37 s38 => (vLenT (Try.prog.underlying 44) s38 x33 = vLenT (Try.prog.underlying 44) s36 x33 ∧ (vLoad s38 x32 1 false = vLoad s36 x32 1 false ∧ (vLoad s38 x30 1 false = vLoad s36 x30 1 false ∧ (vLoad s38 x28 1 false = vLoad s36 x28 1 false ∧ HC Try.prog 77 [x29, (.lit (.int .i64 2))] s38 (fun r39 s40 => (vLenT (Try.prog.underlying 44) s40 x33 = vLenT (Try.prog.underlying 44) s38 x33 ∧ (vLoad s40 x32 1 false = vLoad s38 x32 1 false ∧ (vLoad s40 x30 1 false = vLoad s38 x30 1 false ∧ hAppend s40 1 1 x37 r39 (fun x41 s42 => (vLenT (Try.prog.underlying 44) s42 x33 = vLenT (Try.prog.underlying 44) s40 x33 ∧ (vLoad s42 x32 1 false = vLoad s40 x32 1 false ∧ (vLoad s42 x30 1 false = vLoad s40 x30 1 false ∧ HC Try.prog 77 [x31, (.lit (.int .i64 4))] s42 (fun r43 s44 => (vLenT (Try.prog.underlying 44) s44 x33 = vLenT (Try.prog.underlying 44) s42 x33 ∧ (vLoad s44 x32 1 false = vLoad s42 x32 1 false ∧ hAppend s44 1 1 x41 r43 (fun x45 s46 => (vLenT (Try.prog.underlying 44) s46 x33 = vLenT (Try.prog.underlying 44) s44 x33 ∧ (vLoad s46 x32 1 false = vLoad s44 x32 1 false ∧ HC Try.prog 77 [x34, (.lit (.int .i64 4))] s46 (fun r47 s48 => hAppend s48 1 1 x45 r47 (fun x49 s50 => HLoop (fun y52 s53 K51 => bindO (vField 5 x1) fun x54 => bindO (vLoad s53 x54 1 false) fun x55 => bindO (vLenT (Try.prog.underlying 44) s53 x55) fun x56 => bindO (vBin .lss (y52.tail.headD .junk) x56) fun x57 => hcond x57 (bindO (vField 5 x1) fun x58 => bindO (vLoad s53 x58 1 false) fun x59 => bindO (vIdx 6 x59 (y52.tail.headD .junk)) fun x60 => bindO (vLoad s53 x60 6 true) fun x61 => bindO (vField 0 x1) fun x62 => bindO (vLoad s53 x62 1 false) fun x63 => HC Try.prog 79 [x61, (y4.headD .junk), x63] s53 (fun r64 s65 => HC Try.prog 78 [r64] s65 (fun r66 s67 => hAppend s67 1 1 (y52.headD .junk) r66 (fun x68 s69 => bindO (vBin .add (y52.tail.headD .junk) (.lit (.int .i64 1))) fun x70 => K51 [x68, x70] s69)))) (bindO (vField 0 x1) fun x71 => bindO (vLoad s53 x71 1 false) fun x72 => HC Try.prog 77 [x72, (.lit (.int .i64 8))] s53 (fun r73 s74 => bindO (vLenT (Try.prog.underlying 32) s74 (y52.headD .junk)) fun x75 => bindO (vBin .add x75 (.lit (.int .i64 4))) fun x76 => HC Try.prog 77 [x76, (.lit (.int .i64 4))] s74 (fun r77 s78 => hAppend s78 1 1 r73 r77 (fun x79 s80 => HC Try.prog 80 [(y52.headD .junk)] s80 (fun r81 s82 => bindO (vToInt .i64 r81) fun x83 => HC Try.prog 77 [x83, (.lit (.int .i64 4))] s82 (fun r84 s85 => hAppend s85 1 1 x79 r84 (fun x86 s87 => hAppend s87 1 1 x86 (y52.headD .junk) (fun x88 s89 => Q x88 s89))))))))) [x49, (.lit (.int .i64 0))] s50)))))))))))))))))))))))))))))))
theorem c70_eq (a0 : HV) (s : HS) (Q : HV → HS → Prop) : (match Try.f70.body with | some c => hwp Try.prog (fun p => if p = 7 then some [3] else if p = 506 then some [4, 5] else none) false 1 c (hretQ Try.prog Try.f70.results.toList Q) (([a0] : List HV) ++ List.replicate (Try.f70.ntmps - 1) (.lit undef)) s | none => False) = c70 a0 s Q := by kernel_rfl
theorem HC70 {a0 : HV} {s : HS} {Q : HV → HS → Prop} (h : c70 a0 s Q) : HC Try.prog 70 [a0] s Q := HC_by Try.func70 (by have := c70_eq a0 s Q; exact this.mpr h)
end Go.Proofs.Ytecnfekcflfihaa.C3
end
section
namespace Go.Proofs.Ytecnfekcflfihaa.CL
open Go.Proofs.Ytecnfekcflfihaa.H Go.Proofs.Ytecnfekcflfihaa.C0
set_option linter.unusedVariables false
set_option linter.unusedSimpArgs false
set_option maxRecDepth 100000
structure Cfg where
  n0 : Int
  n1 : Int
  n2 : Int
  n3 : Int
  n4 : Int
  b5 : Bool
  grace : Int
  mm : Int
  b8 : Bool
def cfgC (c : Cfg) : List HV := [.lit (.int .i64 c.n0), .lit (.int .i64 c.n1), .lit (.int .i64 c.n2), .lit (.int .i64 c.n3), .lit (.int .i64 c.n4), .lit (.bool c.b5), .lit (.int .i64 c.grace), .lit (.int .i64 c.mm), .lit (.bool c.b8)]
abbrev Seg := Option (List Bat)
theorem batsV_row (o : Seg) : batsV o = rowV batC 6 o := by cases o <;> rfl
def segC (x : Seg) : List HV := [batsV x]
theorem segC_len (x : Seg) : (segC x).length = 1 := rfl
def OkB (b : Bat) : Prop := ∃ r, b.recs = some r ∧ r ≠ [] ∧ r.length ≤ 100000 ∧ ∀ x ∈ r, ShortR x
def flatS (l : List Seg) : List Bat := l.flatMap fun x => x.getD []
theorem flatS_app (a b : List Seg) : flatS (a ++ b) = flatS a ++ flatS b := by simp [flatS]
def cleanAt (M : Value → Option Int) (upto now grace : Int) (last i : Nat) (x : Seg) : Seg := if i < last then orNil (keptB M upto now grace (x.getD [])) else orNil (x.getD [])
def goneAt (M : Value → Option Int) (upto now grace : Int) (last i : Nat) (x : Seg) : Int := IntKind.i64.wrap (cntF (x.getD []) - cntF ((cleanAt M upto now grace last i x).getD []))
def outsF (M : Value → Option Int) (upto now grace : Int) (last : Nat) (l : List Seg) : List Seg := l.mapIdx (cleanAt M upto now grace last)
def goneF (M : Value → Option Int) (upto now grace : Int) (last : Nat) (l : List Seg) : Int := (l.mapIdx (goneAt M upto now grace last)).foldl (fun a d => IntKind.i64.wrap (a + d)) 0
/-- The map, and up to where, that a cleaning builds. -/
noncomputable def cleanMap (segs : List Seg) (dirty mm : Int) : ((Value → Option Int) × Nat) × Int := buildF (min (max (max mm 1) 1) 1000000) dirty (flatS (segs.take (segs.length - 1))) (fun _ => none, 0) dirty
def segsV (l : List Seg) : HV := rowV segC 1 (orNil l)
theorem getD_orNil {α : Type} (l : List α) : (orNil l).getD [] = l := by cases l <;> rfl
theorem accV_segs (l : List Seg) : accV 1 l.length (rows segC l) = segsV l := by cases l <;> simp [accV, rowV, rowL, segsV, orNil]
theorem accV_bats (l : List Bat) : accV 6 l.length (batsC l) = batsV (orNil l) := by cases l <;> simp [accV, batsV, orNil, batsC]
theorem upSeg (o : Seg) (zs : List HV) (t : HS) : UpL (batsV o :: zs) t (.list 6 (o.getD []).length (batsC (o.getD [])) false :: zs) t := by
  have := upRow batC 6 o [] zs t
  rw [batsV_row]
  exact this
theorem count' (o : Seg) (s : HS) (hl : (o.getD []).length ≤ 100000) : HC Try.prog 48 [batsV o] s (fun v s' => v = .lit (.int .i64 (cntF (o.getD []))) ∧ s' = s) := HC.upArgs (upSeg o [] s) (count _ s hl)
theorem len_batsV (o : Seg) (s : HS) : vLenT (Try.prog.underlying 31) s (batsV o) = some (.lit (.int .i64 ((o.getD []).length : Nat))) := by rw [batsV_row, Try.underlying31]; exact len_rowV o s
theorem vIdx_batsV (o : Seg) (i : Nat) (hi : i < (o.getD []).length) : vIdx 6 (batsV o) (.lit (.int .i64 i)) = some (.elt (batC ((o.getD []).getD i b0)) 0) := by
  cases o with
  | none => simp at hi
  | some l => exact idx_rowL batC_len b0 l .i64 hi
theorem lcells_batsV (o : Seg) (s : HS) : lcells s 6 (batsV o) = some (batsC (o.getD [])) := by rw [batsV_row]; exact lcells_rowV o s
theorem llen_batsV (o : Seg) : llen (batsV o) = (o.getD []).length := by rw [batsV_row]; exact llen_rowV o
theorem hc_batsV (o : Seg) : hcells (batsV o) = some [batsV o] := by cases o <;> rfl
theorem ho_batsV (o : Seg) : hone (batsV o) = true := by cases o <;> rfl
theorem all {s : HS} (segs : List Seg) (dirty : Int) (c : Cfg) (now : Int) (hn : segs.length ≤ 100000) (hf : (flatS segs).length ≤ 100000) (hs : ∀ x ∈ segs, ∀ b ∈ x.getD [], OkB b) :
    HC Try.prog 15 [rowL segC 1 segs, .lit (.int .i64 dirty), .agg (cfgC c), .lit (.int .i64 now)] s (fun v s' => s' = s ∧ v = if segs = [] then .tup [nilV, .lit (.int .i64 dirty), .lit (.int .i64 0)] else
      .tup [segsV (outsF (cleanMap segs dirty c.mm).1.1 (cleanMap segs dirty c.mm).2 now c.grace (segs.length - 1) segs), .lit (.int .i64 (cleanMap segs dirty c.mm).2), .lit (.int .i64 (goneF (cleanMap segs dirty c.mm).1.1 (cleanMap segs dirty c.mm).2 now c.grace (segs.length - 1) segs))]) := by
  refine HC.up (HC15 ?_)
  unfold c15
  have hb9 : hcells (.agg (cfgC c)) = some (cfgC c) := rfl
  unfold hBox
  rw [hb9]
  intro p0 hp0
  simp only [Try.underlying22, len_rowL, bindO]
  obtain ⟨t0, ht0⟩ : ∃ t, t = s.set p0 (.cells (cfgC c)) := ⟨_, rfl⟩
  have hcfg : t0 p0 = some (.cells (cfgC c)) := by rw [ht0, set_at]
  have hst0 : HS.le s t0 := by rw [ht0]; exact le_set_new _ (le_refl' s) hp0
  rw [← ht0]
  clear ht0
  by_cases hne : segs = []
  · subst hne
    simp only [List.length_nil, if_true, vCmp, vBin, hcond]
    exact ⟨_, s, UpL.le _ hst0, rfl, rfl⟩
  have hpos : 0 < segs.length := List.length_pos_iff.2 hne
  have hw : IntKind.i64.wrap ((segs.length : Int) - 1) = ((segs.length - 1 : Nat) : Int) := by rw [w64 (by omega) (by omega)]; omega
  have h0 : ((segs.length : Int) == 0) = false := by simp; exact hne
  obtain ⟨last, hlast⟩ : ∃ n, n = segs.length - 1 := ⟨_, rfl⟩
  rw [← hlast] at hw
  simp only [vCmp, vBin, h0, hcond, if_true, hw, slice_rowL_hi segC_len segs .i64 (show last ≤ segs.length by omega), len_rowL]
  have hlen2 : (segs.take last).length = last := by rw [List.length_take]; omega
  rw [hlen2]
  have hflat : ∀ i, (flatS (segs.take i)).length ≤ 100000 := by
    intro i
    refine Nat.le_trans ?_ hf
    have := congrArg List.length (flatS_app (segs.take i) (segs.drop i))
    rw [List.take_append_drop, List.length_append] at this
    omega
  refine HLoop.ghost (σ := HV × Nat) (fun g => [g.1, .lit (.int .i64 g.2)]) (fun g t => g.2 ≤ last ∧ HS.le t0 t ∧ Acc t0 t 6 g.1 (flatS (segs.take g.2)).length (batsC (flatS (segs.take g.2)))) (fun g => last - g.2) (nilV, 0) rfl ⟨Nat.zero_le _, le_refl' _, Acc.nil _ _ _⟩ ?_
  rintro ⟨A, i⟩ t K ⟨hi, hst, ho⟩ hK
  simp only at hi hst ho
  simp only [List.tail_cons, List.headD_cons]
  by_cases hlt : i < last
  · have hlt' : (i : Int) < (last : Int) := by omega
    have htk := take_succ' (none : Seg) segs (i := i) (by omega)
    have hgt : (segs.take last).getD i none = segs.getD i none := by simp [List.getD, List.getElem?_take, hlt]
    simp only [hlt', decide_true, idx_rowL segC_len none (segs.take last) .i64 (by rw [hlen2]; exact hlt), load_elt1, hgt]
    generalize segs.getD i none = x at *
    have hx : (segC x)[0]? = some (batsV x) := rfl
    simp only [hx]
    have hfl : flatS (segs.take (i + 1)) = flatS (segs.take i) ++ x.getD [] := by rw [htk, flatS_app]; simp [flatS]
    have hfl2 := hflat (i + 1)
    rw [hfl, List.length_append] at hfl2
    refine ho.app hst (lcells_batsV x t) (llen_batsV x) (batsC_len _) ⟨by omega, by omega⟩ ?_
    intro A' t' g1 g2 _
    refine hK (A', i + 1) _ _ (by rw [w64 (by omega) (by omega)]; rfl) ⟨hlt, g2, ?_⟩ (by show last - (i + 1) < last - i; omega)
    rw [hfl, List.length_append, batsC_app]
    exact g1
  · obtain rfl : i = last := by omega
    have hlt' : ¬ (i : Int) < (i : Int) := by omega
    have hp0t : t p0 = some (.cells (cfgC c)) := hst _ _ hcfg
    have hc7 : (cfgC c)[7]? = some (.lit (.int .i64 c.mm)) := rfl
    have hmx : (if (1 : Int) > c.mm then 1 else c.mm) = max c.mm 1 := by omega
    simp only [hlt', decide_false, vField, vLoad, hp0t, takeCells, Bool.false_eq_true, if_false, Nat.zero_add, hc7, hfold, vMax2, Option.bind_some, hmx]
    refine HC.upArgs (args' := [.list 6 (flatS (segs.take i)).length (batsC (flatS (segs.take i))) false, .lit (.int .i64 dirty), .lit (.int .i64 (max c.mm 1))]) (s' := t0) (ho.upAtL hst [] [.lit (.int .i64 dirty), .lit (.int .i64 (max c.mm 1))] (fun _ _ => rfl) (fun _ _ => rfl)) ?_
    have hsm : ∀ j, ∀ x ∈ segs.take j, ∀ b ∈ x.getD [], OkB b := fun j x hx => hs x (List.mem_of_mem_take hx)
    refine (build (flatS (segs.take i)) dirty (max c.mm 1) t0 (hflat i) ?_).mono ?_
    · intro b hb
      obtain ⟨x, hx, hbx⟩ := List.mem_flatMap.1 hb
      obtain ⟨r, h1, h2, h3, h4⟩ := hsm _ x hx b hbx
      exact ⟨r, h1, h3⟩
    have hcm : buildF (min (max (max c.mm 1) 1) 1000000) dirty (flatS (segs.take i)) (fun _ => none, 0) dirty = cleanMap segs dirty c.mm := by rw [hlast]; rfl
    rw [hcm]
    generalize cleanMap segs dirty c.mm = CM at *
    obtain ⟨⟨M, nM⟩, upto⟩ := CM
    simp only
    rintro v s1 ⟨p, mid, rfl, hs1, hkm⟩
    simp only [vExtract, List.getElem?_cons_zero, List.getElem?_cons_succ, len_rowL]
    clear hK ho hst hp0t
    have hcfg1 := hs1 _ _ hcfg
    refine HLoop.ghost (σ := HV × Nat) (fun g => [g.1, .lit (.int .i64 (goneF M upto now c.grace i (segs.take g.2))), .lit (.int .i64 g.2)]) (fun g t => g.2 ≤ segs.length ∧ HS.le s1 t ∧ Acc s1 t 1 g.1 (outsF M upto now c.grace i (segs.take g.2)).length (rows segC (outsF M upto now c.grace i (segs.take g.2)))) (fun g => segs.length - g.2) (nilV, 0) rfl ⟨Nat.zero_le _, le_refl' _, Acc.nil _ _ _⟩ ?_
    rintro ⟨A, j⟩ t K ⟨hj, hst, ho⟩ hK
    simp only at hj hst ho
    simp only [List.tail_cons, List.headD_cons]
    by_cases hlt : j < segs.length
    · have hltj : (j : Int) < (segs.length : Int) := by omega
      have htk := take_succ' (none : Seg) segs (i := j) (by omega)
      have hxm : ∀ b ∈ (segs.getD j none).getD [], OkB b := hs _ (getD_mem hlt)
      have hxl : ((segs.getD j none).getD []).length ≤ 100000 := by
        have h1 := hflat (j + 1)
        rw [htk, flatS_app, List.length_append] at h1
        have : flatS [segs.getD j none] = (segs.getD j none).getD [] := by simp [flatS]
        rw [this] at h1
        omega
      simp only [hltj, decide_true, idx_rowL segC_len none segs .i64 hlt, load_elt1]
      generalize segs.getD j none = x at *
      have hx : (segC x)[0]? = some (batsV x) := rfl
      simp only [hx]
      have hO : outsF M upto now c.grace i (segs.take (j + 1)) = outsF M upto now c.grace i (segs.take j) ++ [cleanAt M upto now c.grace i j x] := by
        rw [htk]; unfold outsF; rw [List.mapIdx_concat, List.length_take, Nat.min_eq_left hj]
      have hG : goneF M upto now c.grace i (segs.take (j + 1)) = IntKind.i64.wrap (goneF M upto now c.grace i (segs.take j) + goneAt M upto now c.grace i j x) := by
        rw [htk]; unfold goneF; rw [List.mapIdx_concat, List.foldl_append, List.length_take, Nat.min_eq_left hj]; rfl
      have hOl : (outsF M upto now c.grace i (segs.take j)).length = j := by unfold outsF; rw [List.length_mapIdx, List.length_take]; omega
      -- what is kept is put in
      have fin : ∀ (t1 : HS), HS.le s1 t1 → Acc s1 t1 1 A (outsF M upto now c.grace i (segs.take j)).length (rows segC (outsF M upto now c.grace i (segs.take j))) → ((cleanAt M upto now c.grace i j x).getD []).length ≤ 100000 →
          HC Try.prog 48 [batsV x] t1 (fun r58 s59 => HC Try.prog 48 [batsV (cleanAt M upto now c.grace i j x)] s59 (fun r60 s61 => bindO (vBin .sub r58 r60) fun x62 => bindO (vBin .add (.lit (.int .i64 (goneF M upto now c.grace i (segs.take j)))) x62) fun x63 => hBS s61 1 1 [.lit (.slice none 0 0)] [(0, batsV (cleanAt M upto now c.grace i j x))] (fun x64 s65 => hAppend s65 1 24 A x64 (fun x66 s67 => bindO (vBin .add (.lit (.int .i64 j)) (.lit (.int .i64 1))) fun x68 => K [x66, x63, x68] s67)))) := by
        intro t1 h1 h2 h3
        refine (count' x t1 hxl).mono ?_
        rintro v t2 ⟨rfl, rfl⟩
        refine (count' _ t2 h3).mono ?_
        rintro v t3 ⟨rfl, rfl⟩
        simp only [vBin, bindO, if_true]
        refine h2.app1 h1 (hc_batsV _) rfl rfl ⟨by omega, by omega⟩ ?_
        intro A' t' g1 g2 _
        refine hK (A', j + 1) _ _ ?_ ⟨hlt, g2, ?_⟩ (by show segs.length - (j + 1) < segs.length - j; omega)
        · rw [w64 (x := (j : Int) + 1) (by omega) (by omega)]
          show _ = [A', HV.lit (Value.int IntKind.i64 (goneF M upto now c.grace i (segs.take (j + 1)))), _]
          rw [hG]; rfl
        · rw [hO, rows_app, rows_one, List.length_append]; exact g1
      unfold Join
      by_cases hji : j < i
      · have hji' : (j : Int) < (i : Int) := by omega
        have hc6 : (cfgC c)[6]? = some (.lit (.int .i64 c.grace)) := rfl
        simp only [hji', decide_true, hst _ _ hcfg1, if_true, hc6]
        refine HC.upArgs (upSeg x _ t) ?_
        refine (segment (hkm.le hst) (x.getD []) hxl (fun b hb => ?_) upto now c.grace).mono ?_
        · obtain ⟨r, g1, g2, g3, g4⟩ := hxm b hb
          exact ⟨r, g1, g3, g4⟩
        rintro v t2 ⟨rfl, rfl⟩
        have hca : orNil (keptB M upto now c.grace (x.getD [])) = cleanAt M upto now c.grace i j x := by unfold cleanAt; rw [if_pos hji]
        rw [hca]
        exact fin t2 hst ho (by rw [← hca, getD_orNil]; exact Nat.le_trans (keptB_len _ _ _ _ _) hxl)
      · have hji' : ¬ (j : Int) < (i : Int) := by omega
        simp only [hji', decide_false, if_true, len_batsV]
        have hca : orNil (x.getD []) = cleanAt M upto now c.grace i j x := by unfold cleanAt; rw [if_neg hji]
        obtain ⟨l, hl⟩ : ∃ l, l = x.getD [] := ⟨_, rfl⟩
        rw [← hl] at hca hxl hxm ⊢
        refine HLoop.ghostU (σ := HV × Nat) (fun g => [if g.2 = l.length then batsV (orNil l) else g.1, .lit (.int .i64 g.2)]) (fun g t' => g.2 ≤ l.length ∧ HS.le t t' ∧ (g.2 = l.length → t' = t) ∧ (g.2 ≠ l.length → Acc t t' 6 g.1 g.2 (batsC (l.take g.2)))) (fun g => l.length - g.2) (nilV, 0) t ?_ ⟨Nat.zero_le _, le_refl' _, fun _ => rfl, fun _ => Acc.nil _ _ _⟩ ?_
        · by_cases h0 : 0 = l.length
          · have : l = [] := List.eq_nil_of_length_eq_zero h0.symm
            rw [if_pos h0, this]
            exact UpL.refl _ _
          · rw [if_neg h0]
            exact UpL.refl _ _
        rintro ⟨B, k⟩ t2 K2 ⟨hk, hst2, he2, ho2⟩ hK2
        simp only at hk hst2 he2 ho2
        simp only [List.tail_cons, List.headD_cons]
        by_cases hkl : k < l.length
        · have hkl' : (k : Int) < (l.length : Int) := by omega
          have hkn : k ≠ l.length := by omega
          have ho2 := ho2 hkn
          have hkt := take_succ' b0 l (i := k) hkl
          have hym : OkB (l.getD k b0) := hxm _ (getD_mem hkl)
          simp only [hkl', decide_true, vIdx_batsV x k (by rw [← hl]; exact hkl), load_elt _ _ 6 (batC_len _), if_neg hkn]
          rw [← hl]
          generalize l.getD k b0 = y at *
          intro X hX
          simp [bindO, hcond, vCmp, vBin, vUn, vField, takeCells, vLoad, vExtract, hNew, hStore, hBox, hc_int, hc_bool, hc_agg, hc_list, hc_view, hc_ptr, ho_int, ho_bool, putCells, set_at, Join, batC_len, ho_batC, hcb, hc_recs, ho_recs]
          obtain ⟨r, g1, g2, g3, g4⟩ := hym
          refine (copy y r _ g1 g3 g4 g2).mono ?_
          rintro v t3 ⟨rfl, rfl⟩
          have hle3 := le_set_new (.cells (batC y)) hst2 hX
          have ho3 := ho2.new (.cells (batC y)) hX
          rw [set_set]
          refine ho3.app1 hle3 rfl rfl rfl ⟨by omega, by omega⟩ ?_
          intro A' t' q1 q2 _
          have q1' : Acc t t' 6 A' (k + 1) (batsC (l.take (k + 1))) := by rw [hkt, batsC_app]; simpa [batsC] using q1
          have hw1 : IntKind.i64.wrap ((k : Int) + 1) = ((k + 1 : Nat) : Int) := by rw [w64 (by omega) (by omega)]; rfl
          rw [hw1]
          by_cases hend : k + 1 = l.length
          · refine hK2 (A', k + 1) _ _ t ?_ ⟨hkl, le_refl' _, fun _ => rfl, fun h => absurd hend h⟩ (by show l.length - (k + 1) < l.length - k; omega)
            simp only [if_pos hend]
            have := q1'.upAt q2 [] [.lit (.int .i64 ((k + 1 : Nat) : Int))] (fun _ _ => rfl) (fun _ _ => rfl)
            rw [hend, List.take_length, accV_bats] at this
            rw [hend]
            exact this
          · refine hK2 (A', k + 1) _ _ t' ?_ ⟨hkl, q2, fun h => absurd h hend, fun _ => q1'⟩ (by show l.length - (k + 1) < l.length - k; omega)
            simp only [if_neg hend]
            exact UpL.refl _ _
        · obtain rfl : k = l.length := by omega
          have hlt' : ¬ (l.length : Int) < (l.length : Int) := by omega
          obtain rfl := he2 rfl
          simp only [hlt', decide_false, if_true]
          rw [hca]
          exact fin t2 hst ho (by rw [← hca, getD_orNil]; exact hxl)
    · obtain rfl : j = segs.length := by omega
      have hlt' : ¬ (segs.length : Int) < (segs.length : Int) := by omega
      simp only [hlt', decide_false]
      rw [List.take_length] at ho ⊢
      refine ⟨_, s, ?_, rfl, rfl⟩
      rw [if_neg hne]
      have := ho.upT hst [] [.lit (.int .i64 upto), .lit (.int .i64 (goneF M upto now c.grace i segs))] (fun _ _ => rfl) (fun _ _ => rfl)
      rw [accV_segs] at this
      rw [← hlast]
      exact this.trans (UpL.le _ (HS.le.trans hst0 hs1))
end Go.Proofs.Ytecnfekcflfihaa.CL
namespace Go.Proofs.Ytecnfekcflfihaa.CL
open Go.Proofs.Ytecnfekcflfihaa.H Go.Proofs.Ytecnfekcflfihaa.C0
set_option linter.unusedVariables false
set_option linter.unusedSimpArgs false
set_option maxRecDepth 100000
def ra : Rec := ⟨0, 0, true, some [97], true, none⟩
def rb : Rec := ⟨1, 0, true, some [97], true, none⟩
def bab : Bat := ⟨0, 1, 0, 0, 0, some [ra, rb]⟩
theorem map_ab : (cleanMap [some [bab], none] 0 5) = ((put (fun _ => none) (kv (some [97])) 1, 1), 2) := by
  have h1 : IntKind.i64.wrap 1 = 1 := w64 (by omega) (by omega)
  have h2 : IntKind.i64.wrap 2 = 2 := w64 (by omega) (by omega)
  have hm : min (max (max (5 : Int) 1) 1) 1000000 = 5 := by decide
  have h3 : max (1 : Int) 0 = 1 := by decide
  have h4 : max (2 : Int) 0 = 2 := by decide
  unfold cleanMap
  rw [hm]
  simp [flatS, buildF, bab, ra, rb, freshF, freshStep, isFresh, put, h1, h2, h3, h4, offStep, offF]
  funext q
  simp only [put]
  split <;> rfl
theorem awake (s : HS) : HC Try.prog 14 [] s (fun v _ => v = .lit (.bool true)) := by
  refine HC14 ?_
  simp [c14, bindO, hcond, vCmp, vBin, vEq, vUn, vNil, vField, vLoad, takeCells, vIdx, vLenT, vLen, vExtract, hBS, hfill, hNew, hStore, hBox, hc_int, hc_bool, hc_string, hc_slice, hc_nilp, hc_nilm, hc_nilf, hc_agg, hc_list, hc_view, hc_ptr, hc_map, hc_func, ho_int, ho_bool, ho_string, ho_slice, ho_nilp, ho_nilm, ho_nilf, ho_list, ho_view, ho_ptr, ho_map, ho_func, putCells, hAppend, lcells, litCells, isNilS, llen, room, vMk, set_at, Join, vToInt, vSlice, vSliceX, cutAt, intAt, bl_len, bits64, bits64u, bits8, hfold, vMax2, vMin2, Try.underlying3, Try.underlying4, Try.underlying9, Try.underlying22, Try.underlying31, Try.underlying32, Try.underlying36, Try.underlying44, Try.underlying64, Try.underlying80, Try.underlying90, Try.underlying123, hMark]
  intro k hk R hR B hB G hG
  simp only [set_none_iff] at hR hB hG
  obtain ⟨n1, hR⟩ := hR
  obtain ⟨n2, n3, hB⟩ := hB
  obtain ⟨n4, n5, n6, hG⟩ := hG
  have m1 := Ne.symm n1
  have m2 := Ne.symm n2
  have m3 := Ne.symm n3
  have m4 := Ne.symm n4
  have m5 := Ne.symm n5
  have m6 := Ne.symm n6
  refine HC.frz (id := k) (cs := [.lit (.int .u8 97)]) (by simp [HS.set, *]) ?_
  simp [frzS_set, frzS_same, frzO, frz2, frz1, frz0, phi, List.map_cons, List.map_nil, n1, n2, n3, n4, n5, n6, m1, m2, m3, m4, m5, m6]
  refine HC.frz (id := R) (cs := recsC [ra, rb]) (by simp [HS.set, *]; rfl) ?_
  simp [frzS_set, frzS_same, frzO, frz2, frz1, frz0, phi, List.map_cons, List.map_nil, n1, n2, n3, n4, n5, n6, m1, m2, m3, m4, m5, m6, recsC_len]
  refine HC.frz (id := B) (cs := batsC [bab]) (by simp [HS.set, *]; rfl) ?_
  simp [frzS_set, frzS_same, frzO, frz2, frz1, frz0, phi, List.map_cons, List.map_nil, n1, n2, n3, n4, n5, n6, m1, m2, m3, m4, m5, m6, batsC_len]
  refine HC.frz (id := G) (cs := rows segC [some [bab], none]) (by simp [HS.set, *]; rfl) ?_
  simp [frzS_set, frzS_same, frzO, frz2, frz1, frz0, phi, List.map_cons, List.map_nil, n1, n2, n3, n4, n5, n6, m1, m2, m3, m4, m5, m6, rows_len segC_len]
  refine (all [some [bab], none] 0 ⟨0, 0, 0, 0, 0, false, 0, 5, false⟩ 0 (by simp) (by simp [flatS]) ?_).mono ?_
  · intro x hx b hb
    simp at hx
    rcases hx with rfl | rfl
    · simp at hb
      subst hb
      exact ⟨_, rfl, by simp, by simp, by intro r hr; simp at hr; rcases hr with rfl | rfl <;> exact ⟨by show (1 : Nat) ≤ _; omega, trivial⟩⟩
    · simp at hb
  · rintro v s' ⟨-, rfl⟩
    rw [if_neg (by simp), map_ab]
    have h1 : IntKind.i64.wrap 1 = 1 := w64 (by omega) (by omega)
    have h2 : IntKind.i64.wrap 2 = 2 := w64 (by omega) (by omega)
    simp [buildF, freshF, freshStep, isFresh, put, offStep, offF, flatS, cleanMap, w64, outsF, cleanAt, keptB, keptR, cutB, orNil, goneF, goneAt, cntF, List.mapIdx_cons, stays, put, bab, ra, rb, h1, h2]
    simp [bindO, hcond, vCmp, vBin, vEq, vUn, vNil, vField, vLoad, takeCells, vIdx, vLenT, vLen, vExtract, hBS, hfill, hNew, hStore, hBox, hc_int, hc_bool, hc_string, hc_slice, hc_nilp, hc_nilm, hc_nilf, hc_agg, hc_list, hc_view, hc_ptr, hc_map, hc_func, ho_int, ho_bool, ho_string, ho_slice, ho_nilp, ho_nilm, ho_nilf, ho_list, ho_view, ho_ptr, ho_map, ho_func, putCells, hAppend, lcells, litCells, isNilS, llen, room, vMk, set_at, Join, vToInt, vSlice, vSliceX, cutAt, intAt, bl_len, bits64, bits64u, bits8, hfold, vMax2, vMin2, Try.underlying3, Try.underlying4, Try.underlying9, Try.underlying22, Try.underlying31, Try.underlying32, Try.underlying36, Try.underlying44, Try.underlying64, Try.underlying80, Try.underlying90, Try.underlying123, hMark, segsV, rowV, rowL, rows, segC, batsV, batsC, batC, recsV, recsC, recC, byV, orNil, List.flatMap_cons, List.flatMap_nil]
end Go.Proofs.Ytecnfekcflfihaa.CL
namespace Go.Proofs.Ytecnfekcflfihaa.CL
open Go.Proofs.Ytecnfekcflfihaa.H Go.Proofs.Ytecnfekcflfihaa.C1
set_option linter.unusedVariables false
set_option linter.unusedSimpArgs false
set_option maxRecDepth 100000
def ints (l : List Int) : List HV := l.map fun n => .lit (.int .i64 n)
theorem sum {s : HS} (n : Int) (l : List Int) (hn : 0 ≤ n) (hl : ∀ x ∈ l, 0 ≤ x) (hlen : l.length ≤ 1000) :
    HC Try.prog 18 [.lit (.int .i64 n), .list 1 l.length (ints l) false] s (fun v s' => s' = s ∧ ∃ k, v = .lit (.int .i64 k) ∧ 0 ≤ k) := by
  refine HC18 ?_
  unfold c18
  refine HLoop.ghost (σ := Int × Nat) (fun g => [.lit (.int .i64 g.1), .lit (.int .i64 g.2)]) (fun g t => g.2 ≤ l.length ∧ 0 ≤ g.1 ∧ t = s) (fun g => l.length - g.2) (n, 0) rfl ⟨Nat.zero_le _, hn, rfl⟩ ?_
  rintro ⟨n, i⟩ t K ⟨hi, hn, rfl⟩ hK
  simp only at hi hn
  by_cases hlt : i < l.length
  · have hlt' : (i : Int) < (l.length : Int) := by omega
    have hx : ((ints l).drop i).take 1 = [.lit (.int .i64 (l.getD i 0))] := by
      rw [ints, ← List.map_drop, drop_cons' 0 l hlt]; rfl
    have h0 := hl _ (getD_mem (z := 0) hlt)
    generalize l.getD i 0 = x at *
    simp [bindO, hcond, vCmp, vBin, vEq, vUn, vNil, vField, vLoad, takeCells, vIdx, vLenT, vLen, vExtract, hBS, hfill, hNew, hStore, hBox, hc_int, hc_bool, hc_string, hc_slice, hc_nilp, hc_nilm, hc_nilf, hc_agg, hc_list, hc_view, hc_ptr, hc_map, hc_func, ho_int, ho_bool, ho_string, ho_slice, ho_nilp, ho_nilm, ho_nilf, ho_list, ho_view, ho_ptr, ho_map, ho_func, putCells, hAppend, lcells, litCells, isNilS, llen, room, vMk, set_at, Join, vToInt, vSlice, vSliceX, cutAt, intAt, bl_len, bits64, bits64u, bits8, hfold, vMax2, vMin2, Try.underlying3, Try.underlying4, Try.underlying9, Try.underlying22, Try.underlying31, Try.underlying32, Try.underlying36, Try.underlying44, Try.underlying64, Try.underlying80, Try.underlying90, Try.underlying123, hMark, hlt', hlt, hx]
    by_cases h1 : 1099511627776 < n
    · simp [h1]
    · have hw : IntKind.i64.wrap (1099511627776 - n) = 1099511627776 - n := w64 (by omega) (by omega)
      by_cases h2 : 1099511627776 - n < x
      · simp [h1, hw, h2]
      · simp [h1, hw, h2]
        refine hK (n + x, i + 1) _ _ ?_ ⟨hlt, by show 0 ≤ n + x; omega, rfl⟩ (by show l.length - (i + 1) < l.length - i; omega)
        rw [w64 (x := (i : Int) + 1) (by omega) (by omega), w64 (x := n + x) (by omega) (by omega)]
        rfl
  · obtain rfl : i = l.length := by omega
    simp [bindO, hcond, vCmp, vBin, vEq, vUn, vNil, vField, vLoad, takeCells, vIdx, vLenT, vLen, vExtract, hBS, hfill, hNew, hStore, hBox, hc_int, hc_bool, hc_string, hc_slice, hc_nilp, hc_nilm, hc_nilf, hc_agg, hc_list, hc_view, hc_ptr, hc_map, hc_func, ho_int, ho_bool, ho_string, ho_slice, ho_nilp, ho_nilm, ho_nilf, ho_list, ho_view, ho_ptr, ho_map, ho_func, putCells, hAppend, lcells, litCells, isNilS, llen, room, vMk, set_at, Join, vToInt, vSlice, vSliceX, cutAt, intAt, bl_len, bits64, bits64u, bits8, hfold, vMax2, vMin2, Try.underlying3, Try.underlying4, Try.underlying9, Try.underlying22, Try.underlying31, Try.underlying32, Try.underlying36, Try.underlying44, Try.underlying64, Try.underlying80, Try.underlying90, Try.underlying123, hMark, hn]
theorem weight {s : HS} (b : Bat) (l : List Rec) (hb : b.recs = some l) (hl : l.length ≤ 9223372036854775807) (hs : ∀ r ∈ l, ∃ k v, r.key = some k ∧ r.val = some v) :
    HC Try.prog 71 [.agg (batC b)] s (fun v s' => s' = s ∧ ∃ k, v = .lit (.int .i64 k) ∧ 0 ≤ k) := by
  refine HC.weaken (HC71 ?_)
  obtain ⟨c0, c1, c2, c3, c4, recs⟩ := b
  simp only at hb
  subst hb
  simp only [c71, hBox, hc_agg, batC]
  intro p hp
  have htp := set_at s p (.cells [.lit (.int .i64 c0), .lit (.int .i64 c1), .lit (.int .i64 c2), .lit (.int .i64 c3), .lit (.int .i64 c4), recsV (some l)])
  have hst := le_set_new (.cells [.lit (.int .i64 c0), .lit (.int .i64 c1), .lit (.int .i64 c2), .lit (.int .i64 c3), .lit (.int .i64 c4), recsV (some l)]) (le_refl' s) hp
  generalize s.set p (.cells [.lit (.int .i64 c0), .lit (.int .i64 c1), .lit (.int .i64 c2), .lit (.int .i64 c3), .lit (.int .i64 c4), recsV (some l)]) = t0 at *
  refine HLoop.ghost (σ := Int × Nat) (fun g => [.lit (.int .i64 g.1), .lit (.int .i64 g.2)]) (fun g t => g.2 ≤ l.length ∧ 0 ≤ g.1 ∧ t = t0) (fun g => l.length - g.2) (1, 0) rfl ⟨Nat.zero_le _, by decide, rfl⟩ ?_
  rintro ⟨n, i⟩ t K ⟨hi, hn, rfl⟩ hK
  simp only at hi hn
  have hfin : ∀ k : Int, 0 ≤ k → ∃ s'', HS.le s'' t ∧ s'' = s ∧ ∃ k', HV.lit (.int .i64 k) = .lit (.int .i64 k') ∧ 0 ≤ k' := fun k h => ⟨s, hst, rfl, k, rfl, h⟩
  have hl5 : vLenT (Try.prog.underlying 44) t (recsV (some l)) = some (.lit (.int .i64 l.length)) := rfl
  by_cases hlt : i < l.length
  · have hlt' : (i : Int) < (l.length : Int) := by omega
    have hix := recsC_idx l i hlt
    obtain ⟨k, v, hk, hv⟩ := hs _ (getD_mem (z := r0) hlt)
    generalize l.getD i r0 = x at *
    have y3 : (recC x)[3]? = some (.list 1 k.length (bl k) false) := by simp [recC, hk, byV]
    have y5 : (recC x)[5]? = some (.list 1 v.length (bl v) false) := by simp [recC, hv, byV]
    by_cases h1 : n ≤ 1099511627776
    · simp [bindO, hcond, vCmp, vBin, vEq, vUn, vNil, vField, vLoad, takeCells, vIdx, vLenT, vLen, vExtract, hBS, hfill, hNew, hStore, hBox, hc_int, hc_bool, hc_string, hc_slice, hc_nilp, hc_nilm, hc_nilf, hc_agg, hc_list, hc_view, hc_ptr, hc_map, hc_func, ho_int, ho_bool, ho_string, ho_slice, ho_nilp, ho_nilm, ho_nilf, ho_list, ho_view, ho_ptr, ho_map, ho_func, putCells, hAppend, lcells, litCells, isNilS, llen, room, vMk, set_at, Join, vToInt, vSlice, vSliceX, cutAt, intAt, bl_len, bits64, bits64u, bits8, hfold, vMax2, vMin2, Try.underlying3, Try.underlying4, Try.underlying9, Try.underlying22, Try.underlying31, Try.underlying32, Try.underlying36, Try.underlying44, Try.underlying64, Try.underlying80, Try.underlying90, Try.underlying123, hMark, htp, recsV, hlt', h1, hix, y3, y5, hlt]
      intro id hid
      refine HC.frzN hid ?_
      simp [frz2, frz1, frz0, phi]
      refine (sum (s := t) n [1, (k.length : Int), (v.length : Int)] hn (by simp) (by simp)).mono ?_
      rintro r s' ⟨rfl, q, rfl, hq⟩
      refine hK (q, i + 1) _ _ ?_ ⟨hlt, hq, rfl⟩ (by show l.length - (i + 1) < l.length - i; omega)
      rw [w64 (x := (i : Int) + 1) (by omega) (by omega)]
      rfl
    · simp [bindO, hcond, vCmp, vBin, vEq, vUn, vNil, vField, vLoad, takeCells, vIdx, vLenT, vLen, vExtract, hBS, hfill, hNew, hStore, hBox, hc_int, hc_bool, hc_string, hc_slice, hc_nilp, hc_nilm, hc_nilf, hc_agg, hc_list, hc_view, hc_ptr, hc_map, hc_func, ho_int, ho_bool, ho_string, ho_slice, ho_nilp, ho_nilm, ho_nilf, ho_list, ho_view, ho_ptr, ho_map, ho_func, putCells, hAppend, lcells, litCells, isNilS, llen, room, vMk, set_at, Join, vToInt, vSlice, vSliceX, cutAt, intAt, bl_len, bits64, bits64u, bits8, hfold, vMax2, vMin2, Try.underlying3, Try.underlying4, Try.underlying9, Try.underlying22, Try.underlying31, Try.underlying32, Try.underlying36, Try.underlying44, Try.underlying64, Try.underlying80, Try.underlying90, Try.underlying123, hMark, htp, recsV, h1, hlt', hlt]
      first | exact hfin _ hn | exact ⟨s, hst, rfl, hn⟩ | exact ⟨hst, hn⟩
  · obtain rfl : i = l.length := by omega
    have hlt' : ¬ (l.length : Int) < (l.length : Int) := by omega
    simp [bindO, hcond, vCmp, vBin, vEq, vUn, vNil, vField, vLoad, takeCells, vIdx, vLenT, vLen, vExtract, hBS, hfill, hNew, hStore, hBox, hc_int, hc_bool, hc_string, hc_slice, hc_nilp, hc_nilm, hc_nilf, hc_agg, hc_list, hc_view, hc_ptr, hc_map, hc_func, ho_int, ho_bool, ho_string, ho_slice, ho_nilp, ho_nilm, ho_nilf, ho_list, ho_view, ho_ptr, ho_map, ho_func, putCells, hAppend, lcells, litCells, isNilS, llen, room, vMk, set_at, Join, vToInt, vSlice, vSliceX, cutAt, intAt, bl_len, bits64, bits64u, bits8, hfold, vMax2, vMin2, Try.underlying3, Try.underlying4, Try.underlying9, Try.underlying22, Try.underlying31, Try.underlying32, Try.underlying36, Try.underlying44, Try.underlying64, Try.underlying80, Try.underlying90, Try.underlying123, hMark, htp, recsV, hlt']
    first | exact hfin _ hn | exact ⟨s, hst, rfl, hn⟩ | exact ⟨hst, hn⟩
theorem weights {s : HS} (l : List Bat) (lim : Int) (hl : l.length ≤ 9223372036854775807) (hs : ∀ b ∈ l, ∃ r, b.recs = some r ∧ r.length ≤ 9223372036854775807 ∧ ∀ x ∈ r, ∃ k v, x.key = some k ∧ x.val = some v) :
    HC Try.prog 46 [.list 6 l.length (batsC l) false, .lit (.int .i64 lim)] s (fun v s' => s' = s ∧ ∃ k, v = .lit (.int .i64 k) ∧ 0 ≤ k) := by
  refine HC46 ?_
  unfold c46
  refine HLoop.ghost (σ := Int × Nat) (fun g => [.lit (.int .i64 g.1), .lit (.int .i64 g.2)]) (fun g t => g.2 ≤ l.length ∧ 0 ≤ g.1 ∧ t = s) (fun g => l.length - g.2) (0, 0) rfl ⟨Nat.zero_le _, by decide, rfl⟩ ?_
  rintro ⟨n, i⟩ t K ⟨hi, hn, rfl⟩ hK
  simp only at hi hn
  by_cases hlt : i < l.length
  · have hlt' : (i : Int) < (l.length : Int) := by omega
    have hix := batsC_idx l i hlt
    obtain ⟨r, hr, hr1, hr2⟩ := hs _ (getD_mem (z := b0) hlt)
    generalize l.getD i b0 = x at *
    by_cases h1 : n ≤ lim
    · simp [bindO, hcond, vCmp, vBin, vEq, vUn, vNil, vField, vLoad, takeCells, vIdx, vLenT, vLen, vExtract, hBS, hfill, hNew, hStore, hBox, hc_int, hc_bool, hc_string, hc_slice, hc_nilp, hc_nilm, hc_nilf, hc_agg, hc_list, hc_view, hc_ptr, hc_map, hc_func, ho_int, ho_bool, ho_string, ho_slice, ho_nilp, ho_nilm, ho_nilf, ho_list, ho_view, ho_ptr, ho_map, ho_func, putCells, hAppend, lcells, litCells, isNilS, llen, room, vMk, set_at, Join, vToInt, vSlice, vSliceX, cutAt, intAt, bl_len, bits64, bits64u, bits8, hfold, vMax2, vMin2, Try.underlying3, Try.underlying4, Try.underlying9, Try.underlying22, Try.underlying31, Try.underlying32, Try.underlying36, Try.underlying44, Try.underlying64, Try.underlying80, Try.underlying90, Try.underlying123, hMark, hlt', h1, hlt, hix, batC_len, hcb]
      refine (weight x r hr hr1 hr2).mono ?_
      rintro v s' ⟨rfl, q, rfl, hq⟩
      simp [bindO, hcond, vCmp, vBin, vEq, vUn, vNil, vField, vLoad, takeCells, vIdx, vLenT, vLen, vExtract, hBS, hfill, hNew, hStore, hBox, hc_int, hc_bool, hc_string, hc_slice, hc_nilp, hc_nilm, hc_nilf, hc_agg, hc_list, hc_view, hc_ptr, hc_map, hc_func, ho_int, ho_bool, ho_string, ho_slice, ho_nilp, ho_nilm, ho_nilf, ho_list, ho_view, ho_ptr, ho_map, ho_func, putCells, hAppend, lcells, litCells, isNilS, llen, room, vMk, set_at, Join, vToInt, vSlice, vSliceX, cutAt, intAt, bl_len, bits64, bits64u, bits8, hfold, vMax2, vMin2, Try.underlying3, Try.underlying4, Try.underlying9, Try.underlying22, Try.underlying31, Try.underlying32, Try.underlying36, Try.underlying44, Try.underlying64, Try.underlying80, Try.underlying90, Try.underlying123, hMark]
      intro id hid
      refine HC.frzN hid ?_
      simp [frz2, frz1, frz0, phi]
      refine (sum (s := s') n [q] hn (by simpa using hq) (by simp)).mono ?_
      rintro r s' ⟨rfl, q, rfl, hq⟩
      refine hK (q, i + 1) _ _ ?_ ⟨hlt, hq, rfl⟩ (by show l.length - (i + 1) < l.length - i; omega)
      rw [w64 (x := (i : Int) + 1) (by omega) (by omega)]
      rfl
    · simp [bindO, hcond, vCmp, vBin, vEq, vUn, vNil, vField, vLoad, takeCells, vIdx, vLenT, vLen, vExtract, hBS, hfill, hNew, hStore, hBox, hc_int, hc_bool, hc_string, hc_slice, hc_nilp, hc_nilm, hc_nilf, hc_agg, hc_list, hc_view, hc_ptr, hc_map, hc_func, ho_int, ho_bool, ho_string, ho_slice, ho_nilp, ho_nilm, ho_nilf, ho_list, ho_view, ho_ptr, ho_map, ho_func, putCells, hAppend, lcells, litCells, isNilS, llen, room, vMk, set_at, Join, vToInt, vSlice, vSliceX, cutAt, intAt, bl_len, bits64, bits64u, bits8, hfold, vMax2, vMin2, Try.underlying3, Try.underlying4, Try.underlying9, Try.underlying22, Try.underlying31, Try.underlying32, Try.underlying36, Try.underlying44, Try.underlying64, Try.underlying80, Try.underlying90, Try.underlying123, hMark, hlt', h1, hn]
  · obtain rfl : i = l.length := by omega
    simp [bindO, hcond, vCmp, vBin, vEq, vUn, vNil, vField, vLoad, takeCells, vIdx, vLenT, vLen, vExtract, hBS, hfill, hNew, hStore, hBox, hc_int, hc_bool, hc_string, hc_slice, hc_nilp, hc_nilm, hc_nilf, hc_agg, hc_list, hc_view, hc_ptr, hc_map, hc_func, ho_int, ho_bool, ho_string, ho_slice, ho_nilp, ho_nilm, ho_nilf, ho_list, ho_view, ho_ptr, ho_map, ho_func, putCells, hAppend, lcells, litCells, isNilS, llen, room, vMk, set_at, Join, vToInt, vSlice, vSliceX, cutAt, intAt, bl_len, bits64, bits64u, bits8, hfold, vMax2, vMin2, Try.underlying3, Try.underlying4, Try.underlying9, Try.underlying22, Try.underlying31, Try.underlying32, Try.underlying36, Try.underlying44, Try.underlying64, Try.underlying80, Try.underlying90, Try.underlying123, hMark, hn]
end Go.Proofs.Ytecnfekcflfihaa.CL
namespace Go.Proofs.Ytecnfekcflfihaa.CL
open Go.Proofs.Ytecnfekcflfihaa.H Go.Proofs.Ytecnfekcflfihaa.C2 Go.Proofs.Ytecnfekcflfihaa.C3
set_option linter.unusedVariables false
set_option linter.unusedSimpArgs false
set_option maxRecDepth 100000
/-- A row of bytes of its own. -/
def FreshB (s s' : HS) (v : HV) (bound : Nat) : Prop := ∃ l : List Int, Acc s s' 1 v l.length (bl l) ∧ HS.le s s' ∧ l.length ≤ bound
theorem wrapu (x : Int) : 0 ≤ IntKind.u64.wrap x ∧ IntKind.u64.wrap x < 18446744073709551616 := by
  have : IntKind.u64.wrap x = x % 18446744073709551616 := by simp [IntKind.wrap, IntKind.signed, IntKind.bits]
  omega
theorem zig {s : HS} (n : Int) : HC Try.prog 97 [.lit (.int .i64 n)] s (fun v s' => s' = s ∧ ∃ z, v = .lit (.int .u64 z) ∧ 0 ≤ z ∧ z < 18446744073709551616) := by
  refine HC97 ?_
  unfold c97
  by_cases h : n < 0
  · simp [bindO, hcond, vCmp, vBin, vEq, vUn, vNil, vField, vLoad, takeCells, vIdx, vLenT, vLen, vExtract, hBS, hfill, hNew, hStore, hBox, hc_int, hc_bool, hc_string, hc_slice, hc_nilp, hc_nilm, hc_nilf, hc_agg, hc_list, hc_view, hc_ptr, hc_map, hc_func, ho_int, ho_bool, ho_string, ho_slice, ho_nilp, ho_nilm, ho_nilf, ho_list, ho_view, ho_ptr, ho_map, ho_func, putCells, hAppend, lcells, litCells, isNilS, llen, room, vMk, set_at, Join, vToInt, vSlice, vSliceX, cutAt, intAt, bl_len, bits64, bits64u, bits8, hfold, vMax2, vMin2, Try.underlying3, Try.underlying4, Try.underlying9, Try.underlying22, Try.underlying31, Try.underlying32, Try.underlying36, Try.underlying44, Try.underlying64, Try.underlying80, Try.underlying90, Try.underlying123, hMark, h]
    exact wrapu _
  · simp [bindO, hcond, vCmp, vBin, vEq, vUn, vNil, vField, vLoad, takeCells, vIdx, vLenT, vLen, vExtract, hBS, hfill, hNew, hStore, hBox, hc_int, hc_bool, hc_string, hc_slice, hc_nilp, hc_nilm, hc_nilf, hc_agg, hc_list, hc_view, hc_ptr, hc_map, hc_func, ho_int, ho_bool, ho_string, ho_slice, ho_nilp, ho_nilm, ho_nilf, ho_list, ho_view, ho_ptr, ho_map, ho_func, putCells, hAppend, lcells, litCells, isNilS, llen, room, vMk, set_at, Join, vToInt, vSlice, vSliceX, cutAt, intAt, bl_len, bits64, bits64u, bits8, hfold, vMax2, vMin2, Try.underlying3, Try.underlying4, Try.underlying9, Try.underlying22, Try.underlying31, Try.underlying32, Try.underlying36, Try.underlying44, Try.underlying64, Try.underlying80, Try.underlying90, Try.underlying123, hMark, h]
    exact wrapu _
theorem shr7 {z : Int} (h : 0 ≤ z) : z.fdiv (2 ^ (min (7 : Int).toNat 64)) = z / 128 := by
  rw [show (2 : Int) ^ (min (7 : Int).toNat 64) = 128 by decide]
  exact Int.fdiv_eq_ediv_of_nonneg _ (by omega)
theorem acc_byte {b t : HS} {A : HV} {l : List Int} {x : Int} {K : HV → HS → Prop} (h : Acc b t 1 A l.length (bl l)) (hb : HS.le b t) (hl : l.length ≤ 100000000)
    (hK : ∀ A' t', Acc b t' 1 A' (l ++ [x]).length (bl (l ++ [x])) → HS.le b t' → K A' t') : hBS t 1 1 [.lit (.int .u8 0)] [(0, .lit (.int .u8 x))] (fun v s => hAppend s 1 1 A v K) := by
  refine h.app1 hb (hc_int _ _) rfl rfl ⟨by omega, by omega⟩ ?_
  intro A' t' h1 h2 _
  refine hK A' t' ?_ h2
  rw [List.length_append]
  simpa [bl] using h1
theorem put_len {s : HS} (n : Int) : HC Try.prog 84 [.lit (.int .i64 n)] s (fun v s' => FreshB s s' v 65) := by
  refine HC84 ?_
  unfold c84
  refine (zig n).mono ?_
  rintro v s1 ⟨rfl, z, rfl, hz0, hz1⟩
  refine HLoop.ghost (σ := Int × HV × List Int) (fun g => [.lit (.int .u64 g.1), g.2.1]) (fun g t => 0 ≤ g.1 ∧ g.2.2.length ≤ 64 ∧ g.1 < 2 ^ (64 - g.2.2.length) ∧ HS.le s1 t ∧ Acc s1 t 1 g.2.1 g.2.2.length (bl g.2.2)) (fun g => g.1.toNat) (z, nilV, []) rfl ⟨hz0, by simp, by simpa using hz1, le_refl' _, Acc.nil _ _ _⟩ ?_
  rintro ⟨z, A, l⟩ t K ⟨h0, h1, h2, hst, ho⟩ hK
  simp only at h0 h1 h2 hst ho
  by_cases hge : 128 ≤ z
  · simp only [vBin, bindO, List.headD_cons, List.tail_cons, if_true, ge_iff_le, hge, decide_true, hcond, vToInt]
    refine acc_byte ho hst (by omega) ?_
    intro A' t' g1 g2
    have hs7 : z.fdiv (2 ^ (min (7 : Int).toNat IntKind.u64.bits)) = z / 128 := shr7 h0
    simp only [show ¬ ((7 : Int) < 0) from by omega, if_false, hs7]
    have hk : l.length < 64 := by
      rcases Nat.lt_or_ge l.length 64 with h | h
      · exact h
      · rw [show 64 - l.length = 0 by omega] at h2; simp at h2; omega
    refine hK (z / 128, A', l ++ [_]) _ _ rfl ⟨by show 0 ≤ z / 128; omega, by rw [List.length_append]; simp; omega, ?_, g2, g1⟩ (by show (z / 128).toNat < z.toNat; omega)
    show z / 128 < 2 ^ (64 - (l ++ [_]).length)
    rw [List.length_append, List.length_singleton]
    rw [show 64 - l.length = (64 - (l.length + 1)) + 1 by omega, Int.pow_succ] at h2
    generalize (2 : Int) ^ (64 - (l.length + 1)) = P at *
    omega
  · simp only [vBin, bindO, List.headD_cons, List.tail_cons, if_true, ge_iff_le, hge, decide_false, hcond, vToInt]
    refine acc_byte ho hst (by omega) ?_
    intro A' t' g1 g2
    exact ⟨_, g1, g2, by rw [List.length_append]; simp; omega⟩
theorem FreshB.append {b s t : HS} {A B : HV} {n k : Nat} {K : HV → HS → Prop} (hA : FreshB b s A n) (hB : FreshB s t B k) (hn : n + k ≤ 100000000) (hK : ∀ A' t', FreshB b t' A' (n + k) → K A' t') : hAppend t 1 1 A B K := by
  obtain ⟨la, a1, a2, a3⟩ := hA
  obtain ⟨lb, b1, b2, b3⟩ := hB
  have a1 := a1.le b2
  refine a1.app (HS.le.trans a2 b2) b1.cells b1.llen (by rw [bl_len]; omega) ⟨by omega, by omega⟩ ?_
  intro A' t' h1 h2 _
  exact hK A' t' ⟨la ++ lb, by rw [List.length_append]; simpa [bl] using h1, h2, by rw [List.length_append]; omega⟩
/-- .. a row of bytes that was given. -/
theorem FreshB.appendL {b s : HS} {A : HV} {n k : Nat} {o : Option (List Int)} {K : HV → HS → Prop} (hA : FreshB b s A n) (ho : (o.getD []).length ≤ k) (hn : n + k ≤ 100000000) (hK : ∀ A' t', FreshB b t' A' (n + k) → K A' t') : hAppend s 1 1 A (byV o) K := by
  obtain ⟨la, a1, a2, a3⟩ := hA
  refine a1.app a2 (xs := bl (o.getD [])) (k := (o.getD []).length) (by cases o <;> simp [byV, lcells, litCells, bl]) (by cases o <;> rfl) (by rw [bl_len]; omega) ⟨by omega, by omega⟩ ?_
  intro A' t' h1 h2 _
  exact hK A' t' ⟨la ++ o.getD [], by rw [List.length_append]; simpa [bl] using h1, h2, by rw [List.length_append]; omega⟩
theorem FreshB.up {b s t : HS} {A : HV} {n : Nat} (h : FreshB s t A n) (hb : HS.le b s) : FreshB b t A n := by
  obtain ⟨l, h1, h2, h3⟩ := h
  exact ⟨l, h1.base hb, HS.le.trans hb h2, h3⟩
theorem FreshB.mono {b t : HS} {A : HV} {n k : Nat} (h : FreshB b t A n) (hk : n ≤ k) : FreshB b t A k := by
  obtain ⟨l, h1, h2, h3⟩ := h
  exact ⟨l, h1, h2, by omega⟩
theorem len_by (k : Option (List Int)) (s : HS) : vLenT (Try.prog.underlying 32) s (byV k) = some (.lit (.int .i64 ((k.getD []).length : Nat))) := by cases k <;> rfl
theorem bytes_len {s : HS} (k : Option (List Int)) (n : Nat) (hk : (k.getD []).length ≤ n) (hn : n ≤ 10000000) : HC Try.prog 78 [byV k] s (fun v s' => FreshB s s' v (65 + n)) := by
  refine HC78 ?_
  unfold c78
  rw [len_by]
  simp only [bindO]
  refine (put_len _).mono ?_
  intro v s' h
  exact h.appendL hk (by omega) fun _ _ h => h
theorem fixed_len {s : HS} (n : Int) (k : Nat) (hk : k ≤ 100) (h0 : 0 < k) : HC Try.prog 77 [.lit (.int .i64 n), .lit (.int .i64 k)] s (fun v s' => FreshB s s' v k) := by
  refine HC77 ?_
  unfold c77 hMake
  refine ⟨by omega, by omega, by omega, by simp; omega, rfl, rfl, ?_⟩
  intro id hid
  have hz : ∀ m, zcells (.int .u8 0) m = bl (List.replicate m 0) := by
    intro m
    have : ∀ j : List Nat, j.map (fun _ => HV.lit (.int .u8 0)) = bl (List.replicate j.length 0) := by
      intro j; induction j with
      | nil => rfl
      | cons x r ih => simp [bl, List.replicate_succ] at ih ⊢; exact ih
    have h2 := this (List.range m)
    rw [List.length_range] at h2
    rw [← h2]
    unfold zcells
    apply List.map_congr_left
    intro j hj
    simp [Value.cells, Nat.mod_one]
  refine HLoop.ghost (σ := Nat × List Int) (fun g => [.lit (.int .i64 g.1)]) (fun g t => g.1 ≤ k ∧ g.2.length = k ∧ HS.le s t ∧ t id = some (.cells (bl g.2))) (fun g => k - g.1) (0, List.replicate k 0) rfl ⟨Nat.zero_le _, by simp, le_set_new _ (le_refl' s) hid, by rw [set_at, hz]; simp⟩ ?_
  rintro ⟨i, l⟩ t K ⟨hi, hl, hst, ho⟩ hK
  simp only at hi hl hst ho
  by_cases hlt : i < k
  · have hlt' : (i : Int) < (k : Int) := by omega
    have hw1 : IntKind.i64.wrap ((k : Int) - 1) = (k : Int) - 1 := w64 (by omega) (by omega)
    have hw2 : IntKind.i64.wrap ((k : Int) - 1 - i) = ((k - 1 - i : Nat) : Int) := by rw [w64 (by omega) (by omega)]; omega
    have hw3 : IntKind.i64.wrap (8 * (i : Int)) = 8 * i := w64 (by omega) (by omega)
    have hx : ((k - 1 - i : Nat) : Int) < (k : Int) := by omega
    have h8 : ¬ (8 * (i : Int) < 0) := by omega
    simp only [vBin, bindO, List.headD_cons, if_true, hlt', decide_true, hcond, hw1, hw2, hw3, vToInt, h8, if_false, vIdx, Int.natCast_nonneg, true_and, Int.toNat_natCast, hx, Nat.zero_add, Nat.mul_one, and_self, hStore, hc_int, ho, List.length_singleton]
    refine ⟨by rw [bl_len]; omega, by simp [ho_int], ?_⟩
    generalize IntKind.u8.wrap ((IntKind.u64.wrap n).fdiv (2 ^ min (8 * (i : Int)).toNat IntKind.u64.bits)) = z
    refine hK (i + 1, l.set (k - 1 - i) z) _ _ (by rw [w64 (by omega) (by omega)]; rfl) ⟨hlt, by simpa using hl, le_set_free _ hst hid, ?_⟩ (by show k - (i + 1) < k - i; omega)
    rw [set_at]
    congr 2
    simp only [putCells, bl, List.length_singleton]
    rw [List.set_eq_take_append_cons_drop, if_pos (by omega), List.map_append, List.map_cons, List.map_take, List.map_drop]
    simp
  · obtain rfl : i = k := by omega
    have hlt' : ¬ (i : Int) < (i : Int) := by omega
    simp only [vBin, bindO, List.headD_cons, if_true, hlt', decide_false, hcond]
    exact ⟨l, .inr ⟨id, _, hid, by rw [hl, Int.toNat_natCast], ho, by rw [bl_len]; omega, by omega⟩, hst, by omega⟩
/-- A row of bytes, in whatever form. -/
def RowB (s : HS) (A : HV) (n : Nat) : Prop := vLenT (Try.prog.underlying 32) s A = some (.lit (.int .i64 n)) ∧ ∀ i : Nat, i < n → ∃ e x, vIdx 1 A (.lit (.int .i64 i)) = some e ∧ vLoad s e 1 false = some (.lit (.int .u8 x))
theorem FreshB.row {b s : HS} {A : HV} {n : Nat} (h : FreshB b s A n) : ∃ k, k ≤ n ∧ RowB s A k := by
  obtain ⟨l, h1, h2, h3⟩ := h
  refine ⟨l.length, h3, h1.len 5 s, fun i hi => ?_⟩
  obtain ⟨e, g1, g2⟩ := h1.at1 .i64 hi
  exact ⟨e, l.getD i 0, g1, by rw [g2]; simp [bl, List.getD, hi]⟩
theorem more {s : HS} (A : HV) (n : Nat) (r : Int) (h : RowB s A n) (hn : n ≤ 100000000) : HC Try.prog 85 [.lit (.int .u32 r), A] s (fun v s' => s' = s ∧ ∃ q, v = .lit (.int .u32 q)) := by
  refine HC85 ?_
  unfold c85
  refine HLoop.ghost (σ := Int × Nat) (fun g => [.lit (.int .u32 g.1), .lit (.int .i64 g.2)]) (fun g t => g.2 ≤ n ∧ t = s) (fun g => n - g.2) (r, 0) rfl ⟨Nat.zero_le _, rfl⟩ ?_
  rintro ⟨r, i⟩ t K ⟨hi, rfl⟩ hK
  simp only at hi
  simp only [h.1, bindO, List.headD_cons, List.tail_cons, vBin, if_true]
  by_cases hlt : i < n
  · have hlt' : (i : Int) < (n : Int) := by omega
    obtain ⟨e, x, h1, h2⟩ := h.2 i hlt
    simp only [hlt', decide_true, hcond, h1, h2, vToInt, if_true]
    refine HLoop.ghost (σ := Int × Nat) (fun g => [.lit (.int .u32 g.1), .lit (.int .i64 g.2)]) (fun g t' => g.2 ≤ 8 ∧ t' = t) (fun g => 8 - g.2) (_, 0) rfl ⟨Nat.zero_le _, rfl⟩ ?_
    rintro ⟨r, j⟩ t2 K2 ⟨hj, rfl⟩ hK2
    simp only at hj
    simp only [bindO, List.headD_cons, List.tail_cons, vBin, if_true]
    by_cases hj8 : j < 8
    · have hj' : (j : Int) < 8 := by omega
      simp only [hj', decide_true, hcond, Join, vCmp, vBin, if_true, bindO, Try.underlying123]
      have h1n : ¬ (1 : Int) < 0 := by omega
      cases hb : (bits .and .u32 r 1 == 1) <;> simp only [h1n, if_false, List.headD_cons] <;>
        exact hK2 (_, j + 1) _ _ (by rw [w64 (by omega) (by omega)]; rfl) ⟨hj8, rfl⟩ (by show 8 - (j + 1) < 8 - j; omega)
    · have hj' : ¬ (j : Int) < 8 := by omega
      simp only [hj', decide_false, hcond]
      exact hK (r, i + 1) _ _ (by rw [w64 (by omega) (by omega)]; rfl) ⟨hlt, rfl⟩ (by show n - (i + 1) < n - i; omega)
  · obtain rfl : i = n := by omega
    have hlt' : ¬ (i : Int) < (i : Int) := by omega
    simp only [hlt', decide_false, hcond]
    exact ⟨by trivial, r, rfl⟩
theorem sumc {s : HS} (A : HV) (n : Nat) (h : RowB s A n) (hn : n ≤ 100000000) : HC Try.prog 80 [A] s (fun v s' => s' = s ∧ ∃ q, v = .lit (.int .u32 q)) := by
  refine HC80 ?_
  unfold c80
  refine (more A n _ h hn).mono ?_
  rintro v s' ⟨rfl, q, rfl⟩
  exact ⟨rfl, _, rfl⟩
theorem bytesF_len {b s : HS} {A : HV} {n : Nat} (h : FreshB b s A n) (hn : n ≤ 10000000) : HC Try.prog 78 [A] s (fun v s' => FreshB s s' v (65 + n)) := by
  refine HC78 ?_
  unfold c78
  obtain ⟨k, hk, hl, -⟩ := h.row
  rw [hl]
  simp only [bindO]
  refine (put_len _).mono ?_
  intro v s' h2
  obtain ⟨la, a1, a2, a3⟩ := h2
  obtain ⟨lb, b1, b2, b3⟩ := h
  have b1 := b1.le a2
  refine a1.app a2 b1.cells b1.llen (by rw [bl_len]; omega) ⟨by omega, by omega⟩ ?_
  intro A' t' h1 h2 _
  exact ⟨la ++ lb, by rw [List.length_append]; simpa [bl] using h1, h2, by rw [List.length_append]; omega⟩
theorem FreshB.le {b s t : HS} {A : HV} {n : Nat} (h : FreshB b s A n) (hle : HS.le s t) : FreshB b t A n := by
  obtain ⟨l, h1, h2, h3⟩ := h
  exact ⟨l, h1.le hle, HS.le.trans h2 hle, h3⟩
theorem body_len {s : HS} (r : Rec) (first base : Int) (hk : (r.key.getD []).length ≤ 1000) (hv : (r.val.getD []).length ≤ 10000) : HC Try.prog 79 [.agg (recC r), .lit (.int .i64 first), .lit (.int .i64 base)] s (fun v s' => FreshB s s' v 20000) := by
  refine HC79 ?_
  obtain ⟨off, time, hask, key, hasv, val⟩ := r
  simp only at hk hv
  simp only [c79, hBox, hc_agg, recC]
  intro p hp
  have htp := set_at s p (.cells [.lit (.int .i64 off), .lit (.int .i64 time), .lit (.bool hask), byV key, .lit (.bool hasv), byV val])
  have hst := le_set_new (.cells [.lit (.int .i64 off), .lit (.int .i64 time), .lit (.bool hask), byV key, .lit (.bool hasv), byV val]) (le_refl' s) hp
  generalize s.set p (.cells [.lit (.int .i64 off), .lit (.int .i64 time), .lit (.bool hask), byV key, .lit (.bool hasv), byV val]) = t0 at *
  simp [bindO, hcond, vCmp, vBin, vEq, vUn, vNil, vField, vLoad, takeCells, vExtract, hNew, hStore, hBox, hc_int, hc_bool, hc_string, hc_slice, hc_nilp, hc_nilm, hc_nilf, hc_agg, hc_list, hc_view, hc_ptr, hc_map, hc_func, ho_int, ho_bool, ho_string, ho_slice, ho_nilp, ho_nilm, ho_nilf, ho_list, ho_view, ho_ptr, ho_map, ho_func, putCells, vMk, set_at, Join, vToInt, bits64, bits64u, bits8, htp]
  refine (put_len _).mono ?_
  intro v s1 h1
  have e1 := h1.choose_spec.2.1 p _ htp
  simp [bindO, hcond, vCmp, vBin, vEq, vUn, vNil, vField, vLoad, takeCells, vExtract, hNew, hStore, hBox, hc_int, hc_bool, hc_string, hc_slice, hc_nilp, hc_nilm, hc_nilf, hc_agg, hc_list, hc_view, hc_ptr, hc_map, hc_func, ho_int, ho_bool, ho_string, ho_slice, ho_nilp, ho_nilm, ho_nilf, ho_list, ho_view, ho_ptr, ho_map, ho_func, putCells, vMk, set_at, Join, vToInt, bits64, bits64u, bits8, e1]
  refine (put_len _).mono ?_
  intro v2 s2 h2
  refine h1.append h2 (by omega) ?_
  intro A s3 h3
  have e3 := h3.choose_spec.2.1 p _ htp
  simp [bindO, hcond, vCmp, vBin, vEq, vUn, vNil, vField, vLoad, takeCells, vExtract, hNew, hStore, hBox, hc_int, hc_bool, hc_string, hc_slice, hc_nilp, hc_nilm, hc_nilf, hc_agg, hc_list, hc_view, hc_ptr, hc_map, hc_func, ho_int, ho_bool, ho_string, ho_slice, ho_nilp, ho_nilm, ho_nilf, ho_list, ho_view, ho_ptr, ho_map, ho_func, putCells, vMk, set_at, Join, vToInt, bits64, bits64u, bits8, e3]
  have tail : ∀ (A : HV) (s4 : HS), FreshB t0 s4 A 2000 → (match hcond (.lit (.bool hasv)) (HC Try.prog 78 [byV val] s4 (fun r34 s35 => hAppend s35 1 1 A r34 (fun x36 s37 => FreshB s s37 x36 20000))) (HC Try.prog 84 [.lit (.int .i64 (-1))] s4 (fun r38 s39 => hAppend s39 1 1 A r38 (fun x40 s41 => FreshB s s41 x40 20000))) with | q => q) := by
    intro A s4 h4
    cases hasv with
    | true =>
      simp only [hcond]
      refine (bytes_len val 10000 hv (by omega)).mono ?_
      intro v5 s5 h5
      exact h4.append h5 (by omega) fun A' t' h6 => (h6.up hst).mono (by omega)
    | false =>
      simp only [hcond]
      refine (put_len _).mono ?_
      intro v5 s5 h5
      exact h4.append h5 (by omega) fun A' t' h6 => (h6.up hst).mono (by omega)
  cases hask with
  | true =>
    simp only [hcond]
    refine (bytes_len key 1000 hk (by omega)).mono ?_
    intro v4 s4 h4
    refine h3.append h4 (by omega) fun A' t' h6 => ?_
    have e6 := h6.choose_spec.2.1 p _ htp
    have := tail A' t' (h6.mono (by omega))
    simpa [bindO, hcond, vCmp, vBin, vEq, vUn, vNil, vField, vLoad, takeCells, vExtract, hNew, hStore, hBox, hc_int, hc_bool, hc_string, hc_slice, hc_nilp, hc_nilm, hc_nilf, hc_agg, hc_list, hc_view, hc_ptr, hc_map, hc_func, ho_int, ho_bool, ho_string, ho_slice, ho_nilp, ho_nilm, ho_nilf, ho_list, ho_view, ho_ptr, ho_map, ho_func, putCells, vMk, set_at, Join, vToInt, bits64, bits64u, bits8, e6] using this
  | false =>
    simp only [hcond]
    refine (put_len _).mono ?_
    intro v4 s4 h4
    refine h3.append h4 (by omega) fun A' t' h6 => ?_
    have e6 := h6.choose_spec.2.1 p _ htp
    have := tail A' t' (h6.mono (by omega))
    simpa [bindO, hcond, vCmp, vBin, vEq, vUn, vNil, vField, vLoad, takeCells, vExtract, hNew, hStore, hBox, hc_int, hc_bool, hc_string, hc_slice, hc_nilp, hc_nilm, hc_nilf, hc_agg, hc_list, hc_view, hc_ptr, hc_map, hc_func, ho_int, ho_bool, ho_string, ho_slice, ho_nilp, ho_nilm, ho_nilf, ho_list, ho_view, ho_ptr, ho_map, ho_func, putCells, vMk, set_at, Join, vToInt, bits64, bits64u, bits8, e6] using this
theorem FreshB.hle {b s : HS} {A : HV} {n : Nat} (h : FreshB b s A n) : HS.le b s := h.choose_spec.2.1
theorem FreshB.app2 {b b' t : HS} {A B : HV} {n k : Nat} {K : HV → HS → Prop} (hA : FreshB b t A n) (hB : FreshB b' t B k) (hn : n + k ≤ 100000000) (hK : ∀ A' t', FreshB b t' A' (n + k) → K A' t') : hAppend t 1 1 A B K := by
  obtain ⟨la, a1, a2, a3⟩ := hA
  obtain ⟨lb, b1, b2, b3⟩ := hB
  refine a1.app a2 b1.cells b1.llen (by rw [bl_len]; omega) ⟨by omega, by omega⟩ ?_
  intro A' t' h1 h2 _
  exact hK A' t' ⟨la ++ lb, by rw [List.length_append]; simpa [bl] using h1, h2, by rw [List.length_append]; omega⟩
theorem encode_len {s : HS} (b : Bat) (l : List Rec) (hb : b.recs = some l) (hl : l.length ≤ 100) (hs : ∀ r ∈ l, (r.key.getD []).length ≤ 1000 ∧ (r.val.getD []).length ≤ 10000) :
    HC Try.prog 70 [.agg (batC b)] s (fun v s' => FreshB s s' v 100000000) := by
  refine HC70 ?_
  obtain ⟨c0, c1, c2, c3, c4, recs⟩ := b
  simp only at hb
  subst hb
  simp only [c70, hBox, hc_agg, batC]
  intro p hp
  obtain ⟨Z, hZ⟩ : ∃ Z, Z = [.lit (.int .i64 c0), .lit (.int .i64 c1), .lit (.int .i64 c2), .lit (.int .i64 c3), .lit (.int .i64 c4), recsV (some l)] := ⟨_, rfl⟩
  rw [← hZ]
  have z0 : Z[0]? = some (.lit (.int .i64 c0)) := by rw [hZ]; rfl
  have z1 : Z[1]? = some (.lit (.int .i64 c1)) := by rw [hZ]; rfl
  have z2 : Z[2]? = some (.lit (.int .i64 c2)) := by rw [hZ]; rfl
  have z3 : Z[3]? = some (.lit (.int .i64 c3)) := by rw [hZ]; rfl
  have z4 : Z[4]? = some (.lit (.int .i64 c4)) := by rw [hZ]; rfl
  have z5 : Z[5]? = some (recsV (some l)) := by rw [hZ]; rfl
  have htp := set_at s p (.cells Z)
  have hst := le_set_new (.cells Z) (le_refl' s) hp
  generalize s.set p (.cells Z) = t0 at *
  have hlen : ∀ t, vLenT (Try.prog.underlying 44) t (recsV (some l)) = some (.lit (.int .i64 l.length)) := fun t => rfl
  have hlen' : ∀ t, vLenT (some (.slice 34)) t (recsV (some l)) = some (.lit (.int .i64 l.length)) := fun t => rfl
  refine Join.of (fun xs s' => ∃ f, xs = [.lit (.int .i64 f)] ∧ s' = t0) ?_ ?_
  rotate_left
  · intro K hK
    simp only [bindO, vField, Nat.zero_add, vLoad, htp, takeCells, Bool.false_eq_true, if_false, z5, hlen, vBin, if_true]
    by_cases h0 : 0 < l.length
    · have h0' : (0 : Int) < (l.length : Int) := by omega
      have hix := recsC_idx l 0 h0
      simp only [Nat.zero_mul, List.drop_zero] at hix
      simp [hcond, vIdx, recsV, h0, hix, recC]
      exact hK _ _ ⟨_, rfl, rfl⟩
    · have h0' : ¬ (l.length : Int) > 0 := by omega
      simp only [h0', decide_false, hcond]
      exact hK _ _ ⟨_, rfl, rfl⟩
  rintro xs s1 ⟨f, rfl, rfl⟩
  simp only [bindO, vField, Nat.zero_add, vLoad, htp, takeCells, Bool.false_eq_true, if_false, z0, z1, vBin, if_true, List.headD_cons]
  refine (fixed_len _ 8 (by omega) (by omega)).mono ?_
  intro v s2 h2
  refine (fixed_len _ 8 (by omega) (by omega)).mono ?_
  intro v' s3 h3
  refine h2.append h3 (by omega) ?_
  intro A s4 h4
  have e4 := h4.hle _ _ htp
  simp only [e4, z2, z3, z4, z5, hlen, hlen']
  refine (fixed_len _ 8 (by omega) (by omega)).mono ?_
  intro v s5 h5
  have e5 := h5.hle _ _ e4
  simp only [e5, z2, z3, z4, z5, hlen, true_and]
  refine h4.append h5 (by omega) ?_
  intro A s6 h6
  have e6 := h6.hle _ _ htp
  simp only [e6, z2, z3, z4, z5, hlen, true_and]
  refine (fixed_len _ 2 (by omega) (by omega)).mono ?_
  intro v s7 h7
  have e7 := h7.hle _ _ e6
  simp only [e7, z2, z3, z4, z5, hlen, true_and]
  refine h6.append h7 (by omega) ?_
  intro A s8 h8
  have e8 := h8.hle _ _ htp
  simp only [e8, z2, z3, z4, z5, hlen, true_and]
  refine (fixed_len _ 4 (by omega) (by omega)).mono ?_
  intro v s9 h9
  have e9 := h9.hle _ _ e8
  simp only [e9, z2, z3, z4, z5, hlen, true_and]
  refine h8.append h9 (by omega) ?_
  intro A s10 h10
  have e10 := h10.hle _ _ htp
  simp only [e10, z2, z3, z4, z5, hlen, true_and]
  refine (fixed_len _ 4 (by omega) (by omega)).mono ?_
  intro v s11 h11
  refine h10.append h11 (by omega) ?_
  intro A s12 h12
  refine HLoop.ghost (σ := HV × Nat) (fun g => [g.1, .lit (.int .i64 g.2)]) (fun g t => g.2 ≤ l.length ∧ FreshB s1 t g.1 (100 + g.2 * 20065)) (fun g => l.length - g.2) (A, 0) rfl ⟨Nat.zero_le _, h12.mono (by omega)⟩ ?_
  rintro ⟨A, i⟩ t K ⟨hi, ho⟩ hK
  simp only at hi ho
  have et := ho.hle _ _ htp
  simp only [List.headD_cons, List.tail_cons, et, z5, hlen]
  by_cases hlt : i < l.length
  · have hlt' : (i : Int) < (l.length : Int) := by omega
    have hix := recsC_idx l i hlt
    obtain ⟨hk, hv⟩ := hs _ (getD_mem (z := r0) hlt)
    generalize l.getD i r0 = x at *
    simp only [hlt', decide_true, hcond, vIdx, recsV, Int.natCast_nonneg, true_and, if_true, Int.toNat_natCast, hix, recC_len, Nat.zero_add, Nat.le_refl, List.drop_zero, hcz, z0, et]
    refine (body_len x _ _ hk hv).mono ?_
    intro v s13 h13
    refine (bytesF_len h13 (by omega)).mono ?_
    intro v s14 h14
    have ho' := ho.le h13.hle
    refine ho'.append h14 (by omega) ?_
    intro A' t' h15
    exact hK (A', i + 1) _ _ (by rw [w64 (by omega) (by omega)]; rfl) ⟨hlt, h15.mono (by omega)⟩ (by show l.length - (i + 1) < l.length - i; omega)
  · obtain rfl : i = l.length := by omega
    have hlt' : ¬ (l.length : Int) < (l.length : Int) := by omega
    simp only [hlt', decide_false, hcond, et, z0]
    refine (fixed_len _ 8 (by omega) (by omega)).mono ?_
    intro v s13 h13
    have hoa := ho.le h13.hle
    obtain ⟨k, hk, hkl, -⟩ := hoa.row
    rw [hkl]
    refine (fixed_len _ 4 (by omega) (by omega)).mono ?_
    intro v2 s14 h14
    have ho2 := hoa.le h14.hle
    refine h13.append h14 (by omega) ?_
    intro A2 t2 h15
    have ho3 := ho.le h15.hle
    obtain ⟨k, hk, hrow⟩ := ho3.row
    refine (sumc A k hrow (by omega)).mono ?_
    rintro r t3 ⟨rfl, q, rfl⟩
    simp only [vToInt]
    refine (fixed_len _ 4 (by omega) (by omega)).mono ?_
    intro v3 t4 h16
    refine h15.append h16 (by omega) ?_
    intro A3 t5 h17
    have ho4 := ho.le h17.hle
    refine h17.app2 ho4 (by omega) ?_
    intro A4 t6 h18
    exact (h18.up (HS.le.trans hst ho.hle)).mono (by omega)
end Go.Proofs.Ytecnfekcflfihaa.CL
end
section
namespace Go.Proofs.Ytecnfekcflfihaa.CL
open Go.Proofs.Ytecnfekcflfihaa.H Go.Proofs.Ytecnfekcflfihaa.C0 Go.Proofs.Ytecnfekcflfihaa.F0
set_option linter.unusedVariables false
set_option linter.unusedSimpArgs false
set_option maxRecDepth 100000
theorem records34 (l : List Bat) (s : HS) : HC Try.prog 34 [batsV (some l)] s (fun v t => ∃ p, s p = none ∧ v = .func (.func 59) [.ptr p 0] ∧ t = s.set p (.cells [batsV (some l)])) := by
  refine HC34 ?_
  simp [c34, bindO, hcond, vCmp, vBin, vEq, vUn, vNil, vField, vLoad, takeCells, vIdx, vExtract, hNew, hStore, hBox, hc_int, hc_bool, hc_string, hc_slice, hc_nilp, hc_nilm, hc_nilf, hc_agg, hc_list, hc_view, hc_ptr, hc_map, hc_func, ho_int, ho_bool, ho_string, ho_slice, ho_nilp, ho_nilm, ho_nilf, ho_list, ho_view, ho_ptr, ho_map, ho_func, putCells, lcells, litCells, isNilS, llen, vMk, set_at, Try.underlying3, Try.underlying4, Try.underlying9, Try.underlying22, Try.underlying31, Try.underlying32, Try.underlying36, Try.underlying44, Try.underlying64, Try.underlying80, Try.underlying90, Try.underlying123, hc_batsV, ho_batsV]
  intro id hid
  exact ⟨id, hid, rfl, rfl⟩
def encRs (xs : List Rec) (i : Nat) : List HV := [.agg (recC (xs.getD i r0))]
theorem gives59 (l : List Bat) (p : Nat) (s : HS) (hl : l.length ≤ 100000) (hs : ∀ b ∈ l, ∃ r, b.recs = some r ∧ r.length ≤ 100000 ∧ ∀ x ∈ r, ShortR x) (hp : s p = some (.cells [batsV (some l)])) :
    Gives Try.prog 59 [.ptr p 0] (recsOf l).length (encRs (recsOf l)) s := fun idl J E s' hle hJ hround h0 =>
  iter59 l idl p s' hl hs J E hJ hround (hle _ _ hp) h0
theorem plain59 : plainFn Try.prog 59 = true := by unfold plainFn; rw [Try.func59]; rfl
theorem accV_recs (l : List Rec) : accV 6 l.length (recsC l) = recsV (orNil l) := by cases l <;> simp [accV, recsV, orNil, recsC]
end Go.Proofs.Ytecnfekcflfihaa.CL
end
section
namespace Go.Proofs
open Go.Shelf
def Try.keys63_ren : Go.Shelf.Ren := ⟨fun | 7 => 63 | 10 => 75 | n => n, fun | 23 => 105 | 26 => 9 | 3 => 34 | 28 => 109 | 0 => 0 | 27 => 108 | 33 => 119 | 4 => 4 | n => n, fun | n => n⟩
theorem Try.keys63 : Go.Proofs.SlLaysZ.n7 Try.prog Try.keys63_ren := {
  mixed := by kernel_rfl
  f7 := ⟨Try.f63.name, by decide, Try.func63.trans (congrArg some (by kernel_rfl))⟩
  f10 := ⟨Try.f75.name, by decide, Try.func75.trans (congrArg some (by kernel_rfl))⟩
  t0 := Try.underlying0
  a0 := Try.isAgg0
  z0 := Try.sizeOf0
  v0 := Try.zeroValue0
  t4 := Try.underlying4
  a4 := Try.isAgg4
  z4 := Try.sizeOf4
  v4 := Try.zeroValue4
  t23 := Try.underlying105
  a23 := Try.isAgg105
  z23 := Try.sizeOf105
  v23 := Try.zeroValue105
  t26 := Try.underlying9
  a26 := Try.isAgg9
  z26 := Try.sizeOf9
  v26 := Try.zeroValue9
  t27 := Try.underlying108
  a27 := Try.isAgg108
  z27 := Try.sizeOf108
  v27 := Try.zeroValue108
  t28 := Try.underlying109
  a28 := Try.isAgg109
  z28 := Try.sizeOf109
  v28 := Try.zeroValue109
  t33 := Try.underlying119
  a33 := Try.isAgg119
  z33 := Try.sizeOf119
  v33 := Try.zeroValue119 }
def Try.sorted62_ren : Go.Shelf.Ren := ⟨fun | 6 => 62 | 8 => 73 | 9 => 74 | 11 => 81 | 13 => 83 | 12 => 82 | 23 => 95 | 24 => 96 | 14 => 86 | 15 => 87 | 16 => 88 | 17 => 89 | 18 => 90 | 19 => 91 | 20 => 92 | 21 => 93 | 22 => 94 | 25 => 98 | 26 => 99 | 27 => 100 | 28 => 101 | 29 => 102 | 30 => 103 | 31 => 104 | n => n, fun | 26 => 9 | 28 => 109 | 24 => 106 | 0 => 0 | 3 => 3 | 37 => 128 | 48 => 123 | 50 => 129 | 4 => 4 | 40 => 134 | 39 => 133 | 45 => 96 | 5 => 5 | 9 => 9 | 51 => 143 | 55 => 147 | 57 => 149 | 58 => 150 | 33 => 119 | n => n, fun | n => n⟩
theorem Try.sorted62 : Go.Proofs.SlLaysZ.n6 Try.prog Try.sorted62_ren := {
  mixed := by kernel_rfl
  f6 := ⟨Try.f62.name, by decide, Try.func62.trans (congrArg some (by kernel_rfl))⟩
  f8 := ⟨Try.f73.name, by decide, Try.func73.trans (congrArg some (by kernel_rfl))⟩
  f11 := ⟨Try.f81.name, by decide, Try.func81.trans (congrArg some (by kernel_rfl))⟩
  t0 := Try.underlying0
  a0 := Try.isAgg0
  z0 := Try.sizeOf0
  v0 := Try.zeroValue0
  t24 := Try.underlying106
  a24 := Try.isAgg106
  z24 := Try.sizeOf106
  v24 := Try.zeroValue106
  t26 := Try.underlying9
  a26 := Try.isAgg9
  z26 := Try.sizeOf9
  v26 := Try.zeroValue9
  t28 := Try.underlying109
  a28 := Try.isAgg109
  z28 := Try.sizeOf109
  v28 := Try.zeroValue109
  i26 := by kernel_rfl }
def Try.sort74_ren : Go.Shelf.Ren := ⟨fun | 6 => 74 | 8 => 83 | 9 => 82 | 19 => 95 | 20 => 96 | 21 => 86 | 22 => 87 | 23 => 88 | 24 => 89 | 25 => 90 | 26 => 91 | 27 => 92 | 28 => 93 | 29 => 94 | 36 => 98 | 31 => 99 | 32 => 100 | 37 => 101 | 38 => 102 | 39 => 103 | 41 => 104 | n => n, fun | 27 => 106 | 29 => 9 | 3 => 3 | 32 => 128 | 26 => 106 | 0 => 0 | 44 => 123 | 46 => 129 | 4 => 4 | 36 => 134 | 35 => 133 | 41 => 96 | 5 => 5 | 9 => 9 | 53 => 143 | 57 => 147 | 63 => 149 | 64 => 150 | n => n, fun | n => n⟩
theorem Try.sort74 : Go.Proofs.SlLaysM.n6 Try.prog Try.sort74_ren := {
  mixed := by kernel_rfl
  f6 := ⟨Try.f74.name, by decide, Try.func74.trans (congrArg some (by kernel_rfl))⟩
  f8 := Try.func83.trans (congrArg some (by kernel_rfl))
  f9 := ⟨Try.f82.name, by decide, Try.func82.trans (congrArg some (by kernel_rfl))⟩
  f19 := Try.func95.trans (congrArg some (by kernel_rfl))
  f20 := Try.func96.trans (congrArg some (by kernel_rfl))
  f21 := ⟨Try.f86.name, by decide, Try.func86.trans (congrArg some (by kernel_rfl))⟩
  f22 := ⟨Try.f87.name, by decide, Try.func87.trans (congrArg some (by kernel_rfl))⟩
  f23 := ⟨Try.f88.name, by decide, Try.func88.trans (congrArg some (by kernel_rfl))⟩
  f24 := ⟨Try.f89.name, by decide, Try.func89.trans (congrArg some (by kernel_rfl))⟩
  f25 := ⟨Try.f90.name, by decide, Try.func90.trans (congrArg some (by kernel_rfl))⟩
  f26 := ⟨Try.f91.name, by decide, Try.func91.trans (congrArg some (by kernel_rfl))⟩
  f27 := ⟨Try.f92.name, by decide, Try.func92.trans (congrArg some (by kernel_rfl))⟩
  f28 := ⟨Try.f93.name, by decide, Try.func93.trans (congrArg some (by kernel_rfl))⟩
  f29 := ⟨Try.f94.name, by decide, Try.func94.trans (congrArg some (by kernel_rfl))⟩
  f31 := Try.func99.trans (congrArg some (by kernel_rfl))
  f32 := Try.func100.trans (congrArg some (by kernel_rfl))
  f36 := ⟨Try.f98.name, by decide, Try.func98.trans (congrArg some (by kernel_rfl))⟩
  f37 := ⟨Try.f101.name, by decide, Try.func101.trans (congrArg some (by kernel_rfl))⟩
  f38 := ⟨Try.f102.name, by decide, Try.func102.trans (congrArg some (by kernel_rfl))⟩
  f39 := ⟨Try.f103.name, by decide, Try.func103.trans (congrArg some (by kernel_rfl))⟩
  f41 := ⟨Try.f104.name, by decide, Try.func104.trans (congrArg some (by kernel_rfl))⟩
  t0 := Try.underlying0
  a0 := Try.isAgg0
  z0 := Try.sizeOf0
  v0 := Try.zeroValue0
  t3 := Try.underlying3
  a3 := Try.isAgg3
  z3 := Try.sizeOf3
  v3 := Try.zeroValue3
  t4 := Try.underlying4
  a4 := Try.isAgg4
  z4 := Try.sizeOf4
  v4 := Try.zeroValue4
  t5 := Try.underlying5
  a5 := Try.isAgg5
  z5 := Try.sizeOf5
  v5 := Try.zeroValue5
  t9 := Try.underlying9
  a9 := Try.isAgg9
  z9 := Try.sizeOf9
  v9 := Try.zeroValue9
  t26 := Try.underlying106
  a26 := Try.isAgg106
  z26 := Try.sizeOf106
  v26 := Try.zeroValue106
  t27 := Try.underlying106
  a27 := Try.isAgg106
  z27 := Try.sizeOf106
  v27 := Try.zeroValue106
  t29 := Try.underlying9
  a29 := Try.isAgg9
  z29 := Try.sizeOf9
  v29 := Try.zeroValue9
  t32 := Try.underlying128
  a32 := Try.isAgg128
  z32 := Try.sizeOf128
  v32 := Try.zeroValue128
  t35 := Try.underlying133
  a35 := Try.isAgg133
  z35 := Try.sizeOf133
  v35 := Try.zeroValue133
  t36 := Try.underlying134
  a36 := Try.isAgg134
  z36 := Try.sizeOf134
  v36 := Try.zeroValue134
  t41 := Try.underlying96
  a41 := Try.isAgg96
  z41 := Try.sizeOf96
  v41 := Try.zeroValue96
  t44 := Try.underlying123
  a44 := Try.isAgg123
  z44 := Try.sizeOf123
  v44 := Try.zeroValue123
  t46 := Try.underlying129
  a46 := Try.isAgg129
  z46 := Try.sizeOf129
  v46 := Try.zeroValue129
  t53 := Try.underlying143
  a53 := Try.isAgg143
  z53 := Try.sizeOf143
  v53 := Try.zeroValue143
  t57 := Try.underlying147
  a57 := Try.isAgg147
  z57 := Try.sizeOf147
  v57 := Try.zeroValue147
  t63 := Try.underlying149
  a63 := Try.isAgg149
  z63 := Try.sizeOf149
  v63 := Try.zeroValue149
  t64 := Try.underlying150
  a64 := Try.isAgg150
  z64 := Try.sizeOf150
  v64 := Try.zeroValue150 }
end Go.Proofs
end
section
namespace Go.Proofs.Ytecnfekcflfihaa.CL
open Go.RowKit Go.Maps Go.Sort Go.Shelf Go.MapKept Go.Proofs.Ytecnfekcflfihaa.H
set_option linter.unusedVariables false
set_option linter.unusedSimpArgs false
set_option maxRecDepth 100000
variable {s : HS}
theorem sorts62 (m : Nat) : AnyZ.SortsIn Try.prog Try.sorted62_ren Fence.wide m :=
  ⟨fun blk off cap ss W hH hblk hsz => callsIn_wide.2 (AnyM.slices_Sort_string Try.sort74 blk off cap ss W hH hblk hsz),
   fun p cap W => callsIn_wide.2 (AnyM.slices_Sort_string_none Try.sort74 p cap W)⟩
set_option maxHeartbeats 1000000 in
theorem sorted62_in {H : Type} (Bm b nn : Nat) (D0 : DataW H) (R : Value → Option (DataW H × List MemPlace)) (w : World) (hm : w.cell? ⟨Bm, 0, none⟩ = some (.map (some b))) (hown : w.ownsMap Try.prog 9 R b nn D0) (hmax : Maps.size D0 ≤ maxLen) (hbytes : Maps.size D0 * 16 ≤ 140737488355328) :
    CallsIn Fence.wide 5 Try.prog 62 #[.func (.func 75) #[] #[.pointer (some ⟨Bm, 0, none⟩)]] w fun e w' => ∃ (v : Value) (ss : List (List UInt8)), e = .returned v ∧ ss.Perm (strKeys D0) ∧
      w'.ownsRow w.heap.size 9 1 v ss.length ((ss.mergeSort (fun x y => decide (x ≤ y))).map encStr) ∧ (v = .slice none 0 0 ↔ ss = []) ∧ Below w.heap.size w w' := by
  have hseq : SeqGives Fence.wide 2 Try.prog 75 #[.pointer (some ⟨Bm, 0, none⟩)] encStr (fun ss => ss.Perm (strKeys D0)) (Maps.size D0) w :=
    AnyZ.keys_gives (ρ := Try.keys63_ren) { Try.keys63 with } Fence.wide _ trivial rfl (by omega) Bm b nn D0 _ (cell_lt hm) hm hown
  exact AnyZ.sorted_in Try.sorted62 Fence.wide 5 trivial trivial trivial trivial rfl (by omega) (sorts62 _) (enters_of Try.func74 (by kernel_rfl) rfl) 75 #[.pointer (some ⟨Bm, 0, none⟩)] trivial (enters_of Try.func75 (by kernel_rfl) rfl) _ _ hmax hbytes _ hseq
theorem rel_grown {m : M} {w w' : World} (h : Rel m s w) (hb : Below w.heap.size w w') : Rel m s w' := by
  refine ⟨⟨hb.os.trans h.below.os, hb.tape.trans h.below.tape, hb.output.trans h.below.output, fun k hk => ⟨Nat.lt_of_lt_of_le (h.below.block k hk).1 hb.size, (hb.block k (h.below.block k hk).1).trans (h.below.block k hk).2⟩⟩, ?_, ?_, h.own, h.inj, h.fin⟩
  · intro b o v hc
    have := h.com b o v hc
    exact (cell_block (hb.block b (cell_lt this))).trans this
  · intro id ob l hi hl
    have := h.objs id ob l hi hl
    exact this.of_block (hb.block _ this.lt)
def strsV (ks : List (List UInt8)) : HV := if ks = [] then nilV else .list 1 ks.length (ks.map fun x => .lit (encStr x)) false
theorem keys63 (mid : Nat) : HC Try.prog 63 [.map mid] s (fun v s' => ∃ q, s q = none ∧ v = .func (.func 75) [.ptr q 0] ∧ s' = s.set q (.root [.map mid])) := by
  intro m w cargs hR hn ha
  have h0 := ha 0 _ rfl
  obtain ⟨a0, rfl⟩ : ∃ a0, cargs = #[a0] := by
    match cargs, hn with
    | ⟨[a]⟩, _ => exact ⟨a, rfl⟩
  have h0' : Rep m (.map mid) a0 := h0
  cases h0' with
  | map _ l hl =>
  refine (callsIn_wide.1 (AnyZ.keys_in Try.keys63 Fence.wide 5 trivial rfl (some l.b) w)).mono ?_
  rintro e w' ⟨rfl, rfl⟩
  obtain ⟨N, hN1, hN2, hN3, hnew⟩ := hR.new (.cells #[.map (some l.b)] _) 1
  have hne : N ≠ mid := by rintro rfl; rw [hN2] at hl; cases hl
  obtain ⟨g1, g2⟩ := hnew (.root [.map mid]) ⟨rfl, _, _, _, World.alloc_heap_new w _, by simp, fun j x hj => by
    cases j with
    | zero =>
      simp at hj; subst hj
      exact .map mid l (by simp only [if_neg (Ne.symm hne)]; exact hl)
    | succ j => simp at hj⟩
  refine ⟨_, _, _, _, rfl, g1, g2, Rep.func _ _ _ rfl (fun j x hj => ?_), N, hN1, rfl, rfl⟩
  cases j with
  | zero =>
    simp at hj; subst hj
    exact Rep.ptr N 0 ⟨w.heap.size, 0, 1⟩ (if_pos rfl)
  | succ j => simp at hj
theorem strKeys_mem {es : List (Lit × DataW Unit)} {x : List UInt8} : x ∈ strKeys (.map es) ↔ ∃ p ∈ es, strOf p.1 = x := by simp [strKeys]
theorem sorted62 {q mid n : Nat} {f : Value → Option HV} (hq : s q = some (.root [.map mid])) (hm : s mid = some (.map .string f n)) (hk : ∀ k x, f k = some x → ∃ b : ByteArray, k = .string b ∧ b.size ≤ 140737488355328) (hn : n * 16 ≤ 140737488355328) :
    HC Try.prog 62 [.func (.func 75) [.ptr q 0]] s (fun v s' => ∃ ks : List (List UInt8), ks.Pairwise (fun x y => x ≤ y) ∧ ks.Nodup ∧ (∀ x, x ∈ ks ↔ (f (encStr x)).isSome = true) ∧ ks.length = n ∧ v = strsV ks ∧ s' = s) := by
  intro m w cargs hR hna ha
  have h0 := ha 0 _ rfl
  obtain ⟨a0, rfl⟩ : ∃ a0, cargs = #[a0] := by
    match cargs, hna with
    | ⟨[a]⟩, _ => exact ⟨a, rfl⟩
  have h0' : Rep m (.func (.func 75) [.ptr q 0]) a0 := h0
  cases h0' with
  | func _ _ vs hs hr =>
  obtain ⟨p0, rfl⟩ : ∃ p0, vs = #[p0] := by
    match vs, hs with
    | ⟨[a]⟩, _ => exact ⟨a, rfl⟩
  have hp : Rep m (.ptr q 0) p0 := hr 0 _ rfl
  cases hp with
  | ptr _ _ l hl =>
  obtain ⟨hb0, c, ct, cf, hc1, hc2, hc3⟩ := hR.objs q _ l hq hl
  have hmp : Rep m (.map mid) (c.getD 0 undef) := hc3 0 _ rfl
  have hcell : w.cell? ⟨l.b, 0, none⟩ = some (c.getD 0 undef) := by
    simp only [World.cell?, hc1]
    have : 0 < c.size := hc2
    simp [Array.getD, this]
  generalize c.getD 0 undef = cm at hmp hcell
  cases hmp with
  | map _ l2 hl2 =>
  obtain ⟨es, clock, hh, hes, hst, hik, hf1, hf2⟩ := hR.objs mid _ l2 hm hl2
  have hkey : ∀ e ∈ es.toList, ∃ b : ByteArray, e.key = .string b ∧ b.size ≤ 140737488355328 := fun e he => by
    obtain ⟨x, hx⟩ := Option.isSome_iff_exists.1 (hf2 e he)
    exact hk _ _ hx
  have hrd : ∀ e ∈ es.toList, ∀ b : ByteArray, e.key = .string b → WideElems.rd (H := Unit) Try.prog 9 (fun _ => some (.nil, [])) e = some (.string b.data.toList, .nil) := fun e he b hb => by
    obtain ⟨b', h1, h2⟩ := hkey e he
    rw [hb] at h1
    cases h1
    simp only [WideElems.rd, keyOf, Try.underlying9, mapKey, hb]
    rw [if_pos (by unfold maxLen; omega)]
    rfl
  obtain ⟨D0, hD0⟩ : ∃ D0 : List (Lit × DataW Unit), D0 = (es.toList.map (WideElems.rg Try.prog 9 fun _ => some (.nil, []))).foldr DataW.insert [] := ⟨_, rfl⟩
  have hown : w.ownsMap Try.prog 9 (fun _ => some ((.nil : DataW Unit), [])) l2.b es.size (.map D0) := by
    refine ⟨es, clock, hh, ⟨by unfold maxLen; omega, hst, fun e he => ?_⟩, Nat.le_refl _, by rw [hD0]⟩
    obtain ⟨b, h1, -⟩ := hkey e he
    exact ⟨_, hrd e he b h1⟩
  have hsz : Maps.size (.map D0 : DataW Unit) = n := by
    rw [Maps.size_eq, hD0, length_sorted, List.length_map]
    simpa using hes
  have hmem : ∀ x, x ∈ strKeys (.map D0 : DataW Unit) ↔ (f (encStr x)).isSome = true := fun x => by
    rw [strKeys_mem, hD0]
    constructor
    · rintro ⟨p, hp, rfl⟩
      rw [mem_sorted] at hp
      obtain ⟨e, he, rfl⟩ := List.mem_map.1 hp
      obtain ⟨b, h1, -⟩ := hkey e he
      rw [WideElems.rg_of (hrd e he b h1)]
      have := hf2 e he
      rw [h1] at this
      simpa [strOf, encStr] using this
    · intro hx
      obtain ⟨y, hy⟩ := Option.isSome_iff_exists.1 hx
      obtain ⟨e, he, h1, -⟩ := hf1 _ _ hy
      refine ⟨WideElems.rg Try.prog 9 (fun _ => some (.nil, [])) e, mem_sorted.2 (List.mem_map.2 ⟨e, he, rfl⟩), ?_⟩
      rw [WideElems.rg_of (hrd e he ⟨x.toArray⟩ (by rw [h1]))]
      simp [strOf]
  have hb0' : l.base + 0 = 0 := by rw [hb0]
  rw [hb0']
  refine (callsIn_wide.1 (sorted62_in l.b l2.b es.size _ _ w hcell hown (by rw [hsz]; unfold maxLen; omega) (by rw [hsz]; exact hn))).mono ?_
  rintro e w' ⟨v, ss, rfl, hperm, hrow, hnil, hbel⟩
  have hnd : (strKeys (.map D0 : DataW Unit)).Nodup := by
    obtain ⟨es', e1, e2, -⟩ := hown.entries (string_keyed Try.underlying9)
    cases e1
    have hst : ∀ p ∈ D0, ∃ x, p.1 = .string x := fun p hp => by
      rw [hD0] at hp
      obtain ⟨e, he, rfl⟩ := List.mem_map.1 (mem_sorted.1 hp)
      obtain ⟨b, h1, -⟩ := hkey e he
      rw [WideElems.rg_of (hrd e he b h1)]
      exact ⟨_, rfl⟩
    unfold strKeys List.Nodup
    rw [List.pairwise_map]
    refine List.Pairwise.imp_of_mem ?_ e2
    intro p r hp hr hne he
    obtain ⟨x, hx⟩ := hst p hp
    obtain ⟨y, hy⟩ := hst r hr
    rw [hx, hy] at he hne
    simp only [strOf] at he
    rw [he] at hne
    exact hne rfl
  obtain ⟨ks, hks⟩ : ∃ ks, ks = ss.mergeSort (fun x y => decide (x ≤ y)) := ⟨_, rfl⟩
  rw [← hks] at hrow
  have hperm2 : ks.Perm ss := by rw [hks]; exact List.mergeSort_perm ss _
  have hlen : ks.length = n := by
    rw [(hperm2.trans hperm).length_eq]
    have := hsz
    rw [Maps.size_eq] at this
    simpa [strKeys] using this
  have hsorted : ks.Pairwise (fun x y => x ≤ y) := by
    rw [hks]
    have := List.pairwise_mergeSort (le := fun x y : List UInt8 => decide (x ≤ y)) (fun a b c h1 h2 => by simp only [decide_eq_true_eq] at *; exact List.le_trans h1 h2) (fun a b => by simp only [Bool.or_eq_true, decide_eq_true_eq]; exact List.le_total a b) ss
    exact this.imp fun h => by simpa using h
  have hnd2 : ks.Nodup := (hperm2.trans hperm).nodup_iff.2 hnd
  have hR1 : Rel m s w' := rel_grown hR hbel
  have hssl : ss.length = ks.length := hperm2.length_eq.symm
  rw [hssl] at hrow
  obtain ⟨hr1, hrow⟩ := hrow
  by_cases hnl : ks = []
  · have hv : v = .slice none 0 0 := hnil.2 (by rw [hnl] at hperm2; exact hperm2.symm.eq_nil)
    refine ⟨_, _, s, m, rfl, M.le.refl m, hR1, ?_, ks, hsorted, hnd2, fun x => (hperm2.trans hperm).mem_iff.trans (hmem x), hlen, rfl, rfl⟩
    rw [hv, strsV, if_pos hnl]; exact .lit _
  · rcases hrow with ⟨hv, h0⟩ | ⟨g, cap, cur, hv, hg, hh', hcap, hmx, hcs, htk⟩
    · exact absurd (List.eq_nil_of_length_eq_zero h0) hnl
    · have hg1 : ∀ o v, m.com g o = some v → False := fun o v hc => by
        have := cell_lt (hR.com g o v hc)
        omega
      have hle : M.le m { m with com := fun b o => if b = g then cur[o]? else m.com b o } := by
        refine M.le.mk' rfl rfl (fun b o v hvv => ?_) (fun _ _ h => h) rfl (fun _ _ => rfl)
        show (if b = g then cur[o]? else m.com b o) = some v
        rw [if_neg (fun e => hg1 o v (by rw [← e]; exact hvv))]
        exact hvv
      refine ⟨_, _, s, _, rfl, hle, ⟨hR1.below, fun b o v hvv => ?_, fun id ob l hi hl => (hR1.objs id ob l hi hl).mono hle, fun id ob l hi hl => ⟨(hR1.own id ob l hi hl).1, fun o => ?_⟩, hR1.inj, hR1.fin⟩, ?_, ks, hsorted, hnd2, fun x => (hperm2.trans hperm).mem_iff.trans (hmem x), hlen, rfl, rfl⟩
      · simp only at hvv
        split at hvv
        · rename_i e
          rw [e]
          simp only [World.cell?, hh']
          simpa using hvv
        · exact hR1.com b o v hvv
      · show (if l.b = g then cur[o]? else m.com l.b o) = none
        have := (hR.objs id ob l hi hl).lt
        rw [if_neg (by omega)]
        exact (hR1.own id ob l hi hl).2 o
      · rw [hv, strsV, if_neg hnl]
        have hcur : ∀ j, j < ks.length → cur[j]? = (ks.map encStr)[j]? := fun j hj => by
          rw [← htk, List.getElem?_take, if_pos (by omega)]
          simp
        refine .list 1 ks.length _ false cap g 0 (fun j => cur.getD j undef) hcap (fun h => by cases h) (by simp) (fun x hx => ?_) (fun j hj => ?_) (fun j x hj => ?_)
        · obtain ⟨y, -, rfl⟩ := List.mem_map.1 hx
          rfl
        · have hj' : j < ks.length := by simpa using hj
          show (if g = g then cur[0 + j]? else _) = _
          rw [if_pos rfl, Nat.zero_add]
          have hlt : j < cur.size := by omega
          simp [Array.getD, hlt]
        · rw [List.getElem?_map] at hj
          cases hkj : ks[j]? with
          | none => rw [hkj] at hj; cases hj
          | some y =>
            rw [hkj] at hj
            cases hj
            have hj' : j < ks.length := (List.getElem?_eq_some_iff.1 hkj).1
            have h1 := hcur j hj'
            rw [List.getElem?_map, hkj] at h1
            simp only [Array.getD_eq_getD_getElem?, h1]
            exact .lit _
end Go.Proofs.Ytecnfekcflfihaa.CL
end
section
namespace Go.Proofs.Ytecnfekcflfihaa.C4
open Go.Proofs.Ytecnfekcflfihaa.H
set_option linter.unusedVariables false
set_option maxRecDepth 100000
/-- cordwain/cordwainref10.Records -/
def c28 (a0 : HV) (s : HS) (Q : HV → HS → Prop) : Prop :=
  HLoop (fun y2 s3 K1 => bindO (vLenT (Try.prog.underlying 31) s3 a0) fun x4 => bindO (vBin .lss (y2.tail.headD .junk) x4) fun x5 => hcond x5 (bindO (vIdx 6 a0 (y2.tail.headD .junk)) fun x6 => bindO (vField 5 x6) fun x7 => bindO (vLoad s3 x7 1 false) fun x8 => hAppend s3 6 80 (y2.headD .junk) x8 (fun x9 s10 => bindO (vBin .add (y2.tail.headD .junk) (.lit (.int .i64 1))) fun x11 => K1 [x9, x11] s10)) (Q (y2.headD .junk) s3)) [(.lit (.slice none 0 0)), (.lit (.int .i64 0))] s
theorem c28_eq (a0 : HV) (s : HS) (Q : HV → HS → Prop) : (match Try.f28.body with | some c => hwp Try.prog (fun p => if p = 58 then some [3, 4] else none) false 1 c (hretQ Try.prog Try.f28.results.toList Q) (([a0] : List HV) ++ List.replicate (Try.f28.ntmps - 1) (.lit undef)) s | none => False) = c28 a0 s Q := by kernel_rfl
theorem HC28 {a0 : HV} {s : HS} {Q : HV → HS → Prop} (h : c28 a0 s Q) : HC Try.prog 28 [a0] s Q := HC_by Try.func28 (by have := c28_eq a0 s Q; exact this.mpr h)
end Go.Proofs.Ytecnfekcflfihaa.C4
end
section
namespace Go.Proofs.Ytecnfekcflfihaa.C5
open Go.Proofs.Ytecnfekcflfihaa.H
set_option linter.unusedVariables false
set_option maxRecDepth 100000
/-- cordwain/cordwainref1.SameRecord -/
def c30 (a0 a1 : HV) (s : HS) (Q : HV → HS → Prop) : Prop :=
  hBox s a0 (fun x1 s2 => hBox s2 a1 (fun x3 s4 => bindO (vField 0 x1) fun x5 => bindO (vLoad s4 x5 1 false) fun x6 => bindO (vField 0 x3) fun x7 => bindO (vLoad s4 x7 1 false) fun x8 => bindO (vCmp (Try.prog.underlying 3) .eql x6 x8) fun x9 => hcond x9 (bindO (vField 1 x1) fun x10 => bindO (vLoad s4 x10 1 false) fun x11 => bindO (vField 1 x3) fun x12 => bindO (vLoad s4 x12 1 false) fun x13 => bindO (vCmp (Try.prog.underlying 3) .eql x11 x13) fun x14 => hcond x14 (bindO (vField 2 x1) fun x15 => bindO (vLoad s4 x15 1 false) fun x16 => bindO (vField 2 x3) fun x17 => bindO (vLoad s4 x17 1 false) fun x18 => bindO (vCmp (Try.prog.underlying 4) .eql x16 x18) fun x19 => hcond x19 (bindO (vField 4 x1) fun x20 => bindO (vLoad s4 x20 1 false) fun x21 => bindO (vField 4 x3) fun x22 => bindO (vLoad s4 x22 1 false) fun x23 => bindO (vCmp (Try.prog.underlying 4) .eql x21 x23) fun x24 => hcond x24 (bindO (vField 3 x1) fun x25 => bindO (vLoad s4 x25 1 false) fun x26 => bindO ((if isStrHV x26 then none else vToStr s4 x26)) fun x27 => bindO (vField 3 x3) fun x28 => bindO (vLoad s4 x28 1 false) fun x29 => bindO ((if isStrHV x29 then none else vToStr s4 x29)) fun x30 => bindO (vCmp (Try.prog.underlying 9) .eql x27 x30) fun x31 => hcond x31 (bindO (vField 5 x1) fun x32 => bindO (vLoad s4 x32 1 false) fun x33 => bindO ((if isStrHV x33 then none else vToStr s4 x33)) fun x34 => bindO (vField 5 x3) fun x35 => bindO (vLoad s4 x35 1 false) fun x36 => bindO ((if isStrHV x36 then none else vToStr s4 x36)) fun x37 => bindO (vCmp (Try.prog.underlying 9) .eql x34 x37) fun x38 => Q x38 s4) (Q (.lit (.bool false)) s4)) (Q (.lit (.bool false)) s4)) (Q (.lit (.bool false)) s4)) (Q (.lit (.bool false)) s4)) (Q (.lit (.bool false)) s4)))
theorem c30_eq (a0 a1 : HV) (s : HS) (Q : HV → HS → Prop) : (match Try.f30.body with | some c => hwp Try.prog (fun p => none) false 1 c (hretQ Try.prog Try.f30.results.toList Q) (([a0, a1] : List HV) ++ List.replicate (Try.f30.ntmps - 2) (.lit undef)) s | none => False) = c30 a0 a1 s Q := by kernel_rfl
theorem HC30 {a0 a1 : HV} {s : HS} {Q : HV → HS → Prop} (h : c30 a0 a1 s Q) : HC Try.prog 30 [a0, a1] s Q := HC_by Try.func30 (by have := c30_eq a0 a1 s Q; exact this.mpr h)
/-- cordwain/cordwainref1.SameRecords -/
def c36 (a0 a1 : HV) (s : HS) (Q : HV → HS → Prop) : Prop :=
  bindO (vLenT (Try.prog.underlying 44) s a0) fun x1 => bindO (vLenT (Try.prog.underlying 44) s a1) fun x2 => bindO (vCmp (Try.prog.underlying 3) .neq x1 x2) fun x3 => hcond x3 (Q (.lit (.bool false)) s) (HLoop (fun y5 s6 K4 => bindO (vLenT (Try.prog.underlying 44) s6 a0) fun x7 => bindO (vBin .lss (y5.headD .junk) x7) fun x8 => hcond x8 (bindO (vIdx 6 a0 (y5.headD .junk)) fun x9 => bindO (vLoad s6 x9 6 true) fun x10 => bindO (vIdx 6 a1 (y5.headD .junk)) fun x11 => bindO (vLoad s6 x11 6 true) fun x12 => HC Try.prog 30 [x10, x12] s6 (fun r13 s14 => bindO (vUn .not r13) fun x15 => hcond x15 (Q (.lit (.bool false)) s14) (bindO (vBin .add (y5.headD .junk) (.lit (.int .i64 1))) fun x16 => K4 [x16] s14))) (Q (.lit (.bool true)) s6)) [(.lit (.int .i64 0))] s)
theorem c36_eq (a0 a1 : HV) (s : HS) (Q : HV → HS → Prop) : (match Try.f36.body with | some c => hwp Try.prog (fun p => if p = 58 then some [5] else none) false 1 c (hretQ Try.prog Try.f36.results.toList Q) (([a0, a1] : List HV) ++ List.replicate (Try.f36.ntmps - 2) (.lit undef)) s | none => False) = c36 a0 a1 s Q := by kernel_rfl
theorem HC36 {a0 a1 : HV} {s : HS} {Q : HV → HS → Prop} (h : c36 a0 a1 s Q) : HC Try.prog 36 [a0, a1] s Q := HC_by Try.func36 (by have := c36_eq a0 a1 s Q; exact this.mpr h)
/-- cordwain/cordwainref1.Same -/
def c25 (a0 a1 : HV) (s : HS) (Q : HV → HS → Prop) : Prop :=
  hBox s a0 (fun x1 s2 => hBox s2 a1 (fun x3 s4 => bindO (vField 0 x1) fun x5 => bindO (vLoad s4 x5 1 false) fun x6 => bindO (vField 0 x3) fun x7 => bindO (vLoad s4 x7 1 false) fun x8 => bindO (vCmp (Try.prog.underlying 3) .eql x6 x8) fun x9 => hcond x9 (bindO (vField 1 x1) fun x10 => bindO (vLoad s4 x10 1 false) fun x11 => bindO (vField 1 x3) fun x12 => bindO (vLoad s4 x12 1 false) fun x13 => bindO (vCmp (Try.prog.underlying 3) .eql x11 x13) fun x14 => hcond x14 (bindO (vField 2 x1) fun x15 => bindO (vLoad s4 x15 1 false) fun x16 => bindO (vField 2 x3) fun x17 => bindO (vLoad s4 x17 1 false) fun x18 => bindO (vCmp (Try.prog.underlying 3) .eql x16 x18) fun x19 => hcond x19 (bindO (vField 3 x1) fun x20 => bindO (vLoad s4 x20 1 false) fun x21 => bindO (vField 3 x3) fun x22 => bindO (vLoad s4 x22 1 false) fun x23 => bindO (vCmp (Try.prog.underlying 3) .eql x21 x23) fun x24 => hcond x24 (bindO (vField 4 x1) fun x25 => bindO (vLoad s4 x25 1 false) fun x26 => bindO (vField 4 x3) fun x27 => bindO (vLoad s4 x27 1 false) fun x28 => bindO (vCmp (Try.prog.underlying 3) .eql x26 x28) fun x29 => hcond x29 (bindO (vField 5 x1) fun x30 => bindO (vLoad s4 x30 1 false) fun x31 => bindO (vField 5 x3) fun x32 => bindO (vLoad s4 x32 1 false) fun x33 => HC Try.prog 36 [x31, x33] s4 (fun r34 s35 => Q r34 s35)) (Q (.lit (.bool false)) s4)) (Q (.lit (.bool false)) s4)) (Q (.lit (.bool false)) s4)) (Q (.lit (.bool false)) s4)) (Q (.lit (.bool false)) s4)))
theorem c25_eq (a0 a1 : HV) (s : HS) (Q : HV → HS → Prop) : (match Try.f25.body with | some c => hwp Try.prog (fun p => none) false 1 c (hretQ Try.prog Try.f25.results.toList Q) (([a0, a1] : List HV) ++ List.replicate (Try.f25.ntmps - 2) (.lit undef)) s | none => False) = c25 a0 a1 s Q := by kernel_rfl
theorem HC25 {a0 a1 : HV} {s : HS} {Q : HV → HS → Prop} (h : c25 a0 a1 s Q) : HC Try.prog 25 [a0, a1] s Q := HC_by Try.func25 (by have := c25_eq a0 a1 s Q; exact this.mpr h)
/-- cordwain/cordwainref1.SameBatches -/
def c26 (a0 a1 : HV) (s : HS) (Q : HV → HS → Prop) : Prop :=
  bindO (vLenT (Try.prog.underlying 31) s a0) fun x1 => bindO (vLenT (Try.prog.underlying 31) s a1) fun x2 => bindO (vCmp (Try.prog.underlying 3) .neq x1 x2) fun x3 => hcond x3 (Q (.lit (.bool false)) s) (HLoop (fun y5 s6 K4 => bindO (vLenT (Try.prog.underlying 31) s6 a0) fun x7 => bindO (vBin .lss (y5.headD .junk) x7) fun x8 => hcond x8 (bindO (vIdx 6 a0 (y5.headD .junk)) fun x9 => bindO (vLoad s6 x9 6 true) fun x10 => bindO (vIdx 6 a1 (y5.headD .junk)) fun x11 => bindO (vLoad s6 x11 6 true) fun x12 => HC Try.prog 25 [x10, x12] s6 (fun r13 s14 => bindO (vUn .not r13) fun x15 => hcond x15 (Q (.lit (.bool false)) s14) (bindO (vBin .add (y5.headD .junk) (.lit (.int .i64 1))) fun x16 => K4 [x16] s14))) (Q (.lit (.bool true)) s6)) [(.lit (.int .i64 0))] s)
theorem c26_eq (a0 a1 : HV) (s : HS) (Q : HV → HS → Prop) : (match Try.f26.body with | some c => hwp Try.prog (fun p => if p = 58 then some [5] else none) false 1 c (hretQ Try.prog Try.f26.results.toList Q) (([a0, a1] : List HV) ++ List.replicate (Try.f26.ntmps - 2) (.lit undef)) s | none => False) = c26 a0 a1 s Q := by kernel_rfl
theorem HC26 {a0 a1 : HV} {s : HS} {Q : HV → HS → Prop} (h : c26 a0 a1 s Q) : HC Try.prog 26 [a0, a1] s Q := HC_by Try.func26 (by have := c26_eq a0 a1 s Q; exact this.mpr h)
/-- cordwain/cordwainlaw14.CleanAsks -/
def c3 (a0 a1 a2 a3 : HV) (s : HS) (Q : HV → HS → Prop) : Prop :=
  hBox s a2 (fun x1 s2 => Join (fun K3 => HC Try.prog 13 [a0] s2 (fun r6 s7 => bindO (vUn .not r6) fun x8 => hcond x8 (K3 [(.lit (.bool true))] s7) (bindO (vBin .lss a1 (.lit (.int .i64 0))) fun x9 => hcond x9 (K3 [(.lit (.bool true))] s7) (bindO (vBin .gtr a1 (.lit (.int .i64 4611686018427387904))) fun x10 => hcond x10 (K3 [(.lit (.bool true))] s7) (bindO (vBin .lss a3 (.lit (.int .i64 0))) fun x11 => hcond x11 (K3 [(.lit (.bool true))] s7) (bindO (vBin .gtr a3 (.lit (.int .i64 1125899906842624))) fun x12 => hcond x12 (K3 [(.lit (.bool true))] s7) (bindO (vField 6 x1) fun x13 => bindO (vLoad s7 x13 1 false) fun x14 => bindO (vBin .lss x14 (.lit (.int .i64 0))) fun x15 => hcond x15 (K3 [(.lit (.bool true))] s7) (bindO (vField 6 x1) fun x16 => bindO (vLoad s7 x16 1 false) fun x17 => bindO (vBin .gtr x17 (.lit (.int .i64 1125899906842624))) fun x18 => K3 [x18] s7)))))))) (fun y4 s5 => hcond (y4.headD .junk) (HC Try.prog 14 [] s5 (fun r19 s20 => Q r19 s20)) (bindO (vLoad s5 x1 9 true) fun x21 => HC Try.prog 15 [a0, a1, x21, a3] s5 (fun r22 s23 => bindO (vExtract r22 0) fun x24 => bindO (vExtract r22 1) fun x25 => bindO (vExtract r22 2) fun x26 => bindO (vLoad s23 x1 9 true) fun x27 => HC Try.prog 16 [a0, a1, x27, a3] s23 (fun r28 s29 => bindO (vExtract r28 0) fun x30 => bindO (vExtract r28 1) fun x31 => bindO (vExtract r28 2) fun x32 => HC Try.prog 17 [x24, x30] s29 (fun r33 s34 => hcond r33 (bindO (vCmp (Try.prog.underlying 3) .eql x25 x31) fun x35 => hcond x35 (bindO (vCmp (Try.prog.underlying 3) .eql x26 x32) fun x36 => hcond x36 (HC Try.prog 14 [] s34 (fun r37 s38 => Q r37 s38)) (Q (.lit (.bool false)) s34)) (Q (.lit (.bool false)) s34)) (Q (.lit (.bool false)) s34)))))))
/-- cordwain/cordwainlaw14.all -/
def c29 (a0 : HV) (s : HS) (Q : HV → HS → Prop) : Prop :=
  HLoop (fun y2 s3 K1 => bindO (vLenT (Try.prog.underlying 22) s3 a0) fun x4 => bindO (vBin .lss (y2.tail.headD .junk) x4) fun x5 => hcond x5 (bindO (vIdx 1 a0 (y2.tail.headD .junk)) fun x6 => bindO (vLoad s3 x6 1 false) fun x7 => hAppend s3 6 64 (y2.headD .junk) x7 (fun x8 s9 => bindO (vBin .add (y2.tail.headD .junk) (.lit (.int .i64 1))) fun x10 => K1 [x8, x10] s9)) (Q (y2.headD .junk) s3)) [(.lit (.slice none 0 0)), (.lit (.int .i64 0))] s
theorem c29_eq (a0 : HV) (s : HS) (Q : HV → HS → Prop) : (match Try.f29.body with | some c => hwp Try.prog (fun p => if p = 58 then some [3, 4] else none) false 1 c (hretQ Try.prog Try.f29.results.toList Q) (([a0] : List HV) ++ List.replicate (Try.f29.ntmps - 1) (.lit undef)) s | none => False) = c29 a0 s Q := by kernel_rfl
theorem HC29 {a0 : HV} {s : HS} {Q : HV → HS → Prop} (h : c29 a0 s Q) : HC Try.prog 29 [a0] s Q := HC_by Try.func29 (by have := c29_eq a0 s Q; exact this.mpr h)
/-- cordwain/cordwainlaw14.CleanParts -/
def c4 (a0 a1 a2 a3 a4 a5 a6 : HV) (s : HS) (Q : HV → HS → Prop) : Prop :=
  hBox s a6 (fun x1 s2 => Join (fun K3 => hBS s2 1 1 [.lit (.slice none 0 0)] [(0, a0)] (fun x6 s7 => HC Try.prog 13 [x6] s7 (fun r8 s9 => bindO (vUn .not r8) fun x10 => hcond x10 (K3 [(.lit (.bool true))] s9) (bindO (vBin .lss a4 (.lit (.int .i64 0))) fun x11 => hcond x11 (K3 [(.lit (.bool true))] s9) (bindO (vBin .gtr a4 (.lit (.int .i64 1125899906842624))) fun x12 => hcond x12 (K3 [(.lit (.bool true))] s9) (bindO (vBin .lss a5 (.lit (.int .i64 0))) fun x13 => hcond x13 (K3 [(.lit (.bool true))] s9) (bindO (vBin .gtr a5 (.lit (.int .i64 1125899906842624))) fun x14 => hcond x14 (K3 [(.lit (.bool true))] s9) (bindO (vField 1 x1) fun x15 => bindO (vLoad s9 x15 1 false) fun x16 => bindO (vBin .lss x16 (.lit (.int .i64 0))) fun x17 => hcond x17 (K3 [(.lit (.bool true))] s9) (bindO (vField 1 x1) fun x18 => bindO (vLoad s9 x18 1 false) fun x19 => bindO (vBin .gtr x19 (.lit (.int .i64 1125899906842624))) fun x20 => hcond x20 (K3 [(.lit (.bool true))] s9) (bindO (vField 3 x1) fun x21 => bindO (vLoad s9 x21 1 false) fun x22 => bindO (vLenT (Try.prog.underlying 32) s9 x22) fun x23 => bindO (vField 5 x1) fun x24 => bindO (vLoad s9 x24 1 false) fun x25 => bindO (vLenT (Try.prog.underlying 32) s9 x25) fun x26 => hBS s9 1 1 [.lit (.int .i64 0)] [(0, x26)] (fun x27 s28 => HC Try.prog 18 [x23, x27] s28 (fun r29 s30 => bindO (vBin .gtr r29 (.lit (.int .i64 1000))) fun x31 => K3 [x31] s30)))))))))))) (fun y4 s5 => hcond (y4.headD .junk) (HC Try.prog 14 [] s5 (fun r32 s33 => Q r32 s33)) (HC Try.prog 19 [a0, a1, a2] s5 (fun r34 s35 => bindO (vExtract r34 0) fun x36 => bindO (vExtract r34 1) fun x37 => HC Try.prog 20 [a0, a1, a2] s35 (fun r38 s39 => bindO (vExtract r38 0) fun x40 => bindO (vExtract r38 1) fun x41 => Join (fun K42 => bindO (vCmp (Try.prog.underlying 36) .eql x36 (.lit (.pointer none))) fun x45 => hcond x45 ((vLoad s39 x1 6 true = vLoad s39 x1 6 true ∧ K42 [(.lit (.bool true))] s39)) (bindO (vLoad s39 x1 6 true) fun x46 => bindO (vLoad s39 x1 6 true) fun x47 => HC Try.prog 21 [x46, x36, a3, a4, a5] s39 (fun r48 s49 => (vLoad s49 x1 6 true = vLoad s39 x1 6 true ∧ HC Try.prog 22 [x47, x40, a3, a4, a5] s49 (fun r50 s51 => bindO (vCmp (Try.prog.underlying 4) .neq r48 r50) fun x52 => K42 [x52] s51))))) (fun y43 s44 => hcond (y43.headD .junk) (Q (.lit (.bool false)) s44) (HLoop (fun y54 s55 K53 => bindO (vLenT (Try.prog.underlying 31) s55 a0) fun x56 => bindO (vBin .lss (y54.headD .junk) x56) fun x57 => hcond x57 (bindO (vIdx 6 a0 (y54.headD .junk)) fun x58 => bindO (vLoad s55 x58 6 true) fun x59 => HC Try.prog 23 [x59, x36, a3, a4, a5] s55 (fun r60 s61 => bindO (vExtract r60 0) fun x62 => bindO (vExtract r60 1) fun x63 => hNew s61 (.cells [.lit (.int .i64 0), .lit (.int .i64 0), .lit (.int .i64 0), .lit (.int .i64 0), .lit (.int .i64 0), .lit (.slice none 0 0)]) (fun id => .ptr id 0) (fun x64 s65 => hStore s65 x64 x62 6 (fun s66 => bindO (vBin .add (y54.headD .junk) (.lit (.int .i64 1))) fun x67 => bindO (vSlice 6 a0 (some (y54.headD .junk)) (some x67) none) fun x68 => HC Try.prog 24 [x68, x40, a3, a4, a5] s66 (fun r69 s70 => Join (fun K71 => bindO (vLenT (Try.prog.underlying 31) s70 r69) fun x74 => bindO (vCmp (Try.prog.underlying 3) .eql x74 (.lit (.int .i64 1))) fun x75 => bindO (vCmp (Try.prog.underlying 4) .neq x63 x75) fun x76 => hcond x76 (K71 [(.lit (.bool true))] s70) (hcond x63 (bindO (vLoad s70 x64 6 true) fun x77 => bindO (vIdx 6 r69 (.lit (.int .i64 0))) fun x78 => bindO (vLoad s70 x78 6 true) fun x79 => HC Try.prog 25 [x77, x79] s70 (fun r80 s81 => bindO (vUn .not r80) fun x82 => K71 [x82] s81)) (K71 [(.lit (.bool false))] s70))) (fun y72 s73 => hcond (y72.headD .junk) (Q (.lit (.bool false)) s73) (bindO (vBin .add (y54.headD .junk) (.lit (.int .i64 1))) fun x83 => K53 [x83] s73))))))) (HC Try.prog 27 [a0, x36, a3, a4, a5] s55 (fun r84 s85 => HC Try.prog 24 [a0, x40, a3, a4, a5] s85 (fun r86 s87 => HC Try.prog 26 [r84, r86] s87 (fun r88 s89 => hcond r88 (HC Try.prog 14 [] s89 (fun r90 s91 => Q r90 s91)) (Q (.lit (.bool false)) s89)))))) [(.lit (.int .i64 0))] s44)))))))
end Go.Proofs.Ytecnfekcflfihaa.C5
end
