/- Clean over the H layer: records, batches, and what copies them. -/
import Derived.Test.YtecnfekcflfihaaHB
import Derived.Test.YtecnfekcflfihaaC0
/- Clean over the H layer: records, batches, and what copies them. -/
namespace Go.Proofs.Ytecnfekcflfihaa.CL
open Go.Proofs.Ytecnfekcflfihaa.H Go.Proofs.Ytecnfekcflfihaa.C0
set_option linter.unusedVariables false
set_option linter.unusedSimpArgs false
set_option maxRecDepth 100000
theorem w64 {x : Int} (h : -9223372036854775808 ≤ x) (h' : x < 9223372036854775808) : IntKind.i64.wrap x = x := by rw [IntKind.wrap_i64]; omega
theorem clone_list (l : List Int) (f : Bool) (s : HS) (hb : l.length ≤ 140737488355328) : HC Try.prog 72 [.list 1 l.length (bl l) f] s (fun v s' => v = .list 1 l.length (bl l) false ∧ s' = s) := by
  cases l with
  | nil =>
    refine HC.nilOr (pre := []) (post := []) ?_ ?_
    · refine HC.up (HC72 ?_)
      simp [c72, bindO, hcond, vCmp, vBin, vEq, vUn, vNil, vField, vLoad, takeCells, vIdx, vLenT, vLen, vExtract, hBS, hfill, hNew, hStore, hBox, hc_int, hc_bool, hc_string, hc_slice, hc_nilp, hc_nilm, hc_nilf, hc_agg, hc_list, hc_view, hc_ptr, hc_map, hc_func, ho_int, ho_bool, ho_string, ho_slice, ho_nilp, ho_nilm, ho_nilf, ho_list, ho_view, ho_ptr, ho_map, ho_func, putCells, hAppend, lcells, litCells, isNilS, llen, room, vMk, set_at, Join, vToInt, vSlice, cutAt, intAt, bl_len, bits64, bits64u, bits8, hfold, vMax2, vMin2, Try.underlying3, Try.underlying4, Try.underlying9, Try.underlying22, Try.underlying31, Try.underlying32, Try.underlying36, Try.underlying44, Try.underlying64, Try.underlying80, Try.underlying90, Try.underlying123]
      exact up_lit_nil 1 (le_refl' s)
    · refine HC.up (HC72 ?_)
      simp [c72, bindO, hcond, vCmp, vBin, vEq, vUn, vNil, vField, vLoad, takeCells, vIdx, vLenT, vLen, vExtract, hBS, hfill, hNew, hStore, hBox, hc_int, hc_bool, hc_string, hc_slice, hc_nilp, hc_nilm, hc_nilf, hc_agg, hc_list, hc_view, hc_ptr, hc_map, hc_func, ho_int, ho_bool, ho_string, ho_slice, ho_nilp, ho_nilm, ho_nilf, ho_list, ho_view, ho_ptr, ho_map, ho_func, putCells, hAppend, lcells, litCells, isNilS, llen, room, vMk, set_at, Join, vToInt, vSlice, cutAt, intAt, bl_len, bits64, bits64u, bits8, hfold, vMax2, vMin2, Try.underlying3, Try.underlying4, Try.underlying9, Try.underlying22, Try.underlying31, Try.underlying32, Try.underlying36, Try.underlying44, Try.underlying64, Try.underlying80, Try.underlying90, Try.underlying123]
      intro id hid
      exact up1 (set_at _ _ _) rfl (le_del_new (le_set_new _ (le_refl' s) hid) hid)
  | cons b l =>
    refine HC.up (HC72 ?_)
    simp [c72, bindO, hcond, vCmp, vBin, vEq, vUn, vNil, vField, vLoad, takeCells, vIdx, vLenT, vLen, vExtract, hBS, hfill, hNew, hStore, hBox, hc_int, hc_bool, hc_string, hc_slice, hc_nilp, hc_nilm, hc_nilf, hc_agg, hc_list, hc_view, hc_ptr, hc_map, hc_func, ho_int, ho_bool, ho_string, ho_slice, ho_nilp, ho_nilm, ho_nilf, ho_list, ho_view, ho_ptr, ho_map, ho_func, putCells, hAppend, lcells, litCells, isNilS, llen, room, vMk, set_at, Join, vToInt, vSlice, cutAt, intAt, bl_len, bits64, bits64u, bits8, hfold, vMax2, vMin2, Try.underlying3, Try.underlying4, Try.underlying9, Try.underlying22, Try.underlying31, Try.underlying32, Try.underlying36, Try.underlying44, Try.underlying64, Try.underlying80, Try.underlying90, Try.underlying123]
    intro id hid
    refine ⟨by simp at hb; omega, ?_⟩
    intro id2 h2
    simp only [set_none_iff] at h2
    exact up1 (set_at _ _ _) (by simp [bl_len]) (le_del_new (le_set_new _ (le_set_new _ (le_refl' s) hid) (by simp [set_none_iff, *])) h2.2)
theorem clone_nil (s : HS) : HC Try.prog 72 [.lit (.slice none 0 0)] s (fun v s' => v = .lit (.slice none 0 0) ∧ s' = s) := by
  refine HC72 ?_
  simp [c72, bindO, hcond, vCmp, vBin, vEq, vUn, vNil, vField, vLoad, takeCells, vIdx, vLenT, vLen, vExtract, hBS, hfill, hNew, hStore, hBox, hc_int, hc_bool, hc_string, hc_slice, hc_nilp, hc_nilm, hc_nilf, hc_agg, hc_list, hc_view, hc_ptr, hc_map, hc_func, ho_int, ho_bool, ho_string, ho_slice, ho_nilp, ho_nilm, ho_nilf, ho_list, ho_view, ho_ptr, ho_map, ho_func, putCells, hAppend, lcells, litCells, isNilS, llen, room, vMk, set_at, Join, vToInt, vSlice, cutAt, intAt, bl_len, bits64, bits64u, bits8, hfold, vMax2, vMin2, Try.underlying3, Try.underlying4, Try.underlying9, Try.underlying22, Try.underlying31, Try.underlying32, Try.underlying36, Try.underlying44, Try.underlying64, Try.underlying80, Try.underlying90, Try.underlying123]
/-- Bytes that may be nil. -/
def byV : Option (List Int) → HV
  | none => .lit (.slice none 0 0)
  | some l => .list 1 l.length (bl l) false
def short : Option (List Int) → Prop
  | none => True
  | some l => l.length ≤ 140737488355328
theorem clone (k : Option (List Int)) (s : HS) (hk : short k) : HC Try.prog 72 [byV k] s (fun v s' => v = byV k ∧ s' = s) := by
  cases k with
  | none => exact clone_nil s
  | some l => exact clone_list l false s hk
theorem hc_by (k : Option (List Int)) : hcells (byV k) = some [byV k] := by cases k <;> rfl
theorem ho_by (k : Option (List Int)) : hone (byV k) = true := by cases k <;> rfl
structure Rec where
  off : Int
  time : Int
  hasKey : Bool
  key : Option (List Int)
  hasVal : Bool
  val : Option (List Int)
def recC (r : Rec) : List HV := [.lit (.int .i64 r.off), .lit (.int .i64 r.time), .lit (.bool r.hasKey), byV r.key, .lit (.bool r.hasVal), byV r.val]
theorem recC_len (r : Rec) : (recC r).length = 6 := rfl
theorem ho_recC (r : Rec) : (∀ x ∈ recC r, hone x = true) = True := by
  simp [recC, bindO, hcond, vCmp, vBin, vEq, vUn, vNil, vField, vLoad, takeCells, vIdx, vLenT, vLen, vExtract, hBS, hfill, hNew, hStore, hBox, hc_int, hc_bool, hc_string, hc_slice, hc_nilp, hc_nilm, hc_nilf, hc_agg, hc_list, hc_view, hc_ptr, hc_map, hc_func, ho_int, ho_bool, ho_string, ho_slice, ho_nilp, ho_nilm, ho_nilf, ho_list, ho_view, ho_ptr, ho_map, ho_func, putCells, hAppend, lcells, litCells, isNilS, llen, room, vMk, set_at, Join, vToInt, vSlice, cutAt, intAt, bl_len, bits64, bits64u, bits8, hfold, vMax2, vMin2, Try.underlying3, Try.underlying4, Try.underlying9, Try.underlying22, Try.underlying31, Try.underlying32, Try.underlying36, Try.underlying44, Try.underlying64, Try.underlying80, Try.underlying90, Try.underlying123, ho_by]
theorem hcz (r : Rec) : (recC r).take 6 = recC r := rfl
theorem own (r : Rec) (s : HS) (h1 : short r.key) (h2 : short r.val) : HC Try.prog 58 [.agg (recC r)] s (fun v s' => v = .agg (recC r) ∧ s' = s) := by
  refine HC.weaken (HC58 ?_)
  simp [c58, bindO, hcond, vCmp, vBin, vEq, vUn, vNil, vField, vLoad, takeCells, vIdx, vLenT, vLen, vExtract, hBS, hfill, hNew, hStore, hBox, hc_int, hc_bool, hc_string, hc_slice, hc_nilp, hc_nilm, hc_nilf, hc_agg, hc_list, hc_view, hc_ptr, hc_map, hc_func, ho_int, ho_bool, ho_string, ho_slice, ho_nilp, ho_nilm, ho_nilf, ho_list, ho_view, ho_ptr, ho_map, ho_func, putCells, hAppend, lcells, litCells, isNilS, llen, room, vMk, set_at, Join, vToInt, vSlice, cutAt, intAt, bl_len, bits64, bits64u, bits8, hfold, vMax2, vMin2, Try.underlying3, Try.underlying4, Try.underlying9, Try.underlying22, Try.underlying31, Try.underlying32, Try.underlying36, Try.underlying44, Try.underlying64, Try.underlying80, Try.underlying90, Try.underlying123, recC]
  intro p hp q hq
  have hne := ne_new (set_at s p _) hq
  simp only [set_none_iff] at hq
  obtain ⟨-, hq⟩ := hq
  simp [bindO, hcond, vCmp, vBin, vEq, vUn, vNil, vField, vLoad, takeCells, vIdx, vLenT, vLen, vExtract, hBS, hfill, hNew, hStore, hBox, hc_int, hc_bool, hc_string, hc_slice, hc_nilp, hc_nilm, hc_nilf, hc_agg, hc_list, hc_view, hc_ptr, hc_map, hc_func, ho_int, ho_bool, ho_string, ho_slice, ho_nilp, ho_nilm, ho_nilf, ho_list, ho_view, ho_ptr, ho_map, ho_func, putCells, hAppend, lcells, litCells, isNilS, llen, room, vMk, set_at, Join, vToInt, vSlice, cutAt, intAt, bl_len, bits64, bits64u, bits8, hfold, vMax2, vMin2, Try.underlying3, Try.underlying4, Try.underlying9, Try.underlying22, Try.underlying31, Try.underlying32, Try.underlying36, Try.underlying44, Try.underlying64, Try.underlying80, Try.underlying90, Try.underlying123, set_ne _ _ hne, hc_by, ho_by]
  refine (clone r.key _ h1).mono ?_
  rintro v s1 ⟨rfl, rfl⟩
  simp [bindO, hcond, vCmp, vBin, vEq, vUn, vNil, vField, vLoad, takeCells, vIdx, vLenT, vLen, vExtract, hBS, hfill, hNew, hStore, hBox, hc_int, hc_bool, hc_string, hc_slice, hc_nilp, hc_nilm, hc_nilf, hc_agg, hc_list, hc_view, hc_ptr, hc_map, hc_func, ho_int, ho_bool, ho_string, ho_slice, ho_nilp, ho_nilm, ho_nilf, ho_list, ho_view, ho_ptr, ho_map, ho_func, putCells, hAppend, lcells, litCells, isNilS, llen, room, vMk, set_at, Join, vToInt, vSlice, cutAt, intAt, bl_len, bits64, bits64u, bits8, hfold, vMax2, vMin2, Try.underlying3, Try.underlying4, Try.underlying9, Try.underlying22, Try.underlying31, Try.underlying32, Try.underlying36, Try.underlying44, Try.underlying64, Try.underlying80, Try.underlying90, Try.underlying123, set_ne _ _ hne, hc_by, ho_by]
  refine (clone r.val _ h2).mono ?_
  rintro v s1 ⟨rfl, rfl⟩
  simp [bindO, hcond, vCmp, vBin, vEq, vUn, vNil, vField, vLoad, takeCells, vIdx, vLenT, vLen, vExtract, hBS, hfill, hNew, hStore, hBox, hc_int, hc_bool, hc_string, hc_slice, hc_nilp, hc_nilm, hc_nilf, hc_agg, hc_list, hc_view, hc_ptr, hc_map, hc_func, ho_int, ho_bool, ho_string, ho_slice, ho_nilp, ho_nilm, ho_nilf, ho_list, ho_view, ho_ptr, ho_map, ho_func, putCells, hAppend, lcells, litCells, isNilS, llen, room, vMk, set_at, Join, vToInt, vSlice, cutAt, intAt, bl_len, bits64, bits64u, bits8, hfold, vMax2, vMin2, Try.underlying3, Try.underlying4, Try.underlying9, Try.underlying22, Try.underlying31, Try.underlying32, Try.underlying36, Try.underlying44, Try.underlying64, Try.underlying80, Try.underlying90, Try.underlying123, set_ne _ _ hne, set_ne _ _ (Ne.symm hne), hc_by, ho_by]
  repeat (first | exact le_refl' _ | exact HS.le.trans (by assumption) (by assumption) | assumption | refine le_set_free _ ?_ (by assumption))
-- batches
structure Bat where
  base : Int
  last : Int
  prod : Int
  epoch : Int
  seq : Int
  recs : Option (List Rec)
def recsC (l : List Rec) : List HV := l.flatMap recC
theorem recsC_len (l : List Rec) : (recsC l).length = l.length * 6 := by
  unfold recsC
  induction l with
  | nil => rfl
  | cons x r ih => rw [List.flatMap_cons, List.length_append, ih]; simp [recC]; omega
theorem recsC_app (a b : List Rec) : recsC (a ++ b) = recsC a ++ recsC b := by simp [recsC]
def r0 : Rec := ⟨0, 0, false, none, false, none⟩
theorem recsC_idx : ∀ (l : List Rec) (i : Nat), i < l.length → ((recsC l).drop (i * 6)).take 6 = recC (l.getD i r0)
  | x :: l, 0, _ => rfl
  | x :: l, i + 1, h => by
    have := recsC_idx l i (by simpa using h)
    rw [show recsC (x :: l) = recC x ++ recsC l from rfl, show (i + 1) * 6 = i * 6 + 1 + 1 + 1 + 1 + 1 + 1 by omega]
    simp only [recC, List.cons_append, List.nil_append, List.drop_succ_cons]
    exact this
def recsV : Option (List Rec) → HV
  | none => .lit (.slice none 0 0)
  | some l => .list 6 l.length (recsC l) false
def batC (b : Bat) : List HV := [.lit (.int .i64 b.base), .lit (.int .i64 b.last), .lit (.int .i64 b.prod), .lit (.int .i64 b.epoch), .lit (.int .i64 b.seq), recsV b.recs]
theorem hc_recs (k : Option (List Rec)) : hcells (recsV k) = some [recsV k] := by cases k <;> rfl
theorem ho_recs (k : Option (List Rec)) : hone (recsV k) = true := by cases k <;> rfl
def ShortR (r : Rec) : Prop := short r.key ∧ short r.val
/-- A row of records that grows. -/
def OutR (b t : HS) (p : Nat) (A : HV) (o : List Rec) : Prop :=
  (A = .lit (.slice none 0 0) ∧ o = []) ∨ ∃ q, b q = none ∧ q ≠ p ∧ A = .view q 0 6 o.length false ∧ t q = some (.cells (recsC o)) ∧ o ≠ []
theorem OutR.keep {b t t' : HS} {p : Nat} {A : HV} {o : List Rec} (h : OutR b t p A o) (hk : ∀ q ob, q ≠ p → t q = some ob → t' q = some ob) : OutR b t' p A o := by
  rcases h with h | ⟨q, h1, h2, h3, h4, h5⟩
  · exact .inl h
  · exact .inr ⟨q, h1, h2, h3, hk _ _ h2 h4, h5⟩
theorem OutR.one {b t : HS} {p : Nat} {A : HV} {o : List Rec} (h : OutR b t p A o) : hone A = true ∧ hcells A = some [A] := by
  rcases h with ⟨rfl, -⟩ | ⟨q, -, -, rfl, -, -⟩ <;> exact ⟨rfl, rfl⟩
theorem outR_append {b t : HS} {p : Nat} {A : HV} {o : List Rec} {r : Rec} {ob : HObj} {W : HS → Prop} {K : HV → HS → Prop} (h : OutR b t p A o) (hb : HS.le b t) (hp : b p = none) (hr : t p = some ob) (hl : o.length ≤ 100000)
    (hW : ∀ s, s p = some ob → W s) (hK : ∀ A' t', OutR b t' p A' (o ++ [r]) → HS.le b t' → t' p = some ob → K A' t') :
    hBS t 6 1 [.lit (.int .i64 0), .lit (.int .i64 0), .lit (.bool false), .lit (.slice none 0 0), .lit (.bool false), .lit (.slice none 0 0)] [(0, .agg (recC r))] (fun x s => (W s ∧ hAppend s 6 80 A x K)) := by
  have e6 : (recC r).length = 6 := rfl
  simp [bindO, hcond, vCmp, vBin, vEq, vUn, vNil, vField, vLoad, takeCells, vIdx, vLenT, vLen, vExtract, hBS, hfill, hNew, hStore, hBox, hc_int, hc_bool, hc_string, hc_slice, hc_nilp, hc_nilm, hc_nilf, hc_agg, hc_list, hc_view, hc_ptr, hc_map, hc_func, ho_int, ho_bool, ho_string, ho_slice, ho_nilp, ho_nilm, ho_nilf, ho_list, ho_view, ho_ptr, ho_map, ho_func, putCells, hAppend, lcells, litCells, isNilS, llen, room, vMk, set_at, Join, vToInt, vSlice, cutAt, intAt, bl_len, bits64, bits64u, bits8, hfold, vMax2, vMin2, Try.underlying3, Try.underlying4, Try.underlying9, Try.underlying22, Try.underlying31, Try.underlying32, Try.underlying36, Try.underlying44, Try.underlying64, Try.underlying80, Try.underlying90, Try.underlying123, e6]
  intro i1 f1
  have n1 := ne_new hr f1
  have et : (recC r).take 6 = recC r := rfl
  refine ⟨hW _ (by rw [set_ne _ _ n1]; exact hr), ?_⟩
  rcases h with ⟨rfl, rfl⟩ | ⟨q, h1, h2, rfl, h3, -⟩
  · simp [bindO, hcond, vCmp, vBin, vEq, vUn, vNil, vField, vLoad, takeCells, vIdx, vLenT, vLen, vExtract, hBS, hfill, hNew, hStore, hBox, hc_int, hc_bool, hc_string, hc_slice, hc_nilp, hc_nilm, hc_nilf, hc_agg, hc_list, hc_view, hc_ptr, hc_map, hc_func, ho_int, ho_bool, ho_string, ho_slice, ho_nilp, ho_nilm, ho_nilf, ho_list, ho_view, ho_ptr, ho_map, ho_func, putCells, hAppend, lcells, litCells, isNilS, llen, room, vMk, set_at, Join, vToInt, vSlice, cutAt, intAt, bl_len, bits64, bits64u, bits8, hfold, vMax2, vMin2, Try.underlying3, Try.underlying4, Try.underlying9, Try.underlying22, Try.underlying31, Try.underlying32, Try.underlying36, Try.underlying44, Try.underlying64, Try.underlying80, Try.underlying90, Try.underlying123, e6, et]
    intro i2 f2
    simp only [set_none_iff] at f2
    have n2 := ne_new hr f2.2
    refine hK _ _ (.inr ⟨i2, none_of_le hb f2.2, Ne.symm n2, rfl, ?_, by simp⟩) (le_set_new _ (le_set_new _ hb f1) (by rw [set_none_iff]; exact f2)) ?_
    · rw [set_at]; simp [recsC]
    · rw [set_ne _ _ n2, set_ne _ _ n1]; exact hr
  · have m1 := ne_new h3 f1
    have el : (recsC o).length = o.length * 6 := recsC_len o
    simp [bindO, hcond, vCmp, vBin, vEq, vUn, vNil, vField, vLoad, takeCells, vIdx, vLenT, vLen, vExtract, hBS, hfill, hNew, hStore, hBox, hc_int, hc_bool, hc_string, hc_slice, hc_nilp, hc_nilm, hc_nilf, hc_agg, hc_list, hc_view, hc_ptr, hc_map, hc_func, ho_int, ho_bool, ho_string, ho_slice, ho_nilp, ho_nilm, ho_nilf, ho_list, ho_view, ho_ptr, ho_map, ho_func, putCells, hAppend, lcells, litCells, isNilS, llen, room, vMk, set_at, Join, vToInt, vSlice, cutAt, intAt, bl_len, bits64, bits64u, bits8, hfold, vMax2, vMin2, Try.underlying3, Try.underlying4, Try.underlying9, Try.underlying22, Try.underlying31, Try.underlying32, Try.underlying36, Try.underlying44, Try.underlying64, Try.underlying80, Try.underlying90, Try.underlying123, set_ne _ _ m1, h3, el, e6, et]
    refine ⟨by omega, fun i2 f2 => ?_⟩
    simp only [set_none_iff] at f2
    have n2 := ne_new hr f2.2
    have m2 := ne_new h3 f2.2
    refine hK _ _ (.inr ⟨i2, none_of_le hb f2.2, Ne.symm n2, by simp, ?_, by simp⟩) ?_ ?_
    · rw [set_at, recsC_app]; simp [recsC]
    · intro k ob hk
      have hkq : k ≠ q := by rintro rfl; rw [h1] at hk; cases hk
      have hk1 := hb k ob hk
      rw [set_ne _ _ (ne_new hk1 f2.2), del_ne _ hkq, set_ne _ _ (ne_new hk1 f1)]
      exact hk1
    · rw [set_ne _ _ n2, del_ne _ (Ne.symm h2), set_ne _ _ n1]; exact hr
theorem far (n : Int) (s : HS) : HC Try.prog 55 [.lit (.int .i64 n)] s (fun v s' => v = .lit (.int .i64 (min (max n (-2305843009213693952)) 2305843009213693952)) ∧ s' = s) := by
  refine HC55 ?_
  simp [c55, bindO, hcond, vCmp, vBin, vEq, vUn, vNil, vField, vLoad, takeCells, vIdx, vLenT, vLen, vExtract, hBS, hfill, hNew, hStore, hBox, hc_int, hc_bool, hc_string, hc_slice, hc_nilp, hc_nilm, hc_nilf, hc_agg, hc_list, hc_view, hc_ptr, hc_map, hc_func, ho_int, ho_bool, ho_string, ho_slice, ho_nilp, ho_nilm, ho_nilf, ho_list, ho_view, ho_ptr, ho_map, ho_func, putCells, hAppend, lcells, litCells, isNilS, llen, room, vMk, set_at, Join, vToInt, vSlice, cutAt, intAt, bl_len, bits64, bits64u, bits8, hfold, vMax2, vMin2, Try.underlying3, Try.underlying4, Try.underlying9, Try.underlying22, Try.underlying31, Try.underlying32, Try.underlying36, Try.underlying44, Try.underlying64, Try.underlying80, Try.underlying90, Try.underlying123]
  omega
theorem take_succ' {α : Type} (z : α) (l : List α) {i : Nat} (h : i < l.length) : l.take (i + 1) = l.take i ++ [l.getD i z] := by
  rw [List.take_succ_eq_append_getElem h]
  simp [List.getD, h]
theorem drop_cons' {α : Type} (z : α) (l : List α) {i : Nat} (h : i < l.length) : l.drop i = l.getD i z :: l.drop (i + 1) := by
  rw [List.drop_eq_getElem_cons h]
  simp [List.getD, h]
/-- A batch's own copy. -/
theorem copy (b : Bat) (l : List Rec) (s : HS) (hb : b.recs = some l) (hl : l.length ≤ 100000) (hs : ∀ r ∈ l, ShortR r) (hne : l ≠ []) : HC Try.prog 47 [.agg (batC b)] s (fun v s' => v = .agg (batC b) ∧ s' = s) := by
  obtain ⟨c0, c1, c2, c3, c4, recs⟩ := b
  simp only at hb
  subst hb
  refine HC.up (HC47 ?_)
  simp [c47, bindO, hcond, vCmp, vBin, vEq, vUn, vNil, vField, vLoad, takeCells, vIdx, vLenT, vLen, vExtract, hNew, hStore, hBox, hc_int, hc_bool, hc_string, hc_slice, hc_nilp, hc_nilm, hc_nilf, hc_agg, hc_list, hc_view, hc_ptr, hc_map, hc_func, ho_int, ho_bool, ho_string, ho_slice, ho_nilp, ho_nilm, ho_nilf, ho_list, ho_view, ho_ptr, ho_map, ho_func, putCells, lcells, litCells, isNilS, llen, room, vMk, set_at, Join, vToInt, vSlice, cutAt, intAt, bl_len, bits64, bits64u, bits8, hfold, vMax2, vMin2, Try.underlying3, Try.underlying4, Try.underlying9, Try.underlying22, Try.underlying31, Try.underlying32, Try.underlying36, Try.underlying44, Try.underlying64, Try.underlying80, Try.underlying90, Try.underlying123, recC_len, ho_recC, hcz, batC, recsV]
  intro p hp q hq
  have hpq := ne_new (set_at s p _) hq
  simp only [set_none_iff] at hq
  obtain ⟨-, hq⟩ := hq
  simp [bindO, hcond, vCmp, vBin, vEq, vUn, vNil, vField, vLoad, takeCells, vIdx, vLenT, vLen, vExtract, hNew, hStore, hBox, hc_int, hc_bool, hc_string, hc_slice, hc_nilp, hc_nilm, hc_nilf, hc_agg, hc_list, hc_view, hc_ptr, hc_map, hc_func, ho_int, ho_bool, ho_string, ho_slice, ho_nilp, ho_nilm, ho_nilf, ho_list, ho_view, ho_ptr, ho_map, ho_func, putCells, lcells, litCells, isNilS, llen, room, vMk, set_at, Join, vToInt, vSlice, cutAt, intAt, bl_len, bits64, bits64u, bits8, hfold, vMax2, vMin2, Try.underlying3, Try.underlying4, Try.underlying9, Try.underlying22, Try.underlying31, Try.underlying32, Try.underlying36, Try.underlying44, Try.underlying64, Try.underlying80, Try.underlying90, Try.underlying123, recC_len, ho_recC, hcz, set_ne _ _ hpq]
  obtain ⟨Z, hZ⟩ : ∃ Z, HObj.cells [.lit (.int .i64 0), .lit (.int .i64 0), .lit (.int .i64 0), .lit (.int .i64 0), .lit (.int .i64 0), .lit (.slice none 0 0)] = Z := ⟨_, rfl⟩
  rw [hZ]
  have hbp : (s.set q Z) p = none := by rw [set_ne _ _ hpq]; exact hp
  have hsb : HS.le s (s.set q Z) := le_set_new _ (le_refl' s) hq
  have hcut : (recsC l).take (l.length * 6) = recsC l := List.take_of_length_le (by rw [recsC_len]; exact Nat.le_refl _)
  refine HLoop.ghost (σ := HV × Nat) (fun g => [.lit (.int .i64 g.2)]) (fun g t => g.2 ≤ l.length ∧ HS.le (s.set q Z) t ∧ t p = some (.cells [.lit (.int .i64 c0), .lit (.int .i64 c1), .lit (.int .i64 c2), .lit (.int .i64 c3), .lit (.int .i64 c4), g.1]) ∧ OutR (s.set q Z) t p g.1 (l.take g.2)) (fun g => l.length - g.2) (.lit (.slice none 0 0), 0) rfl ?_ ?_
  · refine ⟨Nat.zero_le _, ?_, by rw [set_at], .inl ⟨rfl, rfl⟩⟩
    exact le_set_free _ (le_set (le_set_new _ (le_refl' s) hp) _ _) hbp
  · rintro ⟨A, i⟩ t K ⟨hi, hst, htp, ho⟩ hK
    simp only at hi hst htp ho
    by_cases hlt : i < l.length
    · have hlt' : (i : Int) < (l.length : Int) := by omega
      have hix := recsC_idx l i hlt
      have hts := take_succ' r0 l hlt
      have hsm := hs (l.getD i r0) (by rw [List.getD, List.getElem?_eq_getElem hlt]; exact List.getElem_mem hlt)
      generalize l.getD i r0 = x at *
      simp [bindO, hcond, vCmp, vBin, vEq, vUn, vNil, vField, vLoad, takeCells, vIdx, vLenT, vLen, vExtract, hNew, hStore, hBox, hc_int, hc_bool, hc_string, hc_slice, hc_nilp, hc_nilm, hc_nilf, hc_agg, hc_list, hc_view, hc_ptr, hc_map, hc_func, ho_int, ho_bool, ho_string, ho_slice, ho_nilp, ho_nilm, ho_nilf, ho_list, ho_view, ho_ptr, ho_map, ho_func, putCells, lcells, litCells, isNilS, llen, room, vMk, set_at, Join, vToInt, vSlice, cutAt, intAt, bl_len, bits64, bits64u, bits8, hfold, vMax2, vMin2, Try.underlying3, Try.underlying4, Try.underlying9, Try.underlying22, Try.underlying31, Try.underlying32, Try.underlying36, Try.underlying44, Try.underlying64, Try.underlying80, Try.underlying90, Try.underlying123, recC_len, ho_recC, hcz, hlt', hlt, hix]
      intro X hX
      have nX := ne_new htp hX
      simp [bindO, hcond, vCmp, vBin, vEq, vUn, vNil, vField, vLoad, takeCells, vIdx, vLenT, vLen, vExtract, hNew, hStore, hBox, hc_int, hc_bool, hc_string, hc_slice, hc_nilp, hc_nilm, hc_nilf, hc_agg, hc_list, hc_view, hc_ptr, hc_map, hc_func, ho_int, ho_bool, ho_string, ho_slice, ho_nilp, ho_nilm, ho_nilf, ho_list, ho_view, ho_ptr, ho_map, ho_func, putCells, lcells, litCells, isNilS, llen, room, vMk, set_at, Join, vToInt, vSlice, cutAt, intAt, bl_len, bits64, bits64u, bits8, hfold, vMax2, vMin2, Try.underlying3, Try.underlying4, Try.underlying9, Try.underlying22, Try.underlying31, Try.underlying32, Try.underlying36, Try.underlying44, Try.underlying64, Try.underlying80, Try.underlying90, Try.underlying123, recC_len, ho_recC, hcz, htp, set_ne _ _ nX]
      rw [set_set]
      refine (own x _ hsm.1 hsm.2).mono ?_
      rintro v s1 ⟨rfl, rfl⟩
      simp [bindO, hcond, vCmp, vBin, vEq, vUn, vNil, vField, vLoad, takeCells, vIdx, vLenT, vLen, vExtract, hNew, hStore, hBox, hc_int, hc_bool, hc_string, hc_slice, hc_nilp, hc_nilm, hc_nilf, hc_agg, hc_list, hc_view, hc_ptr, hc_map, hc_func, ho_int, ho_bool, ho_string, ho_slice, ho_nilp, ho_nilm, ho_nilf, ho_list, ho_view, ho_ptr, ho_map, ho_func, putCells, lcells, litCells, isNilS, llen, room, vMk, set_at, Join, vToInt, vSlice, cutAt, intAt, bl_len, bits64, bits64u, bits8, hfold, vMax2, vMin2, Try.underlying3, Try.underlying4, Try.underlying9, Try.underlying22, Try.underlying31, Try.underlying32, Try.underlying36, Try.underlying44, Try.underlying64, Try.underlying80, Try.underlying90, Try.underlying123, recC_len, ho_recC, hcz, htp, set_ne _ _ nX]
      refine outR_append (b := s.set q Z) (p := p) (o := l.take i) (r := x) (ob := _) ?_ (le_set_new _ hst hX) hbp (by rw [set_ne _ _ nX]; exact htp) (by rw [List.length_take]; omega) ?_ ?_
      · exact ho.keep fun k ob _ h => by rw [set_ne _ _ (ne_new h hX)]; exact h
      · intro s2 h2
        simp [h2]
      · intro A' t' h1 h2 h3
        have ho1 := h1.one
        simp [bindO, hcond, vCmp, vBin, vEq, vUn, vNil, vField, vLoad, takeCells, vIdx, vLenT, vLen, vExtract, hNew, hStore, hBox, hc_int, hc_bool, hc_string, hc_slice, hc_nilp, hc_nilm, hc_nilf, hc_agg, hc_list, hc_view, hc_ptr, hc_map, hc_func, ho_int, ho_bool, ho_string, ho_slice, ho_nilp, ho_nilm, ho_nilf, ho_list, ho_view, ho_ptr, ho_map, ho_func, putCells, lcells, litCells, isNilS, llen, room, vMk, set_at, Join, vToInt, vSlice, cutAt, intAt, bl_len, bits64, bits64u, bits8, hfold, vMax2, vMin2, Try.underlying3, Try.underlying4, Try.underlying9, Try.underlying22, Try.underlying31, Try.underlying32, Try.underlying36, Try.underlying44, Try.underlying64, Try.underlying80, Try.underlying90, Try.underlying123, recC_len, ho_recC, hcz, h3, ho1.1, ho1.2]
        refine hK (A', i + 1) _ _ (by rw [w64 (by omega) (by omega)]; rfl) ⟨hlt, le_set_free _ h2 hbp, set_at _ _ _, ?_⟩ (by show l.length - (i + 1) < l.length - i; omega)
        rw [hts]
        exact h1.keep fun k ob hk h => by rw [set_ne _ _ hk]; exact h
    · obtain rfl : i = l.length := by omega
      rw [List.take_length] at ho
      have htq : t q = some Z := hst q Z (set_at _ _ _)
      rw [← hZ] at htq
      have ho1 := ho.one
      simp [bindO, hcond, vCmp, vBin, vEq, vUn, vNil, vField, vLoad, takeCells, vIdx, vLenT, vLen, vExtract, hNew, hStore, hBox, hc_int, hc_bool, hc_string, hc_slice, hc_nilp, hc_nilm, hc_nilf, hc_agg, hc_list, hc_view, hc_ptr, hc_map, hc_func, ho_int, ho_bool, ho_string, ho_slice, ho_nilp, ho_nilm, ho_nilf, ho_list, ho_view, ho_ptr, ho_map, ho_func, putCells, lcells, litCells, isNilS, llen, room, vMk, set_at, Join, vToInt, vSlice, cutAt, intAt, bl_len, bits64, bits64u, bits8, hfold, vMax2, vMin2, Try.underlying3, Try.underlying4, Try.underlying9, Try.underlying22, Try.underlying31, Try.underlying32, Try.underlying36, Try.underlying44, Try.underlying64, Try.underlying80, Try.underlying90, Try.underlying123, recC_len, ho_recC, hcz, htp, htq, ho1.1, ho1.2]
      rcases ho with ⟨rfl, rfl⟩ | ⟨k, g1, g2, rfl, g3, -⟩
      · exact absurd rfl hne
      · have hkq : k ≠ q := by rintro rfl; rw [set_at] at g1; cases g1
        have hks : s k = none := none_of_le hsb g1
        have hu := UpL.frzD (xs := [.agg [.lit (.int .i64 c0), .lit (.int .i64 c1), .lit (.int .i64 c2), .lit (.int .i64 c3), .lit (.int .i64 c4), .view k 0 6 l.length false]]) (s := t.set q (.cells [.lit (.int .i64 c0), .lit (.int .i64 c1), .lit (.int .i64 c2), .lit (.int .i64 c3), .lit (.int .i64 c4), .view k 0 6 l.length false])) (s' := s) (by rw [set_ne _ _ hkq]; exact g3) (le_set_free _ (HS.le.trans hsb hst) hq) hks
        simpa [frz2, frz1, frz0, phi, recsC_len, hcut] using hu
end Go.Proofs.Ytecnfekcflfihaa.CL

/- Clean over the H layer: the map of keys. -/
namespace Go.Proofs.Ytecnfekcflfihaa.CL
open Go.Proofs.Ytecnfekcflfihaa.H Go.Proofs.Ytecnfekcflfihaa.C0
set_option linter.unusedVariables false
set_option linter.unusedSimpArgs false
set_option maxRecDepth 100000

def keyB (k : Option (List Int)) : List UInt8 := (k.getD []).map fun n => UInt8.ofNat n.toNat
def kv (k : Option (List Int)) : Value := .string ⟨(keyB k).toArray⟩
theorem bytesOf_bl : ∀ l : List Int, bytesOf (bl l) = some (l.map fun n => UInt8.ofNat n.toNat)
  | [] => rfl
  | x :: l => by
    have := bytesOf_bl l
    unfold bytesOf bl at *
    simp [byteOfHV, this]
theorem toStr_by (s : HS) (k : Option (List Int)) : vToStr s (byV k) = some (.lit (kv k)) := by
  cases k with
  | none => rfl
  | some l =>
    simp only [vToStr, byV, lcells, if_true, Option.bind_some, bytesOf_bl, Option.map_some]
    rfl
theorem isStr_by (k : Option (List Int)) : isStrHV (byV k) = false := by cases k <;> rfl
theorem keyIs_kv (k : Option (List Int)) : keyIs .string (kv k) = true := rfl
theorem sameKey_str : sameKey .string .string = true := rfl
/-- A map of keys. -/
def mapO (M : Value → Option Int) (n : Nat) : HObj := .map .string (fun k => (M k).map fun x => .lit (.int .i64 x)) n
open Classical in
noncomputable def put (M : Value → Option Int) (k : Value) (x : Int) : Value → Option Int := fun q => if q = k then some x else M q
theorem mapO_put (M : Value → Option Int) (k : Value) (x : Int) (n : Nat) : HObj.map .string (fput (fun k => (M k).map fun x => .lit (.int .i64 x)) k (some (.lit (.int .i64 x)))) n = mapO (put M k x) n := by
  unfold mapO put fput
  congr
  funext q
  split <;> rfl
def kmO (most : Int) (mid : Nat) : HObj := .cells [.lit (.int .i64 most), .map mid]
/-- A keymap at p. -/
def IsKM (s : HS) (p mid : Nat) (most : Int) (M : Value → Option Int) (n : Nat) : Prop := s p = some (kmO most mid) ∧ s mid = some (mapO M n)
theorem len {s : HS} {p mid : Nat} {most : Int} {M : Value → Option Int} {n : Nat} (h : IsKM s p mid most M n) : HC Try.prog 50 [.ptr p 0] s (fun v s' => v = .lit (.int .i64 n) ∧ s' = s) := by
  refine HC50 ?_
  have h1 := h.1
  have h2 := h.2
  simp only [kmO, mapO] at h1 h2
  simp [c50, bindO, hcond, vCmp, vBin, vEq, vUn, vNil, vField, vLoad, takeCells, vIdx, vLenT, vLen, vExtract, hBS, hfill, hNew, hStore, hBox, hc_int, hc_bool, hc_string, hc_slice, hc_nilp, hc_nilm, hc_nilf, hc_agg, hc_list, hc_view, hc_ptr, hc_map, hc_func, ho_int, ho_bool, ho_string, ho_slice, ho_nilp, ho_nilm, ho_nilf, ho_list, ho_view, ho_ptr, ho_map, ho_func, putCells, hAppend, lcells, litCells, isNilS, llen, room, vMk, set_at, Join, vToInt, vSlice, cutAt, intAt, bl_len, bits64, bits64u, bits8, hfold, vMax2, vMin2, Try.underlying3, Try.underlying4, Try.underlying9, Try.underlying22, Try.underlying31, Try.underlying32, Try.underlying36, Try.underlying44, Try.underlying64, Try.underlying80, Try.underlying90, Try.underlying123, h1, h2]
theorem last {s : HS} {p mid : Nat} {most : Int} {M : Value → Option Int} {n : Nat} (h : IsKM s p mid most M n) (k : Option (List Int)) :
    HC Try.prog 54 [.ptr p 0, byV k] s (fun v s' => v = .tup [.lit (.int .i64 ((M (kv k)).getD 0)), .lit (.bool (M (kv k)).isSome)] ∧ s' = s) := by
  refine HC54 ?_
  have h1 := h.1
  have h2 := h.2
  simp only [kmO, mapO] at h1 h2
  have h3 := toStr_by s k
  have h4 := isStr_by k
  have h5 := keyIs_kv k
  generalize kv k = K at *
  generalize byV k = B at *
  simp [c54, bindO, hcond, vCmp, vBin, vEq, vUn, vNil, vField, vLoad, takeCells, vIdx, vLenT, vLen, vExtract, hBS, hfill, hNew, hStore, hBox, hc_int, hc_bool, hc_string, hc_slice, hc_nilp, hc_nilm, hc_nilf, hc_agg, hc_list, hc_view, hc_ptr, hc_map, hc_func, ho_int, ho_bool, ho_string, ho_slice, ho_nilp, ho_nilm, ho_nilf, ho_list, ho_view, ho_ptr, ho_map, ho_func, putCells, hAppend, lcells, litCells, isNilS, llen, room, vMk, set_at, Join, vToInt, vSlice, cutAt, intAt, bl_len, bits64, bits64u, bits8, hfold, vMax2, vMin2, Try.underlying3, Try.underlying4, Try.underlying9, Try.underlying22, Try.underlying31, Try.underlying32, Try.underlying36, Try.underlying44, Try.underlying64, Try.underlying80, Try.underlying90, Try.underlying123, h1, h2, h3, h4, vLookup, h5, sameKey_str]
theorem new (most : Int) (s : HS) (h1 : 1 ≤ most) (h2 : most ≤ 1000000) : HC Try.prog 49 [.lit (.int .i64 most)] s (fun v s' => ∃ p mid, s p = none ∧ s mid = none ∧ v = .tup [.ptr p 0, .lit (.int .i64 0)] ∧ HS.le s s' ∧ IsKM s' p mid most (fun _ => none) 0) := by
  refine HC49 ?_
  have e1 : ¬ most < 1 := by omega
  have e2 : ¬ 1000000 < most := by omega
  simp [c49, bindO, hcond, vCmp, vBin, vEq, vUn, vNil, vField, vLoad, takeCells, vIdx, vLenT, vLen, vExtract, hBS, hfill, hNew, hStore, hBox, hc_int, hc_bool, hc_string, hc_slice, hc_nilp, hc_nilm, hc_nilf, hc_agg, hc_list, hc_view, hc_ptr, hc_map, hc_func, ho_int, ho_bool, ho_string, ho_slice, ho_nilp, ho_nilm, ho_nilf, ho_list, ho_view, ho_ptr, ho_map, ho_func, putCells, hAppend, lcells, litCells, isNilS, llen, room, vMk, set_at, Join, vToInt, vSlice, cutAt, intAt, bl_len, bits64, bits64u, bits8, hfold, vMax2, vMin2, Try.underlying3, Try.underlying4, Try.underlying9, Try.underlying22, Try.underlying31, Try.underlying32, Try.underlying36, Try.underlying44, Try.underlying64, Try.underlying80, Try.underlying90, Try.underlying123, e1, e2]
  intro mid hm p hp
  have hne := ne_new (set_at s mid _) hp
  have hp' := hp
  simp only [set_none_iff] at hp'
  exact ⟨p, hp'.2, mid, hm, rfl, le_set_new _ (le_set_new _ (le_refl' s) hm) hp, set_at _ _ _, by rw [set_ne _ _ hne, set_at]; rfl⟩
theorem offer {s : HS} {p mid : Nat} {most : Int} {M : Value → Option Int} {n : Nat} (h : IsKM s p mid most M n) (k : Option (List Int)) (x : Int) (hroom : (n : Int) < most ∨ (M (kv k)).isSome = true) :
    HC Try.prog 52 [.ptr p 0, byV k, .lit (.int .i64 x)] s (fun v s' => v = .lit (.bool true) ∧ s' = s.set mid (mapO (put M (kv k) (match M (kv k) with | some y => max x y | none => x)) (if (M (kv k)).isSome then n else n + 1))) := by
  refine HC52 ?_
  have h1 := h.1
  have h2 := h.2
  simp only [kmO, mapO] at h1 h2
  have h3 := toStr_by s k
  have h4 := isStr_by k
  have h5 := keyIs_kv k
  have h6 := mapO_put M (kv k)
  generalize kv k = K at *
  generalize byV k = B at *
  cases hM : M K with
  | none =>
    have hr : ¬ most ≤ (n : Int) := by rcases hroom with h | h; omega; rw [hM] at h; cases h
    simp [c52, bindO, hcond, vCmp, vBin, vEq, vUn, vNil, vField, vLoad, takeCells, vIdx, vLenT, vLen, vExtract, hBS, hfill, hNew, hStore, hBox, hc_int, hc_bool, hc_string, hc_slice, hc_nilp, hc_nilm, hc_nilf, hc_agg, hc_list, hc_view, hc_ptr, hc_map, hc_func, ho_int, ho_bool, ho_string, ho_slice, ho_nilp, ho_nilm, ho_nilf, ho_list, ho_view, ho_ptr, ho_map, ho_func, putCells, hAppend, lcells, litCells, isNilS, llen, room, vMk, set_at, Join, vToInt, vSlice, cutAt, intAt, bl_len, bits64, bits64u, bits8, hfold, vMax2, vMin2, Try.underlying3, Try.underlying4, Try.underlying9, Try.underlying22, Try.underlying31, Try.underlying32, Try.underlying36, Try.underlying44, Try.underlying64, Try.underlying80, Try.underlying90, Try.underlying123, h1, h2, h3, h4, vLookup, hMapSet, h5, sameKey_str, hM, hr]
    rw [h6]
  | some y =>
    simp [c52, bindO, hcond, vCmp, vBin, vEq, vUn, vNil, vField, vLoad, takeCells, vIdx, vLenT, vLen, vExtract, hBS, hfill, hNew, hStore, hBox, hc_int, hc_bool, hc_string, hc_slice, hc_nilp, hc_nilm, hc_nilf, hc_agg, hc_list, hc_view, hc_ptr, hc_map, hc_func, ho_int, ho_bool, ho_string, ho_slice, ho_nilp, ho_nilm, ho_nilf, ho_list, ho_view, ho_ptr, ho_map, ho_func, putCells, hAppend, lcells, litCells, isNilS, llen, room, vMk, set_at, Join, vToInt, vSlice, cutAt, intAt, bl_len, bits64, bits64u, bits8, hfold, vMax2, vMin2, Try.underlying3, Try.underlying4, Try.underlying9, Try.underlying22, Try.underlying31, Try.underlying32, Try.underlying36, Try.underlying44, Try.underlying64, Try.underlying80, Try.underlying90, Try.underlying123, h1, h2, h3, h4, vLookup, hMapSet, h5, sameKey_str, hM]
    rw [h6]
    rw [show (if x < y then y else x) = max x y by omega]
/-- Whether a record stays. -/
def stays (r : Rec) (M : Value → Option Int) (upto now grace : Int) : Bool :=
  if r.hasKey = false ∨ r.off ≥ upto then true else match M (kv r.key) with
  | none => true
  | some l => if l > r.off then false else if r.hasVal = false ∧ min (max now (-2305843009213693952)) 2305843009213693952 - min (max r.time (-2305843009213693952)) 2305843009213693952 > grace then false else true
theorem record {s : HS} {p mid : Nat} {most : Int} {M : Value → Option Int} {n : Nat} (h : IsKM s p mid most M n) (r : Rec) (upto now grace : Int) :
    HC Try.prog 21 [.agg (recC r), .ptr p 0, .lit (.int .i64 upto), .lit (.int .i64 now), .lit (.int .i64 grace)] s (fun v s' => v = .lit (.bool (stays r M upto now grace)) ∧ s' = s) := by
  refine HC.weaken (HC21 ?_)
  obtain ⟨off, time, hk, key, hv, val⟩ := r
  simp only [recC]
  simp [c21, bindO, hcond, vCmp, vBin, vEq, vUn, vNil, vField, vLoad, takeCells, vIdx, vLenT, vLen, vExtract, hBS, hfill, hNew, hStore, hBox, hc_int, hc_bool, hc_string, hc_slice, hc_nilp, hc_nilm, hc_nilf, hc_agg, hc_list, hc_view, hc_ptr, hc_map, hc_func, ho_int, ho_bool, ho_string, ho_slice, ho_nilp, ho_nilm, ho_nilf, ho_list, ho_view, ho_ptr, ho_map, ho_func, putCells, hAppend, lcells, litCells, isNilS, llen, room, vMk, set_at, Join, vToInt, vSlice, cutAt, intAt, bl_len, bits64, bits64u, bits8, hfold, vMax2, vMin2, Try.underlying3, Try.underlying4, Try.underlying9, Try.underlying22, Try.underlying31, Try.underlying32, Try.underlying36, Try.underlying44, Try.underlying64, Try.underlying80, Try.underlying90, Try.underlying123]
  intro i hi
  have hkm : IsKM (s.set i (.cells [.lit (.int .i64 off), .lit (.int .i64 time), .lit (.bool hk), byV key, .lit (.bool hv), byV val])) p mid most M n := ⟨by rw [set_ne _ _ (ne_new h.1 hi)]; exact h.1, by rw [set_ne _ _ (ne_new h.2 hi)]; exact h.2⟩
  have hle := le_set_new (HObj.cells [.lit (.int .i64 off), .lit (.int .i64 time), .lit (.bool hk), byV key, .lit (.bool hv), byV val]) (le_refl' s) hi
  have hat := set_at s i (HObj.cells [.lit (.int .i64 off), .lit (.int .i64 time), .lit (.bool hk), byV key, .lit (.bool hv), byV val])
  generalize s.set i (HObj.cells [.lit (.int .i64 off), .lit (.int .i64 time), .lit (.bool hk), byV key, .lit (.bool hv), byV val]) = t at *
  have hst : ∀ b, ∃ s'', HS.le s'' t ∧ (HV.lit (.bool b) = .lit (.bool b) ∧ s'' = s) := fun b => ⟨s, hle, rfl, rfl⟩
  cases hk with
  | false =>
    simp [bindO, hcond, vCmp, vBin, vEq, vUn, vNil, vField, vLoad, takeCells, vIdx, vLenT, vLen, vExtract, hBS, hfill, hNew, hStore, hBox, hc_int, hc_bool, hc_string, hc_slice, hc_nilp, hc_nilm, hc_nilf, hc_agg, hc_list, hc_view, hc_ptr, hc_map, hc_func, ho_int, ho_bool, ho_string, ho_slice, ho_nilp, ho_nilm, ho_nilf, ho_list, ho_view, ho_ptr, ho_map, ho_func, putCells, hAppend, lcells, litCells, isNilS, llen, room, vMk, set_at, Join, vToInt, vSlice, cutAt, intAt, bl_len, bits64, bits64u, bits8, hfold, vMax2, vMin2, Try.underlying3, Try.underlying4, Try.underlying9, Try.underlying22, Try.underlying31, Try.underlying32, Try.underlying36, Try.underlying44, Try.underlying64, Try.underlying80, Try.underlying90, Try.underlying123, stays]
    exact hle
  | true =>
    by_cases hu : upto ≤ off
    · simp [bindO, hcond, vCmp, vBin, vEq, vUn, vNil, vField, vLoad, takeCells, vIdx, vLenT, vLen, vExtract, hBS, hfill, hNew, hStore, hBox, hc_int, hc_bool, hc_string, hc_slice, hc_nilp, hc_nilm, hc_nilf, hc_agg, hc_list, hc_view, hc_ptr, hc_map, hc_func, ho_int, ho_bool, ho_string, ho_slice, ho_nilp, ho_nilm, ho_nilf, ho_list, ho_view, ho_ptr, ho_map, ho_func, putCells, hAppend, lcells, litCells, isNilS, llen, room, vMk, set_at, Join, vToInt, vSlice, cutAt, intAt, bl_len, bits64, bits64u, bits8, hfold, vMax2, vMin2, Try.underlying3, Try.underlying4, Try.underlying9, Try.underlying22, Try.underlying31, Try.underlying32, Try.underlying36, Try.underlying44, Try.underlying64, Try.underlying80, Try.underlying90, Try.underlying123, stays, hat, hu]
      exact hle
    · simp [bindO, hcond, vCmp, vBin, vEq, vUn, vNil, vField, vLoad, takeCells, vIdx, vLenT, vLen, vExtract, hBS, hfill, hNew, hStore, hBox, hc_int, hc_bool, hc_string, hc_slice, hc_nilp, hc_nilm, hc_nilf, hc_agg, hc_list, hc_view, hc_ptr, hc_map, hc_func, ho_int, ho_bool, ho_string, ho_slice, ho_nilp, ho_nilm, ho_nilf, ho_list, ho_view, ho_ptr, ho_map, ho_func, putCells, hAppend, lcells, litCells, isNilS, llen, room, vMk, set_at, Join, vToInt, vSlice, cutAt, intAt, bl_len, bits64, bits64u, bits8, hfold, vMax2, vMin2, Try.underlying3, Try.underlying4, Try.underlying9, Try.underlying22, Try.underlying31, Try.underlying32, Try.underlying36, Try.underlying44, Try.underlying64, Try.underlying80, Try.underlying90, Try.underlying123, hat, hu]
      refine (last hkm key).mono ?_
      rintro v s1 ⟨rfl, rfl⟩
      cases hM : M (kv key) with
      | none =>
        simp [bindO, hcond, vCmp, vBin, vEq, vUn, vNil, vField, vLoad, takeCells, vIdx, vLenT, vLen, vExtract, hBS, hfill, hNew, hStore, hBox, hc_int, hc_bool, hc_string, hc_slice, hc_nilp, hc_nilm, hc_nilf, hc_agg, hc_list, hc_view, hc_ptr, hc_map, hc_func, ho_int, ho_bool, ho_string, ho_slice, ho_nilp, ho_nilm, ho_nilf, ho_list, ho_view, ho_ptr, ho_map, ho_func, putCells, hAppend, lcells, litCells, isNilS, llen, room, vMk, set_at, Join, vToInt, vSlice, cutAt, intAt, bl_len, bits64, bits64u, bits8, hfold, vMax2, vMin2, Try.underlying3, Try.underlying4, Try.underlying9, Try.underlying22, Try.underlying31, Try.underlying32, Try.underlying36, Try.underlying44, Try.underlying64, Try.underlying80, Try.underlying90, Try.underlying123, stays, hM, hu]
        exact hle
      | some l =>
        by_cases hl : off < l
        · simp [bindO, hcond, vCmp, vBin, vEq, vUn, vNil, vField, vLoad, takeCells, vIdx, vLenT, vLen, vExtract, hBS, hfill, hNew, hStore, hBox, hc_int, hc_bool, hc_string, hc_slice, hc_nilp, hc_nilm, hc_nilf, hc_agg, hc_list, hc_view, hc_ptr, hc_map, hc_func, ho_int, ho_bool, ho_string, ho_slice, ho_nilp, ho_nilm, ho_nilf, ho_list, ho_view, ho_ptr, ho_map, ho_func, putCells, hAppend, lcells, litCells, isNilS, llen, room, vMk, set_at, Join, vToInt, vSlice, cutAt, intAt, bl_len, bits64, bits64u, bits8, hfold, vMax2, vMin2, Try.underlying3, Try.underlying4, Try.underlying9, Try.underlying22, Try.underlying31, Try.underlying32, Try.underlying36, Try.underlying44, Try.underlying64, Try.underlying80, Try.underlying90, Try.underlying123, stays, hM, hu, hat, hl]
          exact hle
        · cases hv with
          | true =>
            simp [bindO, hcond, vCmp, vBin, vEq, vUn, vNil, vField, vLoad, takeCells, vIdx, vLenT, vLen, vExtract, hBS, hfill, hNew, hStore, hBox, hc_int, hc_bool, hc_string, hc_slice, hc_nilp, hc_nilm, hc_nilf, hc_agg, hc_list, hc_view, hc_ptr, hc_map, hc_func, ho_int, ho_bool, ho_string, ho_slice, ho_nilp, ho_nilm, ho_nilf, ho_list, ho_view, ho_ptr, ho_map, ho_func, putCells, hAppend, lcells, litCells, isNilS, llen, room, vMk, set_at, Join, vToInt, vSlice, cutAt, intAt, bl_len, bits64, bits64u, bits8, hfold, vMax2, vMin2, Try.underlying3, Try.underlying4, Try.underlying9, Try.underlying22, Try.underlying31, Try.underlying32, Try.underlying36, Try.underlying44, Try.underlying64, Try.underlying80, Try.underlying90, Try.underlying123, stays, hM, hu, hat, hl]
            exact hle
          | false =>
            simp [bindO, hcond, vCmp, vBin, vEq, vUn, vNil, vField, vLoad, takeCells, vIdx, vLenT, vLen, vExtract, hBS, hfill, hNew, hStore, hBox, hc_int, hc_bool, hc_string, hc_slice, hc_nilp, hc_nilm, hc_nilf, hc_agg, hc_list, hc_view, hc_ptr, hc_map, hc_func, ho_int, ho_bool, ho_string, ho_slice, ho_nilp, ho_nilm, ho_nilf, ho_list, ho_view, ho_ptr, ho_map, ho_func, putCells, hAppend, lcells, litCells, isNilS, llen, room, vMk, set_at, Join, vToInt, vSlice, cutAt, intAt, bl_len, bits64, bits64u, bits8, hfold, vMax2, vMin2, Try.underlying3, Try.underlying4, Try.underlying9, Try.underlying22, Try.underlying31, Try.underlying32, Try.underlying36, Try.underlying44, Try.underlying64, Try.underlying80, Try.underlying90, Try.underlying123, hM, hu, hat, hl]
            refine (far now s1).mono ?_
            rintro v s2 ⟨rfl, rfl⟩
            simp only [hat]
            refine ⟨rfl, ?_⟩
            refine (far time s2).mono ?_
            rintro v s3 ⟨rfl, rfl⟩
            have hw := w64 (x := min (max now (-2305843009213693952)) 2305843009213693952 - min (max time (-2305843009213693952)) 2305843009213693952) (by omega) (by omega)
            by_cases hg : grace < min (max now (-2305843009213693952)) 2305843009213693952 - min (max time (-2305843009213693952)) 2305843009213693952
            · simp [hw, hg, stays, hM, hu, hl]
              exact hle
            · simp [hw, hg, stays, hM, hu, hl]
              exact hle
/-- Keys of records from an offset on that are not there. -/
def isFresh (M : Value → Option Int) (from_ : Int) (r : Rec) : Bool := r.hasKey && decide (from_ ≤ r.off) && !(M (kv r.key)).isSome
noncomputable def freshStep (M : Value → Option Int) (from_ : Int) (g : (Value → Option Int) × Nat) (r : Rec) : (Value → Option Int) × Nat :=
  if isFresh M from_ r = true then (put g.1 (kv r.key) (IntKind.i64.wrap ((g.1 (kv r.key)).getD 0 + 1)), if (g.1 (kv r.key)).isSome then g.2 else g.2 + 1) else g
noncomputable def freshF (M : Value → Option Int) (from_ : Int) (l : List Rec) : (Value → Option Int) × Nat := l.foldl (freshStep M from_) (fun _ => none, 0)
theorem IsKM.le {s t : HS} {p mid : Nat} {most : Int} {M : Value → Option Int} {n : Nat} (h : IsKM s p mid most M n) (hle : HS.le s t) : IsKM t p mid most M n := ⟨hle _ _ h.1, hle _ _ h.2⟩
theorem fresh {s : HS} {p mid : Nat} {most : Int} {M : Value → Option Int} {n : Nat} (h : IsKM s p mid most M n) (b : Bat) (l : List Rec) (hb : b.recs = some l) (hl : l.length ≤ 100000) (from_ : Int) :
    HC Try.prog 51 [.ptr p 0, .agg (batC b), .lit (.int .i64 from_)] s (fun v s' => v = .lit (.int .i64 (freshF M from_ l).2) ∧ s' = s) := by
  refine HC.weaken (HC51 ?_)
  obtain ⟨c0, c1, c2, c3, c4, recs⟩ := b
  simp only at hb
  subst hb
  simp [c51, bindO, hcond, vCmp, vBin, vEq, vUn, vNil, vField, vLoad, takeCells, vIdx, vLenT, vLen, vExtract, hNew, hStore, hBox, hc_int, hc_bool, hc_string, hc_slice, hc_nilp, hc_nilm, hc_nilf, hc_agg, hc_list, hc_view, hc_ptr, hc_map, hc_func, ho_int, ho_bool, ho_string, ho_slice, ho_nilp, ho_nilm, ho_nilf, ho_list, ho_view, ho_ptr, ho_map, ho_func, putCells, lcells, litCells, isNilS, llen, room, vMk, set_at, Join, vToInt, vSlice, cutAt, intAt, bl_len, bits64, bits64u, bits8, hfold, vMax2, vMin2, Try.underlying3, Try.underlying4, Try.underlying9, Try.underlying22, Try.underlying31, Try.underlying32, Try.underlying36, Try.underlying44, Try.underlying64, Try.underlying80, Try.underlying90, Try.underlying123, recC_len, ho_recC, hcz, batC, recsV]
  intro i1 f1 mm f2
  have n1 := ne_new (set_at s i1 _) f2
  simp only [set_none_iff] at f2
  obtain ⟨-, f2⟩ := f2
  simp [bindO, hcond, vCmp, vBin, vEq, vUn, vNil, vField, vLoad, takeCells, vIdx, vLenT, vLen, vExtract, hNew, hStore, hBox, hc_int, hc_bool, hc_string, hc_slice, hc_nilp, hc_nilm, hc_nilf, hc_agg, hc_list, hc_view, hc_ptr, hc_map, hc_func, ho_int, ho_bool, ho_string, ho_slice, ho_nilp, ho_nilm, ho_nilf, ho_list, ho_view, ho_ptr, ho_map, ho_func, putCells, lcells, litCells, isNilS, llen, room, vMk, set_at, Join, vToInt, vSlice, cutAt, intAt, bl_len, bits64, bits64u, bits8, hfold, vMax2, vMin2, Try.underlying3, Try.underlying4, Try.underlying9, Try.underlying22, Try.underlying31, Try.underlying32, Try.underlying36, Try.underlying44, Try.underlying64, Try.underlying80, Try.underlying90, Try.underlying123, recC_len, ho_recC, hcz, set_ne _ _ n1]
  refine HLoop.ghost (σ := Nat) (fun i => [.lit (.int .i64 i)]) (fun i t => i ≤ l.length ∧ HS.le s t ∧ t mm = some (mapO (freshF M from_ (l.take i)).1 (freshF M from_ (l.take i)).2)) (fun i => l.length - i) 0 rfl ⟨Nat.zero_le _, by repeat (first | exact le_refl' _ | exact HS.le.trans (by assumption) (by assumption) | assumption | refine le_set_free _ ?_ (by assumption)), by rw [set_at]; rfl⟩ ?_
  rintro i t K ⟨hi, hst, htm⟩ hK
  by_cases hlt : i < l.length
  · have hlt' : (i : Int) < (l.length : Int) := by omega
    have hix := recsC_idx l i hlt
    have hts := take_succ' r0 l hlt
    generalize l.getD i r0 = x at *
    simp [bindO, hcond, vCmp, vBin, vEq, vUn, vNil, vField, vLoad, takeCells, vIdx, vLenT, vLen, vExtract, hNew, hStore, hBox, hc_int, hc_bool, hc_string, hc_slice, hc_nilp, hc_nilm, hc_nilf, hc_agg, hc_list, hc_view, hc_ptr, hc_map, hc_func, ho_int, ho_bool, ho_string, ho_slice, ho_nilp, ho_nilm, ho_nilf, ho_list, ho_view, ho_ptr, ho_map, ho_func, putCells, lcells, litCells, isNilS, llen, room, vMk, set_at, Join, vToInt, vSlice, cutAt, intAt, bl_len, bits64, bits64u, bits8, hfold, vMax2, vMin2, Try.underlying3, Try.underlying4, Try.underlying9, Try.underlying22, Try.underlying31, Try.underlying32, Try.underlying36, Try.underlying44, Try.underlying64, Try.underlying80, Try.underlying90, Try.underlying123, recC_len, ho_recC, hcz, hlt', hlt, hix]
    intro X hX
    have nX := ne_new htm hX
    rw [set_set]
    have hk1 : IsKM (t.set X (.cells (recC x))) p mid most M n := (h.le hst).le (le_set_new _ (le_refl' t) hX)
    have hF : freshF M from_ (l.take (i + 1)) = freshStep M from_ (freshF M from_ (l.take i)) x := by rw [hts]; simp [freshF]
    have hle1 : HS.le s (t.set X (.cells (recC x))) := le_set_new _ hst hX
    have htm1 : (t.set X (.cells (recC x))) mm = some (mapO (freshF M from_ (l.take i)).1 (freshF M from_ (l.take i)).2) := by rw [set_ne _ _ nX]; exact htm
    have hat := set_at t X (.cells (recC x))
    generalize t.set X (.cells (recC x)) = t1 at *
    obtain ⟨off, time, hk, key, hv, val⟩ := x
    simp only [recC] at hat
    simp [bindO, hcond, vCmp, vBin, vEq, vUn, vNil, vField, vLoad, takeCells, vIdx, vLenT, vLen, vExtract, hNew, hStore, hBox, hc_int, hc_bool, hc_string, hc_slice, hc_nilp, hc_nilm, hc_nilf, hc_agg, hc_list, hc_view, hc_ptr, hc_map, hc_func, ho_int, ho_bool, ho_string, ho_slice, ho_nilp, ho_nilm, ho_nilf, ho_list, ho_view, ho_ptr, ho_map, ho_func, putCells, lcells, litCells, isNilS, llen, room, vMk, set_at, Join, vToInt, vSlice, cutAt, intAt, bl_len, bits64, bits64u, bits8, hfold, vMax2, vMin2, Try.underlying3, Try.underlying4, Try.underlying9, Try.underlying22, Try.underlying31, Try.underlying32, Try.underlying36, Try.underlying44, Try.underlying64, Try.underlying80, Try.underlying90, Try.underlying123, recC_len, ho_recC, hcz, hat, recC]
    refine (last hk1 key).mono ?_
    rintro v s1 ⟨rfl, rfl⟩
    generalize freshF M from_ (l.take i) = g at *
    have hgo : isFresh M from_ ⟨off, time, hk, key, hv, val⟩ = false → K [.lit (.int .i64 (IntKind.i64.wrap ((i : Int) + 1)))] s1 := by
      intro hf
      refine hK (i + 1) _ _ (by rw [w64 (by omega) (by omega)]; rfl) ⟨hlt, hle1, ?_⟩ (by omega)
      rw [hF, freshStep, hf]
      exact htm1
    cases hk with
    | false =>
      simp [bindO, hcond, vCmp, vBin, vEq, vUn, vNil, vField, vLoad, takeCells, vIdx, vLenT, vLen, vExtract, hNew, hStore, hBox, hc_int, hc_bool, hc_string, hc_slice, hc_nilp, hc_nilm, hc_nilf, hc_agg, hc_list, hc_view, hc_ptr, hc_map, hc_func, ho_int, ho_bool, ho_string, ho_slice, ho_nilp, ho_nilm, ho_nilf, ho_list, ho_view, ho_ptr, ho_map, ho_func, putCells, lcells, litCells, isNilS, llen, room, vMk, set_at, Join, vToInt, vSlice, cutAt, intAt, bl_len, bits64, bits64u, bits8, hfold, vMax2, vMin2, Try.underlying3, Try.underlying4, Try.underlying9, Try.underlying22, Try.underlying31, Try.underlying32, Try.underlying36, Try.underlying44, Try.underlying64, Try.underlying80, Try.underlying90, Try.underlying123, recC_len, ho_recC, hcz, hat]
      exact hgo (by simp [isFresh])
    | true =>
      by_cases ho : from_ ≤ off
      · cases hM : M (kv key) with
        | some y =>
          simp [bindO, hcond, vCmp, vBin, vEq, vUn, vNil, vField, vLoad, takeCells, vIdx, vLenT, vLen, vExtract, hNew, hStore, hBox, hc_int, hc_bool, hc_string, hc_slice, hc_nilp, hc_nilm, hc_nilf, hc_agg, hc_list, hc_view, hc_ptr, hc_map, hc_func, ho_int, ho_bool, ho_string, ho_slice, ho_nilp, ho_nilm, ho_nilf, ho_list, ho_view, ho_ptr, ho_map, ho_func, putCells, lcells, litCells, isNilS, llen, room, vMk, set_at, Join, vToInt, vSlice, cutAt, intAt, bl_len, bits64, bits64u, bits8, hfold, vMax2, vMin2, Try.underlying3, Try.underlying4, Try.underlying9, Try.underlying22, Try.underlying31, Try.underlying32, Try.underlying36, Try.underlying44, Try.underlying64, Try.underlying80, Try.underlying90, Try.underlying123, recC_len, ho_recC, hcz, hat, ho, hM]
          exact hgo (by simp [isFresh, hM])
        | none =>
          have h3 := toStr_by s1 key
          have h4 := isStr_by key
          have h5 := keyIs_kv key
          have h6 := mapO_put g.1 (kv key)
          simp only [mapO] at htm1
          simp [bindO, hcond, vCmp, vBin, vEq, vUn, vNil, vField, vLoad, takeCells, vIdx, vLenT, vLen, vExtract, hNew, hStore, hBox, hc_int, hc_bool, hc_string, hc_slice, hc_nilp, hc_nilm, hc_nilf, hc_agg, hc_list, hc_view, hc_ptr, hc_map, hc_func, ho_int, ho_bool, ho_string, ho_slice, ho_nilp, ho_nilm, ho_nilf, ho_list, ho_view, ho_ptr, ho_map, ho_func, putCells, lcells, litCells, isNilS, llen, room, vMk, set_at, Join, vToInt, vSlice, cutAt, intAt, bl_len, bits64, bits64u, bits8, hfold, vMax2, vMin2, Try.underlying3, Try.underlying4, Try.underlying9, Try.underlying22, Try.underlying31, Try.underlying32, Try.underlying36, Try.underlying44, Try.underlying64, Try.underlying80, Try.underlying90, Try.underlying123, recC_len, ho_recC, hcz, hat, ho, hM, h3, h4, vLookup, hMapSet, h5, sameKey_str, htm1]
          rw [h6]
          refine hK (i + 1) _ _ (by rw [w64 (by omega) (by omega)]; rfl) ⟨hlt, le_set_free _ hle1 f2, ?_⟩ (by omega)
          have hf : isFresh M from_ ⟨off, time, true, key, hv, val⟩ = true := by simp [isFresh, hM, ho]
          rw [set_at, hF, freshStep, if_pos hf]
      · simp [bindO, hcond, vCmp, vBin, vEq, vUn, vNil, vField, vLoad, takeCells, vIdx, vLenT, vLen, vExtract, hNew, hStore, hBox, hc_int, hc_bool, hc_string, hc_slice, hc_nilp, hc_nilm, hc_nilf, hc_agg, hc_list, hc_view, hc_ptr, hc_map, hc_func, ho_int, ho_bool, ho_string, ho_slice, ho_nilp, ho_nilm, ho_nilf, ho_list, ho_view, ho_ptr, ho_map, ho_func, putCells, lcells, litCells, isNilS, llen, room, vMk, set_at, Join, vToInt, vSlice, cutAt, intAt, bl_len, bits64, bits64u, bits8, hfold, vMax2, vMin2, Try.underlying3, Try.underlying4, Try.underlying9, Try.underlying22, Try.underlying31, Try.underlying32, Try.underlying36, Try.underlying44, Try.underlying64, Try.underlying80, Try.underlying90, Try.underlying123, recC_len, ho_recC, hcz, hat, ho]
        exact hgo (by simp [isFresh, ho])
  · obtain rfl : i = l.length := by omega
    rw [List.take_length] at htm
    simp only [mapO] at htm
    simp [bindO, hcond, vCmp, vBin, vEq, vUn, vNil, vField, vLoad, takeCells, vIdx, vLenT, vLen, vExtract, hNew, hStore, hBox, hc_int, hc_bool, hc_string, hc_slice, hc_nilp, hc_nilm, hc_nilf, hc_agg, hc_list, hc_view, hc_ptr, hc_map, hc_func, ho_int, ho_bool, ho_string, ho_slice, ho_nilp, ho_nilm, ho_nilf, ho_list, ho_view, ho_ptr, ho_map, ho_func, putCells, lcells, litCells, isNilS, llen, room, vMk, set_at, Join, vToInt, vSlice, cutAt, intAt, bl_len, bits64, bits64u, bits8, hfold, vMax2, vMin2, Try.underlying3, Try.underlying4, Try.underlying9, Try.underlying22, Try.underlying31, Try.underlying32, Try.underlying36, Try.underlying44, Try.underlying64, Try.underlying80, Try.underlying90, Try.underlying123, recC_len, ho_recC, hcz, htm]
    exact hst
end Go.Proofs.Ytecnfekcflfihaa.CL

/- Clean over the H layer: a batch, a segment. -/
namespace Go.Proofs.Ytecnfekcflfihaa.CL
open Go.Proofs.Ytecnfekcflfihaa.H Go.Proofs.Ytecnfekcflfihaa.C0
set_option linter.unusedVariables false
set_option linter.unusedSimpArgs false
set_option maxRecDepth 100000

def keptR (M : Value → Option Int) (upto now grace : Int) (l : List Rec) : List Rec := l.filter fun r => stays r M upto now grace
def orNil {α : Type} (l : List α) : Option (List α) := match l with | [] => none | x :: r => some (x :: r)
theorem batch {s : HS} {p mid : Nat} {most : Int} {M : Value → Option Int} {n : Nat} (h : IsKM s p mid most M n) (b : Bat) (l : List Rec) (hb : b.recs = some l) (hl : l.length ≤ 100000) (hs : ∀ r ∈ l, ShortR r) (upto now grace : Int) :
    HC Try.prog 23 [.agg (batC b), .ptr p 0, .lit (.int .i64 upto), .lit (.int .i64 now), .lit (.int .i64 grace)] s (fun v s' => v = .tup [.agg (batC { b with recs := orNil (keptR M upto now grace l) }), .lit (.bool (decide (keptR M upto now grace l ≠ [])))] ∧ s' = s) := by
  obtain ⟨c0, c1, c2, c3, c4, recs⟩ := b
  simp only at hb
  subst hb
  refine HC.up (HC23 ?_)
  simp [c23, bindO, hcond, vCmp, vBin, vEq, vUn, vNil, vField, vLoad, takeCells, vIdx, vLenT, vLen, vExtract, hNew, hStore, hBox, hc_int, hc_bool, hc_string, hc_slice, hc_nilp, hc_nilm, hc_nilf, hc_agg, hc_list, hc_view, hc_ptr, hc_map, hc_func, ho_int, ho_bool, ho_string, ho_slice, ho_nilp, ho_nilm, ho_nilf, ho_list, ho_view, ho_ptr, ho_map, ho_func, putCells, lcells, litCells, isNilS, llen, room, vMk, set_at, Join, vToInt, vSlice, cutAt, intAt, bl_len, bits64, bits64u, bits8, hfold, vMax2, vMin2, Try.underlying3, Try.underlying4, Try.underlying9, Try.underlying22, Try.underlying31, Try.underlying32, Try.underlying36, Try.underlying44, Try.underlying64, Try.underlying80, Try.underlying90, Try.underlying123, recC_len, ho_recC, hcz, batC, recsV]
  intro p1 h1 p3 h3
  have n13 := ne_new (set_at s p1 _) h3
  simp only [set_none_iff] at h3
  obtain ⟨-, h3⟩ := h3
  simp [bindO, hcond, vCmp, vBin, vEq, vUn, vNil, vField, vLoad, takeCells, vIdx, vLenT, vLen, vExtract, hNew, hStore, hBox, hc_int, hc_bool, hc_string, hc_slice, hc_nilp, hc_nilm, hc_nilf, hc_agg, hc_list, hc_view, hc_ptr, hc_map, hc_func, ho_int, ho_bool, ho_string, ho_slice, ho_nilp, ho_nilm, ho_nilf, ho_list, ho_view, ho_ptr, ho_map, ho_func, putCells, lcells, litCells, isNilS, llen, room, vMk, set_at, Join, vToInt, vSlice, cutAt, intAt, bl_len, bits64, bits64u, bits8, hfold, vMax2, vMin2, Try.underlying3, Try.underlying4, Try.underlying9, Try.underlying22, Try.underlying31, Try.underlying32, Try.underlying36, Try.underlying44, Try.underlying64, Try.underlying80, Try.underlying90, Try.underlying123, recC_len, ho_recC, hcz, set_ne _ _ n13]
  intro p6 h6
  have h6' := h6
  simp only [set_none_iff] at h6'
  obtain ⟨n63, n61, h6'⟩ := h6'
  simp [bindO, hcond, vCmp, vBin, vEq, vUn, vNil, vField, vLoad, takeCells, vIdx, vLenT, vLen, vExtract, hNew, hStore, hBox, hc_int, hc_bool, hc_string, hc_slice, hc_nilp, hc_nilm, hc_nilf, hc_agg, hc_list, hc_view, hc_ptr, hc_map, hc_func, ho_int, ho_bool, ho_string, ho_slice, ho_nilp, ho_nilm, ho_nilf, ho_list, ho_view, ho_ptr, ho_map, ho_func, putCells, lcells, litCells, isNilS, llen, room, vMk, set_at, Join, vToInt, vSlice, cutAt, intAt, bl_len, bits64, bits64u, bits8, hfold, vMax2, vMin2, Try.underlying3, Try.underlying4, Try.underlying9, Try.underlying22, Try.underlying31, Try.underlying32, Try.underlying36, Try.underlying44, Try.underlying64, Try.underlying80, Try.underlying90, Try.underlying123, recC_len, ho_recC, hcz, set_ne _ _ n13, set_ne _ _ (Ne.symm n63), set_ne _ _ (Ne.symm n61)]
  obtain ⟨Z, hZ⟩ : ∃ Z, HObj.cells [.lit (.int .i64 0), .lit (.int .i64 0), .lit (.int .i64 0), .lit (.int .i64 0), .lit (.int .i64 0), .lit (.slice none 0 0)] = Z := ⟨_, rfl⟩
  rw [hZ] at h6 ⊢
  obtain ⟨B, hB⟩ : ∃ B, (s.set p1 (HObj.cells [.lit (.int .i64 c0), .lit (.int .i64 c1), .lit (.int .i64 c2), .lit (.int .i64 c3), .lit (.int .i64 c4), .list 6 l.length (recsC l) false])).set p3 Z = B := ⟨_, rfl⟩
  have hsB : HS.le s B := by rw [← hB]; exact le_set_new _ (le_set_new _ (le_refl' s) h1) (by rw [set_ne _ _ (Ne.symm n13)]; exact h3)
  have hB3 : B p3 = some Z := by rw [← hB, set_at]
  rw [hB] at h6 ⊢
  rw [set_set, set_set]
  clear hB
  have hcut : ∀ o : List Rec, (recsC o).take (o.length * 6) = recsC o := fun o => List.take_of_length_le (by rw [recsC_len]; exact Nat.le_refl _)
  refine HLoop.ghost (σ := HV × Nat) (fun g => [.lit (.int .i64 g.2)]) (fun g t => g.2 ≤ l.length ∧ HS.le B t ∧ t p6 = some (.cells [.lit (.int .i64 c0), .lit (.int .i64 c1), .lit (.int .i64 c2), .lit (.int .i64 c3), .lit (.int .i64 c4), g.1]) ∧ OutR B t p6 g.1 (keptR M upto now grace (l.take g.2))) (fun g => l.length - g.2) (.lit (.slice none 0 0), 0) rfl ?_ ?_
  · exact ⟨Nat.zero_le _, le_set_free _ (le_refl' B) h6, by rw [set_at], .inl ⟨rfl, rfl⟩⟩
  · rintro ⟨A, i⟩ t K ⟨hi, hst, htp, ho⟩ hK
    simp only at hi hst htp ho
    by_cases hlt : i < l.length
    · have hlt' : (i : Int) < (l.length : Int) := by omega
      have hix := recsC_idx l i hlt
      have hts := take_succ' r0 l hlt
      have hsm := hs (l.getD i r0) (by rw [List.getD, List.getElem?_eq_getElem hlt]; exact List.getElem_mem hlt)
      generalize l.getD i r0 = x at *
      simp [bindO, hcond, vCmp, vBin, vEq, vUn, vNil, vField, vLoad, takeCells, vIdx, vLenT, vLen, vExtract, hNew, hStore, hBox, hc_int, hc_bool, hc_string, hc_slice, hc_nilp, hc_nilm, hc_nilf, hc_agg, hc_list, hc_view, hc_ptr, hc_map, hc_func, ho_int, ho_bool, ho_string, ho_slice, ho_nilp, ho_nilm, ho_nilf, ho_list, ho_view, ho_ptr, ho_map, ho_func, putCells, lcells, litCells, isNilS, llen, room, vMk, set_at, Join, vToInt, vSlice, cutAt, intAt, bl_len, bits64, bits64u, bits8, hfold, vMax2, vMin2, Try.underlying3, Try.underlying4, Try.underlying9, Try.underlying22, Try.underlying31, Try.underlying32, Try.underlying36, Try.underlying44, Try.underlying64, Try.underlying80, Try.underlying90, Try.underlying123, recC_len, ho_recC, hcz, hlt', hlt, hix]
      intro X hX
      have nX := ne_new htp hX
      rw [set_set]
      have hkm := (h.le (HS.le.trans hsB hst)).le (le_set_new (.cells (recC x)) (le_refl' t) hX)
      refine (record hkm x upto now grace).mono ?_
      rintro v s1 ⟨rfl, rfl⟩
      have hkl : keptR M upto now grace (l.take (i + 1)) = keptR M upto now grace (l.take i) ++ (if stays x M upto now grace then [x] else []) := by
        rw [hts]
        unfold keptR
        rw [List.filter_append]
        simp only [List.filter]
        split <;> simp_all
      cases hstay : stays x M upto now grace with
      | false =>
        simp [bindO, hcond, vCmp, vBin, vEq, vUn, vNil, vField, vLoad, takeCells, vIdx, vLenT, vLen, vExtract, hNew, hStore, hBox, hc_int, hc_bool, hc_string, hc_slice, hc_nilp, hc_nilm, hc_nilf, hc_agg, hc_list, hc_view, hc_ptr, hc_map, hc_func, ho_int, ho_bool, ho_string, ho_slice, ho_nilp, ho_nilm, ho_nilf, ho_list, ho_view, ho_ptr, ho_map, ho_func, putCells, lcells, litCells, isNilS, llen, room, vMk, set_at, Join, vToInt, vSlice, cutAt, intAt, bl_len, bits64, bits64u, bits8, hfold, vMax2, vMin2, Try.underlying3, Try.underlying4, Try.underlying9, Try.underlying22, Try.underlying31, Try.underlying32, Try.underlying36, Try.underlying44, Try.underlying64, Try.underlying80, Try.underlying90, Try.underlying123, recC_len, ho_recC, hcz]
        refine hK (A, i + 1) _ _ (by rw [w64 (by omega) (by omega)]; rfl) ⟨hlt, le_set_new _ hst hX, by rw [set_ne _ _ nX]; exact htp, ?_⟩ (by show l.length - (i + 1) < l.length - i; omega)
        rw [hkl, hstay]
        simp
        exact ho.keep fun k ob _ h => by rw [set_ne _ _ (ne_new h hX)]; exact h
      | true =>
        simp [bindO, hcond, vCmp, vBin, vEq, vUn, vNil, vField, vLoad, takeCells, vIdx, vLenT, vLen, vExtract, hNew, hStore, hBox, hc_int, hc_bool, hc_string, hc_slice, hc_nilp, hc_nilm, hc_nilf, hc_agg, hc_list, hc_view, hc_ptr, hc_map, hc_func, ho_int, ho_bool, ho_string, ho_slice, ho_nilp, ho_nilm, ho_nilf, ho_list, ho_view, ho_ptr, ho_map, ho_func, putCells, lcells, litCells, isNilS, llen, room, vMk, set_at, Join, vToInt, vSlice, cutAt, intAt, bl_len, bits64, bits64u, bits8, hfold, vMax2, vMin2, Try.underlying3, Try.underlying4, Try.underlying9, Try.underlying22, Try.underlying31, Try.underlying32, Try.underlying36, Try.underlying44, Try.underlying64, Try.underlying80, Try.underlying90, Try.underlying123, recC_len, ho_recC, hcz, htp, set_ne _ _ nX]
        refine (own x _ hsm.1 hsm.2).mono ?_
        rintro v s1 ⟨rfl, rfl⟩
        simp [bindO, hcond, vCmp, vBin, vEq, vUn, vNil, vField, vLoad, takeCells, vIdx, vLenT, vLen, vExtract, hNew, hStore, hBox, hc_int, hc_bool, hc_string, hc_slice, hc_nilp, hc_nilm, hc_nilf, hc_agg, hc_list, hc_view, hc_ptr, hc_map, hc_func, ho_int, ho_bool, ho_string, ho_slice, ho_nilp, ho_nilm, ho_nilf, ho_list, ho_view, ho_ptr, ho_map, ho_func, putCells, lcells, litCells, isNilS, llen, room, vMk, set_at, Join, vToInt, vSlice, cutAt, intAt, bl_len, bits64, bits64u, bits8, hfold, vMax2, vMin2, Try.underlying3, Try.underlying4, Try.underlying9, Try.underlying22, Try.underlying31, Try.underlying32, Try.underlying36, Try.underlying44, Try.underlying64, Try.underlying80, Try.underlying90, Try.underlying123, recC_len, ho_recC, hcz, htp, set_ne _ _ nX]
        refine outR_append (b := B) (p := p6) (o := keptR M upto now grace (l.take i)) (r := x) (ob := _) ?_ (le_set_new _ hst hX) h6 (by rw [set_ne _ _ nX]; exact htp) ?_ ?_ ?_
        · exact ho.keep fun k ob _ h => by rw [set_ne _ _ (ne_new h hX)]; exact h
        · exact Nat.le_trans (List.length_filter_le _ _) (by rw [List.length_take]; omega)
        · intro s2 h2
          simp [h2]
        · intro A' t' g1 g2 g3
          have ho1 := g1.one
          simp [bindO, hcond, vCmp, vBin, vEq, vUn, vNil, vField, vLoad, takeCells, vIdx, vLenT, vLen, vExtract, hNew, hStore, hBox, hc_int, hc_bool, hc_string, hc_slice, hc_nilp, hc_nilm, hc_nilf, hc_agg, hc_list, hc_view, hc_ptr, hc_map, hc_func, ho_int, ho_bool, ho_string, ho_slice, ho_nilp, ho_nilm, ho_nilf, ho_list, ho_view, ho_ptr, ho_map, ho_func, putCells, lcells, litCells, isNilS, llen, room, vMk, set_at, Join, vToInt, vSlice, cutAt, intAt, bl_len, bits64, bits64u, bits8, hfold, vMax2, vMin2, Try.underlying3, Try.underlying4, Try.underlying9, Try.underlying22, Try.underlying31, Try.underlying32, Try.underlying36, Try.underlying44, Try.underlying64, Try.underlying80, Try.underlying90, Try.underlying123, recC_len, ho_recC, hcz, g3, ho1.1, ho1.2]
          refine hK (A', i + 1) _ _ (by rw [w64 (by omega) (by omega)]; rfl) ⟨hlt, le_set_free _ g2 h6, set_at _ _ _, ?_⟩ (by show l.length - (i + 1) < l.length - i; omega)
          rw [hkl, hstay]
          exact g1.keep fun k ob hk h => by rw [set_ne _ _ hk]; exact h
    · obtain rfl : i = l.length := by omega
      rw [List.take_length] at ho
      generalize keptR M upto now grace l = o at *
      have htq : t p3 = some Z := hst p3 Z hB3
      rw [← hZ] at htq
      have hsf : ∀ ob, HS.le s (t.set p3 ob) := fun ob => le_set_free _ (HS.le.trans hsB hst) h3
      rcases ho with ⟨rfl, rfl⟩ | ⟨k, g1, g2, rfl, g3, g4⟩
      · simp [bindO, hcond, vCmp, vBin, vEq, vUn, vNil, vField, vLoad, takeCells, vIdx, vLenT, vLen, vExtract, hNew, hStore, hBox, hc_int, hc_bool, hc_string, hc_slice, hc_nilp, hc_nilm, hc_nilf, hc_agg, hc_list, hc_view, hc_ptr, hc_map, hc_func, ho_int, ho_bool, ho_string, ho_slice, ho_nilp, ho_nilm, ho_nilf, ho_list, ho_view, ho_ptr, ho_map, ho_func, putCells, lcells, litCells, isNilS, llen, room, vMk, set_at, Join, vToInt, vSlice, cutAt, intAt, bl_len, bits64, bits64u, bits8, hfold, vMax2, vMin2, Try.underlying3, Try.underlying4, Try.underlying9, Try.underlying22, Try.underlying31, Try.underlying32, Try.underlying36, Try.underlying44, Try.underlying64, Try.underlying80, Try.underlying90, Try.underlying123, recC_len, ho_recC, hcz, htp, htq, set_ne _ _ n63, orNil]
        exact UpL.le _ (hsf _)
      · have hk3 : k ≠ p3 := by rintro rfl; rw [hB3] at g1; cases g1
        have hpos : 0 < o.length := List.length_pos_iff.2 g4
        have horn : orNil o = some o := by cases o with | nil => exact absurd rfl g4 | cons => rfl
        simp [bindO, hcond, vCmp, vBin, vEq, vUn, vNil, vField, vLoad, takeCells, vIdx, vLenT, vLen, vExtract, hNew, hStore, hBox, hc_int, hc_bool, hc_string, hc_slice, hc_nilp, hc_nilm, hc_nilf, hc_agg, hc_list, hc_view, hc_ptr, hc_map, hc_func, ho_int, ho_bool, ho_string, ho_slice, ho_nilp, ho_nilm, ho_nilf, ho_list, ho_view, ho_ptr, ho_map, ho_func, putCells, lcells, litCells, isNilS, llen, room, vMk, set_at, Join, vToInt, vSlice, cutAt, intAt, bl_len, bits64, bits64u, bits8, hfold, vMax2, vMin2, Try.underlying3, Try.underlying4, Try.underlying9, Try.underlying22, Try.underlying31, Try.underlying32, Try.underlying36, Try.underlying44, Try.underlying64, Try.underlying80, Try.underlying90, Try.underlying123, recC_len, ho_recC, hcz, htp, htq, set_ne _ _ n63, horn, hpos, g4]
        have hks : s k = none := none_of_le hsB g1
        have hu := UpL.frzD (xs := [.tup [.agg [.lit (.int .i64 c0), .lit (.int .i64 c1), .lit (.int .i64 c2), .lit (.int .i64 c3), .lit (.int .i64 c4), .view k 0 6 o.length false], .lit (.bool true)]]) (s := t.set p3 (.cells [.lit (.int .i64 c0), .lit (.int .i64 c1), .lit (.int .i64 c2), .lit (.int .i64 c3), .lit (.int .i64 c4), .view k 0 6 o.length false])) (s' := s) (by rw [set_ne _ _ hk3]; exact g3) (hsf _) hks
        simpa [frz2, frz1, frz0, phi, recsC_len, hcut] using hu
end Go.Proofs.Ytecnfekcflfihaa.CL

/- Clean over the H layer: segments. -/
namespace Go.Proofs.Ytecnfekcflfihaa.CL
open Go.Proofs.Ytecnfekcflfihaa.H Go.Proofs.Ytecnfekcflfihaa.C0
set_option linter.unusedVariables false
set_option linter.unusedSimpArgs false
set_option maxRecDepth 100000

theorem batC_len (b : Bat) : (batC b).length = 6 := rfl
theorem hcb (b : Bat) : (batC b).take 6 = batC b := rfl
theorem ho_batC (b : Bat) : (∀ x ∈ batC b, hone x = true) = True := by simp [batC, bindO, hcond, vCmp, vBin, vEq, vUn, vNil, vField, vLoad, takeCells, vIdx, vLenT, vLen, vExtract, hBS, hfill, hNew, hStore, hBox, hc_int, hc_bool, hc_string, hc_slice, hc_nilp, hc_nilm, hc_nilf, hc_agg, hc_list, hc_view, hc_ptr, hc_map, hc_func, ho_int, ho_bool, ho_string, ho_slice, ho_nilp, ho_nilm, ho_nilf, ho_list, ho_view, ho_ptr, ho_map, ho_func, putCells, hAppend, lcells, litCells, isNilS, llen, room, vMk, set_at, Join, vToInt, vSlice, cutAt, intAt, bl_len, bits64, bits64u, bits8, hfold, vMax2, vMin2, Try.underlying3, Try.underlying4, Try.underlying9, Try.underlying22, Try.underlying31, Try.underlying32, Try.underlying36, Try.underlying44, Try.underlying64, Try.underlying80, Try.underlying90, Try.underlying123, ho_recs]
def batsC (l : List Bat) : List HV := l.flatMap batC
theorem batsC_len (l : List Bat) : (batsC l).length = l.length * 6 := by
  unfold batsC
  induction l with
  | nil => rfl
  | cons x r ih => rw [List.flatMap_cons, List.length_append, ih]; simp [batC]; omega
theorem batsC_app (a b : List Bat) : batsC (a ++ b) = batsC a ++ batsC b := by simp [batsC]
def b0 : Bat := ⟨0, 0, 0, 0, 0, none⟩
theorem batsC_idx : ∀ (l : List Bat) (i : Nat), i < l.length → ((batsC l).drop (i * 6)).take 6 = batC (l.getD i b0)
  | x :: l, 0, _ => rfl
  | x :: l, i + 1, h => by
    have := batsC_idx l i (by simpa using h)
    rw [show batsC (x :: l) = batC x ++ batsC l from rfl, show (i + 1) * 6 = i * 6 + 1 + 1 + 1 + 1 + 1 + 1 by omega]
    simp only [batC, List.cons_append, List.nil_append, List.drop_succ_cons]
    exact this
def batsV : Option (List Bat) → HV
  | none => .lit (.slice none 0 0)
  | some l => .list 6 l.length (batsC l) false
/-- A row of batches that grows. -/
def OutT (b t : HS) (A : HV) (o : List Bat) : Prop :=
  (A = .lit (.slice none 0 0) ∧ o = []) ∨ ∃ q, b q = none ∧ A = .view q 0 6 o.length false ∧ t q = some (.cells (batsC o)) ∧ o ≠ []
theorem OutT.keep {b t t' : HS} {A : HV} {o : List Bat} (h : OutT b t A o) (hk : ∀ q ob, t q = some ob → t' q = some ob) : OutT b t' A o := by
  rcases h with h | ⟨q, h1, h3, h4, h5⟩
  · exact .inl h
  · exact .inr ⟨q, h1, h3, hk _ _ h4, h5⟩
theorem outT_append {b t : HS} {A : HV} {o : List Bat} {r : Bat} {K : HV → HS → Prop} (h : OutT b t A o) (hb : HS.le b t) (hl : o.length ≤ 100000)
    (hK : ∀ A' t', OutT b t' A' (o ++ [r]) → HS.le b t' → K A' t') :
    hBS t 6 1 [.lit (.int .i64 0), .lit (.int .i64 0), .lit (.int .i64 0), .lit (.int .i64 0), .lit (.int .i64 0), .lit (.slice none 0 0)] [(0, .agg (batC r))] (fun x s => hAppend s 6 64 A x K) := by
  have e6 : (batC r).length = 6 := rfl
  have et : (batC r).take 6 = batC r := rfl
  simp [bindO, hcond, vCmp, vBin, vEq, vUn, vNil, vField, vLoad, takeCells, vIdx, vLenT, vLen, vExtract, hBS, hfill, hNew, hStore, hBox, hc_int, hc_bool, hc_string, hc_slice, hc_nilp, hc_nilm, hc_nilf, hc_agg, hc_list, hc_view, hc_ptr, hc_map, hc_func, ho_int, ho_bool, ho_string, ho_slice, ho_nilp, ho_nilm, ho_nilf, ho_list, ho_view, ho_ptr, ho_map, ho_func, putCells, hAppend, lcells, litCells, isNilS, llen, room, vMk, set_at, Join, vToInt, vSlice, cutAt, intAt, bl_len, bits64, bits64u, bits8, hfold, vMax2, vMin2, Try.underlying3, Try.underlying4, Try.underlying9, Try.underlying22, Try.underlying31, Try.underlying32, Try.underlying36, Try.underlying44, Try.underlying64, Try.underlying80, Try.underlying90, Try.underlying123, e6]
  intro i1 f1
  rcases h with ⟨rfl, rfl⟩ | ⟨q, h1, rfl, h3, -⟩
  · simp [bindO, hcond, vCmp, vBin, vEq, vUn, vNil, vField, vLoad, takeCells, vIdx, vLenT, vLen, vExtract, hBS, hfill, hNew, hStore, hBox, hc_int, hc_bool, hc_string, hc_slice, hc_nilp, hc_nilm, hc_nilf, hc_agg, hc_list, hc_view, hc_ptr, hc_map, hc_func, ho_int, ho_bool, ho_string, ho_slice, ho_nilp, ho_nilm, ho_nilf, ho_list, ho_view, ho_ptr, ho_map, ho_func, putCells, hAppend, lcells, litCells, isNilS, llen, room, vMk, set_at, Join, vToInt, vSlice, cutAt, intAt, bl_len, bits64, bits64u, bits8, hfold, vMax2, vMin2, Try.underlying3, Try.underlying4, Try.underlying9, Try.underlying22, Try.underlying31, Try.underlying32, Try.underlying36, Try.underlying44, Try.underlying64, Try.underlying80, Try.underlying90, Try.underlying123, e6, et]
    intro i2 f2
    simp only [set_none_iff] at f2
    refine hK _ _ (.inr ⟨i2, none_of_le hb f2.2, rfl, ?_, by simp⟩) (le_set_new _ (le_set_new _ hb f1) (by rw [set_none_iff]; exact f2))
    rw [set_at]; simp [batsC]
  · have m1 := ne_new h3 f1
    have el : (batsC o).length = o.length * 6 := batsC_len o
    simp [bindO, hcond, vCmp, vBin, vEq, vUn, vNil, vField, vLoad, takeCells, vIdx, vLenT, vLen, vExtract, hBS, hfill, hNew, hStore, hBox, hc_int, hc_bool, hc_string, hc_slice, hc_nilp, hc_nilm, hc_nilf, hc_agg, hc_list, hc_view, hc_ptr, hc_map, hc_func, ho_int, ho_bool, ho_string, ho_slice, ho_nilp, ho_nilm, ho_nilf, ho_list, ho_view, ho_ptr, ho_map, ho_func, putCells, hAppend, lcells, litCells, isNilS, llen, room, vMk, set_at, Join, vToInt, vSlice, cutAt, intAt, bl_len, bits64, bits64u, bits8, hfold, vMax2, vMin2, Try.underlying3, Try.underlying4, Try.underlying9, Try.underlying22, Try.underlying31, Try.underlying32, Try.underlying36, Try.underlying44, Try.underlying64, Try.underlying80, Try.underlying90, Try.underlying123, set_ne _ _ m1, h3, el, e6, et]
    refine ⟨by omega, fun i2 f2 => ?_⟩
    simp only [set_none_iff] at f2
    refine hK _ _ (.inr ⟨i2, none_of_le hb f2.2, by simp, ?_, by simp⟩) ?_
    · rw [set_at, batsC_app]; simp [batsC]
    · intro k ob hk
      have hkq : k ≠ q := by rintro rfl; rw [h1] at hk; cases hk
      have hk1 := hb k ob hk
      rw [set_ne _ _ (ne_new hk1 f2.2), del_ne _ hkq, set_ne _ _ (ne_new hk1 f1)]
      exact hk1
theorem len_recs (k : Option (List Rec)) (s : HS) : vLenT (some (.slice 34)) s (recsV k) = some (.lit (.int .i64 ((k.getD []).length : Nat))) := by cases k <;> rfl
def cntF (l : List Bat) : Int := l.foldl (fun a b => IntKind.i64.wrap (a + ((b.recs.getD []).length : Nat))) 0
theorem count (l : List Bat) (s : HS) (hl : l.length ≤ 100000) : HC Try.prog 48 [.list 6 l.length (batsC l) false] s (fun v s' => v = .lit (.int .i64 (cntF l)) ∧ s' = s) := by
  refine HC.weaken (HC48 ?_)
  have hlen : vLenT (Try.prog.underlying 31) s (.list 6 l.length (batsC l) false) = some (.lit (.int .i64 l.length)) := by simp [bindO, hcond, vCmp, vBin, vEq, vUn, vNil, vField, vLoad, takeCells, vIdx, vLenT, vLen, vExtract, hBS, hfill, hNew, hStore, hBox, hc_int, hc_bool, hc_string, hc_slice, hc_nilp, hc_nilm, hc_nilf, hc_agg, hc_list, hc_view, hc_ptr, hc_map, hc_func, ho_int, ho_bool, ho_string, ho_slice, ho_nilp, ho_nilm, ho_nilf, ho_list, ho_view, ho_ptr, ho_map, ho_func, putCells, hAppend, lcells, litCells, isNilS, llen, room, vMk, set_at, Join, vToInt, vSlice, cutAt, intAt, bl_len, bits64, bits64u, bits8, hfold, vMax2, vMin2, Try.underlying3, Try.underlying4, Try.underlying9, Try.underlying22, Try.underlying31, Try.underlying32, Try.underlying36, Try.underlying44, Try.underlying64, Try.underlying80, Try.underlying90, Try.underlying123]
  simp only [c48, hlen, bindO]
  refine HLoop.ghost (σ := Nat) (fun i => [.lit (.int .i64 (cntF (l.take i))), .lit (.int .i64 i)]) (fun i t => i ≤ l.length ∧ HS.le s t) (fun i => l.length - i) 0 rfl ⟨Nat.zero_le _, le_refl' s⟩ ?_
  rintro i t K ⟨hi, hst⟩ hK
  by_cases hlt : i < l.length
  · have hlt' : (i : Int) < (l.length : Int) := by omega
    have hix := batsC_idx l i hlt
    have hts := take_succ' b0 l hlt
    generalize l.getD i b0 = x at *
    have hc : cntF (l.take (i + 1)) = IntKind.i64.wrap (cntF (l.take i) + ((x.recs.getD []).length : Nat)) := by rw [hts]; simp [cntF]
    have h5 : (batC x)[5]? = some (recsV x.recs) := rfl
    simp [bindO, hcond, vCmp, vBin, vUn, vField, takeCells, vLoad, vIdx, vExtract, hNew, hStore, hBox, hc_int, hc_bool, hc_agg, hc_list, hc_view, hc_ptr, ho_int, ho_bool, putCells, set_at, Join, batC_len, ho_batC, hcb, hc_recs, ho_recs, hlt', hlt, hix]
    intro X hX
    rw [set_set]
    have hle := le_set_new (.cells (batC x)) hst hX
    simp [bindO, hcond, vCmp, vBin, vUn, vField, takeCells, vLoad, vIdx, vExtract, hNew, hStore, hBox, hc_int, hc_bool, hc_agg, hc_list, hc_view, hc_ptr, ho_int, ho_bool, putCells, set_at, Join, batC_len, ho_batC, hcb, hc_recs, ho_recs, h5, Try.underlying44, len_recs]
    refine hK (i + 1) _ _ (by rw [w64 (x := (i : Int) + 1) (by omega) (by omega), hc]; rfl) ⟨hlt, hle⟩ (by omega)
  · obtain rfl : i = l.length := by omega
    rw [List.take_length]
    simp [bindO, hcond, vCmp, vBin, vUn, vField, takeCells, vLoad, vIdx, vExtract, hNew, hStore, hBox, hc_int, hc_bool, hc_agg, hc_list, hc_view, hc_ptr, ho_int, ho_bool, putCells, set_at, Join, batC_len, ho_batC, hcb, hc_recs, ho_recs]
    exact hst
def cutB (M : Value → Option Int) (upto now grace : Int) (b : Bat) : Bat := { b with recs := orNil (keptR M upto now grace (b.recs.getD [])) }
def keptB (M : Value → Option Int) (upto now grace : Int) : List Bat → List Bat
  | [] => []
  | b :: l => if keptR M upto now grace (b.recs.getD []) ≠ [] then cutB M upto now grace b :: keptB M upto now grace l else keptB M upto now grace l
theorem keptB_app (M : Value → Option Int) (upto now grace : Int) (a b : List Bat) : keptB M upto now grace (a ++ b) = keptB M upto now grace a ++ keptB M upto now grace b := by
  induction a with
  | nil => rfl
  | cons x r ih => simp only [List.cons_append, keptB, ih]; split <;> rfl
theorem keptB_len (M : Value → Option Int) (upto now grace : Int) (a : List Bat) : (keptB M upto now grace a).length ≤ a.length := by
  induction a with
  | nil => exact Nat.le_refl _
  | cons x r ih => simp only [keptB]; split <;> simp <;> omega
theorem segment {s : HS} {p mid : Nat} {most : Int} {M : Value → Option Int} {n : Nat} (h : IsKM s p mid most M n) (l : List Bat) (hl : l.length ≤ 100000) (hs : ∀ b ∈ l, ∃ r, b.recs = some r ∧ r.length ≤ 100000 ∧ ∀ x ∈ r, ShortR x) (upto now grace : Int) :
    HC Try.prog 27 [.list 6 l.length (batsC l) false, .ptr p 0, .lit (.int .i64 upto), .lit (.int .i64 now), .lit (.int .i64 grace)] s (fun v s' => v = batsV (orNil (keptB M upto now grace l)) ∧ s' = s) := by
  refine HC.up (HC27 ?_)
  have hlen : vLenT (Try.prog.underlying 31) s (.list 6 l.length (batsC l) false) = some (.lit (.int .i64 l.length)) := by simp [bindO, hcond, vCmp, vBin, vEq, vUn, vNil, vField, vLoad, takeCells, vIdx, vLenT, vLen, vExtract, hBS, hfill, hNew, hStore, hBox, hc_int, hc_bool, hc_string, hc_slice, hc_nilp, hc_nilm, hc_nilf, hc_agg, hc_list, hc_view, hc_ptr, hc_map, hc_func, ho_int, ho_bool, ho_string, ho_slice, ho_nilp, ho_nilm, ho_nilf, ho_list, ho_view, ho_ptr, ho_map, ho_func, putCells, hAppend, lcells, litCells, isNilS, llen, room, vMk, set_at, Join, vToInt, vSlice, cutAt, intAt, bl_len, bits64, bits64u, bits8, hfold, vMax2, vMin2, Try.underlying3, Try.underlying4, Try.underlying9, Try.underlying22, Try.underlying31, Try.underlying32, Try.underlying36, Try.underlying44, Try.underlying64, Try.underlying80, Try.underlying90, Try.underlying123]
  simp only [c27, hlen, bindO]
  refine HLoop.ghost (σ := HV × Nat) (fun g => [g.1, .lit (.int .i64 g.2)]) (fun g t => g.2 ≤ l.length ∧ HS.le s t ∧ OutT s t g.1 (keptB M upto now grace (l.take g.2))) (fun g => l.length - g.2) (.lit (.slice none 0 0), 0) rfl ⟨Nat.zero_le _, le_refl' s, .inl ⟨rfl, rfl⟩⟩ ?_
  rintro ⟨A, i⟩ t K ⟨hi, hst, ho⟩ hK
  simp only at hi hst ho
  by_cases hlt : i < l.length
  · have hlt' : (i : Int) < (l.length : Int) := by omega
    have hix := batsC_idx l i hlt
    have hts := take_succ' b0 l hlt
    have hsm := hs (l.getD i b0) (by rw [List.getD, List.getElem?_eq_getElem hlt]; exact List.getElem_mem hlt)
    generalize l.getD i b0 = x at *
    obtain ⟨r, hr, hr1, hr2⟩ := hsm
    simp [bindO, hcond, vCmp, vBin, vUn, vField, takeCells, vLoad, vIdx, vExtract, hNew, hStore, hBox, hc_int, hc_bool, hc_agg, hc_list, hc_view, hc_ptr, ho_int, ho_bool, putCells, set_at, Join, batC_len, ho_batC, hcb, hc_recs, ho_recs, hlt', hlt, hix]
    intro X hX
    rw [set_set]
    have hle := le_set_new (.cells (batC x)) hst hX
    have hkeep : ∀ q ob, t q = some ob → (t.set X (.cells (batC x))) q = some ob := fun q ob h => by rw [set_ne _ _ (ne_new h hX)]; exact h
    have ho1 := ho.keep hkeep
    have hkm := h.le hle
    generalize t.set X (.cells (batC x)) = t1 at *
    refine (batch hkm x r hr hr1 hr2 upto now grace).mono ?_
    rintro v s1 ⟨rfl, rfl⟩
    have hcut : ({ x with recs := orNil (keptR M upto now grace r) } : Bat) = cutB M upto now grace x := by unfold cutB; rw [hr]; rfl
    rw [hcut]
    have hkb : keptB M upto now grace (l.take (i + 1)) = keptB M upto now grace (l.take i) ++ (if keptR M upto now grace r ≠ [] then [cutB M upto now grace x] else []) := by
      rw [hts, keptB_app]
      simp only [keptB, hr, Option.getD_some]
    simp [bindO, hcond, vCmp, vBin, vUn, vField, takeCells, vLoad, vIdx, vExtract, hNew, hStore, hBox, hc_int, hc_bool, hc_agg, hc_list, hc_view, hc_ptr, ho_int, ho_bool, putCells, set_at, Join, batC_len, ho_batC, hcb, hc_recs, ho_recs]
    intro Y hY
    rw [set_set]
    have hle2 := le_set_new (.cells (batC (cutB M upto now grace x))) hle hY
    have ho2 := ho1.keep (t' := s1.set Y (.cells (batC (cutB M upto now grace x)))) fun q ob h => by rw [set_ne _ _ (ne_new h hY)]; exact h
    by_cases hk : keptR M upto now grace r = []
    · simp [bindO, hcond, vCmp, vBin, vUn, vField, takeCells, vLoad, vIdx, vExtract, hNew, hStore, hBox, hc_int, hc_bool, hc_agg, hc_list, hc_view, hc_ptr, ho_int, ho_bool, putCells, set_at, Join, batC_len, ho_batC, hcb, hc_recs, ho_recs, hk]
      refine hK (A, i + 1) _ _ (by rw [w64 (by omega) (by omega)]; rfl) ⟨hlt, hle2, ?_⟩ (by show l.length - (i + 1) < l.length - i; omega)
      rw [hkb, hk]
      simpa using ho2
    · simp [bindO, hcond, vCmp, vBin, vUn, vField, takeCells, vLoad, vIdx, vExtract, hNew, hStore, hBox, hc_int, hc_bool, hc_agg, hc_list, hc_view, hc_ptr, ho_int, ho_bool, putCells, set_at, Join, batC_len, ho_batC, hcb, hc_recs, ho_recs, hk]
      refine outT_append ho2 hle2 (Nat.le_trans (keptB_len _ _ _ _ _) (by rw [List.length_take]; omega)) ?_
      intro A' t' g1 g2
      refine hK (A', i + 1) _ _ (by rw [w64 (by omega) (by omega)]; rfl) ⟨hlt, g2, ?_⟩ (by show l.length - (i + 1) < l.length - i; omega)
      rw [hkb, if_pos hk]
      exact g1
  · obtain rfl : i = l.length := by omega
    rw [List.take_length] at ho
    generalize keptB M upto now grace l = o at *
    simp [bindO, hcond, vCmp, vBin, vUn, vField, takeCells, vLoad, vIdx, vExtract, hNew, hStore, hBox, hc_int, hc_bool, hc_agg, hc_list, hc_view, hc_ptr, ho_int, ho_bool, putCells, set_at, Join, batC_len, ho_batC, hcb, hc_recs, ho_recs]
    rcases ho with ⟨rfl, rfl⟩ | ⟨k, g1, rfl, g3, g4⟩
    · exact UpL.le _ hst
    · have horn : orNil o = some o := by cases o with | nil => exact absurd rfl g4 | cons => rfl
      rw [horn]
      have hu := UpL.frzD (xs := [.view k 0 6 o.length false]) g3 hst g1
      have hcut : (batsC o).take (o.length * 6) = batsC o := List.take_of_length_le (by rw [batsC_len]; exact Nat.le_refl _)
      simpa [frz2, frz1, frz0, phi, batsC_len, hcut, batsV] using hu
end Go.Proofs.Ytecnfekcflfihaa.CL

/- Clean over the H layer: the map that a cleaning builds. -/
namespace Go.Proofs.Ytecnfekcflfihaa.CL
open Go.Proofs.Ytecnfekcflfihaa.H Go.Proofs.Ytecnfekcflfihaa.C0
set_option linter.unusedVariables false
set_option linter.unusedSimpArgs false
set_option maxRecDepth 100000

noncomputable def offF (most : Int) (g : (Value → Option Int) × Nat) (k : Value) (x : Int) : (Value → Option Int) × Nat :=
  match g.1 k with
  | some y => (put g.1 k (max x y), g.2)
  | none => if most ≤ (g.2 : Int) then g else (put g.1 k x, g.2 + 1)
theorem offer' {s : HS} {p mid : Nat} {most : Int} {g : (Value → Option Int) × Nat} (h : IsKM s p mid most g.1 g.2) (k : Option (List Int)) (x : Int) :
    HC Try.prog 52 [.ptr p 0, byV k, .lit (.int .i64 x)] s (fun v s' => s' = s.set mid (mapO (offF most g (kv k) x).1 (offF most g (kv k) x).2)) := by
  cases hM : g.1 (kv k) with
  | some y =>
    refine (offer h k x (.inr (by rw [hM]; rfl))).mono ?_
    rintro v s' ⟨-, rfl⟩
    simp [offF, hM]
  | none =>
    by_cases hr : most ≤ (g.2 : Int)
    · refine HC.weaken (HC52 ?_)
      have h1 := h.1
      have h2 := h.2
      have h0 : s.set mid (mapO g.1 g.2) = s := by
        funext q
        simp only [HS.set]
        split
        · rename_i e; rw [e, h.2]
        · rfl
      simp only [kmO, mapO] at h1 h2
      have h3 := toStr_by s k
      have h4 := isStr_by k
      have h5 := keyIs_kv k
      simp [c52, bindO, hcond, vCmp, vBin, vEq, vUn, vNil, vField, vLoad, takeCells, vIdx, vLenT, vLen, vExtract, hBS, hfill, hNew, hStore, hBox, hc_int, hc_bool, hc_string, hc_slice, hc_nilp, hc_nilm, hc_nilf, hc_agg, hc_list, hc_view, hc_ptr, hc_map, hc_func, ho_int, ho_bool, ho_string, ho_slice, ho_nilp, ho_nilm, ho_nilf, ho_list, ho_view, ho_ptr, ho_map, ho_func, putCells, hAppend, lcells, litCells, isNilS, llen, room, vMk, set_at, Join, vToInt, vSlice, cutAt, intAt, bl_len, bits64, bits64u, bits8, hfold, vMax2, vMin2, Try.underlying3, Try.underlying4, Try.underlying9, Try.underlying22, Try.underlying31, Try.underlying32, Try.underlying36, Try.underlying44, Try.underlying64, Try.underlying80, Try.underlying90, Try.underlying123, h1, h2, h3, h4, vLookup, hMapSet, h5, sameKey_str, hM, hr, offF]
      rw [h0]
      exact le_refl' s
    · refine (offer h k x (.inl (by omega))).mono ?_
      rintro v s' ⟨-, rfl⟩
      simp [offF, hM, hr]
noncomputable def offStep (most from_ : Int) (g : (Value → Option Int) × Nat) (r : Rec) : (Value → Option Int) × Nat := if r.hasKey = true ∧ from_ ≤ r.off then offF most g (kv r.key) r.off else g
/-- What Build comes to from a state on. -/
noncomputable def buildF (most from_ : Int) : List Bat → (Value → Option Int) × Nat → Int → ((Value → Option Int) × Nat) × Int
  | [], g, upto => (g, upto)
  | b :: l, g, upto =>
    if IntKind.i64.wrap ((g.2 : Int) + (freshF g.1 from_ (b.recs.getD [])).2) > most then (g, max b.base from_)
    else buildF most from_ l ((b.recs.getD []).foldl (offStep most from_) g) (max (IntKind.i64.wrap (b.last + 1)) from_)
theorem IsKM.set {t : HS} {p mid : Nat} {most : Int} {M M' : Value → Option Int} {n n' : Nat} (h : IsKM t p mid most M n) : IsKM (t.set mid (mapO M' n')) p mid most M' n' := by
  have hne : p ≠ mid := by
    rintro rfl
    have h1 := h.1
    rw [h.2] at h1
    simp [kmO, mapO] at h1
  exact ⟨by rw [set_ne _ _ hne]; exact h.1, set_at _ _ _⟩
theorem build (l : List Bat) (from_ most : Int) (s : HS) (hl : l.length ≤ 100000) (hs : ∀ b ∈ l, ∃ r, b.recs = some r ∧ r.length ≤ 100000) :
    HC Try.prog 19 [.list 6 l.length (batsC l) false, .lit (.int .i64 from_), .lit (.int .i64 most)] s (fun v s' => ∃ p mid, v = .tup [.ptr p 0, .lit (.int .i64 (buildF (min (max most 1) 1000000) from_ l (fun _ => none, 0) from_).2)] ∧ HS.le s s' ∧
      IsKM s' p mid (min (max most 1) 1000000) (buildF (min (max most 1) 1000000) from_ l (fun _ => none, 0) from_).1.1 (buildF (min (max most 1) 1000000) from_ l (fun _ => none, 0) from_).1.2) := by
  refine HC19 ?_
  have hlen : ∀ t, vLenT (Try.prog.underlying 31) t (.list 6 l.length (batsC l) false) = some (.lit (.int .i64 l.length)) := fun t => by simp [bindO, hcond, vCmp, vBin, vEq, vUn, vNil, vField, vLoad, takeCells, vIdx, vLenT, vLen, vExtract, hBS, hfill, hNew, hStore, hBox, hc_int, hc_bool, hc_string, hc_slice, hc_nilp, hc_nilm, hc_nilf, hc_agg, hc_list, hc_view, hc_ptr, hc_map, hc_func, ho_int, ho_bool, ho_string, ho_slice, ho_nilp, ho_nilm, ho_nilf, ho_list, ho_view, ho_ptr, ho_map, ho_func, putCells, hAppend, lcells, litCells, isNilS, llen, room, vMk, set_at, Join, vToInt, vSlice, cutAt, intAt, bl_len, bits64, bits64u, bits8, hfold, vMax2, vMin2, Try.underlying3, Try.underlying4, Try.underlying9, Try.underlying22, Try.underlying31, Try.underlying32, Try.underlying36, Try.underlying44, Try.underlying64, Try.underlying80, Try.underlying90, Try.underlying123]
  have hmm : (if 1000000 < (if 1 > most then 1 else most) then (1000000 : Int) else (if 1 > most then 1 else most)) = min (max most 1) 1000000 := by omega
  simp only [c19, hfold, vMax2, vMin2, bindO, Option.bind_some]
  have hw1 : 1 ≤ min (max most 1) 1000000 := by omega
  have hw2 : min (max most 1) 1000000 ≤ 1000000 := by omega
  have hmm' : (if 1000000 < (if 1 > most then 1 else most) then (1000000 : Int) else (if 1 > most then 1 else most)) = min (max most 1) 1000000 := hmm
  first | rw [hmm'] | skip
  have hmm2 : ∀ z : Int, (if (1000000 : Int) < z then (1000000 : Int) else z) = min z 1000000 := fun z => by omega
  have hmm3 : (if 1 > most then 1 else most) = max most 1 := by omega
  try simp only [hmm3, hmm2]
  generalize min (max most 1) 1000000 = W at *
  refine (new W s hw1 hw2).mono ?_
  rintro v s1 ⟨p, mid, hp, hmid, rfl, hs1, hkm⟩
  simp only [vExtract, List.getElem?_cons_zero, List.getElem?_cons_succ, hlen]
  simp only [Join]
  have hfin : ∀ (g : ((Value → Option Int) × Nat) × Int) t, HS.le s t → IsKM t p mid W g.1.1 g.1.2 → g = buildF W from_ l (fun _ => none, 0) from_ → (∃ p mid, HV.tup [.ptr p 0, .lit (.int .i64 (buildF W from_ l (fun _ => none, 0) from_).2)] = HV.tup [.ptr p 0, .lit (.int .i64 (buildF W from_ l (fun _ => none, 0) from_).2)] ∧ HS.le s t ∧ IsKM t p mid W (buildF W from_ l (fun _ => none, 0) from_).1.1 (buildF W from_ l (fun _ => none, 0) from_).1.2) := by
    rintro g t h1 h2 rfl
    exact ⟨p, mid, rfl, h1, h2⟩
  refine HLoop.ghost (σ := ((Value → Option Int) × Nat) × Int × Nat) (fun g => [.lit (.int .i64 g.2.1), .lit (.int .i64 g.2.2)]) (fun g t => g.2.2 ≤ l.length ∧ HS.le s t ∧ IsKM t p mid W g.1.1 g.1.2 ∧ buildF W from_ (l.drop g.2.2) g.1 g.2.1 = buildF W from_ l (fun _ => none, 0) from_) (fun g => l.length - g.2.2) ((fun _ => none, 0), from_, 0) rfl ⟨Nat.zero_le _, hs1, hkm, rfl⟩ ?_
  rintro ⟨g, upto, i⟩ t K ⟨hi, hst, hkt, hbf⟩ hK
  simp only at hi hst hkt hbf
  by_cases hlt : i < l.length
  · have hlt' : (i : Int) < (l.length : Int) := by omega
    have hix := batsC_idx l i hlt
    have hdc := drop_cons' b0 l hlt
    have hsm := hs (l.getD i b0) (by rw [List.getD, List.getElem?_eq_getElem hlt]; exact List.getElem_mem hlt)
    generalize l.getD i b0 = x at *
    obtain ⟨r, hr, hr1⟩ := hsm
    simp [bindO, hcond, vCmp, vBin, vUn, vField, takeCells, vLoad, vIdx, vExtract, hNew, hStore, hBox, hc_int, hc_bool, hc_agg, hc_list, hc_view, hc_ptr, ho_int, ho_bool, putCells, set_at, Join, batC_len, ho_batC, hcb, hc_recs, ho_recs, hlt', hlt, hix]
    intro X hX
    rw [set_set]
    have hat := set_at t X (.cells (batC x))
    have hle := le_set_new (.cells (batC x)) hst hX
    have hk1 := hkt.le (le_set_new (.cells (batC x)) (le_refl' t) hX)
    generalize t.set X (.cells (batC x)) = t1 at *
    have hp1 := hk1.1
    simp only [kmO] at hp1
    simp [bindO, hcond, vCmp, vBin, vUn, vField, takeCells, vLoad, vIdx, vExtract, hNew, hStore, hBox, hc_int, hc_bool, hc_agg, hc_list, hc_view, hc_ptr, ho_int, ho_bool, putCells, set_at, Join, batC_len, ho_batC, hcb, hc_recs, ho_recs, vNil, hp1]
    refine (len hk1).mono ?_
    rintro v s2 ⟨rfl, rfl⟩
    simp [hp1, hat, batC_len, hcb]
    refine (fresh hk1 x r hr hr1 from_).mono ?_
    rintro v s3 ⟨rfl, rfl⟩
    simp [hp1, hat]
    have x0 : (batC x)[0]? = some (.lit (.int .i64 x.base)) := rfl
    have x1 : (batC x)[1]? = some (.lit (.int .i64 x.last)) := rfl
    have x5 : (batC x)[5]? = some (recsV (some r)) := by rw [← hr]; rfl
    rw [hdc] at hbf
    by_cases hroom : W < IntKind.i64.wrap ((g.2 : Int) + ((freshF g.1 from_ r).2 : Nat))
    · simp only [buildF, hr, Option.getD_some, gt_iff_lt, if_pos hroom] at hbf
      simp [bindO, hcond, vCmp, vBin, vUn, vField, takeCells, vLoad, vIdx, vExtract, hNew, hStore, hBox, hc_int, hc_bool, hc_agg, hc_list, hc_view, hc_ptr, ho_int, ho_bool, putCells, set_at, Join, batC_len, ho_batC, hcb, hc_recs, ho_recs, hroom, x0]
      rw [← hbf]
      exact ⟨p, ⟨rfl, by show (if x.base < from_ then from_ else x.base) = max x.base from_; omega⟩, hle, mid, hk1⟩
    · simp only [buildF, hr, Option.getD_some, gt_iff_lt, if_neg hroom] at hbf
      have hl5 := len_recs (some r) s3
      simp only [Option.getD_some] at hl5
      simp [bindO, hcond, vCmp, vBin, vUn, vField, takeCells, vLoad, vIdx, vExtract, hNew, hStore, hBox, hc_int, hc_bool, hc_agg, hc_list, hc_view, hc_ptr, ho_int, ho_bool, putCells, set_at, Join, batC_len, ho_batC, hcb, hc_recs, ho_recs, hroom, x5, hl5]
      refine HLoop.ghost (σ := Nat) (fun j => [.lit (.int .i64 j)]) (fun j t => j ≤ r.length ∧ HS.le s t ∧ t X = some (.cells (batC x)) ∧ IsKM t p mid W ((r.take j).foldl (offStep W from_) g).1 ((r.take j).foldl (offStep W from_) g).2) (fun j => r.length - j) 0 rfl ⟨Nat.zero_le _, hle, hat, hk1⟩ ?_
      rintro j t2 K2 ⟨hj, hst2, hat2, hk2⟩ hK2
      by_cases hjl : j < r.length
      · have hjl' : (j : Int) < (r.length : Int) := by omega
        have hjx := recsC_idx r j hjl
        have hjt := take_succ' r0 r hjl
        generalize r.getD j r0 = y at *
        have hfo : (r.take (j + 1)).foldl (offStep W from_) g = offStep W from_ ((r.take j).foldl (offStep W from_) g) y := by rw [hjt]; simp
        generalize (r.take j).foldl (offStep W from_) g = g2 at *
        simp [bindO, hcond, vCmp, vBin, vUn, vField, takeCells, vLoad, vIdx, vExtract, hNew, hStore, hBox, hc_int, hc_bool, hc_agg, hc_list, hc_view, hc_ptr, ho_int, ho_bool, putCells, set_at, Join, batC_len, ho_batC, hcb, hc_recs, ho_recs, recsV, hjl', hjl, hjx, recC_len, ho_recC, hcz]
        intro Y hY
        rw [set_set]
        have y0 : (recC y)[0]? = some (.lit (.int .i64 y.off)) := rfl
        have y2 : (recC y)[2]? = some (.lit (.bool y.hasKey)) := rfl
        have y3 : (recC y)[3]? = some (byV y.key) := rfl
        have hk3 := hk2.le (le_set_new (.cells (recC y)) (le_refl' t2) hY)
        have hle3 := le_set_new (.cells (recC y)) hst2 hY
        have hat3 : (t2.set Y (.cells (recC y))) X = some (.cells (batC x)) := by rw [set_ne _ _ (ne_new hat2 hY)]; exact hat2
        generalize t2.set Y (.cells (recC y)) = t3 at *
        have hXm : X ≠ mid := by
          rintro rfl
          rw [hk3.2] at hat3
          simp [mapO] at hat3
        have hjw : IntKind.i64.wrap ((j : Int) + 1) = ((j + 1 : Nat) : Int) := by rw [w64 (by omega) (by omega)]; rfl
        have hskip : offStep W from_ g2 y = g2 → K2 [.lit (.int .i64 (IntKind.i64.wrap ((j : Int) + 1)))] t3 := by
          intro e
          refine hK2 (j + 1) _ _ (by rw [hjw]) ⟨hjl, hle3, hat3, ?_⟩ (by omega)
          rw [hfo, e]
          exact hk3
        cases hh : y.hasKey with
        | false =>
          simp [y2, hh]
          exact hskip (by simp [offStep, hh])
        | true =>
          by_cases hof : from_ ≤ y.off
          · simp [y0, y2, y3, hh, hof]
            refine (offer' hk3 y.key y.off).mono ?_
            rintro v s5 rfl
            refine hK2 (j + 1) _ _ (by rw [hjw]) ⟨hjl, le_set_free _ hle3 hmid, by rw [set_ne _ _ hXm]; exact hat3, ?_⟩ (by omega)
            rw [hfo, offStep, if_pos ⟨hh, hof⟩]
            exact hk3.set
          · simp [y0, y2, hh, hof]
            exact hskip (by simp [offStep, hof])
      · obtain rfl : j = r.length := by omega
        rw [List.take_length] at hk2
        simp [bindO, hcond, vCmp, vBin, vUn, vField, takeCells, vLoad, vIdx, vExtract, hNew, hStore, hBox, hc_int, hc_bool, hc_agg, hc_list, hc_view, hc_ptr, ho_int, ho_bool, putCells, set_at, Join, batC_len, ho_batC, hcb, hc_recs, ho_recs, hat2, x1]
        refine hK (r.foldl (offStep W from_) g, max (IntKind.i64.wrap (x.last + 1)) from_, i + 1) _ _ ?_ ⟨hlt, hst2, hk2, hbf⟩ (by show l.length - (i + 1) < l.length - i; omega)
        rw [w64 (x := (i : Int) + 1) (by omega) (by omega), show (if IntKind.i64.wrap (x.last + 1) < from_ then from_ else IntKind.i64.wrap (x.last + 1)) = max (IntKind.i64.wrap (x.last + 1)) from_ by omega]
        rfl
  · obtain rfl : i = l.length := by omega
    rw [List.drop_length] at hbf
    simp [bindO, hcond, vCmp, vBin, vUn, vField, takeCells, vLoad, vIdx, vExtract, hNew, hStore, hBox, hc_int, hc_bool, hc_agg, hc_list, hc_view, hc_ptr, ho_int, ho_bool, putCells, set_at, Join, batC_len, ho_batC, hcb, hc_recs, ho_recs]
    simp only [buildF] at hbf
    rw [← hbf]
    exact ⟨p, ⟨rfl, rfl⟩, hst, mid, hkt⟩
end Go.Proofs.Ytecnfekcflfihaa.CL

