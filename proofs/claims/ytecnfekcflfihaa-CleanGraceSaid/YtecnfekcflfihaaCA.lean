/- Clean over the H layer: records, batches, and what copies them. -/
import Derived.Test.YtecnfekcflfihaaH15
import Derived.Test.YtecnfekcflfihaaC0
namespace Go.Proofs.Ytecnfekcflfihaa.CL
open Go.Proofs.Ytecnfekcflfihaa.H Go.Proofs.Ytecnfekcflfihaa.C0
set_option linter.unusedVariables false
set_option linter.unusedSimpArgs false
set_option maxRecDepth 100000
theorem w64 {x : Int} (h : -9223372036854775808 ≤ x) (h' : x < 9223372036854775808) : IntKind.i64.wrap x = x := by rw [IntKind.wrap_i64]; omega
theorem clone_list (l : List Int) (f : Bool) (s : HS) (hb : l.length ≤ 140737488355328) : HC Try.prog 72 [.list 1 l.length (bl l) f] s (fun v s' => v = .list 1 l.length (bl l) false ∧ s' = s) := by
  cases l with
  | nil =>
    refine HC.nilOr (pre := []) (post := []) ?_ ?_
    · refine HC.up (HC72 ?_)
      simp [c72, bindO, hcond, vCmp, vBin, vEq, vUn, vNil, vField, vLoad, takeCells, vIdx, vLenT, vLen, vExtract, hBS, hfill, hNew, hStore, hBox, hc_int, hc_bool, hc_string, hc_slice, hc_nilp, hc_nilm, hc_nilf, hc_agg, hc_list, hc_view, hc_ptr, hc_map, hc_func, ho_int, ho_bool, ho_string, ho_slice, ho_nilp, ho_nilm, ho_nilf, ho_list, ho_view, ho_ptr, ho_map, ho_func, putCells, hAppend, lcells, litCells, isNilS, llen, room, vMk, set_at, Join, vToInt, vSlice, cutAt, intAt, bl_len, bits64, bits64u, bits8, hfold, vMax2, vMin2, Try.underlying3, Try.underlying9, Try.underlying22, Try.underlying31, Try.underlying32, Try.underlying36, Try.underlying44, Try.underlying90]
      exact up_lit_nil 1 (le_refl' s)
    · refine HC.up (HC72 ?_)
      simp [c72, bindO, hcond, vCmp, vBin, vEq, vUn, vNil, vField, vLoad, takeCells, vIdx, vLenT, vLen, vExtract, hBS, hfill, hNew, hStore, hBox, hc_int, hc_bool, hc_string, hc_slice, hc_nilp, hc_nilm, hc_nilf, hc_agg, hc_list, hc_view, hc_ptr, hc_map, hc_func, ho_int, ho_bool, ho_string, ho_slice, ho_nilp, ho_nilm, ho_nilf, ho_list, ho_view, ho_ptr, ho_map, ho_func, putCells, hAppend, lcells, litCells, isNilS, llen, room, vMk, set_at, Join, vToInt, vSlice, cutAt, intAt, bl_len, bits64, bits64u, bits8, hfold, vMax2, vMin2, Try.underlying3, Try.underlying9, Try.underlying22, Try.underlying31, Try.underlying32, Try.underlying36, Try.underlying44, Try.underlying90]
      intro id hid
      exact up1 (set_at _ _ _) rfl (le_del_new (le_set_new _ (le_refl' s) hid) hid)
  | cons b l =>
    refine HC.up (HC72 ?_)
    simp [c72, bindO, hcond, vCmp, vBin, vEq, vUn, vNil, vField, vLoad, takeCells, vIdx, vLenT, vLen, vExtract, hBS, hfill, hNew, hStore, hBox, hc_int, hc_bool, hc_string, hc_slice, hc_nilp, hc_nilm, hc_nilf, hc_agg, hc_list, hc_view, hc_ptr, hc_map, hc_func, ho_int, ho_bool, ho_string, ho_slice, ho_nilp, ho_nilm, ho_nilf, ho_list, ho_view, ho_ptr, ho_map, ho_func, putCells, hAppend, lcells, litCells, isNilS, llen, room, vMk, set_at, Join, vToInt, vSlice, cutAt, intAt, bl_len, bits64, bits64u, bits8, hfold, vMax2, vMin2, Try.underlying3, Try.underlying9, Try.underlying22, Try.underlying31, Try.underlying32, Try.underlying36, Try.underlying44, Try.underlying90]
    intro id hid
    refine ⟨by simp at hb; omega, ?_⟩
    intro id2 h2
    simp only [set_none_iff] at h2
    exact up1 (set_at _ _ _) (by simp [bl_len]) (le_del_new (le_set_new _ (le_set_new _ (le_refl' s) hid) (by simp [set_none_iff, *])) h2.2)
theorem clone_nil (s : HS) : HC Try.prog 72 [.lit (.slice none 0 0)] s (fun v s' => v = .lit (.slice none 0 0) ∧ s' = s) := by
  refine HC72 ?_
  simp [c72, bindO, hcond, vCmp, vBin, vEq, vUn, vNil, vField, vLoad, takeCells, vIdx, vLenT, vLen, vExtract, hBS, hfill, hNew, hStore, hBox, hc_int, hc_bool, hc_string, hc_slice, hc_nilp, hc_nilm, hc_nilf, hc_agg, hc_list, hc_view, hc_ptr, hc_map, hc_func, ho_int, ho_bool, ho_string, ho_slice, ho_nilp, ho_nilm, ho_nilf, ho_list, ho_view, ho_ptr, ho_map, ho_func, putCells, hAppend, lcells, litCells, isNilS, llen, room, vMk, set_at, Join, vToInt, vSlice, cutAt, intAt, bl_len, bits64, bits64u, bits8, hfold, vMax2, vMin2, Try.underlying3, Try.underlying9, Try.underlying22, Try.underlying31, Try.underlying32, Try.underlying36, Try.underlying44, Try.underlying90]
/-- Bytes that may be nil. -/
def byV : Option (List Int) → HV
  | none => .lit (.slice none 0 0)
  | some l => .list 1 l.length (bl l) false
def short : Option (List Int) → Prop
  | none => True
  | some l => l.length ≤ 140737488355328
theorem clone (k : Option (List Int)) (s : HS) (hk : short k) : HC Try.prog 72 [byV k] s (fun v s' => v = byV k ∧ s' = s) := by
  cases k with
  | none => exact clone_nil s
  | some l => exact clone_list l false s hk
theorem hc_by (k : Option (List Int)) : hcells (byV k) = some [byV k] := by cases k <;> rfl
theorem ho_by (k : Option (List Int)) : hone (byV k) = true := by cases k <;> rfl
structure Rec where
  off : Int
  time : Int
  hasKey : Bool
  key : Option (List Int)
  hasVal : Bool
  val : Option (List Int)
def recC (r : Rec) : List HV := [.lit (.int .i64 r.off), .lit (.int .i64 r.time), .lit (.bool r.hasKey), byV r.key, .lit (.bool r.hasVal), byV r.val]
theorem recC_len (r : Rec) : (recC r).length = 6 := rfl
theorem ho_recC (r : Rec) : (∀ x ∈ recC r, hone x = true) = True := by
  simp [recC, bindO, hcond, vCmp, vBin, vEq, vUn, vNil, vField, vLoad, takeCells, vIdx, vLenT, vLen, vExtract, hBS, hfill, hNew, hStore, hBox, hc_int, hc_bool, hc_string, hc_slice, hc_nilp, hc_nilm, hc_nilf, hc_agg, hc_list, hc_view, hc_ptr, hc_map, hc_func, ho_int, ho_bool, ho_string, ho_slice, ho_nilp, ho_nilm, ho_nilf, ho_list, ho_view, ho_ptr, ho_map, ho_func, putCells, hAppend, lcells, litCells, isNilS, llen, room, vMk, set_at, Join, vToInt, vSlice, cutAt, intAt, bl_len, bits64, bits64u, bits8, hfold, vMax2, vMin2, Try.underlying3, Try.underlying9, Try.underlying22, Try.underlying31, Try.underlying32, Try.underlying36, Try.underlying44, Try.underlying90, ho_by]
theorem hcz (r : Rec) : (recC r).take 6 = recC r := rfl
theorem own (r : Rec) (s : HS) (h1 : short r.key) (h2 : short r.val) : HC Try.prog 58 [.agg (recC r)] s (fun v s' => v = .agg (recC r) ∧ s' = s) := by
  refine HC.weaken (HC58 ?_)
  simp [c58, bindO, hcond, vCmp, vBin, vEq, vUn, vNil, vField, vLoad, takeCells, vIdx, vLenT, vLen, vExtract, hBS, hfill, hNew, hStore, hBox, hc_int, hc_bool, hc_string, hc_slice, hc_nilp, hc_nilm, hc_nilf, hc_agg, hc_list, hc_view, hc_ptr, hc_map, hc_func, ho_int, ho_bool, ho_string, ho_slice, ho_nilp, ho_nilm, ho_nilf, ho_list, ho_view, ho_ptr, ho_map, ho_func, putCells, hAppend, lcells, litCells, isNilS, llen, room, vMk, set_at, Join, vToInt, vSlice, cutAt, intAt, bl_len, bits64, bits64u, bits8, hfold, vMax2, vMin2, Try.underlying3, Try.underlying9, Try.underlying22, Try.underlying31, Try.underlying32, Try.underlying36, Try.underlying44, Try.underlying90, recC]
  intro p hp q hq
  have hne := ne_new (set_at s p _) hq
  simp only [set_none_iff] at hq
  obtain ⟨-, hq⟩ := hq
  simp [bindO, hcond, vCmp, vBin, vEq, vUn, vNil, vField, vLoad, takeCells, vIdx, vLenT, vLen, vExtract, hBS, hfill, hNew, hStore, hBox, hc_int, hc_bool, hc_string, hc_slice, hc_nilp, hc_nilm, hc_nilf, hc_agg, hc_list, hc_view, hc_ptr, hc_map, hc_func, ho_int, ho_bool, ho_string, ho_slice, ho_nilp, ho_nilm, ho_nilf, ho_list, ho_view, ho_ptr, ho_map, ho_func, putCells, hAppend, lcells, litCells, isNilS, llen, room, vMk, set_at, Join, vToInt, vSlice, cutAt, intAt, bl_len, bits64, bits64u, bits8, hfold, vMax2, vMin2, Try.underlying3, Try.underlying9, Try.underlying22, Try.underlying31, Try.underlying32, Try.underlying36, Try.underlying44, Try.underlying90, set_ne _ _ hne, hc_by, ho_by]
  refine (clone r.key _ h1).mono ?_
  rintro v s1 ⟨rfl, rfl⟩
  simp [bindO, hcond, vCmp, vBin, vEq, vUn, vNil, vField, vLoad, takeCells, vIdx, vLenT, vLen, vExtract, hBS, hfill, hNew, hStore, hBox, hc_int, hc_bool, hc_string, hc_slice, hc_nilp, hc_nilm, hc_nilf, hc_agg, hc_list, hc_view, hc_ptr, hc_map, hc_func, ho_int, ho_bool, ho_string, ho_slice, ho_nilp, ho_nilm, ho_nilf, ho_list, ho_view, ho_ptr, ho_map, ho_func, putCells, hAppend, lcells, litCells, isNilS, llen, room, vMk, set_at, Join, vToInt, vSlice, cutAt, intAt, bl_len, bits64, bits64u, bits8, hfold, vMax2, vMin2, Try.underlying3, Try.underlying9, Try.underlying22, Try.underlying31, Try.underlying32, Try.underlying36, Try.underlying44, Try.underlying90, set_ne _ _ hne, hc_by, ho_by]
  refine (clone r.val _ h2).mono ?_
  rintro v s1 ⟨rfl, rfl⟩
  simp [bindO, hcond, vCmp, vBin, vEq, vUn, vNil, vField, vLoad, takeCells, vIdx, vLenT, vLen, vExtract, hBS, hfill, hNew, hStore, hBox, hc_int, hc_bool, hc_string, hc_slice, hc_nilp, hc_nilm, hc_nilf, hc_agg, hc_list, hc_view, hc_ptr, hc_map, hc_func, ho_int, ho_bool, ho_string, ho_slice, ho_nilp, ho_nilm, ho_nilf, ho_list, ho_view, ho_ptr, ho_map, ho_func, putCells, hAppend, lcells, litCells, isNilS, llen, room, vMk, set_at, Join, vToInt, vSlice, cutAt, intAt, bl_len, bits64, bits64u, bits8, hfold, vMax2, vMin2, Try.underlying3, Try.underlying9, Try.underlying22, Try.underlying31, Try.underlying32, Try.underlying36, Try.underlying44, Try.underlying90, set_ne _ _ hne, set_ne _ _ (Ne.symm hne), hc_by, ho_by]
  repeat (first | exact le_refl' _ | exact HS.le.trans (by assumption) (by assumption) | assumption | refine le_set_free _ ?_ (by assumption))
-- batches
structure Bat where
  base : Int
  last : Int
  prod : Int
  epoch : Int
  seq : Int
  recs : Option (List Rec)
def recsC (l : List Rec) : List HV := l.flatMap recC
theorem recsC_len (l : List Rec) : (recsC l).length = l.length * 6 := by
  unfold recsC
  induction l with
  | nil => rfl
  | cons x r ih => rw [List.flatMap_cons, List.length_append, ih]; simp [recC]; omega
theorem recsC_app (a b : List Rec) : recsC (a ++ b) = recsC a ++ recsC b := by simp [recsC]
def r0 : Rec := ⟨0, 0, false, none, false, none⟩
theorem recsC_idx : ∀ (l : List Rec) (i : Nat), i < l.length → ((recsC l).drop (i * 6)).take 6 = recC (l.getD i r0)
  | x :: l, 0, _ => rfl
  | x :: l, i + 1, h => by
    have := recsC_idx l i (by simpa using h)
    rw [show recsC (x :: l) = recC x ++ recsC l from rfl, show (i + 1) * 6 = i * 6 + 1 + 1 + 1 + 1 + 1 + 1 by omega]
    simp only [recC, List.cons_append, List.nil_append, List.drop_succ_cons]
    exact this
def recsV : Option (List Rec) → HV
  | none => .lit (.slice none 0 0)
  | some l => .list 6 l.length (recsC l) false
def batC (b : Bat) : List HV := [.lit (.int .i64 b.base), .lit (.int .i64 b.last), .lit (.int .i64 b.prod), .lit (.int .i64 b.epoch), .lit (.int .i64 b.seq), recsV b.recs]
theorem hc_recs (k : Option (List Rec)) : hcells (recsV k) = some [recsV k] := by cases k <;> rfl
theorem ho_recs (k : Option (List Rec)) : hone (recsV k) = true := by cases k <;> rfl
def ShortR (r : Rec) : Prop := short r.key ∧ short r.val
/-- A row of records that grows. -/
def OutR (b t : HS) (p : Nat) (A : HV) (o : List Rec) : Prop :=
  (A = .lit (.slice none 0 0) ∧ o = []) ∨ ∃ q, b q = none ∧ q ≠ p ∧ A = .view q 0 6 o.length false ∧ t q = some (.cells (recsC o)) ∧ o ≠ []
theorem OutR.keep {b t t' : HS} {p : Nat} {A : HV} {o : List Rec} (h : OutR b t p A o) (hk : ∀ q ob, q ≠ p → t q = some ob → t' q = some ob) : OutR b t' p A o := by
  rcases h with h | ⟨q, h1, h2, h3, h4, h5⟩
  · exact .inl h
  · exact .inr ⟨q, h1, h2, h3, hk _ _ h2 h4, h5⟩
theorem OutR.one {b t : HS} {p : Nat} {A : HV} {o : List Rec} (h : OutR b t p A o) : hone A = true ∧ hcells A = some [A] := by
  rcases h with ⟨rfl, -⟩ | ⟨q, -, -, rfl, -, -⟩ <;> exact ⟨rfl, rfl⟩
theorem outR_append {b t : HS} {p : Nat} {A : HV} {o : List Rec} {r : Rec} {ob : HObj} {W : HS → Prop} {K : HV → HS → Prop} (h : OutR b t p A o) (hb : HS.le b t) (hp : b p = none) (hr : t p = some ob) (hl : o.length ≤ 100000)
    (hW : ∀ s, s p = some ob → W s) (hK : ∀ A' t', OutR b t' p A' (o ++ [r]) → HS.le b t' → t' p = some ob → K A' t') :
    hBS t 6 1 [.lit (.int .i64 0), .lit (.int .i64 0), .lit (.bool false), .lit (.slice none 0 0), .lit (.bool false), .lit (.slice none 0 0)] [(0, .agg (recC r))] (fun x s => (W s ∧ hAppend s 6 80 A x K)) := by
  have e6 : (recC r).length = 6 := rfl
  simp [bindO, hcond, vCmp, vBin, vEq, vUn, vNil, vField, vLoad, takeCells, vIdx, vLenT, vLen, vExtract, hBS, hfill, hNew, hStore, hBox, hc_int, hc_bool, hc_string, hc_slice, hc_nilp, hc_nilm, hc_nilf, hc_agg, hc_list, hc_view, hc_ptr, hc_map, hc_func, ho_int, ho_bool, ho_string, ho_slice, ho_nilp, ho_nilm, ho_nilf, ho_list, ho_view, ho_ptr, ho_map, ho_func, putCells, hAppend, lcells, litCells, isNilS, llen, room, vMk, set_at, Join, vToInt, vSlice, cutAt, intAt, bl_len, bits64, bits64u, bits8, hfold, vMax2, vMin2, Try.underlying3, Try.underlying9, Try.underlying22, Try.underlying31, Try.underlying32, Try.underlying36, Try.underlying44, Try.underlying90, e6]
  intro i1 f1
  have n1 := ne_new hr f1
  have et : (recC r).take 6 = recC r := rfl
  refine ⟨hW _ (by rw [set_ne _ _ n1]; exact hr), ?_⟩
  rcases h with ⟨rfl, rfl⟩ | ⟨q, h1, h2, rfl, h3, -⟩
  · simp [bindO, hcond, vCmp, vBin, vEq, vUn, vNil, vField, vLoad, takeCells, vIdx, vLenT, vLen, vExtract, hBS, hfill, hNew, hStore, hBox, hc_int, hc_bool, hc_string, hc_slice, hc_nilp, hc_nilm, hc_nilf, hc_agg, hc_list, hc_view, hc_ptr, hc_map, hc_func, ho_int, ho_bool, ho_string, ho_slice, ho_nilp, ho_nilm, ho_nilf, ho_list, ho_view, ho_ptr, ho_map, ho_func, putCells, hAppend, lcells, litCells, isNilS, llen, room, vMk, set_at, Join, vToInt, vSlice, cutAt, intAt, bl_len, bits64, bits64u, bits8, hfold, vMax2, vMin2, Try.underlying3, Try.underlying9, Try.underlying22, Try.underlying31, Try.underlying32, Try.underlying36, Try.underlying44, Try.underlying90, e6, et]
    intro i2 f2
    simp only [set_none_iff] at f2
    have n2 := ne_new hr f2.2
    refine hK _ _ (.inr ⟨i2, none_of_le hb f2.2, Ne.symm n2, rfl, ?_, by simp⟩) (le_set_new _ (le_set_new _ hb f1) (by rw [set_none_iff]; exact f2)) ?_
    · rw [set_at]; simp [recsC]
    · rw [set_ne _ _ n2, set_ne _ _ n1]; exact hr
  · have m1 := ne_new h3 f1
    have el : (recsC o).length = o.length * 6 := recsC_len o
    simp [bindO, hcond, vCmp, vBin, vEq, vUn, vNil, vField, vLoad, takeCells, vIdx, vLenT, vLen, vExtract, hBS, hfill, hNew, hStore, hBox, hc_int, hc_bool, hc_string, hc_slice, hc_nilp, hc_nilm, hc_nilf, hc_agg, hc_list, hc_view, hc_ptr, hc_map, hc_func, ho_int, ho_bool, ho_string, ho_slice, ho_nilp, ho_nilm, ho_nilf, ho_list, ho_view, ho_ptr, ho_map, ho_func, putCells, hAppend, lcells, litCells, isNilS, llen, room, vMk, set_at, Join, vToInt, vSlice, cutAt, intAt, bl_len, bits64, bits64u, bits8, hfold, vMax2, vMin2, Try.underlying3, Try.underlying9, Try.underlying22, Try.underlying31, Try.underlying32, Try.underlying36, Try.underlying44, Try.underlying90, set_ne _ _ m1, h3, el, e6, et]
    refine ⟨by omega, fun i2 f2 => ?_⟩
    simp only [set_none_iff] at f2
    have n2 := ne_new hr f2.2
    have m2 := ne_new h3 f2.2
    refine hK _ _ (.inr ⟨i2, none_of_le hb f2.2, Ne.symm n2, by simp, ?_, by simp⟩) ?_ ?_
    · rw [set_at, recsC_app]; simp [recsC]
    · intro k ob hk
      have hkq : k ≠ q := by rintro rfl; rw [h1] at hk; cases hk
      have hk1 := hb k ob hk
      rw [set_ne _ _ (ne_new hk1 f2.2), del_ne _ hkq, set_ne _ _ (ne_new hk1 f1)]
      exact hk1
    · rw [set_ne _ _ n2, del_ne _ (Ne.symm h2), set_ne _ _ n1]; exact hr
theorem far (n : Int) (s : HS) : HC Try.prog 55 [.lit (.int .i64 n)] s (fun v s' => v = .lit (.int .i64 (min (max n (-2305843009213693952)) 2305843009213693952)) ∧ s' = s) := by
  refine HC55 ?_
  simp [c55, bindO, hcond, vCmp, vBin, vEq, vUn, vNil, vField, vLoad, takeCells, vIdx, vLenT, vLen, vExtract, hBS, hfill, hNew, hStore, hBox, hc_int, hc_bool, hc_string, hc_slice, hc_nilp, hc_nilm, hc_nilf, hc_agg, hc_list, hc_view, hc_ptr, hc_map, hc_func, ho_int, ho_bool, ho_string, ho_slice, ho_nilp, ho_nilm, ho_nilf, ho_list, ho_view, ho_ptr, ho_map, ho_func, putCells, hAppend, lcells, litCells, isNilS, llen, room, vMk, set_at, Join, vToInt, vSlice, cutAt, intAt, bl_len, bits64, bits64u, bits8, hfold, vMax2, vMin2, Try.underlying3, Try.underlying9, Try.underlying22, Try.underlying31, Try.underlying32, Try.underlying36, Try.underlying44, Try.underlying90]
  omega
theorem take_succ' {α : Type} (z : α) (l : List α) {i : Nat} (h : i < l.length) : l.take (i + 1) = l.take i ++ [l.getD i z] := by
  rw [List.take_succ_eq_append_getElem h]
  simp [List.getD, h]
theorem drop_cons' {α : Type} (z : α) (l : List α) {i : Nat} (h : i < l.length) : l.drop i = l.getD i z :: l.drop (i + 1) := by
  rw [List.drop_eq_getElem_cons h]
  simp [List.getD, h]
/-- A batch's own copy. -/
theorem copy (b : Bat) (l : List Rec) (s : HS) (hb : b.recs = some l) (hl : l.length ≤ 100000) (hs : ∀ r ∈ l, ShortR r) (hne : l ≠ []) : HC Try.prog 47 [.agg (batC b)] s (fun v s' => v = .agg (batC b) ∧ s' = s) := by
  obtain ⟨c0, c1, c2, c3, c4, recs⟩ := b
  simp only at hb
  subst hb
  refine HC.up (HC47 ?_)
  simp [c47, bindO, hcond, vCmp, vBin, vEq, vUn, vNil, vField, vLoad, takeCells, vIdx, vLenT, vLen, vExtract, hNew, hStore, hBox, hc_int, hc_bool, hc_string, hc_slice, hc_nilp, hc_nilm, hc_nilf, hc_agg, hc_list, hc_view, hc_ptr, hc_map, hc_func, ho_int, ho_bool, ho_string, ho_slice, ho_nilp, ho_nilm, ho_nilf, ho_list, ho_view, ho_ptr, ho_map, ho_func, putCells, lcells, litCells, isNilS, llen, room, vMk, set_at, Join, vToInt, vSlice, cutAt, intAt, bl_len, bits64, bits64u, bits8, hfold, vMax2, vMin2, Try.underlying3, Try.underlying9, Try.underlying22, Try.underlying31, Try.underlying32, Try.underlying36, Try.underlying44, Try.underlying90, recC_len, ho_recC, hcz, batC, recsV]
  intro p hp q hq
  have hpq := ne_new (set_at s p _) hq
  simp only [set_none_iff] at hq
  obtain ⟨-, hq⟩ := hq
  simp [bindO, hcond, vCmp, vBin, vEq, vUn, vNil, vField, vLoad, takeCells, vIdx, vLenT, vLen, vExtract, hNew, hStore, hBox, hc_int, hc_bool, hc_string, hc_slice, hc_nilp, hc_nilm, hc_nilf, hc_agg, hc_list, hc_view, hc_ptr, hc_map, hc_func, ho_int, ho_bool, ho_string, ho_slice, ho_nilp, ho_nilm, ho_nilf, ho_list, ho_view, ho_ptr, ho_map, ho_func, putCells, lcells, litCells, isNilS, llen, room, vMk, set_at, Join, vToInt, vSlice, cutAt, intAt, bl_len, bits64, bits64u, bits8, hfold, vMax2, vMin2, Try.underlying3, Try.underlying9, Try.underlying22, Try.underlying31, Try.underlying32, Try.underlying36, Try.underlying44, Try.underlying90, recC_len, ho_recC, hcz, set_ne _ _ hpq]
  obtain ⟨Z, hZ⟩ : ∃ Z, HObj.cells [.lit (.int .i64 0), .lit (.int .i64 0), .lit (.int .i64 0), .lit (.int .i64 0), .lit (.int .i64 0), .lit (.slice none 0 0)] = Z := ⟨_, rfl⟩
  rw [hZ]
  have hbp : (s.set q Z) p = none := by rw [set_ne _ _ hpq]; exact hp
  have hsb : HS.le s (s.set q Z) := le_set_new _ (le_refl' s) hq
  have hcut : (recsC l).take (l.length * 6) = recsC l := List.take_of_length_le (by rw [recsC_len]; exact Nat.le_refl _)
  refine HLoop.ghost (σ := HV × Nat) (fun g => [.lit (.int .i64 g.2)]) (fun g t => g.2 ≤ l.length ∧ HS.le (s.set q Z) t ∧ t p = some (.cells [.lit (.int .i64 c0), .lit (.int .i64 c1), .lit (.int .i64 c2), .lit (.int .i64 c3), .lit (.int .i64 c4), g.1]) ∧ OutR (s.set q Z) t p g.1 (l.take g.2)) (fun g => l.length - g.2) (.lit (.slice none 0 0), 0) rfl ?_ ?_
  · refine ⟨Nat.zero_le _, ?_, by rw [set_at], .inl ⟨rfl, rfl⟩⟩
    exact le_set_free _ (le_set (le_set_new _ (le_refl' s) hp) _ _) hbp
  · rintro ⟨A, i⟩ t K ⟨hi, hst, htp, ho⟩ hK
    simp only at hi hst htp ho
    by_cases hlt : i < l.length
    · have hlt' : (i : Int) < (l.length : Int) := by omega
      have hix := recsC_idx l i hlt
      have hts := take_succ' r0 l hlt
      have hsm := hs (l.getD i r0) (by rw [List.getD, List.getElem?_eq_getElem hlt]; exact List.getElem_mem hlt)
      generalize l.getD i r0 = x at *
      simp [bindO, hcond, vCmp, vBin, vEq, vUn, vNil, vField, vLoad, takeCells, vIdx, vLenT, vLen, vExtract, hNew, hStore, hBox, hc_int, hc_bool, hc_string, hc_slice, hc_nilp, hc_nilm, hc_nilf, hc_agg, hc_list, hc_view, hc_ptr, hc_map, hc_func, ho_int, ho_bool, ho_string, ho_slice, ho_nilp, ho_nilm, ho_nilf, ho_list, ho_view, ho_ptr, ho_map, ho_func, putCells, lcells, litCells, isNilS, llen, room, vMk, set_at, Join, vToInt, vSlice, cutAt, intAt, bl_len, bits64, bits64u, bits8, hfold, vMax2, vMin2, Try.underlying3, Try.underlying9, Try.underlying22, Try.underlying31, Try.underlying32, Try.underlying36, Try.underlying44, Try.underlying90, recC_len, ho_recC, hcz, hlt', hlt, hix]
      intro X hX
      have nX := ne_new htp hX
      simp [bindO, hcond, vCmp, vBin, vEq, vUn, vNil, vField, vLoad, takeCells, vIdx, vLenT, vLen, vExtract, hNew, hStore, hBox, hc_int, hc_bool, hc_string, hc_slice, hc_nilp, hc_nilm, hc_nilf, hc_agg, hc_list, hc_view, hc_ptr, hc_map, hc_func, ho_int, ho_bool, ho_string, ho_slice, ho_nilp, ho_nilm, ho_nilf, ho_list, ho_view, ho_ptr, ho_map, ho_func, putCells, lcells, litCells, isNilS, llen, room, vMk, set_at, Join, vToInt, vSlice, cutAt, intAt, bl_len, bits64, bits64u, bits8, hfold, vMax2, vMin2, Try.underlying3, Try.underlying9, Try.underlying22, Try.underlying31, Try.underlying32, Try.underlying36, Try.underlying44, Try.underlying90, recC_len, ho_recC, hcz, htp, set_ne _ _ nX]
      rw [set_set]
      refine (own x _ hsm.1 hsm.2).mono ?_
      rintro v s1 ⟨rfl, rfl⟩
      simp [bindO, hcond, vCmp, vBin, vEq, vUn, vNil, vField, vLoad, takeCells, vIdx, vLenT, vLen, vExtract, hNew, hStore, hBox, hc_int, hc_bool, hc_string, hc_slice, hc_nilp, hc_nilm, hc_nilf, hc_agg, hc_list, hc_view, hc_ptr, hc_map, hc_func, ho_int, ho_bool, ho_string, ho_slice, ho_nilp, ho_nilm, ho_nilf, ho_list, ho_view, ho_ptr, ho_map, ho_func, putCells, lcells, litCells, isNilS, llen, room, vMk, set_at, Join, vToInt, vSlice, cutAt, intAt, bl_len, bits64, bits64u, bits8, hfold, vMax2, vMin2, Try.underlying3, Try.underlying9, Try.underlying22, Try.underlying31, Try.underlying32, Try.underlying36, Try.underlying44, Try.underlying90, recC_len, ho_recC, hcz, htp, set_ne _ _ nX]
      refine outR_append (b := s.set q Z) (p := p) (o := l.take i) (r := x) (ob := _) ?_ (le_set_new _ hst hX) hbp (by rw [set_ne _ _ nX]; exact htp) (by rw [List.length_take]; omega) ?_ ?_
      · exact ho.keep fun k ob _ h => by rw [set_ne _ _ (ne_new h hX)]; exact h
      · intro s2 h2
        simp [h2]
      · intro A' t' h1 h2 h3
        have ho1 := h1.one
        simp [bindO, hcond, vCmp, vBin, vEq, vUn, vNil, vField, vLoad, takeCells, vIdx, vLenT, vLen, vExtract, hNew, hStore, hBox, hc_int, hc_bool, hc_string, hc_slice, hc_nilp, hc_nilm, hc_nilf, hc_agg, hc_list, hc_view, hc_ptr, hc_map, hc_func, ho_int, ho_bool, ho_string, ho_slice, ho_nilp, ho_nilm, ho_nilf, ho_list, ho_view, ho_ptr, ho_map, ho_func, putCells, lcells, litCells, isNilS, llen, room, vMk, set_at, Join, vToInt, vSlice, cutAt, intAt, bl_len, bits64, bits64u, bits8, hfold, vMax2, vMin2, Try.underlying3, Try.underlying9, Try.underlying22, Try.underlying31, Try.underlying32, Try.underlying36, Try.underlying44, Try.underlying90, recC_len, ho_recC, hcz, h3, ho1.1, ho1.2]
        refine hK (A', i + 1) _ _ (by rw [w64 (by omega) (by omega)]; rfl) ⟨hlt, le_set_free _ h2 hbp, set_at _ _ _, ?_⟩ (by show l.length - (i + 1) < l.length - i; omega)
        rw [hts]
        exact h1.keep fun k ob hk h => by rw [set_ne _ _ hk]; exact h
    · obtain rfl : i = l.length := by omega
      rw [List.take_length] at ho
      have htq : t q = some Z := hst q Z (set_at _ _ _)
      rw [← hZ] at htq
      have ho1 := ho.one
      simp [bindO, hcond, vCmp, vBin, vEq, vUn, vNil, vField, vLoad, takeCells, vIdx, vLenT, vLen, vExtract, hNew, hStore, hBox, hc_int, hc_bool, hc_string, hc_slice, hc_nilp, hc_nilm, hc_nilf, hc_agg, hc_list, hc_view, hc_ptr, hc_map, hc_func, ho_int, ho_bool, ho_string, ho_slice, ho_nilp, ho_nilm, ho_nilf, ho_list, ho_view, ho_ptr, ho_map, ho_func, putCells, lcells, litCells, isNilS, llen, room, vMk, set_at, Join, vToInt, vSlice, cutAt, intAt, bl_len, bits64, bits64u, bits8, hfold, vMax2, vMin2, Try.underlying3, Try.underlying9, Try.underlying22, Try.underlying31, Try.underlying32, Try.underlying36, Try.underlying44, Try.underlying90, recC_len, ho_recC, hcz, htp, htq, ho1.1, ho1.2]
      rcases ho with ⟨rfl, rfl⟩ | ⟨k, g1, g2, rfl, g3, -⟩
      · exact absurd rfl hne
      · have hkq : k ≠ q := by rintro rfl; rw [set_at] at g1; cases g1
        have hks : s k = none := none_of_le hsb g1
        have hu := UpL.frzD (xs := [.agg [.lit (.int .i64 c0), .lit (.int .i64 c1), .lit (.int .i64 c2), .lit (.int .i64 c3), .lit (.int .i64 c4), .view k 0 6 l.length false]]) (s := t.set q (.cells [.lit (.int .i64 c0), .lit (.int .i64 c1), .lit (.int .i64 c2), .lit (.int .i64 c3), .lit (.int .i64 c4), .view k 0 6 l.length false])) (s' := s) (by rw [set_ne _ _ hkq]; exact g3) (le_set_free _ (HS.le.trans hsb hst) hq) hks
        simpa [frz2, frz1, frz0, phi, recsC_len, hcut] using hu
end Go.Proofs.Ytecnfekcflfihaa.CL
