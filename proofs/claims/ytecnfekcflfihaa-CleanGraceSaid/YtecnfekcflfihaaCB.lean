/- Clean over the H layer: the map of keys. -/
import Derived.Test.YtecnfekcflfihaaCA
namespace Go.Proofs.Ytecnfekcflfihaa.CL
open Go.Proofs.Ytecnfekcflfihaa.H Go.Proofs.Ytecnfekcflfihaa.C0
set_option linter.unusedVariables false
set_option linter.unusedSimpArgs false
set_option maxRecDepth 100000

def keyB (k : Option (List Int)) : List UInt8 := (k.getD []).map fun n => UInt8.ofNat n.toNat
def kv (k : Option (List Int)) : Value := .string ⟨(keyB k).toArray⟩
theorem bytesOf_bl : ∀ l : List Int, bytesOf (bl l) = some (l.map fun n => UInt8.ofNat n.toNat)
  | [] => rfl
  | x :: l => by
    have := bytesOf_bl l
    unfold bytesOf bl at *
    simp [byteOfHV, this]
theorem toStr_by (s : HS) (k : Option (List Int)) : vToStr s (byV k) = some (.lit (kv k)) := by
  cases k with
  | none => rfl
  | some l =>
    simp only [vToStr, byV, lcells, if_true, Option.bind_some, bytesOf_bl, Option.map_some]
    rfl
theorem isStr_by (k : Option (List Int)) : isStrHV (byV k) = false := by cases k <;> rfl
theorem keyIs_kv (k : Option (List Int)) : keyIs .string (kv k) = true := rfl
theorem sameKey_str : sameKey .string .string = true := rfl
/-- A map of keys. -/
def mapO (M : Value → Option Int) (n : Nat) : HObj := .map .string (fun k => (M k).map fun x => .lit (.int .i64 x)) n
open Classical in
noncomputable def put (M : Value → Option Int) (k : Value) (x : Int) : Value → Option Int := fun q => if q = k then some x else M q
theorem mapO_put (M : Value → Option Int) (k : Value) (x : Int) (n : Nat) : HObj.map .string (fput (fun k => (M k).map fun x => .lit (.int .i64 x)) k (some (.lit (.int .i64 x)))) n = mapO (put M k x) n := by
  unfold mapO put fput
  congr
  funext q
  split <;> rfl
def kmO (most : Int) (mid : Nat) : HObj := .cells [.lit (.int .i64 most), .map mid]
/-- A keymap at p. -/
def IsKM (s : HS) (p mid : Nat) (most : Int) (M : Value → Option Int) (n : Nat) : Prop := s p = some (kmO most mid) ∧ s mid = some (mapO M n)
theorem len {s : HS} {p mid : Nat} {most : Int} {M : Value → Option Int} {n : Nat} (h : IsKM s p mid most M n) : HC Try.prog 50 [.ptr p 0] s (fun v s' => v = .lit (.int .i64 n) ∧ s' = s) := by
  refine HC50 ?_
  have h1 := h.1
  have h2 := h.2
  simp only [kmO, mapO] at h1 h2
  simp [c50, bindO, hcond, vCmp, vBin, vEq, vUn, vNil, vField, vLoad, takeCells, vIdx, vLenT, vLen, vExtract, hBS, hfill, hNew, hStore, hBox, hc_int, hc_bool, hc_string, hc_slice, hc_nilp, hc_nilm, hc_nilf, hc_agg, hc_list, hc_view, hc_ptr, hc_map, hc_func, ho_int, ho_bool, ho_string, ho_slice, ho_nilp, ho_nilm, ho_nilf, ho_list, ho_view, ho_ptr, ho_map, ho_func, putCells, hAppend, lcells, litCells, isNilS, llen, room, vMk, set_at, Join, vToInt, vSlice, cutAt, intAt, bl_len, bits64, bits64u, bits8, hfold, vMax2, vMin2, Try.underlying3, Try.underlying9, Try.underlying22, Try.underlying31, Try.underlying32, Try.underlying36, Try.underlying44, Try.underlying90, h1, h2]
theorem last {s : HS} {p mid : Nat} {most : Int} {M : Value → Option Int} {n : Nat} (h : IsKM s p mid most M n) (k : Option (List Int)) :
    HC Try.prog 54 [.ptr p 0, byV k] s (fun v s' => v = .tup [.lit (.int .i64 ((M (kv k)).getD 0)), .lit (.bool (M (kv k)).isSome)] ∧ s' = s) := by
  refine HC54 ?_
  have h1 := h.1
  have h2 := h.2
  simp only [kmO, mapO] at h1 h2
  have h3 := toStr_by s k
  have h4 := isStr_by k
  have h5 := keyIs_kv k
  generalize kv k = K at *
  generalize byV k = B at *
  simp [c54, bindO, hcond, vCmp, vBin, vEq, vUn, vNil, vField, vLoad, takeCells, vIdx, vLenT, vLen, vExtract, hBS, hfill, hNew, hStore, hBox, hc_int, hc_bool, hc_string, hc_slice, hc_nilp, hc_nilm, hc_nilf, hc_agg, hc_list, hc_view, hc_ptr, hc_map, hc_func, ho_int, ho_bool, ho_string, ho_slice, ho_nilp, ho_nilm, ho_nilf, ho_list, ho_view, ho_ptr, ho_map, ho_func, putCells, hAppend, lcells, litCells, isNilS, llen, room, vMk, set_at, Join, vToInt, vSlice, cutAt, intAt, bl_len, bits64, bits64u, bits8, hfold, vMax2, vMin2, Try.underlying3, Try.underlying9, Try.underlying22, Try.underlying31, Try.underlying32, Try.underlying36, Try.underlying44, Try.underlying90, h1, h2, h3, h4, vLookup, h5, sameKey_str]
theorem new (most : Int) (s : HS) (h1 : 1 ≤ most) (h2 : most ≤ 1000000) : HC Try.prog 49 [.lit (.int .i64 most)] s (fun v s' => ∃ p mid, s p = none ∧ s mid = none ∧ v = .tup [.ptr p 0, .lit (.int .i64 0)] ∧ HS.le s s' ∧ IsKM s' p mid most (fun _ => none) 0) := by
  refine HC49 ?_
  have e1 : ¬ most < 1 := by omega
  have e2 : ¬ 1000000 < most := by omega
  simp [c49, bindO, hcond, vCmp, vBin, vEq, vUn, vNil, vField, vLoad, takeCells, vIdx, vLenT, vLen, vExtract, hBS, hfill, hNew, hStore, hBox, hc_int, hc_bool, hc_string, hc_slice, hc_nilp, hc_nilm, hc_nilf, hc_agg, hc_list, hc_view, hc_ptr, hc_map, hc_func, ho_int, ho_bool, ho_string, ho_slice, ho_nilp, ho_nilm, ho_nilf, ho_list, ho_view, ho_ptr, ho_map, ho_func, putCells, hAppend, lcells, litCells, isNilS, llen, room, vMk, set_at, Join, vToInt, vSlice, cutAt, intAt, bl_len, bits64, bits64u, bits8, hfold, vMax2, vMin2, Try.underlying3, Try.underlying9, Try.underlying22, Try.underlying31, Try.underlying32, Try.underlying36, Try.underlying44, Try.underlying90, e1, e2]
  intro mid hm p hp
  have hne := ne_new (set_at s mid _) hp
  have hp' := hp
  simp only [set_none_iff] at hp'
  exact ⟨p, hp'.2, mid, hm, rfl, le_set_new _ (le_set_new _ (le_refl' s) hm) hp, set_at _ _ _, by rw [set_ne _ _ hne, set_at]; rfl⟩
theorem offer {s : HS} {p mid : Nat} {most : Int} {M : Value → Option Int} {n : Nat} (h : IsKM s p mid most M n) (k : Option (List Int)) (x : Int) (hroom : (n : Int) < most ∨ (M (kv k)).isSome = true) :
    HC Try.prog 52 [.ptr p 0, byV k, .lit (.int .i64 x)] s (fun v s' => v = .lit (.bool true) ∧ s' = s.set mid (mapO (put M (kv k) (match M (kv k) with | some y => max x y | none => x)) (if (M (kv k)).isSome then n else n + 1))) := by
  refine HC52 ?_
  have h1 := h.1
  have h2 := h.2
  simp only [kmO, mapO] at h1 h2
  have h3 := toStr_by s k
  have h4 := isStr_by k
  have h5 := keyIs_kv k
  have h6 := mapO_put M (kv k)
  generalize kv k = K at *
  generalize byV k = B at *
  cases hM : M K with
  | none =>
    have hr : ¬ most ≤ (n : Int) := by rcases hroom with h | h; omega; rw [hM] at h; cases h
    simp [c52, bindO, hcond, vCmp, vBin, vEq, vUn, vNil, vField, vLoad, takeCells, vIdx, vLenT, vLen, vExtract, hBS, hfill, hNew, hStore, hBox, hc_int, hc_bool, hc_string, hc_slice, hc_nilp, hc_nilm, hc_nilf, hc_agg, hc_list, hc_view, hc_ptr, hc_map, hc_func, ho_int, ho_bool, ho_string, ho_slice, ho_nilp, ho_nilm, ho_nilf, ho_list, ho_view, ho_ptr, ho_map, ho_func, putCells, hAppend, lcells, litCells, isNilS, llen, room, vMk, set_at, Join, vToInt, vSlice, cutAt, intAt, bl_len, bits64, bits64u, bits8, hfold, vMax2, vMin2, Try.underlying3, Try.underlying9, Try.underlying22, Try.underlying31, Try.underlying32, Try.underlying36, Try.underlying44, Try.underlying90, h1, h2, h3, h4, vLookup, hMapSet, h5, sameKey_str, hM, hr]
    rw [h6]
  | some y =>
    simp [c52, bindO, hcond, vCmp, vBin, vEq, vUn, vNil, vField, vLoad, takeCells, vIdx, vLenT, vLen, vExtract, hBS, hfill, hNew, hStore, hBox, hc_int, hc_bool, hc_string, hc_slice, hc_nilp, hc_nilm, hc_nilf, hc_agg, hc_list, hc_view, hc_ptr, hc_map, hc_func, ho_int, ho_bool, ho_string, ho_slice, ho_nilp, ho_nilm, ho_nilf, ho_list, ho_view, ho_ptr, ho_map, ho_func, putCells, hAppend, lcells, litCells, isNilS, llen, room, vMk, set_at, Join, vToInt, vSlice, cutAt, intAt, bl_len, bits64, bits64u, bits8, hfold, vMax2, vMin2, Try.underlying3, Try.underlying9, Try.underlying22, Try.underlying31, Try.underlying32, Try.underlying36, Try.underlying44, Try.underlying90, h1, h2, h3, h4, vLookup, hMapSet, h5, sameKey_str, hM]
    rw [h6]
    rw [show (if x < y then y else x) = max x y by omega]
/-- Whether a record stays. -/
def stays (r : Rec) (M : Value → Option Int) (upto now grace : Int) : Bool :=
  if r.hasKey = false ∨ r.off ≥ upto then true else match M (kv r.key) with
  | none => true
  | some l => if l > r.off then false else if r.hasVal = false ∧ min (max now (-2305843009213693952)) 2305843009213693952 - min (max r.time (-2305843009213693952)) 2305843009213693952 > grace then false else true
theorem record {s : HS} {p mid : Nat} {most : Int} {M : Value → Option Int} {n : Nat} (h : IsKM s p mid most M n) (r : Rec) (upto now grace : Int) :
    HC Try.prog 21 [.agg (recC r), .ptr p 0, .lit (.int .i64 upto), .lit (.int .i64 now), .lit (.int .i64 grace)] s (fun v s' => v = .lit (.bool (stays r M upto now grace)) ∧ s' = s) := by
  refine HC.weaken (HC21 ?_)
  obtain ⟨off, time, hk, key, hv, val⟩ := r
  simp only [recC]
  simp [c21, bindO, hcond, vCmp, vBin, vEq, vUn, vNil, vField, vLoad, takeCells, vIdx, vLenT, vLen, vExtract, hBS, hfill, hNew, hStore, hBox, hc_int, hc_bool, hc_string, hc_slice, hc_nilp, hc_nilm, hc_nilf, hc_agg, hc_list, hc_view, hc_ptr, hc_map, hc_func, ho_int, ho_bool, ho_string, ho_slice, ho_nilp, ho_nilm, ho_nilf, ho_list, ho_view, ho_ptr, ho_map, ho_func, putCells, hAppend, lcells, litCells, isNilS, llen, room, vMk, set_at, Join, vToInt, vSlice, cutAt, intAt, bl_len, bits64, bits64u, bits8, hfold, vMax2, vMin2, Try.underlying3, Try.underlying9, Try.underlying22, Try.underlying31, Try.underlying32, Try.underlying36, Try.underlying44, Try.underlying90]
  intro i hi
  have hkm : IsKM (s.set i (.cells [.lit (.int .i64 off), .lit (.int .i64 time), .lit (.bool hk), byV key, .lit (.bool hv), byV val])) p mid most M n := ⟨by rw [set_ne _ _ (ne_new h.1 hi)]; exact h.1, by rw [set_ne _ _ (ne_new h.2 hi)]; exact h.2⟩
  have hle := le_set_new (HObj.cells [.lit (.int .i64 off), .lit (.int .i64 time), .lit (.bool hk), byV key, .lit (.bool hv), byV val]) (le_refl' s) hi
  have hat := set_at s i (HObj.cells [.lit (.int .i64 off), .lit (.int .i64 time), .lit (.bool hk), byV key, .lit (.bool hv), byV val])
  generalize s.set i (HObj.cells [.lit (.int .i64 off), .lit (.int .i64 time), .lit (.bool hk), byV key, .lit (.bool hv), byV val]) = t at *
  have hst : ∀ b, ∃ s'', HS.le s'' t ∧ (HV.lit (.bool b) = .lit (.bool b) ∧ s'' = s) := fun b => ⟨s, hle, rfl, rfl⟩
  cases hk with
  | false =>
    simp [bindO, hcond, vCmp, vBin, vEq, vUn, vNil, vField, vLoad, takeCells, vIdx, vLenT, vLen, vExtract, hBS, hfill, hNew, hStore, hBox, hc_int, hc_bool, hc_string, hc_slice, hc_nilp, hc_nilm, hc_nilf, hc_agg, hc_list, hc_view, hc_ptr, hc_map, hc_func, ho_int, ho_bool, ho_string, ho_slice, ho_nilp, ho_nilm, ho_nilf, ho_list, ho_view, ho_ptr, ho_map, ho_func, putCells, hAppend, lcells, litCells, isNilS, llen, room, vMk, set_at, Join, vToInt, vSlice, cutAt, intAt, bl_len, bits64, bits64u, bits8, hfold, vMax2, vMin2, Try.underlying3, Try.underlying9, Try.underlying22, Try.underlying31, Try.underlying32, Try.underlying36, Try.underlying44, Try.underlying90, stays]
    exact hle
  | true =>
    by_cases hu : upto ≤ off
    · simp [bindO, hcond, vCmp, vBin, vEq, vUn, vNil, vField, vLoad, takeCells, vIdx, vLenT, vLen, vExtract, hBS, hfill, hNew, hStore, hBox, hc_int, hc_bool, hc_string, hc_slice, hc_nilp, hc_nilm, hc_nilf, hc_agg, hc_list, hc_view, hc_ptr, hc_map, hc_func, ho_int, ho_bool, ho_string, ho_slice, ho_nilp, ho_nilm, ho_nilf, ho_list, ho_view, ho_ptr, ho_map, ho_func, putCells, hAppend, lcells, litCells, isNilS, llen, room, vMk, set_at, Join, vToInt, vSlice, cutAt, intAt, bl_len, bits64, bits64u, bits8, hfold, vMax2, vMin2, Try.underlying3, Try.underlying9, Try.underlying22, Try.underlying31, Try.underlying32, Try.underlying36, Try.underlying44, Try.underlying90, stays, hat, hu]
      exact hle
    · simp [bindO, hcond, vCmp, vBin, vEq, vUn, vNil, vField, vLoad, takeCells, vIdx, vLenT, vLen, vExtract, hBS, hfill, hNew, hStore, hBox, hc_int, hc_bool, hc_string, hc_slice, hc_nilp, hc_nilm, hc_nilf, hc_agg, hc_list, hc_view, hc_ptr, hc_map, hc_func, ho_int, ho_bool, ho_string, ho_slice, ho_nilp, ho_nilm, ho_nilf, ho_list, ho_view, ho_ptr, ho_map, ho_func, putCells, hAppend, lcells, litCells, isNilS, llen, room, vMk, set_at, Join, vToInt, vSlice, cutAt, intAt, bl_len, bits64, bits64u, bits8, hfold, vMax2, vMin2, Try.underlying3, Try.underlying9, Try.underlying22, Try.underlying31, Try.underlying32, Try.underlying36, Try.underlying44, Try.underlying90, hat, hu]
      refine (last hkm key).mono ?_
      rintro v s1 ⟨rfl, rfl⟩
      cases hM : M (kv key) with
      | none =>
        simp [bindO, hcond, vCmp, vBin, vEq, vUn, vNil, vField, vLoad, takeCells, vIdx, vLenT, vLen, vExtract, hBS, hfill, hNew, hStore, hBox, hc_int, hc_bool, hc_string, hc_slice, hc_nilp, hc_nilm, hc_nilf, hc_agg, hc_list, hc_view, hc_ptr, hc_map, hc_func, ho_int, ho_bool, ho_string, ho_slice, ho_nilp, ho_nilm, ho_nilf, ho_list, ho_view, ho_ptr, ho_map, ho_func, putCells, hAppend, lcells, litCells, isNilS, llen, room, vMk, set_at, Join, vToInt, vSlice, cutAt, intAt, bl_len, bits64, bits64u, bits8, hfold, vMax2, vMin2, Try.underlying3, Try.underlying9, Try.underlying22, Try.underlying31, Try.underlying32, Try.underlying36, Try.underlying44, Try.underlying90, stays, hM, hu]
        exact hle
      | some l =>
        by_cases hl : off < l
        · simp [bindO, hcond, vCmp, vBin, vEq, vUn, vNil, vField, vLoad, takeCells, vIdx, vLenT, vLen, vExtract, hBS, hfill, hNew, hStore, hBox, hc_int, hc_bool, hc_string, hc_slice, hc_nilp, hc_nilm, hc_nilf, hc_agg, hc_list, hc_view, hc_ptr, hc_map, hc_func, ho_int, ho_bool, ho_string, ho_slice, ho_nilp, ho_nilm, ho_nilf, ho_list, ho_view, ho_ptr, ho_map, ho_func, putCells, hAppend, lcells, litCells, isNilS, llen, room, vMk, set_at, Join, vToInt, vSlice, cutAt, intAt, bl_len, bits64, bits64u, bits8, hfold, vMax2, vMin2, Try.underlying3, Try.underlying9, Try.underlying22, Try.underlying31, Try.underlying32, Try.underlying36, Try.underlying44, Try.underlying90, stays, hM, hu, hat, hl]
          exact hle
        · cases hv with
          | true =>
            simp [bindO, hcond, vCmp, vBin, vEq, vUn, vNil, vField, vLoad, takeCells, vIdx, vLenT, vLen, vExtract, hBS, hfill, hNew, hStore, hBox, hc_int, hc_bool, hc_string, hc_slice, hc_nilp, hc_nilm, hc_nilf, hc_agg, hc_list, hc_view, hc_ptr, hc_map, hc_func, ho_int, ho_bool, ho_string, ho_slice, ho_nilp, ho_nilm, ho_nilf, ho_list, ho_view, ho_ptr, ho_map, ho_func, putCells, hAppend, lcells, litCells, isNilS, llen, room, vMk, set_at, Join, vToInt, vSlice, cutAt, intAt, bl_len, bits64, bits64u, bits8, hfold, vMax2, vMin2, Try.underlying3, Try.underlying9, Try.underlying22, Try.underlying31, Try.underlying32, Try.underlying36, Try.underlying44, Try.underlying90, stays, hM, hu, hat, hl]
            exact hle
          | false =>
            simp [bindO, hcond, vCmp, vBin, vEq, vUn, vNil, vField, vLoad, takeCells, vIdx, vLenT, vLen, vExtract, hBS, hfill, hNew, hStore, hBox, hc_int, hc_bool, hc_string, hc_slice, hc_nilp, hc_nilm, hc_nilf, hc_agg, hc_list, hc_view, hc_ptr, hc_map, hc_func, ho_int, ho_bool, ho_string, ho_slice, ho_nilp, ho_nilm, ho_nilf, ho_list, ho_view, ho_ptr, ho_map, ho_func, putCells, hAppend, lcells, litCells, isNilS, llen, room, vMk, set_at, Join, vToInt, vSlice, cutAt, intAt, bl_len, bits64, bits64u, bits8, hfold, vMax2, vMin2, Try.underlying3, Try.underlying9, Try.underlying22, Try.underlying31, Try.underlying32, Try.underlying36, Try.underlying44, Try.underlying90, hM, hu, hat, hl]
            refine (far now s1).mono ?_
            rintro v s2 ⟨rfl, rfl⟩
            simp only [hat]
            refine ⟨rfl, ?_⟩
            refine (far time s2).mono ?_
            rintro v s3 ⟨rfl, rfl⟩
            have hw := w64 (x := min (max now (-2305843009213693952)) 2305843009213693952 - min (max time (-2305843009213693952)) 2305843009213693952) (by omega) (by omega)
            by_cases hg : grace < min (max now (-2305843009213693952)) 2305843009213693952 - min (max time (-2305843009213693952)) 2305843009213693952
            · simp [hw, hg, stays, hM, hu, hl]
              exact hle
            · simp [hw, hg, stays, hM, hu, hl]
              exact hle
/-- Keys of records from an offset on that are not there. -/
def isFresh (M : Value → Option Int) (from_ : Int) (r : Rec) : Bool := r.hasKey && decide (from_ ≤ r.off) && !(M (kv r.key)).isSome
noncomputable def freshStep (M : Value → Option Int) (from_ : Int) (g : (Value → Option Int) × Nat) (r : Rec) : (Value → Option Int) × Nat :=
  if isFresh M from_ r = true then (put g.1 (kv r.key) (IntKind.i64.wrap ((g.1 (kv r.key)).getD 0 + 1)), if (g.1 (kv r.key)).isSome then g.2 else g.2 + 1) else g
noncomputable def freshF (M : Value → Option Int) (from_ : Int) (l : List Rec) : (Value → Option Int) × Nat := l.foldl (freshStep M from_) (fun _ => none, 0)
theorem IsKM.le {s t : HS} {p mid : Nat} {most : Int} {M : Value → Option Int} {n : Nat} (h : IsKM s p mid most M n) (hle : HS.le s t) : IsKM t p mid most M n := ⟨hle _ _ h.1, hle _ _ h.2⟩
theorem fresh {s : HS} {p mid : Nat} {most : Int} {M : Value → Option Int} {n : Nat} (h : IsKM s p mid most M n) (b : Bat) (l : List Rec) (hb : b.recs = some l) (hl : l.length ≤ 100000) (from_ : Int) :
    HC Try.prog 51 [.ptr p 0, .agg (batC b), .lit (.int .i64 from_)] s (fun v s' => v = .lit (.int .i64 (freshF M from_ l).2) ∧ s' = s) := by
  refine HC.weaken (HC51 ?_)
  obtain ⟨c0, c1, c2, c3, c4, recs⟩ := b
  simp only at hb
  subst hb
  simp [c51, bindO, hcond, vCmp, vBin, vEq, vUn, vNil, vField, vLoad, takeCells, vIdx, vLenT, vLen, vExtract, hNew, hStore, hBox, hc_int, hc_bool, hc_string, hc_slice, hc_nilp, hc_nilm, hc_nilf, hc_agg, hc_list, hc_view, hc_ptr, hc_map, hc_func, ho_int, ho_bool, ho_string, ho_slice, ho_nilp, ho_nilm, ho_nilf, ho_list, ho_view, ho_ptr, ho_map, ho_func, putCells, lcells, litCells, isNilS, llen, room, vMk, set_at, Join, vToInt, vSlice, cutAt, intAt, bl_len, bits64, bits64u, bits8, hfold, vMax2, vMin2, Try.underlying3, Try.underlying9, Try.underlying22, Try.underlying31, Try.underlying32, Try.underlying36, Try.underlying44, Try.underlying90, recC_len, ho_recC, hcz, batC, recsV]
  intro i1 f1 mm f2
  have n1 := ne_new (set_at s i1 _) f2
  simp only [set_none_iff] at f2
  obtain ⟨-, f2⟩ := f2
  simp [bindO, hcond, vCmp, vBin, vEq, vUn, vNil, vField, vLoad, takeCells, vIdx, vLenT, vLen, vExtract, hNew, hStore, hBox, hc_int, hc_bool, hc_string, hc_slice, hc_nilp, hc_nilm, hc_nilf, hc_agg, hc_list, hc_view, hc_ptr, hc_map, hc_func, ho_int, ho_bool, ho_string, ho_slice, ho_nilp, ho_nilm, ho_nilf, ho_list, ho_view, ho_ptr, ho_map, ho_func, putCells, lcells, litCells, isNilS, llen, room, vMk, set_at, Join, vToInt, vSlice, cutAt, intAt, bl_len, bits64, bits64u, bits8, hfold, vMax2, vMin2, Try.underlying3, Try.underlying9, Try.underlying22, Try.underlying31, Try.underlying32, Try.underlying36, Try.underlying44, Try.underlying90, recC_len, ho_recC, hcz, set_ne _ _ n1]
  refine HLoop.ghost (σ := Nat) (fun i => [.lit (.int .i64 i)]) (fun i t => i ≤ l.length ∧ HS.le s t ∧ t mm = some (mapO (freshF M from_ (l.take i)).1 (freshF M from_ (l.take i)).2)) (fun i => l.length - i) 0 rfl ⟨Nat.zero_le _, by repeat (first | exact le_refl' _ | exact HS.le.trans (by assumption) (by assumption) | assumption | refine le_set_free _ ?_ (by assumption)), by rw [set_at]; rfl⟩ ?_
  rintro i t K ⟨hi, hst, htm⟩ hK
  by_cases hlt : i < l.length
  · have hlt' : (i : Int) < (l.length : Int) := by omega
    have hix := recsC_idx l i hlt
    have hts := take_succ' r0 l hlt
    generalize l.getD i r0 = x at *
    simp [bindO, hcond, vCmp, vBin, vEq, vUn, vNil, vField, vLoad, takeCells, vIdx, vLenT, vLen, vExtract, hNew, hStore, hBox, hc_int, hc_bool, hc_string, hc_slice, hc_nilp, hc_nilm, hc_nilf, hc_agg, hc_list, hc_view, hc_ptr, hc_map, hc_func, ho_int, ho_bool, ho_string, ho_slice, ho_nilp, ho_nilm, ho_nilf, ho_list, ho_view, ho_ptr, ho_map, ho_func, putCells, lcells, litCells, isNilS, llen, room, vMk, set_at, Join, vToInt, vSlice, cutAt, intAt, bl_len, bits64, bits64u, bits8, hfold, vMax2, vMin2, Try.underlying3, Try.underlying9, Try.underlying22, Try.underlying31, Try.underlying32, Try.underlying36, Try.underlying44, Try.underlying90, recC_len, ho_recC, hcz, hlt', hlt, hix]
    intro X hX
    have nX := ne_new htm hX
    rw [set_set]
    have hk1 : IsKM (t.set X (.cells (recC x))) p mid most M n := (h.le hst).le (le_set_new _ (le_refl' t) hX)
    have hF : freshF M from_ (l.take (i + 1)) = freshStep M from_ (freshF M from_ (l.take i)) x := by rw [hts]; simp [freshF]
    have hle1 : HS.le s (t.set X (.cells (recC x))) := le_set_new _ hst hX
    have htm1 : (t.set X (.cells (recC x))) mm = some (mapO (freshF M from_ (l.take i)).1 (freshF M from_ (l.take i)).2) := by rw [set_ne _ _ nX]; exact htm
    have hat := set_at t X (.cells (recC x))
    generalize t.set X (.cells (recC x)) = t1 at *
    obtain ⟨off, time, hk, key, hv, val⟩ := x
    simp only [recC] at hat
    simp [bindO, hcond, vCmp, vBin, vEq, vUn, vNil, vField, vLoad, takeCells, vIdx, vLenT, vLen, vExtract, hNew, hStore, hBox, hc_int, hc_bool, hc_string, hc_slice, hc_nilp, hc_nilm, hc_nilf, hc_agg, hc_list, hc_view, hc_ptr, hc_map, hc_func, ho_int, ho_bool, ho_string, ho_slice, ho_nilp, ho_nilm, ho_nilf, ho_list, ho_view, ho_ptr, ho_map, ho_func, putCells, lcells, litCells, isNilS, llen, room, vMk, set_at, Join, vToInt, vSlice, cutAt, intAt, bl_len, bits64, bits64u, bits8, hfold, vMax2, vMin2, Try.underlying3, Try.underlying9, Try.underlying22, Try.underlying31, Try.underlying32, Try.underlying36, Try.underlying44, Try.underlying90, recC_len, ho_recC, hcz, hat, recC]
    refine (last hk1 key).mono ?_
    rintro v s1 ⟨rfl, rfl⟩
    generalize freshF M from_ (l.take i) = g at *
    have hgo : isFresh M from_ ⟨off, time, hk, key, hv, val⟩ = false → K [.lit (.int .i64 (IntKind.i64.wrap ((i : Int) + 1)))] s1 := by
      intro hf
      refine hK (i + 1) _ _ (by rw [w64 (by omega) (by omega)]; rfl) ⟨hlt, hle1, ?_⟩ (by omega)
      rw [hF, freshStep, hf]
      exact htm1
    cases hk with
    | false =>
      simp [bindO, hcond, vCmp, vBin, vEq, vUn, vNil, vField, vLoad, takeCells, vIdx, vLenT, vLen, vExtract, hNew, hStore, hBox, hc_int, hc_bool, hc_string, hc_slice, hc_nilp, hc_nilm, hc_nilf, hc_agg, hc_list, hc_view, hc_ptr, hc_map, hc_func, ho_int, ho_bool, ho_string, ho_slice, ho_nilp, ho_nilm, ho_nilf, ho_list, ho_view, ho_ptr, ho_map, ho_func, putCells, lcells, litCells, isNilS, llen, room, vMk, set_at, Join, vToInt, vSlice, cutAt, intAt, bl_len, bits64, bits64u, bits8, hfold, vMax2, vMin2, Try.underlying3, Try.underlying9, Try.underlying22, Try.underlying31, Try.underlying32, Try.underlying36, Try.underlying44, Try.underlying90, recC_len, ho_recC, hcz, hat]
      exact hgo (by simp [isFresh])
    | true =>
      by_cases ho : from_ ≤ off
      · cases hM : M (kv key) with
        | some y =>
          simp [bindO, hcond, vCmp, vBin, vEq, vUn, vNil, vField, vLoad, takeCells, vIdx, vLenT, vLen, vExtract, hNew, hStore, hBox, hc_int, hc_bool, hc_string, hc_slice, hc_nilp, hc_nilm, hc_nilf, hc_agg, hc_list, hc_view, hc_ptr, hc_map, hc_func, ho_int, ho_bool, ho_string, ho_slice, ho_nilp, ho_nilm, ho_nilf, ho_list, ho_view, ho_ptr, ho_map, ho_func, putCells, lcells, litCells, isNilS, llen, room, vMk, set_at, Join, vToInt, vSlice, cutAt, intAt, bl_len, bits64, bits64u, bits8, hfold, vMax2, vMin2, Try.underlying3, Try.underlying9, Try.underlying22, Try.underlying31, Try.underlying32, Try.underlying36, Try.underlying44, Try.underlying90, recC_len, ho_recC, hcz, hat, ho, hM]
          exact hgo (by simp [isFresh, hM])
        | none =>
          have h3 := toStr_by s1 key
          have h4 := isStr_by key
          have h5 := keyIs_kv key
          have h6 := mapO_put g.1 (kv key)
          simp only [mapO] at htm1
          simp [bindO, hcond, vCmp, vBin, vEq, vUn, vNil, vField, vLoad, takeCells, vIdx, vLenT, vLen, vExtract, hNew, hStore, hBox, hc_int, hc_bool, hc_string, hc_slice, hc_nilp, hc_nilm, hc_nilf, hc_agg, hc_list, hc_view, hc_ptr, hc_map, hc_func, ho_int, ho_bool, ho_string, ho_slice, ho_nilp, ho_nilm, ho_nilf, ho_list, ho_view, ho_ptr, ho_map, ho_func, putCells, lcells, litCells, isNilS, llen, room, vMk, set_at, Join, vToInt, vSlice, cutAt, intAt, bl_len, bits64, bits64u, bits8, hfold, vMax2, vMin2, Try.underlying3, Try.underlying9, Try.underlying22, Try.underlying31, Try.underlying32, Try.underlying36, Try.underlying44, Try.underlying90, recC_len, ho_recC, hcz, hat, ho, hM, h3, h4, vLookup, hMapSet, h5, sameKey_str, htm1]
          rw [h6]
          refine hK (i + 1) _ _ (by rw [w64 (by omega) (by omega)]; rfl) ⟨hlt, le_set_free _ hle1 f2, ?_⟩ (by omega)
          have hf : isFresh M from_ ⟨off, time, true, key, hv, val⟩ = true := by simp [isFresh, hM, ho]
          rw [set_at, hF, freshStep, if_pos hf]
      · simp [bindO, hcond, vCmp, vBin, vEq, vUn, vNil, vField, vLoad, takeCells, vIdx, vLenT, vLen, vExtract, hNew, hStore, hBox, hc_int, hc_bool, hc_string, hc_slice, hc_nilp, hc_nilm, hc_nilf, hc_agg, hc_list, hc_view, hc_ptr, hc_map, hc_func, ho_int, ho_bool, ho_string, ho_slice, ho_nilp, ho_nilm, ho_nilf, ho_list, ho_view, ho_ptr, ho_map, ho_func, putCells, lcells, litCells, isNilS, llen, room, vMk, set_at, Join, vToInt, vSlice, cutAt, intAt, bl_len, bits64, bits64u, bits8, hfold, vMax2, vMin2, Try.underlying3, Try.underlying9, Try.underlying22, Try.underlying31, Try.underlying32, Try.underlying36, Try.underlying44, Try.underlying90, recC_len, ho_recC, hcz, hat, ho]
        exact hgo (by simp [isFresh, ho])
  · obtain rfl : i = l.length := by omega
    rw [List.take_length] at htm
    simp only [mapO] at htm
    simp [bindO, hcond, vCmp, vBin, vEq, vUn, vNil, vField, vLoad, takeCells, vIdx, vLenT, vLen, vExtract, hNew, hStore, hBox, hc_int, hc_bool, hc_string, hc_slice, hc_nilp, hc_nilm, hc_nilf, hc_agg, hc_list, hc_view, hc_ptr, hc_map, hc_func, ho_int, ho_bool, ho_string, ho_slice, ho_nilp, ho_nilm, ho_nilf, ho_list, ho_view, ho_ptr, ho_map, ho_func, putCells, lcells, litCells, isNilS, llen, room, vMk, set_at, Join, vToInt, vSlice, cutAt, intAt, bl_len, bits64, bits64u, bits8, hfold, vMax2, vMin2, Try.underlying3, Try.underlying9, Try.underlying22, Try.underlying31, Try.underlying32, Try.underlying36, Try.underlying44, Try.underlying90, recC_len, ho_recC, hcz, htm]
    exact hst
end Go.Proofs.Ytecnfekcflfihaa.CL
