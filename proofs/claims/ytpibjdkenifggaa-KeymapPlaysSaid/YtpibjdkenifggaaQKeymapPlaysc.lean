/- What the proof of the law KeymapPlays needs, cut out of the session's own texts by a program (slim.py): part 3. -/
import Derived.Test.YtpibjdkenifggaaQKeymapPlaysb
section
section
namespace Go.Proofs.Ytpibjdkenifggaa.CL
open Go.Proofs.Ytpibjdkenifggaa.H Go.Proofs.Ytpibjdkenifggaa.K0
set_option linter.unusedVariables false
set_option linter.unusedSimpArgs false
set_option maxRecDepth 100000
theorem w64 {x : Int} (h : -9223372036854775808 ≤ x) (h' : x < 9223372036854775808) : IntKind.i64.wrap x = x := by rw [IntKind.wrap_i64]; omega
/-- Bytes that may be nil. -/
def byV : Option (List Int) → HV
  | none => .lit (.slice none 0 0)
  | some l => .list 1 l.length (bl l) false
def short : Option (List Int) → Prop
  | none => True
  | some l => l.length ≤ 140737488355328
theorem hc_by (k : Option (List Int)) : hcells (byV k) = some [byV k] := by cases k <;> rfl
theorem ho_by (k : Option (List Int)) : hone (byV k) = true := by cases k <;> rfl
structure Rec where
  off : Int
  time : Int
  hasKey : Bool
  key : Option (List Int)
  hasVal : Bool
  val : Option (List Int)
def recC (r : Rec) : List HV := [.lit (.int .i64 r.off), .lit (.int .i64 r.time), .lit (.bool r.hasKey), byV r.key, .lit (.bool r.hasVal), byV r.val]
theorem recC_len (r : Rec) : (recC r).length = 6 := rfl
theorem ho_recC (r : Rec) : (∀ x ∈ recC r, hone x = true) = True := by
  simp [recC, bindO, hcond, vCmp, vBin, vEq, vUn, vNil, vField, vLoad, takeCells, vIdx, vLenT, vLen, vExtract, hBS, hfill, hNew, hStore, hBox, hc_int, hc_bool, hc_string, hc_slice, hc_nilp, hc_nilm, hc_nilf, hc_agg, hc_list, hc_view, hc_ptr, hc_map, hc_func, ho_int, ho_bool, ho_string, ho_slice, ho_nilp, ho_nilm, ho_nilf, ho_list, ho_view, ho_ptr, ho_map, ho_func, putCells, hAppend, lcells, litCells, isNilS, llen, room, vMk, set_at, Join, vToInt, vSlice, vSliceX, vSliceS, cutAt, intAt, bl_len, bits64, bits64u, bits8, hfold, vMax2, vMin2, Try.underlying3, Try.underlying4, Try.underlying9, Try.underlying22, Try.underlying24, Try.underlying28, Try.underlying29, Try.underlying36, Try.underlying38, Try.underlying48, Try.underlying81, Try.underlying87, Try.underlying93, Try.underlying135, ho_by]
theorem hcz (r : Rec) : (recC r).take 6 = recC r := rfl
structure Bat where
  base : Int
  last : Int
  prod : Int
  epoch : Int
  seq : Int
  recs : Option (List Rec)
def recsC (l : List Rec) : List HV := l.flatMap recC
def r0 : Rec := ⟨0, 0, false, none, false, none⟩
theorem recsC_idx : ∀ (l : List Rec) (i : Nat), i < l.length → ((recsC l).drop (i * 6)).take 6 = recC (l.getD i r0)
  | x :: l, 0, _ => rfl
  | x :: l, i + 1, h => by
    have := recsC_idx l i (by simpa using h)
    rw [show recsC (x :: l) = recC x ++ recsC l from rfl, show (i + 1) * 6 = i * 6 + 1 + 1 + 1 + 1 + 1 + 1 by omega]
    simp only [recC, List.cons_append, List.nil_append, List.drop_succ_cons]
    exact this
def recsV : Option (List Rec) → HV
  | none => .lit (.slice none 0 0)
  | some l => .list 6 l.length (recsC l) false
def batC (b : Bat) : List HV := [.lit (.int .i64 b.base), .lit (.int .i64 b.last), .lit (.int .i64 b.prod), .lit (.int .i64 b.epoch), .lit (.int .i64 b.seq), recsV b.recs]
theorem hc_recs (k : Option (List Rec)) : hcells (recsV k) = some [recsV k] := by cases k <;> rfl
theorem ho_recs (k : Option (List Rec)) : hone (recsV k) = true := by cases k <;> rfl
def ShortR (r : Rec) : Prop := short r.key ∧ short r.val
theorem take_succ' {α : Type} (z : α) (l : List α) {i : Nat} (h : i < l.length) : l.take (i + 1) = l.take i ++ [l.getD i z] := by
  rw [List.take_succ_eq_append_getElem h]
  simp [List.getD, h]
theorem drop_cons' {α : Type} (z : α) (l : List α) {i : Nat} (h : i < l.length) : l.drop i = l.getD i z :: l.drop (i + 1) := by
  rw [List.drop_eq_getElem_cons h]
  simp [List.getD, h]
end Go.Proofs.Ytpibjdkenifggaa.CL
end
section
namespace Go.Proofs.Ytpibjdkenifggaa.CL
open Go.Proofs.Ytpibjdkenifggaa.H Go.Proofs.Ytpibjdkenifggaa.K0
set_option linter.unusedVariables false
set_option linter.unusedSimpArgs false
set_option maxRecDepth 100000
def keyB (k : Option (List Int)) : List UInt8 := (k.getD []).map fun n => UInt8.ofNat n.toNat
def kv (k : Option (List Int)) : Value := .string ⟨(keyB k).toArray⟩
theorem bytesOf_bl : ∀ l : List Int, bytesOf (bl l) = some (l.map fun n => UInt8.ofNat n.toNat)
  | [] => rfl
  | x :: l => by
    have := bytesOf_bl l
    unfold bytesOf bl at *
    simp [byteOfHV, this]
theorem toStr_by (s : HS) (k : Option (List Int)) : vToStr s (byV k) = some (.lit (kv k)) := by
  cases k with
  | none => rfl
  | some l =>
    simp only [vToStr, byV, lcells, if_true, Option.bind_some, bytesOf_bl, Option.map_some]
    rfl
theorem isStr_by (k : Option (List Int)) : isStrHV (byV k) = false := by cases k <;> rfl
theorem keyIs_kv (k : Option (List Int)) : keyIs .string (kv k) = true := rfl
theorem sameKey_str : sameKey .string .string = true := rfl
/-- A map of keys. -/
def mapO (M : Value → Option Int) (n : Nat) : HObj := .map .string (fun k => (M k).map fun x => .lit (.int .i64 x)) n
open Classical in
noncomputable def put (M : Value → Option Int) (k : Value) (x : Int) : Value → Option Int := fun q => if q = k then some x else M q
theorem mapO_put (M : Value → Option Int) (k : Value) (x : Int) (n : Nat) : HObj.map .string (fput (fun k => (M k).map fun x => .lit (.int .i64 x)) k (some (.lit (.int .i64 x)))) n = mapO (put M k x) n := by
  unfold mapO put fput
  congr
  funext q
  split <;> rfl
def kmO (most : Int) (mid : Nat) : HObj := .cells [.lit (.int .i64 most), .map mid]
/-- A keymap at p. -/
def IsKM (s : HS) (p mid : Nat) (most : Int) (M : Value → Option Int) (n : Nat) : Prop := s p = some (kmO most mid) ∧ s mid = some (mapO M n)
theorem len {s : HS} {p mid : Nat} {most : Int} {M : Value → Option Int} {n : Nat} (h : IsKM s p mid most M n) : HC Try.prog 20 [.ptr p 0] s (fun v s' => v = .lit (.int .i64 n) ∧ s' = s) := by
  refine HC20 ?_
  have h1 := h.1
  have h2 := h.2
  simp only [kmO, mapO] at h1 h2
  simp [c20, bindO, hcond, vCmp, vBin, vEq, vUn, vNil, vField, vLoad, takeCells, vIdx, vLenT, vLen, vExtract, hBS, hfill, hNew, hStore, hBox, hc_int, hc_bool, hc_string, hc_slice, hc_nilp, hc_nilm, hc_nilf, hc_agg, hc_list, hc_view, hc_ptr, hc_map, hc_func, ho_int, ho_bool, ho_string, ho_slice, ho_nilp, ho_nilm, ho_nilf, ho_list, ho_view, ho_ptr, ho_map, ho_func, putCells, hAppend, lcells, litCells, isNilS, llen, room, vMk, set_at, Join, vToInt, vSlice, vSliceX, vSliceS, cutAt, intAt, bl_len, bits64, bits64u, bits8, hfold, vMax2, vMin2, Try.underlying3, Try.underlying4, Try.underlying9, Try.underlying22, Try.underlying24, Try.underlying28, Try.underlying29, Try.underlying36, Try.underlying38, Try.underlying48, Try.underlying81, Try.underlying87, Try.underlying93, Try.underlying135, h1, h2]
theorem last {s : HS} {p mid : Nat} {most : Int} {M : Value → Option Int} {n : Nat} (h : IsKM s p mid most M n) (k : Option (List Int)) :
    HC Try.prog 17 [.ptr p 0, byV k] s (fun v s' => v = .tup [.lit (.int .i64 ((M (kv k)).getD 0)), .lit (.bool (M (kv k)).isSome)] ∧ s' = s) := by
  refine HC17 ?_
  have h1 := h.1
  have h2 := h.2
  simp only [kmO, mapO] at h1 h2
  have h3 := toStr_by s k
  have h4 := isStr_by k
  have h5 := keyIs_kv k
  generalize kv k = K at *
  generalize byV k = B at *
  simp [c17, bindO, hcond, vCmp, vBin, vEq, vUn, vNil, vField, vLoad, takeCells, vIdx, vLenT, vLen, vExtract, hBS, hfill, hNew, hStore, hBox, hc_int, hc_bool, hc_string, hc_slice, hc_nilp, hc_nilm, hc_nilf, hc_agg, hc_list, hc_view, hc_ptr, hc_map, hc_func, ho_int, ho_bool, ho_string, ho_slice, ho_nilp, ho_nilm, ho_nilf, ho_list, ho_view, ho_ptr, ho_map, ho_func, putCells, hAppend, lcells, litCells, isNilS, llen, room, vMk, set_at, Join, vToInt, vSlice, vSliceX, vSliceS, cutAt, intAt, bl_len, bits64, bits64u, bits8, hfold, vMax2, vMin2, Try.underlying3, Try.underlying4, Try.underlying9, Try.underlying22, Try.underlying24, Try.underlying28, Try.underlying29, Try.underlying36, Try.underlying38, Try.underlying48, Try.underlying81, Try.underlying87, Try.underlying93, Try.underlying135, h1, h2, h3, h4, vLookup, h5, sameKey_str]
theorem new (most : Int) (s : HS) (h1 : 1 ≤ most) (h2 : most ≤ 1000000) : HC Try.prog 15 [.lit (.int .i64 most)] s (fun v s' => ∃ p mid, s p = none ∧ s mid = none ∧ v = .tup [.ptr p 0, .lit (.int .i64 0)] ∧ HS.le s s' ∧ IsKM s' p mid most (fun _ => none) 0) := by
  refine HC15 ?_
  have e1 : ¬ most < 1 := by omega
  have e2 : ¬ 1000000 < most := by omega
  simp [c15, bindO, hcond, vCmp, vBin, vEq, vUn, vNil, vField, vLoad, takeCells, vIdx, vLenT, vLen, vExtract, hBS, hfill, hNew, hStore, hBox, hc_int, hc_bool, hc_string, hc_slice, hc_nilp, hc_nilm, hc_nilf, hc_agg, hc_list, hc_view, hc_ptr, hc_map, hc_func, ho_int, ho_bool, ho_string, ho_slice, ho_nilp, ho_nilm, ho_nilf, ho_list, ho_view, ho_ptr, ho_map, ho_func, putCells, hAppend, lcells, litCells, isNilS, llen, room, vMk, set_at, Join, vToInt, vSlice, vSliceX, vSliceS, cutAt, intAt, bl_len, bits64, bits64u, bits8, hfold, vMax2, vMin2, Try.underlying3, Try.underlying4, Try.underlying9, Try.underlying22, Try.underlying24, Try.underlying28, Try.underlying29, Try.underlying36, Try.underlying38, Try.underlying48, Try.underlying81, Try.underlying87, Try.underlying93, Try.underlying135, e1, e2]
  intro mid hm p hp
  have hne := ne_new (set_at s mid _) hp
  have hp' := hp
  simp only [set_none_iff] at hp'
  exact ⟨p, hp'.2, mid, hm, rfl, le_set_new _ (le_set_new _ (le_refl' s) hm) hp, set_at _ _ _, by rw [set_ne _ _ hne, set_at]; rfl⟩
theorem offer {s : HS} {p mid : Nat} {most : Int} {M : Value → Option Int} {n : Nat} (h : IsKM s p mid most M n) (k : Option (List Int)) (x : Int) (hroom : (n : Int) < most ∨ (M (kv k)).isSome = true) :
    HC Try.prog 16 [.ptr p 0, byV k, .lit (.int .i64 x)] s (fun v s' => v = .lit (.bool true) ∧ s' = s.set mid (mapO (put M (kv k) (match M (kv k) with | some y => max x y | none => x)) (if (M (kv k)).isSome then n else n + 1))) := by
  refine HC16 ?_
  have h1 := h.1
  have h2 := h.2
  simp only [kmO, mapO] at h1 h2
  have h3 := toStr_by s k
  have h4 := isStr_by k
  have h5 := keyIs_kv k
  have h6 := mapO_put M (kv k)
  generalize kv k = K at *
  generalize byV k = B at *
  cases hM : M K with
  | none =>
    have hr : ¬ most ≤ (n : Int) := by rcases hroom with h | h; omega; rw [hM] at h; cases h
    simp [c16, bindO, hcond, vCmp, vBin, vEq, vUn, vNil, vField, vLoad, takeCells, vIdx, vLenT, vLen, vExtract, hBS, hfill, hNew, hStore, hBox, hc_int, hc_bool, hc_string, hc_slice, hc_nilp, hc_nilm, hc_nilf, hc_agg, hc_list, hc_view, hc_ptr, hc_map, hc_func, ho_int, ho_bool, ho_string, ho_slice, ho_nilp, ho_nilm, ho_nilf, ho_list, ho_view, ho_ptr, ho_map, ho_func, putCells, hAppend, lcells, litCells, isNilS, llen, room, vMk, set_at, Join, vToInt, vSlice, vSliceX, vSliceS, cutAt, intAt, bl_len, bits64, bits64u, bits8, hfold, vMax2, vMin2, Try.underlying3, Try.underlying4, Try.underlying9, Try.underlying22, Try.underlying24, Try.underlying28, Try.underlying29, Try.underlying36, Try.underlying38, Try.underlying48, Try.underlying81, Try.underlying87, Try.underlying93, Try.underlying135, h1, h2, h3, h4, vLookup, hMapSet, h5, sameKey_str, hM, hr]
    rw [h6]
  | some y =>
    simp [c16, bindO, hcond, vCmp, vBin, vEq, vUn, vNil, vField, vLoad, takeCells, vIdx, vLenT, vLen, vExtract, hBS, hfill, hNew, hStore, hBox, hc_int, hc_bool, hc_string, hc_slice, hc_nilp, hc_nilm, hc_nilf, hc_agg, hc_list, hc_view, hc_ptr, hc_map, hc_func, ho_int, ho_bool, ho_string, ho_slice, ho_nilp, ho_nilm, ho_nilf, ho_list, ho_view, ho_ptr, ho_map, ho_func, putCells, hAppend, lcells, litCells, isNilS, llen, room, vMk, set_at, Join, vToInt, vSlice, vSliceX, vSliceS, cutAt, intAt, bl_len, bits64, bits64u, bits8, hfold, vMax2, vMin2, Try.underlying3, Try.underlying4, Try.underlying9, Try.underlying22, Try.underlying24, Try.underlying28, Try.underlying29, Try.underlying36, Try.underlying38, Try.underlying48, Try.underlying81, Try.underlying87, Try.underlying93, Try.underlying135, h1, h2, h3, h4, vLookup, hMapSet, h5, sameKey_str, hM]
    rw [h6]
    rw [show (if x < y then y else x) = max x y by omega]
/-- Keys of records from an offset on that are not there. -/
def isFresh (M : Value → Option Int) (from_ : Int) (r : Rec) : Bool := r.hasKey && decide (from_ ≤ r.off) && !(M (kv r.key)).isSome
noncomputable def freshStep (M : Value → Option Int) (from_ : Int) (g : (Value → Option Int) × Nat) (r : Rec) : (Value → Option Int) × Nat :=
  if isFresh M from_ r = true then (put g.1 (kv r.key) (IntKind.i64.wrap ((g.1 (kv r.key)).getD 0 + 1)), if (g.1 (kv r.key)).isSome then g.2 else g.2 + 1) else g
noncomputable def freshF (M : Value → Option Int) (from_ : Int) (l : List Rec) : (Value → Option Int) × Nat := l.foldl (freshStep M from_) (fun _ => none, 0)
theorem IsKM.le {s t : HS} {p mid : Nat} {most : Int} {M : Value → Option Int} {n : Nat} (h : IsKM s p mid most M n) (hle : HS.le s t) : IsKM t p mid most M n := ⟨hle _ _ h.1, hle _ _ h.2⟩
theorem fresh {s : HS} {p mid : Nat} {most : Int} {M : Value → Option Int} {n : Nat} (h : IsKM s p mid most M n) (b : Bat) (l : List Rec) (hb : b.recs = some l) (hl : l.length ≤ 100000) (from_ : Int) :
    HC Try.prog 50 [.ptr p 0, .agg (batC b), .lit (.int .i64 from_)] s (fun v s' => v = .lit (.int .i64 (freshF M from_ l).2) ∧ s' = s) := by
  refine HC.weaken (HC50 ?_)
  obtain ⟨c0, c1, c2, c3, c4, recs⟩ := b
  simp only at hb
  subst hb
  simp [c50, bindO, hcond, vCmp, vBin, vEq, vUn, vNil, vField, vLoad, takeCells, vIdx, vLenT, vLen, vExtract, hNew, hStore, hBox, hc_int, hc_bool, hc_string, hc_slice, hc_nilp, hc_nilm, hc_nilf, hc_agg, hc_list, hc_view, hc_ptr, hc_map, hc_func, ho_int, ho_bool, ho_string, ho_slice, ho_nilp, ho_nilm, ho_nilf, ho_list, ho_view, ho_ptr, ho_map, ho_func, putCells, lcells, litCells, isNilS, llen, room, vMk, set_at, Join, vToInt, vSlice, vSliceX, vSliceS, cutAt, intAt, bl_len, bits64, bits64u, bits8, hfold, vMax2, vMin2, Try.underlying3, Try.underlying4, Try.underlying9, Try.underlying22, Try.underlying24, Try.underlying28, Try.underlying29, Try.underlying36, Try.underlying38, Try.underlying48, Try.underlying81, Try.underlying87, Try.underlying93, Try.underlying135, recC_len, ho_recC, hcz, batC, recsV]
  intro i1 f1 mm f2
  have n1 := ne_new (set_at s i1 _) f2
  simp only [set_none_iff] at f2
  obtain ⟨-, f2⟩ := f2
  simp [bindO, hcond, vCmp, vBin, vEq, vUn, vNil, vField, vLoad, takeCells, vIdx, vLenT, vLen, vExtract, hNew, hStore, hBox, hc_int, hc_bool, hc_string, hc_slice, hc_nilp, hc_nilm, hc_nilf, hc_agg, hc_list, hc_view, hc_ptr, hc_map, hc_func, ho_int, ho_bool, ho_string, ho_slice, ho_nilp, ho_nilm, ho_nilf, ho_list, ho_view, ho_ptr, ho_map, ho_func, putCells, lcells, litCells, isNilS, llen, room, vMk, set_at, Join, vToInt, vSlice, vSliceX, vSliceS, cutAt, intAt, bl_len, bits64, bits64u, bits8, hfold, vMax2, vMin2, Try.underlying3, Try.underlying4, Try.underlying9, Try.underlying22, Try.underlying24, Try.underlying28, Try.underlying29, Try.underlying36, Try.underlying38, Try.underlying48, Try.underlying81, Try.underlying87, Try.underlying93, Try.underlying135, recC_len, ho_recC, hcz, set_ne _ _ n1]
  refine HLoop.ghost (σ := Nat) (fun i => [.lit (.int .i64 i)]) (fun i t => i ≤ l.length ∧ HS.le s t ∧ t mm = some (mapO (freshF M from_ (l.take i)).1 (freshF M from_ (l.take i)).2)) (fun i => l.length - i) 0 rfl ⟨Nat.zero_le _, by repeat (first | exact le_refl' _ | exact HS.le.trans (by assumption) (by assumption) | assumption | refine le_set_free _ ?_ (by assumption)), by rw [set_at]; rfl⟩ ?_
  rintro i t K ⟨hi, hst, htm⟩ hK
  by_cases hlt : i < l.length
  · have hlt' : (i : Int) < (l.length : Int) := by omega
    have hix := recsC_idx l i hlt
    have hts := take_succ' r0 l hlt
    generalize l.getD i r0 = x at *
    simp [bindO, hcond, vCmp, vBin, vEq, vUn, vNil, vField, vLoad, takeCells, vIdx, vLenT, vLen, vExtract, hNew, hStore, hBox, hc_int, hc_bool, hc_string, hc_slice, hc_nilp, hc_nilm, hc_nilf, hc_agg, hc_list, hc_view, hc_ptr, hc_map, hc_func, ho_int, ho_bool, ho_string, ho_slice, ho_nilp, ho_nilm, ho_nilf, ho_list, ho_view, ho_ptr, ho_map, ho_func, putCells, lcells, litCells, isNilS, llen, room, vMk, set_at, Join, vToInt, vSlice, vSliceX, vSliceS, cutAt, intAt, bl_len, bits64, bits64u, bits8, hfold, vMax2, vMin2, Try.underlying3, Try.underlying4, Try.underlying9, Try.underlying22, Try.underlying24, Try.underlying28, Try.underlying29, Try.underlying36, Try.underlying38, Try.underlying48, Try.underlying81, Try.underlying87, Try.underlying93, Try.underlying135, recC_len, ho_recC, hcz, hlt', hlt, hix]
    intro X hX
    have nX := ne_new htm hX
    rw [set_set]
    have hk1 : IsKM (t.set X (.cells (recC x))) p mid most M n := (h.le hst).le (le_set_new _ (le_refl' t) hX)
    have hF : freshF M from_ (l.take (i + 1)) = freshStep M from_ (freshF M from_ (l.take i)) x := by rw [hts]; simp [freshF]
    have hle1 : HS.le s (t.set X (.cells (recC x))) := le_set_new _ hst hX
    have htm1 : (t.set X (.cells (recC x))) mm = some (mapO (freshF M from_ (l.take i)).1 (freshF M from_ (l.take i)).2) := by rw [set_ne _ _ nX]; exact htm
    have hat := set_at t X (.cells (recC x))
    generalize t.set X (.cells (recC x)) = t1 at *
    obtain ⟨off, time, hk, key, hv, val⟩ := x
    simp only [recC] at hat
    simp [bindO, hcond, vCmp, vBin, vEq, vUn, vNil, vField, vLoad, takeCells, vIdx, vLenT, vLen, vExtract, hNew, hStore, hBox, hc_int, hc_bool, hc_string, hc_slice, hc_nilp, hc_nilm, hc_nilf, hc_agg, hc_list, hc_view, hc_ptr, hc_map, hc_func, ho_int, ho_bool, ho_string, ho_slice, ho_nilp, ho_nilm, ho_nilf, ho_list, ho_view, ho_ptr, ho_map, ho_func, putCells, lcells, litCells, isNilS, llen, room, vMk, set_at, Join, vToInt, vSlice, vSliceX, vSliceS, cutAt, intAt, bl_len, bits64, bits64u, bits8, hfold, vMax2, vMin2, Try.underlying3, Try.underlying4, Try.underlying9, Try.underlying22, Try.underlying24, Try.underlying28, Try.underlying29, Try.underlying36, Try.underlying38, Try.underlying48, Try.underlying81, Try.underlying87, Try.underlying93, Try.underlying135, recC_len, ho_recC, hcz, hat, recC]
    refine (last hk1 key).mono ?_
    rintro v s1 ⟨rfl, rfl⟩
    generalize freshF M from_ (l.take i) = g at *
    have hgo : isFresh M from_ ⟨off, time, hk, key, hv, val⟩ = false → K [.lit (.int .i64 (IntKind.i64.wrap ((i : Int) + 1)))] s1 := by
      intro hf
      refine hK (i + 1) _ _ (by rw [w64 (by omega) (by omega)]; rfl) ⟨hlt, hle1, ?_⟩ (by omega)
      rw [hF, freshStep, hf]
      exact htm1
    cases hk with
    | false =>
      simp [bindO, hcond, vCmp, vBin, vEq, vUn, vNil, vField, vLoad, takeCells, vIdx, vLenT, vLen, vExtract, hNew, hStore, hBox, hc_int, hc_bool, hc_string, hc_slice, hc_nilp, hc_nilm, hc_nilf, hc_agg, hc_list, hc_view, hc_ptr, hc_map, hc_func, ho_int, ho_bool, ho_string, ho_slice, ho_nilp, ho_nilm, ho_nilf, ho_list, ho_view, ho_ptr, ho_map, ho_func, putCells, lcells, litCells, isNilS, llen, room, vMk, set_at, Join, vToInt, vSlice, vSliceX, vSliceS, cutAt, intAt, bl_len, bits64, bits64u, bits8, hfold, vMax2, vMin2, Try.underlying3, Try.underlying4, Try.underlying9, Try.underlying22, Try.underlying24, Try.underlying28, Try.underlying29, Try.underlying36, Try.underlying38, Try.underlying48, Try.underlying81, Try.underlying87, Try.underlying93, Try.underlying135, recC_len, ho_recC, hcz, hat]
      exact hgo (by simp [isFresh])
    | true =>
      by_cases ho : from_ ≤ off
      · cases hM : M (kv key) with
        | some y =>
          simp [bindO, hcond, vCmp, vBin, vEq, vUn, vNil, vField, vLoad, takeCells, vIdx, vLenT, vLen, vExtract, hNew, hStore, hBox, hc_int, hc_bool, hc_string, hc_slice, hc_nilp, hc_nilm, hc_nilf, hc_agg, hc_list, hc_view, hc_ptr, hc_map, hc_func, ho_int, ho_bool, ho_string, ho_slice, ho_nilp, ho_nilm, ho_nilf, ho_list, ho_view, ho_ptr, ho_map, ho_func, putCells, lcells, litCells, isNilS, llen, room, vMk, set_at, Join, vToInt, vSlice, vSliceX, vSliceS, cutAt, intAt, bl_len, bits64, bits64u, bits8, hfold, vMax2, vMin2, Try.underlying3, Try.underlying4, Try.underlying9, Try.underlying22, Try.underlying24, Try.underlying28, Try.underlying29, Try.underlying36, Try.underlying38, Try.underlying48, Try.underlying81, Try.underlying87, Try.underlying93, Try.underlying135, recC_len, ho_recC, hcz, hat, ho, hM]
          exact hgo (by simp [isFresh, hM])
        | none =>
          have h3 := toStr_by s1 key
          have h4 := isStr_by key
          have h5 := keyIs_kv key
          have h6 := mapO_put g.1 (kv key)
          simp only [mapO] at htm1
          simp [bindO, hcond, vCmp, vBin, vEq, vUn, vNil, vField, vLoad, takeCells, vIdx, vLenT, vLen, vExtract, hNew, hStore, hBox, hc_int, hc_bool, hc_string, hc_slice, hc_nilp, hc_nilm, hc_nilf, hc_agg, hc_list, hc_view, hc_ptr, hc_map, hc_func, ho_int, ho_bool, ho_string, ho_slice, ho_nilp, ho_nilm, ho_nilf, ho_list, ho_view, ho_ptr, ho_map, ho_func, putCells, lcells, litCells, isNilS, llen, room, vMk, set_at, Join, vToInt, vSlice, vSliceX, vSliceS, cutAt, intAt, bl_len, bits64, bits64u, bits8, hfold, vMax2, vMin2, Try.underlying3, Try.underlying4, Try.underlying9, Try.underlying22, Try.underlying24, Try.underlying28, Try.underlying29, Try.underlying36, Try.underlying38, Try.underlying48, Try.underlying81, Try.underlying87, Try.underlying93, Try.underlying135, recC_len, ho_recC, hcz, hat, ho, hM, h3, h4, vLookup, hMapSet, h5, sameKey_str, htm1]
          rw [h6]
          refine hK (i + 1) _ _ (by rw [w64 (by omega) (by omega)]; rfl) ⟨hlt, le_set_free _ hle1 f2, ?_⟩ (by omega)
          have hf : isFresh M from_ ⟨off, time, true, key, hv, val⟩ = true := by simp [isFresh, hM, ho]
          rw [set_at, hF, freshStep, if_pos hf]
      · simp [bindO, hcond, vCmp, vBin, vEq, vUn, vNil, vField, vLoad, takeCells, vIdx, vLenT, vLen, vExtract, hNew, hStore, hBox, hc_int, hc_bool, hc_string, hc_slice, hc_nilp, hc_nilm, hc_nilf, hc_agg, hc_list, hc_view, hc_ptr, hc_map, hc_func, ho_int, ho_bool, ho_string, ho_slice, ho_nilp, ho_nilm, ho_nilf, ho_list, ho_view, ho_ptr, ho_map, ho_func, putCells, lcells, litCells, isNilS, llen, room, vMk, set_at, Join, vToInt, vSlice, vSliceX, vSliceS, cutAt, intAt, bl_len, bits64, bits64u, bits8, hfold, vMax2, vMin2, Try.underlying3, Try.underlying4, Try.underlying9, Try.underlying22, Try.underlying24, Try.underlying28, Try.underlying29, Try.underlying36, Try.underlying38, Try.underlying48, Try.underlying81, Try.underlying87, Try.underlying93, Try.underlying135, recC_len, ho_recC, hcz, hat, ho]
        exact hgo (by simp [isFresh, ho])
  · obtain rfl : i = l.length := by omega
    rw [List.take_length] at htm
    simp only [mapO] at htm
    simp [bindO, hcond, vCmp, vBin, vEq, vUn, vNil, vField, vLoad, takeCells, vIdx, vLenT, vLen, vExtract, hNew, hStore, hBox, hc_int, hc_bool, hc_string, hc_slice, hc_nilp, hc_nilm, hc_nilf, hc_agg, hc_list, hc_view, hc_ptr, hc_map, hc_func, ho_int, ho_bool, ho_string, ho_slice, ho_nilp, ho_nilm, ho_nilf, ho_list, ho_view, ho_ptr, ho_map, ho_func, putCells, lcells, litCells, isNilS, llen, room, vMk, set_at, Join, vToInt, vSlice, vSliceX, vSliceS, cutAt, intAt, bl_len, bits64, bits64u, bits8, hfold, vMax2, vMin2, Try.underlying3, Try.underlying4, Try.underlying9, Try.underlying22, Try.underlying24, Try.underlying28, Try.underlying29, Try.underlying36, Try.underlying38, Try.underlying48, Try.underlying81, Try.underlying87, Try.underlying93, Try.underlying135, recC_len, ho_recC, hcz, htm]
    exact hst
end Go.Proofs.Ytpibjdkenifggaa.CL
end
section
namespace Go.Proofs.Ytpibjdkenifggaa.CL
open Go.Proofs.Ytpibjdkenifggaa.H Go.Proofs.Ytpibjdkenifggaa.K0
set_option linter.unusedVariables false
set_option linter.unusedSimpArgs false
set_option maxRecDepth 100000
def orNil {α : Type} (l : List α) : Option (List α) := match l with | [] => none | x :: r => some (x :: r)
end Go.Proofs.Ytpibjdkenifggaa.CL
end
section
namespace Go.Proofs.Ytpibjdkenifggaa.CL
open Go.Proofs.Ytpibjdkenifggaa.H Go.Proofs.Ytpibjdkenifggaa.K0
set_option linter.unusedVariables false
set_option linter.unusedSimpArgs false
set_option maxRecDepth 100000
theorem batC_len (b : Bat) : (batC b).length = 6 := rfl
theorem hcb (b : Bat) : (batC b).take 6 = batC b := rfl
theorem ho_batC (b : Bat) : (∀ x ∈ batC b, hone x = true) = True := by simp [batC, bindO, hcond, vCmp, vBin, vEq, vUn, vNil, vField, vLoad, takeCells, vIdx, vLenT, vLen, vExtract, hBS, hfill, hNew, hStore, hBox, hc_int, hc_bool, hc_string, hc_slice, hc_nilp, hc_nilm, hc_nilf, hc_agg, hc_list, hc_view, hc_ptr, hc_map, hc_func, ho_int, ho_bool, ho_string, ho_slice, ho_nilp, ho_nilm, ho_nilf, ho_list, ho_view, ho_ptr, ho_map, ho_func, putCells, hAppend, lcells, litCells, isNilS, llen, room, vMk, set_at, Join, vToInt, vSlice, vSliceX, vSliceS, cutAt, intAt, bl_len, bits64, bits64u, bits8, hfold, vMax2, vMin2, Try.underlying3, Try.underlying4, Try.underlying9, Try.underlying22, Try.underlying24, Try.underlying28, Try.underlying29, Try.underlying36, Try.underlying38, Try.underlying48, Try.underlying81, Try.underlying87, Try.underlying93, Try.underlying135, ho_recs]
def batsC (l : List Bat) : List HV := l.flatMap batC
def b0 : Bat := ⟨0, 0, 0, 0, 0, none⟩
theorem batsC_idx : ∀ (l : List Bat) (i : Nat), i < l.length → ((batsC l).drop (i * 6)).take 6 = batC (l.getD i b0)
  | x :: l, 0, _ => rfl
  | x :: l, i + 1, h => by
    have := batsC_idx l i (by simpa using h)
    rw [show batsC (x :: l) = batC x ++ batsC l from rfl, show (i + 1) * 6 = i * 6 + 1 + 1 + 1 + 1 + 1 + 1 by omega]
    simp only [batC, List.cons_append, List.nil_append, List.drop_succ_cons]
    exact this
theorem len_recs (k : Option (List Rec)) (s : HS) : vLenT (some (.slice 42)) s (recsV k) = some (.lit (.int .i64 ((k.getD []).length : Nat))) := by cases k <;> rfl
end Go.Proofs.Ytpibjdkenifggaa.CL
end
section
namespace Go.Proofs.Ytpibjdkenifggaa.CL
open Go.Proofs.Ytpibjdkenifggaa.H Go.Proofs.Ytpibjdkenifggaa.K0
set_option linter.unusedVariables false
set_option linter.unusedSimpArgs false
set_option maxRecDepth 100000
noncomputable def offF (most : Int) (g : (Value → Option Int) × Nat) (k : Value) (x : Int) : (Value → Option Int) × Nat :=
  match g.1 k with
  | some y => (put g.1 k (max x y), g.2)
  | none => if most ≤ (g.2 : Int) then g else (put g.1 k x, g.2 + 1)
theorem offer' {s : HS} {p mid : Nat} {most : Int} {g : (Value → Option Int) × Nat} (h : IsKM s p mid most g.1 g.2) (k : Option (List Int)) (x : Int) :
    HC Try.prog 16 [.ptr p 0, byV k, .lit (.int .i64 x)] s (fun v s' => s' = s.set mid (mapO (offF most g (kv k) x).1 (offF most g (kv k) x).2)) := by
  cases hM : g.1 (kv k) with
  | some y =>
    refine (offer h k x (.inr (by rw [hM]; rfl))).mono ?_
    rintro v s' ⟨-, rfl⟩
    simp [offF, hM]
  | none =>
    by_cases hr : most ≤ (g.2 : Int)
    · refine HC.weaken (HC16 ?_)
      have h1 := h.1
      have h2 := h.2
      have h0 : s.set mid (mapO g.1 g.2) = s := by
        funext q
        simp only [HS.set]
        split
        · rename_i e; rw [e, h.2]
        · rfl
      simp only [kmO, mapO] at h1 h2
      have h3 := toStr_by s k
      have h4 := isStr_by k
      have h5 := keyIs_kv k
      simp [c16, bindO, hcond, vCmp, vBin, vEq, vUn, vNil, vField, vLoad, takeCells, vIdx, vLenT, vLen, vExtract, hBS, hfill, hNew, hStore, hBox, hc_int, hc_bool, hc_string, hc_slice, hc_nilp, hc_nilm, hc_nilf, hc_agg, hc_list, hc_view, hc_ptr, hc_map, hc_func, ho_int, ho_bool, ho_string, ho_slice, ho_nilp, ho_nilm, ho_nilf, ho_list, ho_view, ho_ptr, ho_map, ho_func, putCells, hAppend, lcells, litCells, isNilS, llen, room, vMk, set_at, Join, vToInt, vSlice, vSliceX, vSliceS, cutAt, intAt, bl_len, bits64, bits64u, bits8, hfold, vMax2, vMin2, Try.underlying3, Try.underlying4, Try.underlying9, Try.underlying22, Try.underlying24, Try.underlying28, Try.underlying29, Try.underlying36, Try.underlying38, Try.underlying48, Try.underlying81, Try.underlying87, Try.underlying93, Try.underlying135, h1, h2, h3, h4, vLookup, hMapSet, h5, sameKey_str, hM, hr, offF]
      rw [h0]
      exact le_refl' s
    · refine (offer h k x (.inl (by omega))).mono ?_
      rintro v s' ⟨-, rfl⟩
      simp [offF, hM, hr]
noncomputable def offStep (most from_ : Int) (g : (Value → Option Int) × Nat) (r : Rec) : (Value → Option Int) × Nat := if r.hasKey = true ∧ from_ ≤ r.off then offF most g (kv r.key) r.off else g
/-- What Build comes to from a state on. -/
noncomputable def buildF (most from_ : Int) : List Bat → (Value → Option Int) × Nat → Int → ((Value → Option Int) × Nat) × Int
  | [], g, upto => (g, upto)
  | b :: l, g, upto =>
    if IntKind.i64.wrap ((g.2 : Int) + (freshF g.1 from_ (b.recs.getD [])).2) > most then (g, max b.base from_)
    else buildF most from_ l ((b.recs.getD []).foldl (offStep most from_) g) (max (IntKind.i64.wrap (b.last + 1)) from_)
theorem IsKM.set {t : HS} {p mid : Nat} {most : Int} {M M' : Value → Option Int} {n n' : Nat} (h : IsKM t p mid most M n) : IsKM (t.set mid (mapO M' n')) p mid most M' n' := by
  have hne : p ≠ mid := by
    rintro rfl
    have h1 := h.1
    rw [h.2] at h1
    simp [kmO, mapO] at h1
  exact ⟨by rw [set_ne _ _ hne]; exact h.1, set_at _ _ _⟩
theorem build (l : List Bat) (from_ most : Int) (s : HS) (hl : l.length ≤ 100000) (hs : ∀ b ∈ l, ∃ r, b.recs = some r ∧ r.length ≤ 100000) :
    HC Try.prog 19 [.list 6 l.length (batsC l) false, .lit (.int .i64 from_), .lit (.int .i64 most)] s (fun v s' => ∃ p mid, v = .tup [.ptr p 0, .lit (.int .i64 (buildF (min (max most 1) 1000000) from_ l (fun _ => none, 0) from_).2)] ∧ HS.le s s' ∧
      IsKM s' p mid (min (max most 1) 1000000) (buildF (min (max most 1) 1000000) from_ l (fun _ => none, 0) from_).1.1 (buildF (min (max most 1) 1000000) from_ l (fun _ => none, 0) from_).1.2) := by
  refine HC19 ?_
  have hlen : ∀ t, vLenT (Try.prog.underlying 36) t (.list 6 l.length (batsC l) false) = some (.lit (.int .i64 l.length)) := fun t => by simp [bindO, hcond, vCmp, vBin, vEq, vUn, vNil, vField, vLoad, takeCells, vIdx, vLenT, vLen, vExtract, hBS, hfill, hNew, hStore, hBox, hc_int, hc_bool, hc_string, hc_slice, hc_nilp, hc_nilm, hc_nilf, hc_agg, hc_list, hc_view, hc_ptr, hc_map, hc_func, ho_int, ho_bool, ho_string, ho_slice, ho_nilp, ho_nilm, ho_nilf, ho_list, ho_view, ho_ptr, ho_map, ho_func, putCells, hAppend, lcells, litCells, isNilS, llen, room, vMk, set_at, Join, vToInt, vSlice, vSliceX, vSliceS, cutAt, intAt, bl_len, bits64, bits64u, bits8, hfold, vMax2, vMin2, Try.underlying3, Try.underlying4, Try.underlying9, Try.underlying22, Try.underlying24, Try.underlying28, Try.underlying29, Try.underlying36, Try.underlying38, Try.underlying48, Try.underlying81, Try.underlying87, Try.underlying93, Try.underlying135]
  have hmm : (if 1000000 < (if 1 > most then 1 else most) then (1000000 : Int) else (if 1 > most then 1 else most)) = min (max most 1) 1000000 := by omega
  simp only [c19, hfold, vMax2, vMin2, bindO, Option.bind_some]
  have hw1 : 1 ≤ min (max most 1) 1000000 := by omega
  have hw2 : min (max most 1) 1000000 ≤ 1000000 := by omega
  have hmm' : (if 1000000 < (if 1 > most then 1 else most) then (1000000 : Int) else (if 1 > most then 1 else most)) = min (max most 1) 1000000 := hmm
  first | rw [hmm'] | skip
  have hmm2 : ∀ z : Int, (if (1000000 : Int) < z then (1000000 : Int) else z) = min z 1000000 := fun z => by omega
  have hmm3 : (if 1 > most then 1 else most) = max most 1 := by omega
  try simp only [hmm3, hmm2]
  generalize min (max most 1) 1000000 = W at *
  refine (new W s hw1 hw2).mono ?_
  rintro v s1 ⟨p, mid, hp, hmid, rfl, hs1, hkm⟩
  simp only [vExtract, List.getElem?_cons_zero, List.getElem?_cons_succ, hlen]
  simp only [Join]
  have hfin : ∀ (g : ((Value → Option Int) × Nat) × Int) t, HS.le s t → IsKM t p mid W g.1.1 g.1.2 → g = buildF W from_ l (fun _ => none, 0) from_ → (∃ p mid, HV.tup [.ptr p 0, .lit (.int .i64 (buildF W from_ l (fun _ => none, 0) from_).2)] = HV.tup [.ptr p 0, .lit (.int .i64 (buildF W from_ l (fun _ => none, 0) from_).2)] ∧ HS.le s t ∧ IsKM t p mid W (buildF W from_ l (fun _ => none, 0) from_).1.1 (buildF W from_ l (fun _ => none, 0) from_).1.2) := by
    rintro g t h1 h2 rfl
    exact ⟨p, mid, rfl, h1, h2⟩
  refine HLoop.ghost (σ := ((Value → Option Int) × Nat) × Int × Nat) (fun g => [.lit (.int .i64 g.2.1), .lit (.int .i64 g.2.2)]) (fun g t => g.2.2 ≤ l.length ∧ HS.le s t ∧ IsKM t p mid W g.1.1 g.1.2 ∧ buildF W from_ (l.drop g.2.2) g.1 g.2.1 = buildF W from_ l (fun _ => none, 0) from_) (fun g => l.length - g.2.2) ((fun _ => none, 0), from_, 0) rfl ⟨Nat.zero_le _, hs1, hkm, rfl⟩ ?_
  rintro ⟨g, upto, i⟩ t K ⟨hi, hst, hkt, hbf⟩ hK
  simp only at hi hst hkt hbf
  by_cases hlt : i < l.length
  · have hlt' : (i : Int) < (l.length : Int) := by omega
    have hix := batsC_idx l i hlt
    have hdc := drop_cons' b0 l hlt
    have hsm := hs (l.getD i b0) (by rw [List.getD, List.getElem?_eq_getElem hlt]; exact List.getElem_mem hlt)
    generalize l.getD i b0 = x at *
    obtain ⟨r, hr, hr1⟩ := hsm
    simp [bindO, hcond, vCmp, vBin, vUn, vField, takeCells, vLoad, vIdx, vExtract, hNew, hStore, hBox, hc_int, hc_bool, hc_agg, hc_list, hc_view, hc_ptr, ho_int, ho_bool, putCells, set_at, Join, batC_len, ho_batC, hcb, hc_recs, ho_recs, hlt', hlt, hix]
    intro X hX
    rw [set_set]
    have hat := set_at t X (.cells (batC x))
    have hle := le_set_new (.cells (batC x)) hst hX
    have hk1 := hkt.le (le_set_new (.cells (batC x)) (le_refl' t) hX)
    generalize t.set X (.cells (batC x)) = t1 at *
    have hp1 := hk1.1
    simp only [kmO] at hp1
    simp [bindO, hcond, vCmp, vBin, vUn, vField, takeCells, vLoad, vIdx, vExtract, hNew, hStore, hBox, hc_int, hc_bool, hc_agg, hc_list, hc_view, hc_ptr, ho_int, ho_bool, putCells, set_at, Join, batC_len, ho_batC, hcb, hc_recs, ho_recs, vNil, hp1]
    refine (len hk1).mono ?_
    rintro v s2 ⟨rfl, rfl⟩
    simp [hp1, hat, batC_len, hcb]
    refine (fresh hk1 x r hr hr1 from_).mono ?_
    rintro v s3 ⟨rfl, rfl⟩
    simp [hp1, hat]
    have x0 : (batC x)[0]? = some (.lit (.int .i64 x.base)) := rfl
    have x1 : (batC x)[1]? = some (.lit (.int .i64 x.last)) := rfl
    have x5 : (batC x)[5]? = some (recsV (some r)) := by rw [← hr]; rfl
    rw [hdc] at hbf
    by_cases hroom : W < IntKind.i64.wrap ((g.2 : Int) + ((freshF g.1 from_ r).2 : Nat))
    · simp only [buildF, hr, Option.getD_some, gt_iff_lt, if_pos hroom] at hbf
      simp [bindO, hcond, vCmp, vBin, vUn, vField, takeCells, vLoad, vIdx, vExtract, hNew, hStore, hBox, hc_int, hc_bool, hc_agg, hc_list, hc_view, hc_ptr, ho_int, ho_bool, putCells, set_at, Join, batC_len, ho_batC, hcb, hc_recs, ho_recs, hroom, x0]
      rw [← hbf]
      exact ⟨p, ⟨rfl, by show (if x.base < from_ then from_ else x.base) = max x.base from_; omega⟩, hle, mid, hk1⟩
    · simp only [buildF, hr, Option.getD_some, gt_iff_lt, if_neg hroom] at hbf
      have hl5 := len_recs (some r) s3
      simp only [Option.getD_some] at hl5
      simp [bindO, hcond, vCmp, vBin, vUn, vField, takeCells, vLoad, vIdx, vExtract, hNew, hStore, hBox, hc_int, hc_bool, hc_agg, hc_list, hc_view, hc_ptr, ho_int, ho_bool, putCells, set_at, Join, batC_len, ho_batC, hcb, hc_recs, ho_recs, hroom, x5, hl5]
      refine HLoop.ghost (σ := Nat) (fun j => [.lit (.int .i64 j)]) (fun j t => j ≤ r.length ∧ HS.le s t ∧ t X = some (.cells (batC x)) ∧ IsKM t p mid W ((r.take j).foldl (offStep W from_) g).1 ((r.take j).foldl (offStep W from_) g).2) (fun j => r.length - j) 0 rfl ⟨Nat.zero_le _, hle, hat, hk1⟩ ?_
      rintro j t2 K2 ⟨hj, hst2, hat2, hk2⟩ hK2
      by_cases hjl : j < r.length
      · have hjl' : (j : Int) < (r.length : Int) := by omega
        have hjx := recsC_idx r j hjl
        have hjt := take_succ' r0 r hjl
        generalize r.getD j r0 = y at *
        have hfo : (r.take (j + 1)).foldl (offStep W from_) g = offStep W from_ ((r.take j).foldl (offStep W from_) g) y := by rw [hjt]; simp
        generalize (r.take j).foldl (offStep W from_) g = g2 at *
        simp [bindO, hcond, vCmp, vBin, vUn, vField, takeCells, vLoad, vIdx, vExtract, hNew, hStore, hBox, hc_int, hc_bool, hc_agg, hc_list, hc_view, hc_ptr, ho_int, ho_bool, putCells, set_at, Join, batC_len, ho_batC, hcb, hc_recs, ho_recs, recsV, hjl', hjl, hjx, recC_len, ho_recC, hcz]
        intro Y hY
        rw [set_set]
        have y0 : (recC y)[0]? = some (.lit (.int .i64 y.off)) := rfl
        have y2 : (recC y)[2]? = some (.lit (.bool y.hasKey)) := rfl
        have y3 : (recC y)[3]? = some (byV y.key) := rfl
        have hk3 := hk2.le (le_set_new (.cells (recC y)) (le_refl' t2) hY)
        have hle3 := le_set_new (.cells (recC y)) hst2 hY
        have hat3 : (t2.set Y (.cells (recC y))) X = some (.cells (batC x)) := by rw [set_ne _ _ (ne_new hat2 hY)]; exact hat2
        generalize t2.set Y (.cells (recC y)) = t3 at *
        have hXm : X ≠ mid := by
          rintro rfl
          rw [hk3.2] at hat3
          simp [mapO] at hat3
        have hjw : IntKind.i64.wrap ((j : Int) + 1) = ((j + 1 : Nat) : Int) := by rw [w64 (by omega) (by omega)]; rfl
        have hskip : offStep W from_ g2 y = g2 → K2 [.lit (.int .i64 (IntKind.i64.wrap ((j : Int) + 1)))] t3 := by
          intro e
          refine hK2 (j + 1) _ _ (by rw [hjw]) ⟨hjl, hle3, hat3, ?_⟩ (by omega)
          rw [hfo, e]
          exact hk3
        cases hh : y.hasKey with
        | false =>
          simp [y2, hh]
          exact hskip (by simp [offStep, hh])
        | true =>
          by_cases hof : from_ ≤ y.off
          · simp [y0, y2, y3, hh, hof]
            refine (offer' hk3 y.key y.off).mono ?_
            rintro v s5 rfl
            refine hK2 (j + 1) _ _ (by rw [hjw]) ⟨hjl, le_set_free _ hle3 hmid, by rw [set_ne _ _ hXm]; exact hat3, ?_⟩ (by omega)
            rw [hfo, offStep, if_pos ⟨hh, hof⟩]
            exact hk3.set
          · simp [y0, y2, hh, hof]
            exact hskip (by simp [offStep, hof])
      · obtain rfl : j = r.length := by omega
        rw [List.take_length] at hk2
        simp [bindO, hcond, vCmp, vBin, vUn, vField, takeCells, vLoad, vIdx, vExtract, hNew, hStore, hBox, hc_int, hc_bool, hc_agg, hc_list, hc_view, hc_ptr, ho_int, ho_bool, putCells, set_at, Join, batC_len, ho_batC, hcb, hc_recs, ho_recs, hat2, x1]
        refine hK (r.foldl (offStep W from_) g, max (IntKind.i64.wrap (x.last + 1)) from_, i + 1) _ _ ?_ ⟨hlt, hst2, hk2, hbf⟩ (by show l.length - (i + 1) < l.length - i; omega)
        rw [w64 (x := (i : Int) + 1) (by omega) (by omega), show (if IntKind.i64.wrap (x.last + 1) < from_ then from_ else IntKind.i64.wrap (x.last + 1)) = max (IntKind.i64.wrap (x.last + 1)) from_ by omega]
        rfl
  · obtain rfl : i = l.length := by omega
    rw [List.drop_length] at hbf
    simp [bindO, hcond, vCmp, vBin, vUn, vField, takeCells, vLoad, vIdx, vExtract, hNew, hStore, hBox, hc_int, hc_bool, hc_agg, hc_list, hc_view, hc_ptr, ho_int, ho_bool, putCells, set_at, Join, batC_len, ho_batC, hcb, hc_recs, ho_recs]
    simp only [buildF] at hbf
    rw [← hbf]
    exact ⟨p, ⟨rfl, rfl⟩, hst, mid, hkt⟩
end Go.Proofs.Ytpibjdkenifggaa.CL
end
section
namespace Go.Proofs.Ytpibjdkenifggaa.CL
open Go.Proofs.Ytpibjdkenifggaa.H Go.Proofs.Ytpibjdkenifggaa.K0
set_option linter.unusedVariables false
set_option linter.unusedSimpArgs false
set_option maxRecDepth 100000
structure Cfg where
  n0 : Int
  n1 : Int
  n2 : Int
  n3 : Int
  n4 : Int
  b5 : Bool
  grace : Int
  mm : Int
  b8 : Bool
abbrev Seg := Option (List Bat)
def OkB (b : Bat) : Prop := ∃ r, b.recs = some r ∧ r ≠ [] ∧ r.length ≤ 100000 ∧ ∀ x ∈ r, ShortR x
def flatS (l : List Seg) : List Bat := l.flatMap fun x => x.getD []
theorem getD_orNil {α : Type} (l : List α) : (orNil l).getD [] = l := by cases l <;> rfl
end Go.Proofs.Ytpibjdkenifggaa.CL
end
section
namespace Go.Proofs.Ytpibjdkenifggaa.CL
open Go.Proofs.Ytpibjdkenifggaa.H Go.Proofs.Ytpibjdkenifggaa.K0
set_option linter.unusedVariables false
set_option linter.unusedSimpArgs false
set_option maxRecDepth 100000
def ints (l : List Int) : List HV := l.map fun n => .lit (.int .i64 n)
theorem sum {s : HS} (n : Int) (l : List Int) (hn : 0 ≤ n) (hl : ∀ x ∈ l, 0 ≤ x) (hlen : l.length ≤ 1000) :
    HC Try.prog 13 [.lit (.int .i64 n), .list 1 l.length (ints l) false] s (fun v s' => s' = s ∧ ∃ k, v = .lit (.int .i64 k) ∧ 0 ≤ k) := by
  refine HC13 ?_
  unfold c13
  refine HLoop.ghost (σ := Int × Nat) (fun g => [.lit (.int .i64 g.1), .lit (.int .i64 g.2)]) (fun g t => g.2 ≤ l.length ∧ 0 ≤ g.1 ∧ t = s) (fun g => l.length - g.2) (n, 0) rfl ⟨Nat.zero_le _, hn, rfl⟩ ?_
  rintro ⟨n, i⟩ t K ⟨hi, hn, rfl⟩ hK
  simp only at hi hn
  by_cases hlt : i < l.length
  · have hlt' : (i : Int) < (l.length : Int) := by omega
    have hx : ((ints l).drop i).take 1 = [.lit (.int .i64 (l.getD i 0))] := by
      rw [ints, ← List.map_drop, drop_cons' 0 l hlt]; rfl
    have h0 := hl _ (getD_mem (z := 0) hlt)
    generalize l.getD i 0 = x at *
    simp [bindO, hcond, vCmp, vBin, vEq, vUn, vNil, vField, vLoad, takeCells, vIdx, vLenT, vLen, vExtract, hBS, hfill, hNew, hStore, hBox, hc_int, hc_bool, hc_string, hc_slice, hc_nilp, hc_nilm, hc_nilf, hc_agg, hc_list, hc_view, hc_ptr, hc_map, hc_func, ho_int, ho_bool, ho_string, ho_slice, ho_nilp, ho_nilm, ho_nilf, ho_list, ho_view, ho_ptr, ho_map, ho_func, putCells, hAppend, lcells, litCells, isNilS, llen, room, vMk, set_at, Join, vToInt, vSlice, vSliceX, vSliceS, cutAt, intAt, bl_len, bits64, bits64u, bits8, hfold, vMax2, vMin2, Try.underlying3, Try.underlying4, Try.underlying9, Try.underlying22, Try.underlying24, Try.underlying28, Try.underlying29, Try.underlying36, Try.underlying38, Try.underlying48, Try.underlying81, Try.underlying87, Try.underlying93, Try.underlying135, hMark, hlt', hlt, hx]
    by_cases h1 : 1099511627776 < n
    · simp [h1]
    · have hw : IntKind.i64.wrap (1099511627776 - n) = 1099511627776 - n := w64 (by omega) (by omega)
      by_cases h2 : 1099511627776 - n < x
      · simp [h1, hw, h2]
      · simp [h1, hw, h2]
        refine hK (n + x, i + 1) _ _ ?_ ⟨hlt, by show 0 ≤ n + x; omega, rfl⟩ (by show l.length - (i + 1) < l.length - i; omega)
        rw [w64 (x := (i : Int) + 1) (by omega) (by omega), w64 (x := n + x) (by omega) (by omega)]
        rfl
  · obtain rfl : i = l.length := by omega
    simp [bindO, hcond, vCmp, vBin, vEq, vUn, vNil, vField, vLoad, takeCells, vIdx, vLenT, vLen, vExtract, hBS, hfill, hNew, hStore, hBox, hc_int, hc_bool, hc_string, hc_slice, hc_nilp, hc_nilm, hc_nilf, hc_agg, hc_list, hc_view, hc_ptr, hc_map, hc_func, ho_int, ho_bool, ho_string, ho_slice, ho_nilp, ho_nilm, ho_nilf, ho_list, ho_view, ho_ptr, ho_map, ho_func, putCells, hAppend, lcells, litCells, isNilS, llen, room, vMk, set_at, Join, vToInt, vSlice, vSliceX, vSliceS, cutAt, intAt, bl_len, bits64, bits64u, bits8, hfold, vMax2, vMin2, Try.underlying3, Try.underlying4, Try.underlying9, Try.underlying22, Try.underlying24, Try.underlying28, Try.underlying29, Try.underlying36, Try.underlying38, Try.underlying48, Try.underlying81, Try.underlying87, Try.underlying93, Try.underlying135, hMark, hn]
end Go.Proofs.Ytpibjdkenifggaa.CL
end
section
namespace Go.Proofs.Ytpibjdkenifggaa.CL
open Go.Proofs.Ytpibjdkenifggaa.H Go.Proofs.Ytpibjdkenifggaa.K0
set_option linter.unusedVariables false
set_option linter.unusedSimpArgs false
set_option maxRecDepth 100000
/-- A row of bytes of its own. -/
def FreshB (s s' : HS) (v : HV) (bound : Nat) : Prop := ∃ l : List Int, Acc s s' 1 v l.length (bl l) ∧ HS.le s s' ∧ l.length ≤ bound
theorem FreshB.up {b s t : HS} {A : HV} {n : Nat} (h : FreshB s t A n) (hb : HS.le b s) : FreshB b t A n := by
  obtain ⟨l, h1, h2, h3⟩ := h
  exact ⟨l, h1.base hb, HS.le.trans hb h2, h3⟩
theorem FreshB.mono {b t : HS} {A : HV} {n k : Nat} (h : FreshB b t A n) (hk : n ≤ k) : FreshB b t A k := by
  obtain ⟨l, h1, h2, h3⟩ := h
  exact ⟨l, h1, h2, by omega⟩
theorem FreshB.le {b s t : HS} {A : HV} {n : Nat} (h : FreshB b s A n) (hle : HS.le s t) : FreshB b t A n := by
  obtain ⟨l, h1, h2, h3⟩ := h
  exact ⟨l, h1.le hle, HS.le.trans h2 hle, h3⟩
theorem FreshB.hle {b s : HS} {A : HV} {n : Nat} (h : FreshB b s A n) : HS.le b s := h.choose_spec.2.1
end Go.Proofs.Ytpibjdkenifggaa.CL
end
section
namespace Go.Proofs.Ytpibjdkenifggaa.CL
open Go.Proofs.Ytpibjdkenifggaa.H Go.Proofs.Ytpibjdkenifggaa.K0
set_option linter.unusedVariables false
set_option linter.unusedSimpArgs false
set_option maxRecDepth 100000
/-- What a record may be, behind one with an offset. -/
structure OkRec (b : Bat) (last : Int) (r : Rec) : Prop where
  lo : b.base ≤ r.off
  hi : r.off ≤ b.last
  up : last < r.off
  t0 : 0 ≤ r.time
  t1 : r.time ≤ 1125899906842624
  nk : r.hasKey = false → (r.key.getD []).length = 0
  nv : r.hasVal = false → (r.val.getD []).length = 0
  k : (r.key.getD []).length ≤ 200
  v : (r.val.getD []).length ≤ 2000
/-- What a batch may be. -/
structure OkBat (b : Bat) (l : List Rec) : Prop where
  b0 : 0 ≤ b.base
  b1 : b.base ≤ b.last
  l1 : b.last ≤ 4611686018427387904
  n : l.length ≤ 100
  prod : 0 ≤ b.prod
  seq : 0 ≤ b.seq
  recs : ∀ i, i < l.length → OkRec b (if i = 0 then -1 else (l.getD (i - 1) r0).off) (l.getD i r0)
end Go.Proofs.Ytpibjdkenifggaa.CL
end
section
namespace Go.Proofs.Ytpibjdkenifggaa.CL
open Go.Proofs.Ytpibjdkenifggaa.H Go.Proofs.Ytpibjdkenifggaa.K0
set_option linter.unusedVariables false
set_option linter.unusedSimpArgs false
set_option maxRecDepth 100000
def MayB (b : Bat) : Prop := ∃ l, b.recs = some l ∧ l ≠ [] ∧ OkBat b l
def Rising (l : List Bat) : Prop := l.Pairwise fun a b => a.last < b.base
structure Mayy (segs : List Seg) : Prop where
  n : segs.length ≤ 20
  m : ∀ x ∈ segs, (x.getD []).length ≤ 30
  ok : ∀ x ∈ segs, ∀ b ∈ x.getD [], MayB b
  up : Rising (flatS segs)
end Go.Proofs.Ytpibjdkenifggaa.CL
end
section
namespace Go.Proofs.Ytpibjdkenifggaa.CL
open Go.Proofs.Ytpibjdkenifggaa.H Go.Proofs.Ytpibjdkenifggaa.K0
set_option linter.unusedVariables false
set_option linter.unusedSimpArgs false
set_option maxRecDepth 100000
def all2 {α : Type} (f : α → α → Bool) : List α → List α → Bool
  | [], [] => true
  | x :: a, y :: b => f x y && all2 f a b
  | _, _ => false
theorem all2_ne {α : Type} {f : α → α → Bool} : ∀ (a b : List α), a.length ≠ b.length → all2 f a b = false
  | [], [], h => absurd rfl h
  | [], _ :: _, _ => rfl
  | _ :: _, [], _ => rfl
  | x :: a, y :: b, h => by simp only [all2, all2_ne a b (fun e => h (by simp [e])), Bool.and_false]
def sameB' (a b : Option (List Int)) : Bool := keyB a == keyB b
theorem toList_go (s : ByteArray) : ∀ (k i : Nat) (r : List UInt8), s.size - i = k → i ≤ s.size → ByteArray.toList.loop s i r = r.reverse ++ s.data.toList.drop i := by
  intro k
  induction k with
  | zero =>
    intro i r h hi
    have : i = s.size := by omega
    unfold ByteArray.toList.loop
    rw [if_neg (by omega)]
    have e : s.data.toList.drop i = [] := List.drop_of_length_le (by rw [this]; show s.data.toList.length ≤ s.data.size; simp)
    rw [e, List.append_nil]
  | succ k ih =>
    intro i r h hi
    have hlt : i < s.size := by omega
    unfold ByteArray.toList.loop
    rw [if_pos hlt, ih (i + 1) _ (by omega) (by omega)]
    have hlt2 : i < s.data.toList.length := by
      have : s.data.toList.length = s.data.size := by simp
      rw [this]; exact hlt
    rw [List.drop_eq_getElem_cons hlt2, List.reverse_cons, List.append_assoc]
    congr 1
    show [s.data[i]!] ++ _ = _
    rw [getElem!_pos s.data i (by simpa using hlt2)]
    rfl
theorem toList_data (s : ByteArray) : s.toList = s.data.toList := by
  unfold ByteArray.toList
  rw [toList_go s s.size 0 [] (by omega) (by omega)]
  simp
theorem str_eq (a b : Option (List Int)) : ((⟨(keyB a).toArray⟩ : ByteArray).toList == (⟨(keyB b).toArray⟩ : ByteArray).toList) = sameB' a b := by rw [toList_data, toList_data]; rfl
end Go.Proofs.Ytpibjdkenifggaa.CL
end
section
namespace Go.Proofs.Ytpibjdkenifggaa.CL
open Go.Proofs.Ytpibjdkenifggaa.H Go.Proofs.Ytpibjdkenifggaa.K0
set_option linter.unusedVariables false
set_option linter.unusedSimpArgs false
theorem mem_flatS {l : List Seg} {b : Bat} : b ∈ flatS l ↔ ∃ x ∈ l, b ∈ x.getD [] := by simp [flatS]
theorem MayB.len {b : Bat} (h : MayB b) : (b.recs.getD []).length ≤ 100 := by obtain ⟨l, h1, h2, h3⟩ := h; rw [h1]; exact h3.n
theorem MayB.in {b : Bat} (h : MayB b) {r : Rec} (hr : r ∈ b.recs.getD []) : b.base ≤ r.off ∧ r.off ≤ b.last := by
  obtain ⟨l, h1, h2, h3⟩ := h
  rw [h1, Option.getD_some] at hr
  obtain ⟨j, hj, rfl⟩ := List.mem_iff_getElem.1 hr
  have := h3.recs j hj
  rw [show l.getD j r0 = l[j] from by simp [List.getD, hj]] at this
  exact ⟨this.lo, this.hi⟩
def SameHead (x y : Bat) : Prop := x.base = y.base ∧ x.last = y.last ∧ x.prod = y.prod ∧ x.seq = y.seq
inductive Emb : List Bat → List Bat → Prop
  | done (ys : List Bat) : Emb [] ys
  | skip {xs ys : List Bat} (y : Bat) (h : Emb xs ys) : Emb xs (y :: ys)
  | take {xs ys : List Bat} (x y : Bat) (h : SameHead x y) (h' : Emb xs ys) : Emb (x :: xs) (y :: ys)
end Go.Proofs.Ytpibjdkenifggaa.CL
end
section
namespace Go.Proofs.Ytpibjdkenifggaa.CL
open Go.Proofs.Ytpibjdkenifggaa.H Go.Proofs.Ytpibjdkenifggaa.K0
set_option linter.unusedVariables false
set_option linter.unusedSimpArgs false
set_option maxRecDepth 100000
theorem kv_same (a b : Option (List Int)) : kv a = kv b ↔ sameB' a b = true := by
  constructor
  · intro h
    have h1 : (⟨(keyB a).toArray⟩ : ByteArray) = ⟨(keyB b).toArray⟩ := by injection h
    have h2 : (keyB a).toArray = (keyB b).toArray := by injection h1
    have h3 : keyB a = keyB b := by have := congrArg Array.toList h2; simpa using this
    simp [sameB', h3]
  · intro h
    have : keyB a = keyB b := by simpa [sameB'] using h
    simp [kv, this]
theorem okB_of {segs : List Seg} (h : Mayy segs) : ∀ x ∈ segs, ∀ b ∈ x.getD [], OkB b := by
  intro x hx b hb
  obtain ⟨l, h1, h2, h3⟩ := h.ok x hx b hb
  refine ⟨l, h1, h2, by have := h3.n; omega, fun r hr => ?_⟩
  obtain ⟨j, hj, rfl⟩ := List.mem_iff_getElem.1 hr
  have := h3.recs j hj
  rw [show l.getD j r0 = l[j] from by simp [List.getD, hj]] at this
  have hk := this.k
  have hv := this.v
  constructor
  · unfold short; cases hkk : l[j].key with
    | none => trivial
    | some k => rw [hkk, Option.getD_some] at hk; show k.length ≤ _; omega
  · unfold short; cases hkk : l[j].val with
    | none => trivial
    | some k => rw [hkk, Option.getD_some] at hv; show k.length ≤ _; omega
end Go.Proofs.Ytpibjdkenifggaa.CL
end
section
namespace Go.Proofs.Ytpibjdkenifggaa.CL
open Go.Proofs.Ytpibjdkenifggaa.H Go.Proofs.Ytpibjdkenifggaa.K0
set_option linter.unusedVariables false
set_option linter.unusedSimpArgs false
end Go.Proofs.Ytpibjdkenifggaa.CL
end
section
namespace Go.Proofs.Ytpibjdkenifggaa.CL
open Go.Proofs.Ytpibjdkenifggaa.H Go.Proofs.Ytpibjdkenifggaa.K0
set_option linter.unusedVariables false
set_option linter.unusedSimpArgs false
abbrev By := List UInt8
abbrev bl_ (a b : By) : Bool := Op.bytesLess a b
theorem bl_irrefl : ∀ a : By, bl_ a a = false
  | [] => rfl
  | x :: a => by simp only [bl_, Op.bytesLess]; have := bl_irrefl a; simp [bl_] at this; simp [this]
theorem bl_tri : ∀ a b : By, bl_ a b = false → a = b ∨ bl_ b a = true
  | [], [], _ => .inl rfl
  | [], y :: b, h => by simp [bl_, Op.bytesLess] at h
  | x :: a, [], _ => .inr rfl
  | x :: a, y :: b, h => by
    simp only [bl_, Op.bytesLess, Bool.or_eq_false_iff, Bool.and_eq_false_iff, decide_eq_false_iff_not] at h
    obtain ⟨h1, h2⟩ := h
    by_cases e : x = y
    · subst e
      have h3 : bl_ a b = false := by rcases h2 with h | h; simp at h; exact h
      rcases bl_tri a b h3 with h | h
      · exact .inl (by rw [h])
      · refine .inr ?_
        simp only [bl_, Op.bytesLess, Bool.or_eq_true, Bool.and_eq_true, beq_self_eq_true, true_and]
        exact .inr h
    · refine .inr ?_
      simp only [bl_, Op.bytesLess, Bool.or_eq_true, decide_eq_true_eq]
      refine .inl ?_
      rcases UInt8.lt_or_lt_of_ne (a := x) (b := y) e with h | h
      · exact absurd h h1
      · exact h
theorem bl_trans : ∀ a b c : By, bl_ a b = true → bl_ b c = true → bl_ a c = true
  | _, b, [], _, h => by cases b <;> simp [bl_, Op.bytesLess] at h
  | _, [], z :: c, h, _ => by rename_i a; cases a <;> simp [bl_, Op.bytesLess] at h
  | [], y :: b, z :: c, _, _ => rfl
  | x :: a, y :: b, z :: c, h, k => by
    simp only [bl_, Op.bytesLess, Bool.or_eq_true, Bool.and_eq_true, decide_eq_true_eq, beq_iff_eq] at h k ⊢
    rcases h with h | ⟨rfl, h⟩ <;> rcases k with k | ⟨rfl, k⟩
    · exact .inl (UInt8.lt_trans h k)
    · exact .inl h
    · exact .inl k
    · exact .inr ⟨rfl, bl_trans a b c h k⟩
theorem bl_asymm {a b : By} (h : bl_ a b = true) : bl_ b a = false := by
  cases hb : bl_ b a with
  | false => rfl
  | true => have := bl_trans a b a h hb; rw [bl_irrefl] at this; cases this
/-- A key, a value, an offset. -/
structure Pr where
  key : Option (List Int)
  val : Option (List Int)
  off : Int
def p0 : Pr := ⟨none, none, 0⟩
def pk (p : Pr) : By := keyB p.key
/-- Sorted by their keys, each once. -/
def SortedP (l : List Pr) : Prop := l.Pairwise fun a b => bl_ (pk a) (pk b) = true
def findI (l : List Pr) (k : By) : Nat := (l.takeWhile fun p => bl_ (pk p) k).length
def findOk (l : List Pr) (k : By) : Bool := match l[findI l k]? with | some p => pk p == k | none => false
def putF (l : List Pr) (p : Pr) : List Pr := l.take (findI l (pk p)) ++ (p :: l.drop (if findOk l (pk p) then findI l (pk p) + 1 else findI l (pk p)))
theorem findI_le (l : List Pr) (k : By) : findI l k ≤ l.length := (List.takeWhile_sublist _).length_le
theorem findI_cons (x : Pr) (l : List Pr) (k : By) : findI (x :: l) k = if bl_ (pk x) k then findI l k + 1 else 0 := by
  unfold findI
  rw [List.takeWhile_cons]
  split <;> simp
theorem findOk_cons (x : Pr) (l : List Pr) (k : By) : findOk (x :: l) k = if bl_ (pk x) k then findOk l k else pk x == k := by
  unfold findOk
  rw [findI_cons]
  by_cases h : bl_ (pk x) k = true
  · simp only [h, if_true, List.getElem?_cons_succ]
  · simp only [h, if_false, List.getElem?_cons_zero, Bool.false_eq_true]
theorem putF_cons (x : Pr) (l : List Pr) (p : Pr) : putF (x :: l) p = if bl_ (pk x) (pk p) then x :: putF l p else if pk x == pk p then p :: l else p :: x :: l := by
  unfold putF
  rw [findI_cons, findOk_cons]
  by_cases h : bl_ (pk x) (pk p) = true
  · simp only [h, if_true]
    by_cases h2 : findOk l (pk p) = true <;> simp [h2]
  · simp only [h, if_false]
    cases h2 : (pk x == pk p) <;> simp
/-- What a row says of a key. -/
def look (l : List Pr) (k : By) : Option Pr := l.find? fun p => pk p == k
theorem look_cons (x : Pr) (l : List Pr) (k : By) : look (x :: l) k = if pk x == k then some x else look l k := by
  unfold look
  rw [List.find?_cons]
  split <;> simp_all
theorem look_none_of_lt {l : List Pr} {k : By} (h : ∀ p ∈ l, bl_ k (pk p) = true) : look l k = none := by
  unfold look
  rw [List.find?_eq_none]
  intro p hp
  have := h p hp
  simp only [beq_iff_eq]
  intro e
  rw [e, bl_irrefl] at this
  cases this
/-- Found is what is there. -/
theorem find_look : ∀ {l : List Pr} {k : By}, SortedP l → (findOk l k = true → findI l k < l.length ∧ look l k = some (l.getD (findI l k) p0) ∧ pk (l.getD (findI l k) p0) = k) ∧ (findOk l k = false → look l k = none)
  | [], k, h => ⟨fun h => by simp [findOk, findI] at h, fun _ => rfl⟩
  | x :: l, k, h => by
    unfold SortedP at h
    rw [List.pairwise_cons] at h
    obtain ⟨ih1, ih2⟩ := find_look (k := k) h.2
    rw [findOk_cons, findI_cons, look_cons]
    by_cases hx : bl_ (pk x) k = true
    · have hne : (pk x == k) = false := by
        cases e : (pk x == k) with
        | false => rfl
        | true => rw [eq_of_beq e, bl_irrefl] at hx; cases hx
      simp only [hx, if_true, hne, Bool.false_eq_true, if_false]
      refine ⟨fun h => ?_, ih2⟩
      obtain ⟨g1, g2, g3⟩ := ih1 h
      exact ⟨by simp; omega, by rw [g2]; simp [List.getD], by simpa [List.getD] using g3⟩
    · simp only [hx, Bool.false_eq_true, if_false]
      cases e : (pk x == k) with
      | true => exact ⟨fun _ => ⟨Nat.succ_pos _, by simp [List.getD], eq_of_beq e⟩, fun h => by cases h⟩
      | false =>
        refine ⟨fun h => (by cases h), fun _ => ?_⟩
        simp only [Bool.false_eq_true, if_false]
        have hlt : bl_ k (pk x) = true := by
          rcases bl_tri (pk x) k (by simpa using hx) with h' | h'
          · rw [h'] at e; simp at e
          · exact h'
        exact look_none_of_lt fun p hp => bl_trans _ _ _ hlt (h.1 p hp)
theorem look_put : ∀ (l : List Pr) (p : Pr) (q : By), SortedP l → look (putF l p) q = if pk p == q then some p else look l q
  | [], p, q, _ => by simp [putF, look_cons, findI]
  | x :: l, p, q, h => by
    unfold SortedP at h
    rw [List.pairwise_cons] at h
    rw [putF_cons]
    by_cases hx : bl_ (pk x) (pk p) = true
    · simp only [hx, if_true]
      rw [look_cons, look_put l p q h.2, look_cons]
      cases e1 : (pk x == q) <;> cases e2 : (pk p == q) <;> simp
      rw [eq_of_beq e1, eq_of_beq e2, bl_irrefl] at hx
      cases hx
    · simp only [hx, Bool.false_eq_true, if_false]
      cases e : (pk x == pk p) with
      | true =>
        simp only [if_true]
        rw [look_cons, look_cons]
        have := eq_of_beq e
        rw [this]
        cases (pk p == q) <;> simp
      | false =>
        simp only [Bool.false_eq_true, if_false]
        rw [look_cons]
theorem put_mem : ∀ {l : List Pr} {p q : Pr}, q ∈ putF l p → q = p ∨ q ∈ l
  | [], p, q, h => by simp [putF, findI] at h; exact .inl h
  | x :: l, p, q, h => by
    rw [putF_cons] at h
    split at h
    · rcases List.mem_cons.1 h with rfl | h
      · exact .inr List.mem_cons_self
      · rcases put_mem h with h | h
        · exact .inl h
        · exact .inr (List.mem_cons_of_mem _ h)
    · split at h
      · rcases List.mem_cons.1 h with rfl | h
        · exact .inl rfl
        · exact .inr (List.mem_cons_of_mem _ h)
      · rcases List.mem_cons.1 h with rfl | h
        · exact .inl rfl
        · exact .inr h
theorem put_sorted : ∀ {l : List Pr} {p : Pr}, SortedP l → SortedP (putF l p)
  | [], p, _ => by simp [putF, findI, SortedP]
  | x :: l, p, h => by
    have h0 := h
    unfold SortedP at h
    rw [List.pairwise_cons] at h
    rw [putF_cons]
    by_cases hx : bl_ (pk x) (pk p) = true
    · simp only [hx, if_true]
      unfold SortedP
      rw [List.pairwise_cons]
      refine ⟨fun q hq => ?_, put_sorted h.2⟩
      rcases put_mem hq with rfl | hq
      · exact hx
      · exact h.1 q hq
    · simp only [hx, Bool.false_eq_true, if_false]
      cases e : (pk x == pk p) with
      | true =>
        simp only [if_true]
        unfold SortedP
        rw [List.pairwise_cons, ← eq_of_beq e]
        exact h
      | false =>
        simp only [Bool.false_eq_true, if_false]
        have hlt : bl_ (pk p) (pk x) = true := by
          rcases bl_tri (pk x) (pk p) (by simpa using hx) with h' | h'
          · rw [h'] at e; simp at e
          · exact h'
        unfold SortedP
        rw [List.pairwise_cons]
        refine ⟨fun q hq => ?_, h0⟩
        rcases List.mem_cons.1 hq with rfl | hq
        · exact hlt
        · exact bl_trans _ _ _ hlt (h.1 q hq)
theorem putF_len : ∀ (l : List Pr) (p : Pr), SortedP l → (putF l p).length = if (look l (pk p)).isSome then l.length else l.length + 1
  | [], p, _ => by simp [putF, findI, look]
  | x :: l, p, h => by
    have h0 := h
    unfold SortedP at h
    rw [List.pairwise_cons] at h
    rw [putF_cons, look_cons]
    by_cases hx : bl_ (pk x) (pk p) = true
    · have hne : (pk x == pk p) = false := by
        cases e : (pk x == pk p) with
        | false => rfl
        | true => rw [eq_of_beq e, bl_irrefl] at hx; cases hx
      simp only [hx, if_true, hne, Bool.false_eq_true, if_false, List.length_cons, putF_len l p h.2]
      split <;> rfl
    · simp only [hx, Bool.false_eq_true, if_false]
      cases e : (pk x == pk p) with
      | true => simp
      | false =>
        have hlt : bl_ (pk p) (pk x) = true := by
          rcases bl_tri (pk x) (pk p) (by simpa using hx) with h' | h'
          · rw [h'] at e; simp at e
          · exact h'
        have : look l (pk p) = none := look_none_of_lt fun q hq => bl_trans _ _ _ hlt (h.1 q hq)
        simp [this]
end Go.Proofs.Ytpibjdkenifggaa.CL
end
section
namespace Go.Proofs.Ytpibjdkenifggaa.CL
open Go.Proofs.Ytpibjdkenifggaa.H Go.Proofs.Ytpibjdkenifggaa.K0
set_option linter.unusedVariables false
set_option linter.unusedSimpArgs false
set_option maxRecDepth 100000
def Acc0 (b t : HS) (sz : Nat) (A : HV) (n : Nat) (cs : List HV) : Prop := Acc b t sz A n cs ∨ (n = 0 ∧ cs = [] ∧ ∃ q, b q = none ∧ A = .view q 0 sz 0 true ∧ t q = some (.cells []))
theorem hBS0 {t : HS} {sz : Nat} {K : HV → HS → Prop} (h : ∀ id, t id = none → K (.view id 0 sz 0 true) (t.set id (.cells []))) : hBS t sz 0 [] [] K := h
theorem Acc0.to {b t : HS} {sz : Nat} {A : HV} {n : Nat} {cs : List HV} (h : Acc0 b t sz A n cs) (hn : n ≠ 0) : Acc b t sz A n cs := by
  rcases h with h | ⟨h, -⟩
  · exact h
  · exact absurd h hn
theorem app_empty {b t : HS} {sz by_ q : Nat} {K : HV → HS → Prop} (hb : HS.le b t) (hq : b q = none) (ht : t q = some (.cells [])) {x : HV} {xs : List HV} {k : Nat} (hx : lcells t sz x = some xs) (hk : llen x = k) (hl : xs.length = k * sz)
    (hroom : room k by_) (hK : ∀ A' t', Acc0 b t' sz A' k xs → HS.le b t' → K A' t') : hAppend t sz by_ (.view q 0 sz 0 true) x K := by
  unfold hAppend
  rw [hx]
  simp only [hk, ht]
  refine ⟨by trivial, by simp, ?_⟩
  simp only [if_true]
  split
  · rename_i h0
    subst h0
    have : xs = [] := List.eq_nil_of_length_eq_zero (by rw [hl]; omega)
    subst this
    exact hK _ _ (.inr ⟨rfl, rfl, q, hq, rfl, ht⟩) hb
  · refine ⟨by rw [Nat.zero_add]; exact hroom, fun id hid => ?_⟩
    have e : (([] : List HV).drop 0).take (0 * sz) ++ xs = xs := by simp
    rw [e]
    exact hK _ _ (.inl (.inr ⟨id, _, none_of_le hb hid, by rw [Nat.zero_add], set_at _ _ _, hl, by omega⟩)) (le_set_new _ hb hid)
theorem Acc0.app1 {b t : HS} {sz by_ : Nat} {A : HV} {n : Nat} {cs zs : List HV} {K : HV → HS → Prop} (h : Acc0 b t sz A n cs) (hb : HS.le b t) {x : HV} {vs : List HV} (hx : hcells x = some vs) (hv : vs.length = sz) (hz : zs.length = sz)
    (hroom : room (n + 1) by_) (hK : ∀ A' t', Acc b t' sz A' (n + 1) (cs ++ vs) → HS.le b t' → K A' t') : hBS t sz 1 zs [(0, x)] (fun v s => hAppend s sz by_ A v K) := by
  rcases h with h | ⟨rfl, rfl, q, h1, rfl, h3⟩
  · exact h.app1 hb hx hv hz hroom fun A' t' g1 g2 _ => hK A' t' g1 g2
  · have hf : hfill (fun i => some (i * sz, sz)) zs [(0, x)] = some vs := by
      simp only [hfill, hx, Nat.zero_mul, Nat.zero_add, hv, hz, Nat.le_refl, and_self, if_true, List.take_zero, List.nil_append]
      rw [List.drop_of_length_le (by omega), List.append_nil]
    unfold hBS
    rw [hf]
    intro id hid
    refine app_empty (le_set_new _ hb hid) h1 (by rw [set_ne _ _ (ne_new h3 hid)]; exact h3) (xs := vs) (k := 1) (by simp [lcells, set_at, hv, List.take_of_length_le]) rfl (by omega) (by rwa [Nat.zero_add] at hroom) ?_
    intro A' t' g1 g2
    exact hK A' t' (by rw [List.nil_append, Nat.zero_add]; exact g1.to (by omega)) g2
theorem findI_lt : ∀ {l : List Pr} {k : By} {i : Nat}, i < findI l k → bl_ (pk (l.getD i p0)) k = true
  | [], k, i, h => by simp [findI] at h
  | x :: l, k, i, h => by
    rw [findI_cons] at h
    by_cases hx : bl_ (pk x) k = true
    · rw [if_pos hx] at h
      cases i with
      | zero => exact hx
      | succ i => exact findI_lt (l := l) (by omega)
    · rw [if_neg hx] at h; omega
theorem findI_at : ∀ {l : List Pr} {k : By}, findI l k < l.length → bl_ (pk (l.getD (findI l k) p0)) k = false
  | [], k, h => by simp at h
  | x :: l, k, h => by
    rw [findI_cons] at h ⊢
    by_cases hx : bl_ (pk x) k = true
    · rw [if_pos hx] at h ⊢
      exact findI_at (l := l) (by simpa using h)
    · rw [if_neg hx]
      simpa using hx
def prC (p : Pr) : List HV := [byV p.key, byV p.val, .lit (.int .i64 p.off)]
theorem prC_len (p : Pr) : (prC p).length = 3 := rfl
theorem pr0 (p : Pr) : (prC p)[0]? = some (byV p.key) := rfl
theorem pr2 (p : Pr) : (prC p)[2]? = some (.lit (.int .i64 p.off)) := rfl
theorem vIdx_prV (o : Option (List Pr)) (i : Nat) (hi : i < (o.getD []).length) : vIdx 3 (rowV prC 3 o) (.lit (.int .i64 i)) = some (.elt (prC ((o.getD []).getD i p0)) 0) := by
  cases o with
  | none => simp at hi
  | some l => exact idx_rowL prC_len p0 l .i64 hi
theorem len_prV (o : Option (List Pr)) (s : HS) : vLenT (Try.prog.underlying 81) s (rowV prC 3 o) = some (.lit (.int .i64 ((o.getD []).length : Nat))) := by cases o <;> rfl
theorem str_lt (a b : Option (List Int)) : Op.bytesLess (⟨(keyB a).toArray⟩ : ByteArray).toList (⟨(keyB b).toArray⟩ : ByteArray).toList = bl_ (keyB a) (keyB b) := by rw [toList_data, toList_data]
theorem find {s : HS} (o : Option (List Pr)) (k : Option (List Int)) (hl : (o.getD []).length ≤ 1000000) : HC Try.prog 65 [rowV prC 3 o, byV k] s (fun v s' => s' = s ∧ v = .tup [.lit (.int .i64 (findI (o.getD []) (keyB k))), .lit (.bool (findOk (o.getD []) (keyB k)))]) := by
  refine HC65 ?_
  unfold c65
  refine HLoop.ghost (σ := Nat) (fun i => [.lit (.int .i64 i)]) (fun i t => i ≤ findI (o.getD []) (keyB k) ∧ t = s) (fun i => (o.getD []).length - i) 0 rfl ⟨Nat.zero_le _, rfl⟩ ?_
  rintro i t K ⟨hi, rfl⟩ hK
  have hle := findI_le (o.getD []) (keyB k)
  simp only [bindO, hcond, vCmp, vBin, vUn, vExtract, if_true, List.headD_cons, List.tail_cons, Bool.not_true, Bool.not_false, len_prV]
  refine Join.of (fun xs s' => s' = t ∧ xs = [.lit (.bool (decide (i < (o.getD []).length) && bl_ (pk ((o.getD []).getD i p0)) (keyB k)))]) ?_ ?_
  rotate_left
  · intro K4 hK4
    by_cases hlt : i < (o.getD []).length
    · have hlt' : (i : Int) < ((o.getD []).length : Int) := by omega
      have hix := vIdx_prV o i hlt
      simp only [hlt', decide_true, hix, field_elt, load_elt1, Nat.zero_add, pr0, isStr_by, Bool.false_eq_true, if_false, toStr_by, kv, str_lt]
      exact hK4 _ _ ⟨rfl, by simp [hlt, pk]⟩
    · have hlt' : ¬ (i : Int) < ((o.getD []).length : Int) := by omega
      simp only [hlt', decide_false]
      exact hK4 _ _ ⟨rfl, by simp [hlt]⟩
  rintro xs s' ⟨rfl, rfl⟩
  simp only [bindO, hcond, vCmp, vBin, vUn, vExtract, if_true, List.headD_cons, List.tail_cons, Bool.not_true, Bool.not_false]
  cases hgo : (decide (i < (o.getD []).length) && bl_ (pk ((o.getD []).getD i p0)) (keyB k)) with
  | true =>
    have h1 : i < (o.getD []).length := by simp at hgo; exact hgo.1
    have h2 : bl_ (pk ((o.getD []).getD i p0)) (keyB k) = true := by simp at hgo; exact hgo.2
    have h3 : i ≠ findI (o.getD []) (keyB k) := by
      intro e
      have := findI_at (l := o.getD []) (k := keyB k) (by omega)
      rw [← e, h2] at this
      cases this
    exact hK (i + 1) _ _ (by rw [w64 (by omega) (by omega)]; rfl) ⟨by omega, rfl⟩ (by omega)
  | false =>
    have h3 : i = findI (o.getD []) (keyB k) := by
      rcases Nat.lt_or_ge i (findI (o.getD []) (keyB k)) with h | h
      · have h4 := findI_lt h
        rw [h4] at hgo
        simp at hgo
        omega
      · omega
    subst h3
    simp only []
    by_cases hlt : findI (o.getD []) (keyB k) < (o.getD []).length
    · have hlt' : (findI (o.getD []) (keyB k) : Int) < ((o.getD []).length : Int) := by omega
      have hix := vIdx_prV o _ hlt
      have hok : findOk (o.getD []) (keyB k) = sameB' ((o.getD []).getD (findI (o.getD []) (keyB k)) p0).key k := by
        unfold findOk
        simp only [List.getElem?_eq_getElem hlt]
        simp [sameB', pk, List.getD, hlt]
      simp only [hlt', decide_true, hix, field_elt, load_elt1, Nat.zero_add, pr0, isStr_by, Bool.false_eq_true, if_false, toStr_by, kv, str_eq, ← hok, true_and]
    · have hlt' : ¬ (findI (o.getD []) (keyB k) : Int) < ((o.getD []).length : Int) := by omega
      have hok : findOk (o.getD []) (keyB k) = false := by
        unfold findOk
        rw [List.getElem?_eq_none (by omega)]
      simp only [hlt', decide_false, hok, true_and]
theorem take_drop_len (l : List Pr) (i : Nat) (h : i ≤ l.length) : (l.take i).length = i := by rw [List.length_take]; omega
theorem hc_prC (p : Pr) : hcells (.agg (prC p)) = some (prC p) := rfl
theorem slice_prV_hi (o : Option (List Pr)) {hi : Nat} (h : hi ≤ (o.getD []).length) : ∃ x, vSlice 3 (rowV prC 3 o) none (some (.lit (.int .i64 hi))) none = some x ∧ (∀ s, lcells s 3 x = some (rows prC ((o.getD []).take hi))) ∧ llen x = hi := by
  cases o with
  | none =>
    simp at h
    subst h
    exact ⟨nilV, rfl, fun s => rfl, rfl⟩
  | some l => exact ⟨_, slice_rowL_hi prC_len l .i64 h, fun s => lcells_rowL _ s, by rw [llen_rowL]; exact take_drop_len l hi h⟩
theorem slice_prV_lo (o : Option (List Pr)) {lo : Nat} (h : lo ≤ (o.getD []).length) : ∃ x, vSlice 3 (rowV prC 3 o) (some (.lit (.int .i64 lo))) none none = some x ∧ (∀ s, lcells s 3 x = some (rows prC ((o.getD []).drop lo))) ∧ llen x = ((o.getD []).drop lo).length := by
  cases o with
  | none =>
    simp at h
    subst h
    exact ⟨nilV, rfl, fun s => rfl, rfl⟩
  | some l => exact ⟨_, slice_rowL_lo prC_len l .i64 h, fun s => lcells_rowL _ s, llen_rowL _⟩
theorem refPut {s : HS} (o : Option (List Pr)) (p : Pr) (hl : (o.getD []).length ≤ 1000000) : HC Try.prog 66 [rowV prC 3 o, .agg (prC p)] s (fun v s' => s' = s ∧ v = rowL prC 3 (putF (o.getD []) p)) := by
  refine HC.up (HC66 ?_)
  unfold c66 hBox
  rw [hc_prC]
  intro p1 hp1
  have htp := set_at s p1 (.cells (prC p))
  have hst := le_set_new (.cells (prC p)) (le_refl' s) hp1
  generalize s.set p1 (.cells (prC p)) = t at *
  simp only [bindO, hcond, vCmp, vBin, vUn, vExtract, if_true, List.headD_cons, List.tail_cons, Bool.not_true, Bool.not_false, vField, Nat.zero_add, vLoad, htp, takeCells, Bool.false_eq_true, if_false, pr0]
  refine (find o p.key hl).mono ?_
  rintro v t1 ⟨rfl, rfl⟩
  have hle := findI_le (o.getD []) (keyB p.key)
  obtain ⟨x1, e1, e2, e3⟩ := slice_prV_hi o hle
  simp only [bindO, hcond, vCmp, vBin, vUn, vExtract, if_true, List.headD_cons, List.tail_cons, Bool.not_true, Bool.not_false, List.getElem?_cons_zero, List.getElem?_cons_succ]
  refine hBS0 fun q hq => ?_
  have hqn := none_of_le hst hq
  simp only [e1]
  refine app_empty (b := t1) (le_set_new _ (le_refl' t1) hq) hq (set_at _ _ _) (e2 _) e3 (by rw [rows_len prC_len, take_drop_len _ _ hle]) ⟨by omega, by omega⟩ ?_
  intro A s2 h2 hl2
  have hp2 := hl2 _ _ htp
  have hcp : (prC p).take 3 = prC p := rfl
  simp only [hp2, prC_len, Nat.le_refl, if_true, List.drop_zero, hcp]
  refine h2.app1 hl2 (hc_prC p) rfl rfl ⟨by omega, by omega⟩ ?_
  intro A3 s3 h3 hl3
  refine Join.of (fun xs s' => s' = s3 ∧ xs = [.lit (.int .i64 ((if findOk (o.getD []) (keyB p.key) then findI (o.getD []) (keyB p.key) + 1 else findI (o.getD []) (keyB p.key) : Nat)))]) ?_ ?_
  rotate_left
  · intro K hK
    cases hok : findOk (o.getD []) (keyB p.key) with
    | true =>
      simp only []
      refine hK _ _ ⟨rfl, ?_⟩
      rw [w64 (by omega) (by omega), hok]; rfl
    | false =>
      simp only []
      refine hK _ _ ⟨rfl, ?_⟩
      rw [hok]; rfl
  rintro xs s4 ⟨rfl, rfl⟩
  have hlo : (if findOk (o.getD []) (keyB p.key) then findI (o.getD []) (keyB p.key) + 1 else findI (o.getD []) (keyB p.key) : Nat) ≤ (o.getD []).length := by
    split
    · rename_i hok
      unfold findOk at hok
      split at hok
      · rename_i z hz
        have := (List.getElem?_eq_some_iff.1 hz).1
        omega
      · cases hok
    · exact hle
  obtain ⟨x2, f1, f2, f3⟩ := slice_prV_lo o hlo
  simp only [bindO, hcond, vCmp, vBin, vUn, vExtract, if_true, List.headD_cons, List.tail_cons, Bool.not_true, Bool.not_false, f1]
  refine h3.app hl3 (f2 _) f3 (by rw [rows_len prC_len]) ⟨by rw [List.length_drop]; omega, by rw [List.length_drop]; omega⟩ ?_
  intro A5 s5 h5 hl5 _
  refine ⟨_, s, (h5.up hl5).trans (UpL.le _ hst), rfl, ?_⟩
  have hput : putF (o.getD []) p = (o.getD []).take (findI (o.getD []) (keyB p.key)) ++ (p :: (o.getD []).drop (if findOk (o.getD []) (keyB p.key) then findI (o.getD []) (keyB p.key) + 1 else findI (o.getD []) (keyB p.key))) := rfl
  have hcs : rows prC ((o.getD []).take (findI (o.getD []) (keyB p.key))) ++ prC p ++ rows prC ((o.getD []).drop (if findOk (o.getD []) (keyB p.key) then findI (o.getD []) (keyB p.key) + 1 else findI (o.getD []) (keyB p.key))) = rows prC (putF (o.getD []) p) := by
    rw [hput, rows_app, rows_cons, List.append_assoc]
  have hn : findI (o.getD []) (keyB p.key) + 1 + ((o.getD []).drop (if findOk (o.getD []) (keyB p.key) then findI (o.getD []) (keyB p.key) + 1 else findI (o.getD []) (keyB p.key))).length = (putF (o.getD []) p).length := by
    rw [hput, List.length_append, List.length_cons, take_drop_len _ _ hle]; omega
  unfold accV
  rw [if_neg (by omega), hcs, hn]
  rfl
end Go.Proofs.Ytpibjdkenifggaa.CL
end
section
namespace Go.Proofs.Ytpibjdkenifggaa.CL
open Go.Proofs.Ytpibjdkenifggaa.H Go.Proofs.Ytpibjdkenifggaa.K0
set_option linter.unusedVariables false
set_option linter.unusedSimpArgs false
set_option maxRecDepth 100000
/-- The sorted row says what the map says. -/
structure RM (o : Option (List Pr)) (g : (Value → Option Int) × Nat) : Prop where
  sorted : SortedP (o.getD [])
  val : ∀ k : Option (List Int), g.1 (kv k) = (look (o.getD []) (keyB k)).map (·.off)
  num : g.2 = (o.getD []).length
  nov : ∀ p ∈ o.getD [], p.val = none
theorem RM.start : RM none (fun _ => none, 0) := ⟨by simp [SortedP], fun _ => rfl, rfl, by simp⟩
theorem keyB_kv {a b : Option (List Int)} : (keyB a == keyB b) = true ↔ kv a = kv b := (kv_same a b).symm
theorem RM.put {o : Option (List Pr)} {g : (Value → Option Int) × Nat} (h : RM o g) (k : Option (List Int)) (x : Int) (n : Nat) (hn : n = if (look (o.getD []) (keyB k)).isSome then g.2 else g.2 + 1) : RM (some (putF (o.getD []) ⟨k, none, x⟩)) (put g.1 (kv k) x, n) := by
  refine ⟨put_sorted h.sorted, fun q => ?_, ?_, fun p hp => (put_mem hp).elim (fun e => by rw [e]) fun hp => h.nov p hp⟩
  · show CL.put g.1 (kv k) x (kv q) = (look (putF (o.getD []) ⟨k, none, x⟩) (keyB q)).map (·.off)
    rw [look_put _ _ _ h.sorted]
    show _ = (if keyB k == keyB q then some _ else look (o.getD []) (keyB q)).map (·.off)
    unfold CL.put
    cases e : (keyB k == keyB q) with
    | true =>
      rw [if_pos (keyB_kv.1 e).symm]; rfl
    | false =>
      rw [if_neg (fun hc => by rw [keyB_kv.2 hc.symm] at e; cases e)]
      exact h.val q
  · show n = (putF (o.getD []) ⟨k, none, x⟩).length
    rw [putF_len _ _ h.sorted, hn, h.num]
    rfl
/-- An offer, whether there is room or not. -/
theorem RM.offer {W : Int} {o : Option (List Pr)} {g : (Value → Option Int) × Nat} (h : RM o g) (k : Option (List Int)) (x : Int) :
    RM (if ((look (o.getD []) (keyB k)).isSome || decide ((g.2 : Int) < W)) = true then some (putF (o.getD []) ⟨k, none, match look (o.getD []) (keyB k) with | some p => max x p.off | none => x⟩) else o) (offF W g (kv k) x) := by
  have hv := h.val k
  unfold offF
  cases hl : look (o.getD []) (keyB k) with
  | some p =>
    rw [hl] at hv
    simp only [Option.isSome_some, Bool.true_or, if_true, hv, Option.map_some]
    exact h.put k _ _ (by rw [hl]; rfl)
  | none =>
    rw [hl] at hv
    simp only [Option.isSome_none, Bool.false_or, hv, Option.map_none]
    by_cases hr : W ≤ (g.2 : Int)
    · rw [if_pos hr, if_neg (by simp; omega)]
      exact h
    · rw [if_neg hr, if_pos (by simp; omega)]
      exact h.put k _ _ (by rw [hl]; rfl)
def rmO (W : Int) (o : Option (List Pr)) : HObj := .cells [.lit (.int .i64 W), rowV prC 3 o]
theorem refOffer {s : HS} {q : Nat} {W : Int} {o : Option (List Pr)} {g : (Value → Option Int) × Nat} (hq : s q = some (rmO W o)) (h : RM o g) (hl : (o.getD []).length ≤ 1000000) (k : Option (List Int)) (x : Int) :
    HC Try.prog 43 [.ptr q 0, byV k, .lit (.int .i64 x)] s (fun v s' => ∃ o', v = .lit (.bool ((look (o.getD []) (keyB k)).isSome || decide ((g.2 : Int) < W))) ∧ s' = s.set q (rmO W o') ∧ RM o' (offF W g (kv k) x)) := by
  refine HC43 ?_
  have hO := h.offer (W := W) k x
  obtain ⟨hf1, hf2⟩ := find_look (k := keyB k) h.sorted
  have hnum := h.num
  unfold rmO at hq
  have c0 : [HV.lit (.int .i64 W), rowV prC 3 o][0]? = some (.lit (.int .i64 W)) := rfl
  have c1 : [HV.lit (.int .i64 W), rowV prC 3 o][1]? = some (rowV prC 3 o) := rfl
  simp only [c43, bindO, hcond, vCmp, vBin, vUn, vExtract, if_true, List.headD_cons, List.tail_cons, Bool.not_true, Bool.not_false, vNil, vField, Nat.zero_add, vLoad, hq, takeCells, Bool.false_eq_true, if_false, c1]
  refine (find o k hl).mono ?_
  rintro v t ⟨rfl, rfl⟩
  simp only [bindO, hcond, vCmp, vBin, vUn, vExtract, if_true, List.headD_cons, List.tail_cons, Bool.not_true, Bool.not_false, List.getElem?_cons_zero, List.getElem?_cons_succ]
  cases hok : findOk (o.getD []) (keyB k) with
  | true =>
    obtain ⟨f1, f2, f3⟩ := hf1 hok
    rw [f2] at hO ⊢
    simp only [Option.isSome_some, Bool.true_or, if_true] at hO ⊢
    refine Join.of (fun xs s' => s' = t ∧ xs = [.lit (.bool false)]) ?_ ?_
    rotate_left
    · intro K hK
      simp only [Bool.not_true]
      exact hK _ _ ⟨rfl, rfl⟩
    rintro xs s1 ⟨rfl, rfl⟩
    simp only [bindO, hcond, vCmp, vBin, vUn, vExtract, if_true, List.headD_cons, List.tail_cons, Bool.not_true, Bool.not_false]
    refine Join.of (fun xs s' => s' = s1 ∧ xs = [.lit (.int .i64 (max x ((o.getD []).getD (findI (o.getD []) (keyB k)) p0).off))]) ?_ ?_
    rotate_left
    · intro K hK
      simp only [hq, c1, vIdx_prV o _ f1, field_elt, load_elt1, Nat.zero_add, pr2, hfold, vMax2, Option.bind_some]
      refine hK _ _ ⟨rfl, ?_⟩
      rw [show (if ((o.getD []).getD (findI (o.getD []) (keyB k)) p0).off > x then ((o.getD []).getD (findI (o.getD []) (keyB k)) p0).off else x) = max x ((o.getD []).getD (findI (o.getD []) (keyB k)) p0).off by omega]
    rintro xs s2 ⟨rfl, rfl⟩
    have hmk : ∀ y : Int, vMk [(0, 1), (1, 1), (2, 1)] [.lit (.slice none 0 0), .lit (.slice none 0 0), .lit (.int .i64 0)] [(0, byV k), (2, .lit (.int .i64 y))] = some (.agg (prC ⟨k, none, y⟩)) := fun y => by
        show _ = some (HV.agg [byV k, .lit (.slice none 0 0), .lit (.int .i64 y)])
        simp [vMk, hfill, hc_by, hc_int]
    simp only [bindO, hcond, vCmp, vBin, vUn, vExtract, if_true, List.headD_cons, List.tail_cons, Bool.not_true, Bool.not_false, hq, c1, hmk]
    refine (refPut o _ hl).mono ?_
    rintro v s3 ⟨rfl, rfl⟩
    simp only [hStore, hc_rowL, hq]
    refine ⟨by trivial, by simp, by simp [ho_rowL], _, by trivial, ?_, hO⟩
    rfl
  | false =>
    have f2 := hf2 hok
    rw [f2] at hO ⊢
    simp only [Option.isSome_none, Bool.false_or] at hO ⊢
    refine Join.of (fun xs s' => s' = t ∧ xs = [.lit (.bool (decide (W ≤ (g.2 : Int))))]) ?_ ?_
    rotate_left
    · intro K hK
      simp only [Bool.not_false, hq, c0, c1, len_prV, ge_iff_le]
      refine hK _ _ ⟨rfl, by rw [hnum]⟩
    rintro xs s1 ⟨rfl, rfl⟩
    simp only [bindO, hcond, vCmp, vBin, vUn, vExtract, if_true, List.headD_cons, List.tail_cons, Bool.not_true, Bool.not_false]
    by_cases hr : W ≤ (g.2 : Int)
    · rw [if_neg (by simp; omega)] at hO
      have hr' : ¬ (g.2 : Int) < W := by omega
      simp only [hr, hr', decide_true, decide_false]
      refine ⟨o, by trivial, ?_, hO⟩
      funext z
      simp only [HS.set]
      split
      · rename_i e; rw [e, hq]; rfl
      · rfl
    · have hr' : (g.2 : Int) < W := by omega
      rw [if_pos (by simp; omega)] at hO
      simp only [hr, hr', decide_true, decide_false]
      refine Join.of (fun xs s' => s' = s1 ∧ xs = [.lit (.int .i64 x)]) ?_ ?_
      rotate_left
      · intro K hK
        exact hK _ _ ⟨rfl, rfl⟩
      rintro xs s2 ⟨rfl, rfl⟩
      have hmk : ∀ y : Int, vMk [(0, 1), (1, 1), (2, 1)] [.lit (.slice none 0 0), .lit (.slice none 0 0), .lit (.int .i64 0)] [(0, byV k), (2, .lit (.int .i64 y))] = some (.agg (prC ⟨k, none, y⟩)) := fun y => by
        show _ = some (HV.agg [byV k, .lit (.slice none 0 0), .lit (.int .i64 y)])
        simp [vMk, hfill, hc_by, hc_int]
      simp only [bindO, hcond, vCmp, vBin, vUn, vExtract, if_true, List.headD_cons, List.tail_cons, Bool.not_true, Bool.not_false, hq, c1, hmk]
      refine (refPut o _ hl).mono ?_
      rintro v s3 ⟨rfl, rfl⟩
      simp only [hStore, hc_rowL, hq]
      refine ⟨by trivial, by simp, by simp [ho_rowL], _, by trivial, ?_, hO⟩
      rfl
theorem refLast {s : HS} {q : Nat} {W : Int} {o : Option (List Pr)} {g : (Value → Option Int) × Nat} (hq : s q = some (rmO W o)) (h : RM o g) (hl : (o.getD []).length ≤ 1000000) (k : Option (List Int)) :
    HC Try.prog 44 [.ptr q 0, byV k] s (fun v s' => s' = s ∧ v = .tup [.lit (.int .i64 ((g.1 (kv k)).getD 0)), .lit (.bool (g.1 (kv k)).isSome)]) := by
  refine HC44 ?_
  obtain ⟨hf1, hf2⟩ := find_look (k := keyB k) h.sorted
  have hv := h.val k
  unfold rmO at hq
  have c1 : [HV.lit (.int .i64 W), rowV prC 3 o][1]? = some (rowV prC 3 o) := rfl
  simp only [c44, bindO, hcond, vCmp, vBin, vUn, vExtract, if_true, List.headD_cons, List.tail_cons, Bool.not_true, Bool.not_false, vNil, vField, Nat.zero_add, vLoad, hq, takeCells, Bool.false_eq_true, if_false, c1]
  refine (find o k hl).mono ?_
  rintro v t ⟨rfl, rfl⟩
  simp only [bindO, hcond, vCmp, vBin, vUn, vExtract, if_true, List.headD_cons, List.tail_cons, Bool.not_true, Bool.not_false, List.getElem?_cons_zero, List.getElem?_cons_succ]
  cases hok : findOk (o.getD []) (keyB k) with
  | true =>
    obtain ⟨f1, f2, f3⟩ := hf1 hok
    rw [f2] at hv
    simp only [Bool.not_true, hq, c1, vIdx_prV o _ f1, field_elt, load_elt1, Nat.zero_add, pr2, hv, Option.map_some, Option.getD_some, Option.isSome_some]
    first | exact ⟨rfl, rfl⟩ | trivial
  | false =>
    have f2 := hf2 hok
    rw [f2] at hv
    simp only [Bool.not_false, hv, Option.map_none, Option.getD_none, Option.isSome_none]
    first | exact ⟨rfl, rfl⟩ | trivial
end Go.Proofs.Ytpibjdkenifggaa.CL
end
section
namespace Go.Proofs.Ytpibjdkenifggaa.CL
open Go.Proofs.Ytpibjdkenifggaa.H Go.Proofs.Ytpibjdkenifggaa.K0
set_option linter.unusedVariables false
set_option linter.unusedSimpArgs false
set_option maxRecDepth 100000
theorem load_at {t : HS} {q : Nat} {cs : List HV} (off : Nat) (h : t q = some (.cells cs)) : vLoad t (.ptr q off) 1 false = cs[off]? := by
  simp only [vLoad, h, takeCells, Bool.false_eq_true, if_false]
end Go.Proofs.Ytpibjdkenifggaa.CL
end
section
namespace Go.Proofs.Ytpibjdkenifggaa.CL
open Go.Proofs.Ytpibjdkenifggaa.H Go.Proofs.Ytpibjdkenifggaa.K0
set_option linter.unusedVariables false
set_option linter.unusedSimpArgs false
set_option maxRecDepth 100000
def byI (k : List UInt8) : List Int := k.map fun c => (c.toNat : Int)
theorem accV_rows' (l : List Pr) : accV 3 l.length (rows prC l) = rowV prC 3 (orNil l) := by cases l <;> rfl
end Go.Proofs.Ytpibjdkenifggaa.CL
end
section
namespace Go.Proofs.Ytpibjdkenifggaa.CL
open Go.Proofs.Ytpibjdkenifggaa.H Go.Proofs.Ytpibjdkenifggaa.K0
set_option linter.unusedVariables false
set_option linter.unusedSimpArgs false
set_option maxRecDepth 100000
theorem pr1 (p : Pr) : (prC p)[1]? = some (byV p.val) := rfl
def sameP (off : Bool) (p q : Pr) : Bool := sameB' p.key q.key && (sameB' p.val q.val && (!off || p.off == q.off))
theorem samePairs {s : HS} (a b : Option (List Pr)) (off : Bool) (ha : (a.getD []).length ≤ 9223372036854775807) :
    HC Try.prog 46 [rowV prC 3 a, rowV prC 3 b, .lit (.bool off)] s (fun v s' => s' = s ∧ v = .lit (.bool (all2 (sameP off) (a.getD []) (b.getD [])))) := by
  refine HC46 ?_
  unfold c46
  simp only [len_prV, bindO, vCmp, vBin, if_true]
  by_cases hne : (a.getD []).length = (b.getD []).length
  · have h0 : (((a.getD []).length : Int) != ((b.getD []).length : Int)) = false := by simp [hne]
    simp only [h0, hcond]
    refine HLoop.ghost (σ := Nat) (fun i => [.lit (.int .i64 i)]) (fun i t => i ≤ (a.getD []).length ∧ t = s ∧ all2 (sameP off) ((a.getD []).drop i) ((b.getD []).drop i) = all2 (sameP off) (a.getD []) (b.getD [])) (fun i => (a.getD []).length - i) 0 rfl ⟨Nat.zero_le _, rfl, rfl⟩ ?_
    rintro i t K ⟨hi, rfl, hall⟩ hK
    simp only [List.headD_cons]
    by_cases hlt : i < (a.getD []).length
    · have hlt' : (i : Int) < ((a.getD []).length : Int) := by omega
      have hltb : i < (b.getD []).length := by omega
      have e1 := vIdx_prV a i hlt
      have e2 := vIdx_prV b i hltb
      rw [drop_cons' p0 _ hlt, drop_cons' p0 _ hltb] at hall
      generalize (a.getD []).getD i p0 = x at *
      generalize (b.getD []).getD i p0 = y at *
      simp only [hlt', decide_true]
      refine Join.of (fun xs t' => t' = t ∧ xs = [.lit (.bool (!sameP off x y))]) ?_ ?_
      · rintro xs t' ⟨rfl, rfl⟩
        simp only [all2] at hall
        simp only [List.headD_cons]
        cases h : sameP off x y with
        | true =>
          rw [h, Bool.true_and] at hall
          simp only [Bool.not_true]
          exact hK (i + 1) _ _ (by rw [w64 (by omega) (by omega)]; rfl) ⟨hlt, rfl, hall⟩ (by omega)
        | false =>
          rw [h, Bool.false_and] at hall
          simp only [Bool.not_false, ← hall]
          first | exact ⟨rfl, rfl⟩ | trivial
      · intro K9 hK9
        have fin : ∀ g : Bool, g = sameP off x y → K9 [.lit (.bool (!g))] t := fun g hg => hK9 _ _ ⟨rfl, by rw [hg]⟩
        simp only [e1, e2, field_elt, load_elt1, Nat.zero_add, pr0, pr1, pr2, isStr_by, Bool.false_eq_true, if_false, toStr_by, kv, vEq, Try.underlying9, Try.underlying3, Option.map_some, bne, str_eq]
        cases h1 : sameB' x.key y.key with
        | false => exact fin false (by simp [sameP, h1])
        | true =>
        cases h2 : sameB' x.val y.val with
        | false => exact fin false (by simp [sameP, h1, h2])
        | true =>
        cases off with
        | false => exact fin true (by simp [sameP, h1, h2])
        | true => exact fin (x.off == y.off) (by simp [sameP, h1, h2])
    · obtain rfl : i = (a.getD []).length := by omega
      have hlt' : ¬ ((a.getD []).length : Int) < ((a.getD []).length : Int) := by omega
      rw [List.drop_length, hne, List.drop_length] at hall
      simp only [hlt', decide_false, ← hall]
      first | exact ⟨rfl, rfl⟩ | trivial
  · have h0 : (((a.getD []).length : Int) != ((b.getD []).length : Int)) = true := by simp; omega
    simp only [h0, hcond, all2_ne _ _ hne]
    first | exact ⟨rfl, rfl⟩ | trivial
end Go.Proofs.Ytpibjdkenifggaa.CL
end
section
namespace Go.Proofs.Ytpibjdkenifggaa.CL
open Go.Proofs.Ytpibjdkenifggaa.H Go.Proofs.Ytpibjdkenifggaa.K0
set_option linter.unusedVariables false
set_option linter.unusedSimpArgs false
theorem bl_lt : ∀ a b : By, bl_ a b = true → a < b
  | [], [], h => by simp [bl_, Op.bytesLess] at h
  | [], y :: b, h => List.nil_lt_cons y b
  | x :: a, [], h => by simp [bl_, Op.bytesLess] at h
  | x :: a, y :: b, h => by
    rw [List.cons_lt_cons_iff]
    simp only [bl_, Op.bytesLess, Bool.or_eq_true, Bool.and_eq_true, decide_eq_true_eq, beq_iff_eq] at h
    rcases h with h | ⟨h1, h2⟩
    · exact .inl h
    · exact .inr ⟨h1, bl_lt a b h2⟩
theorem le_bl {a b : By} (h : a ≤ b) (hne : a ≠ b) : bl_ a b = true := by
  cases hb : bl_ b a with
  | true => exact absurd (bl_lt _ _ hb) (List.not_lt.2 h)
  | false =>
    rcases bl_tri b a hb with h | h
    · exact absurd h.symm hne
    · exact h
theorem kv_enc (k : Option (List Int)) : kv k = encStr (keyB k) := rfl
theorem keyB_byI (k : By) : keyB (some (byI k)) = k := by
  unfold keyB byI
  simp only [Option.getD_some, List.map_map]
  conv => rhs; rw [← List.map_id k]
  refine List.map_congr_left fun c _ => ?_
  simp
end Go.Proofs.Ytpibjdkenifggaa.CL
end
section
namespace Go.Proofs.Ytpibjdkenifggaa.CL
open Go.Proofs.Ytpibjdkenifggaa.H Go.Proofs.Ytpibjdkenifggaa.K0
set_option linter.unusedVariables false
set_option linter.unusedSimpArgs false
set_option maxRecDepth 100000
def wR (r : Rec) : Int := 1 + ((r.key.getD []).length : Int) + (r.val.getD []).length
def wB (b : Bat) : Int := 1 + ((b.recs.getD []).map wR).sum
theorem sum' {s : HS} (n : Int) (l : List Int) (hn : 0 ≤ n) (hl : ∀ x ∈ l, 0 ≤ x) (hlen : l.length ≤ 1000) :
    HC Try.prog 13 [.lit (.int .i64 n), .list 1 l.length (ints l) false] s (fun v s' => s' = s ∧ ∃ k, v = .lit (.int .i64 k) ∧ 0 ≤ k ∧ (n + l.sum ≤ k ∨ 1099511627776 ≤ k)) := by
  refine HC13 ?_
  unfold c13
  refine HLoop.ghost (σ := Int × Nat) (fun g => [.lit (.int .i64 g.1), .lit (.int .i64 g.2)]) (fun g t => g.2 ≤ l.length ∧ 0 ≤ g.1 ∧ n + (l.take g.2).sum = g.1 ∧ t = s) (fun g => l.length - g.2) (n, 0) rfl ⟨Nat.zero_le _, hn, by simp, rfl⟩ ?_
  obtain ⟨n0, hn0⟩ : ∃ n0, n0 = n := ⟨n, rfl⟩
  rw [← hn0]
  clear hn
  rintro ⟨n, i⟩ t K ⟨hi, hn, hsum, rfl⟩ hK
  simp only at hi hn hsum
  by_cases hlt : i < l.length
  · have hlt' : (i : Int) < (l.length : Int) := by omega
    have hx : ((ints l).drop i).take 1 = [.lit (.int .i64 (l.getD i 0))] := by
      rw [ints, ← List.map_drop, drop_cons' 0 l hlt]; rfl
    have h0 := hl _ (getD_mem (z := 0) hlt)
    have hts : (l.take (i + 1)).sum = (l.take i).sum + l.getD i 0 := by rw [take_succ' 0 l hlt]; simp
    generalize l.getD i 0 = x at *
    simp [bindO, hcond, vCmp, vBin, vEq, vUn, vNil, vField, vLoad, takeCells, vIdx, vLenT, vLen, vExtract, hBS, hfill, hNew, hStore, hBox, hc_int, hc_bool, hc_string, hc_slice, hc_nilp, hc_nilm, hc_nilf, hc_agg, hc_list, hc_view, hc_ptr, hc_map, hc_func, ho_int, ho_bool, ho_string, ho_slice, ho_nilp, ho_nilm, ho_nilf, ho_list, ho_view, ho_ptr, ho_map, ho_func, putCells, hAppend, lcells, litCells, isNilS, llen, room, vMk, set_at, Join, vToInt, vSlice, vSliceX, vSliceS, cutAt, intAt, bl_len, bits64, bits64u, bits8, hfold, vMax2, vMin2, Try.underlying3, Try.underlying4, Try.underlying9, Try.underlying22, Try.underlying24, Try.underlying28, Try.underlying29, Try.underlying36, Try.underlying38, Try.underlying48, Try.underlying81, Try.underlying87, Try.underlying93, Try.underlying135, hMark, hlt', hlt, hx]
    by_cases h1 : 1099511627776 < n
    · simp [h1]
    · have hw : IntKind.i64.wrap (1099511627776 - n) = 1099511627776 - n := w64 (by omega) (by omega)
      by_cases h2 : 1099511627776 - n < x
      · simp [h1, hw, h2]
      · simp [h1, hw, h2]
        refine hK (n + x, i + 1) _ _ ?_ ⟨hlt, by show 0 ≤ n + x; omega, by show _ = n + x; rw [hts]; omega, rfl⟩ (by show l.length - (i + 1) < l.length - i; omega)
        rw [w64 (x := (i : Int) + 1) (by omega) (by omega), w64 (x := n + x) (by omega) (by omega)]
        rfl
  · obtain rfl : i = l.length := by omega
    rw [List.take_length] at hsum
    simp [bindO, hcond, vCmp, vBin, vEq, vUn, vNil, vField, vLoad, takeCells, vIdx, vLenT, vLen, vExtract, hBS, hfill, hNew, hStore, hBox, hc_int, hc_bool, hc_string, hc_slice, hc_nilp, hc_nilm, hc_nilf, hc_agg, hc_list, hc_view, hc_ptr, hc_map, hc_func, ho_int, ho_bool, ho_string, ho_slice, ho_nilp, ho_nilm, ho_nilf, ho_list, ho_view, ho_ptr, ho_map, ho_func, putCells, hAppend, lcells, litCells, isNilS, llen, room, vMk, set_at, Join, vToInt, vSlice, vSliceX, vSliceS, cutAt, intAt, bl_len, bits64, bits64u, bits8, hfold, vMax2, vMin2, Try.underlying3, Try.underlying4, Try.underlying9, Try.underlying22, Try.underlying24, Try.underlying28, Try.underlying29, Try.underlying36, Try.underlying38, Try.underlying48, Try.underlying81, Try.underlying87, Try.underlying93, Try.underlying135, hMark, hn]
    omega
end Go.Proofs.Ytpibjdkenifggaa.CL
end
section
namespace Go.Proofs.Ytpibjdkenifggaa.CL
open Go.Proofs.Ytpibjdkenifggaa.H Go.Proofs.Ytpibjdkenifggaa.K0
set_option linter.unusedVariables false
set_option linter.unusedSimpArgs false
set_option maxRecDepth 100000
theorem sum_len {α : Type} (f : α → Int) : ∀ (l : List α), (∀ x ∈ l, 1 ≤ f x) → (l.length : Int) ≤ (l.map f).sum
  | [], _ => by simp
  | x :: l, h => by
    have h1 := h x List.mem_cons_self
    have h2 := sum_len f l fun y hy => h y (List.mem_cons_of_mem _ hy)
    simp only [List.length_cons, List.map_cons, List.sum_cons]
    omega
theorem sum_mem {α : Type} (f : α → Int) : ∀ (l : List α), (∀ x ∈ l, 0 ≤ f x) → ∀ x ∈ l, f x ≤ (l.map f).sum
  | y :: l, h, x, hx => by
    have h1 := h y List.mem_cons_self
    have hnn : 0 ≤ (l.map f).sum := by
      clear hx
      induction l with
      | nil => simp
      | cons z l ih =>
        have h3 := h z (by simp)
        have h4 := ih (fun w hw => h w (by rcases List.mem_cons.1 hw with rfl | hw <;> simp [*]))
        simp only [List.map_cons, List.sum_cons]
        omega
    simp only [List.map_cons, List.sum_cons]
    rcases List.mem_cons.1 hx with rfl | hx
    · omega
    · have h2 := sum_mem f l (fun y hy => h y (List.mem_cons_of_mem _ hy)) x hx
      omega
def Small (l : List Bat) : Prop := l.length ≤ 60 ∧ (l.map wB).sum ≤ 4000
theorem wR_pos (r : Rec) : 1 ≤ wR r := by unfold wR; omega
theorem wB_len (b : Bat) : ((b.recs.getD []).length : Int) + 1 ≤ wB b := by
  unfold wB
  have := sum_len wR (b.recs.getD []) fun x _ => wR_pos x
  omega
theorem Small.recs {l : List Bat} (h : Small l) : ∀ b ∈ l, (b.recs.getD []).length ≤ 4000 ∧ ∀ x ∈ b.recs.getD [], ShortR x := by
  intro b hb
  have h1 := sum_mem wB l (fun b _ => by have := wB_len b; omega) b hb
  have h2 := h.2
  have h3 := wB_len b
  refine ⟨by omega, fun x hx => ?_⟩
  have h4 := sum_mem wR _ (fun r _ => by have := wR_pos r; omega) x hx
  have h6 : wB b = 1 + ((b.recs.getD []).map wR).sum := rfl
  have h5 : wR x ≤ 4000 := by omega
  unfold wR at h5
  constructor
  · cases hk : x.key with
    | none => trivial
    | some k => rw [hk] at h5; simp only [Option.getD_some] at h5; show k.length ≤ _; omega
  · cases hk : x.val with
    | none => trivial
    | some k => rw [hk] at h5; simp only [Option.getD_some] at h5; show k.length ≤ _; omega
end Go.Proofs.Ytpibjdkenifggaa.CL
end
section
namespace Go.Proofs.Ytpibjdkenifggaa.CL
open Go.Proofs.Ytpibjdkenifggaa.H Go.Proofs.Ytpibjdkenifggaa.K0
set_option linter.unusedVariables false
set_option linter.unusedSimpArgs false
set_option maxRecDepth 100000
/-- Mayy's batches, for fold. -/
theorem Mayy.short {segs : List Seg} (h : Mayy segs) : ∀ b ∈ flatS segs, ∃ r, b.recs = some r ∧ r.length ≤ 100000 ∧ ∀ x ∈ r, ShortR x := by
  intro b hb
  obtain ⟨x, hx, hbx⟩ := mem_flatS.1 hb
  obtain ⟨r, h1, h2, h3, h4⟩ := okB_of h x hx b hbx
  exact ⟨r, h1, h3, h4⟩
end Go.Proofs.Ytpibjdkenifggaa.CL
end
end
section
namespace Go.Proofs.Ytpibjdkenifggaa.H
open Go.RowKit Go.MapKept
set_option linter.unusedVariables false
set_option linter.unusedSimpArgs false
variable {P : Program}
/-- A row that grows and shrinks: behind it there may be cells. -/
def AccX (b t : HS) (sz : Nat) (A : HV) (n : Nat) (cs : List HV) : Prop :=
  (A = nilV ∧ cs = [] ∧ n = 0) ∨ ∃ q f rest k, b q = none ∧ A = .view q 0 sz n f ∧ t q = some (.cells (cs ++ rest)) ∧ cs.length = n * sz ∧ rest.length = k * sz
theorem Acc.toX {b t : HS} {sz : Nat} {A : HV} {n : Nat} {cs : List HV} (h : Acc b t sz A n cs) : AccX b t sz A n cs := by
  rcases h with h | ⟨q, f, h1, h2, h3, h4, h5⟩
  · exact .inl h
  · exact .inr ⟨q, f, [], 0, h1, h2, by rw [List.append_nil]; exact h3, h4, by simp⟩
theorem AccX.one {b t : HS} {sz : Nat} {A : HV} {n : Nat} {cs : List HV} (h : AccX b t sz A n cs) : hone A = true := by
  rcases h with ⟨rfl, -⟩ | ⟨q, f, r, k, -, rfl, -⟩ <;> rfl
theorem AccX.hc {b t : HS} {sz : Nat} {A : HV} {n : Nat} {cs : List HV} (h : AccX b t sz A n cs) : hcells A = some [A] := by
  rcases h with ⟨rfl, -⟩ | ⟨q, f, r, k, -, rfl, -⟩ <;> rfl
theorem AccX.len {b t : HS} {sz : Nat} {A : HV} {n : Nat} {cs : List HV} (h : AccX b t sz A n cs) (e : Nat) (s : HS) : vLenT (some (.slice e)) s A = some (.lit (.int .i64 n)) := by
  rcases h with ⟨rfl, -, rfl⟩ | ⟨q, f, r, k, -, rfl, -⟩ <;> rfl
theorem AccX.free {b t : HS} {sz : Nat} {A : HV} {n : Nat} {cs : List HV} (h : AccX b t sz A n cs) {q : Nat} (hq : accId A = some q) : b q = none ∧ ∃ rest, t q = some (.cells (cs ++ rest)) := by
  rcases h with ⟨rfl, -⟩ | ⟨q', f, r, k, h1, rfl, h2, -⟩
  · cases hq
  · cases hq; exact ⟨h1, r, h2⟩
theorem AccX.keep {b t t' : HS} {sz : Nat} {A : HV} {n : Nat} {cs : List HV} (h : AccX b t sz A n cs) (hk : ∀ q ob, accId A = some q → t q = some ob → t' q = some ob) : AccX b t' sz A n cs := by
  rcases h with h | ⟨q, f, r, k, h1, rfl, h2, h3⟩
  · exact .inl h
  · exact .inr ⟨q, f, r, k, h1, rfl, hk q _ rfl h2, h3⟩
theorem AccX.le {b t t' : HS} {sz : Nat} {A : HV} {n : Nat} {cs : List HV} (h : AccX b t sz A n cs) (hle : HS.le t t') : AccX b t' sz A n cs := h.keep fun q ob _ hq => hle _ _ hq
theorem AccX.new {b t : HS} {sz : Nat} {A : HV} {n : Nat} {cs : List HV} (h : AccX b t sz A n cs) {X : Nat} (o : HObj) (hX : t X = none) : AccX b (t.set X o) sz A n cs :=
  h.keep fun q ob _ hq => by rw [set_ne _ _ (ne_new hq hX)]; exact hq
theorem AccX.put {b t : HS} {sz : Nat} {A : HV} {n : Nat} {cs : List HV} (h : AccX b t sz A n cs) {X : Nat} (o : HObj) (hX : accId A ≠ some X) : AccX b (t.set X o) sz A n cs :=
  h.keep fun q ob hq hq2 => by rw [set_ne _ _ (by rintro rfl; exact hX hq)]; exact hq2
theorem AccX.base {b b' t : HS} {sz : Nat} {A : HV} {n : Nat} {cs : List HV} (h : AccX b t sz A n cs) (hle : HS.le b' b) : AccX b' t sz A n cs := by
  rcases h with h | ⟨q, f, r, k, h1, h2⟩
  · exact .inl h
  · exact .inr ⟨q, f, r, k, none_of_le hle h1, h2⟩
theorem AccX.cells {b t : HS} {sz : Nat} {A : HV} {n : Nat} {cs : List HV} (h : AccX b t sz A n cs) : lcells t sz A = some cs := by
  rcases h with ⟨rfl, rfl, rfl⟩ | ⟨q, f, r, k, h1, rfl, h3, h4, h5⟩
  · rfl
  · have e : (cs ++ r).take (n * sz) = cs := by rw [← h4]; exact List.take_left
    simp [lcells, h3, h4, e]
theorem AccX.llen {b t : HS} {sz : Nat} {A : HV} {n : Nat} {cs : List HV} (h : AccX b t sz A n cs) : llen A = n := by
  rcases h with ⟨rfl, rfl, rfl⟩ | ⟨q, f, r, k, h1, rfl, h3, h4, h5⟩ <;> rfl
/-- One more behind it. -/
theorem AccX.app1W {b t : HS} {sz by_ : Nat} {A : HV} {n : Nat} {cs zs : List HV} {W : HS → Prop} {K : HV → HS → Prop} (h : AccX b t sz A n cs) (hb : HS.le b t) (hsz : 0 < sz) {x : HV} {vs : List HV} (hx : hcells x = some vs) (hv : vs.length = sz) (hz : zs.length = sz)
    (hroom : room (n + 1) by_) (hW : ∀ id, t id = none → W (t.set id (.cells vs)))
    (hK : ∀ A' t', AccX b t' sz A' (n + 1) (cs ++ vs) → HS.le b t' → (∀ q ob, accId A ≠ some q → t q = some ob → t' q = some ob ∧ accId A' ≠ some q) → K A' t') : hBS t sz 1 zs [(0, x)] (fun v s => W s ∧ hAppend s sz by_ A v K) := by
  have hf : hfill (fun i => some (i * sz, sz)) zs [(0, x)] = some vs := by
    simp only [hfill, hx, Nat.zero_mul, Nat.zero_add, hv, hz, Nat.le_refl, and_self, if_true, List.take_zero, List.nil_append]
    rw [List.drop_of_length_le (by omega), List.append_nil]
  unfold hBS
  rw [hf]
  intro X hX
  refine ⟨hW X hX, ?_⟩
  have hlx : lcells (t.set X (.cells vs)) sz (.view X 0 sz 1 true) = some vs := by simp [lcells, set_at, hv, List.take_of_length_le]
  rcases h with ⟨rfl, rfl, rfl⟩ | ⟨q, f, r, k, h1, rfl, h3, h4, h5⟩
  · refine (Acc.nil b (t.set X (.cells vs)) sz).app (le_set_new _ hb hX) (xs := vs) (k := 1) hlx rfl (by omega) hroom ?_
    intro A' t' g1 g2 g3
    exact hK A' t' g1.toX g2 fun p ob hp hp2 => g3 p ob hp (by rw [set_ne _ _ (ne_new hp2 hX)]; exact hp2)
  · have nX : q ≠ X := ne_new h3 hX
    have h3' : (t.set X (.cells vs)) q = some (.cells (cs ++ r)) := by rw [set_ne _ _ nX]; exact h3
    have hle := le_set_new (.cells vs) hb hX
    have hfree : ∀ p ob, t p = some ob → (t.set X (.cells vs)) p = some ob := fun p ob hp => by rw [set_ne _ _ (ne_new hp hX)]; exact hp
    generalize t.set X (.cells vs) = u at *
    have hcut : ((cs ++ r).drop 0).take (n * sz) = cs := by rw [List.drop_zero, ← h4]; exact List.take_left
    unfold hAppend
    rw [hlx]
    have hll : Go.Proofs.Ytpibjdkenifggaa.H.llen (.view X 0 sz 1 true) = 1 := rfl
    simp only [h3', hll]
    refine ⟨trivial, by rw [List.length_append]; omega, ?_⟩
    cases f with
    | true =>
      simp only [if_true]
      rw [if_neg (show ¬ (1 = 0) by omega)]
      refine ⟨hroom, fun id hid => ?_⟩
      rw [hcut]
      refine hK _ _ (.inr ⟨id, _, [], 0, none_of_le hle hid, rfl, by rw [set_at, List.append_nil], by rw [List.length_append, h4, hv, Nat.add_mul, Nat.one_mul], by simp⟩) (le_set_new _ hle hid) fun p ob hp hp2 => ?_
      have hp3 := hfree p ob hp2
      have := ne_new hp3 hid
      exact ⟨by rw [set_ne _ _ this]; exact hp3, by rintro ⟨⟩; exact this rfl⟩
    | false =>
      simp only [Bool.false_eq_true, if_false]
      split
      · rename_i htip
        have hr0 : r = [] := List.eq_nil_of_length_eq_zero (by rw [List.length_append] at htip; omega)
        subst hr0
        refine ⟨hroom, fun id hid => ?_⟩
        rw [List.append_nil, List.drop_zero]
        refine hK _ _ (.inr ⟨id, _, [], 0, none_of_le hle hid, rfl, by rw [set_at, List.append_nil], by rw [List.length_append, h4, hv, Nat.add_mul, Nat.one_mul], by simp⟩) ?_ ?_
        · intro p ob hp
          have hpq : p ≠ q := by rintro rfl; rw [h1] at hp; cases hp
          have hp1 := hle p ob hp
          rw [set_ne _ _ (ne_new hp1 hid), del_ne _ hpq]
          exact hp1
        · intro p ob hp hp2
          have hpq : p ≠ q := by rintro rfl; exact hp rfl
          have hp3 := hfree p ob hp2
          have := ne_new hp3 hid
          exact ⟨by rw [set_ne _ _ this, del_ne _ hpq]; exact hp3, by rintro ⟨⟩; exact this rfl⟩
      · rename_i htip
        have hk0 : k ≠ 0 := by
          rintro rfl
          rw [List.length_append] at htip
          simp at h5
          rw [h5] at htip
          simp at htip
          omega
        obtain ⟨k', rfl⟩ : ∃ k', k = k' + 1 := ⟨k - 1, by omega⟩
        rw [Nat.add_mul, Nat.one_mul] at h5
        have hn1 : (n + 1) * sz = n * sz + sz := by rw [Nat.add_mul, Nat.one_mul]
        refine ⟨hsz, by rw [List.length_append, hn1]; omega, ?_⟩
        have e : putCells (cs ++ r) (0 + n * sz) vs = (cs ++ vs) ++ r.drop sz := by
          unfold putCells
          rw [Nat.zero_add, ← h4, List.take_left, hv]
          congr 1
          rw [List.drop_append, List.drop_of_length_le (by omega), List.nil_append]
          congr 1
          omega
        rw [e]
        refine hK _ _ (.inr ⟨q, false, r.drop sz, k', h1, rfl, set_at _ _ _, by rw [List.length_append, h4, hv, Nat.add_mul, Nat.one_mul], by rw [List.length_drop]; omega⟩) (le_set_free _ hle h1) fun p ob hp hp2 => ?_
        have hpq : p ≠ q := by rintro rfl; exact hp rfl
        exact ⟨by rw [set_ne _ _ hpq]; exact hfree p ob hp2, hp⟩
theorem AccX.app1 {b t : HS} {sz by_ : Nat} {A : HV} {n : Nat} {cs zs : List HV} {K : HV → HS → Prop} (h : AccX b t sz A n cs) (hb : HS.le b t) (hsz : 0 < sz) {x : HV} {vs : List HV} (hx : hcells x = some vs) (hv : vs.length = sz) (hz : zs.length = sz)
    (hroom : room (n + 1) by_) (hK : ∀ A' t', AccX b t' sz A' (n + 1) (cs ++ vs) → HS.le b t' → (∀ q ob, accId A ≠ some q → t q = some ob → t' q = some ob ∧ accId A' ≠ some q) → K A' t') : hBS t sz 1 zs [(0, x)] (fun v s => hAppend s sz by_ A v K) := by
  have := h.app1W (W := fun _ => True) (K := K) (zs := zs) hb hsz hx hv hz hroom (fun _ _ => trivial) hK
  unfold hBS at this ⊢
  split
  · rename_i cs' h'
    rw [h'] at this
    exact fun id hid => (this id hid).2
  · rename_i h'
    rw [h'] at this
    exact this
/-- What lies still, and what may be written, is a list from here on. -/
theorem AccX.up {b t : HS} {sz : Nat} {A : HV} {n : Nat} {cs : List HV} (h : AccX b t sz A n cs) (hb : HS.le b t) : UpL [A] t [.list sz n cs false] b := by
  rcases h with ⟨rfl, rfl, rfl⟩ | ⟨q, f, r, k, h1, rfl, h3, h4, h5⟩
  · exact (UpL.nilAt (ys := []) (zs := []) sz).trans (UpL.le _ hb)
  · have hu := UpL.frzD (xs := [.view q 0 sz n f]) h3 hb h1
    have e : (cs ++ r).take (n * sz) = cs := by rw [← h4]; exact List.take_left
    have e2 : 0 + n * sz ≤ (cs ++ r).length := by rw [List.length_append]; omega
    simp only [List.map_cons, List.map_nil, frz2, frz1, frz0, phi, true_and, e2, if_true, Option.getD_some, List.drop_zero, e] at hu
    exact hu
/-- A literal of none, that grows. -/
def Acc0 (b t : HS) (sz : Nat) (A : HV) (n : Nat) (cs : List HV) : Prop := Acc b t sz A n cs ∨ (n = 0 ∧ cs = [] ∧ ∃ q, b q = none ∧ A = .view q 0 sz 0 true ∧ t q = some (.cells []))
theorem hBS0 {t : HS} {sz : Nat} {K : HV → HS → Prop} (h : ∀ id, t id = none → K (.view id 0 sz 0 true) (t.set id (.cells []))) : hBS t sz 0 [] [] K := h
theorem app_empty {b t : HS} {sz by_ q : Nat} {K : HV → HS → Prop} (hb : HS.le b t) (hq : b q = none) (ht : t q = some (.cells [])) {x : HV} {xs : List HV} {k : Nat} (hx : lcells t sz x = some xs) (hk : llen x = k) (hl : xs.length = k * sz)
    (hroom : room k by_) (hK : ∀ A' t', Acc0 b t' sz A' k xs → HS.le b t' → K A' t') : hAppend t sz by_ (.view q 0 sz 0 true) x K := by
  unfold hAppend
  rw [hx]
  simp only [hk, ht]
  refine ⟨by trivial, by simp, ?_⟩
  simp only [if_true]
  split
  · rename_i h0
    subst h0
    have : xs = [] := List.eq_nil_of_length_eq_zero (by rw [hl]; omega)
    subst this
    exact hK _ _ (.inr ⟨rfl, rfl, q, hq, rfl, ht⟩) hb
  · refine ⟨by rw [Nat.zero_add]; exact hroom, fun id hid => ?_⟩
    have e : (([] : List HV).drop 0).take (0 * sz) ++ xs = xs := by simp
    rw [e]
    exact hK _ _ (.inl (.inr ⟨id, _, none_of_le hb hid, by rw [Nat.zero_add], set_at _ _ _, hl, by omega⟩)) (le_set_new _ hb hid)
end Go.Proofs.Ytpibjdkenifggaa.H
end
section
namespace Go.Proofs.Ytpibjdkenifggaa.CL
open Go.Proofs.Ytpibjdkenifggaa.H Go.Proofs.Ytpibjdkenifggaa.K0
set_option linter.unusedVariables false
set_option linter.unusedSimpArgs false
set_option maxRecDepth 100000
theorem len_strs (ks : List (List UInt8)) (e : Nat) (s : HS) : vLenT (some (.slice e)) s (strsV ks) = some (.lit (.int .i64 ks.length)) := by
  unfold strsV
  split
  · rename_i h; subst h; rfl
  · rfl
theorem idx_strs (ks : List (List UInt8)) {i : Nat} (hi : i < ks.length) : vIdx 1 (strsV ks) (.lit (.int .i64 i)) = some (.elt [.lit (encStr (ks.getD i []))] 0) := by
  unfold strsV
  rw [if_neg (by rintro rfl; simp at hi)]
  have h1 : ((ks.map fun x => HV.lit (encStr x)).drop i).take 1 = [.lit (encStr (ks.getD i []))] := by
    rw [List.drop_eq_getElem_cons (by simpa using hi)]
    simp [List.getD, hi]
  simp [vIdx, hi, h1]
theorem sorted_uniq : ∀ (a b : List By), a.Pairwise (fun x y => bl_ x y = true) → b.Pairwise (fun x y => bl_ x y = true) → (∀ x, x ∈ a ↔ x ∈ b) → a = b
  | [], [], _, _, _ => rfl
  | [], y :: b, _, _, h => by have := (h y).2 List.mem_cons_self; cases this
  | x :: a, [], _, _, h => by have := (h x).1 List.mem_cons_self; cases this
  | x :: a, y :: b, ha, hb, h => by
    have ha' := List.pairwise_cons.1 ha
    have hb' := List.pairwise_cons.1 hb
    have e : x = y := by
      rcases List.mem_cons.1 ((h x).1 List.mem_cons_self) with e | h1
      · exact e
      · rcases List.mem_cons.1 ((h y).2 List.mem_cons_self) with e | h2
        · exact e.symm
        · have h3 := bl_asymm (hb'.1 _ h1)
          rw [ha'.1 _ h2] at h3
          cases h3
    subst e
    congr 1
    refine sorted_uniq a b ha'.2 hb'.2 fun z => ⟨fun hz => ?_, fun hz => ?_⟩
    · rcases List.mem_cons.1 ((h z).1 (List.mem_cons_of_mem _ hz)) with e | h1
      · have := ha'.1 _ hz
        rw [e, bl_irrefl] at this
        cases this
      · exact h1
    · rcases List.mem_cons.1 ((h z).2 (List.mem_cons_of_mem _ hz)) with e | h1
      · have := hb'.1 _ hz
        rw [e, bl_irrefl] at this
        cases this
      · exact h1
/-- Every key of the map is a text that is not too long. -/
def KeyOk (M : Value → Option Int) : Prop := ∀ k x, M k = some x → ∃ b : ByteArray, k = .string b ∧ b.size ≤ 140737488355328
theorem keyOk_none : KeyOk fun _ => none := fun k x h => by cases h
theorem short_kv {k : Option (List Int)} (h : short k) : ∃ b : ByteArray, kv k = .string b ∧ b.size ≤ 140737488355328 := by
  refine ⟨_, rfl, ?_⟩
  cases k with
  | none => simp [keyB]; show (0 : Nat) ≤ _; omega
  | some l =>
    have h5 : l.length ≤ 140737488355328 := h
    show ((l.map fun n => UInt8.ofNat n.toNat).toArray).size ≤ _
    simpa using h5
theorem KeyOk.put {M : Value → Option Int} (h : KeyOk M) {k : Option (List Int)} (hk : short k) (x : Int) : KeyOk (CL.put M (kv k) x) := fun q y hq => by
  simp only [CL.put] at hq
  split at hq
  · rename_i e; rw [e]; exact short_kv hk
  · exact h q y hq
theorem KeyOk.offer {W : Int} {g : (Value → Option Int) × Nat} (h : KeyOk g.1) {k : Option (List Int)} (hk : short k) (x : Int) : KeyOk (offF W g (kv k) x).1 := by
  unfold offF
  split
  · exact h.put hk _
  · split
    · exact h
    · exact h.put hk _
theorem look_mem {l : List Pr} (hs : SortedP l) {k : By} : (look l k).isSome = true ↔ k ∈ l.map pk := by
  unfold look
  rw [List.find?_isSome]
  simp only [List.mem_map, beq_iff_eq]
theorem look_self : ∀ {l : List Pr}, SortedP l → ∀ {i : Nat}, i < l.length → look l (pk (l.getD i p0)) = some (l.getD i p0)
  | [], _, i, hi => by simp at hi
  | x :: l, h, 0, _ => by simp [look]
  | x :: l, h, i + 1, hi => by
    have h' := List.pairwise_cons.1 h
    have hi' : i < l.length := by simpa using hi
    have hm : l.getD i p0 ∈ l := by rw [List.getD, List.getElem?_eq_getElem hi']; exact List.getElem_mem hi'
    have h2 := look_self h'.2 hi'
    rw [show (x :: l).getD (i + 1) p0 = l.getD i p0 from rfl]
    rw [look_cons, if_neg, h2]
    intro e
    have := h'.1 _ hm
    rw [eq_of_beq e, bl_irrefl] at this
    cases this
def encP (l : List Pr) (i : Nat) : List HV := [byV (some (byI (pk (l.getD i p0)))), .lit (.int .i64 (l.getD i p0).off)]
theorem gives76 {s : HS} {b p mid : Nat} {most : Int} {M : Value → Option Int} {n : Nat} {o : Option (List Pr)} (h : IsKM s p mid most M n) (hr : RM o (M, n)) (hn : n ≤ 1000000) (hk : KeyOk M) (hb : s b = some (.cells [.ptr p 0])) :
    GivesL Try.prog 76 [.ptr b 0] (o.getD []).length (encP (o.getD [])) s := by
  intro idl J E s' hle hJ hJs hround h0
  obtain ⟨l, hl⟩ : ∃ l, o.getD [] = l := ⟨_, rfl⟩
  rw [hl] at hround ⊢
  have hsort := hr.sorted
  have hval := hr.val
  have hnum := hr.num
  simp only at hval hnum
  rw [hl] at hsort hnum
  simp only [hl] at hval
  have facts : ∀ t, HS.le s t → vLoad t (.ptr b 0) 1 false = some (.ptr p 0) ∧ vLoad t (.ptr p 1) 1 false = some (.map mid) := fun t ht => by
    refine ⟨by rw [load_at 0 (ht _ _ hb)]; rfl, ?_⟩
    rw [load_at 1 (ht _ _ h.1)]; rfl
  refine HC76 ?_
  unfold c76
  obtain ⟨f1, f2⟩ := facts s' hle
  simp only [f1, f2, bindO, hcond, vCmp, vEq, Try.underlying28, vNil, vField, Nat.zero_add]
  refine (keys63 mid).mono ?_
  rintro v t1 ⟨q, hq, rfl, rfl⟩
  have hmS := hle _ _ h.2
  have nqm := ne_new hmS hq
  refine (sorted62 (q := q) (mid := mid) (n := n) (f := fun k => (M k).map fun x => .lit (.int .i64 x)) (set_at _ _ _) (by rw [set_ne _ _ nqm]; exact hmS) ?_ (by omega)).mono ?_
  · intro k x hkx
    simp only [Option.map_eq_some_iff] at hkx
    obtain ⟨r, hr, -⟩ := hkx
    exact hk k r hr
  · rintro v t1 ⟨ks, ho, hnd, hmem, hlen, rfl, rfl⟩
    have hks : ks = l.map pk := by
      refine sorted_uniq _ _ ((ho.and hnd).imp fun ⟨h1, h2⟩ => le_bl h1 h2) (List.pairwise_map.2 hsort) fun x => ?_
      rw [hmem x, Option.isSome_map, ← look_mem hsort]
      have := hval (some (byI x))
      rw [kv_enc, keyB_byI] at this
      rw [this, Option.isSome_map]
    have hkl : ks.length = l.length := by rw [hks, List.length_map]
    have h0' := hJ _ _ _ h0 (le_set_new (.root [.map mid]) (le_refl' s') hq)
    generalize s'.set q (.root [.map mid]) = t1 at h0' ⊢
    simp only [Try.underlying87, len_strs]
    refine HLoop.ghost (σ := Nat) (fun i => [.lit (.int .i64 i)]) (fun i t => i ≤ l.length ∧ J i t) (fun i => l.length - i) 0 rfl ⟨Nat.zero_le _, h0'⟩ ?_
    rintro i t K ⟨hi, hj⟩ hK
    simp only [List.headD_cons, List.tail_cons, vBin, if_true, hkl]
    by_cases hlt : i < l.length
    · have hlt' : (i : Int) < (l.length : Int) := by omega
      have hix := idx_strs ks (show i < ks.length by omega)
      have hki : ks.getD i [] = pk (l.getD i p0) := by
        rw [hks, List.getD, List.getElem?_map, List.getElem?_eq_getElem hlt, List.getD, List.getElem?_eq_getElem hlt]; rfl
      have hlk := look_self hsort hlt
      have hrd := hround i t
      rw [hki] at hix
      simp only [encP] at hrd
      generalize l.getD i p0 = x at *
      have hM : M (encStr (pk x)) = some x.off := by
        have := hval (some (byI (pk x)))
        rw [kv_enc, keyB_byI, hlk] at this
        exact this
      have hst := hJs _ _ hj
      obtain ⟨f1, f2⟩ := facts t hst
      have hmt := hst _ _ h.2
      simp only [hlt', decide_true, hix]
      rw [show vLoad t (.elt [.lit (encStr (pk x))] 0) 1 false = some (.lit (encStr (pk x))) from rfl]
      simp only [hStrBytes, encStr, hNew]
      intro Y hY
      have hsz : (ByteArray.mk (pk x).toArray).size = (pk x).length := by simp [ByteArray.size]
      have e1 : ∀ ob, vLoad (t.set Y ob) (.ptr b 0) 1 false = some (.ptr p 0) := fun ob => (facts _ (le_set_new ob hst hY)).1
      have e2 : ∀ ob, vLoad (t.set Y ob) (.ptr p 1) 1 false = some (.map mid) := fun ob => (facts _ (le_set_new ob hst hY)).2
      have e3 : ∀ ob, (t.set Y ob) mid = some (mapO M n) := fun ob => by rw [set_ne _ _ (ne_new hmt hY)]; exact hmt
      have hM' : M (.string ⟨(pk x).toArray⟩) = some x.off := hM
      simp only [e1, e2, vNil, vField, Nat.zero_add, vLookup, Try.underlying9, e3, mapO, keyIs, sameKey, if_true, hM', Option.map_some, Option.getD_some, Bool.false_eq_true, if_false, hcall]
      refine HY.upArgs (UpL.frzD (set_at t Y _) (le_set_new _ (le_refl' t) hY) hY) ?_
      have hfz : ([HV.view Y 0 1 (ByteArray.mk (pk x).toArray).size false, .lit (.int .i64 x.off)] : List HV).map (frz2 Y ((pk x).map fun c => HV.lit (.int .u8 c.toNat))) = [byV (some (byI (pk x))), .lit (.int .i64 x.off)] := by
        have h9 : ((pk x).map fun c => HV.lit (.int .u8 c.toNat)).take (pk x).length = bl (byI (pk x)) := by
          rw [List.take_of_length_le (by simp)]
          simp [bl, byI]
        rw [hsz]
        simp [frz2, frz1, frz0, phi, h9, byV, byI]
      rw [hfz]
      refine hrd _ hlt hj (fun t' h' => ?_) (fun t' h' => ?_)
      · simp only [vUn, Bool.not_true, bindO, hcond, Option.bind_some, wrap_add1 (show i < 9223372036854775807 by omega)]
        exact hK (i + 1) _ _ rfl ⟨hlt, h'⟩ (by omega)
      · simp only [vUn, Bool.not_false, bindO, hcond]
        exact .inr h'
    · obtain rfl : i = l.length := by omega
      have hlt' : ¬ (l.length : Int) < (l.length : Int) := by omega
      simp only [hlt', decide_false]
      exact .inl hj
theorem gives76nil {s : HS} {b : Nat} (hb : s b = some (.cells [.lit (.pointer none)])) : GivesL Try.prog 76 [.ptr b 0] 0 (encP []) s := by
  intro idl J E s' hle hJ hJs hround h0
  refine HC76 ?_
  unfold c76
  have f1 : vLoad s' (.ptr b 0) 1 false = some (.lit (.pointer none)) := by rw [load_at 0 (hle _ _ hb)]; rfl
  simp only [f1, bindO, hcond, vCmp, vEq, Try.underlying28]
  exact .inl h0
theorem plain76 : plainFn Try.prog 76 = true := by unfold plainFn; rw [Try.func76]; rfl
theorem all67 (a : HV) (s : HS) (ha : hcells a = some [a]) (ho : hone a = true) : HC Try.prog 67 [a] s (fun v t => ∃ b, s b = none ∧ v = .func (.func 76) [.ptr b 0] ∧ t = s.set b (.cells [a])) := by
  refine HC67 ?_
  unfold c67
  simp only [hBox, ha]
  intro id hid
  exact ⟨id, hid, rfl, rfl⟩
def wr (p : Pr) : Pr := ⟨some (byI (pk p)), none, p.off⟩
theorem keys45 (l : List Pr) (a : HV) (s : HS) (ha : hcells a = some [a]) (hoa : hone a = true) (hg : ∀ t b, HS.le s t → t b = some (.cells [a]) → GivesL Try.prog 76 [.ptr b 0] l.length (encP l) t) (m : Int) (hm : 0 ≤ m) (hx : l.length ≤ 1000000) :
    HC Try.prog 45 [a, .lit (.int .i64 m)] s (fun v s' => v = rowV prC 3 (orNil ((l.map wr).take m.toNat)) ∧ s' = s) := by
  refine HC.up (HC45 ?_)
  simp [c45, bindO, hcond, vCmp, vBin, vEq, vUn, vNil, vField, vLoad, takeCells, vExtract, hNew, hStore, hBox, hc_int, hc_bool, hc_string, hc_slice, hc_nilp, hc_nilm, hc_nilf, hc_agg, hc_list, hc_view, hc_ptr, hc_map, hc_func, ho_int, ho_bool, ho_string, ho_slice, ho_nilp, ho_nilm, ho_nilf, ho_list, ho_view, ho_ptr, ho_map, ho_func, putCells, lcells, litCells, isNilS, llen, set_at, Try.underlying28, Try.underlying29, Try.underlying87, Try.underlying9, Try.underlying135, Try.underlying3, Try.underlying4, Try.underlying81]
  intro p1 hp1 p3 hp3
  have n13 := ne_new (set_at s p1 _) hp3
  simp only [set_none_iff] at hp3
  obtain ⟨-, hp3⟩ := hp3
  have hle0 : HS.le s ((s.set p1 (.cells [.lit (.int .i64 m)])).set p3 (.cells [.lit (.slice none 0 0)])) := le_set_new _ (le_set_new _ (le_refl' s) hp1) (by simp [set_none_iff, hp3, Ne.symm n13])
  refine (all67 a _ ha hoa).mono ?_
  rintro v t ⟨b, hb, rfl, rfl⟩
  simp [bindO, hcond, vCmp, vBin, vEq, vUn, vNil, vField, vLoad, takeCells, vExtract, hNew, hStore, hBox, hc_int, hc_bool, hc_string, hc_slice, hc_nilp, hc_nilm, hc_nilf, hc_agg, hc_list, hc_view, hc_ptr, hc_map, hc_func, ho_int, ho_bool, ho_string, ho_slice, ho_nilp, ho_nilm, ho_nilf, ho_list, ho_view, ho_ptr, ho_map, ho_func, putCells, lcells, litCells, isNilS, llen, set_at, Try.underlying28, Try.underlying29, Try.underlying87, Try.underlying9, Try.underlying135, Try.underlying3, Try.underlying4, Try.underlying81]
  obtain ⟨s1, hs1⟩ : ∃ s1, (s.set p1 (.cells [.lit (.int .i64 m)])).set p3 (.cells [.lit (.slice none 0 0)]) = s1 := ⟨_, rfl⟩
  have q1 : s1 p1 = some (.cells [.lit (.int .i64 m)]) := by rw [← hs1, set_ne _ _ n13, set_at]
  have q3 : s1 p3 = some (.cells [.lit (.slice none 0 0)]) := by rw [← hs1, set_at]
  rw [hs1] at hle0 hb ⊢
  clear hs1
  have m1 := ne_new q1 hb
  have m3 := ne_new q3 hb
  have qb := set_at s1 b (.cells [a])
  have r1 : (s1.set b (.cells [a])) p1 = some (.cells [.lit (.int .i64 m)]) := by rw [set_ne _ _ m1]; exact q1
  have r3 : (s1.set b (.cells [a])) p3 = some (.cells [.lit (.slice none 0 0)]) := by rw [set_ne _ _ m3]; exact q3
  have hle1 := le_set_new (.cells [a]) hle0 hb
  have hsb : s b = none := none_of_le hle0 hb
  generalize s1.set b (.cells [a]) = s2 at hle1 qb r1 r3 ⊢
  obtain ⟨X, hX⟩ : ∃ X, (l.map wr) = X := ⟨_, rfl⟩
  have hXl : X.length = l.length := by rw [← hX, List.length_map]
  have hXi : ∀ i, i < l.length → encP l i = [byV (X.getD i p0).key, .lit (.int .i64 (X.getD i p0).off)] ∧ (X.getD i p0).val = none := fun i hi => by
    have : X.getD i p0 = wr (l.getD i p0) := by
      rw [← hX, List.getD, List.getElem?_map, List.getD, List.getElem?_eq_getElem hi]; rfl
    rw [this]
    exact ⟨rfl, rfl⟩
  have hXt : ∀ i, (l.take i).map wr = X.take i := fun i => by rw [List.map_take, hX]
  obtain ⟨s0, hs0⟩ : ∃ s0, s.set b (.cells [a]) = s0 := ⟨_, rfl⟩
  have hss0 : HS.le s s0 := by rw [← hs0]; exact le_set_new _ (le_refl' s) hsb
  have hb0 : s0 b = some (.cells [a]) := by rw [← hs0, set_at]
  have hs02 : HS.le s0 s2 := by
    intro k ob hk
    rw [← hs0] at hk
    simp only [HS.set] at hk
    split at hk
    · rename_i e; rw [e, qb]; exact hk
    · exact hle1 k ob hk
  have h03 : s0 p3 = none := by
    rw [← hs0, set_ne _ _ m3]
    exact hp3
  clear hs0
  have hit := hg s0 b hss0 hb0
  rw [hX]
  refine Join.of (fun _ t => HS.le s t ∧ ∃ A, t p3 = some (.cells [A]) ∧ Acc s t 3 A (X.take m.toNat).length (rows prC (X.take m.toNat))) ?_ ?_
  · rintro _ t ⟨h1, A, h2, h3⟩
    simp [bindO, hcond, vCmp, vBin, vEq, vUn, vNil, vField, vLoad, takeCells, vExtract, hNew, hStore, hBox, hc_int, hc_bool, hc_string, hc_slice, hc_nilp, hc_nilm, hc_nilf, hc_agg, hc_list, hc_view, hc_ptr, hc_map, hc_func, ho_int, ho_bool, ho_string, ho_slice, ho_nilp, ho_nilm, ho_nilf, ho_list, ho_view, ho_ptr, ho_map, ho_func, putCells, lcells, litCells, isNilS, llen, set_at, Try.underlying28, Try.underlying29, Try.underlying87, Try.underlying9, Try.underlying135, Try.underlying3, Try.underlying4, Try.underlying81, h2]
    rw [← accV_rows']
    exact h3.up h1
  · intro K hK
    refine HRange.seqL plain76 hs02 hit (fun i _ => rfl) (fun i t => i ≤ m.toNat ∧ HS.le s0 t ∧ t p1 = some (.cells [.lit (.int .i64 m)]) ∧ ∃ A, t p3 = some (.cells [A]) ∧ accId A ≠ some p1 ∧ accId A ≠ some p3 ∧ Acc s0 t 3 A (X.take i).length (rows prC (X.take i))) (fun _ => False)
      (fun j t => j = 0 ∧ HS.le s0 t ∧ ∃ A, t p3 = some (.cells [A]) ∧ Acc s0 t 3 A (X.take m.toNat).length (rows prC (X.take m.toNat))) (fun i t h => h.2.1) ?_ (fun _ _ _ _ _ h => h) ?_ ?_ ?_ (fun _ h => h.elim) ?_ ?_
    · rintro idl i t t' hi hn ⟨g0, g1, g2, A, g3, g4, g5, g6⟩
      exact ⟨g0, hn.le g1 (none_of_le hs02 hi), hn.cells g2, A, hn.cells g3, g4, g5, hn.acc g6⟩
    · rintro idl j t t' hi hn ⟨g0, g1, A, g3, g6⟩
      exact ⟨g0, hn.le g1 (none_of_le hs02 hi), A, hn.cells g3, hn.acc g6⟩
    · exact ⟨Nat.zero_le _, hs02, r1, _, r3, by rintro ⟨⟩, by rintro ⟨⟩, .inl ⟨rfl, rfl, rfl⟩⟩
    · rintro t ⟨g0, g1, g2, A, g3, g4, g5, g6⟩
      refine hK _ _ ⟨HS.le.trans hss0 g1, A, g3, ?_⟩
      rw [show X.take l.length = X by rw [← hXl, List.take_length]] at g6
      rw [List.take_of_length_le (by omega)]
      exact g6.base hss0
    · rintro j t ⟨rfl, g1, A, g3, g6⟩
      simp
      exact hK _ _ ⟨HS.le.trans hss0 g1, A, g3, g6.base hss0⟩
    · rintro i t idl R0 R1 K' hi hid ht ⟨g0, g1, g2, A, g3, g4, g5, g6⟩ kn kr kx tk0 tk1
      have hA : accId A ≠ some idl := by
        intro e
        have := (g6.free e).2
        rw [ht] at this
        cases this
        exact tk0
      have n3 : p3 ≠ idl := by rintro rfl; rw [ht] at g3; cases g3; exact tk0
      have n1 : p1 ≠ idl := by rintro rfl; rw [ht] at g2; cases g2; exact tk0
      have hsi : s0 idl = none := none_of_le hs02 hid
      have htk := take_succ' p0 X (show i < X.length by omega)
      obtain ⟨hX1, hX2⟩ := hXi i hi
      rw [hX1]
      generalize X.getD i p0 = x at *
      obtain ⟨xk, xv, xo⟩ := x
      simp only at hX2 ⊢
      subst hX2
      refine ⟨ht, ?_⟩
      obtain ⟨t2, ht2⟩ : ∃ t2, t.set idl R1 = t2 := ⟨_, rfl⟩
      rw [ht2]
      have e1 : t2 p1 = some (.cells [.lit (.int .i64 m)]) := by rw [← ht2, set_ne _ _ n1]; exact g2
      have e3 : t2 p3 = some (.cells [A]) := by rw [← ht2, set_ne _ _ n3]; exact g3
      have ei : t2 idl = some R1 := by rw [← ht2, set_at]
      have hA2 : Acc s0 t2 3 A (X.take i).length (rows prC (X.take i)) := by rw [← ht2]; exact g6.put _ hA
      have hle2 : HS.le s0 t2 := by rw [← ht2]; exact le_set_free _ g1 hsi
      clear ht2
      have hlen := fun s => hA2.len 133 s
      have hone := hA2.one
      have hc := hA2.hc
      have hmin : (X.take i).length = i := by rw [List.length_take]; omega
      have hmk : vMk [(0, 1), (1, 1), (2, 1)] [.lit (.slice none 0 0), .lit (.slice none 0 0), .lit (.int .i64 0)] [(0, byV xk), (2, .lit (.int .i64 xo))] = some (.agg (prC ⟨xk, none, xo⟩)) := by
        show _ = some (HV.agg [byV xk, .lit (.slice none 0 0), .lit (.int .i64 xo)])
        simp [vMk, hfill, hc_by, hc_int]
      simp [bindO, hcond, vCmp, vBin, vEq, vUn, vNil, vField, vLoad, takeCells, vExtract, hNew, hStore, hBox, hc_int, hc_bool, hc_string, hc_slice, hc_nilp, hc_nilm, hc_nilf, hc_agg, hc_list, hc_view, hc_ptr, hc_map, hc_func, ho_int, ho_bool, ho_string, ho_slice, ho_nilp, ho_nilm, ho_nilf, ho_list, ho_view, ho_ptr, ho_map, ho_func, putCells, lcells, litCells, isNilS, llen, set_at, Try.underlying28, Try.underlying29, Try.underlying87, Try.underlying9, Try.underlying135, Try.underlying3, Try.underlying4, Try.underlying81, e3, e1, hlen]
      rw [show min i X.length = i by omega]
      by_cases hge : m ≤ (i : Int)
      · simp [hge]
        obtain rfl : i = m.toNat := by omega
        exact kx 0 _ ei ⟨rfl, hle2, A, e3, hA2⟩
      · simp [hge, bindO, hcond, vCmp, vBin, vEq, vUn, vNil, vField, vLoad, takeCells, vExtract, hNew, hStore, hBox, hc_int, hc_bool, hc_string, hc_slice, hc_nilp, hc_nilm, hc_nilf, hc_agg, hc_list, hc_view, hc_ptr, hc_map, hc_func, ho_int, ho_bool, ho_string, ho_slice, ho_nilp, ho_nilm, ho_nilf, ho_list, ho_view, ho_ptr, ho_map, ho_func, putCells, lcells, litCells, isNilS, llen, set_at, Try.underlying28, Try.underlying29, Try.underlying87, Try.underlying9, Try.underlying135, Try.underlying3, Try.underlying4, Try.underlying81, hmk, e3]
        refine hA2.app1 hle2 (vs := prC ⟨xk, none, xo⟩) rfl rfl rfl ?_ ?_
        · simp [room]; omega
        · intro A' t' h1 h2 h3
          have o1 := h3 p1 _ g4 e1
          have o3 := h3 p3 _ g5 e3
          have oi := h3 idl _ hA ei
          simp [bindO, hcond, vCmp, vBin, vEq, vUn, vNil, vField, vLoad, takeCells, vExtract, hNew, hStore, hBox, hc_int, hc_bool, hc_string, hc_slice, hc_nilp, hc_nilm, hc_nilf, hc_agg, hc_list, hc_view, hc_ptr, hc_map, hc_func, ho_int, ho_bool, ho_string, ho_slice, ho_nilp, ho_nilm, ho_nilf, ho_list, ho_view, ho_ptr, ho_map, ho_func, putCells, lcells, litCells, isNilS, llen, set_at, Try.underlying28, Try.underlying29, Try.underlying87, Try.underlying9, Try.underlying135, Try.underlying3, Try.underlying4, Try.underlying81, o3.1, h1.one, h1.hc]
          refine kn _ (by rw [set_ne _ _ (Ne.symm n3)]; exact oi.1) ⟨by omega, le_set_free _ h2 h03, by rw [set_ne _ _ n13]; exact o1.1, A', set_at _ _ _, o1.2, o3.2, ?_⟩
          rw [htk, rows_app, List.length_append, rows_one]
          exact h1.put _ o3.2
end Go.Proofs.Ytpibjdkenifggaa.CL
end
section
namespace Go.Proofs.Ytpibjdkenifggaa.CL
open Go.Proofs.Ytpibjdkenifggaa.H Go.Proofs.Ytpibjdkenifggaa.K0
set_option linter.unusedVariables false
set_option linter.unusedSimpArgs false
set_option maxRecDepth 100000
theorem newBad (most : Int) (s : HS) (h : most < 1 ∨ 1000000 < most) : HC Try.prog 15 [.lit (.int .i64 most)] s (fun v s' => v = .tup [.lit (.pointer none), .lit (.int .i64 1)] ∧ s' = s) := by
  refine HC15 ?_
  unfold c15
  refine Join.of (fun xs t => xs = [.lit (.bool true)] ∧ t = s) ?_ ?_
  · rintro _ t ⟨rfl, rfl⟩
    exact ⟨rfl, rfl⟩
  · intro K hK
    simp only [vBin, if_true, bindO, hcond]
    by_cases h1 : most < 1
    · simp only [h1, decide_true]
      exact hK _ _ ⟨rfl, rfl⟩
    · have h2 : most > 1000000 := by omega
      simp only [h1, h2, decide_false, decide_true]
      exact hK _ _ ⟨rfl, rfl⟩
def offB (W : Int) (g : (Value → Option Int) × Nat) (k : Value) : Bool := (g.1 k).isSome || decide ((g.2 : Int) < W)
theorem offerV {s : HS} {p mid : Nat} {most : Int} {g : (Value → Option Int) × Nat} (h : IsKM s p mid most g.1 g.2) (k : Option (List Int)) (x : Int) :
    HC Try.prog 16 [.ptr p 0, byV k, .lit (.int .i64 x)] s (fun v s' => v = .lit (.bool (offB most g (kv k))) ∧ s' = s.set mid (mapO (offF most g (kv k) x).1 (offF most g (kv k) x).2)) := by
  cases hM : g.1 (kv k) with
  | some y =>
    refine (offer h k x (.inr (by rw [hM]; rfl))).mono ?_
    rintro v s' ⟨rfl, rfl⟩
    simp [offF, offB, hM]
  | none =>
    by_cases hr : most ≤ (g.2 : Int)
    · refine HC16 ?_
      have h1 := h.1
      have h2 := h.2
      have h0 : s.set mid (mapO g.1 g.2) = s := by
        funext q
        simp only [HS.set]
        split
        · rename_i e; rw [e, h.2]
        · rfl
      simp only [kmO, mapO] at h1 h2
      have h3 := toStr_by s k
      have h4 := isStr_by k
      have h5 := keyIs_kv k
      have hr' : ¬ (g.2 : Int) < most := by omega
      simp [c16, bindO, hcond, vCmp, vBin, vEq, vUn, vNil, vField, vLoad, takeCells, vIdx, vLenT, vLen, vExtract, hBS, hfill, hNew, hStore, hBox, hc_int, hc_bool, hc_string, hc_slice, hc_nilp, hc_nilm, hc_nilf, hc_agg, hc_list, hc_view, hc_ptr, hc_map, hc_func, ho_int, ho_bool, ho_string, ho_slice, ho_nilp, ho_nilm, ho_nilf, ho_list, ho_view, ho_ptr, ho_map, ho_func, putCells, hAppend, lcells, litCells, isNilS, llen, room, vMk, set_at, Join, vToInt, vSlice, vSliceX, vSliceS, cutAt, intAt, bl_len, bits64, bits64u, bits8, hfold, vMax2, vMin2, Try.underlying3, Try.underlying4, Try.underlying9, Try.underlying28, Try.underlying29, Try.underlying93, hMark, h1, h2, h3, h4, vLookup, hMapSet, h5, sameKey_str, hM, hr, hr', offF, offB]
      exact h0.symm
    · refine (offer h k x (.inl (by omega))).mono ?_
      rintro v s' ⟨rfl, rfl⟩
      have hr' : (g.2 : Int) < most := by omega
      simp [offF, offB, hM, hr, hr']
theorem nilOffer (s : HS) (k x : HV) : HC Try.prog 16 [.lit (.pointer none), k, x] s (fun v s' => v = .lit (.bool false) ∧ s' = s) := HC16 ⟨rfl, rfl⟩
theorem nilLast (s : HS) (k : HV) : HC Try.prog 17 [.lit (.pointer none), k] s (fun v s' => v = .tup [.lit (.int .i64 0), .lit (.bool false)] ∧ s' = s) := HC17 ⟨rfl, rfl⟩
theorem nilLen (s : HS) : HC Try.prog 20 [.lit (.pointer none)] s (fun v s' => v = .lit (.int .i64 0) ∧ s' = s) := HC20 ⟨rfl, rfl⟩
theorem nilKeys (s : HS) (m : Int) (hm : 0 ≤ m) : HC Try.prog 45 [.lit (.pointer none), .lit (.int .i64 m)] s (fun v s' => v = .lit (.slice none 0 0) ∧ s' = s) := by
  have := keys45 [] (.lit (.pointer none)) s hc_nilp ho_nilp (fun t b _ hb => gives76nil hb) m hm (by simp)
  refine this.mono ?_
  rintro v t ⟨rfl, rfl⟩
  refine ⟨?_, rfl⟩
  simp [orNil, rowV]
theorem byteArg {f : FuncId} {s : HS} {a : HV} {xs : List HV} {Q : HV → HS → Prop} (c : Int) (h : HC Try.prog f (a :: byV (some [c]) :: xs) s Q) (ha : ∀ q cs, frz2 q cs a = a) (hx : ∀ q cs, xs.map (frz2 q cs) = xs) :
    hBS s 1 1 [.lit (.int .u8 0)] [(0, .lit (.int .u8 c))] (fun x s' => hMark s' x fun y s'' => HC Try.prog f (a :: y :: xs) s'' Q) := by
  simp [hBS, hfill, hNew, hc_int, ho_int]
  intro id hid
  simp only [hMark, set_at]
  refine ⟨by omega, HC.frzN hid ?_⟩
  simp only [List.map_cons, ha, hx]
  simpa [frz2, frz1, frz0, phi, byV, bl] using h
theorem kv_ab : kv (some [98]) ≠ kv (some [97]) := by
  intro h
  have := (kv_same _ _).1 h
  revert this
  decide
theorem awake14 (s : HS) : HC Try.prog 14 [] s (fun v s' => v = .lit (.bool true)) := by
  refine HC14 ?_
  unfold c14
  refine (new 1 s (by omega) (by omega)).mono ?_
  rintro v s1 ⟨p, mid, hp, hm, rfl, hle, hk⟩
  simp only [vExtract, List.getElem?_cons_zero, List.getElem?_cons_succ, bindO]
  refine (newBad 0 s1 (.inl (by omega))).mono ?_
  rintro v s2 ⟨rfl, rfl⟩
  simp only [vExtract, List.getElem?_cons_zero, List.getElem?_cons_succ, bindO]
  refine Join.of (fun xs t => xs = [.lit (.bool false)] ∧ t = s2) ?_ ?_
  rotate_left
  · intro K hK
    exact hK _ _ ⟨rfl, rfl⟩
  rintro _ t ⟨rfl, rfl⟩
  simp only [List.headD_cons, hcond]
  refine byteArg 97 ((offerV (g := (fun _ => none, 0)) hk (some [97]) 5).mono ?_) (fun _ _ => rfl) (fun _ _ => rfl)
  rintro v t1 ⟨rfl, rfl⟩
  have e0 : offF 1 (fun _ => none, 0) (kv (some [97])) 5 = (put (fun _ => none) (kv (some [97])) 5, 1) := rfl
  have b0 : offB 1 (fun _ => none, 0) (kv (some [97])) = true := rfl
  rw [e0, b0]
  have hk1 := hk.set (M' := put (fun _ => none) (kv (some [97])) 5) (n' := 1)
  generalize t.set mid _ = t1 at hk1 ⊢
  have p1 : put (fun _ => none) (kv (some [97])) 5 (kv (some [97])) = some 5 := by unfold put; rw [if_pos rfl]
  have p2 : put (fun _ => none) (kv (some [97])) 5 (kv (some [98])) = none := by unfold put; rw [if_neg kv_ab]
  generalize put (fun _ => none) (kv (some [97])) 5 = M at *
  refine byteArg 98 ((offerV (g := (M, 1)) hk1 (some [98]) 6).mono ?_) (fun _ _ => rfl) (fun _ _ => rfl)
  rintro v t2 ⟨rfl, rfl⟩
  have e1 : offF 1 (M, 1) (kv (some [98])) 6 = (M, 1) := by simp [offF, p2]
  have b1 : offB 1 (M, 1) (kv (some [98])) = false := by simp [offB, p2]
  rw [e1, b1]
  have hk2 := hk1.set (M' := M) (n' := 1)
  generalize t1.set mid _ = t2 at hk2 ⊢
  refine byteArg 97 ((offerV (g := (M, 1)) hk2 (some [97]) 3).mono ?_) (fun _ _ => rfl) (fun _ _ => rfl)
  rintro v t3 ⟨rfl, rfl⟩
  have e2 : offF 1 (M, 1) (kv (some [97])) 3 = (put M (kv (some [97])) 5, 1) := by simp [offF, p1]; rfl
  have b2 : offB 1 (M, 1) (kv (some [97])) = true := by simp [offB, p1]
  rw [e2, b2]
  have hk3 := hk2.set (M' := put M (kv (some [97])) 5) (n' := 1)
  generalize t2.set mid _ = t3 at hk3 ⊢
  have p3 : put M (kv (some [97])) 5 (kv (some [97])) = some 5 := by unfold put; rw [if_pos rfl]
  generalize put M (kv (some [97])) 5 = M' at *
  refine byteArg 97 ((last hk3 (some [97])).mono ?_) (fun _ _ => rfl) (fun _ _ => rfl)
  rintro v t4 ⟨rfl, rfl⟩
  simp only [vExtract, List.getElem?_cons_zero, List.getElem?_cons_succ, bindO, hcond, vUn, Bool.not_false, p3, Option.getD_some, Option.isSome_some]
  simp only [vCmp, vEq, Try.underlying3, bindO, hcond]
  refine (len hk3).mono ?_
  rintro v t5 ⟨rfl, rfl⟩
  rfl
end Go.Proofs.Ytpibjdkenifggaa.CL
end
section
namespace Go.Proofs.Ytpibjdkenifggaa.CL
open Go.Proofs.Ytpibjdkenifggaa.H Go.Proofs.Ytpibjdkenifggaa.K0
set_option linter.unusedVariables false
set_option linter.unusedSimpArgs false
set_option maxRecDepth 100000
theorem offF_le (W : Int) (g : (Value → Option Int) × Nat) (k : Value) (x : Int) : (offF W g k x).2 ≤ g.2 + 1 := by
  unfold offF
  split
  · exact Nat.le_succ _
  · split
    · exact Nat.le_succ _
    · exact Nat.le_refl _
theorem all2_wr : ∀ (l : List Pr), (∀ p ∈ l, p.val = none) → all2 (sameP true) (l.map wr) l = true
  | [], _ => rfl
  | p :: l, h => by
    have h1 := h p List.mem_cons_self
    have h2 := all2_wr l fun q hq => h q (List.mem_cons_of_mem _ hq)
    simp only [List.map_cons, all2, h2, Bool.and_true]
    simp only [sameP, wr, sameB', keyB_byI, pk, h1, beq_self_eq_true, Bool.and_self, Bool.or_true]
end Go.Proofs.Ytpibjdkenifggaa.CL
end
section
set_option linter.unusedVariables false
set_option linter.unusedSimpArgs false
namespace Go.Proofs.YtpibjdkenifggaaW.PrintWords
open Go.RowKit
/-- The world is the old one, some orders having been drawn. -/
structure Drawn0 (w w' : World) : Prop where mk :: (out : ∃ n, w' = w.drewN n)
theorem Drawn0.refl (w : World) : Drawn0 w w := ⟨⟨0, rfl⟩⟩
theorem Drawn0.step {w w' : World} (h : Drawn0 w w') (n : Nat) : Drawn0 w (w'.drewN n) := by
  obtain ⟨m, rfl⟩ := h
  exact ⟨⟨m + n, World.drewN_drewN ..⟩⟩
theorem Drawn0.grown {w w' : World} (h : Drawn0 w w') : Grown w w' := by
  obtain ⟨n, rfl⟩ := h
  induction n with
  | zero => exact Grown.refl _
  | succ n ih => rw [← World.drew_drewN]; exact Grown.drew ih
theorem Drawn0.below {w w' : World} (h : Drawn0 w w') : Below w.heap.size w w' := by
  obtain ⟨n, rfl⟩ := h
  induction n with
  | zero => exact Below.refl _ _
  | succ n ih => rw [← World.drew_drewN]; exact ih.drew
def rd (xs : List Int) (i : Int) : Int := xs.getD i.toNat 0
theorem below_alloc {w W : World} (h : Below w.heap.size w W) (o : Obj) : Below w.heap.size w (W.alloc o) := h.alloc h.size o
theorem grown_of_below {w w1 : World} (h : Below w.heap.size w w1) (row : Option Nat) : w.grownBy w1 row := ⟨h.os, h.tape, h.output, h.size, fun i hi _ => h.block i hi⟩
theorem pw_cell_below {w w1 : World} (h : Below w.heap.size w w1) {a : Addr} {v : Value} (hc : w.cell? a = some v) : w1.cell? a = some v := (h.cell (World.block_lt_of_cell? w a hc)).trans hc
def ReadsInt (w : World) (k : IntKind) (A : Option Addr) (n : Nat) (xs : List Int) : Prop :=
  xs.length = n ∧ n ≤ 9223372036854775807 ∧ (0 < n → ∃ ad, A = some ad ∧ ∀ j, j < n → w.cell? (ad.add j) = some (.int k (xs.getD j 0)))
theorem ReadsInt.below {w w1 : World} {k : IntKind} {A : Option Addr} {n : Nat} {xs : List Int} (h : ReadsInt w k A n xs) (hb : Below w.heap.size w w1) : ReadsInt w1 k A n xs :=
  ⟨h.1, h.2.1, fun hn => by
    obtain ⟨ad, e, hc⟩ := h.2.2 hn
    exact ⟨ad, e, fun j hj => pw_cell_below hb (hc j hj)⟩⟩
theorem own_nil (W : World) (base : Nat) (e : TypeId) (size : Nat) : W.ownsRow base e size (.slice none 0 0) 0 [] := ⟨by simp, .inl ⟨rfl, rfl⟩⟩
theorem own_base {w : World} {base : Nat} {e : TypeId} {size n : Nat} {v : Value} {xs : List Value} (h : w.ownsRow base e size v n xs) (k : Nat) (hk : v.ownBlock = some k) : base ≤ k := by
  rcases h.2 with ⟨rfl, _⟩ | ⟨g, cap, cur, rfl, hb, _⟩
  · simp [Value.ownBlock] at hk
  · have : g = k := by simpa [Value.ownBlock] using hk
    omega
theorem own_lt {w : World} {base : Nat} {e : TypeId} {size n : Nat} {v : Value} {xs : List Value} (h : w.ownsRow base e size v n xs) (k : Nat) (hk : v.ownBlock = some k) : k < w.heap.size := by
  rcases h.2 with ⟨rfl, _⟩ | ⟨g, cap, cur, rfl, hb, hh, _⟩
  · simp [Value.ownBlock] at hk
  · have : g = k := by simpa [Value.ownBlock] using hk
    subst this
    exact (Array.getElem?_eq_some_iff.1 hh).1
theorem pw_own_below {w w1 : World} {base : Nat} {e : TypeId} {size n : Nat} {v : Value} {xs : List Value} (h : w.ownsRow base e size v n xs) (hb : Below w.heap.size w w1) : w1.ownsRow base e size v n xs :=
  h.kept (grown_of_below hb none) (by cases v.ownBlock <;> simp)
/-- What is written is another row: this one lives on. -/
theorem own_other {w w1 : World} {base : Nat} {e : TypeId} {size n : Nat} {v : Value} {xs : List Value} (h : w.ownsRow base e size v n xs) {row : Option Nat} (hg : w.grownBy w1 row) (hne : v.ownBlock = none ∨ v.ownBlock ≠ row) : w1.ownsRow base e size v n xs := h.kept hg hne
section
variable {P : Program} {ops : Array Oper} {rest : List Oper} {o : Oper} {a : Act} {Q : Exit → Act → World → Prop}
end
section
variable {P : Program}
end
section
variable {P : Program} {ops : Array Oper} {rest : List Oper} {o : Oper} {a : Act} {Q : Exit → Act → World → Prop}
end
def bytesOf (s : ByteArray) : List Int := s.data.toList.map fun b => (b.toNat : Int)
/-- Where the first answers, the second answers the same. -/
def LeO {α : Type} (a b : Option α) : Prop := ∀ r, a = some r → b = some r
theorem LeO.refl {α : Type} (a : Option α) : LeO a a := fun _ h => h
theorem LeO.none {α : Type} (b : Option α) : LeO Option.none b := fun _ h => by cases h
theorem LeO.trans {α : Type} {a b c : Option α} (h : LeO a b) (k : LeO b c) : LeO a c := fun r hr => k r (h r hr)
theorem LeO.bind {α β : Type} {a a' : Option α} {f f' : α → Option β} (h : LeO a a') (k : ∀ x, LeO (f x) (f' x)) : LeO (a.bind f) (a'.bind f') := by
  intro r hr
  obtain ⟨x, hx, hf⟩ := Option.bind_eq_some_iff.1 hr
  exact Option.bind_eq_some_iff.2 ⟨x, h x hx, k x r hf⟩
theorem LeO.map {α β : Type} {a a' : Option α} (f : α → β) (h : LeO a a') : LeO (a.map f) (a'.map f) := by
  intro r hr
  obtain ⟨x, hx, hf⟩ := Option.map_eq_some_iff.1 hr
  exact Option.map_eq_some_iff.2 ⟨x, h x hx, hf⟩
theorem more_rounds {α : Type} {g : Nat → Option α} (h : ∀ k, LeO (g k) (g (k + 1))) (k : Nat) : ∀ j, LeO (g k) (g (k + j))
  | 0 => LeO.refl _
  | j + 1 => (more_rounds h k j).trans (h (k + j))
theorem at_rounds {α : Type} {g : Nat → Option α} (h : ∀ k, LeO (g k) (g (k + 1))) {k k' : Nat} (hk : k ≤ k') {r : α} (hr : g k = some r) : g k' = some r := by
  have := more_rounds h k (k' - k) r hr
  rwa [Nat.add_sub_cancel' hk] at this
def Reps {α : Type} (R : α → List Value → Prop) (size : Nat) (ps : List α) (cs : List Value) : Prop :=
  cs.length = ps.length * size ∧ ∀ j p, ps[j]? = some p → R p ((cs.drop (j * size)).take size)
theorem Reps.none {α : Type} (R : α → List Value → Prop) (size : Nat) : Reps R size [] [] := ⟨by simp, fun j p h => by simp at h⟩
theorem Reps.snoc {α : Type} {R : α → List Value → Prop} {size : Nat} {ps : List α} {cs c : List Value} {p : α} (h : Reps R size ps cs) (hp : R p c) (hc : c.length = size) : Reps R size (ps ++ [p]) (cs ++ c) := by
  refine ⟨by rw [List.length_append, h.1, hc, List.length_append, List.length_singleton, Nat.add_mul, Nat.one_mul], fun j q hq => ?_⟩
  rcases Nat.lt_or_ge j ps.length with hj | hj
  · rw [List.getElem?_append_left hj] at hq
    have h1 : j * size + size ≤ cs.length := by rw [h.1, ← Nat.succ_mul]; exact Nat.mul_le_mul_right _ hj
    have h2 := h.2 j q hq
    rw [List.drop_append_of_le_length (by omega), List.take_append_of_le_length (by rw [List.length_drop]; omega)]
    exact h2
  · have hj' : j = ps.length := by
      have := (List.getElem?_eq_some_iff.1 hq).1
      rw [List.length_append, List.length_singleton] at this
      omega
    subst hj'
    have hq' : p = q := by simpa using hq
    subst hq'
    rw [← h.1, List.drop_left, ← hc, List.take_length]
    exact hp
theorem Reps.imp_ {α : Type} {R R' : α → List Value → Prop} {size : Nat} {ps : List α} {cs : List Value} (h : Reps R size ps cs) (hR : ∀ p c, R p c → R' p c) : Reps R' size ps cs := ⟨h.1, fun j p hj => hR _ _ (h.2 j p hj)⟩
def ReadsRow {α : Type} (R : α → List Value → Prop) (size : Nat) (w : World) (A : Option Addr) (n : Nat) (ps : List α) : Prop :=
  ps.length = n ∧ n ≤ 9223372036854775807 ∧ (0 < n → ∃ ad, A = some ad ∧ ∀ j p, ps[j]? = some p → ∃ c, c.length = size ∧ R p c ∧ ∀ i u, c[i]? = some u → w.cell? (ad.add (j * size + i)) = some u)
theorem ReadsRow.imp_ {α : Type} {R R' : α → List Value → Prop} {size : Nat} {w w1 : World} {A : Option Addr} {n : Nat} {ps : List α} (h : ReadsRow R size w A n ps) (hb : Below w.heap.size w w1) (hR : ∀ p c, R p c → R' p c) : ReadsRow R' size w1 A n ps :=
  ⟨h.1, h.2.1, fun hn => by
    obtain ⟨ad, e, hc⟩ := h.2.2 hn
    refine ⟨ad, e, fun j p hj => ?_⟩
    obtain ⟨c, hs, hr, hcell⟩ := hc j p hj
    exact ⟨c, hs, hR _ _ hr, fun i u hu => pw_cell_below hb (hcell i u hu)⟩⟩
theorem own_reads_row {α : Type} {R : α → List Value → Prop} {w : World} {base n size : Nat} {e : TypeId} {v : Value} {ps : List α} {cs : List Value} (h : w.ownsRow base e size v n cs) (hR : Reps R size ps cs) (hn : ps.length = n) :
    ∃ A c, v = .slice A n c ∧ ReadsRow R size w A n ps := by
  rcases Nat.eq_zero_or_pos n with h0 | h0
  · rcases h.2 with ⟨rfl, rfl⟩ | ⟨g, cap, cur, rfl, _⟩
    · exact ⟨none, 0, rfl, hn, by omega, fun hp => absurd hp (by omega)⟩
    · exact ⟨_, cap, rfl, hn, by omega, fun hp => absurd hp (by omega)⟩
  · obtain ⟨g, cap, rfl, _, _⟩ := h.form h0
    have hm : n ≤ 9223372036854775807 := by
      rcases h.2 with ⟨_, h1⟩ | ⟨g', cap', cur, he, _, _, h1, h2, _⟩
      · omega
      · simp only [maxLen] at h2
        omega
    refine ⟨_, cap, rfl, hn, hm, fun _ => ⟨_, rfl, fun j p hj => ⟨(cs.drop (j * size)).take size, ?_, hR.2 j p hj, fun i u hu => ?_⟩⟩⟩
    · have hjl := (List.getElem?_eq_some_iff.1 hj).1
      have h1 : j * size + size ≤ cs.length := by rw [hR.1, ← Nat.succ_mul]; exact Nat.mul_le_mul_right _ hjl
      rw [List.length_take, List.length_drop]
      omega
    · refine h.cells (g := g) rfl _ u ?_
      rw [List.getElem?_take] at hu
      split at hu
      · rw [List.getElem?_drop] at hu
        exact hu
      · cases hu
section
variable {P : Program} {ops : Array Oper} {rest : List Oper} {o : Oper} {a : Act} {Q : Exit → Act → World → Prop}
/-- append(v, x), x of several cells; behind 'at_builtin'; the goal's world is 'W.alloc' of the variadic's box. -/
theorem print_append_cells {w0 W : World} (base : Nat) (hgd : o.guard = none) (s x : Operand) (t e : TypeId) (z : Value) (size bytes : Nat)
    (ho : o.op = .call { callee := .builtin .append, args := #[s, x], argTypes := #[t, t] })
    (ht : P.underlying t = some (.slice e)) (hinfo : (P.info? e).map (fun i => (i.zero, i.size, i.bytes)) = some (some z, size, bytes)) (hz : z.cells.size = size) (hs0 : 0 < size) (hb0 : 0 < bytes)
    (v : Value) (n : Nat) (xs ys : List Value) (hs : a.eval s = v) (hx : a.eval x = .slice (some ⟨W.heap.size, 0, none⟩) 1 1) (hys : ys.length = size) (h1 : ∀ u ∈ ys, u.oneCell' = true)
    (HO : W.ownsRow base e size v n xs) (HB : Below base w0 W) (hbase : base ≤ W.heap.size) (hl : (n + 1) * bytes ≤ 140737488355328)
    (h : ∀ v1 w1, w1.ownsRow base e size v1 (n + 1) (xs ++ ys) → Below base w0 w1 → W.grownBy w1 v.ownBlock → (v1.ownBlock = v.ownBlock ∨ ∃ b, v1.ownBlock = some b ∧ W.heap.size ≤ b) → wpList P ops Q rest (a.put o.dst v1) w1) :
    wpList P ops Q (o :: rest) a (W.alloc (.cells ys.toArray e)) := by
  obtain ⟨i0, hi, hzz⟩ := Option.map_eq_some_iff.1 hinfo
  simp only [Prod.mk.injEq] at hzz
  obtain ⟨hz0, hz1, hz2⟩ := hzz
  have hlen : n + 1 ≤ 140737488355328 := Nat.le_trans (Nat.le_mul_of_pos_right _ hb0) hl
  refine wpList_append_own_at (W.alloc (.cells ys.toArray e)) hgd s x t ho base e i0 z size bytes ht hi hz0 hz1 hz2 hz hs0 v n xs hs (HO.alloc _) ⟨W.heap.size, 0, none⟩ 1 1 ys hx (by rw [hys]; simp)
    (by simpa using World.news_of_block (cs := ys.toArray) (t := e) (fr := (0, 0)) (heap_alloc_new W (.cells ys.toArray e))) h1 (by simp only [maxLen]; omega) hl (by simp; omega) ?_
  intro v1 w1 hown hg _ hat
  refine h v1 w1 hown ((HB.alloc hbase _).grown hg (by simp; omega) (own_base HO)) (World.grownBy.trans (World.grownBy_alloc W _ _) hg) ?_
  rcases hat with hat | hat
  · exact .inl hat
  · exact .inr ⟨_, hat, by simp⟩
end
theorem own_ne {w : World} {base : Nat} {e t : TypeId} {size n g : Nat} {v : Value} {xs : List Value} {cs : Array Value} (h : w.ownsRow base e size v n xs) (hg : w.heap[g]? = some (.cells cs t (0, 0))) (hne : e ≠ t) : some g ≠ v.ownBlock := by
  rcases h.2 with ⟨rfl, _⟩ | ⟨g', cap, cur, rfl, _, hh, _⟩
  · simp [Value.ownBlock]
  · intro he
    have : g = g' := by simpa [Value.ownBlock] using he
    subst this
    rw [hg] at hh
    injection hh with hh
    injection hh with _ ht
    exact hne ht.symm
theorem blk_lt {w : World} {g : Nat} {o : Obj} (h : w.heap[g]? = some o) : g < w.heap.size := (Array.getElem?_eq_some_iff.1 h).1
def KeepBut (w w' : World) (g : Nat) (row : Option Nat) : Prop := w.heap.size ≤ w'.heap.size ∧ ∀ i, i < w.heap.size → i ≠ g → some i ≠ row → w'.heap[i]? = w.heap[i]?
theorem KeepBut.refl (w : World) (g : Nat) (row : Option Nat) : KeepBut w w g row := ⟨Nat.le_refl _, fun _ _ _ _ => rfl⟩
theorem KeepBut.of_below {w w1 : World} (h : Below w.heap.size w w1) (g : Nat) (row : Option Nat) : KeepBut w w1 g row := ⟨h.size, fun i hi _ _ => h.block i hi⟩
theorem KeepBut.trans {w w1 w2 : World} {g : Nat} {row row1 : Option Nat} (h : KeepBut w w1 g row) (k : KeepBut w1 w2 g row1) (hr : row1 = row ∨ ∃ b, row1 = some b ∧ w.heap.size ≤ b) : KeepBut w w2 g row :=
  ⟨Nat.le_trans h.1 k.1, fun i hi hg hn => by
    refine (k.2 i (Nat.lt_of_lt_of_le hi h.1) hg ?_).trans (h.2 i hi hg hn)
    rcases hr with rfl | ⟨b, rfl, hb⟩
    · exact hn
    · intro e
      injection e with e
      omega⟩
/-- Another block, another row: they live on. -/
theorem KeepBut.blk {w w1 : World} {g g' : Nat} {row : Option Nat} {o : Obj} (h : KeepBut w w1 g row) (hb : w.heap[g']? = some o) (hg : g' ≠ g) (hr : some g' ≠ row) : w1.heap[g']? = some o := (h.2 g' (blk_lt hb) hg hr).trans hb
theorem KeepBut.own {w w1 : World} {g : Nat} {row : Option Nat} {base : Nat} {e : TypeId} {size n : Nat} {v : Value} {xs : List Value} (h : KeepBut w w1 g row) (ho : w.ownsRow base e size v n xs) (hg : v.ownBlock ≠ some g) (hr : v.ownBlock = none ∨ v.ownBlock ≠ row) : w1.ownsRow base e size v n xs := by
  obtain ⟨h1, h2⟩ := ho
  refine ⟨h1, ?_⟩
  rcases h2 with h2 | ⟨b, cap, cur, rfl, hb, hh, r⟩
  · exact .inl h2
  · refine .inr ⟨b, cap, cur, rfl, hb, h.blk hh ?_ ?_, r⟩
    · intro e
      exact hg (by rw [← e]; rfl)
    · rcases hr with hr | hr
      · simp [Value.ownBlock] at hr
      · exact hr
def Ev {α : Type} (g : Nat → Option α) (r : α) : Prop := ∃ K, ∀ k, K ≤ k → g k = some r
theorem Ev.of {α : Type} {g : Nat → Option α} {r : α} (hg : ∀ k, LeO (g k) (g (k + 1))) {k : Nat} (h : g k = some r) : Ev g r := ⟨k, fun _ hk => at_rounds hg hk h⟩
theorem Ev.bind {α β : Type} {g : Nat → Option α} {f : Nat → α → Option β} {a : α} {r : β} (h : Ev g a) (k : Ev (fun n => f n a) r) : Ev (fun n => (g n).bind (f n)) r := by
  obtain ⟨K, h⟩ := h
  obtain ⟨K', k⟩ := k
  refine ⟨max K K', fun n hn => ?_⟩
  have h1 := h n (by omega)
  have h2 := k n (by omega)
  simp only [h1, Option.bind_some]
  exact h2
/-- One round of a loop. -/
theorem Ev.step {α : Type} {g f : Nat → Option α} {r : α} (h : ∀ k, g (k + 1) = f k) (k : Ev f r) : Ev g r := by
  obtain ⟨K, k⟩ := k
  refine ⟨K + 1, fun n hn => ?_⟩
  obtain ⟨m, rfl⟩ : ∃ m, n = m + 1 := ⟨n - 1, by omega⟩
  rw [h]
  exact k m (by omega)
theorem Ev.congr {α : Type} {g f : Nat → Option α} {r : α} (h : ∀ k, g k = f k) (k : Ev f r) : Ev g r := by
  obtain ⟨K, k⟩ := k
  exact ⟨K, fun n hn => (h n).trans (k n hn)⟩
section
variable {P : Program} {ops : Array Oper} {o : Oper} {a : Act} {Q : Exit → Act → World → Prop} {K : Act → World → Prop}
end
theorem own_weaken {w : World} {base base' : Nat} {e : TypeId} {size n : Nat} {v : Value} {xs : List Value} (h : w.ownsRow base e size v n xs) (hb : base' ≤ base) : w.ownsRow base' e size v n xs := by
  obtain ⟨h1, h2⟩ := h
  refine ⟨h1, ?_⟩
  rcases h2 with h2 | ⟨g, cap, cur, rfl, hg, r⟩
  · exact .inl h2
  · exact .inr ⟨g, cap, cur, rfl, Nat.le_trans hb hg, r⟩
section
variable {α : Type} {enc : α → Value} {d : α}
def ReadsOf (enc : α → Value) (d : α) (w : World) (A : Option Addr) (n : Nat) (xs : List α) : Prop :=
  xs.length = n ∧ n ≤ 9223372036854775807 ∧ (0 < n → ∃ ad, A = some ad ∧ ∀ j, j < n → w.cell? (ad.add j) = some (enc (xs.getD j d)))
theorem ReadsOf.below {w w1 : World} {A : Option Addr} {n : Nat} {xs : List α} (h : ReadsOf enc d w A n xs) (hb : Below w.heap.size w w1) : ReadsOf enc d w1 A n xs :=
  ⟨h.1, h.2.1, fun hn => by
    obtain ⟨ad, e, hc⟩ := h.2.2 hn
    exact ⟨ad, e, fun j hj => pw_cell_below hb (hc j hj)⟩⟩
end
section
variable {α : Type} {P : Program} {ops : Array Oper} {rest : List Oper} {o : Oper} {a : Act} {Q : Exit → Act → World → Prop}
end
section
variable {P : Program}
end
theorem own_le {w : World} {base n m c size : Nat} {e : TypeId} {A : Option Addr} {xs : List Value} (h : w.ownsRow base e size (.slice A m c) n xs) : m ≤ c := by
  rcases h.2 with ⟨he, _⟩ | ⟨g, cap, cur, he, _, _, hnc, _⟩
  · injection he with _ h2 h3
    omega
  · injection he with _ h2 h3
    omega
def OwnRow {α : Type} (R : α → List Value → Prop) (e : TypeId) (size : Nat) (w : World) (base : Nat) (v : Value) (ps : List α) : Prop :=
  ∃ inner, w.ownsRow base e size v ps.length inner ∧ Reps R size ps inner
section
variable {α : Type} {R R' : α → List Value → Prop} {e : TypeId} {size : Nat} {w w1 : World} {base : Nat} {v : Value} {ps : List α}
theorem OwnRow.none_ (R : α → List Value → Prop) (e : TypeId) (size : Nat) (w : World) (base : Nat) : OwnRow R e size w base (.slice none 0 0) [] := ⟨[], own_nil _ _ _ _, Reps.none _ _⟩
theorem OwnRow.imp_ (h : OwnRow R e size w base v ps) (hR : ∀ p c, R p c → R' p c) : OwnRow R' e size w base v ps := by
  obtain ⟨inner, ho, hr⟩ := h
  exact ⟨inner, ho, hr.imp_ hR⟩
theorem OwnRow.below (h : OwnRow R e size w base v ps) (hb : Below w.heap.size w w1) : OwnRow R e size w1 base v ps := by
  obtain ⟨inner, ho, hr⟩ := h
  exact ⟨inner, pw_own_below ho hb, hr⟩
theorem OwnRow.other (h : OwnRow R e size w base v ps) {row : Option Nat} (hg : w.grownBy w1 row) (hne : v.ownBlock = none ∨ v.ownBlock ≠ row) : OwnRow R e size w1 base v ps := by
  obtain ⟨inner, ho, hr⟩ := h
  exact ⟨inner, own_other ho hg hne, hr⟩
theorem OwnRow.keep (h : OwnRow R e size w base v ps) {g : Nat} {t : TypeId} {cells : Array Value} (hb : w.heap[g]? = some (.cells cells t (0, 0))) (ht : e ≠ t) (hk : KeepBut w w1 g none) : OwnRow R e size w1 base v ps := by
  obtain ⟨inner, ho, hr⟩ := h
  exact ⟨inner, hk.own ho (Ne.symm (own_ne ho hb ht)) (by cases v.ownBlock <;> simp), hr⟩
theorem OwnRow.reads (h : OwnRow R e size w base v ps) : ∃ A c, v = .slice A ps.length c ∧ ps.length ≤ c ∧ ReadsRow R size w A ps.length ps := by
  obtain ⟨inner, ho, hr⟩ := h
  obtain ⟨A, c, rfl, hrow⟩ := own_reads_row ho hr rfl
  exact ⟨A, c, rfl, own_le ho, hrow⟩
/-- A literal: the elements' cells one behind the other. -/
theorem OwnRow.lit (W : World) (base : Nat) {inner : List Value} (hr : Reps R size ps inner) (hb : base ≤ W.heap.size) (hm : ps.length ≤ 9223372036854775807) :
    OwnRow R e size (W.alloc (.cells inner.toArray e)) base (.slice (some ⟨W.heap.size, 0, none⟩) ps.length ps.length) ps := by
  have h := World.ownsRow_lit (base := base) (e := e) (size := size) W inner.toArray ps.length hb (by simpa [maxLen] using hm) (by simpa using hr.1)
  exact ⟨inner, by simpa using h, hr⟩
end
section
variable {P : Program} {ops : Array Oper} {rest : List Oper} {o : Oper} {a : Act} {Q : Exit → Act → World → Prop} {α : Type} {R : α → List Value → Prop}
/-- append(v, x): x's cells are cs. R is that of the world AHEAD; move it over hg ('OwnRow.imp_'). -/
theorem OwnRow.append {w0 W : World} (base : Nat) (hgd : o.guard = none) (s x : Operand) (t e : TypeId) (z : Value) (size bytes : Nat)
    (ho : o.op = .call { callee := .builtin .append, args := #[s, x], argTypes := #[t, t] })
    (ht : P.underlying t = some (.slice e)) (hinfo : (P.info? e).map (fun i => (i.zero, i.size, i.bytes)) = some (some z, size, bytes)) (hz : z.cells.size = size) (hs0 : 0 < size) (hb0 : 0 < bytes)
    (v : Value) (ps : List α) (p : α) (cs : List Value) (hs : a.eval s = v) (hx : a.eval x = .slice (some ⟨W.heap.size, 0, none⟩) 1 1) (hp : R p cs) (hcs : cs.length = size) (h1 : ∀ u ∈ cs, u.oneCell' = true)
    (HO : OwnRow R e size W base v ps) (HB : Below base w0 W) (hbase : base ≤ W.heap.size) (hl : (ps.length + 1) * bytes ≤ 140737488355328)
    (h : ∀ v1 w1, OwnRow R e size w1 base v1 (ps ++ [p]) → Below base w0 w1 → W.grownBy w1 v.ownBlock → (v1.ownBlock = v.ownBlock ∨ ∃ b, v1.ownBlock = some b ∧ W.heap.size ≤ b) → wpList P ops Q rest (a.put o.dst v1) w1) :
    wpList P ops Q (o :: rest) a (W.alloc (.cells cs.toArray e)) := by
  obtain ⟨inner, hown, hr⟩ := HO
  refine print_append_cells base hgd s x t e z size bytes ho ht hinfo hz hs0 hb0 v ps.length inner cs hs hx hcs h1 hown HB hbase hl ?_
  intro v1 w1 hown1 hb1 hg1 hat1
  exact h v1 w1 ⟨inner ++ cs, by rw [List.length_append, List.length_singleton]; exact hown1, hr.snoc hp hcs⟩ hb1 hg1 hat1
end
section
variable {P : Program} {ops : Array Oper} {o : Oper} {a : Act} {Q : Exit → Act → World → Prop} {K : Act → World → Prop} {α : Type} {R : α → List Value → Prop}
end
section
variable {α : Type} {P : Program}
theorem ReadsOf.len_ {enc : α → Value} {d : α} {w : World} {A : Option Addr} {n : Nat} {xs : List α} (h : ReadsOf enc d w A n xs) : ReadsOf enc d w A xs.length xs := by rw [h.1]; exact h
end
section
variable {P : Program} {ops : Array Oper} {rest : List Oper} {o : Oper} {a : Act} {Q : Exit → Act → World → Prop}
end
/-- ok: which blocks the rows inside may be ('not the row that is being written'). -/
structure Kd (α : Type) where
  sz : Nat
  E : List Nat
  K : World → α → List Value → Prop
  M : World → Nat → (Nat → Prop) → α → List Value → Prop
  K_len : ∀ {w x cs}, K w x cs → cs.length = sz
  K_one : ∀ {w x cs}, K w x cs → ∀ u ∈ cs, u.oneCell' = true
  K_below : ∀ {w w1 : World} {x cs}, Below w.heap.size w w1 → K w x cs → K w1 x cs
  K_of_M : ∀ {w base ok x cs}, M w base ok x cs → K w x cs
  M_mono : ∀ {w base ok ok' x cs}, (∀ k, ok k → ok' k) → M w base ok x cs → M w base ok' x cs
  M_bound : ∀ {w : World} {base ok x cs}, M w base ok x cs → M w base (fun k => ok k ∧ base ≤ k ∧ k < w.heap.size ∧ ∃ q, q ∈ E ∧ ∃ cells, w.heap[k]? = some (.cells cells q (0, 0))) x cs
  M_move : ∀ {w w1 : World} {base ok x cs}, (∀ k, ok k → w1.heap[k]? = w.heap[k]?) → M w base ok x cs → M w1 base ok x cs
  M_lower : ∀ {w base base' ok x cs}, base' ≤ base → M w base ok x cs → M w base' ok x cs
theorem own_move {w w1 : World} {base : Nat} {e : TypeId} {size n : Nat} {v : Value} {xs : List Value} (h : w.ownsRow base e size v n xs) (hm : ∀ k, v.ownBlock = some k → w1.heap[k]? = w.heap[k]?) : w1.ownsRow base e size v n xs := by
  obtain ⟨h1, h2⟩ := h
  refine ⟨h1, ?_⟩
  rcases h2 with h2 | ⟨g, cap, cur, rfl, hg, hh, r⟩
  · exact .inl h2
  · exact .inr ⟨g, cap, cur, rfl, hg, (hm g (by simp [Value.ownBlock])).trans hh, r⟩
theorem own_typed {w : World} {base : Nat} {e : TypeId} {size n : Nat} {v : Value} {xs : List Value} (h : w.ownsRow base e size v n xs) (k : Nat) (hk : v.ownBlock = some k) : ∃ cells, w.heap[k]? = some (.cells cells e (0, 0)) := by
  rcases h.2 with ⟨rfl, _⟩ | ⟨g, cap, cur, rfl, hg, hh, r⟩
  · simp [Value.ownBlock] at hk
  · have : g = k := by simpa [Value.ownBlock] using hk
    subst this
    exact ⟨cur, hh⟩
namespace Kd
/-- A row of elements that is read. -/
def C {α : Type} (d : Kd α) (w : World) (A : Option Addr) (n : Nat) (xs : List α) : Prop := ReadsRow (d.K w) d.sz w A n xs
/-- A row of elements (type e) of the call's own; the elements' rows are not this one. -/
def R {α : Type} (d : Kd α) (e : Nat) (w : World) (base : Nat) (ok : Nat → Prop) (v : Value) (xs : List α) : Prop :=
  (∀ k, v.ownBlock = some k → ok k) ∧ OwnRow (d.M w base (fun k => ok k ∧ some k ≠ v.ownBlock)) e d.sz w base v xs
section
variable {α : Type} {d : Kd α} {e : Nat} {w w1 : World} {base : Nat} {ok ok' : Nat → Prop} {v : Value} {xs : List α}
theorem C_below {A : Option Addr} {n : Nat} (h : d.C w A n xs) (hb : Below w.heap.size w w1) : d.C w1 A n xs := ReadsRow.imp_ h hb (fun _ _ hp => d.K_below hb hp)
theorem R_mono (h : d.R e w base ok v xs) (hok : ∀ k, ok k → ok' k) : d.R e w base ok' v xs := ⟨fun k hk => hok k (h.1 k hk), h.2.imp_ (fun _ _ hp => d.M_mono (fun k hk => ⟨hok k hk.1, hk.2⟩) hp)⟩
theorem R_bound (h : d.R e w base ok v xs) : d.R e w base (fun k => ok k ∧ base ≤ k ∧ k < w.heap.size ∧ ∃ q, q ∈ e :: d.E ∧ ∃ cells, w.heap[k]? = some (.cells cells q (0, 0))) v xs := by
  obtain ⟨h0, inner, ho, hr⟩ := h
  refine ⟨fun k hk => ?_, inner, ho, hr.imp_ (fun _ _ hp => d.M_mono (fun k hk => ?_) (d.M_bound hp))⟩
  · obtain ⟨cells, hc⟩ := own_typed ho k hk
    exact ⟨h0 k hk, own_base ho k hk, own_lt ho k hk, e, List.mem_cons_self, cells, hc⟩
  · obtain ⟨⟨h1, h2⟩, h3, h4, q, hq, hc⟩ := hk
    exact ⟨⟨h1, h3, h4, q, List.mem_cons_of_mem _ hq, hc⟩, h2⟩
theorem R_move (h : d.R e w base ok v xs) (hm : ∀ k, ok k → w1.heap[k]? = w.heap[k]?) : d.R e w1 base ok v xs := by
  obtain ⟨h0, inner, ho, hr⟩ := h
  exact ⟨h0, inner, own_move ho (fun k hk => hm k (h0 k hk)), hr.imp_ (fun _ _ hp => d.M_move (fun k hk => hm k hk.1) hp)⟩
theorem R_lower {base' : Nat} (h : d.R e w base ok v xs) (hb : base' ≤ base) : d.R e w base' ok v xs := by
  obtain ⟨h0, inner, ho, hr⟩ := h
  exact ⟨h0, inner, own_weaken ho hb, hr.imp_ (fun _ _ hp => d.M_lower hb hp)⟩
theorem R_reads (h : d.R e w base ok v xs) : ∃ A c, v = .slice A xs.length c ∧ xs.length ≤ c ∧ d.C w A xs.length xs := by
  obtain ⟨A, c, he, hl, hr⟩ := OwnRow.reads h.2
  exact ⟨A, c, he, hl, hr.imp_ (Below.refl _ _) (fun _ _ hp => d.K_of_M hp)⟩
end
def scalar {α : Type} (enc : α → Value) (h1 : ∀ x, (enc x).oneCell' = true) : Kd α where
  sz := 1
  E := []
  K := fun _ x cs => cs = [enc x]
  M := fun _ _ _ x cs => cs = [enc x]
  K_len := fun h => by rw [h]; rfl
  K_one := fun h u hu => by
    rw [h] at hu
    rw [List.mem_singleton.1 hu]
    exact h1 _
  K_below := fun _ h => h
  K_of_M := fun h => h
  M_mono := fun _ h => h
  M_bound := fun h => h
  M_move := fun _ h => h
  M_lower := fun _ h => h
def int (k : IntKind) : Kd Int := scalar (Value.int k) (fun _ => rfl)
def bool : Kd Bool := scalar Value.bool (fun _ => rfl)
def string : Kd ByteArray := scalar Value.string (fun _ => rfl)
def slice {α : Type} (e : Nat) (d : Kd α) : Kd (List α) where
  sz := 1
  E := e :: d.E
  K := fun w xs cs => ∃ A c, cs = [.slice A xs.length c] ∧ xs.length ≤ c ∧ d.C w A xs.length xs
  M := fun w base ok xs cs => ∃ v, cs = [v] ∧ d.R e w base ok v xs
  K_len := by
    rintro w x cs ⟨A, c, rfl, _⟩
    rfl
  K_one := by
    rintro w x cs ⟨A, c, rfl, _⟩ u hu
    rw [List.mem_singleton.1 hu]
    rfl
  K_below := by
    rintro w w1 x cs hb ⟨A, c, rfl, hl, hr⟩
    exact ⟨A, c, rfl, hl, C_below hr hb⟩
  K_of_M := by
    rintro w base ok x cs ⟨v, rfl, h⟩
    obtain ⟨A, c, rfl, hl, hr⟩ := R_reads h
    exact ⟨A, c, rfl, hl, hr⟩
  M_mono := by
    rintro w base ok ok' x cs hok ⟨v, rfl, h⟩
    exact ⟨v, rfl, R_mono h hok⟩
  M_bound := by
    rintro w base ok x cs ⟨v, rfl, h⟩
    exact ⟨v, rfl, R_bound h⟩
  M_move := by
    rintro w w1 base ok x cs hm ⟨v, rfl, h⟩
    exact ⟨v, rfl, R_move h hm⟩
  M_lower := by
    rintro w base base' ok x cs hb ⟨v, rfl, h⟩
    exact ⟨v, rfl, R_lower h hb⟩
/-- Two in line. -/
def pair {α β : Type} (a : Kd α) (b : Kd β) : Kd (α × β) where
  sz := a.sz + b.sz
  E := a.E ++ b.E
  K := fun w x cs => ∃ c0 c1, cs = c0 ++ c1 ∧ a.K w x.1 c0 ∧ b.K w x.2 c1
  M := fun w base ok x cs => ∃ c0 c1, cs = c0 ++ c1 ∧ a.M w base ok x.1 c0 ∧ b.M w base ok x.2 c1
  K_len := by
    rintro w x cs ⟨c0, c1, rfl, h0, h1⟩
    rw [List.length_append, a.K_len h0, b.K_len h1]
  K_one := by
    rintro w x cs ⟨c0, c1, rfl, h0, h1⟩ u hu
    rcases List.mem_append.1 hu with hu | hu
    · exact a.K_one h0 u hu
    · exact b.K_one h1 u hu
  K_below := by
    rintro w w1 x cs hb ⟨c0, c1, rfl, h0, h1⟩
    exact ⟨c0, c1, rfl, a.K_below hb h0, b.K_below hb h1⟩
  K_of_M := by
    rintro w base ok x cs ⟨c0, c1, rfl, h0, h1⟩
    exact ⟨c0, c1, rfl, a.K_of_M h0, b.K_of_M h1⟩
  M_mono := by
    rintro w base ok ok' x cs hok ⟨c0, c1, rfl, h0, h1⟩
    exact ⟨c0, c1, rfl, a.M_mono hok h0, b.M_mono hok h1⟩
  M_bound := by
    rintro w base ok x cs ⟨c0, c1, rfl, h0, h1⟩
    refine ⟨c0, c1, rfl, a.M_mono ?_ (a.M_bound h0), b.M_mono ?_ (b.M_bound h1)⟩
    · rintro k ⟨h2, h3, h4, q, hq, hc⟩
      exact ⟨h2, h3, h4, q, List.mem_append_left _ hq, hc⟩
    · rintro k ⟨h2, h3, h4, q, hq, hc⟩
      exact ⟨h2, h3, h4, q, List.mem_append_right _ hq, hc⟩
  M_move := by
    rintro w w1 base ok x cs hm ⟨c0, c1, rfl, h0, h1⟩
    exact ⟨c0, c1, rfl, a.M_move hm h0, b.M_move hm h1⟩
  M_lower := by
    rintro w base base' ok x cs hb ⟨c0, c1, rfl, h0, h1⟩
    exact ⟨c0, c1, rfl, a.M_lower hb h0, b.M_lower hb h1⟩
/-- A Lean structure by its fields. -/
def iso {α β : Type} (d : Kd α) (f : β → α) : Kd β where
  sz := d.sz
  E := d.E
  K := fun w x cs => d.K w (f x) cs
  M := fun w base ok x cs => d.M w base ok (f x) cs
  K_len := d.K_len
  K_one := d.K_one
  K_below := d.K_below
  K_of_M := d.K_of_M
  M_mono := d.M_mono
  M_bound := d.M_bound
  M_move := d.M_move
  M_lower := d.M_lower
/-- Nothing is of this kind: where the nesting's depth is used up. -/
def bot {α : Type} (sz : Nat) (E : List Nat) : Kd α where
  sz := sz
  E := E
  K := fun _ _ _ => False
  M := fun _ _ _ _ _ => False
  K_len := fun h => h.elim
  K_one := fun h => h.elim
  K_below := fun _ h => h
  K_of_M := fun h => h
  M_mono := fun _ h => h
  M_bound := fun h => h
  M_move := fun _ h => h
  M_lower := fun _ h => h
/-- A type nested in itself: nested at most n deep .. -/
def upto {α : Type} (F : Kd α → Kd α) (sz : Nat) (E : List Nat) : Nat → Kd α
  | 0 => bot sz E
  | n + 1 => F (upto F sz E n)
/-- .. for some n. -/
def fix {α : Type} (F : Kd α → Kd α) (sz : Nat) (E : List Nat) (hs : ∀ n, (upto F sz E n).sz = sz) (hE : ∀ n q, q ∈ (upto F sz E n).E → q ∈ E) : Kd α where
  sz := sz
  E := E
  K := fun w x cs => ∃ n, (upto F sz E n).K w x cs
  M := fun w base ok x cs => ∃ n, (upto F sz E n).M w base ok x cs
  K_len := by
    rintro w x cs ⟨n, h⟩
    rw [(upto F sz E n).K_len h, hs n]
  K_one := by
    rintro w x cs ⟨n, h⟩
    exact (upto F sz E n).K_one h
  K_below := by
    rintro w w1 x cs hb ⟨n, h⟩
    exact ⟨n, (upto F sz E n).K_below hb h⟩
  K_of_M := by
    rintro w base ok x cs ⟨n, h⟩
    exact ⟨n, (upto F sz E n).K_of_M h⟩
  M_mono := by
    rintro w base ok ok' x cs hok ⟨n, h⟩
    exact ⟨n, (upto F sz E n).M_mono hok h⟩
  M_bound := by
    rintro w base ok x cs ⟨n, h⟩
    refine ⟨n, (upto F sz E n).M_mono ?_ ((upto F sz E n).M_bound h)⟩
    rintro k ⟨h2, h3, h4, q, hq, hc⟩
    exact ⟨h2, h3, h4, q, hE n q hq, hc⟩
  M_move := by
    rintro w w1 base ok x cs hm ⟨n, h⟩
    exact ⟨n, (upto F sz E n).M_move hm h⟩
  M_lower := by
    rintro w base base' ok x cs hb ⟨n, h⟩
    exact ⟨n, (upto F sz E n).M_lower hb h⟩
section
variable {P : Program} {ops : Array Oper} {rest : List Oper} {o : Oper} {a : Act} {Q : Exit → Act → World → Prop} {α : Type}
end
section
variable {P : Program} {ops : Array Oper} {o : Oper} {a : Act} {Q : Exit → Act → World → Prop} {Kc : Act → World → Prop} {α : Type}
end
end Kd
namespace Kd
/-- F says the more, the more its argument says. -/
structure Mono {α β : Type} (F : Kd α → Kd β) : Prop where
  sz : ∀ d d' : Kd α, d.sz = d'.sz → (F d).sz = (F d').sz
  K : ∀ d d' : Kd α, d.sz = d'.sz → (∀ w x cs, d.K w x cs → d'.K w x cs) → ∀ w x cs, (F d).K w x cs → (F d').K w x cs
  M : ∀ d d' : Kd α, d.sz = d'.sz → (∀ w base ok x cs, d.M w base ok x cs → d'.M w base ok x cs) → ∀ w base ok x cs, (F d).M w base ok x cs → (F d').M w base ok x cs
section
variable {α : Type} {F : Kd α → Kd α} {sz : Nat} {E : List Nat} {hs : ∀ n, (upto F sz E n).sz = sz} {hE : ∀ n q, q ∈ (upto F sz E n).E → q ∈ E}
end
end Kd
namespace Kd
end Kd
namespace Kd
section
variable {α β : Type} {d : Kd α} {d' : Kd β} {e e' : Nat} {w w1 W : World} {base b b' : Nat} {ok ok' okv oku : Nat → Prop} {v u : Value} {xs : List α} {ys : List β}
theorem C_nil (d : Kd α) (w : World) : d.C w none ([] : List α).length [] := ⟨rfl, by simp, fun h => absurd h (Nat.lt_irrefl 0)⟩
end
section
variable {w W : World} {A : Option Addr} {n : Nat}
variable {α : Type} {enc : α → Value} {h1 : ∀ x, (enc x).oneCell' = true} {e base g cap : Nat} {ok : Nat → Prop} {xs : List α}
end
section
variable {P : Program} {ops : Array Oper} {rest : List Oper} {o : Oper} {a : Act} {Q : Exit → Act → World → Prop}
variable {α : Type}
end
end Kd
section
variable {P : Program}
end
/-- A row of one's own that may begin inside its block. -/
def QRow (w : World) (base : Nat) (e : TypeId) (size : Nat) (v : Value) (n : Nat) (xs : List Value) : Prop :=
  xs.length = n * size ∧
  ((n = 0 ∧ ∃ A, v = .slice A 0 0 ∧ ∀ a, A = some a → base ≤ a.block ∧ ∃ cur, w.heap[a.block]? = some (.cells cur e (0, 0))) ∨
   ∃ g off cap cur, v = .slice (some ⟨g, off * size, none⟩) n cap ∧ base ≤ g ∧ w.heap[g]? = some (.cells cur e (0, 0)) ∧ n ≤ cap ∧ off + cap ≤ maxLen ∧ cur.size = (off + cap) * size ∧ (cur.toList.drop (off * size)).take (n * size) = xs)
section
variable {w w1 : World} {base n size : Nat} {e : TypeId} {v : Value} {xs : List Value}
end
section
variable {P : Program}
end
namespace Kd
def Q {α : Type} (d : Kd α) (e : Nat) (w : World) (base : Nat) (ok : Nat → Prop) (v : Value) (xs : List α) : Prop :=
  (∀ k, v.ownBlock = some k → ok k) ∧ ∃ inner, QRow w base e d.sz v xs.length inner ∧ Reps (d.M w base (fun k => ok k ∧ some k ≠ v.ownBlock)) d.sz xs inner
section
variable {α : Type} {d : Kd α} {e : Nat} {w w1 W : World} {base : Nat} {ok ok' : Nat → Prop} {v : Value} {xs : List α}
end
section
variable {P : Program} {ops : Array Oper} {rest : List Oper} {o : Oper} {a : Act} {Q' : Exit → Act → World → Prop} {Kc : Act → World → Prop} {α : Type}
end
end Kd
namespace Kd
section
variable {α : Type} {d : Kd α} {e e' : Nat} {w w1 W : World} {base : Nat} {ok : Nat → Prop} {u v : Value} {xs : List α}
end
end Kd
namespace Kd
section
variable {α : Type} {d : Kd α} {e base g n cap : Nat} {ok okp : Nat → Prop} {W : World} {xs : List α}
end
end Kd
namespace Kd
section
variable {α : Type} {F : Kd α → Kd α} {sz : Nat} {E : List Nat} {hs : ∀ n, (upto F sz E n).sz = sz} {hE : ∀ n q, q ∈ (upto F sz E n).E → q ∈ E}
end
end Kd
namespace Kd
section
variable {P : Program} {ops : Array Oper} {rest : List Oper} {o : Oper} {a : Act} {Q : Exit → Act → World → Prop} {α : Type}
end
end Kd
namespace Kd
section
variable {P : Program} {ops : Array Oper} {rest : List Oper} {o : Oper} {a : Act} {Q : Exit → Act → World → Prop} {α : Type}
end
end Kd
namespace Kd
section
variable {α : Type} {k : Kd α} {w : World} {A : Option Addr} {xs : List α} {m c : Nat}
end
end Kd
section
variable {P : Program}
end
theorem ReadsInt.nil (W : World) (k : IntKind) : ReadsInt W k none ([] : List Int).length [] := ⟨rfl, by simp, fun h => absurd h (Nat.lt_irrefl 0)⟩
theorem ReadsInt.drewN {W : World} {k : IntKind} {A : Option Addr} {n : Nat} {xs : List Int} (h : ReadsInt W k A n xs) (m : Nat) : ReadsInt (W.drewN m) k A n xs := h
theorem keep_cell {w W : World} {g : Nat} (h : KeepBut w W g none) {a : Addr} {v : Value} (hc : w.cell? a = some v) (hne : a.block ≠ g) : W.cell? a = some v := by
  have := h.2 a.block (World.block_lt_of_cell? w a hc) hne (by simp)
  simpa [World.cell?, this] using hc
theorem add_block (a : Addr) (i : Nat) : (a.add i).block = a.block := by unfold Addr.add; split <;> rfl
theorem ReadsOf.nil {α : Type} (enc : α → Value) (d : α) (W : World) : ReadsOf enc d W none ([] : List α).length [] := ⟨rfl, by simp, fun h => absurd h (Nat.lt_irrefl 0)⟩
theorem ReadsOf.drewN {α : Type} {enc : α → Value} {d : α} {W : World} {A : Option Addr} {n : Nat} {xs : List α} (h : ReadsOf enc d W A n xs) (m : Nat) : ReadsOf enc d (W.drewN m) A n xs := h
theorem ReadsInt.keep {w W : World} {k : IntKind} {A : Option Addr} {n g : Nat} {xs : List Int} (h : ReadsInt w k A n xs) (hk : KeepBut w W g none) (hf : ∀ ad, A = some ad → 0 < n → ad.block ≠ g) : ReadsInt W k A n xs :=
  ⟨h.1, h.2.1, fun hn => by
    obtain ⟨ad, e, hc⟩ := h.2.2 hn
    exact ⟨ad, e, fun j hj => keep_cell hk (hc j hj) (by rw [add_block]; exact hf ad e hn)⟩⟩
theorem ReadsOf.keep {α : Type} {enc : α → Value} {d : α} {w W : World} {A : Option Addr} {n g : Nat} {xs : List α} (h : ReadsOf enc d w A n xs) (hk : KeepBut w W g none) (hf : ∀ ad, A = some ad → 0 < n → ad.block ≠ g) : ReadsOf enc d W A n xs :=
  ⟨h.1, h.2.1, fun hn => by
    obtain ⟨ad, e, hc⟩ := h.2.2 hn
    exact ⟨ad, e, fun j hj => keep_cell hk (hc j hj) (by rw [add_block]; exact hf ad e hn)⟩⟩
namespace Kd
section
variable {α β : Type} {d : Kd α} {d' : Kd β} {e e' base base' n : Nat} {ok ok' : Nat → Prop} {w W w1 W1 : World} {v u : Value} {xs : List α} {ys : List β} {A : Option Addr} {c : Nat}
end
section
variable {α : Type} {enc : α → Value} {h1 : ∀ x, (enc x).oneCell' = true} {w W : World} {A : Option Addr} {n g : Nat} {xs : List α}
end
end Kd
namespace Kd
section
variable {α : Type} {d : Kd α} {e base g : Nat} {ok : Nat → Prop} {w w1 : World} {v : Value} {xs : List α} {o : Obj}
end
end Kd
section
variable {P : Program} {ops : Array Oper} {rest : List Oper} {o : Oper} {a : Act} {Q : Exit → Act → World → Prop}
end
namespace Kd
section
variable {α : Type} {enc : α → Value} {h1 : ∀ x, (enc x).oneCell' = true} {e base g n cap : Nat} {ok : Nat → Prop} {W : World} {xs : List α}
end
end Kd
section
variable {P : Program} {ops : Array Oper} {rest : List Oper} {o : Oper} {a : Act} {Q : Exit → Act → World → Prop}
end
namespace Kd
section
variable {α : Type} {enc : α → Value} {h1 : ∀ x, (enc x).oneCell' = true} {e base g n cap : Nat} {ok : Nat → Prop} {W : World} {xs : List α}
end
end Kd
section
variable {P : Program} {ops : Array Oper} {rest : List Oper} {o : Oper} {a : Act} {Q : Exit → Act → World → Prop} {W : World}
end
section
variable {P : Program} {ops : Array Oper} {o : Oper} {a : Act} {Q : Exit → Act → World → Prop} {Kc : Act → World → Prop}
namespace Kd
variable {α : Type}
end Kd
end
inductive Vals (P : Program) (tmps : Array Value) (w : World) : List ResultVar → List Value → Prop where
  | nil : Vals P tmps w [] []
  | tmp {u : Tmp} {rs : List ResultVar} {vs : List Value} (h : Vals P tmps w rs vs) : Vals P tmps w (.tmp u :: rs) (tmps.getD u undef :: vs)
  | cell {p : Tmp} {ty : TypeId} {rs : List ResultVar} {vs : List Value} (g : Nat) (t : TypeId) (cs : Array Value) (fr : Nat × Nat) (d : TypeDesc)
      (hp : tmps.getD p undef = .pointer (some ⟨g, 0, none⟩)) (hg : w.heap[g]? = some (.cells cs t fr))
      (hu : P.underlying ty = some d) (hd : (match d with | .struct _ | .array _ _ => true | _ => false) = true) (hi : (P.info? ty).map (·.size) = some cs.size)
      (h : Vals P tmps w rs vs) : Vals P tmps w (.cell p ty :: rs) (.agg cs :: vs)
section
variable {P : Program} {tmps : Array Value} {w : World}
end
namespace Kd
section
variable {P : Program} {α : Type}
end
section
variable {P : Program} {ops : Array Oper} {rest : List Oper} {o : Oper} {a : Act} {Q : Exit → Act → World → Prop} {Kc : Act → World → Prop} {α : Type}
end
end Kd
end Go.Proofs.YtpibjdkenifggaaW.PrintWords
end
section
namespace Go.Proofs.Ytpibjdkenifggaa.H
open Go.RowKit Go.MapKept Go.Proofs.YtpibjdkenifggaaW.PrintWords
set_option linter.unusedVariables false
set_option linter.unusedSimpArgs false
variable {P : Program}
def m0 (w : World) : M :=
  { w0 := w, fix := ⟨fun k => k < w.heap.size, fun k => k < w.heap.size, fun _ h => h⟩, com := fun b o => match w.cell? ⟨b, o, none⟩ with | some v => if v.oneCell' then some v else none | none => none, loc := fun _ => none, res := fun _ => false }
theorem m0_com {w : World} {b o : Nat} {v : Value} : (m0 w).com b o = some v ↔ w.cell? ⟨b, o, none⟩ = some v ∧ v.oneCell' = true := by
  show (match w.cell? ⟨b, o, none⟩ with | some v => if v.oneCell' then some v else none | none => none) = some v ↔ _
  cases h : w.cell? ⟨b, o, none⟩ with
  | none => simp
  | some u =>
    simp only
    split
    · rename_i h1; simp only [Option.some.injEq]; constructor
      · rintro rfl; exact ⟨rfl, h1⟩
      · exact fun h => h.1
    · rename_i h1; simp only [Option.some.injEq, false_iff, not_and, reduceCtorEq]; rintro rfl; exact h1
def s0 : HS := fun _ => none
theorem rel0 (w : World) : Rel (m0 w) s0 w :=
  ⟨⟨rfl, rfl, rfl, fun k h => ⟨h, rfl⟩⟩, fun b o v h => (m0_com.1 h).1, (fun id ob l h => by cases h), (fun id ob l h => by cases h), (fun id id' ob ob' l l' h => by cases h), 0, fun id _ => ⟨rfl, rfl, rfl⟩⟩
/-- A kind's cells, as H values. -/
structure Br {α : Type} (d : Kd α) (enc : α → List HV) : Prop where
  pos : 0 < d.sz
  len : ∀ x, (enc x).length = d.sz
  rep : ∀ w x cs, d.K w x cs → Reps (m0 w) (enc x) cs
theorem reps1 {m : M} {x : HV} {v : Value} (h : Rep m x v) (ho : hone x = true) : Reps m [x] [v] :=
  ⟨fun z hz => by simp at hz; subst hz; exact ho, rfl, fun j z hj => by cases j with | zero => simp at hj; subst hj; exact h | succ j => simp at hj⟩
theorem Br.int (k : IntKind) : Br (Kd.int k) (fun n => [.lit (.int k n)]) := ⟨Nat.one_pos, fun _ => rfl, fun w x cs h => by rw [show cs = [.int k x] from h]; exact reps1 (.lit _) rfl⟩
theorem Br.bool : Br Kd.bool (fun b => [.lit (.bool b)]) := ⟨Nat.one_pos, fun _ => rfl, fun w x cs h => by rw [show cs = [.bool x] from h]; exact reps1 (.lit _) rfl⟩
theorem Br.string : Br Kd.string (fun b => [.lit (.string b)]) := ⟨Nat.one_pos, fun _ => rfl, fun w x cs h => by rw [show cs = [.string x] from h]; exact reps1 (.lit _) rfl⟩
theorem Br.pair {α β : Type} {a : Kd α} {b : Kd β} {ea : α → List HV} {eb : β → List HV} (ha : Br a ea) (hb : Br b eb) : Br (Kd.pair a b) (fun x => ea x.1 ++ eb x.2) :=
  ⟨Nat.lt_of_lt_of_le ha.pos (Nat.le_add_right _ _), fun x => by rw [List.length_append, ha.len, hb.len]; rfl, fun w x cs h => by
    obtain ⟨c0, c1, rfl, h0, h1⟩ := h
    exact (ha.rep w _ _ h0).append (hb.rep w _ _ h1)⟩
theorem Br.iso {α β : Type} {d : Kd α} {e : α → List HV} (h : Br d e) (f : β → α) : Br (Kd.iso d f) (fun x => e (f x)) := ⟨h.pos, fun x => h.len _, fun w x cs hk => h.rep w _ _ hk⟩
theorem flat_at {α : Type} {enc : α → List HV} {sz : Nat} (hlen : ∀ x, (enc x).length = sz) (hpos : 0 < sz) : ∀ (xs : List α) (j : Nat), (xs.flatMap enc)[j]? = (xs[j / sz]?).bind fun x => (enc x)[j % sz]?
  | [], j => by simp
  | x :: xs, j => by
    rw [List.flatMap_cons]
    by_cases h : j < sz
    · rw [List.getElem?_append_left (by rw [hlen]; exact h), Nat.div_eq_of_lt h, Nat.mod_eq_of_lt h]; simp
    · rw [List.getElem?_append_right (by rw [hlen]; omega), hlen, flat_at hlen hpos xs]
      have h1 : j / sz = (j - sz) / sz + 1 := by rw [Nat.div_eq_sub_div hpos (by omega)]
      have h2 : j % sz = (j - sz) % sz := Nat.mod_eq_sub_mod (by omega)
      rw [h1, h2]; simp
theorem flat_len {α : Type} {enc : α → List HV} {sz : Nat} (hlen : ∀ x, (enc x).length = sz) : ∀ xs : List α, (xs.flatMap enc).length = xs.length * sz
  | [] => by simp
  | x :: xs => by rw [List.flatMap_cons, List.length_append, hlen, flat_len hlen xs, List.length_cons, Nat.add_mul]; omega
theorem Br.row {α : Type} {d : Kd α} {enc : α → List HV} (h : Br d enc) {w : World} {A : Option Addr} {n c : Nat} {xs : List α} (hr : d.C w A n xs) (hc : n ≤ c) : Rep (m0 w) (.list d.sz n (xs.flatMap enc) false) (.slice A n c) := by
  obtain ⟨h1, h2, h3⟩ := hr
  rcases Nat.eq_zero_or_pos n with hn | hn
  · subst hn
    have : xs = [] := List.eq_nil_of_length_eq_zero h1
    subst this
    exact .list0 _ _ _ _ (fun h => by cases h)
  · obtain ⟨ad, rfl, hx⟩ := h3 hn
    have hlenF := flat_len h.len xs
    rw [h1] at hlenF
    -- each cell
    have key : ∀ j, j < n * d.sz → ∃ v y, w.cell? (ad.add j) = some v ∧ v.oneCell' = true ∧ (xs.flatMap enc)[j]? = some y ∧ Rep (m0 w) y v ∧ hone y = true := by
      intro j hj
      have hq : j / d.sz < xs.length := by rw [h1]; exact Nat.div_lt_of_lt_mul (by rw [Nat.mul_comm]; exact hj)
      have hxq : xs[j / d.sz]? = some xs[j / d.sz] := by simp [hq]
      obtain ⟨cs, hl, hk, hcell⟩ := hx _ _ hxq
      have hrp := h.rep w _ _ hk
      have hm : j % d.sz < cs.length := by rw [hl]; exact Nat.mod_lt _ h.pos
      have hcj : cs[j % d.sz]? = some cs[j % d.sz] := by simp [hm]
      have hm2 : j % d.sz < (enc xs[j / d.sz]).length := by rw [h.len]; exact Nat.mod_lt _ h.pos
      have hy : (enc xs[j / d.sz])[j % d.sz]? = some (enc xs[j / d.sz])[j % d.sz] := by simp [hm2]
      refine ⟨cs[j % d.sz], (enc xs[j / d.sz])[j % d.sz], ?_, d.K_one hk _ (List.getElem_mem hm), ?_, ?_, hrp.1 _ (List.getElem_mem hm2)⟩
      · have := hcell _ _ hcj
        rwa [Nat.div_add_mod' j d.sz] at this
      · rw [flat_at h.len h.pos, hxq]; exact hy
      · have := hrp.2.2 _ _ hy
        rwa [show cs.getD (j % d.sz) undef = cs[j % d.sz] from by simp [List.getD, hm]] at this
    have hspot : ad.spot = none := by
      obtain ⟨v, y, hv, -⟩ := key 0 (Nat.mul_pos hn h.pos)
      have e : ad.add 0 = ad := by unfold Addr.add; rfl
      rw [e] at hv
      unfold World.cell? at hv
      split at hv
      · split at hv
        · cases hv
        · rename_i hs; simpa using hs
      · cases hv
    obtain ⟨b, o, sp⟩ := ad
    simp only at hspot; subst hspot
    refine .list d.sz n _ false c b o (fun j => (w.cell? ⟨b, o + j, none⟩).getD undef) hc (fun h => by cases h) hlenF (fun x hx => ?_) (fun j hj => ?_) (fun j x hj => ?_)
    · obtain ⟨j, hj⟩ := List.getElem?_of_mem hx
      have hlt := (List.getElem?_eq_some_iff.1 hj).1
      obtain ⟨v, y, g1, g2, g3, g4, g5⟩ := key j (by omega)
      rw [g3] at hj; cases hj; exact g5
    · obtain ⟨v, y, g1, g2, g3, g4, g5⟩ := key j (by omega)
      rw [add_loc] at g1
      rw [g1]; exact m0_com.2 ⟨g1, g2⟩
    · have hlt := (List.getElem?_eq_some_iff.1 hj).1
      obtain ⟨v, y, g1, g2, g3, g4, g5⟩ := key j (by omega)
      rw [add_loc] at g1
      rw [g1]; rw [g3] at hj; cases hj; exact g4
theorem Br.slice {α : Type} (e : Nat) {d : Kd α} {enc : α → List HV} (h : Br d enc) : Br (Kd.slice e d) (fun xs => [.list d.sz xs.length (xs.flatMap enc) false]) :=
  ⟨Nat.one_pos, fun _ => rfl, fun w xs cs hk => by
    obtain ⟨A, c, rfl, hc, hr⟩ := hk
    exact reps1 (h.row hr hc) rfl⟩
/-- From the H layer to the law. -/
theorem law_of {f : FuncId} {args : List HV} {cargs : Array Value} {w : World} (h : HC P f args s0 fun v _ => v = .lit (.bool true)) (hn : cargs.size = args.length) (ha : ∀ (j : Nat) x, args[j]? = some x → Rep (m0 w) x (cargs.getD j undef)) :
    Calls P f cargs w fun e w' => e = .returned (.bool true) ∧ Below w.heap.size w w' := by
  refine (h (m0 w) w cargs (rel0 w) hn ha).mono ?_
  rintro e w' ⟨cv, v, s', m', rfl, h1, h2, h3, rfl⟩
  cases h3
  refine ⟨rfl, ?_⟩
  have hb := h2.below
  have hf := h1.fix
  have hkey : ∀ k, k < w.heap.size → k < w'.heap.size ∧ w'.heap[k]? = w.heap[k]? := fun k hk => ⟨(hb.block k (hf k hk).1).1, (hb.block k (hf k hk).1).2.trans (hf k hk).2⟩
  refine ⟨hb.os.trans h1.env.1, hb.tape.trans h1.env.2.1, hb.output.trans h1.env.2.2, ?_, fun k hk => (hkey k hk).2⟩
  rcases Nat.eq_zero_or_pos w.heap.size with h0 | h0
  · omega
  · have := (hkey (w.heap.size - 1) (by omega)).1
    omega
end Go.Proofs.Ytpibjdkenifggaa.H
end
section
namespace Go.Proofs.YtpibjdkenifggaaW.PrintLast
section
variable {P : Program} {ops : Array Oper} {Q : Exit → Act → World → Prop} {md : Region.Mode} {S : World → Prop} {ds : List Nat}
def ListedClosed (md : Region.Mode) (ops : Array Oper) (listed : Array Bool) : Prop :=
  ∀ j oj, ops[j]? = some oj → listed.getD j false = true → ∀ e ∈ oj.after, Region.binds md e = true → listed.getD e.on false = true
theorem ListedClosed.set {listed : Array Bool} {i : Nat} (h : ListedClosed md ops listed) (hi : i ∈ Region.ready md ops listed) : ListedClosed md ops (listed.setIfInBounds i true) := by
  obtain ⟨_, oi, hoi, hall⟩ := mem_ready.1 hi
  intro j oj hj hl e he hb
  by_cases hij : i = j
  · subst hij
    have : oj = oi := Option.some.inj (hj.symm.trans hoi)
    subst this
    exact getD_set_true (hall e he hb)
  · rw [getD_set_ne false hij] at hl
    exact getD_set_true (h j oj hj hl e he hb)
/-- Whatever order is picked from here on, AND 'S' HOLDS BEHIND EVERY OPERATION THAT IS CARRIED OUT, those of ds apart. -/
def wpAnyLast (P : Program) (md : Region.Mode) (ops : Array Oper) (Q : Exit → Act → World → Prop) (S : World → Prop) (ds : List Nat) : Nat → Array Bool → Act → World → Prop
  | 0, listed, a, w => Region.ready md ops listed = [] ∧ Q .normal a w
  | fuel + 1, listed, a, w =>
    (Region.ready md ops listed = [] → Q .normal a w) ∧
    ∀ i ∈ Region.ready md ops listed, wpOp P ops Q i (fun a' w' => (i ∉ ds → S w → S w') ∧ wpAnyLast P md ops Q S ds fuel (listed.setIfInBounds i true) a' w') a w
end
section
variable {P : Program} {ops : Array Oper} {Q : Exit → Act → World → Prop} {md : Region.Mode} {S : World → Prop} {ds : List Nat}
def AllReadyL (P : Program) (md : Region.Mode) (ops : Array Oper) (Q : Exit → Act → World → Prop) (S : World → Prop) (ds : List Nat) (fuel : Nat) (listed : Array Bool) (a : Act) (w : World) (rs : List Nat) : Prop :=
  ∀ i ∈ rs, wpOp P ops Q i (fun a' w' => (i ∉ ds → S w → S w') ∧ wpAnyLast P md ops Q S ds fuel (listed.setIfInBounds i true) a' w') a w
theorem AllReadyL.nil {fuel : Nat} {listed : Array Bool} {a : Act} {w : World} : AllReadyL P md ops Q S ds fuel listed a w [] := fun _ h => by cases h
theorem AllReadyL.cons {fuel : Nat} {listed : Array Bool} {a : Act} {w : World} {i : Nat} {o : Oper} {rs : List Nat} (ho : ops[i]? = some o) (hd : i ∉ ds)
    (h : ∀ K' : Act → World → Prop, Shut (∀ a w, S w → (S w → wpAnyLast P md ops Q S ds fuel (listed.setIfInBounds i true) a w) → K' a w) → if Region.wanted o (yielded ops a.tmps) = true then Oper.wp P o a w K' Q else K' (a.put o.dst undef) w)
    (hs : AllReadyL P md ops Q S ds fuel listed a w rs) : AllReadyL P md ops Q S ds fuel listed a w (i :: rs) := fun j hj => by
  rcases List.mem_cons.1 hj with rfl | hj
  · exact wpOp_step ho (fun K' hK => h K' (fun a w hS hW => hK a w ⟨fun _ _ => hS, hW hS⟩))
  · exact hs j hj
end
end Go.Proofs.YtpibjdkenifggaaW.PrintLast
end
section
namespace Go.Proofs.YtpibjdkenifggaaW.PrintLast
end Go.Proofs.YtpibjdkenifggaaW.PrintLast
end
section
namespace Go.Proofs.YtpibjdkenifggaaW.PrintLast
end Go.Proofs.YtpibjdkenifggaaW.PrintLast
end
section
namespace Go.Proofs.YtpibjdkenifggaaW.PrintWords
end Go.Proofs.YtpibjdkenifggaaW.PrintWords
namespace Kd
end Kd
end
section
namespace Go.Proofs.YtpibjdkenifggaaW.PrintWords
open Go.RowKit
namespace Kd
/-- An element with its index: its blocks are those that f gives to it. -/
def tag {α : Type} (f : Nat → Nat) (d : Kd α) : Kd (α × Nat) where
  sz := d.sz
  E := d.E
  K := fun w x cs => d.K w x.1 cs
  M := fun w base ok x cs => d.M w base (fun k => ok k ∧ f k = x.2) x.1 cs
  K_len := fun h => d.K_len h
  K_one := fun h => d.K_one h
  K_below := fun hb h => d.K_below hb h
  K_of_M := fun h => d.K_of_M h
  M_mono := fun hok h => d.M_mono (fun k hk => ⟨hok k hk.1, hk.2⟩) h
  M_bound := fun h => d.M_mono (fun _ hk => ⟨⟨hk.1.1, hk.2⟩, hk.1.2⟩) (d.M_bound h)
  M_move := fun hm h => d.M_move (fun k hk => hm k hk.1) h
  M_lower := fun hb h => d.M_lower hb h
/-- The cells themselves. -/
def raw (sz : Nat) : Kd (List Value) where
  sz := sz
  E := []
  K := fun _ x cs => cs = x ∧ cs.length = sz ∧ ∀ u ∈ cs, u.oneCell' = true
  M := fun _ _ _ x cs => cs = x ∧ cs.length = sz ∧ ∀ u ∈ cs, u.oneCell' = true
  K_len := fun h => h.2.1
  K_one := fun h => h.2.2
  K_below := fun _ h => h
  K_of_M := fun h => h
  M_mono := fun _ h => h
  M_bound := fun h => h
  M_move := fun _ h => h
  M_lower := fun _ h => h
/-- A row of elements (type e) of the call's own, no two of which lead to one block. -/
def S {α : Type} (d : Kd α) (e : Nat) (w : World) (base : Nat) (ok : Nat → Prop) (v : Value) (xs : List α) : Prop := ∃ f, (tag f d).R e w base ok v xs.zipIdx
section
variable {α β : Type} {d : Kd α} {d' : Kd β} {e e' : Nat} {w w1 W : World} {base b : Nat} {ok ok' okv oku : Nat → Prop} {u v : Value} {xs : List α} {ys : List β}
end
section
variable {α β : Type} {d : Kd α} {d' : Kd β} {e e' g : Nat} {w w1 W : World} {base b : Nat} {ok ok' okv oku : Nat → Prop} {u v : Value} {xs : List α} {ys : List β}
end
section
variable {P : Program} {ops : Array Oper} {rest : List Oper} {o : Oper} {a : Act} {Q : Exit → Act → World → Prop} {Kc : Act → World → Prop} {α : Type}
end
/-- Element i is these cells; the others are d's. -/
def gap {α : Type} (f : Nat → Nat) (d : Kd α) (i : Nat) (c : List Value) : Kd (α × Nat) where
  sz := d.sz
  E := d.E
  K := fun w x cs => (x.2 = i → cs = c ∧ cs.length = d.sz ∧ ∀ u ∈ cs, u.oneCell' = true) ∧ (x.2 ≠ i → d.K w x.1 cs)
  M := fun w base ok x cs => (x.2 = i → cs = c ∧ cs.length = d.sz ∧ ∀ u ∈ cs, u.oneCell' = true) ∧ (x.2 ≠ i → d.M w base (fun k => ok k ∧ f k = x.2) x.1 cs)
  K_len := fun {w x cs} h => by
    by_cases hx : x.2 = i
    · exact (h.1 hx).2.1
    · exact d.K_len (h.2 hx)
  K_one := fun {w x cs} h => by
    by_cases hx : x.2 = i
    · exact (h.1 hx).2.2
    · exact d.K_one (h.2 hx)
  K_below := fun hb h => ⟨h.1, fun hx => d.K_below hb (h.2 hx)⟩
  K_of_M := fun h => ⟨h.1, fun hx => d.K_of_M (h.2 hx)⟩
  M_mono := fun hok h => ⟨h.1, fun hx => d.M_mono (fun k hk => ⟨hok k hk.1, hk.2⟩) (h.2 hx)⟩
  M_bound := fun h => ⟨h.1, fun hx => d.M_mono (fun _ hk => ⟨⟨hk.1.1, hk.2⟩, hk.1.2⟩) (d.M_bound (h.2 hx))⟩
  M_move := fun hm h => ⟨h.1, fun hx => d.M_move (fun k hk => hm k hk.1) (h.2 hx)⟩
  M_lower := fun hb h => ⟨h.1, fun hx => d.M_lower hb (h.2 hx)⟩
def H {α : Type} (d : Kd α) (e : Nat) (w : World) (base : Nat) (ok : Nat → Prop) (v : Value) (xs : List α) (i : Int) (oki : Nat → Prop) (c : List Value) : Prop :=
  (∀ k, oki k → ok k) ∧ ∃ f, (gap f d i.toNat c).R e w base (fun k => ok k ∧ ¬ oki k) v xs.zipIdx
section
variable {α β : Type} {d : Kd α} {e e' g n cap : Nat} {w w1 W : World} {base : Nat} {ok ok' oki okp : Nat → Prop} {u v : Value} {xs : List α} {i : Int} {c : List Value}
end
section
variable {P : Program} {ops : Array Oper} {rest : List Oper} {o : Oper} {a : Act} {Q : Exit → Act → World → Prop} {α : Type}
end
end Kd
end Go.Proofs.YtpibjdkenifggaaW.PrintWords
end
section
namespace Go.Proofs.YtpibjdkenifggaaW.PrintWords
end Go.Proofs.YtpibjdkenifggaaW.PrintWords
namespace Kd
end Kd
end
section
namespace Go.Proofs.YtpibjdkenifggaaW.PrintWords
end Go.Proofs.YtpibjdkenifggaaW.PrintWords
namespace Kd
end Kd
end
section
namespace Go.Proofs.YtpibjdkenifggaaW.PrintWords
open Go.RowKit
namespace Kd
/-- What a kind reads lies in the blocks: nothing else of the world is looked at. -/
structure Heap {α : Type} (d : Kd α) : Prop where
  K : ∀ {w w1 : World} {x : α} {cs : List Value}, (∀ k, k < w.heap.size → w1.heap[k]? = w.heap[k]?) → d.K w x cs → d.K w1 x cs
theorem cell_heap {w w1 : World} (hb : ∀ k, k < w.heap.size → w1.heap[k]? = w.heap[k]?) {a : Addr} {v : Value} (h : w.cell? a = some v) : w1.cell? a = some v := by
  have := hb a.block (World.block_lt_of_cell? w a h)
  simpa [World.cell?, this] using h
theorem Heap.C {α : Type} {d : Kd α} (hd : Heap d) {w w1 : World} {A : Option Addr} {n : Nat} {xs : List α} (hb : ∀ k, k < w.heap.size → w1.heap[k]? = w.heap[k]?) (h : d.C w A n xs) : d.C w1 A n xs :=
  ⟨h.1, h.2.1, fun hn => by
    obtain ⟨ad, e, hc⟩ := h.2.2 hn
    refine ⟨ad, e, fun j p hj => ?_⟩
    obtain ⟨c, hs, hr, hcell⟩ := hc j p hj
    exact ⟨c, hs, hd.K hb hr, fun i u hu => cell_heap hb (hcell i u hu)⟩⟩
section
variable {α : Type} {d : Kd α} {e base g n c : Nat} {ok : Nat → Prop} {w w0 W : World} {A : Option Addr} {xs : List α}
end
end Kd
end Go.Proofs.YtpibjdkenifggaaW.PrintWords
end
section
namespace Go.Proofs.YtpibjdkenifggaaW.PrintWords
open Go.RowKit
def Kept (w W : World) (S : Nat → Prop) : Prop := w.heap.size ≤ W.heap.size ∧ ∀ i, i < w.heap.size → ¬ S i → W.heap[i]? = w.heap[i]?
section
variable {w W W2 : World} {S S2 S' : Nat → Prop}
theorem Kept.refl (w : World) (S : Nat → Prop) : Kept w w S := ⟨Nat.le_refl _, fun _ _ _ => rfl⟩
theorem Kept.of_below (h : Below w.heap.size w W) (S : Nat → Prop) : Kept w W S := ⟨h.size, fun i hi _ => h.block i hi⟩
theorem Kept.mono (h : Kept w W S) (hs : ∀ k, S k → S' k) : Kept w W S' := ⟨h.1, fun i hi hn => h.2 i hi (fun hk => hn (hs i hk))⟩
theorem Kept.then_ (h : Kept w W S) (k : Kept W W2 S2) (hs : ∀ k, S2 k → S k ∨ w.heap.size ≤ k) : Kept w W2 S :=
  ⟨Nat.le_trans h.1 k.1, fun i hi hn => (k.2 i (Nat.lt_of_lt_of_le hi h.1) (fun h2 => (hs i h2).elim hn (fun h3 => by omega))).trans (h.2 i hi hn)⟩
theorem Kept.below (h : Kept w W S) (hb : Below W.heap.size W W2) : Kept w W2 S := h.then_ (Kept.of_below hb (fun _ => False)) (fun _ hk => hk.elim)
theorem Kept.alloc (h : Kept w W S) (o : Obj) : Kept w (W.alloc o) S := h.below (below_alloc (Below.refl _ _) o)
theorem Kept.drew (h : Kept w W S) : Kept w W.drew S := h
theorem Kept.drewN (h : Kept w W S) (m : Nat) : Kept w (W.drewN m) S := h
theorem Kept.setCell (h : Kept w W S) {p : Addr} (hp : S p.block ∨ w.heap.size ≤ p.block) (u : Value) : Kept w (W.setCell p u) S :=
  h.then_ (S2 := fun k => k = p.block) ⟨by simp [World.setCell], fun i _ hn => Below.heap_setCell W p u i hn⟩ (fun k hk => by rw [hk]; exact hp)
/-- Beside a state: what was written is new since. -/
theorem Kept.keep {g : Nat} (h : KeepBut w W g none) (k : Kept W W2 S2) (hs : ∀ k, S2 k → w.heap.size ≤ k) : KeepBut w W2 g none :=
  ⟨Nat.le_trans h.1 k.1, fun i hi hg hr => (k.2 i (Nat.lt_of_lt_of_le hi h.1) (fun h2 => by have := hs i h2; omega)).trans (h.2 i hi hg hr)⟩
end
namespace Kd
section
variable {α : Type} {d : Kd α} {e base n c : Nat} {ok oki S S2 : Nat → Prop} {w w0 W W1 W2 : World} {v : Value} {A : Option Addr} {xs : List α} {i : Int} {cs : List Value}
end
end Kd
end Go.Proofs.YtpibjdkenifggaaW.PrintWords
end
section
namespace Go.Proofs.YtpibjdkenifggaaW.PrintWords
open Go.RowKit
/-- P holds in W and in every world that has W's blocks of ok. -/
def Foot (P : World → Prop) (W : World) (ok : Nat → Prop) : Prop := ∀ W' : World, (∀ k, ok k → k < W.heap.size → W'.heap[k]? = W.heap[k]?) → P W'
theorem heap_lt {W W1 : World} {k : Nat} (h : W1.heap[k]? = W.heap[k]?) (hlt : k < W.heap.size) : k < W1.heap.size := by
  rw [Array.getElem?_eq_getElem hlt] at h
  exact (Array.getElem?_eq_some_iff.1 h).1
namespace Foot
variable {P Q : World → Prop} {W W1 : World} {ok ok' : Nat → Prop}
theorem mono (h : Foot P W ok) (hok : ∀ k, ok k → ok' k) : Foot P W ok' := fun W' hW => h W' (fun k hk hlt => hW k (hok k hk) hlt)
theorem bound (h : Foot P W ok) : Foot P W (fun k => ok k ∧ k < W.heap.size) := fun W' hW => h W' (fun k hk hlt => hW k ⟨hk, hlt⟩ hlt)
theorem step (h : Foot P W ok) (hm : ∀ k, ok k → k < W.heap.size → W1.heap[k]? = W.heap[k]?) : Foot P W1 ok := fun W' hW => h W' (fun k hk hlt => (hW k hk (heap_lt (hm k hk hlt) hlt)).trans (hm k hk hlt))
theorem imp (h : Foot P W ok) (hi : ∀ W', P W' → Q W') : Foot Q W ok := fun W' hW => hi W' (h W' hW)
/-- Moved, and still elder than what is new since W. -/
theorem old (h : Foot P W ok) (hb : Below W.heap.size W W1) : Foot P W1 (fun k => ok k ∧ k < W.heap.size) := (h.bound).step (fun k _ hlt => hb.block k hlt)
end Foot
namespace Kd
/-- A row that is only read: what it leads to lies in ok. -/
def F {α : Type} (d : Kd α) (W : World) (ok : Nat → Prop) (A : Option Addr) (n : Nat) (xs : List α) : Prop := Foot (fun W => d.C W A n xs) W ok
/-- An element's cells: what they lead to lies in ok. -/
def FK {α : Type} (d : Kd α) (W : World) (ok : Nat → Prop) (x : α) (c : List Value) : Prop := Foot (fun W => d.K W x c) W ok
section
variable {α β : Type} {d : Kd α} {e base n n' cc g N : Nat} {ok ok' okp S : Nat → Prop} {w w0 w1 W W1 : World} {A A' : Option Addr} {u v v1 : Value} {xs : List α} {xs' : List β} {d' : Kd β} {x : α} {c : List Value}
end
end Kd
end Go.Proofs.YtpibjdkenifggaaW.PrintWords
end
section
namespace Go.Proofs.YtpibjdkenifggaaW.PrintWords
open Go.RowKit
namespace Kd
section
variable {α : Type} {d : Kd α} {e base n cc g : Nat} {ok ok' okp S : Nat → Prop} {w w1 W W1 : World} {A : Option Addr} {u v v1 : Value} {xs : List α} {x : α} {c : List Value}
/-- A row of elements (type e) of the call's own; what the elements lead to is only read, and is not this row. -/
def N {α : Type} (d : Kd α) (e : Nat) (w : World) (base : Nat) (ok : Nat → Prop) (v : Value) (xs : List α) : Prop :=
  (∀ k, v.ownBlock = some k → ok k) ∧ ∃ rows : List (List Value), rows.length = xs.length ∧ (raw d.sz).R e w base (fun k => some k = v.ownBlock) v rows ∧ ∀ (j : Nat) (x : α) (c : List Value), xs[j]? = some x → rows[j]? = some c → FK d w (fun k => ok k ∧ some k ≠ v.ownBlock) x c
end
end Kd
end Go.Proofs.YtpibjdkenifggaaW.PrintWords
end
section
namespace Go.Proofs.YtpibjdkenifggaaW.PrintWords
end Go.Proofs.YtpibjdkenifggaaW.PrintWords
namespace Kd
end Kd
end
section
namespace Go.Proofs.YtpibjdkenifggaaW.PrintWords
end Go.Proofs.YtpibjdkenifggaaW.PrintWords
namespace Kd
end Kd
end
section
namespace Go.Proofs.YtpibjdkenifggaaW.PrintWords
end Go.Proofs.YtpibjdkenifggaaW.PrintWords
end
section
namespace Go.Proofs.YtpibjdkenifggaaW.PrintWords
/-- One cell an element. -/
theorem Reps.one {α : Type} {R : α → List Value → Prop} {ps : List α} {cs : List Value} {p : α} {v : Value} (hp : R p [v]) (h : Reps R 1 ps cs) : Reps R 1 (p :: ps) (v :: cs) := by
  refine ⟨by simp [h.1], fun j q hq => ?_⟩
  cases j with
  | zero =>
    simp only [List.getElem?_cons_zero, Option.some.injEq] at hq
    subst hq
    simpa using hp
  | succ j =>
    simp only [List.getElem?_cons_succ] at hq
    have h1 := h.2 j q hq
    simpa [Nat.mul_one] using h1
/-- More cells an element: told apart by the cells' list. -/
theorem Reps.front {α : Type} {R : α → List Value → Prop} {size : Nat} {ps : List α} {cs c all : List Value} {p : α} (hp : R p c) (hc : c.length = size) (h : Reps R size ps cs) (ha : c ++ cs = all) : Reps R size (p :: ps) all := by
  subst ha
  refine ⟨by rw [List.length_append, hc, h.1, List.length_cons, Nat.succ_mul, Nat.add_comm], fun j q hq => ?_⟩
  cases j with
  | zero =>
    simp only [List.getElem?_cons_zero, Option.some.injEq] at hq
    subst hq
    rw [Nat.zero_mul, List.drop_zero, List.take_append_of_le_length (by omega), List.take_of_length_le (by omega)]
    exact hp
  | succ j =>
    simp only [List.getElem?_cons_succ] at hq
    have h1 := h.2 j q hq
    rw [Nat.succ_mul, List.drop_append, List.drop_of_length_le (by rw [hc]; exact Nat.le_add_left _ _), List.nil_append, hc, Nat.add_sub_cancel]
    exact h1
theorem Reps.c2 {α : Type} {R : α → List Value → Prop} {ps : List α} {cs : List Value} {p : α} {va vb : Value} (hp : R p [va, vb]) (h : Reps R 2 ps cs) : Reps R 2 (p :: ps) (va :: vb :: cs) := Reps.front hp rfl h rfl
theorem Reps.c3 {α : Type} {R : α → List Value → Prop} {ps : List α} {cs : List Value} {p : α} {va vb vc : Value} (hp : R p [va, vb, vc]) (h : Reps R 3 ps cs) : Reps R 3 (p :: ps) (va :: vb :: vc :: cs) := Reps.front hp rfl h rfl
theorem Reps.c4 {α : Type} {R : α → List Value → Prop} {ps : List α} {cs : List Value} {p : α} {va vb vc vd : Value} (hp : R p [va, vb, vc, vd]) (h : Reps R 4 ps cs) : Reps R 4 (p :: ps) (va :: vb :: vc :: vd :: cs) := Reps.front hp rfl h rfl
theorem Reps.c9 {α : Type} {R : α → List Value → Prop} {ps : List α} {cs : List Value} {p : α} {va vb vc vd ve vf vg vh vi : Value} (hp : R p [va, vb, vc, vd, ve, vf, vg, vh, vi]) (h : Reps R 9 ps cs) : Reps R 9 (p :: ps) (va :: vb :: vc :: vd :: ve :: vf :: vg :: vh :: vi :: cs) := Reps.front hp rfl h rfl
end Go.Proofs.YtpibjdkenifggaaW.PrintWords
end
section
namespace Go.Proofs.YtpibjdkenifggaaW.PrintLast
/-- Number i is listed too. -/
def up (b : Nat → Bool) (i : Nat) : Nat → Bool := fun j => if j = i then true else b j
section
variable {P : Program} {ops : Array Oper} {Q : Exit → Act → World → Prop} {md : Region.Mode} {T : Bool × List (List Nat × List Nat)} {B : List Nat} {O : List Nat} {b : Nat → Bool} {i j n : Nat}
end
end Go.Proofs.YtpibjdkenifggaaW.PrintLast
end
section
namespace Go.Proofs.YtpibjdkenifggaaW.PrintWords
end Go.Proofs.YtpibjdkenifggaaW.PrintWords
namespace Go.Proofs.YtpibjdkenifggaaW.PrintLast
end Go.Proofs.YtpibjdkenifggaaW.PrintLast
end
section
namespace Go.Proofs.YtpibjdkenifggaaW.PrintWords
end Go.Proofs.YtpibjdkenifggaaW.PrintWords
end
section
namespace Go.Proofs.YtpibjdkenifggaaW.PrintWords
end Go.Proofs.YtpibjdkenifggaaW.PrintWords
namespace Kd
end Kd
end
section
namespace Go.Proofs.YtpibjdkenifggaaW.PrintMore
open Go.RowKit Go.Proofs.YtpibjdkenifggaaW.PrintWords
namespace Kd
open Go.Proofs.YtpibjdkenifggaaW.PrintWords.Kd
end Kd
namespace Kd
open Go.Proofs.YtpibjdkenifggaaW.PrintWords.Kd
section
variable {α : Type} {d : Kd α} {e base g N : Nat} {ok : Nat → Prop} {W w1 : World} {u v : Value} {xs : List α}
end
end Kd
end Go.Proofs.YtpibjdkenifggaaW.PrintMore
namespace Go.Proofs.YtpibjdkenifggaaW.PrintWords
open Go.RowKit
section
variable {P : Program} {ops : Array Oper} {rest : List Oper} {o : Oper} {a : Act} {Q : Exit → Act → World → Prop} {W : World}
end
/-- The greater of two whole numbers, as Go's max tells it. -/
def mx (a b : Int) : Int := if a < b then b else a
/-- A shift to the left, as Go tells it: a count beyond the width leaves nothing. -/
def shl (k : IntKind) (x y : Int) : Int := k.wrap (x * 2 ^ min y.toNat k.bits)
/-- A shift to the right: a count beyond the width leaves the sign. -/
def shr (k : IntKind) (x y : Int) : Int := x / 2 ^ min y.toNat k.bits
namespace Kd
section
variable {α : Type} {d : Kd α} {e base : Nat} {ok : Nat → Prop} {W w1 : World} {v : Value} {xs : List α}
end
section
variable {α : Type} {d : Kd α} {e base g n cap : Nat} {ok oki okp : Nat → Prop} {W : World} {xs : List α} {i : Int} {c : List Value}
end
section
variable {α : Type} {d : Kd α} {e base b b' g N : Nat} {ok ok1 : Nat → Prop} {W W2 w1 : World} {u v : Value} {xs ys : List α} {S : Nat → Prop}
end
end Kd
end Go.Proofs.YtpibjdkenifggaaW.PrintWords
namespace Go.Proofs.YtpibjdkenifggaaW.PrintWords
open Go.RowKit
namespace Kd
section
variable {α β : Type} {d : Kd α} {e base base' n m c g N' lo hi : Nat} {ok ok' S : Nat → Prop} {w W w1 : World} {A : Option Addr} {ad : Addr} {u v v1 : Value} {xs : List α}
end
end Kd
end Go.Proofs.YtpibjdkenifggaaW.PrintWords
end
section
namespace Go.Proofs.Ytpibjdkenifggaa.KK
open Go.RowKit Go.Proofs.YtpibjdkenifggaaW.PrintWords Go.Proofs.YtpibjdkenifggaaW.PrintLast Go.Proofs.YtpibjdkenifggaaW.PrintMore
set_option linter.unusedVariables false
structure S26 where
  f0 : (List Int)
  f1 : Int
def z26 : S26 := ⟨([] : List Int), (0 : Int)⟩
def k26 : Kd S26 := Kd.iso (Kd.pair (Kd.slice 5 (Kd.int .u8)) (Kd.int .i64)) (fun x : S26 => (x.f0, x.f1))
structure S42 where
  f0 : Int
  f1 : Int
  f2 : Bool
  f3 : (List Int)
  f4 : Bool
  f5 : (List Int)
structure S40 where
  f0 : Int
  f1 : Int
  f2 : Int
  f3 : Int
  f4 : Int
  f5 : (List S42)
end Go.Proofs.Ytpibjdkenifggaa.KK
end
section
namespace Go.Proofs.Ytpibjdkenifggaa.CL
open Go.Proofs.Ytpibjdkenifggaa.H Go.RowKit Go.Proofs.YtpibjdkenifggaaW.PrintWords Go.Proofs.Ytpibjdkenifggaa.KK
set_option linter.unusedVariables false
theorem br_congr {α : Type} {d : Kd α} {e e' : α → List HV} (h : Br d e) (he : ∀ x, e x = e' x) : Br d e' := by
  have : e = e' := funext he
  rw [← this]; exact h
theorem flat_bl (l : List Int) : l.flatMap (fun n => ([.lit (.int .u8 n)] : List HV)) = bl l := by
  induction l with
  | nil => rfl
  | cons x r ih => simp only [List.flatMap_cons, ih]; rfl
theorem flat_map {α β γ : Type} (l : List α) (f : α → β) (g : β → List γ) : (l.map f).flatMap g = l.flatMap fun x => g (f x) := List.flatMap_map f g l
theorem repBytes {w : World} {A : Option Addr} {c : Nat} {l : List Int} (hr : Kd.C (Kd.int .u8) w A l.length l) (hc : l.length ≤ c) : Rep (m0 w) (byV (some l)) (.slice A l.length c) := by
  have := (Br.int .u8).row hr hc
  rw [flat_bl] at this
  exact this
def toStep (x : S26) : Option (List Int) × Int := (some x.f0, x.f1)
def stC (x : Option (List Int) × Int) : List HV := [byV x.1, .lit (.int .i64 x.2)]
theorem br26 : Br k26 (fun x => stC (toStep x)) := by
  refine br_congr (Br.iso (Br.pair (Br.slice 5 (Br.int .u8)) (Br.int .i64)) (fun x : S26 => (x.f0, x.f1))) ?_
  intro x
  simp only [flat_bl]
  rfl
theorem repSteps {w : World} {A : Option Addr} {c : Nat} {l : List S26} (hr : Kd.C k26 w A l.length l) (hc : l.length ≤ c) : Rep (m0 w) (rowL stC 2 (l.map toStep)) (.slice A l.length c) := by
  have := br26.row hr hc
  have e1 : rows stC (l.map toStep) = l.flatMap fun x => stC (toStep x) := flat_map _ _ _
  have e2 : (l.map toStep).length = l.length := List.length_map ..
  unfold rowL
  rw [e1, e2]
  exact this
end Go.Proofs.Ytpibjdkenifggaa.CL
end
section
namespace Go.Proofs.Ytpibjdkenifggaa.CL
open Go.Proofs.Ytpibjdkenifggaa.H Go.Proofs.Ytpibjdkenifggaa.K0
set_option linter.unusedVariables false
set_option linter.unusedSimpArgs false
set_option maxRecDepth 100000
abbrev St := Option (List Int) × Int
def st0 : St := (none, 0)
def wS (x : St) : Int := ((x.1.getD []).length : Int) + 1
theorem stC_len (x : St) : (stC x).length = 2 := rfl
theorem neq_same (b : Bool) : vCmp (Try.prog.underlying 4) .neq (.lit (.bool b)) (.lit (.bool b)) = some (.lit (.bool false)) := by cases b <;> rfl
theorem neq_int (d : Option TypeDesc) (n : Int) : vCmp d .neq (.lit (.int .i64 n)) (.lit (.int .i64 n)) = some (.lit (.bool false)) := by
  simp [vCmp, vBin]
theorem eql_int (d : Option TypeDesc) (n : Int) : vCmp d .eql (.lit (.int .i64 n)) (.lit (.int .i64 n)) = some (.lit (.bool true)) := by
  simp [vCmp, vBin]
theorem offB_look {W : Int} {o : Option (List Pr)} {g : (Value → Option Int) × Nat} (h : RM o g) (k : Option (List Int)) : ((look (o.getD []) (keyB k)).isSome || decide ((g.2 : Int) < W)) = offB W g (kv k) := by
  unfold offB
  rw [h.val k, Option.isSome_map]
theorem plays_law (most : Int) (l : List St) (lk : List Int) (n : Int) (s : HS) (hl : l.length ≤ 9223372036854775807) (hin : ∀ x ∈ l, ∃ k, x.1 = some k) :
    HC Try.prog 9 [.lit (.int .i64 most), rowL stC 2 l, byV (some lk), .lit (.int .i64 n)] s (fun v _ => v = .lit (.bool true)) := by
  have hlen : ∀ t, vLenT (Try.prog.underlying 22) t (rowL stC 2 l) = some (.lit (.int .i64 (l.length : Nat))) := fun t => rfl
  have hidx : ∀ i : Nat, i < l.length → vIdx 2 (rowL stC 2 l) (.lit (.int .i64 i)) = some (.elt (stC (l.getD i st0)) 0) := fun i hi => idx_rowL stC_len st0 l .i64 hi
  have ld0 : ∀ (t : HS) (x : St), vLoad t (.elt (stC x) 0) 1 false = some (byV x.1) := fun t x => rfl
  have ld1 : ∀ (t : HS) (x : St), vLoad t (.elt (stC x) 1) 1 false = some (.lit (.int .i64 x.2)) := fun t x => rfl
  refine HC9 ?_
  unfold c9
  refine HLoop.ghost (σ := Int × Nat) (fun g => [.lit (.int .i64 g.1), .lit (.int .i64 g.2)]) (fun g t => g.2 ≤ l.length ∧ 0 ≤ g.1 ∧ (((l.take g.2).map wS).sum ≤ g.1 ∨ 1099511627776 ≤ g.1) ∧ t = s) (fun g => l.length - g.2) (0, 0) rfl ⟨Nat.zero_le _, by decide, .inl (by simp), rfl⟩ ?_
  rintro ⟨z, i⟩ t K ⟨hi, hz, hsum, rfl⟩ hK
  simp only at hi hz hsum
  simp only [List.headD_cons, List.tail_cons]
  refine Join.of (fun xs u => u = t ∧ (xs = [.lit (.bool true)] ∧ i < l.length ∧ z ≤ 2000 ∨ xs = [.lit (.bool false)] ∧ (z ≤ 2000 → i = l.length))) ?_ ?_
  rotate_left
  · intro K1 hK1
    simp only [hlen, bindO, vBin, if_true, hcond]
    by_cases hlt : i < l.length
    · have hlt' : (i : Int) < (l.length : Int) := by omega
      simp only [hlt', decide_true]
      by_cases h2 : z ≤ 2000
      · simp only [h2, decide_true]; exact hK1 _ _ ⟨rfl, .inl ⟨rfl, hlt, h2⟩⟩
      · simp only [h2, decide_false]; exact hK1 _ _ ⟨rfl, .inr ⟨rfl, fun h => absurd h h2⟩⟩
    · have hlt' : ¬ (i : Int) < (l.length : Int) := by omega
      simp only [hlt', decide_false]
      exact hK1 _ _ ⟨rfl, .inr ⟨rfl, fun _ => by omega⟩⟩
  rintro xs u ⟨rfl, ⟨rfl, hlt, hz2⟩ | ⟨rfl, hend⟩⟩
  · simp only [List.headD_cons, hcond, hidx i hlt, bindO, vField, Nat.zero_add, ld0]
    have hts : ((l.take (i + 1)).map wS).sum = ((l.take i).map wS).sum + wS (l.getD i st0) := by rw [take_succ' st0 l hlt]; simp
    obtain ⟨k, hk⟩ := hin (l.getD i st0) (by rw [List.getD, List.getElem?_eq_getElem hlt]; exact List.getElem_mem hlt)
    generalize l.getD i st0 = x at *
    rw [hk, show vLenT (Try.prog.underlying 24) u (byV (some k)) = some (.lit (.int .i64 (k.length : Nat))) from rfl]
    simp [hBS, hfill, hc_int, ho_int, hNew]
    intro id hid
    refine HC.frzN hid ?_
    simp [frz2, frz1, frz0, phi]
    refine (sum' (s := u) z [(k.length : Int), 1] hz (by simp) (by simp)).mono ?_
    rintro r s' ⟨rfl, q, rfl, hq, hq2⟩
    simp only [vBin, if_true, wrap_add1 (show i < 9223372036854775807 by omega)]
    simp only [List.sum_cons, List.sum_nil] at hq2
    have hw : wS x = (k.length : Int) + 1 := by simp [wS, hk]
    exact hK (q, i + 1) _ _ rfl ⟨hlt, hq, by simp only [hts, hw]; omega, rfl⟩ (by show l.length - (i + 1) < l.length - i; omega)
  · simp only [List.headD_cons, hcond]
    refine Join.of (fun xs t => t = u ∧ (xs = [.lit (.bool true)] ∨ xs = [.lit (.bool false)] ∧ z ≤ 2000 ∧ 0 ≤ n)) ?_ ?_
    rotate_left
    · intro K1 hK1
      simp only [bindO, vBin, if_true]
      by_cases h1 : z > 2000
      · simp only [h1, decide_true]; exact hK1 _ _ ⟨rfl, .inl rfl⟩
      · simp only [h1, decide_false]
        by_cases h2 : n < 0
        · simp only [h2, decide_true]; exact hK1 _ _ ⟨rfl, .inl rfl⟩
        · simp only [h2, decide_false]; exact hK1 _ _ ⟨rfl, .inr ⟨rfl, by omega, by omega⟩⟩
    rintro _ t ⟨rfl, rfl | ⟨rfl, hz2, hn0⟩⟩
    · simp only [List.headD_cons]
      exact awake14 t
    simp only [List.headD_cons]
    obtain rfl := hend hz2
    rw [List.take_length] at hsum
    have hsum2 : (l.map wS).sum ≤ 2000 := by omega
    have hw1 : ∀ x ∈ l, 1 ≤ wS x := fun x _ => by unfold wS; omega
    have hl2 := sum_len wS l hw1
    have hsh : ∀ x ∈ l, short x.1 := fun x hx => by
      have := sum_mem wS l (fun y hy => by have := hw1 y hy; omega) x hx
      have h9 : wS x ≤ 2000 := by omega
      unfold wS at h9
      cases hk : x.1 with
      | none => trivial
      | some k => rw [hk] at h9; simp only [Option.getD_some] at h9; show k.length ≤ _; omega
    by_cases hok : 1 ≤ most ∧ most ≤ 1000000
    rotate_left
    · refine (newBad most t (by omega)).mono ?_
      rintro v t1 ⟨rfl, rfl⟩
      simp only [vExtract, List.getElem?_cons_zero, List.getElem?_cons_succ, bindO]
      refine Join.of (fun xs t => t = t1 ∧ xs = [.lit (.bool false)]) ?_ ?_
      rotate_left
      · intro K1 hK1
        simp only [vBin, if_true]
        by_cases h1 : most ≥ 1
        · have h2 : ¬ most ≤ 1000000 := by omega
          simp only [h1, h2, decide_true, decide_false]; exact hK1 _ _ ⟨rfl, rfl⟩
        · simp only [h1, decide_false]; exact hK1 _ _ ⟨rfl, rfl⟩
      rintro _ u1 ⟨rfl, rfl⟩
      refine Join.of (fun xs t => t = u1 ∧ xs = [.lit (.bool false)]) ?_ ?_
      rotate_left
      · intro K1 hK1
        exact hK1 _ _ ⟨rfl, rfl⟩
      rintro _ u2 ⟨rfl, rfl⟩
      exact awake14 u2
    refine (new most t hok.1 hok.2).mono ?_
    rintro v t1 ⟨p, mid, hp, hm, rfl, hle1, hk⟩
    simp only [vExtract, List.getElem?_cons_zero, List.getElem?_cons_succ, bindO]
    refine Join.of (fun xs t => t = t1 ∧ xs = [.lit (.bool true)]) ?_ ?_
    rotate_left
    · intro K1 hK1
      have h1 : most ≥ 1 := hok.1
      simp only [vBin, if_true, h1, hok.2, decide_true]
      exact hK1 _ _ ⟨rfl, rfl⟩
    rintro _ u1 ⟨rfl, rfl⟩
    refine Join.of (fun xs t => t = u1 ∧ xs = [.lit (.bool false)]) ?_ ?_
    rotate_left
    · intro K1 hK1
      exact hK1 _ _ ⟨rfl, rfl⟩
    rintro _ u2 ⟨rfl, rfl⟩
    simp only [List.headD_cons, vUn, Bool.not_true]
    rw [show vMk [(0, 1), (1, 1)] [.lit (.int .i64 0), .lit (.slice none 0 0)] [(0, .lit (.int .i64 most))] = some (.agg [.lit (.int .i64 most), .lit (.slice none 0 0)]) by simp [vMk, hfill, hc_int]]
    simp only [hBox, hc_agg]
    intro q hq
    obtain ⟨hk1, hk2⟩ := hk
    have nqp := ne_new hk1 hq
    have nqm := ne_new hk2 hq
    have nmp : p ≠ mid := by rintro rfl; rw [hk1] at hk2; cases hk2
    refine HLoop.ghost (σ := Option (List Pr) × ((Value → Option Int) × Nat) × Nat) (fun g => [.lit (.int .i64 g.2.2)]) (fun g t => g.2.2 ≤ l.length ∧ t q = some (rmO most g.1) ∧ IsKM t p mid most g.2.1.1 g.2.1.2 ∧ RM g.1 g.2.1 ∧ KeyOk g.2.1.1 ∧ g.2.1.2 ≤ g.2.2) (fun g => l.length - g.2.2) (none, (fun _ => none, 0), 0) rfl
      ⟨Nat.zero_le _, by rw [set_at]; rfl, ⟨by rw [set_ne _ _ nqp]; exact hk1, by rw [set_ne _ _ nqm]; exact hk2⟩, RM.start, keyOk_none, Nat.le_refl _⟩ ?_
    rintro ⟨o, g, i⟩ t3 K3 ⟨hi3, hq3, hk3, hr3, hko3, hn3⟩ hK3
    simp only at hi3 hq3 hk3 hr3 hko3 hn3
    have hnum := hr3.num
    simp only [List.headD_cons, hlen, vBin, if_true]
    by_cases hlt : i < l.length
    · have hlt' : (i : Int) < (l.length : Int) := by omega
      simp only [hlt', decide_true, hidx i hlt, vField, Nat.zero_add, ld0, ld1]
      have hshx := hsh (l.getD i st0) (by rw [List.getD, List.getElem?_eq_getElem hlt]; exact List.getElem_mem hlt)
      generalize l.getD i st0 = x at *
      refine Join.of (fun xs t => xs = [.lit (.bool false)] ∧ ∃ o', t q = some (rmO most o') ∧ IsKM t p mid most (offF most g (kv x.1) x.2).1 (offF most g (kv x.1) x.2).2 ∧ RM o' (offF most g (kv x.1) x.2)) ?_ ?_
      · rintro _ t4 ⟨rfl, o', h1, h2, h3⟩
        simp only [List.headD_cons, wrap_add1 (show i < 9223372036854775807 by omega)]
        exact hK3 (o', offF most g (kv x.1) x.2, i + 1) _ _ rfl ⟨hlt, h1, h2, h3, hko3.offer hshx _, Nat.le_trans (offF_le most g (kv x.1) x.2) (Nat.succ_le_succ hn3)⟩ (by show l.length - (i + 1) < l.length - i; omega)
      · intro K4 hK4
        refine (offerV hk3 x.1 x.2).mono ?_
        rintro v t4 ⟨rfl, rfl⟩
        refine ⟨trivial, trivial, ?_⟩
        have hk4 := hk3.set (M' := (offF most g (kv x.1) x.2).1) (n' := (offF most g (kv x.1) x.2).2)
        have nqm3 : q ≠ mid := Ne.symm nqm
        have hq4 : (t3.set mid (mapO (offF most g (kv x.1) x.2).1 (offF most g (kv x.1) x.2).2)) q = some (rmO most o) := by rw [set_ne _ _ nqm3]; exact hq3
        generalize t3.set mid (mapO (offF most g (kv x.1) x.2).1 (offF most g (kv x.1) x.2).2) = t4 at hk4 hq4 ⊢
        refine (refOffer hq4 hr3 (by omega) x.1 x.2).mono ?_
        rintro v t5 ⟨o', rfl, rfl, hr5⟩
        rw [offB_look hr3, neq_same]
        have l1 : vLoad (t4.set q (rmO most o')) (.ptr q 1) 1 false = some (rowV prC 3 o') := load_at 1 (set_at t4 q (rmO most o'))
        simp only [vNil, l1, len_prV]
        have hk5 : IsKM (t4.set q (rmO most o')) p mid most (offF most g (kv x.1) x.2).1 (offF most g (kv x.1) x.2).2 := ⟨by rw [set_ne _ _ nqp]; exact hk4.1, by rw [set_ne _ _ nqm]; exact hk4.2⟩
        refine (len hk5).mono ?_
        rintro v t6 ⟨rfl, rfl⟩
        refine ⟨trivial, l1, ?_⟩
        rw [hr5.num, neq_int]
        exact hK4 _ _ ⟨rfl, o', set_at _ _ _, hk5, hr5⟩
    · obtain rfl : i = l.length := by omega
      have hlt' : ¬ (l.length : Int) < (l.length : Int) := by omega
      simp only [hlt', decide_false]
      refine (last hk3 (some lk)).mono ?_
      rintro v t4 ⟨rfl, rfl⟩
      simp only [vExtract, List.getElem?_cons_zero, List.getElem?_cons_succ]
      refine (refLast hq3 hr3 (by omega) (some lk)).mono ?_
      rintro v t5 ⟨rfl, rfl⟩
      simp only [vExtract, List.getElem?_cons_zero, List.getElem?_cons_succ]
      have hgv : ∀ t b, HS.le t5 t → t b = some (.cells [.ptr p 0]) → GivesL Try.prog 76 [.ptr b 0] (o.getD []).length (encP (o.getD [])) t := fun t b hle hb => gives76 (hk3.le hle) hr3 (by omega) hko3 hb
      refine (keys45 (o.getD []) (.ptr p 0) t5 (hc_ptr _ _) (ho_ptr _ _) hgv 10000 (by omega) (by omega)).mono ?_
      rintro v t6 ⟨rfl, rfl⟩
      refine Join.of (fun xs t => t = t6 ∧ xs = [.lit (.bool false)]) ?_ ?_
      rotate_left
      · intro K4 hK4
        rw [neq_int, neq_same]
        have l1 : vLoad t6 (.ptr q 1) 1 false = some (rowV prC 3 o) := by rw [load_at 1 hq3]; rfl
        simp only [vNil, vField, Nat.zero_add, l1]
        have htk : (((o.getD []).map wr).take (10000 : Int).toNat) = (o.getD []).map wr := List.take_of_length_le (by rw [List.length_map]; show _ ≤ 10000; omega)
        rw [htk]
        refine (samePairs _ o true (by rw [getD_orNil, List.length_map]; omega)).mono ?_
        rintro v t7 ⟨rfl, rfl⟩
        rw [getD_orNil, all2_wr _ hr3.nov]
        simp only [vUn, Bool.not_true, l1, len_prV, hfold, vMin2, Option.bind_some]
        refine (keys45 (o.getD []) (.ptr p 0) t7 (hc_ptr _ _) (ho_ptr _ _) hgv n hn0 (by omega)).mono ?_
        rintro v t8 ⟨rfl, rfl⟩
        refine ⟨trivial, l1, ?_⟩
        simp only [len_prV, getD_orNil, List.length_take, List.length_map]
        rw [show (((min n.toNat (o.getD []).length : Nat)) : Int) = (if ((o.getD []).length : Int) < n then ((o.getD []).length : Int) else n) by split <;> omega, neq_int]
        exact hK4 _ _ ⟨rfl, rfl⟩
      rintro _ t7 ⟨rfl, rfl⟩
      simp only [List.headD_cons]
      refine (nilLast t7 _).mono ?_
      rintro v t8 ⟨rfl, rfl⟩
      simp only [vExtract, List.getElem?_cons_zero, List.getElem?_cons_succ]
      refine (nilOffer t8 _ _).mono ?_
      rintro v t9 ⟨rfl, rfl⟩
      simp only [vUn, Bool.not_false]
      refine (nilLen t9).mono ?_
      rintro v t10 ⟨rfl, rfl⟩
      rw [eql_int]
      refine (nilKeys t10 5 (by omega)).mono ?_
      rintro v t11 ⟨rfl, rfl⟩
      rw [show vLenT (Try.prog.underlying 81) t11 (.lit (.slice none 0 0)) = some (.lit (.int .i64 0)) from rfl]
      simp only [eql_int]
      exact awake14 t11
end Go.Proofs.Ytpibjdkenifggaa.CL
end
section
namespace Go.Proofs.Ytpibjdkenifggaa.KP5W
open Go.Proofs.Ytpibjdkenifggaa.H Go.RowKit Go.Proofs.YtpibjdkenifggaaW.PrintWords Go.Proofs.YtpibjdkenifggaaW.PrintLast Go.Proofs.YtpibjdkenifggaaW.PrintMore Go.Proofs.Ytpibjdkenifggaa.KK
set_option linter.unusedVariables false
theorem keymapPlays_walk (a0 : Int) (A1 : Option Addr) (c1 : Nat) (l1 : List (S26)) (A2 : Option Addr) (c2 : Nat) (l2 : List Int) (a3 : Int) (w : World) (hc1 : l1.length ≤ c1) (hr1 : Kd.C k26 w A1 l1.length l1) (hc2 : l2.length ≤ c2) (hr2 : Kd.C (Kd.int .u8) w A2 l2.length l2) (q0 : (Lit.int .i64 a0).wf = true) (q1 : (l1.length ≤ maxLen ∧ ∀ x_ ∈ l1, ((x_.f0.length ≤ maxLen ∧ ∀ x__ ∈ x_.f0, (Lit.int .u8 x__).wf = true) ∧ (Lit.int .i64 x_.f1).wf = true))) (q2 : (l2.length ≤ maxLen ∧ ∀ x_ ∈ l2, (Lit.int .u8 x_).wf = true)) (q3 : (Lit.int .i64 a3).wf = true) :
    Calls Try.prog 9 #[.int .i64 a0, .slice A1 l1.length c1, .slice A2 l2.length c2, .int .i64 a3] w fun e w' => e = .returned (.bool true) ∧ Below w.heap.size w w' := by
  refine law_of (CL.plays_law a0 (l1.map CL.toStep) l2 a3 s0 (by rw [List.length_map]; exact q1.1) ?_) rfl ?_
  · intro b hb
    obtain ⟨z, hz, rfl⟩ := List.mem_map.1 hb
    exact ⟨_, rfl⟩
  · intro j x hj
    rcases j with _ | _ | _ | _ | j <;> simp at hj
    · subst hj; exact .lit _
    · subst hj; exact CL.repSteps hr1 hc1
    · subst hj; exact CL.repBytes hr2 hc2
    · subst hj; exact .lit _
end Go.Proofs.Ytpibjdkenifggaa.KP5W
end
section
namespace Go.Proofs.YtpibjdkenifggaaW.Opens
open Go.RowKit Go.WideShapes Go.Proofs.YtpibjdkenifggaaW.PrintWords
/-- Whatever can be read as a value of type t is a value of kind d, of which Q holds. -/
def Opens (P : Program) (t : TypeId) {α : Type} (d : Kd α) (Q : α → Prop) : Prop :=
  ∀ {H : Type} (enc : TypeId × Value → H) (w : World) (base : Nat) (spare : Nat → Bool) (held : Bool) (fuel : Nat) (cs : List Value) (x : DataW H × List MemPlace),
    DataW.trod enc P w base spare held fuel t cs = some x → ∃ a : α, d.K w a cs ∧ Q a
variable {P : Program} {α β : Type}
theorem opens_int {t : TypeId} {k : IntKind} (ht : P.underlying t = some (.int k)) : Opens P t (Kd.int k) (fun n => (Lit.int k n).wf = true) := by
  intro H enc w base spare held fuel cs x h
  obtain ⟨n, rfl, _, hw⟩ := DataW.trod_int ht h
  exact ⟨n, rfl, hw⟩
theorem add_of_add (a : Addr) (i j : Nat) : (a.add i).add j = a.add (i + j) := by
  unfold Addr.add
  by_cases hi : i = 0 <;> by_cases hj : j = 0 <;> simp [hi, hj, Nat.add_assoc]
theorem opens_slice {t e : TypeId} (n : Nat) (ht : P.underlying t = some (.slice e)) {d : Kd α} {Q : α → Prop} (hs : P.cellsOf e = d.sz) (he : Opens P e d Q) :
    Opens P t (Kd.slice n d) (fun l => l.length ≤ maxLen ∧ ∀ x ∈ l, Q x) := by
  intro H enc w base spare held fuel cs x h
  rcases DataW.trod_slice ht h with ⟨rfl, _⟩ | ⟨a, len, cap, elems, rest, n', _, rfl, _, _, hl, hm, hlen, hel, _, _⟩
  · exact ⟨[], ⟨none, 0, rfl, Nat.le_refl _, Kd.C_nil _ _⟩, by simp, fun x hx => by simp at hx⟩
  · have each : ∀ i : Fin len, ∃ (x : α) (c : List Value), d.K w x c ∧ Q x ∧ ∀ j u, c[j]? = some u → w.cell? (a.add (i.val * d.sz + j)) = some u := by
      intro i
      have h1 := hel i.val i.isLt
      rw [List.getElem?_eq_getElem (by omega), Option.bind_eq_some_iff] at h1
      obtain ⟨c, hc, hy⟩ := h1
      obtain ⟨x, hK, hQ⟩ := he enc w base spare held n' c _ hy
      obtain ⟨_, hcl, hcc⟩ := World.cells?_some hc
      refine ⟨x, c, hK, hQ, fun j u hu => ?_⟩
      have hj : j < c.length := by
        rcases Nat.lt_or_ge j c.length with hlt | hge
        · exact hlt
        · rw [List.getElem?_eq_none hge] at hu; cases hu
      have := hcc j (by omega)
      rw [add_of_add, hs] at this
      rw [this, hu]
    let f : Fin len → α := fun i => Classical.choose (each i)
    have hf : ∀ i : Fin len, ∃ c : List Value, d.K w (f i) c ∧ Q (f i) ∧ ∀ j u, c[j]? = some u → w.cell? (a.add (i.val * d.sz + j)) = some u := fun i => Classical.choose_spec (each i)
    have hlen' : (List.ofFn f).length = len := List.length_ofFn
    have hget : ∀ j p, (List.ofFn f)[j]? = some p → ∃ hj : j < len, p = f ⟨j, hj⟩ := by
      intro j p hp
      have hj : j < len := by
        rcases Nat.lt_or_ge j len with hlt | hge
        · exact hlt
        · rw [List.getElem?_eq_none (by omega)] at hp; cases hp
      rw [List.getElem?_eq_getElem (by omega), List.getElem_ofFn] at hp
      exact ⟨hj, (Option.some.inj hp).symm⟩
    refine ⟨List.ofFn f, ⟨some a, cap, by rw [hlen'], by omega, hlen'.symm ▸ ?_⟩, by omega, ?_⟩
    · refine ⟨hlen', ?_, fun _ => ⟨a, rfl, fun j p hp => ?_⟩⟩
      · unfold maxLen at hm; omega
      · obtain ⟨hj, rfl⟩ := hget j p hp
        obtain ⟨c, hK, _, hc⟩ := hf ⟨j, hj⟩
        exact ⟨c, d.K_len hK, hK, fun i u hu => hc i u hu⟩
    · intro x hx
      obtain ⟨j, hj⟩ := List.getElem?_of_mem hx
      obtain ⟨hj', rfl⟩ := hget j x hj
      exact (hf ⟨j, hj'⟩).choose_spec.2.1
/-- The fields of a struct from the one at offset o on. -/
def OpensF (P : Program) (o : Nat) (fs : List Field) (d : Kd α) (Q : α → Prop) : Prop :=
  ∀ {H : Type} (enc : TypeId × Value → H) (w : World) (base : Nat) (spare : Nat → Bool) (held : Bool) (fuel : Nat) (cs : List Value),
    (∀ f ∈ fs, ∃ x, DataW.trod enc P w base spare held fuel f.type ((cs.drop f.offset).take (P.cellsOf f.type)) = some x) → cs.length = o + d.sz → ∃ a : α, d.K w a (cs.drop o) ∧ Q a
theorem opensF_one {o : Nat} {f : Field} {d : Kd α} {Q : α → Prop} (ho : f.offset = o) (hs : P.cellsOf f.type = d.sz) (h : Opens P f.type d Q) : OpensF P o [f] d Q := by
  intro H enc w base spare held fuel cs hx hl
  obtain ⟨x, hx⟩ := hx f (by simp)
  rw [ho, hs, List.take_of_length_le (by simp; omega)] at hx
  exact h enc w base spare held fuel _ x hx
theorem opensF_cons {o : Nat} {f : Field} {fs : List Field} {d : Kd α} {d' : Kd β} {Q : α → Prop} {Q' : β → Prop} (ho : f.offset = o) (hs : P.cellsOf f.type = d.sz) (h : Opens P f.type d Q) (hr : OpensF P (o + d.sz) fs d' Q') :
    OpensF P o (f :: fs) (Kd.pair d d') (fun x => Q x.1 ∧ Q' x.2) := by
  intro H enc w base spare held fuel cs hx hl
  have hl' : cs.length = o + (d.sz + d'.sz) := hl
  obtain ⟨x, hx1⟩ := hx f (by simp)
  rw [ho, hs] at hx1
  obtain ⟨a, ha, hq⟩ := h enc w base spare held fuel _ x hx1
  obtain ⟨b, hb, hq'⟩ := hr enc w base spare held fuel cs (fun g hg => hx g (by simp [hg])) (by omega)
  refine ⟨(a, b), ⟨_, _, ?_, ha, hb⟩, hq, hq'⟩
  rw [← List.drop_drop, List.take_append_drop]
theorem opens_struct {t : TypeId} {fs : Array Field} (ht : P.underlying t = some (.struct fs)) {d : Kd α} {Q : α → Prop} (hs : P.cellsOf t = d.sz) (h : OpensF P 0 fs.toList d Q) : Opens P t d Q := by
  intro H enc w base spare held fuel cs x hx
  obtain ⟨xs, n, _, _, hl, hxl, hf⟩ := DataW.trod_struct ht hx
  obtain ⟨a, ha, hq⟩ := h enc w base spare held n cs (fun f hm => by
    obtain ⟨i, hi⟩ := List.getElem?_of_mem hm
    have hi' : fs[i]? = some f := by rw [← hi, Array.getElem?_toList]
    have hlt : i < fs.size := by
      rcases Nat.lt_or_ge i fs.size with hlt | hge
      · exact hlt
      · rw [Array.getElem?_eq_none hge] at hi'; cases hi'
    rw [hf i f hi']
    exact ⟨_, List.getElem?_eq_getElem (by omega)⟩) (by omega)
  exact ⟨a, ha, hq⟩
theorem opens_iso {t : TypeId} {d : Kd α} {Q : α → Prop} (f : β → α) (g : α → β) (hg : ∀ a, f (g a) = a) (h : Opens P t d Q) : Opens P t (Kd.iso d f) (fun b => Q (f b)) := by
  intro H enc w base spare held fuel cs x hx
  obtain ⟨a, ha, hq⟩ := h enc w base spare held fuel cs x hx
  exact ⟨g a, (show d.K w (f (g a)) cs by rw [hg]; exact ha), (show Q (f (g a)) by rw [hg]; exact hq)⟩
/-- A parameter that is a slice. -/
theorem open_slice {t e : TypeId} {n : Nat} {d : Kd α} {Q : List α → Prop} (ht : P.underlying t = some (.slice e)) (h : Opens P t (Kd.slice n d) Q) {H : Type} {enc : TypeId × Value → H} {w : World} {base base' : Nat} {spare : Nat → Bool} {held : Bool} {r : Reach} {v : Value} {x : DataW H} {ps : List MemPlace}
    (hv : Value.okWide P w r base' t v) (hx : DataW.Trod enc P w base spare held t v x ps) : ∃ (A : Option Addr) (c : Nat) (l : List α), v = .slice A l.length c ∧ l.length ≤ c ∧ d.C w A l.length l ∧ Q l := by
  obtain ⟨a, len, cap, rfl⟩ := okWide_slice ht hv
  obtain ⟨fuel, hf⟩ := hx
  obtain ⟨l, ⟨A, c, hc, hl, hC⟩, hQ⟩ := h enc w base spare held fuel _ _ hf
  have : (Value.slice a len cap) = .slice A l.length c := by simpa [Value.cells] using hc
  exact ⟨A, c, l, this, hl, hC, hQ⟩
end Go.Proofs.YtpibjdkenifggaaW.Opens
end
