/- Clean over the H layer: the law of the grace. -/
import Derived.Test.YtecnfekcflfihaaCF
namespace Go.Proofs.Ytecnfekcflfihaa.CL
open Go.Proofs.Ytecnfekcflfihaa.H Go.Proofs.Ytecnfekcflfihaa.C0
set_option linter.unusedVariables false
set_option linter.unusedSimpArgs false
set_option maxRecDepth 100000

def ra : Rec := ⟨0, 0, true, some [97], true, none⟩
def rb : Rec := ⟨1, 0, true, some [97], true, none⟩
def bab : Bat := ⟨0, 1, 0, 0, 0, some [ra, rb]⟩
theorem map_ab : (cleanMap [some [bab], none] 0 5) = ((put (fun _ => none) (kv (some [97])) 1, 1), 2) := by
  have h1 : IntKind.i64.wrap 1 = 1 := w64 (by omega) (by omega)
  have h2 : IntKind.i64.wrap 2 = 2 := w64 (by omega) (by omega)
  have hm : min (max (max (5 : Int) 1) 1) 1000000 = 5 := by decide
  have h3 : max (1 : Int) 0 = 1 := by decide
  have h4 : max (2 : Int) 0 = 2 := by decide
  unfold cleanMap
  rw [hm]
  simp [flatS, buildF, bab, ra, rb, freshF, freshStep, isFresh, put, h1, h2, h3, h4, offStep, offF]
  funext q
  simp only [put]
  split <;> rfl
theorem awake (s : HS) : HC Try.prog 14 [] s (fun v _ => v = .lit (.bool true)) := by
  refine HC14 ?_
  simp [c14, bindO, hcond, vCmp, vBin, vEq, vUn, vNil, vField, vLoad, takeCells, vIdx, vLenT, vLen, vExtract, hBS, hfill, hNew, hStore, hBox, hc_int, hc_bool, hc_string, hc_slice, hc_nilp, hc_nilm, hc_nilf, hc_agg, hc_list, hc_view, hc_ptr, hc_map, hc_func, ho_int, ho_bool, ho_string, ho_slice, ho_nilp, ho_nilm, ho_nilf, ho_list, ho_view, ho_ptr, ho_map, ho_func, putCells, hAppend, lcells, litCells, isNilS, llen, room, vMk, set_at, Join, vToInt, vSlice, cutAt, intAt, bl_len, bits64, bits64u, bits8, hfold, vMax2, vMin2, Try.underlying3, Try.underlying9, Try.underlying22, Try.underlying31, Try.underlying32, Try.underlying36, Try.underlying44, Try.underlying90, hMark]
  intro k hk R hR B hB G hG
  simp only [set_none_iff] at hR hB hG
  obtain ⟨n1, hR⟩ := hR
  obtain ⟨n2, n3, hB⟩ := hB
  obtain ⟨n4, n5, n6, hG⟩ := hG
  have m1 := Ne.symm n1
  have m2 := Ne.symm n2
  have m3 := Ne.symm n3
  have m4 := Ne.symm n4
  have m5 := Ne.symm n5
  have m6 := Ne.symm n6
  refine HC.frz (id := k) (cs := [.lit (.int .u8 97)]) (by simp [HS.set, *]) ?_
  simp [frzS_set, frzS_same, frzO, frz2, frz1, frz0, phi, List.map_cons, List.map_nil, n1, n2, n3, n4, n5, n6, m1, m2, m3, m4, m5, m6]
  refine HC.frz (id := R) (cs := recsC [ra, rb]) (by simp [HS.set, *]; rfl) ?_
  simp [frzS_set, frzS_same, frzO, frz2, frz1, frz0, phi, List.map_cons, List.map_nil, n1, n2, n3, n4, n5, n6, m1, m2, m3, m4, m5, m6, recsC_len]
  refine HC.frz (id := B) (cs := batsC [bab]) (by simp [HS.set, *]; rfl) ?_
  simp [frzS_set, frzS_same, frzO, frz2, frz1, frz0, phi, List.map_cons, List.map_nil, n1, n2, n3, n4, n5, n6, m1, m2, m3, m4, m5, m6, batsC_len]
  refine HC.frz (id := G) (cs := rows segC [some [bab], none]) (by simp [HS.set, *]; rfl) ?_
  simp [frzS_set, frzS_same, frzO, frz2, frz1, frz0, phi, List.map_cons, List.map_nil, n1, n2, n3, n4, n5, n6, m1, m2, m3, m4, m5, m6, rows_len segC_len]
  refine (all [some [bab], none] 0 ⟨0, 0, 0, 0, 0, false, 0, 5, false⟩ 0 (by simp) (by simp [flatS]) ?_).mono ?_
  · intro x hx b hb
    simp at hx
    rcases hx with rfl | rfl
    · simp at hb
      subst hb
      exact ⟨_, rfl, by simp, by simp, by intro r hr; simp at hr; rcases hr with rfl | rfl <;> exact ⟨by show (1 : Nat) ≤ _; omega, trivial⟩⟩
    · simp at hb
  · rintro v s' ⟨-, rfl⟩
    rw [if_neg (by simp), map_ab]
    have h1 : IntKind.i64.wrap 1 = 1 := w64 (by omega) (by omega)
    have h2 : IntKind.i64.wrap 2 = 2 := w64 (by omega) (by omega)
    simp [buildF, freshF, freshStep, isFresh, put, offStep, offF, flatS, cleanMap, w64, outsF, cleanAt, keptB, keptR, cutB, orNil, goneF, goneAt, cntF, List.mapIdx_cons, stays, put, bab, ra, rb, h1, h2]
    simp [bindO, hcond, vCmp, vBin, vEq, vUn, vNil, vField, vLoad, takeCells, vIdx, vLenT, vLen, vExtract, hBS, hfill, hNew, hStore, hBox, hc_int, hc_bool, hc_string, hc_slice, hc_nilp, hc_nilm, hc_nilf, hc_agg, hc_list, hc_view, hc_ptr, hc_map, hc_func, ho_int, ho_bool, ho_string, ho_slice, ho_nilp, ho_nilm, ho_nilf, ho_list, ho_view, ho_ptr, ho_map, ho_func, putCells, hAppend, lcells, litCells, isNilS, llen, room, vMk, set_at, Join, vToInt, vSlice, cutAt, intAt, bl_len, bits64, bits64u, bits8, hfold, vMax2, vMin2, Try.underlying3, Try.underlying9, Try.underlying22, Try.underlying31, Try.underlying32, Try.underlying36, Try.underlying44, Try.underlying90, hMark, segsV, rowV, rowL, rows, segC, batsV, batsC, batC, recsV, recsC, recC, byV, orNil, List.flatMap_cons, List.flatMap_nil]
-- CleanGrace
def ga : Rec := ⟨0, 0, true, some [107], true, some [118]⟩
def gb (at_ : Int) (value : Bool) : Rec := ⟨1, at_, true, some [107], value, none⟩
def ba : Bat := ⟨0, 0, 0, 0, 0, some [ga]⟩
def bb (at_ : Int) (value : Bool) : Bat := ⟨1, 1, 0, 0, 0, some [gb at_ value]⟩
theorem map_g (at_ : Int) (value : Bool) : (cleanMap [some [ba, bb at_ value], none] 0 9) = ((put (fun _ => none) (kv (some [107])) 1, 1), 2) := by
  have h0 : IntKind.i64.wrap 0 = 0 := w64 (by omega) (by omega)
  have h1 : IntKind.i64.wrap 1 = 1 := w64 (by omega) (by omega)
  have h2 : IntKind.i64.wrap 2 = 2 := w64 (by omega) (by omega)
  have hm : min (max (max (9 : Int) 1) 1) 1000000 = 9 := by decide
  have h3 : max (1 : Int) 0 = 1 := by decide
  have h4 : max (2 : Int) 0 = 2 := by decide
  unfold cleanMap
  rw [hm]
  simp [flatS, buildF, ba, bb, ga, gb, freshF, freshStep, isFresh, put, h0, h1, h2, h3, h4, offStep, offF]
  funext q
  simp only [put]
  split <;> rfl
theorem outs_stay (at_ grace now : Int) (value : Bool) (h : value = true ∨ now - at_ ≤ grace) (h0 : 0 ≤ at_) (h1 : at_ ≤ 1125899906842624) (h2 : 0 ≤ now) (h3 : now ≤ 1125899906842624) :
    outsF (put (fun _ => none) (kv (some [107])) 1) 2 now grace 1 [some [ba, bb at_ value], none] = [some [bb at_ value], none] ∧ goneF (put (fun _ => none) (kv (some [107])) 1) 2 now grace 1 [some [ba, bb at_ value], none] = 1 := by
  have e0 : IntKind.i64.wrap 0 = 0 := w64 (by omega) (by omega)
  have e1 : IntKind.i64.wrap 1 = 1 := w64 (by omega) (by omega)
  have e2 : IntKind.i64.wrap 2 = 2 := w64 (by omega) (by omega)
  have e3 : min (max now (-2305843009213693952)) 2305843009213693952 = now := by omega
  have e4 : min (max at_ (-2305843009213693952)) 2305843009213693952 = at_ := by omega
  cases value with
  | true => simp [buildF, freshF, freshStep, isFresh, put, offStep, offF, flatS, cleanMap, w64, outsF, cleanAt, keptB, keptR, cutB, orNil, goneF, goneAt, cntF, List.mapIdx_cons, stays, put, ba, bb, ga, gb, e0, e1, e2]
  | false =>
    have h5 : ¬ grace < now - at_ := by rcases h with h | h; cases h; omega
    simp [buildF, freshF, freshStep, isFresh, put, offStep, offF, flatS, cleanMap, w64, outsF, cleanAt, keptB, keptR, cutB, orNil, goneF, goneAt, cntF, List.mapIdx_cons, stays, put, ba, bb, ga, gb, e0, e1, e2, e3, e4, h5]
theorem outs_go (at_ grace now : Int) (h : grace < now - at_) (h0 : 0 ≤ at_) (h1 : at_ ≤ 1125899906842624) (h2 : 0 ≤ now) (h3 : now ≤ 1125899906842624) :
    outsF (put (fun _ => none) (kv (some [107])) 1) 2 now grace 1 [some [ba, bb at_ false], none] = [none, none] ∧ goneF (put (fun _ => none) (kv (some [107])) 1) 2 now grace 1 [some [ba, bb at_ false], none] = 2 := by
  have e0 : IntKind.i64.wrap 0 = 0 := w64 (by omega) (by omega)
  have e1 : IntKind.i64.wrap 1 = 1 := w64 (by omega) (by omega)
  have e2 : IntKind.i64.wrap 2 = 2 := w64 (by omega) (by omega)
  have e3 : min (max now (-2305843009213693952)) 2305843009213693952 = now := by omega
  have e4 : min (max at_ (-2305843009213693952)) 2305843009213693952 = at_ := by omega
  simp [buildF, freshF, freshStep, isFresh, put, offStep, offF, flatS, cleanMap, w64, outsF, cleanAt, keptB, keptR, cutB, orNil, goneF, goneAt, cntF, List.mapIdx_cons, stays, put, ba, bb, ga, gb, e0, e1, e2, e3, e4, h]
theorem grace_law (a0 a1 a2 : Int) (a3 : Bool) (s : HS) : HC Try.prog 5 [.lit (.int .i64 a0), .lit (.int .i64 a1), .lit (.int .i64 a2), .lit (.bool a3)] s (fun v _ => v = .lit (.bool true)) := by
  refine HC5 ?_
  by_cases c0 : a0 < 0
  · simp [c5, bindO, hcond, vCmp, vBin, vEq, vUn, vNil, vField, vLoad, takeCells, vIdx, vLenT, vLen, vExtract, hBS, hfill, hNew, hStore, hBox, hc_int, hc_bool, hc_string, hc_slice, hc_nilp, hc_nilm, hc_nilf, hc_agg, hc_list, hc_view, hc_ptr, hc_map, hc_func, ho_int, ho_bool, ho_string, ho_slice, ho_nilp, ho_nilm, ho_nilf, ho_list, ho_view, ho_ptr, ho_map, ho_func, putCells, hAppend, lcells, litCells, isNilS, llen, room, vMk, set_at, Join, vToInt, vSlice, cutAt, intAt, bl_len, bits64, bits64u, bits8, hfold, vMax2, vMin2, Try.underlying3, Try.underlying9, Try.underlying22, Try.underlying31, Try.underlying32, Try.underlying36, Try.underlying44, Try.underlying90, hMark, c0]
    exact awake s
  by_cases c1 : 1125899906842624 < a0
  · simp [c5, bindO, hcond, vCmp, vBin, vEq, vUn, vNil, vField, vLoad, takeCells, vIdx, vLenT, vLen, vExtract, hBS, hfill, hNew, hStore, hBox, hc_int, hc_bool, hc_string, hc_slice, hc_nilp, hc_nilm, hc_nilf, hc_agg, hc_list, hc_view, hc_ptr, hc_map, hc_func, ho_int, ho_bool, ho_string, ho_slice, ho_nilp, ho_nilm, ho_nilf, ho_list, ho_view, ho_ptr, ho_map, ho_func, putCells, hAppend, lcells, litCells, isNilS, llen, room, vMk, set_at, Join, vToInt, vSlice, cutAt, intAt, bl_len, bits64, bits64u, bits8, hfold, vMax2, vMin2, Try.underlying3, Try.underlying9, Try.underlying22, Try.underlying31, Try.underlying32, Try.underlying36, Try.underlying44, Try.underlying90, hMark, c0, c1]
    exact awake s
  by_cases c2 : a1 < 0
  · simp [c5, bindO, hcond, vCmp, vBin, vEq, vUn, vNil, vField, vLoad, takeCells, vIdx, vLenT, vLen, vExtract, hBS, hfill, hNew, hStore, hBox, hc_int, hc_bool, hc_string, hc_slice, hc_nilp, hc_nilm, hc_nilf, hc_agg, hc_list, hc_view, hc_ptr, hc_map, hc_func, ho_int, ho_bool, ho_string, ho_slice, ho_nilp, ho_nilm, ho_nilf, ho_list, ho_view, ho_ptr, ho_map, ho_func, putCells, hAppend, lcells, litCells, isNilS, llen, room, vMk, set_at, Join, vToInt, vSlice, cutAt, intAt, bl_len, bits64, bits64u, bits8, hfold, vMax2, vMin2, Try.underlying3, Try.underlying9, Try.underlying22, Try.underlying31, Try.underlying32, Try.underlying36, Try.underlying44, Try.underlying90, hMark, c0, c1, c2]
    exact awake s
  by_cases c3 : 1125899906842624 < a1
  · simp [c5, bindO, hcond, vCmp, vBin, vEq, vUn, vNil, vField, vLoad, takeCells, vIdx, vLenT, vLen, vExtract, hBS, hfill, hNew, hStore, hBox, hc_int, hc_bool, hc_string, hc_slice, hc_nilp, hc_nilm, hc_nilf, hc_agg, hc_list, hc_view, hc_ptr, hc_map, hc_func, ho_int, ho_bool, ho_string, ho_slice, ho_nilp, ho_nilm, ho_nilf, ho_list, ho_view, ho_ptr, ho_map, ho_func, putCells, hAppend, lcells, litCells, isNilS, llen, room, vMk, set_at, Join, vToInt, vSlice, cutAt, intAt, bl_len, bits64, bits64u, bits8, hfold, vMax2, vMin2, Try.underlying3, Try.underlying9, Try.underlying22, Try.underlying31, Try.underlying32, Try.underlying36, Try.underlying44, Try.underlying90, hMark, c0, c1, c2, c3]
    exact awake s
  by_cases c4 : a2 < 0
  · simp [c5, bindO, hcond, vCmp, vBin, vEq, vUn, vNil, vField, vLoad, takeCells, vIdx, vLenT, vLen, vExtract, hBS, hfill, hNew, hStore, hBox, hc_int, hc_bool, hc_string, hc_slice, hc_nilp, hc_nilm, hc_nilf, hc_agg, hc_list, hc_view, hc_ptr, hc_map, hc_func, ho_int, ho_bool, ho_string, ho_slice, ho_nilp, ho_nilm, ho_nilf, ho_list, ho_view, ho_ptr, ho_map, ho_func, putCells, hAppend, lcells, litCells, isNilS, llen, room, vMk, set_at, Join, vToInt, vSlice, cutAt, intAt, bl_len, bits64, bits64u, bits8, hfold, vMax2, vMin2, Try.underlying3, Try.underlying9, Try.underlying22, Try.underlying31, Try.underlying32, Try.underlying36, Try.underlying44, Try.underlying90, hMark, c0, c1, c2, c3, c4]
    exact awake s
  by_cases c5' : 1125899906842624 < a2
  · simp [c5, bindO, hcond, vCmp, vBin, vEq, vUn, vNil, vField, vLoad, takeCells, vIdx, vLenT, vLen, vExtract, hBS, hfill, hNew, hStore, hBox, hc_int, hc_bool, hc_string, hc_slice, hc_nilp, hc_nilm, hc_nilf, hc_agg, hc_list, hc_view, hc_ptr, hc_map, hc_func, ho_int, ho_bool, ho_string, ho_slice, ho_nilp, ho_nilm, ho_nilf, ho_list, ho_view, ho_ptr, ho_map, ho_func, putCells, hAppend, lcells, litCells, isNilS, llen, room, vMk, set_at, Join, vToInt, vSlice, cutAt, intAt, bl_len, bits64, bits64u, bits8, hfold, vMax2, vMin2, Try.underlying3, Try.underlying9, Try.underlying22, Try.underlying31, Try.underlying32, Try.underlying36, Try.underlying44, Try.underlying90, hMark, c0, c1, c2, c3, c4, c5']
    exact awake s
  simp [c5, bindO, hcond, vCmp, vBin, vEq, vUn, vNil, vField, vLoad, takeCells, vIdx, vLenT, vLen, vExtract, hBS, hfill, hNew, hStore, hBox, hc_int, hc_bool, hc_string, hc_slice, hc_nilp, hc_nilm, hc_nilf, hc_agg, hc_list, hc_view, hc_ptr, hc_map, hc_func, ho_int, ho_bool, ho_string, ho_slice, ho_nilp, ho_nilm, ho_nilf, ho_list, ho_view, ho_ptr, ho_map, ho_func, putCells, hAppend, lcells, litCells, isNilS, llen, room, vMk, set_at, Join, vToInt, vSlice, cutAt, intAt, bl_len, bits64, bits64u, bits8, hfold, vMax2, vMin2, Try.underlying3, Try.underlying9, Try.underlying22, Try.underlying31, Try.underlying32, Try.underlying36, Try.underlying44, Try.underlying90, hMark, c0, c1, c2, c3, c4, c5']
  intro k hk j hj R hR T hT B hB G hG
  simp only [set_none_iff] at hj hR hT hB hG
  obtain ⟨n1, hj⟩ := hj
  obtain ⟨n2, n3, hR⟩ := hR
  obtain ⟨n4, n5, n6, hT⟩ := hT
  obtain ⟨n7, n8, n9, n10, hB⟩ := hB
  obtain ⟨n11, n12, n13, n14, n15, hG⟩ := hG
  have m1 := Ne.symm n1
  have m2 := Ne.symm n2
  have m3 := Ne.symm n3
  have m4 := Ne.symm n4
  have m5 := Ne.symm n5
  have m6 := Ne.symm n6
  have m7 := Ne.symm n7
  have m8 := Ne.symm n8
  have m9 := Ne.symm n9
  have m10 := Ne.symm n10
  have m11 := Ne.symm n11
  have m12 := Ne.symm n12
  have m13 := Ne.symm n13
  have m14 := Ne.symm n14
  have m15 := Ne.symm n15
  refine HC.frz (id := k) (cs := [.lit (.int .u8 107)]) (by simp [HS.set, *]) ?_
  simp [frzS_set, frzS_same, frzO, frz2, frz1, frz0, phi, List.map_cons, List.map_nil, n1, n2, n3, n4, n5, n6, n7, n8, n9, n10, n11, n12, n13, n14, n15, m1, m2, m3, m4, m5, m6, m7, m8, m9, m10, m11, m12, m13, m14, m15]
  refine HC.frz (id := j) (cs := [.lit (.int .u8 118)]) (by simp [HS.set, *]) ?_
  simp [frzS_set, frzS_same, frzO, frz2, frz1, frz0, phi, List.map_cons, List.map_nil, n1, n2, n3, n4, n5, n6, n7, n8, n9, n10, n11, n12, n13, n14, n15, m1, m2, m3, m4, m5, m6, m7, m8, m9, m10, m11, m12, m13, m14, m15]
  refine HC.frz (id := R) (cs := recsC [ga]) (by simp [HS.set, *]; rfl) ?_
  simp [frzS_set, frzS_same, frzO, frz2, frz1, frz0, phi, List.map_cons, List.map_nil, n1, n2, n3, n4, n5, n6, n7, n8, n9, n10, n11, n12, n13, n14, n15, m1, m2, m3, m4, m5, m6, m7, m8, m9, m10, m11, m12, m13, m14, m15, recsC_len]
  refine HC.frz (id := T) (cs := recsC [gb a0 a3]) (by simp [HS.set, *]; rfl) ?_
  simp [frzS_set, frzS_same, frzO, frz2, frz1, frz0, phi, List.map_cons, List.map_nil, n1, n2, n3, n4, n5, n6, n7, n8, n9, n10, n11, n12, n13, n14, n15, m1, m2, m3, m4, m5, m6, m7, m8, m9, m10, m11, m12, m13, m14, m15, recsC_len]
  refine HC.frz (id := B) (cs := batsC [ba, bb a0 a3]) (by simp [HS.set, *]; rfl) ?_
  simp [frzS_set, frzS_same, frzO, frz2, frz1, frz0, phi, List.map_cons, List.map_nil, n1, n2, n3, n4, n5, n6, n7, n8, n9, n10, n11, n12, n13, n14, n15, m1, m2, m3, m4, m5, m6, m7, m8, m9, m10, m11, m12, m13, m14, m15, batsC_len]
  refine HC.frz (id := G) (cs := rows segC [some [ba, bb a0 a3], none]) (by simp [HS.set, *]; rfl) ?_
  simp [frzS_set, frzS_same, frzO, frz2, frz1, frz0, phi, List.map_cons, List.map_nil, n1, n2, n3, n4, n5, n6, n7, n8, n9, n10, n11, n12, n13, n14, n15, m1, m2, m3, m4, m5, m6, m7, m8, m9, m10, m11, m12, m13, m14, m15, rows_len segC_len]
  refine (all [some [ba, bb a0 a3], none] 0 ⟨0, 0, 0, 0, 0, false, a1, 9, false⟩ a2 (by simp) (by simp [flatS]) ?_).mono ?_
  · intro x hx b hb
    simp at hx
    rcases hx with rfl | rfl
    · simp at hb
      rcases hb with rfl | rfl
      · exact ⟨_, rfl, by simp, by simp, by intro r hr; simp at hr; subst hr; exact ⟨by show (1 : Nat) ≤ _; omega, by show (1 : Nat) ≤ _; omega⟩⟩
      · exact ⟨_, rfl, by simp, by simp, by intro r hr; simp at hr; subst hr; exact ⟨by show (1 : Nat) ≤ _; omega, trivial⟩⟩
    · simp at hb
  · rintro v s' ⟨-, rfl⟩
    rw [if_neg (by simp), map_g]
    simp only [List.length_cons, List.length_nil, Nat.zero_add, Nat.reduceAdd, Nat.reduceSub]
    have hw : IntKind.i64.wrap (a2 - a0) = a2 - a0 := w64 (by omega) (by omega)
    by_cases hs : a3 = true ∨ a2 - a0 ≤ a1
    · obtain ⟨ho, hg⟩ := outs_stay a0 a1 a2 a3 hs (by omega) (by omega) (by omega) (by omega)
      rw [ho, hg]
      cases a3 with
      | true =>
        simp [bindO, hcond, vCmp, vBin, vEq, vUn, vNil, vField, vLoad, takeCells, vIdx, vLenT, vLen, vExtract, hBS, hfill, hNew, hStore, hBox, hc_int, hc_bool, hc_string, hc_slice, hc_nilp, hc_nilm, hc_nilf, hc_agg, hc_list, hc_view, hc_ptr, hc_map, hc_func, ho_int, ho_bool, ho_string, ho_slice, ho_nilp, ho_nilm, ho_nilf, ho_list, ho_view, ho_ptr, ho_map, ho_func, putCells, hAppend, lcells, litCells, isNilS, llen, room, vMk, set_at, Join, vToInt, vSlice, cutAt, intAt, bl_len, bits64, bits64u, bits8, hfold, vMax2, vMin2, Try.underlying3, Try.underlying9, Try.underlying22, Try.underlying31, Try.underlying32, Try.underlying36, Try.underlying44, Try.underlying90, hMark, segsV, rowV, rowL, rows, segC, batsV, batsC, batC, recsV, recsC, recC, byV, orNil, List.flatMap_cons, List.flatMap_nil, bb]
        exact awake s'
      | false =>
        have hs' : a2 - a0 ≤ a1 := by rcases hs with h | h; cases h; exact h
        by_cases hl : a2 ≤ a0
        · simp [bindO, hcond, vCmp, vBin, vEq, vUn, vNil, vField, vLoad, takeCells, vIdx, vLenT, vLen, vExtract, hBS, hfill, hNew, hStore, hBox, hc_int, hc_bool, hc_string, hc_slice, hc_nilp, hc_nilm, hc_nilf, hc_agg, hc_list, hc_view, hc_ptr, hc_map, hc_func, ho_int, ho_bool, ho_string, ho_slice, ho_nilp, ho_nilm, ho_nilf, ho_list, ho_view, ho_ptr, ho_map, ho_func, putCells, hAppend, lcells, litCells, isNilS, llen, room, vMk, set_at, Join, vToInt, vSlice, cutAt, intAt, bl_len, bits64, bits64u, bits8, hfold, vMax2, vMin2, Try.underlying3, Try.underlying9, Try.underlying22, Try.underlying31, Try.underlying32, Try.underlying36, Try.underlying44, Try.underlying90, hMark, segsV, rowV, rowL, rows, segC, batsV, batsC, batC, recsV, recsC, recC, byV, orNil, List.flatMap_cons, List.flatMap_nil, bb, hw, hl]
          exact awake s'
        · simp [bindO, hcond, vCmp, vBin, vEq, vUn, vNil, vField, vLoad, takeCells, vIdx, vLenT, vLen, vExtract, hBS, hfill, hNew, hStore, hBox, hc_int, hc_bool, hc_string, hc_slice, hc_nilp, hc_nilm, hc_nilf, hc_agg, hc_list, hc_view, hc_ptr, hc_map, hc_func, ho_int, ho_bool, ho_string, ho_slice, ho_nilp, ho_nilm, ho_nilf, ho_list, ho_view, ho_ptr, ho_map, ho_func, putCells, hAppend, lcells, litCells, isNilS, llen, room, vMk, set_at, Join, vToInt, vSlice, cutAt, intAt, bl_len, bits64, bits64u, bits8, hfold, vMax2, vMin2, Try.underlying3, Try.underlying9, Try.underlying22, Try.underlying31, Try.underlying32, Try.underlying36, Try.underlying44, Try.underlying90, hMark, segsV, rowV, rowL, rows, segC, batsV, batsC, batC, recsV, recsC, recC, byV, orNil, List.flatMap_cons, List.flatMap_nil, bb, hw, hl, hs']
          exact awake s'
    · have h3 : a3 = false := by cases a3; rfl; exact absurd (Or.inl rfl) hs
      subst h3
      have hs' : ¬ a2 - a0 ≤ a1 := fun h => hs (Or.inr h)
      have hl : ¬ a2 ≤ a0 := by omega
      obtain ⟨ho, hg⟩ := outs_go a0 a1 a2 (by omega) (by omega) (by omega) (by omega) (by omega)
      rw [ho, hg]
      simp [bindO, hcond, vCmp, vBin, vEq, vUn, vNil, vField, vLoad, takeCells, vIdx, vLenT, vLen, vExtract, hBS, hfill, hNew, hStore, hBox, hc_int, hc_bool, hc_string, hc_slice, hc_nilp, hc_nilm, hc_nilf, hc_agg, hc_list, hc_view, hc_ptr, hc_map, hc_func, ho_int, ho_bool, ho_string, ho_slice, ho_nilp, ho_nilm, ho_nilf, ho_list, ho_view, ho_ptr, ho_map, ho_func, putCells, hAppend, lcells, litCells, isNilS, llen, room, vMk, set_at, Join, vToInt, vSlice, cutAt, intAt, bl_len, bits64, bits64u, bits8, hfold, vMax2, vMin2, Try.underlying3, Try.underlying9, Try.underlying22, Try.underlying31, Try.underlying32, Try.underlying36, Try.underlying44, Try.underlying90, hMark, segsV, rowV, rowL, rows, segC, batsV, batsC, batC, recsV, recsC, recC, byV, orNil, List.flatMap_cons, List.flatMap_nil, bb, hw, hl, hs']
      exact awake s'
end Go.Proofs.Ytecnfekcflfihaa.CL
