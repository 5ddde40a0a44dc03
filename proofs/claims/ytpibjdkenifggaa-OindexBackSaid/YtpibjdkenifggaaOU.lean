/- OindexBack over the H layer: what the law itself asks, and the law. -/
import Derived.Test.YtpibjdkenifggaaOV
namespace Go.Proofs.Ytpibjdkenifggaa.OW
open Go.Proofs.Ytpibjdkenifggaa.H Go.Proofs.Ytpibjdkenifggaa.C0
set_option linter.unusedVariables false
set_option linter.unusedSimpArgs false
set_option maxRecDepth 100000
theorem round01 (s : HS) : HC Try.prog 24 [.lit (.int .i64 0), .lit (.int .i64 1)] s (fun v s' => v = .lit (.int .i64 0) ∧ s' = s) := by
  refine HC24 ?_
  simp [c24, bindO, hcond, vCmp, vBin, vEq, vUn, vNil, vField, vLoad, takeCells, vIdx, vLenT, vLen, vExtract, hBS, hfill, hNew, hStore, hBox, hc_int, hc_bool, hc_string, hc_slice, hc_nilp, hc_nilm, hc_nilf, hc_agg, hc_list, hc_view, hc_ptr, hc_map, hc_func, ho_int, ho_bool, ho_string, ho_slice, ho_nilp, ho_nilm, ho_nilf, ho_list, ho_view, ho_ptr, ho_map, ho_func, putCells, hAppend, lcells, litCells, isNilS, llen, room, vMk, set_at, Join, vToInt, vSlice, cutAt, intAt, bl_len, bits64, bits64u, bits8, Try.underlying3, Try.underlying24, Try.underlying29, Try.underlying70, Try.underlying72, Try.underlying119, Try.underlying128]
theorem len70 (l : List (Int × Int)) (f : Bool) (s : HS) : vLenT (some (.slice 126)) s (.list 2 l.length (el l) f) = some (.lit (.int .i64 l.length)) := by simp [bindO, hcond, vCmp, vBin, vEq, vUn, vNil, vField, vLoad, takeCells, vIdx, vLenT, vLen, vExtract, hBS, hfill, hNew, hStore, hBox, hc_int, hc_bool, hc_string, hc_slice, hc_nilp, hc_nilm, hc_nilf, hc_agg, hc_list, hc_view, hc_ptr, hc_map, hc_func, ho_int, ho_bool, ho_string, ho_slice, ho_nilp, ho_nilm, ho_nilf, ho_list, ho_view, ho_ptr, ho_map, ho_func, putCells, hAppend, lcells, litCells, isNilS, llen, room, vMk, set_at, Join, vToInt, vSlice, cutAt, intAt, bl_len, bits64, bits64u, bits8, Try.underlying3, Try.underlying24, Try.underlying29, Try.underlying70, Try.underlying72, Try.underlying119, Try.underlying128]
theorem same (s : HS) (A : HV) (l : List (Int × Int)) (f : Bool) (hE : Ent s A l) (hl : l.length ≤ 100000) : HC Try.prog 42 [A, .list 2 l.length (el l) f] s (fun v s' => v = .lit (.bool true) ∧ s' = s) := by
  refine HC42 ?_
  have hlen := hE.1
  simp only [Try.underlying72] at hlen
  have hB := len70 l f
  have hEB := Ent.list s l f
  generalize HV.list 2 l.length (el l) f = B at *
  simp [c42, bindO, hcond, vCmp, vBin, vEq, vUn, vNil, takeCells, vLen, vExtract, hBS, hfill, hNew, hStore, hBox, hc_int, hc_bool, hc_string, hc_slice, hc_nilp, hc_nilm, hc_nilf, hc_agg, hc_list, hc_view, hc_ptr, hc_map, hc_func, ho_int, ho_bool, ho_string, ho_slice, ho_nilp, ho_nilm, ho_nilf, ho_list, ho_view, ho_ptr, ho_map, ho_func, putCells, hAppend, lcells, litCells, isNilS, llen, room, vMk, set_at, Join, vToInt, vSlice, cutAt, intAt, bl_len, bits64, bits64u, bits8, Try.underlying3, Try.underlying24, Try.underlying29, Try.underlying70, Try.underlying72, Try.underlying119, Try.underlying128, hlen, hB]
  refine HLoop.ghost (σ := Nat) (fun i => [.lit (.int .i64 i)]) (fun i t => i ≤ l.length ∧ t = s) (fun i => l.length - i) 0 rfl ⟨Nat.zero_le _, rfl⟩ ?_
  rintro i t K ⟨hi, rfl⟩ hK
  by_cases hlt : i < l.length
  · have hlt' : (i : Int) < (l.length : Int) := by omega
    obtain ⟨e, he, -, e0, e1, f0, f1, g0, g1⟩ := hE.2 i hlt
    obtain ⟨e', he', -, e0', e1', f0', f1', g0', g1'⟩ := hEB.2 i hlt
    have g0 := g0 t (le_refl' t)
    have g1 := g1 t (le_refl' t)
    have g0' := g0' t (le_refl' t)
    have g1' := g1' t (le_refl' t)
    generalize l.getD i (0, 0) = x at *
    obtain ⟨x0, x1⟩ := x
    simp only at g0 g1 g0' g1'
    simp [bindO, hcond, vBin, vCmp, Join, hlt', hlt, he, he', f0, f0', f1, f1', g0, g1, g0', g1', Try.underlying3]
    refine hK (i + 1) _ _ ?_ ⟨hlt, rfl⟩ (by omega)
    rw [w64 (by omega) (by omega)]; rfl
  · obtain rfl : i = l.length := by omega
    simp [bindO, hcond, vCmp, vBin, vEq, vUn, vNil, takeCells, vLen, vExtract, hBS, hfill, hNew, hStore, hBox, hc_int, hc_bool, hc_string, hc_slice, hc_nilp, hc_nilm, hc_nilf, hc_agg, hc_list, hc_view, hc_ptr, hc_map, hc_func, ho_int, ho_bool, ho_string, ho_slice, ho_nilp, ho_nilm, ho_nilf, ho_list, ho_view, ho_ptr, ho_map, ho_func, putCells, hAppend, lcells, litCells, isNilS, llen, room, vMk, set_at, Join, vToInt, vSlice, cutAt, intAt, bl_len, bits64, bits64u, bits8, Try.underlying3, Try.underlying24, Try.underlying29, Try.underlying70, Try.underlying72, Try.underlying119, Try.underlying128]
theorem made (l : List (Int × Int)) (f : Bool) (s : HS) (hl : l.length ≤ 100000) : HC Try.prog 39 [.list 2 l.length (el l) f] s (fun v s' => HS.le s s' ∧ Ent s' v l) := by
  refine HC39 ?_
  have hB := len70 l f
  have hEB := Ent.list s l f
  generalize HV.list 2 l.length (el l) f = B at *
  simp only [c39]
  refine HLoop.ghost (σ := HV × Nat) (fun g => [g.1, .lit (.int .i64 g.2)]) (fun g t => g.2 ≤ l.length ∧ HS.le s t ∧ OutN s t g.1 (l.take g.2)) (fun g => l.length - g.2) (.lit (.slice none 0 0), 0) rfl ⟨Nat.zero_le _, le_refl' s, .inl ⟨rfl, rfl⟩⟩ ?_
  rintro ⟨A, i⟩ t K ⟨hi, ht, ho⟩ hK
  simp only at hi ht ho
  by_cases hlt : i < l.length
  · have hlt' : (i : Int) < (l.length : Int) := by omega
    obtain ⟨e, he, -, e0, e1, f0, f1, g0, g1⟩ := hEB.2 i hlt
    have g0 := g0 t ht
    have g1 := g1 t ht
    have hts := take_succ' (0, 0) l hlt
    generalize l.getD i (0, 0) = x at *
    obtain ⟨x0, x1⟩ := x
    simp only at g0 g1
    have hM : vMk [(0, 1), (1, 1)] [.lit (.int .i64 0), .lit (.int .i64 0)] [(0, .lit (.int .i64 x0)), (1, .lit (.int .i64 x1))] = some (.agg [.lit (.int .i64 x0), .lit (.int .i64 x1)]) := by simp [bindO, hcond, vCmp, vBin, vEq, vUn, vNil, vField, vLoad, takeCells, vIdx, vLenT, vLen, vExtract, hBS, hfill, hNew, hStore, hBox, hc_int, hc_bool, hc_string, hc_slice, hc_nilp, hc_nilm, hc_nilf, hc_agg, hc_list, hc_view, hc_ptr, hc_map, hc_func, ho_int, ho_bool, ho_string, ho_slice, ho_nilp, ho_nilm, ho_nilf, ho_list, ho_view, ho_ptr, ho_map, ho_func, putCells, hAppend, lcells, litCells, isNilS, llen, room, vMk, set_at, Join, vToInt, vSlice, cutAt, intAt, bl_len, bits64, bits64u, bits8, Try.underlying3, Try.underlying24, Try.underlying29, Try.underlying70, Try.underlying72, Try.underlying119, Try.underlying128]
    simp only [hB, bindO, hcond, vBin, List.headD_cons, List.tail_cons, hlt', decide_true, he, f0, f1, g0, g1, hM, Try.underlying70, if_true]
    refine outN_append (b := s) (o := l.take i) ho ht (by rw [List.length_take]; omega) ?_
    intro A' t' h1 h2
    refine hK (A', i + 1) _ _ ?_ ⟨hlt, h2, by rw [hts]; exact h1⟩ (by show l.length - (i + 1) < l.length - i; omega)
    rw [w64 (by omega) (by omega)]; rfl
  · obtain rfl : i = l.length := by omega
    rw [List.take_length] at ho
    simp [bindO, hcond, vCmp, vBin, vEq, vUn, vNil, takeCells, vLen, vExtract, hBS, hfill, hNew, hStore, hBox, hc_int, hc_bool, hc_string, hc_slice, hc_nilp, hc_nilm, hc_nilf, hc_agg, hc_list, hc_view, hc_ptr, hc_map, hc_func, ho_int, ho_bool, ho_string, ho_slice, ho_nilp, ho_nilm, ho_nilf, ho_list, ho_view, ho_ptr, ho_map, ho_func, putCells, hAppend, lcells, litCells, isNilS, llen, room, vMk, set_at, Join, vToInt, vSlice, cutAt, intAt, bl_len, bits64, bits64u, bits8, Try.underlying3, Try.underlying24, Try.underlying29, Try.underlying70, Try.underlying72, Try.underlying119, Try.underlying128, hB]
    exact ⟨ht, ho.ent⟩
/-- The reference's bytes. -/
theorem refFixed (n : Int) (s : HS) : HC Try.prog 60 [.lit (.int .i64 n), .lit (.int .i64 8)] s (fun v s' => ∃ bs : List Int, bs.length = 8 ∧ v = .list 1 8 (bl bs) false ∧ s' = s) := by
  refine HC.up (HC60 ?_)
  simp only [c60, hMake]
  refine ⟨by decide, by decide, by decide, by decide, rfl, rfl, fun id hid => ?_⟩
  refine HLoop.ghost (σ := Nat) (fun i => [.lit (.int .i64 i)]) (fun i t => i ≤ 8 ∧ ∃ bs : List Int, bs.length = 8 ∧ t = s.set id (.cells (bl bs))) (fun i => 8 - i) 0 rfl ⟨Nat.zero_le _, List.replicate 8 0, rfl, rfl⟩ ?_
  rintro i t K ⟨hi, bs, hbs, rfl⟩ hK
  by_cases hlt : i < 8
  · have hlt' : (i : Int) < 8 := by omega
    have e1 : IntKind.i64.wrap 7 = 7 := rfl
    have e2 : IntKind.i64.wrap (7 - (i : Int)) = 7 - i := w64 (by omega) (by omega)
    have e3 : IntKind.i64.wrap (8 * (i : Int)) = 8 * i := w64 (by omega) (by omega)
    have e4 : ¬ 8 * (i : Int) < 0 := by omega
    have e5 : (i : Int) ≤ 7 := by omega
    have e6 : (7 - (i : Int)) < 8 := by omega
    have e7 : (7 - (i : Int)).toNat = 7 - i := by omega
    have e8 : 7 - i + 1 ≤ bs.length := by omega
    simp [bindO, hcond, vCmp, vBin, vEq, vUn, vNil, vField, vLoad, takeCells, vIdx, vLenT, vLen, vExtract, hBS, hfill, hNew, hStore, hBox, hc_int, hc_bool, hc_string, hc_slice, hc_nilp, hc_nilm, hc_nilf, hc_agg, hc_list, hc_view, hc_ptr, hc_map, hc_func, ho_int, ho_bool, ho_string, ho_slice, ho_nilp, ho_nilm, ho_nilf, ho_list, ho_view, ho_ptr, ho_map, ho_func, putCells, hAppend, lcells, litCells, isNilS, llen, room, vMk, set_at, Join, vToInt, vSlice, cutAt, intAt, bl_len, bits64, bits64u, bits8, Try.underlying3, Try.underlying24, Try.underlying29, Try.underlying70, Try.underlying72, Try.underlying119, Try.underlying128, e1, e2, e3, e4, e5, e6, e7, e8, hlt']
    rw [set_set]
    generalize IntKind.u8.wrap _ = b
    refine hK (i + 1) _ _ (by rw [w64 (by omega) (by omega)]; rfl) ⟨hlt, bs.take (7 - i) ++ b :: bs.drop (7 - i + 1), by simp; omega, ?_⟩ (by omega)
    simp [bl]
  · obtain rfl : i = 8 := by omega
    simp [bindO, hcond, vCmp, vBin, vEq, vUn, vNil, vField, vLoad, takeCells, vIdx, vLenT, vLen, vExtract, hBS, hfill, hNew, hStore, hBox, hc_int, hc_bool, hc_string, hc_slice, hc_nilp, hc_nilm, hc_nilf, hc_agg, hc_list, hc_view, hc_ptr, hc_map, hc_func, ho_int, ho_bool, ho_string, ho_slice, ho_nilp, ho_nilm, ho_nilf, ho_list, ho_view, ho_ptr, ho_map, ho_func, putCells, hAppend, lcells, litCells, isNilS, llen, room, vMk, set_at, Join, vToInt, vSlice, cutAt, intAt, bl_len, bits64, bits64u, bits8, Try.underlying3, Try.underlying24, Try.underlying29, Try.underlying70, Try.underlying72, Try.underlying119, Try.underlying128]
    refine ⟨_, _, up1 (cs := bl bs) (set_at _ _ _) (by simp [bl_len, hbs]) (le_del_new (le_set_new _ (le_refl' s) hid) hid), bs, hbs, rfl, rfl⟩
/-- A row of bytes that grows. -/
def OutB (b t : HS) (A : HV) (n : Nat) : Prop :=
  (A = .lit (.slice none 0 0) ∧ n = 0) ∨ ∃ q cs, b q = none ∧ A = .view q 0 1 n false ∧ t q = some (.cells cs) ∧ cs.length = n
theorem outB_append {b t : HS} {A : HV} {n : Nat} {bs : List Int} {f : Bool} {K : HV → HS → Prop} (h : OutB b t A n) (hb : HS.le b t) (hl : n ≤ 100000) (hbs : bs.length = 8)
    (hK : ∀ A' t', OutB b t' A' (n + 8) → HS.le b t' → K A' t') : hAppend t 1 1 A (.list 1 8 (bl bs) f) K := by
  rcases h with ⟨rfl, rfl⟩ | ⟨q, cs, h1, rfl, h3, h4⟩
  · simp [bindO, hcond, vCmp, vBin, vEq, vUn, vNil, vField, vLoad, takeCells, vIdx, vLenT, vLen, vExtract, hBS, hfill, hNew, hStore, hBox, hc_int, hc_bool, hc_string, hc_slice, hc_nilp, hc_nilm, hc_nilf, hc_agg, hc_list, hc_view, hc_ptr, hc_map, hc_func, ho_int, ho_bool, ho_string, ho_slice, ho_nilp, ho_nilm, ho_nilf, ho_list, ho_view, ho_ptr, ho_map, ho_func, putCells, hAppend, lcells, litCells, isNilS, llen, room, vMk, set_at, Join, vToInt, vSlice, cutAt, intAt, bl_len, bits64, bits64u, bits8, Try.underlying3, Try.underlying24, Try.underlying29, Try.underlying70, Try.underlying72, Try.underlying119, Try.underlying128]
    intro i2 f2
    exact hK _ _ (.inr ⟨i2, bl bs, le_none hb f2, rfl, set_at _ _ _, by rw [bl_len, hbs]⟩) (le_set_new _ hb f2)
  · simp [bindO, hcond, vCmp, vBin, vEq, vUn, vNil, vField, vLoad, takeCells, vIdx, vLenT, vLen, vExtract, hBS, hfill, hNew, hStore, hBox, hc_int, hc_bool, hc_string, hc_slice, hc_nilp, hc_nilm, hc_nilf, hc_agg, hc_list, hc_view, hc_ptr, hc_map, hc_func, ho_int, ho_bool, ho_string, ho_slice, ho_nilp, ho_nilm, ho_nilf, ho_list, ho_view, ho_ptr, ho_map, ho_func, putCells, hAppend, lcells, litCells, isNilS, llen, room, vMk, set_at, Join, vToInt, vSlice, cutAt, intAt, bl_len, bits64, bits64u, bits8, Try.underlying3, Try.underlying24, Try.underlying29, Try.underlying70, Try.underlying72, Try.underlying119, Try.underlying128, h3, h4]
    refine ⟨by omega, fun i2 f2 => ?_⟩
    refine hK _ _ (.inr ⟨i2, _, le_none hb f2, rfl, set_at _ _ _, by simp [bl_len, h4, hbs]⟩) ?_
    intro k ob hk
    have hkq : k ≠ q := by rintro rfl; rw [h1] at hk; cases hk
    have hk1 := hb k ob hk
    rw [set_ne _ _ (ne_new hk1 f2), del_ne _ hkq]
    exact hk1
theorem refEncode (l : List (Int × Int)) (f : Bool) (s : HS) (hl : l.length ≤ 300) (hbad : okE (-1) (-1) l = false) :
    HC Try.prog 40 [.list 2 l.length (el l) f, .lit (.bool false)] s (fun v s' => v = .tup [.lit (.slice none 0 0), .lit (.int .i64 1)] ∧ s' = s) := by
  refine HC.weaken (HC40 ?_)
  have hB := len70 l f
  have hEB := Ent.list s l f
  generalize HV.list 2 l.length (el l) f = B at *
  simp only [c40]
  refine HLoop.ghost (σ := HV × Nat × Int × Int) (fun g => [g.1, .lit (.int .i64 g.2.1)]) (fun g t => g.2.1 ≤ l.length ∧ HS.le s t ∧ OutB s t g.1 (16 * g.2.1) ∧ okE g.2.2.1 g.2.2.2 (l.drop g.2.1) = false ∧ (g.2.1 = 0 ∧ g.2.2 = (-1, -1) ∨ ∃ j, g.2.1 = j + 1 ∧ g.2.2 = l.getD j (0, 0) ∧ 0 ≤ g.2.2.1 ∧ 0 ≤ g.2.2.2)) (fun g => l.length - g.2.1) (.lit (.slice none 0 0), 0, -1, -1) rfl ⟨Nat.zero_le _, le_refl' s, .inl ⟨rfl, rfl⟩, hbad, .inl ⟨rfl, rfl⟩⟩ ?_
  rintro ⟨A, i, a, b⟩ t K ⟨hi, ht, ho, hok, hp⟩ hK
  simp only at hi ht ho hok hp
  by_cases hlt : i < l.length
  · have hlt' : (i : Int) < (l.length : Int) := by omega
    obtain ⟨e, he, -, e0, e1, f0, f1, g0, g1⟩ := hEB.2 i hlt
    have k1 : ∀ t', HS.le s t' → vLoad t' e1 1 false = vLoad t e1 1 false := fun t' h' => (g1 t' h').trans (g1 t ht).symm
    have g0 := g0 t ht
    have g1 := g1 t ht
    have hdc := drop_cons' (0, 0) l hlt
    have hgi : l.getD i (0, 0) = l.getD i (0, 0) := rfl
    generalize hx : l.getD i (0, 0) = x at *
    obtain ⟨x0, x1⟩ := x
    simp only at g0 g1
    rw [hdc] at hok
    simp only [hB, bindO, hcond, vBin, List.headD_cons, List.tail_cons, hlt', decide_true, Try.underlying70, if_true]
    have hgood : okE x0 x1 (l.drop (i + 1)) = false → 0 ≤ x0 → 0 ≤ x1 → HC Try.prog 60 [.lit (.int .i64 x0), .lit (.int .i64 8)] t (fun r49 s50 => (vLoad s50 e1 1 false = some (.lit (.int .i64 x1)) ∧ hAppend s50 1 1 A r49 (fun x51 s52 => (vLoad s52 e1 1 false = vLoad s50 e1 1 false ∧ HC Try.prog 60 [.lit (.int .i64 x1), .lit (.int .i64 8)] s52 (fun r53 s54 => hAppend s54 1 1 x51 r53 (fun x55 s56 => K [x55, .lit (.int .i64 (IntKind.i64.wrap ((i : Int) + 1)))] s56)))))) := by
      intro q1 q2 q3
      refine (refFixed x0 t).mono ?_
      rintro v t1 ⟨bs, hbs, rfl, rfl⟩
      refine ⟨g1, ?_⟩
      refine outB_append ho ht (by omega) hbs ?_
      intro A2 t2 o2 h2
      refine ⟨(k1 _ h2).trans (k1 _ ht).symm, ?_⟩
      refine (refFixed x1 t2).mono ?_
      rintro v t3 ⟨bs2, hbs2, rfl, rfl⟩
      refine outB_append o2 h2 (by omega) hbs2 ?_
      intro A4 t4 o4 h4
      refine hK (A4, i + 1, x0, x1) _ _ (by rw [w64 (by omega) (by omega)]; rfl) ⟨hlt, h4, ?_, q1, .inr ⟨i, rfl, hx.symm, q2, q3⟩⟩ (by show l.length - (i + 1) < l.length - i; omega)
      have : 16 * i + 8 + 8 = 16 * (i + 1) := by omega
      rw [this] at o4
      exact o4
    by_cases hx0 : x0 < 0
    · simp only [Join, hB, bindO, hcond, vBin, List.headD_cons, List.tail_cons, decide_true, he, f0, f1, g0, g1, if_true, hx0]
      exact ⟨s, ht, trivial, rfl⟩
    by_cases hx1 : x1 < 0
    · simp only [Join, hB, bindO, hcond, vBin, List.headD_cons, List.tail_cons, decide_true, decide_false, he, f0, f1, g0, g1, if_true, hx0, hx1]
      exact ⟨s, ht, trivial, rfl⟩
    rcases hp with ⟨rfl, hab⟩ | ⟨j, rfl, hab, ha, hb⟩
    · cases hab
      have q : okE x0 x1 (l.drop (0 + 1)) = false := by
        have : ¬ (x0 ≤ -1 ∨ x1 ≤ -1) := by omega
        simpa [okE, this] using hok
      have h00 : ¬ (((0 : Nat) : Int) > 0) := by decide
      simp only [Join, hB, bindO, hcond, vBin, List.headD_cons, List.tail_cons, decide_true, decide_false, he, f0, f1, g0, g1, if_true, hx0, hx1, h00]
      exact hgood q (by omega) (by omega)
    · have hj : j < l.length := by omega
      obtain ⟨e', he', -, e0', e1', f0', f1', g0', g1'⟩ := hEB.2 j hj
      have g0' := g0' t ht
      have g1' := g1' t ht
      rw [← hab] at g0' g1'
      simp only at g0' g1'
      have hj0 : ((j + 1 : Nat) : Int) > 0 := by omega
      have hjw : IntKind.i64.wrap (((j + 1 : Nat) : Int) - 1) = (j : Int) := by rw [w64 (by omega) (by omega)]; omega
      by_cases c1 : x1 ≤ b
      · simp only [Join, hB, bindO, hcond, vBin, List.headD_cons, List.tail_cons, decide_true, decide_false, he, f0, f1, g0, g1, if_true, hx0, hx1, hj0, hjw, he', f0', f1', g0', g1', c1]
        exact ⟨s, ht, trivial, rfl⟩
      by_cases c2 : x0 < a
      · simp only [Join, hB, bindO, hcond, vBin, List.headD_cons, List.tail_cons, decide_true, decide_false, he, f0, f1, g0, g1, if_true, hx0, hx1, hj0, hjw, he', f0', f1', g0', g1', c1, c2]
        exact ⟨s, ht, trivial, rfl⟩
      by_cases c3 : x0 = a
      · have c3' : (x0 == a) = true := by simpa using c3
        simp only [Join, hB, bindO, hcond, vBin, vUn, vCmp, Bool.not_false, List.headD_cons, List.tail_cons, decide_true, decide_false, he, f0, f1, g0, g1, if_true, hx0, hx1, hj0, hjw, he', f0', f1', g0', g1', c1, c2, c3']
        exact ⟨s, ht, trivial, rfl⟩
      have q : okE x0 x1 (l.drop (j + 1 + 1)) = false := by
        have : ¬ (x0 ≤ a ∨ x1 ≤ b) := by omega
        simpa [okE, this] using hok
      have c3' : (x0 == a) = false := by simpa using c3
      simp only [Join, hB, bindO, hcond, vBin, vUn, vCmp, Bool.not_false, List.headD_cons, List.tail_cons, decide_true, decide_false, he, f0, f1, g0, g1, if_true, hx0, hx1, hj0, hjw, he', f0', f1', g0', g1', c1, c2, c3']
      exact hgood q (by omega) (by omega)
  · obtain rfl : i = l.length := by omega
    rw [List.drop_length] at hok
    cases hok
def look (o : Int) (l : List (Int × Int)) : Int := l.foldl (fun p x => if x.1 ≤ o then x.2 else p) 0
theorem lookup {A : HV} {l : List (Int × Int)} {s : HS} (hE : Ent s A l) (hl : l.length ≤ 300) (o : Int) : HC Try.prog 57 [A, .lit (.int .i64 o)] s (fun v s' => v = .lit (.int .i64 (look o l)) ∧ s' = s) := by
  refine HC.weaken (HC57 ?_)
  have hlen := hE.1
  simp only [Try.underlying72] at hlen
  simp only [c57, Try.underlying72, bindO, hlen]
  refine HLoop.ghost (σ := Nat) (fun i => [.lit (.int .i64 (look o (l.take i))), .lit (.int .i64 i)]) (fun i t => i ≤ l.length ∧ HS.le s t) (fun i => l.length - i) 0 rfl ⟨Nat.zero_le _, le_refl' s⟩ ?_
  rintro i t K ⟨hi, ht⟩ hK
  by_cases hlt : i < l.length
  · have hlt' : (i : Int) < (l.length : Int) := by omega
    obtain ⟨e, he, g, -⟩ := hE.2 i hlt
    have g := g t ht
    have hts := take_succ' (0, 0) l hlt
    generalize l.getD i (0, 0) = x at *
    obtain ⟨x0, x1⟩ := x
    simp only at g
    have hlk : look o (l.take (i + 1)) = if x0 ≤ o then x1 else look o (l.take i) := by rw [hts]; simp [look]
    simp only [Join, hcond, vBin, List.headD_cons, List.tail_cons, hlt', decide_true, he, g, if_true]
    intro X hX
    have hle := le_set_new (lastO x0 x1) ht hX
    by_cases hx : x0 ≤ o
    · rw [if_pos hx] at hlk
      simp [bindO, hcond, vCmp, vBin, vEq, vUn, vNil, vField, vLoad, takeCells, vIdx, vLenT, vLen, vExtract, hBS, hfill, hNew, hStore, hBox, hc_int, hc_bool, hc_string, hc_slice, hc_nilp, hc_nilm, hc_nilf, hc_agg, hc_list, hc_view, hc_ptr, hc_map, hc_func, ho_int, ho_bool, ho_string, ho_slice, ho_nilp, ho_nilm, ho_nilf, ho_list, ho_view, ho_ptr, ho_map, ho_func, putCells, hAppend, lcells, litCells, isNilS, llen, room, vMk, set_at, Join, vToInt, vSlice, cutAt, intAt, bl_len, bits64, bits64u, bits8, Try.underlying3, Try.underlying24, Try.underlying29, Try.underlying70, Try.underlying72, Try.underlying119, Try.underlying128, hx]
      rw [set_set]
      refine hK (i + 1) _ _ (by rw [w64 (by omega) (by omega), hlk]; rfl) ⟨hlt, hle⟩ (by omega)
    · rw [if_neg hx] at hlk
      simp [bindO, hcond, vCmp, vBin, vEq, vUn, vNil, vField, vLoad, takeCells, vIdx, vLenT, vLen, vExtract, hBS, hfill, hNew, hStore, hBox, hc_int, hc_bool, hc_string, hc_slice, hc_nilp, hc_nilm, hc_nilf, hc_agg, hc_list, hc_view, hc_ptr, hc_map, hc_func, ho_int, ho_bool, ho_string, ho_slice, ho_nilp, ho_nilm, ho_nilf, ho_list, ho_view, ho_ptr, ho_map, ho_func, putCells, hAppend, lcells, litCells, isNilS, llen, room, vMk, set_at, Join, vToInt, vSlice, cutAt, intAt, bl_len, bits64, bits64u, bits8, Try.underlying3, Try.underlying24, Try.underlying29, Try.underlying70, Try.underlying72, Try.underlying119, Try.underlying128, hx]
      rw [set_set]
      refine hK (i + 1) _ _ (by rw [w64 (by omega) (by omega), hlk]; rfl) ⟨hlt, hle⟩ (by omega)
  · obtain rfl : i = l.length := by omega
    simp [bindO, hcond, vCmp, vBin, vEq, vUn, vNil, vField, vLoad, takeCells, vIdx, vLenT, vLen, vExtract, hBS, hfill, hNew, hStore, hBox, hc_int, hc_bool, hc_string, hc_slice, hc_nilp, hc_nilm, hc_nilf, hc_agg, hc_list, hc_view, hc_ptr, hc_map, hc_func, ho_int, ho_bool, ho_string, ho_slice, ho_nilp, ho_nilm, ho_nilf, ho_list, ho_view, ho_ptr, ho_map, ho_func, putCells, hAppend, lcells, litCells, isNilS, llen, room, vMk, set_at, Join, vToInt, vSlice, cutAt, intAt, bl_len, bits64, bits64u, bits8, Try.underlying3, Try.underlying24, Try.underlying29, Try.underlying70, Try.underlying72, Try.underlying119, Try.underlying128]
    exact ht
theorem awake (s : HS) : HC Try.prog 37 [] s (fun v s' => v = .lit (.bool true)) := by
  refine HC37 ?_
  have hM1 : vMk [(0, 1), (1, 1)] [.lit (.int .i64 0), .lit (.int .i64 0)] [(0, .lit (.int .i64 3)), (1, .lit (.int .i64 50))] = some (.agg [.lit (.int .i64 3), .lit (.int .i64 50)]) := by simp [bindO, hcond, vCmp, vBin, vEq, vUn, vNil, vField, vLoad, takeCells, vIdx, vLenT, vLen, vExtract, hBS, hfill, hNew, hStore, hBox, hc_int, hc_bool, hc_string, hc_slice, hc_nilp, hc_nilm, hc_nilf, hc_agg, hc_list, hc_view, hc_ptr, hc_map, hc_func, ho_int, ho_bool, ho_string, ho_slice, ho_nilp, ho_nilm, ho_nilf, ho_list, ho_view, ho_ptr, ho_map, ho_func, putCells, hAppend, lcells, litCells, isNilS, llen, room, vMk, set_at, Join, vToInt, vSlice, cutAt, intAt, bl_len, bits64, bits64u, bits8, Try.underlying3, Try.underlying24, Try.underlying29, Try.underlying70, Try.underlying72, Try.underlying119, Try.underlying128]
  have hM2 : vMk [(0, 1), (1, 1)] [.lit (.int .i64 0), .lit (.int .i64 0)] [(0, .lit (.int .i64 7)), (1, .lit (.int .i64 90))] = some (.agg [.lit (.int .i64 7), .lit (.int .i64 90)]) := by simp [bindO, hcond, vCmp, vBin, vEq, vUn, vNil, vField, vLoad, takeCells, vIdx, vLenT, vLen, vExtract, hBS, hfill, hNew, hStore, hBox, hc_int, hc_bool, hc_string, hc_slice, hc_nilp, hc_nilm, hc_nilf, hc_agg, hc_list, hc_view, hc_ptr, hc_map, hc_func, ho_int, ho_bool, ho_string, ho_slice, ho_nilp, ho_nilm, ho_nilf, ho_list, ho_view, ho_ptr, ho_map, ho_func, putCells, hAppend, lcells, litCells, isNilS, llen, room, vMk, set_at, Join, vToInt, vSlice, cutAt, intAt, bl_len, bits64, bits64u, bits8, Try.underlying3, Try.underlying24, Try.underlying29, Try.underlying70, Try.underlying72, Try.underlying119, Try.underlying128]
  have hF : hfill (fun i => some (i * 2, 2)) [.lit (.int .i64 0), .lit (.int .i64 0), .lit (.int .i64 0), .lit (.int .i64 0)] [(0, .agg [.lit (.int .i64 3), .lit (.int .i64 50)]), (1, .agg [.lit (.int .i64 7), .lit (.int .i64 90)])] = some (el [(3, 50), (7, 90)]) := by simp [bindO, hcond, vCmp, vBin, vEq, vUn, vNil, vField, vLoad, takeCells, vIdx, vLenT, vLen, vExtract, hBS, hfill, hNew, hStore, hBox, hc_int, hc_bool, hc_string, hc_slice, hc_nilp, hc_nilm, hc_nilf, hc_agg, hc_list, hc_view, hc_ptr, hc_map, hc_func, ho_int, ho_bool, ho_string, ho_slice, ho_nilp, ho_nilm, ho_nilf, ho_list, ho_view, ho_ptr, ho_map, ho_func, putCells, hAppend, lcells, litCells, isNilS, llen, room, vMk, set_at, Join, vToInt, vSlice, cutAt, intAt, bl_len, bits64, bits64u, bits8, Try.underlying3, Try.underlying24, Try.underlying29, Try.underlying70, Try.underlying72, Try.underlying119, Try.underlying128, el]
  simp only [c37, hM1, hM2, bindO, hBS, hF]
  intro p hp
  have hE : Ent (s.set p (.cells (el [(3, 50), (7, 90)]))) (.view p 0 2 2 true) [(3, 50), (7, 90)] := Ent.view (set_at _ _ _) true
  refine (encodeG hE (by decide)).mono ?_
  rintro v s1 ⟨rfl, rfl⟩
  have hV : encV [(3, 50), (7, 90)] = .tup [.list 1 32 (bl (encE [(3, 50), (7, 90)])) false, .lit (.int .i64 0)] := by
    unfold encV
    rw [if_pos (by decide)]
    rfl
  rw [hV]
  have hF2 : hfill (fun i => some (i * 1, 1)) [.lit (.int .u8 0)] [(0, .lit (.int .u8 1))] = some (bl [1]) := by simp [bindO, hcond, vCmp, vBin, vEq, vUn, vNil, vField, vLoad, takeCells, vIdx, vLenT, vLen, vExtract, hBS, hfill, hNew, hStore, hBox, hc_int, hc_bool, hc_string, hc_slice, hc_nilp, hc_nilm, hc_nilf, hc_agg, hc_list, hc_view, hc_ptr, hc_map, hc_func, ho_int, ho_bool, ho_string, ho_slice, ho_nilp, ho_nilm, ho_nilf, ho_list, ho_view, ho_ptr, ho_map, ho_func, putCells, hAppend, lcells, litCells, isNilS, llen, room, vMk, set_at, Join, vToInt, vSlice, cutAt, intAt, bl_len, bits64, bits64u, bits8, Try.underlying3, Try.underlying24, Try.underlying29, Try.underlying70, Try.underlying72, Try.underlying119, Try.underlying128, bl]
  simp only [vExtract, hF2]
  simp
  intro q hq
  refine HC.upArgs (args' := [.list 1 1 (bl [1]) false]) (up1 (set_at _ _ _) rfl (le_del_new (le_set_new _ (le_refl' _) hq) hq)) ?_
  refine (decode [] [1] [1] false _ rfl (by decide) (by decide) rfl (by simp)).mono ?_
  rintro v s2 ⟨hle, h⟩
  rw [if_neg (by simp)] at h
  subst h
  have hE2 := hE.mono hle
  simp
  refine (lookup hE2 (by decide) 6).mono ?_
  rintro v s3 ⟨rfl, rfl⟩
  have l6 : look 6 [(3, 50), (7, 90)] = 50 := by decide
  have l2 : look 2 [(3, 50), (7, 90)] = 0 := by decide
  rw [l6]
  simp [bindO, hcond, vCmp, vBin, vEq, vUn, vNil, vField, vLoad, takeCells, vIdx, vLenT, vLen, vExtract, hBS, hfill, hNew, hStore, hBox, hc_int, hc_bool, hc_string, hc_slice, hc_nilp, hc_nilm, hc_nilf, hc_agg, hc_list, hc_view, hc_ptr, hc_map, hc_func, ho_int, ho_bool, ho_string, ho_slice, ho_nilp, ho_nilm, ho_nilf, ho_list, ho_view, ho_ptr, ho_map, ho_func, putCells, hAppend, lcells, litCells, isNilS, llen, room, vMk, set_at, Join, vToInt, vSlice, cutAt, intAt, bl_len, bits64, bits64u, bits8, Try.underlying3, Try.underlying24, Try.underlying29, Try.underlying70, Try.underlying72, Try.underlying119, Try.underlying128]
  refine (lookup hE2 (by decide) 2).mono ?_
  rintro v s3 ⟨rfl, rfl⟩
  rw [l2]
  simp [bindO, hcond, vCmp, vBin, vEq, vUn, vNil, vField, vLoad, takeCells, vIdx, vLenT, vLen, vExtract, hBS, hfill, hNew, hStore, hBox, hc_int, hc_bool, hc_string, hc_slice, hc_nilp, hc_nilm, hc_nilf, hc_agg, hc_list, hc_view, hc_ptr, hc_map, hc_func, ho_int, ho_bool, ho_string, ho_slice, ho_nilp, ho_nilm, ho_nilf, ho_list, ho_view, ho_ptr, ho_map, ho_func, putCells, hAppend, lcells, litCells, isNilS, llen, room, vMk, set_at, Join, vToInt, vSlice, cutAt, intAt, bl_len, bits64, bits64u, bits8, Try.underlying3, Try.underlying24, Try.underlying29, Try.underlying70, Try.underlying72, Try.underlying119, Try.underlying128]
theorem okE_pos : ∀ (l : List (Int × Int)) (a b : Int), -1 ≤ a → -1 ≤ b → okE a b l = true → ∀ y ∈ l, 0 ≤ y.1 ∧ 0 ≤ y.2
  | [], a, b, _, _, _, y, hy => by cases hy
  | x :: r, a, b, ha, hb, h, y, hy => by
    by_cases hc : x.1 ≤ a ∨ x.2 ≤ b
    · simp [okE, hc] at h
    · simp only [okE, if_neg hc] at h
      rcases List.mem_cons.1 hy with rfl | hy
      · omega
      · exact okE_pos r x.1 x.2 (by omega) (by omega) h y hy
theorem law (l : List (Int × Int)) (x : Int) (s : HS) (f : Bool) (hx : ∀ y ∈ l, -9223372036854775808 ≤ y.1 ∧ y.1 < 9223372036854775808 ∧ -9223372036854775808 ≤ y.2 ∧ y.2 < 9223372036854775808) :
    HC Try.prog 8 [.list 2 l.length (el l) f, .lit (.int .u8 x)] s (fun v s' => v = .lit (.bool true)) := by
  refine HC8 ?_
  simp only [c8, Try.underlying70, len70, bindO, vBin, if_true]
  by_cases hl : (l.length : Int) > 200
  · simp only [hl, decide_true, hcond]
    exact awake s
  · simp only [hl, decide_false, hcond]
    have hl' : l.length ≤ 200 := by omega
    refine (made l f s (by omega)).mono ?_
    rintro A s1 ⟨hs1, hE⟩
    refine (encodeG hE (by omega)).mono ?_
    rintro v s2 ⟨rfl, rfl⟩
    unfold encV
    cases hok : okE (-1) (-1) l with
    | false =>
      simp [bindO, hcond, vCmp, vBin, vEq, vUn, vNil, vField, vLoad, takeCells, vIdx, vLenT, vLen, vExtract, hBS, hfill, hNew, hStore, hBox, hc_int, hc_bool, hc_string, hc_slice, hc_nilp, hc_nilm, hc_nilf, hc_agg, hc_list, hc_view, hc_ptr, hc_map, hc_func, ho_int, ho_bool, ho_string, ho_slice, ho_nilp, ho_nilm, ho_nilf, ho_list, ho_view, ho_ptr, ho_map, ho_func, putCells, hAppend, lcells, litCells, isNilS, llen, room, vMk, set_at, Join, vToInt, vSlice, cutAt, intAt, bl_len, bits64, bits64u, bits8, Try.underlying3, Try.underlying24, Try.underlying29, Try.underlying70, Try.underlying72, Try.underlying119, Try.underlying128]
      refine (refEncode l f s2 (by omega) hok).mono ?_
      rintro v s3 ⟨rfl, rfl⟩
      simp [bindO, hcond, vCmp, vBin, vEq, vUn, vNil, vField, vLoad, takeCells, vIdx, vLenT, vLen, vExtract, hBS, hfill, hNew, hStore, hBox, hc_int, hc_bool, hc_string, hc_slice, hc_nilp, hc_nilm, hc_nilf, hc_agg, hc_list, hc_view, hc_ptr, hc_map, hc_func, ho_int, ho_bool, ho_string, ho_slice, ho_nilp, ho_nilm, ho_nilf, ho_list, ho_view, ho_ptr, ho_map, ho_func, putCells, hAppend, lcells, litCells, isNilS, llen, room, vMk, set_at, Join, vToInt, vSlice, cutAt, intAt, bl_len, bits64, bits64u, bits8, Try.underlying3, Try.underlying24, Try.underlying29, Try.underlying70, Try.underlying72, Try.underlying119, Try.underlying128]
      exact awake s3
    | true =>
      have hpos : ∀ y ∈ l, 0 ≤ y.1 ∧ y.1 < 9223372036854775808 ∧ 0 ≤ y.2 ∧ y.2 < 9223372036854775808 := by
        intro y hy
        have := okE_pos l (-1) (-1) (by decide) (by decide) hok y hy
        have := hx y hy
        omega
      have hel := encE_len l
      have hd1 := decode l [] (encE l) false s2 (by simp) (by omega) (by simp) hok hpos
      rw [hel] at hd1
      simp [bindO, hcond, vCmp, vBin, vEq, vUn, vNil, vField, vLoad, takeCells, vIdx, vLenT, vLen, vExtract, hBS, hfill, hNew, hStore, hBox, hc_int, hc_bool, hc_string, hc_slice, hc_nilp, hc_nilm, hc_nilf, hc_agg, hc_list, hc_view, hc_ptr, hc_map, hc_func, ho_int, ho_bool, ho_string, ho_slice, ho_nilp, ho_nilm, ho_nilf, ho_list, ho_view, ho_ptr, ho_map, ho_func, putCells, hAppend, lcells, litCells, isNilS, llen, room, vMk, set_at, Join, vToInt, vSlice, cutAt, intAt, bl_len, bits64, bits64u, bits8, Try.underlying3, Try.underlying24, Try.underlying29, Try.underlying70, Try.underlying72, Try.underlying119, Try.underlying128]
      refine hd1.mono ?_
      rintro v s3 ⟨hs3, h3⟩
      rw [if_pos rfl] at h3
      obtain ⟨B, rfl, hEB⟩ := h3
      simp only [List.getElem?_cons_zero, List.getElem?_cons_succ]
      intro i1 f1
      have hd2 := decode l [x] (encE l ++ [x]) false s3 rfl (by omega) (by simp) hok hpos
      rw [List.length_append, hel] at hd2
      by_cases h0 : 16 * l.length = 0
      · rw [if_pos h0]
        intro i2 f2
        have f2' := f2
        simp only [set_none_iff] at f2'
        simp [bindO, hcond, vCmp, vBin, vEq, vUn, vNil, vField, vLoad, takeCells, vIdx, vLenT, vLen, vExtract, hBS, hfill, hNew, hStore, hBox, hc_int, hc_bool, hc_string, hc_slice, hc_nilp, hc_nilm, hc_nilf, hc_agg, hc_list, hc_view, hc_ptr, hc_map, hc_func, ho_int, ho_bool, ho_string, ho_slice, ho_nilp, ho_nilm, ho_nilf, ho_list, ho_view, ho_ptr, ho_map, ho_func, putCells, hAppend, lcells, litCells, isNilS, llen, room, vMk, set_at, Join, vToInt, vSlice, cutAt, intAt, bl_len, bits64, bits64u, bits8, Try.underlying3, Try.underlying24, Try.underlying29, Try.underlying70, Try.underlying72, Try.underlying119, Try.underlying128, set_ne _ _ (Ne.symm f2'.1)]
        intro i3 f3
        have hb0 : encE l = [] := List.eq_nil_of_length_eq_zero (by rw [hel]; exact h0)
        rw [h0, hb0] at hd2
        refine HC.upArgs (args' := [.list 1 1 (bl [x]) false]) (up1 (set_at _ _ _) rfl (le_del_new (le_set_new _ (le_set_new _ (le_set_new _ (le_refl' s3) f1) f2) f3) (by simp only [set_none_iff] at f3; exact f3.2.2))) ?_
        refine hd2.mono ?_
        rintro v s4 ⟨hs4, h4⟩
        rw [if_neg (by simp)] at h4
        subst h4
        simp only [List.getElem?_cons_zero, List.getElem?_cons_succ]
        simp
        refine (same s4 B l f (hEB.mono hs4) (by omega)).mono ?_
        rintro v s5 ⟨rfl, rfl⟩
        have hw : IntKind.i64.wrap (16 * (l.length : Int)) = 16 * l.length := w64 (by omega) (by omega)
        simp [hw]
        refine (round01 s5).mono ?_
        rintro v s6 ⟨rfl, rfl⟩
        simp
        exact awake s6
      · rw [if_neg h0]
        refine ⟨by omega, fun i2 f2 i3 f3 => ?_⟩
        have f2' := f2
        have f3' := f3
        simp only [set_none_iff] at f2' f3'
        simp [bindO, hcond, vCmp, vBin, vEq, vUn, vNil, vField, vLoad, takeCells, vIdx, vLenT, vLen, vExtract, hBS, hfill, hNew, hStore, hBox, hc_int, hc_bool, hc_string, hc_slice, hc_nilp, hc_nilm, hc_nilf, hc_agg, hc_list, hc_view, hc_ptr, hc_map, hc_func, ho_int, ho_bool, ho_string, ho_slice, ho_nilp, ho_nilm, ho_nilf, ho_list, ho_view, ho_ptr, ho_map, ho_func, putCells, hAppend, lcells, litCells, isNilS, llen, room, vMk, set_at, Join, vToInt, vSlice, cutAt, intAt, bl_len, bits64, bits64u, bits8, Try.underlying3, Try.underlying24, Try.underlying29, Try.underlying70, Try.underlying72, Try.underlying119, Try.underlying128, set_ne _ _ (Ne.symm f3'.1), encE_len]
        refine ⟨by omega, fun i4 f4 => ?_⟩
        have f4' := f4
        simp only [set_none_iff, del_none_iff] at f4'
        have hbx : bl (encE l) ++ [HV.lit (.int .u8 x)] = bl (encE l ++ [x]) := by simp [bl]
        rw [hbx]
        refine HC.upArgs (args' := [.list 1 (16 * l.length + 1) (bl (encE l ++ [x])) false]) (s' := s3) (up1 (set_at _ _ _) (by simp [bl_len, encE_len]) ?_) ?_
        · intro k ob hk
          have n1 := ne_new hk f1
          have n2 := ne_new hk f2'.2
          have n3 := ne_new hk f3'.2.2
          have n4 := ne_new hk f4'.2.2.2
          rw [del_ne _ n4, set_ne _ _ n4, del_ne _ n2, set_ne _ _ n3, set_ne _ _ n2, set_ne _ _ n1]
          exact hk
        refine hd2.mono ?_
        rintro v s4 ⟨hs4, h4⟩
        rw [if_neg (by simp)] at h4
        subst h4
        simp only [List.getElem?_cons_zero, List.getElem?_cons_succ]
        simp
        refine (same s4 B l f (hEB.mono hs4) (by omega)).mono ?_
        rintro v s5 ⟨rfl, rfl⟩
        have hw : IntKind.i64.wrap (16 * (l.length : Int)) = 16 * l.length := w64 (by omega) (by omega)
        simp [hw]
        refine (round01 s5).mono ?_
        rintro v s6 ⟨rfl, rfl⟩
        simp
        exact awake s6
end Go.Proofs.Ytpibjdkenifggaa.OW
