/- Clean over the H layer: segments. -/
import Derived.Test.YtecnfekcflfihaaCC
namespace Go.Proofs.Ytecnfekcflfihaa.CL
open Go.Proofs.Ytecnfekcflfihaa.H Go.Proofs.Ytecnfekcflfihaa.C0
set_option linter.unusedVariables false
set_option linter.unusedSimpArgs false
set_option maxRecDepth 100000

theorem batC_len (b : Bat) : (batC b).length = 6 := rfl
theorem hcb (b : Bat) : (batC b).take 6 = batC b := rfl
theorem ho_batC (b : Bat) : (∀ x ∈ batC b, hone x = true) = True := by simp [batC, bindO, hcond, vCmp, vBin, vEq, vUn, vNil, vField, vLoad, takeCells, vIdx, vLenT, vLen, vExtract, hBS, hfill, hNew, hStore, hBox, hc_int, hc_bool, hc_string, hc_slice, hc_nilp, hc_nilm, hc_nilf, hc_agg, hc_list, hc_view, hc_ptr, hc_map, hc_func, ho_int, ho_bool, ho_string, ho_slice, ho_nilp, ho_nilm, ho_nilf, ho_list, ho_view, ho_ptr, ho_map, ho_func, putCells, hAppend, lcells, litCells, isNilS, llen, room, vMk, set_at, Join, vToInt, vSlice, cutAt, intAt, bl_len, bits64, bits64u, bits8, hfold, vMax2, vMin2, Try.underlying3, Try.underlying9, Try.underlying22, Try.underlying31, Try.underlying32, Try.underlying36, Try.underlying44, Try.underlying90, ho_recs]
def batsC (l : List Bat) : List HV := l.flatMap batC
theorem batsC_len (l : List Bat) : (batsC l).length = l.length * 6 := by
  unfold batsC
  induction l with
  | nil => rfl
  | cons x r ih => rw [List.flatMap_cons, List.length_append, ih]; simp [batC]; omega
theorem batsC_app (a b : List Bat) : batsC (a ++ b) = batsC a ++ batsC b := by simp [batsC]
def b0 : Bat := ⟨0, 0, 0, 0, 0, none⟩
theorem batsC_idx : ∀ (l : List Bat) (i : Nat), i < l.length → ((batsC l).drop (i * 6)).take 6 = batC (l.getD i b0)
  | x :: l, 0, _ => rfl
  | x :: l, i + 1, h => by
    have := batsC_idx l i (by simpa using h)
    rw [show batsC (x :: l) = batC x ++ batsC l from rfl, show (i + 1) * 6 = i * 6 + 1 + 1 + 1 + 1 + 1 + 1 by omega]
    simp only [batC, List.cons_append, List.nil_append, List.drop_succ_cons]
    exact this
def batsV : Option (List Bat) → HV
  | none => .lit (.slice none 0 0)
  | some l => .list 6 l.length (batsC l) false
/-- A row of batches that grows. -/
def OutT (b t : HS) (A : HV) (o : List Bat) : Prop :=
  (A = .lit (.slice none 0 0) ∧ o = []) ∨ ∃ q, b q = none ∧ A = .view q 0 6 o.length false ∧ t q = some (.cells (batsC o)) ∧ o ≠ []
theorem OutT.keep {b t t' : HS} {A : HV} {o : List Bat} (h : OutT b t A o) (hk : ∀ q ob, t q = some ob → t' q = some ob) : OutT b t' A o := by
  rcases h with h | ⟨q, h1, h3, h4, h5⟩
  · exact .inl h
  · exact .inr ⟨q, h1, h3, hk _ _ h4, h5⟩
theorem outT_append {b t : HS} {A : HV} {o : List Bat} {r : Bat} {K : HV → HS → Prop} (h : OutT b t A o) (hb : HS.le b t) (hl : o.length ≤ 100000)
    (hK : ∀ A' t', OutT b t' A' (o ++ [r]) → HS.le b t' → K A' t') :
    hBS t 6 1 [.lit (.int .i64 0), .lit (.int .i64 0), .lit (.int .i64 0), .lit (.int .i64 0), .lit (.int .i64 0), .lit (.slice none 0 0)] [(0, .agg (batC r))] (fun x s => hAppend s 6 64 A x K) := by
  have e6 : (batC r).length = 6 := rfl
  have et : (batC r).take 6 = batC r := rfl
  simp [bindO, hcond, vCmp, vBin, vEq, vUn, vNil, vField, vLoad, takeCells, vIdx, vLenT, vLen, vExtract, hBS, hfill, hNew, hStore, hBox, hc_int, hc_bool, hc_string, hc_slice, hc_nilp, hc_nilm, hc_nilf, hc_agg, hc_list, hc_view, hc_ptr, hc_map, hc_func, ho_int, ho_bool, ho_string, ho_slice, ho_nilp, ho_nilm, ho_nilf, ho_list, ho_view, ho_ptr, ho_map, ho_func, putCells, hAppend, lcells, litCells, isNilS, llen, room, vMk, set_at, Join, vToInt, vSlice, cutAt, intAt, bl_len, bits64, bits64u, bits8, hfold, vMax2, vMin2, Try.underlying3, Try.underlying9, Try.underlying22, Try.underlying31, Try.underlying32, Try.underlying36, Try.underlying44, Try.underlying90, e6]
  intro i1 f1
  rcases h with ⟨rfl, rfl⟩ | ⟨q, h1, rfl, h3, -⟩
  · simp [bindO, hcond, vCmp, vBin, vEq, vUn, vNil, vField, vLoad, takeCells, vIdx, vLenT, vLen, vExtract, hBS, hfill, hNew, hStore, hBox, hc_int, hc_bool, hc_string, hc_slice, hc_nilp, hc_nilm, hc_nilf, hc_agg, hc_list, hc_view, hc_ptr, hc_map, hc_func, ho_int, ho_bool, ho_string, ho_slice, ho_nilp, ho_nilm, ho_nilf, ho_list, ho_view, ho_ptr, ho_map, ho_func, putCells, hAppend, lcells, litCells, isNilS, llen, room, vMk, set_at, Join, vToInt, vSlice, cutAt, intAt, bl_len, bits64, bits64u, bits8, hfold, vMax2, vMin2, Try.underlying3, Try.underlying9, Try.underlying22, Try.underlying31, Try.underlying32, Try.underlying36, Try.underlying44, Try.underlying90, e6, et]
    intro i2 f2
    simp only [set_none_iff] at f2
    refine hK _ _ (.inr ⟨i2, none_of_le hb f2.2, rfl, ?_, by simp⟩) (le_set_new _ (le_set_new _ hb f1) (by rw [set_none_iff]; exact f2))
    rw [set_at]; simp [batsC]
  · have m1 := ne_new h3 f1
    have el : (batsC o).length = o.length * 6 := batsC_len o
    simp [bindO, hcond, vCmp, vBin, vEq, vUn, vNil, vField, vLoad, takeCells, vIdx, vLenT, vLen, vExtract, hBS, hfill, hNew, hStore, hBox, hc_int, hc_bool, hc_string, hc_slice, hc_nilp, hc_nilm, hc_nilf, hc_agg, hc_list, hc_view, hc_ptr, hc_map, hc_func, ho_int, ho_bool, ho_string, ho_slice, ho_nilp, ho_nilm, ho_nilf, ho_list, ho_view, ho_ptr, ho_map, ho_func, putCells, hAppend, lcells, litCells, isNilS, llen, room, vMk, set_at, Join, vToInt, vSlice, cutAt, intAt, bl_len, bits64, bits64u, bits8, hfold, vMax2, vMin2, Try.underlying3, Try.underlying9, Try.underlying22, Try.underlying31, Try.underlying32, Try.underlying36, Try.underlying44, Try.underlying90, set_ne _ _ m1, h3, el, e6, et]
    refine ⟨by omega, fun i2 f2 => ?_⟩
    simp only [set_none_iff] at f2
    refine hK _ _ (.inr ⟨i2, none_of_le hb f2.2, by simp, ?_, by simp⟩) ?_
    · rw [set_at, batsC_app]; simp [batsC]
    · intro k ob hk
      have hkq : k ≠ q := by rintro rfl; rw [h1] at hk; cases hk
      have hk1 := hb k ob hk
      rw [set_ne _ _ (ne_new hk1 f2.2), del_ne _ hkq, set_ne _ _ (ne_new hk1 f1)]
      exact hk1
theorem len_recs (k : Option (List Rec)) (s : HS) : vLenT (some (.slice 34)) s (recsV k) = some (.lit (.int .i64 ((k.getD []).length : Nat))) := by cases k <;> rfl
def cntF (l : List Bat) : Int := l.foldl (fun a b => IntKind.i64.wrap (a + ((b.recs.getD []).length : Nat))) 0
theorem count (l : List Bat) (s : HS) (hl : l.length ≤ 100000) : HC Try.prog 48 [.list 6 l.length (batsC l) false] s (fun v s' => v = .lit (.int .i64 (cntF l)) ∧ s' = s) := by
  refine HC.weaken (HC48 ?_)
  have hlen : vLenT (Try.prog.underlying 31) s (.list 6 l.length (batsC l) false) = some (.lit (.int .i64 l.length)) := by simp [bindO, hcond, vCmp, vBin, vEq, vUn, vNil, vField, vLoad, takeCells, vIdx, vLenT, vLen, vExtract, hBS, hfill, hNew, hStore, hBox, hc_int, hc_bool, hc_string, hc_slice, hc_nilp, hc_nilm, hc_nilf, hc_agg, hc_list, hc_view, hc_ptr, hc_map, hc_func, ho_int, ho_bool, ho_string, ho_slice, ho_nilp, ho_nilm, ho_nilf, ho_list, ho_view, ho_ptr, ho_map, ho_func, putCells, hAppend, lcells, litCells, isNilS, llen, room, vMk, set_at, Join, vToInt, vSlice, cutAt, intAt, bl_len, bits64, bits64u, bits8, hfold, vMax2, vMin2, Try.underlying3, Try.underlying9, Try.underlying22, Try.underlying31, Try.underlying32, Try.underlying36, Try.underlying44, Try.underlying90]
  simp only [c48, hlen, bindO]
  refine HLoop.ghost (σ := Nat) (fun i => [.lit (.int .i64 (cntF (l.take i))), .lit (.int .i64 i)]) (fun i t => i ≤ l.length ∧ HS.le s t) (fun i => l.length - i) 0 rfl ⟨Nat.zero_le _, le_refl' s⟩ ?_
  rintro i t K ⟨hi, hst⟩ hK
  by_cases hlt : i < l.length
  · have hlt' : (i : Int) < (l.length : Int) := by omega
    have hix := batsC_idx l i hlt
    have hts := take_succ' b0 l hlt
    generalize l.getD i b0 = x at *
    have hc : cntF (l.take (i + 1)) = IntKind.i64.wrap (cntF (l.take i) + ((x.recs.getD []).length : Nat)) := by rw [hts]; simp [cntF]
    have h5 : (batC x)[5]? = some (recsV x.recs) := rfl
    simp [bindO, hcond, vCmp, vBin, vUn, vField, takeCells, vLoad, vIdx, vExtract, hNew, hStore, hBox, hc_int, hc_bool, hc_agg, hc_list, hc_view, hc_ptr, ho_int, ho_bool, putCells, set_at, Join, batC_len, ho_batC, hcb, hc_recs, ho_recs, hlt', hlt, hix]
    intro X hX
    rw [set_set]
    have hle := le_set_new (.cells (batC x)) hst hX
    simp [bindO, hcond, vCmp, vBin, vUn, vField, takeCells, vLoad, vIdx, vExtract, hNew, hStore, hBox, hc_int, hc_bool, hc_agg, hc_list, hc_view, hc_ptr, ho_int, ho_bool, putCells, set_at, Join, batC_len, ho_batC, hcb, hc_recs, ho_recs, h5, Try.underlying44, len_recs]
    refine hK (i + 1) _ _ (by rw [w64 (x := (i : Int) + 1) (by omega) (by omega), hc]; rfl) ⟨hlt, hle⟩ (by omega)
  · obtain rfl : i = l.length := by omega
    rw [List.take_length]
    simp [bindO, hcond, vCmp, vBin, vUn, vField, takeCells, vLoad, vIdx, vExtract, hNew, hStore, hBox, hc_int, hc_bool, hc_agg, hc_list, hc_view, hc_ptr, ho_int, ho_bool, putCells, set_at, Join, batC_len, ho_batC, hcb, hc_recs, ho_recs]
    exact hst
def cutB (M : Value → Option Int) (upto now grace : Int) (b : Bat) : Bat := { b with recs := orNil (keptR M upto now grace (b.recs.getD [])) }
def keptB (M : Value → Option Int) (upto now grace : Int) : List Bat → List Bat
  | [] => []
  | b :: l => if keptR M upto now grace (b.recs.getD []) ≠ [] then cutB M upto now grace b :: keptB M upto now grace l else keptB M upto now grace l
theorem keptB_app (M : Value → Option Int) (upto now grace : Int) (a b : List Bat) : keptB M upto now grace (a ++ b) = keptB M upto now grace a ++ keptB M upto now grace b := by
  induction a with
  | nil => rfl
  | cons x r ih => simp only [List.cons_append, keptB, ih]; split <;> rfl
theorem keptB_len (M : Value → Option Int) (upto now grace : Int) (a : List Bat) : (keptB M upto now grace a).length ≤ a.length := by
  induction a with
  | nil => exact Nat.le_refl _
  | cons x r ih => simp only [keptB]; split <;> simp <;> omega
theorem segment {s : HS} {p mid : Nat} {most : Int} {M : Value → Option Int} {n : Nat} (h : IsKM s p mid most M n) (l : List Bat) (hl : l.length ≤ 100000) (hs : ∀ b ∈ l, ∃ r, b.recs = some r ∧ r.length ≤ 100000 ∧ ∀ x ∈ r, ShortR x) (upto now grace : Int) :
    HC Try.prog 27 [.list 6 l.length (batsC l) false, .ptr p 0, .lit (.int .i64 upto), .lit (.int .i64 now), .lit (.int .i64 grace)] s (fun v s' => v = batsV (orNil (keptB M upto now grace l)) ∧ s' = s) := by
  refine HC.up (HC27 ?_)
  have hlen : vLenT (Try.prog.underlying 31) s (.list 6 l.length (batsC l) false) = some (.lit (.int .i64 l.length)) := by simp [bindO, hcond, vCmp, vBin, vEq, vUn, vNil, vField, vLoad, takeCells, vIdx, vLenT, vLen, vExtract, hBS, hfill, hNew, hStore, hBox, hc_int, hc_bool, hc_string, hc_slice, hc_nilp, hc_nilm, hc_nilf, hc_agg, hc_list, hc_view, hc_ptr, hc_map, hc_func, ho_int, ho_bool, ho_string, ho_slice, ho_nilp, ho_nilm, ho_nilf, ho_list, ho_view, ho_ptr, ho_map, ho_func, putCells, hAppend, lcells, litCells, isNilS, llen, room, vMk, set_at, Join, vToInt, vSlice, cutAt, intAt, bl_len, bits64, bits64u, bits8, hfold, vMax2, vMin2, Try.underlying3, Try.underlying9, Try.underlying22, Try.underlying31, Try.underlying32, Try.underlying36, Try.underlying44, Try.underlying90]
  simp only [c27, hlen, bindO]
  refine HLoop.ghost (σ := HV × Nat) (fun g => [g.1, .lit (.int .i64 g.2)]) (fun g t => g.2 ≤ l.length ∧ HS.le s t ∧ OutT s t g.1 (keptB M upto now grace (l.take g.2))) (fun g => l.length - g.2) (.lit (.slice none 0 0), 0) rfl ⟨Nat.zero_le _, le_refl' s, .inl ⟨rfl, rfl⟩⟩ ?_
  rintro ⟨A, i⟩ t K ⟨hi, hst, ho⟩ hK
  simp only at hi hst ho
  by_cases hlt : i < l.length
  · have hlt' : (i : Int) < (l.length : Int) := by omega
    have hix := batsC_idx l i hlt
    have hts := take_succ' b0 l hlt
    have hsm := hs (l.getD i b0) (by rw [List.getD, List.getElem?_eq_getElem hlt]; exact List.getElem_mem hlt)
    generalize l.getD i b0 = x at *
    obtain ⟨r, hr, hr1, hr2⟩ := hsm
    simp [bindO, hcond, vCmp, vBin, vUn, vField, takeCells, vLoad, vIdx, vExtract, hNew, hStore, hBox, hc_int, hc_bool, hc_agg, hc_list, hc_view, hc_ptr, ho_int, ho_bool, putCells, set_at, Join, batC_len, ho_batC, hcb, hc_recs, ho_recs, hlt', hlt, hix]
    intro X hX
    rw [set_set]
    have hle := le_set_new (.cells (batC x)) hst hX
    have hkeep : ∀ q ob, t q = some ob → (t.set X (.cells (batC x))) q = some ob := fun q ob h => by rw [set_ne _ _ (ne_new h hX)]; exact h
    have ho1 := ho.keep hkeep
    have hkm := h.le hle
    generalize t.set X (.cells (batC x)) = t1 at *
    refine (batch hkm x r hr hr1 hr2 upto now grace).mono ?_
    rintro v s1 ⟨rfl, rfl⟩
    have hcut : ({ x with recs := orNil (keptR M upto now grace r) } : Bat) = cutB M upto now grace x := by unfold cutB; rw [hr]; rfl
    rw [hcut]
    have hkb : keptB M upto now grace (l.take (i + 1)) = keptB M upto now grace (l.take i) ++ (if keptR M upto now grace r ≠ [] then [cutB M upto now grace x] else []) := by
      rw [hts, keptB_app]
      simp only [keptB, hr, Option.getD_some]
    simp [bindO, hcond, vCmp, vBin, vUn, vField, takeCells, vLoad, vIdx, vExtract, hNew, hStore, hBox, hc_int, hc_bool, hc_agg, hc_list, hc_view, hc_ptr, ho_int, ho_bool, putCells, set_at, Join, batC_len, ho_batC, hcb, hc_recs, ho_recs]
    intro Y hY
    rw [set_set]
    have hle2 := le_set_new (.cells (batC (cutB M upto now grace x))) hle hY
    have ho2 := ho1.keep (t' := s1.set Y (.cells (batC (cutB M upto now grace x)))) fun q ob h => by rw [set_ne _ _ (ne_new h hY)]; exact h
    by_cases hk : keptR M upto now grace r = []
    · simp [bindO, hcond, vCmp, vBin, vUn, vField, takeCells, vLoad, vIdx, vExtract, hNew, hStore, hBox, hc_int, hc_bool, hc_agg, hc_list, hc_view, hc_ptr, ho_int, ho_bool, putCells, set_at, Join, batC_len, ho_batC, hcb, hc_recs, ho_recs, hk]
      refine hK (A, i + 1) _ _ (by rw [w64 (by omega) (by omega)]; rfl) ⟨hlt, hle2, ?_⟩ (by show l.length - (i + 1) < l.length - i; omega)
      rw [hkb, hk]
      simpa using ho2
    · simp [bindO, hcond, vCmp, vBin, vUn, vField, takeCells, vLoad, vIdx, vExtract, hNew, hStore, hBox, hc_int, hc_bool, hc_agg, hc_list, hc_view, hc_ptr, ho_int, ho_bool, putCells, set_at, Join, batC_len, ho_batC, hcb, hc_recs, ho_recs, hk]
      refine outT_append ho2 hle2 (Nat.le_trans (keptB_len _ _ _ _ _) (by rw [List.length_take]; omega)) ?_
      intro A' t' g1 g2
      refine hK (A', i + 1) _ _ (by rw [w64 (by omega) (by omega)]; rfl) ⟨hlt, g2, ?_⟩ (by show l.length - (i + 1) < l.length - i; omega)
      rw [hkb, if_pos hk]
      exact g1
  · obtain rfl : i = l.length := by omega
    rw [List.take_length] at ho
    generalize keptB M upto now grace l = o at *
    simp [bindO, hcond, vCmp, vBin, vUn, vField, takeCells, vLoad, vIdx, vExtract, hNew, hStore, hBox, hc_int, hc_bool, hc_agg, hc_list, hc_view, hc_ptr, ho_int, ho_bool, putCells, set_at, Join, batC_len, ho_batC, hcb, hc_recs, ho_recs]
    rcases ho with ⟨rfl, rfl⟩ | ⟨k, g1, rfl, g3, g4⟩
    · exact UpL.le _ hst
    · have horn : orNil o = some o := by cases o with | nil => exact absurd rfl g4 | cons => rfl
      rw [horn]
      have hu := UpL.frzD (xs := [.view k 0 6 o.length false]) g3 hst g1
      have hcut : (batsC o).take (o.length * 6) = batsC o := List.take_of_length_le (by rw [batsC_len]; exact Nat.le_refl _)
      simpa [frz2, frz1, frz0, phi, batsC_len, hcut, batsV] using hu
end Go.Proofs.Ytecnfekcflfihaa.CL
