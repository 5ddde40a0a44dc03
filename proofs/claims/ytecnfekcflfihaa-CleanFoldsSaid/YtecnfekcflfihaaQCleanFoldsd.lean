/- What the proof of the law CleanFolds needs, cut out of the session's own texts by a program (slim.py): part 4. -/
import Derived.Test.YtecnfekcflfihaaQCleanFoldsc
section
namespace Go.Proofs.Ytecnfekcflfihaa.CL
open Go.Proofs.Ytecnfekcflfihaa.H Go.Proofs.Ytecnfekcflfihaa.C1
set_option linter.unusedVariables false
set_option linter.unusedSimpArgs false
set_option maxRecDepth 100000
/-- What a record may be, behind one with an offset. -/
structure OkRec (b : Bat) (last : Int) (r : Rec) : Prop where
  lo : b.base ≤ r.off
  hi : r.off ≤ b.last
  up : last < r.off
  t0 : 0 ≤ r.time
  t1 : r.time ≤ 1125899906842624
  nk : r.hasKey = false → (r.key.getD []).length = 0
  nv : r.hasVal = false → (r.val.getD []).length = 0
  k : (r.key.getD []).length ≤ 200
  v : (r.val.getD []).length ≤ 2000
theorem checkRecord {s : HS} (r : Rec) (b : Bat) (last : Int) : HC Try.prog 69 [.agg (recC r), .agg (batC b), .lit (.int .i64 last)] s (fun v s' => s' = s ∧ ∃ e, v = .lit (.int .i64 e) ∧ (e = 0 → OkRec b last r)) := by
  refine HC.weaken (HC69 ?_)
  obtain ⟨off, time, hk, key, hv, val⟩ := r
  simp only [c69, hBox, hc_agg, recC, batC]
  intro p hp q hq
  have hpq := ne_new (set_at s p _) hq
  have htq := set_at (s.set p (.cells [.lit (.int .i64 off), .lit (.int .i64 time), .lit (.bool hk), byV key, .lit (.bool hv), byV val])) q (.cells [.lit (.int .i64 b.base), .lit (.int .i64 b.last), .lit (.int .i64 b.prod), .lit (.int .i64 b.epoch), .lit (.int .i64 b.seq), recsV b.recs])
  have htp : ((s.set p (.cells [.lit (.int .i64 off), .lit (.int .i64 time), .lit (.bool hk), byV key, .lit (.bool hv), byV val])).set q (.cells [.lit (.int .i64 b.base), .lit (.int .i64 b.last), .lit (.int .i64 b.prod), .lit (.int .i64 b.epoch), .lit (.int .i64 b.seq), recsV b.recs])) p = some (.cells [.lit (.int .i64 off), .lit (.int .i64 time), .lit (.bool hk), byV key, .lit (.bool hv), byV val]) := by rw [set_ne _ _ hpq, set_at]
  have hst : HS.le s ((s.set p (.cells [.lit (.int .i64 off), .lit (.int .i64 time), .lit (.bool hk), byV key, .lit (.bool hv), byV val])).set q (.cells [.lit (.int .i64 b.base), .lit (.int .i64 b.last), .lit (.int .i64 b.prod), .lit (.int .i64 b.epoch), .lit (.int .i64 b.seq), recsV b.recs])) := le_set_new _ (le_set_new _ (le_refl' s) hp) hq
  generalize ((s.set p (.cells [.lit (.int .i64 off), .lit (.int .i64 time), .lit (.bool hk), byV key, .lit (.bool hv), byV val])).set q (.cells [.lit (.int .i64 b.base), .lit (.int .i64 b.last), .lit (.int .i64 b.prod), .lit (.int .i64 b.epoch), .lit (.int .i64 b.seq), recsV b.recs])) = t at *
  have hfin : ∀ e : Int, (e = 0 → OkRec b last ⟨off, time, hk, key, hv, val⟩) → ∃ s'', HS.le s'' t ∧ s'' = s ∧ ∃ e', HV.lit (.int .i64 e) = .lit (.int .i64 e') ∧ (e' = 0 → OkRec b last ⟨off, time, hk, key, hv, val⟩) := fun e h => ⟨s, hst, rfl, e, rfl, h⟩
  have bad : ∀ e : Int, e ≠ 0 → ∃ s'', HS.le s'' t ∧ s'' = s ∧ ∃ e', HV.lit (.int .i64 e) = .lit (.int .i64 e') ∧ (e' = 0 → OkRec b last ⟨off, time, hk, key, hv, val⟩) := fun e h => hfin e fun h0 => absurd h0 h
  clear hpq hp hq
  simp only [bindO, hcond, vCmp, vBin, vEq, vUn, vNil, vField, vLoad, takeCells, vExtract, hNew, hStore, hBox, hc_int, hc_bool, hc_string, hc_slice, hc_nilp, hc_nilm, hc_nilf, hc_agg, hc_list, hc_view, hc_ptr, hc_map, hc_func, ho_int, ho_bool, ho_string, ho_slice, ho_nilp, ho_nilm, ho_nilf, ho_list, ho_view, ho_ptr, ho_map, ho_func, putCells, vMk, set_at, Join, vToInt, bits64, bits64u, bits8, htp, htq, len_by, List.getElem?_cons_zero, List.getElem?_cons_succ, Nat.zero_add, Bool.false_eq_true, if_false, if_true, List.headD_cons, Option.map_some]
  by_cases h1 : off < b.base
  · simp only [h1, decide_true]; exact bad 1 (by omega)
  by_cases h2 : off > b.last
  · simp only [h1, h2, decide_true, decide_false]; exact bad 1 (by omega)
  by_cases h3 : off ≤ last
  · simp only [h1, h2, h3, decide_true, decide_false]; exact bad 1 (by omega)
  by_cases h4 : time < 0
  · simp only [h1, h2, h3, h4, decide_true, decide_false]; exact bad 1 (by omega)
  by_cases h5 : time > 1125899906842624
  · simp only [h1, h2, h3, h4, h5, decide_true, decide_false]; exact bad 1 (by omega)
  simp only [h1, h2, h3, h4, h5, decide_false]
  have key_ : hk = false → ((key.getD []).length : Int) > 0 → (match HV.lit (.bool (!hk)) with | .lit (.bool true) => True | _ => False) := by rintro rfl _; trivial
  have fin : (hk = false → ¬ ((key.getD []).length : Int) > 0) → (hv = false → ¬ ((val.getD []).length : Int) > 0) → ¬ ((key.getD []).length : Int) > 200 → ¬ ((val.getD []).length : Int) > 2000 → OkRec b last ⟨off, time, hk, key, hv, val⟩ := by
    intro g1 g2 g3 g4
    exact ⟨by show b.base ≤ off; omega, by show off ≤ b.last; omega, by show last < off; omega, by show 0 ≤ time; omega, by show time ≤ _; omega, fun h => by have := g1 h; show (key.getD []).length = 0; omega, fun h => by have := g2 h; show (val.getD []).length = 0; omega, by show (key.getD []).length ≤ 200; omega, by show (val.getD []).length ≤ 2000; omega⟩
  cases hk <;> cases hv <;> simp only [Bool.not_true, Bool.not_false]
  all_goals
    by_cases k1 : ((key.getD []).length : Int) > 0 <;> by_cases v1 : ((val.getD []).length : Int) > 0 <;> by_cases k2 : ((key.getD []).length : Int) > 200 <;> by_cases v2 : ((val.getD []).length : Int) > 2000 <;>
      simp only [k1, v1, k2, v2, decide_true, decide_false] <;>
      first
      | exact bad 1 (by omega)
      | exact bad 3 (by omega)
      | exact hfin 0 fun _ => fin (by first | exact fun _ => k1 | exact fun h => by cases h) (by first | exact fun _ => v1 | exact fun h => by cases h) k2 v2
      | (exfalso; omega)
/-- What a batch may be. -/
structure OkBat (b : Bat) (l : List Rec) : Prop where
  b0 : 0 ≤ b.base
  b1 : b.base ≤ b.last
  l1 : b.last ≤ 4611686018427387904
  n : l.length ≤ 100
  prod : 0 ≤ b.prod
  seq : 0 ≤ b.seq
  recs : ∀ i, i < l.length → OkRec b (if i = 0 then -1 else (l.getD (i - 1) r0).off) (l.getD i r0)
theorem okRec_short {b : Bat} {last : Int} {r : Rec} (h : OkRec b last r) : (r.key.getD []).length ≤ 1000 ∧ (r.val.getD []).length ≤ 10000 := ⟨Nat.le_trans h.k (by omega), Nat.le_trans h.v (by omega)⟩
theorem check {s : HS} (b : Bat) (l : List Rec) (hb : b.recs = some l) : HC Try.prog 45 [.agg (batC b)] s (fun v s' => s' = s ∧ ∃ e, v = .lit (.int .i64 e) ∧ (e = 0 → OkBat b l)) := by
  refine HC.weaken (HC45 ?_)
  obtain ⟨c0, c1, c2, c3, c4, recs⟩ := b
  simp only at hb
  subst hb
  simp only [c45, hBox, hc_agg, batC]
  intro p hp
  have htp := set_at s p (.cells (batC ⟨c0, c1, c2, c3, c4, some l⟩))
  have hst := le_set_new (.cells (batC ⟨c0, c1, c2, c3, c4, some l⟩)) (le_refl' s) hp
  simp only [batC] at htp hst
  generalize s.set p (.cells [.lit (.int .i64 c0), .lit (.int .i64 c1), .lit (.int .i64 c2), .lit (.int .i64 c3), .lit (.int .i64 c4), recsV (some l)]) = t at *
  have hfin : ∀ (t' : HS) (e : Int), HS.le t t' → (e = 0 → OkBat ⟨c0, c1, c2, c3, c4, some l⟩ l) → ∃ s'', HS.le s'' t' ∧ s'' = s ∧ ∃ e', HV.lit (.int .i64 e) = .lit (.int .i64 e') ∧ (e' = 0 → OkBat ⟨c0, c1, c2, c3, c4, some l⟩ l) := fun t' e h0 h => ⟨s, HS.le.trans hst h0, rfl, e, rfl, h⟩
  have bad : ∀ e : Int, e ≠ 0 → ∃ s'', HS.le s'' t ∧ s'' = s ∧ ∃ e', HV.lit (.int .i64 e) = .lit (.int .i64 e') ∧ (e' = 0 → OkBat ⟨c0, c1, c2, c3, c4, some l⟩ l) := fun e h => hfin t e (le_refl' t) fun h0 => absurd h0 h
  have hlen : ∀ t, vLenT (Try.prog.underlying 44) t (recsV (some l)) = some (.lit (.int .i64 l.length)) := fun t => rfl
  clear hp
  refine Join.of (fun xs s' => s' = t ∧ ∃ g : Bool, xs = [.lit (.bool g)] ∧ (g = false → 0 ≤ c0 ∧ c0 ≤ c1 ∧ c1 ≤ 4611686018427387904 ∧ 0 ≤ c2 ∧ 0 ≤ c4)) ?_ ?_
  rotate_left
  · intro K hK
    have kt : K [.lit (.bool true)] t := hK _ _ ⟨rfl, true, rfl, by simp⟩
    simp only [bindO, hcond, vCmp, vBin, vEq, vUn, vNil, vField, vLoad, takeCells, vExtract, hNew, hStore, hBox, hc_int, hc_bool, hc_string, hc_slice, hc_nilp, hc_nilm, hc_nilf, hc_agg, hc_list, hc_view, hc_ptr, hc_map, hc_func, ho_int, ho_bool, ho_string, ho_slice, ho_nilp, ho_nilm, ho_nilf, ho_list, ho_view, ho_ptr, ho_map, ho_func, putCells, vMk, set_at, Join, vToInt, bits64, bits64u, bits8, htp, List.getElem?_cons_zero, List.getElem?_cons_succ, Nat.zero_add, Bool.false_eq_true, if_false, if_true]
    by_cases h1 : c0 < 0
    · simp only [h1, decide_true]; exact kt
    by_cases h2 : c0 > 4611686018427387904
    · simp only [h1, h2, decide_true, decide_false]; exact kt
    by_cases h3 : c1 < c0
    · simp only [h1, h2, h3, decide_true, decide_false]; exact kt
    by_cases h4 : c1 > 4611686018427387904
    · simp only [h1, h2, h3, h4, decide_true, decide_false]; exact kt
    by_cases h5 : c2 < 0
    · simp only [h1, h2, h3, h4, h5, decide_true, decide_false]; exact kt
    have kg : ∀ g, c4 < 0 ∨ 0 ≤ c4 → (g = false → 0 ≤ c4) → K [.lit (.bool g)] t := fun g _ hg => hK _ _ ⟨rfl, g, rfl, fun h => ⟨by omega, by omega, by omega, by omega, hg h⟩⟩
    simp only [h1, h2, h3, h4, h5, decide_false]
    by_cases h6 : c2 > 1099511627776 <;> by_cases h7 : c3 < 0 <;> by_cases h8 : c3 > 32767 <;> by_cases h9 : c4 < 0 <;> by_cases h10 : c4 > 2147483647 <;> cases h11 : (c2 == 0) <;> cases h12 : (c3 != 0) <;>
      simp only [h6, h7, h8, h9, h10, decide_true, decide_false] <;> first | exact kt | exact kg _ (by omega) (fun _ => by omega)
  rintro xs s1 ⟨rfl, g, rfl, hg⟩
  simp only [List.headD_cons]
  cases g with
  | true => simp only [hcond]; exact bad 1 (by omega)
  | false =>
  obtain ⟨g1, g2, g3, g4, g5⟩ := hg rfl
  have z5 : [HV.lit (.int .i64 c0), .lit (.int .i64 c1), .lit (.int .i64 c2), .lit (.int .i64 c3), .lit (.int .i64 c4), recsV (some l)][5]? = some (recsV (some l)) := rfl
  simp only [bindO, hcond, vCmp, vBin, vEq, vUn, vNil, vField, vLoad, takeCells, vExtract, hNew, hStore, hBox, hc_int, hc_bool, hc_string, hc_slice, hc_nilp, hc_nilm, hc_nilf, hc_agg, hc_list, hc_view, hc_ptr, hc_map, hc_func, ho_int, ho_bool, ho_string, ho_slice, ho_nilp, ho_nilm, ho_nilf, ho_list, ho_view, ho_ptr, ho_map, ho_func, putCells, vMk, set_at, Join, vToInt, bits64, bits64u, bits8, htp, Nat.zero_add, Bool.false_eq_true, if_false, if_true, z5, hlen]
  by_cases hn : (l.length : Int) > 100
  · simp only [hn, decide_true]; exact bad 3 (by omega)
  simp only [hn, decide_false]
  refine HLoop.ghost (σ := Int × Nat) (fun g => [.lit (.int .i64 g.1), .lit (.int .i64 g.2)]) (fun g t' => g.2 ≤ l.length ∧ t' = s1 ∧ g.1 = (if g.2 = 0 then -1 else (l.getD (g.2 - 1) r0).off) ∧ ∀ i, i < g.2 → OkRec ⟨c0, c1, c2, c3, c4, some l⟩ (if i = 0 then -1 else (l.getD (i - 1) r0).off) (l.getD i r0)) (fun g => l.length - g.2) (-1, 0) rfl ⟨Nat.zero_le _, rfl, rfl, fun i hi => absurd hi (Nat.not_lt_zero _)⟩ ?_
  rintro ⟨last, i⟩ t K ⟨hi, rfl, hla, hok⟩ hK
  simp only at hi hla hok
  simp only [List.headD_cons, List.tail_cons, htp, z5, hlen]
  by_cases hlt : i < l.length
  · have hlt' : (i : Int) < (l.length : Int) := by omega
    have hix := recsC_idx l i hlt
    obtain ⟨x, hx⟩ : ∃ x, x = l.getD i r0 := ⟨_, rfl⟩
    rw [← hx] at hix
    simp only [hlt', decide_true, vIdx, recsV, Int.natCast_nonneg, true_and, if_true, Int.toNat_natCast, hix, recC_len, Nat.le_refl, List.drop_zero, hcz, Nat.zero_add, List.length_cons, List.length_nil, Nat.reduceAdd, List.take_succ_cons, List.take_zero]
    refine (checkRecord x ⟨c0, c1, c2, c3, c4, some l⟩ last).mono ?_
    rintro v s2 ⟨rfl, e, rfl, he⟩
    simp only [if_true]
    cases h0 : (e != 0) with
    | true =>
      simp only []
      refine hfin _ e (le_refl' _) fun h => ?_
      subst h; cases h0
    | false =>
      have he0 : e = 0 := by simpa using h0
      have hr := he he0
      have y0 : (recC x)[0]? = some (.lit (.int .i64 x.off)) := rfl
      simp only [htp, z5, recsV, hlt', true_and, if_true, Int.natCast_nonneg, Int.toNat_natCast, hix, y0, List.getElem?_cons_zero, List.getElem?_cons_succ]
      refine hK (x.off, i + 1) _ _ (by rw [w64 (by omega) (by omega)]; rfl) ⟨hlt, rfl, ?_, ?_⟩ (by show l.length - (i + 1) < l.length - i; omega)
      · show x.off = _
        rw [if_neg (Nat.succ_ne_zero i), Nat.add_sub_cancel, hx]
      · intro j hj
        by_cases hji : j = i
        · subst hji
          rw [← hx, ← hla]; exact hr
        · exact hok j (by show j < i; have : j < i + 1 := hj; omega)
  · obtain rfl : i = l.length := by omega
    have hlt' : ¬ (l.length : Int) < (l.length : Int) := by omega
    have hOk : OkBat ⟨c0, c1, c2, c3, c4, some l⟩ l := ⟨g1, g2, g3, by omega, g4, g5, hok⟩
    simp only [hlt', decide_false, List.length_cons, List.length_nil, Nat.reduceAdd, Nat.le_refl, if_true, List.drop_zero, List.take_succ_cons, List.take_zero]
    refine (encode_len ⟨c0, c1, c2, c3, c4, some l⟩ l rfl (by omega) ?_).mono ?_
    · intro r hr
      obtain ⟨j, hj, rfl⟩ := List.mem_iff_getElem.1 hr
      have := okRec_short (hok j hj)
      rwa [show l.getD j r0 = l[j] from by simp [List.getD, hj]] at this
    · intro v s2 h2
      obtain ⟨k, hk, hl2, -⟩ := h2.row
      rw [hl2]
      simp only
      cases decide ((k : Int) > 65536) with
      | true => exact hfin s2 3 h2.hle (fun _ => hOk)
      | false => exact hfin s2 0 h2.hle (fun _ => hOk)
end Go.Proofs.Ytecnfekcflfihaa.CL
namespace Go.Proofs.Ytecnfekcflfihaa.CL
open Go.Proofs.Ytecnfekcflfihaa.H Go.Proofs.Ytecnfekcflfihaa.C1
set_option linter.unusedVariables false
set_option linter.unusedSimpArgs false
set_option maxRecDepth 100000
/-- What an argument is: nothing is nil. -/
def InBat (b : Bat) : Prop := ∃ r, b.recs = some r ∧ r.length ≤ 9223372036854775807 ∧ ∀ y ∈ r, ∃ k v, y.key = some k ∧ y.val = some v
def InSeg (x : Seg) : Prop := ∃ l, x = some l ∧ l.length ≤ 9223372036854775807 ∧ ∀ b ∈ l, InBat b
def MayB (b : Bat) : Prop := ∃ l, b.recs = some l ∧ l ≠ [] ∧ OkBat b l
def Rising (l : List Bat) : Prop := l.Pairwise fun a b => a.last < b.base
structure Mayy (segs : List Seg) : Prop where
  n : segs.length ≤ 20
  m : ∀ x ∈ segs, (x.getD []).length ≤ 30
  ok : ∀ x ∈ segs, ∀ b ∈ x.getD [], MayB b
  up : Rising (flatS segs)
theorem rising_snoc {l : List Bat} {b : Bat} (h : Rising l) (hb : ∀ a ∈ l, a.last < b.base) : Rising (l ++ [b]) := by
  unfold Rising at *
  rw [List.pairwise_append]
  exact ⟨h, List.pairwise_singleton _ _, fun a ha c hc => by simp at hc; subst hc; exact hb a ha⟩
theorem may {s : HS} (segs : List Seg) (hl : segs.length ≤ 9223372036854775807) (hin : ∀ x ∈ segs, InSeg x) :
    HC Try.prog 13 [rowL segC 1 segs] s (fun v s' => s' = s ∧ ∃ g : Bool, v = .lit (.bool g) ∧ (g = true → Mayy segs)) := by
  refine HC.weaken (HC13 ?_)
  unfold c13
  have hfin : ∀ t, HS.le s t → ∃ s'', HS.le s'' t ∧ s'' = s ∧ ∃ g : Bool, HV.lit (.bool false) = .lit (.bool g) ∧ (g = true → Mayy segs) := fun t h => ⟨s, h, rfl, false, rfl, fun h => by cases h⟩
  simp only [Try.underlying22, len_rowL, bindO, vBin, if_true]
  by_cases h20 : (segs.length : Int) > 20
  · simp only [h20, decide_true, hcond]; exact hfin s (le_refl' s)
  simp only [h20, decide_false, hcond]
  refine HLoop.ghost (σ := Int × Int × Nat) (fun g => [.lit (.int .i64 g.1), .lit (.int .i64 g.2.1), .lit (.int .i64 g.2.2)])
    (fun g t => g.2.2 ≤ segs.length ∧ 0 ≤ g.2.1 ∧ HS.le s t ∧ (∀ x ∈ segs.take g.2.2, (x.getD []).length ≤ 30 ∧ ∀ b ∈ x.getD [], MayB b) ∧ Rising (flatS (segs.take g.2.2)) ∧ ∀ b ∈ flatS (segs.take g.2.2), b.last ≤ g.1) (fun g => segs.length - g.2.2) (-1, 0, 0) rfl
    ⟨Nat.zero_le _, by decide, le_refl' s, fun x hx => by simp at hx, by simp [flatS, Rising], fun b hb => by simp [flatS] at hb⟩ ?_
  rintro ⟨last, n, i⟩ t K ⟨hi, hn, hst, hok, hup, hla⟩ hK
  simp only at hi hn hst hok hup hla
  simp only [List.headD_cons, List.tail_cons]
  by_cases hlt : i < segs.length
  · have hlt' : (i : Int) < (segs.length : Int) := by omega
    have htk := take_succ' (none : Seg) segs (i := i) hlt
    obtain ⟨l, hxl, hl1, hl2⟩ := hin _ (getD_mem (z := none) hlt)
    have hidx := idx_rowL segC_len none segs .i64 hlt
    rw [hxl] at hidx htk
    have hx0 : (segC (some l))[0]? = some (batsV (some l)) := rfl
    have hlen : ∀ t, vLenT (Try.prog.underlying 31) t (batsV (some l)) = some (.lit (.int .i64 l.length)) := fun t => rfl
    simp only [hlt', decide_true, hidx, load_elt1, hx0]
    refine (weights l 4000 hl1 (fun b hb => hl2 b hb)).mono ?_
    rintro v t1 ⟨rfl, w, rfl, hw⟩
    have e1 : hfill (fun i => some (i * 1, 1)) [.lit (.int .i64 0)] [(0, .lit (.int .i64 w))] = some [.lit (.int .i64 w)] := rfl
    simp only [hBS, e1, hNew]
    intro id hid
    refine HC.frzN hid ?_
    have e2 : ([HV.lit (.int .i64 n), HV.view id 0 1 1 true] : List HV).map (frz2 id [.lit (.int .i64 w)]) = [.lit (.int .i64 n), .list 1 1 [.lit (.int .i64 w)] false] := by simp [frz2, frz1, frz0, phi]
    rw [e2]
    refine (sum (s := t1) n [w] hn (by simpa using hw) (by simp)).mono ?_
    rintro v t2 ⟨rfl, m, rfl, hm⟩
    refine Join.of (fun xs s' => s' = t2 ∧ ∃ g : Bool, xs = [.lit (.bool g)] ∧ (g = false → l.length ≤ 30)) ?_ ?_
    rotate_left
    · intro K2 hK2
      by_cases h1 : m > 4000
      · simp only [h1, decide_true]; exact hK2 _ _ ⟨rfl, true, rfl, by simp⟩
      · simp only [h1, decide_false, hlen]
        exact hK2 _ _ ⟨rfl, _, rfl, fun h => by simp at h; omega⟩
    rintro xs s1 ⟨rfl, g, rfl, hg⟩
    simp only [List.headD_cons]
    cases g with
    | true => simp only; exact hfin _ hst
    | false =>
    have h30 := hg rfl
    simp only
    refine HLoop.ghost (σ := Int × Nat) (fun g => [.lit (.int .i64 g.1), .lit (.int .i64 g.2)])
      (fun g t => g.2 ≤ l.length ∧ HS.le s t ∧ (∀ b ∈ l.take g.2, MayB b) ∧ Rising (flatS (segs.take i) ++ l.take g.2) ∧ ∀ b ∈ flatS (segs.take i) ++ l.take g.2, b.last ≤ g.1) (fun g => l.length - g.2) (last, 0) rfl
      ⟨Nat.zero_le _, hst, fun x hx => by simp at hx, by simpa using hup, by simpa using hla⟩ ?_
    rintro ⟨la, j⟩ t3 K3 ⟨hj, hst3, hok3, hup3, hla3⟩ hK3
    simp only at hj hst3 hok3 hup3 hla3
    simp only [List.headD_cons, List.tail_cons, hidx, load_elt1, hx0, hlen]
    by_cases hjl : j < l.length
    · have hjl' : (j : Int) < (l.length : Int) := by omega
      have htj := take_succ' b0 l hjl
      obtain ⟨r, hr, hr1, hr2⟩ := hl2 _ (getD_mem (z := b0) hjl)
      have hixj := vIdx_batsV (some l) j hjl
      simp only [Option.getD_some] at hixj
      generalize l.getD j b0 = y at *
      simp only [hjl', decide_true, hixj, load_elt _ _ 6 (batC_len _)]
      intro X hX
      have hle := le_set_new (.cells (batC y)) hst3 hX
      have hat := set_at t3 X (.cells (batC y))
      have e0 : putCells [HV.lit (.int .i64 0), .lit (.int .i64 0), .lit (.int .i64 0), .lit (.int .i64 0), .lit (.int .i64 0), .lit (.slice none 0 0)] 0 (batC y) = batC y := by simp [putCells, batC]
      simp only [hStore, hc_agg, set_at, batC_len, true_and, Nat.zero_add, List.length_cons, List.length_nil, Nat.reduceAdd, Nat.le_refl, set_set, e0]
      refine ⟨by simpa using (ho_batC y), ?_⟩
      generalize t3.set X (.cells (batC y)) = t4 at *
      have y5 : (batC y)[5]? = some (recsV (some r)) := by rw [← hr]; rfl
      have y0 : (batC y)[0]? = some (.lit (.int .i64 y.base)) := rfl
      have y1 : (batC y)[1]? = some (.lit (.int .i64 y.last)) := rfl
      have hlr : ∀ t, vLenT (Try.prog.underlying 44) t (recsV (some r)) = some (.lit (.int .i64 r.length)) := fun t => rfl
      refine Join.of (fun xs s' => s' = t4 ∧ ∃ g : Bool, xs = [.lit (.bool g)] ∧ (g = false → MayB y ∧ la < y.base)) ?_ ?_
      rotate_left
      · intro K4 hK4
        have kt : K4 [.lit (.bool true)] t4 := hK4 _ _ ⟨rfl, true, rfl, by simp⟩
        simp only [vField, Nat.zero_add, vLoad, hat, takeCells, Bool.false_eq_true, if_false, y5, hlr, vCmp, vBin, if_true]
        cases h0 : ((r.length : Int) == 0) with
        | true => simp only; exact kt
        | false =>
          simp only
          by_cases h100 : (r.length : Int) > 100
          · simp only [h100, decide_true]; exact kt
          · simp only [h100, decide_false, batC_len, Nat.le_refl, if_true, List.drop_zero, hcb]
            refine (check y r hr).mono ?_
            rintro v t5 ⟨rfl, e, rfl, he⟩
            simp only [if_true]
            cases h1 : (e != 0) with
            | true => simp only; exact kt
            | false =>
              have he0 : e = 0 := by simpa using h1
              simp only [hat, y0, if_true]
              refine hK4 _ _ ⟨rfl, _, rfl, fun h => ⟨⟨r, hr, ?_, he he0⟩, by simp at h; omega⟩⟩
              rintro rfl
              simp at h0
      rintro xs s2 ⟨rfl, g, rfl, hg⟩
      simp only [List.headD_cons]
      cases g with
      | true => simp only; exact hfin _ hle
      | false =>
        obtain ⟨hmb, hlb⟩ := hg rfl
        simp only [vField, Nat.zero_add, vLoad, hat, takeCells, Bool.false_eq_true, if_false, y1, if_true]
        have hbl : y.base ≤ y.last := by
          obtain ⟨rr, e1, -, e2⟩ := hmb
          exact e2.b1
        refine hK3 (y.last, j + 1) _ _ (by rw [w64 (by omega) (by omega)]; rfl) ⟨hjl, hle, ?_, ?_, ?_⟩ (by show l.length - (j + 1) < l.length - j; omega)
        · intro b hb
          rw [htj] at hb
          rcases List.mem_append.1 hb with hb | hb
          · exact hok3 b hb
          · simp at hb; subst hb; exact hmb
        · rw [htj, ← List.append_assoc]
          exact rising_snoc hup3 fun a ha => by have := hla3 a ha; omega
        · rw [htj, ← List.append_assoc]
          intro b hb
          rcases List.mem_append.1 hb with hb | hb
          · have := hla3 b hb
            show b.last ≤ y.last
            omega
          · simp at hb; subst hb; exact Int.le_refl _
    · obtain rfl : j = l.length := by omega
      have hlt' : ¬ (l.length : Int) < (l.length : Int) := by omega
      simp only [hlt', decide_false]
      rw [List.take_length] at hok3 hup3 hla3
      have hfl : flatS (segs.take (i + 1)) = flatS (segs.take i) ++ l := by rw [htk, flatS_app]; simp [flatS]
      refine hK (la, m, i + 1) _ _ (by rw [w64 (by omega) (by omega)]; rfl) ⟨hlt, hm, hst3, ?_, by rw [hfl]; exact hup3, by rw [hfl]; exact hla3⟩ (by show segs.length - (i + 1) < segs.length - i; omega)
      intro x hx
      rw [htk] at hx
      rcases List.mem_append.1 hx with hx | hx
      · exact hok x hx
      · simp at hx; subst hx; exact ⟨h30, hok3⟩
  · obtain rfl : i = segs.length := by omega
    have hlt' : ¬ (segs.length : Int) < (segs.length : Int) := by omega
    simp only [hlt', decide_false]
    rw [List.take_length] at hok hup hla
    exact ⟨s, hst, rfl, true, rfl, fun _ => ⟨by omega, fun x hx => (hok x hx).1, fun x hx => (hok x hx).2, hup⟩⟩
end Go.Proofs.Ytecnfekcflfihaa.CL
namespace Go.Proofs.Ytecnfekcflfihaa.CL
open Go.Proofs.Ytecnfekcflfihaa.H Go.Proofs.Ytecnfekcflfihaa.C4 Go.Proofs.Ytecnfekcflfihaa.C5
set_option linter.unusedVariables false
set_option linter.unusedSimpArgs false
set_option maxRecDepth 100000
def all2 {α : Type} (f : α → α → Bool) : List α → List α → Bool
  | [], [] => true
  | x :: a, y :: b => f x y && all2 f a b
  | _, _ => false
theorem all2_ne {α : Type} {f : α → α → Bool} : ∀ (a b : List α), a.length ≠ b.length → all2 f a b = false
  | [], [], h => absurd rfl h
  | [], _ :: _, _ => rfl
  | _ :: _, [], _ => rfl
  | x :: a, y :: b, h => by simp only [all2, all2_ne a b (fun e => h (by simp [e])), Bool.and_false]
theorem all2_refl {α : Type} {f : α → α → Bool} : ∀ (a : List α), (∀ x ∈ a, f x x = true) → all2 f a a = true
  | [], _ => rfl
  | x :: a, h => by simp only [all2, h x List.mem_cons_self, all2_refl a (fun y hy => h y (List.mem_cons_of_mem _ hy)), Bool.and_self]
def sameB' (a b : Option (List Int)) : Bool := keyB a == keyB b
def sameR (r q : Rec) : Bool := r.off == q.off && (r.time == q.time && (r.hasKey == q.hasKey && (r.hasVal == q.hasVal && (sameB' r.key q.key && sameB' r.val q.val))))
theorem sameR_refl (r : Rec) : sameR r r = true := by simp [sameR, sameB']
theorem recsV_row (o : Option (List Rec)) : recsV o = rowV recC 6 o := by cases o <;> rfl
theorem vIdx_recsV (o : Option (List Rec)) (i : Nat) (hi : i < (o.getD []).length) : vIdx 6 (recsV o) (.lit (.int .i64 i)) = some (.elt (recC ((o.getD []).getD i r0)) 0) := by
  cases o with
  | none => simp at hi
  | some l => exact idx_rowL recC_len r0 l .i64 hi
def strOf (k : Option (List Int)) : ByteArray := ⟨(keyB k).toArray⟩
theorem toList_go (s : ByteArray) : ∀ (k i : Nat) (r : List UInt8), s.size - i = k → i ≤ s.size → ByteArray.toList.loop s i r = r.reverse ++ s.data.toList.drop i := by
  intro k
  induction k with
  | zero =>
    intro i r h hi
    have : i = s.size := by omega
    unfold ByteArray.toList.loop
    rw [if_neg (by omega)]
    have e : s.data.toList.drop i = [] := List.drop_of_length_le (by rw [this]; show s.data.toList.length ≤ s.data.size; simp)
    rw [e, List.append_nil]
  | succ k ih =>
    intro i r h hi
    have hlt : i < s.size := by omega
    unfold ByteArray.toList.loop
    rw [if_pos hlt, ih (i + 1) _ (by omega) (by omega)]
    have hlt2 : i < s.data.toList.length := by
      have : s.data.toList.length = s.data.size := by simp
      rw [this]; exact hlt
    rw [List.drop_eq_getElem_cons hlt2, List.reverse_cons, List.append_assoc]
    congr 1
    show [s.data[i]!] ++ _ = _
    rw [getElem!_pos s.data i (by simpa using hlt2)]
    rfl
theorem toList_data (s : ByteArray) : s.toList = s.data.toList := by
  unfold ByteArray.toList
  rw [toList_go s s.size 0 [] (by omega) (by omega)]
  simp
theorem str_eq (a b : Option (List Int)) : ((⟨(keyB a).toArray⟩ : ByteArray).toList == (⟨(keyB b).toArray⟩ : ByteArray).toList) = sameB' a b := by rw [toList_data, toList_data]; rfl
theorem sameRecord {s : HS} (r q : Rec) : HC Try.prog 30 [.agg (recC r), .agg (recC q)] s (fun v s' => s' = s ∧ v = .lit (.bool (sameR r q))) := by
  refine HC.weaken (HC30 ?_)
  obtain ⟨off, time, hk, key, hv, val⟩ := r
  obtain ⟨off2, time2, hk2, key2, hv2, val2⟩ := q
  simp only [c30, hBox, hc_agg, recC]
  intro p hp q hq
  have hpq := ne_new (set_at s p _) hq
  have htq := set_at (s.set p (.cells [.lit (.int .i64 off), .lit (.int .i64 time), .lit (.bool hk), byV key, .lit (.bool hv), byV val])) q (.cells [.lit (.int .i64 off2), .lit (.int .i64 time2), .lit (.bool hk2), byV key2, .lit (.bool hv2), byV val2])
  have htp : ((s.set p (.cells [.lit (.int .i64 off), .lit (.int .i64 time), .lit (.bool hk), byV key, .lit (.bool hv), byV val])).set q (.cells [.lit (.int .i64 off2), .lit (.int .i64 time2), .lit (.bool hk2), byV key2, .lit (.bool hv2), byV val2])) p = some (.cells [.lit (.int .i64 off), .lit (.int .i64 time), .lit (.bool hk), byV key, .lit (.bool hv), byV val]) := by rw [set_ne _ _ hpq, set_at]
  have hst : HS.le s ((s.set p (.cells [.lit (.int .i64 off), .lit (.int .i64 time), .lit (.bool hk), byV key, .lit (.bool hv), byV val])).set q (.cells [.lit (.int .i64 off2), .lit (.int .i64 time2), .lit (.bool hk2), byV key2, .lit (.bool hv2), byV val2])) := le_set_new _ (le_set_new _ (le_refl' s) hp) hq
  generalize ((s.set p (.cells [.lit (.int .i64 off), .lit (.int .i64 time), .lit (.bool hk), byV key, .lit (.bool hv), byV val])).set q (.cells [.lit (.int .i64 off2), .lit (.int .i64 time2), .lit (.bool hk2), byV key2, .lit (.bool hv2), byV val2])) = t at *
  have fin : ∀ g g' : Bool, g = g' → ∃ s'', HS.le s'' t ∧ s'' = s ∧ HV.lit (.bool g) = .lit (.bool g') := fun g g' h => ⟨s, hst, rfl, by rw [h]⟩
  simp only [bindO, hcond, vCmp, vBin, vEq, vUn, vNil, vField, vLoad, takeCells, vExtract, hNew, hStore, hBox, hc_int, hc_bool, hc_agg, hc_list, hc_view, hc_ptr, set_at, Join, isStr_by, toStr_by, Nat.zero_add, List.getElem?_cons_zero, List.getElem?_cons_succ, Bool.false_eq_true, if_false, if_true, htp, htq, Try.underlying3, Try.underlying4, Try.underlying9, kv, str_eq, Option.map_some]
  cases h1 : (off == off2) with
  | false => exact fin _ _ (by simp [sameR, h1])
  | true =>
  cases h2 : (time == time2) with
  | false => exact fin _ _ (by simp [sameR, h2])
  | true =>
  cases h3 : (hk == hk2) with
  | false => exact fin _ _ (by simp [sameR, h3])
  | true =>
  cases h4 : (hv == hv2) with
  | false => exact fin _ _ (by simp [sameR, h4])
  | true =>
  cases h5 : sameB' key key2 with
  | false => exact fin _ _ (by simp [sameR, h5])
  | true => exact fin _ _ (by simp only [sameR, h1, h2, h3, h4, h5, Bool.true_and])
theorem sameRecords {s : HS} (a b : Option (List Rec)) (ha : (a.getD []).length ≤ 9223372036854775807) :
    HC Try.prog 36 [recsV a, recsV b] s (fun v s' => s' = s ∧ v = .lit (.bool (all2 sameR (a.getD []) (b.getD [])))) := by
  refine HC36 ?_
  unfold c36
  have hl : ∀ (o : Option (List Rec)) t, vLenT (Try.prog.underlying 44) t (recsV o) = some (.lit (.int .i64 ((o.getD []).length : Nat))) := fun o t => by cases o <;> rfl
  simp only [hl, bindO, vCmp, vBin, if_true]
  by_cases hne : (a.getD []).length = (b.getD []).length
  · have h0 : (((a.getD []).length : Int) != ((b.getD []).length : Int)) = false := by simp [hne]
    simp only [h0, hcond]
    refine HLoop.ghost (σ := Nat) (fun i => [.lit (.int .i64 i)]) (fun i t => i ≤ (a.getD []).length ∧ t = s ∧ all2 sameR ((a.getD []).drop i) ((b.getD []).drop i) = all2 sameR (a.getD []) (b.getD [])) (fun i => (a.getD []).length - i) 0 rfl ⟨Nat.zero_le _, rfl, rfl⟩ ?_
    rintro i t K ⟨hi, rfl, hall⟩ hK
    simp only [List.headD_cons]
    by_cases hlt : i < (a.getD []).length
    · have hlt' : (i : Int) < ((a.getD []).length : Int) := by omega
      have hltb : i < (b.getD []).length := by omega
      have e1 := vIdx_recsV a i hlt
      have e2 := vIdx_recsV b i hltb
      rw [drop_cons' r0 _ hlt, drop_cons' r0 _ hltb] at hall
      have hxm : ∀ (P : Rec → Prop), (∀ x ∈ a.getD [], P x) → P ((a.getD []).getD i r0) := fun P h => h _ (getD_mem hlt)
      skip
      generalize (a.getD []).getD i r0 = x at *
      generalize (b.getD []).getD i r0 = y at *
      simp only [hlt', decide_true, e1, e2, load_elt _ _ 6 (recC_len _)]
      refine (sameRecord x y).mono ?_
      rintro v s' ⟨rfl, rfl⟩
      skip
      simp only [all2] at hall
      cases h : sameR x y with
      | true =>
        rw [h, Bool.true_and] at hall
        simp only [vUn, Bool.not_true]
        exact hK (i + 1) _ _ (by rw [w64 (by omega) (by omega)]; rfl) ⟨hlt, rfl, hall⟩ (by omega)
      | false =>
        rw [h, Bool.false_and] at hall
        simp only [vUn, Bool.not_false, ← hall]
        first | exact ⟨rfl, rfl⟩ | trivial
    · obtain rfl : i = (a.getD []).length := by omega
      have hlt' : ¬ ((a.getD []).length : Int) < ((a.getD []).length : Int) := by omega
      rw [List.drop_length, hne, List.drop_length] at hall
      simp only [hlt', decide_false, ← hall]
      first | exact ⟨rfl, rfl⟩ | trivial
  · have h0 : (((a.getD []).length : Int) != ((b.getD []).length : Int)) = true := by simp; omega
    simp only [h0, hcond, all2_ne _ _ hne]
    first | exact ⟨rfl, rfl⟩ | trivial
def sameBat (a b : Bat) : Bool := a.base == b.base && (a.last == b.last && (a.prod == b.prod && (a.epoch == b.epoch && (a.seq == b.seq && all2 sameR (a.recs.getD []) (b.recs.getD [])))))
theorem sameBat_refl (a : Bat) : sameBat a a = true := by simp [sameBat, all2_refl _ (fun x _ => sameR_refl x)]
def LenB (b : Bat) : Prop := (b.recs.getD []).length ≤ 9223372036854775807
theorem sameBatch {s : HS} (a b : Bat) (ha : LenB a) : HC Try.prog 25 [.agg (batC a), .agg (batC b)] s (fun v s' => s' = s ∧ v = .lit (.bool (sameBat a b))) := by
  refine HC.weaken (HC25 ?_)
  obtain ⟨base, last, prod, epoch, seq, recs⟩ := a
  obtain ⟨base2, last2, prod2, epoch2, seq2, recs2⟩ := b
  simp only [c25, hBox, hc_agg, batC]
  intro p hp q hq
  have hpq := ne_new (set_at s p _) hq
  have htq := set_at (s.set p (.cells [.lit (.int .i64 base), .lit (.int .i64 last), .lit (.int .i64 prod), .lit (.int .i64 epoch), .lit (.int .i64 seq), recsV recs])) q (.cells [.lit (.int .i64 base2), .lit (.int .i64 last2), .lit (.int .i64 prod2), .lit (.int .i64 epoch2), .lit (.int .i64 seq2), recsV recs2])
  have htp : ((s.set p (.cells [.lit (.int .i64 base), .lit (.int .i64 last), .lit (.int .i64 prod), .lit (.int .i64 epoch), .lit (.int .i64 seq), recsV recs])).set q (.cells [.lit (.int .i64 base2), .lit (.int .i64 last2), .lit (.int .i64 prod2), .lit (.int .i64 epoch2), .lit (.int .i64 seq2), recsV recs2])) p = some (.cells [.lit (.int .i64 base), .lit (.int .i64 last), .lit (.int .i64 prod), .lit (.int .i64 epoch), .lit (.int .i64 seq), recsV recs]) := by rw [set_ne _ _ hpq, set_at]
  have hst : HS.le s ((s.set p (.cells [.lit (.int .i64 base), .lit (.int .i64 last), .lit (.int .i64 prod), .lit (.int .i64 epoch), .lit (.int .i64 seq), recsV recs])).set q (.cells [.lit (.int .i64 base2), .lit (.int .i64 last2), .lit (.int .i64 prod2), .lit (.int .i64 epoch2), .lit (.int .i64 seq2), recsV recs2])) := le_set_new _ (le_set_new _ (le_refl' s) hp) hq
  generalize ((s.set p (.cells [.lit (.int .i64 base), .lit (.int .i64 last), .lit (.int .i64 prod), .lit (.int .i64 epoch), .lit (.int .i64 seq), recsV recs])).set q (.cells [.lit (.int .i64 base2), .lit (.int .i64 last2), .lit (.int .i64 prod2), .lit (.int .i64 epoch2), .lit (.int .i64 seq2), recsV recs2])) = t at *
  have fin : ∀ g g' : Bool, g = g' → ∃ s'', HS.le s'' t ∧ s'' = s ∧ HV.lit (.bool g) = .lit (.bool g') := fun g g' h => ⟨s, hst, rfl, by rw [h]⟩
  simp only [bindO, hcond, vCmp, vBin, vEq, vUn, vNil, vField, vLoad, takeCells, vExtract, hNew, hStore, hBox, hc_int, hc_bool, hc_agg, hc_list, hc_view, hc_ptr, set_at, Join, isStr_by, toStr_by, Nat.zero_add, List.getElem?_cons_zero, List.getElem?_cons_succ, Bool.false_eq_true, if_false, if_true, htp, htq]
  cases h1 : (base == base2) with
  | false => exact fin _ _ (by simp [sameBat, h1])
  | true =>
  cases h2 : (last == last2) with
  | false => exact fin _ _ (by simp [sameBat, h2])
  | true =>
  cases h3 : (prod == prod2) with
  | false => exact fin _ _ (by simp [sameBat, h3])
  | true =>
  cases h4 : (epoch == epoch2) with
  | false => exact fin _ _ (by simp [sameBat, h4])
  | true =>
  cases h5 : (seq == seq2) with
  | false => exact fin _ _ (by simp [sameBat, h5])
  | true =>
    simp only []
    refine (sameRecords recs recs2 ha).mono ?_
    rintro v s' ⟨rfl, rfl⟩
    exact fin _ _ (by simp only [sameBat, h1, h2, h3, h4, h5, Bool.true_and])
theorem sameBatches {s : HS} (a b : Option (List Bat)) (ha : (a.getD []).length ≤ 9223372036854775807) (hL : ∀ x ∈ a.getD [], LenB x) :
    HC Try.prog 26 [batsV a, batsV b] s (fun v s' => s' = s ∧ v = .lit (.bool (all2 sameBat (a.getD []) (b.getD [])))) := by
  refine HC26 ?_
  unfold c26
  have hl : ∀ (o : Option (List Bat)) t, vLenT (Try.prog.underlying 31) t (batsV o) = some (.lit (.int .i64 ((o.getD []).length : Nat))) := fun o t => by cases o <;> rfl
  simp only [hl, bindO, vCmp, vBin, if_true]
  by_cases hne : (a.getD []).length = (b.getD []).length
  · have h0 : (((a.getD []).length : Int) != ((b.getD []).length : Int)) = false := by simp [hne]
    simp only [h0, hcond]
    refine HLoop.ghost (σ := Nat) (fun i => [.lit (.int .i64 i)]) (fun i t => i ≤ (a.getD []).length ∧ t = s ∧ all2 sameBat ((a.getD []).drop i) ((b.getD []).drop i) = all2 sameBat (a.getD []) (b.getD [])) (fun i => (a.getD []).length - i) 0 rfl ⟨Nat.zero_le _, rfl, rfl⟩ ?_
    rintro i t K ⟨hi, rfl, hall⟩ hK
    simp only [List.headD_cons]
    by_cases hlt : i < (a.getD []).length
    · have hlt' : (i : Int) < ((a.getD []).length : Int) := by omega
      have hltb : i < (b.getD []).length := by omega
      have e1 := vIdx_batsV a i hlt
      have e2 := vIdx_batsV b i hltb
      rw [drop_cons' b0 _ hlt, drop_cons' b0 _ hltb] at hall
      have hxm : ∀ (P : Bat → Prop), (∀ x ∈ a.getD [], P x) → P ((a.getD []).getD i b0) := fun P h => h _ (getD_mem hlt)
      have hLx := hxm LenB hL
      generalize (a.getD []).getD i b0 = x at *
      generalize (b.getD []).getD i b0 = y at *
      simp only [hlt', decide_true, e1, e2, load_elt _ _ 6 (batC_len _)]
      refine (sameBatch x y hLx).mono ?_
      rintro v s' ⟨rfl, rfl⟩
      skip
      simp only [all2] at hall
      cases h : sameBat x y with
      | true =>
        rw [h, Bool.true_and] at hall
        simp only [vUn, Bool.not_true]
        exact hK (i + 1) _ _ (by rw [w64 (by omega) (by omega)]; rfl) ⟨hlt, rfl, hall⟩ (by omega)
      | false =>
        rw [h, Bool.false_and] at hall
        simp only [vUn, Bool.not_false, ← hall]
        first | exact ⟨rfl, rfl⟩ | trivial
    · obtain rfl : i = (a.getD []).length := by omega
      have hlt' : ¬ ((a.getD []).length : Int) < ((a.getD []).length : Int) := by omega
      rw [List.drop_length, hne, List.drop_length] at hall
      simp only [hlt', decide_false, ← hall]
      first | exact ⟨rfl, rfl⟩ | trivial
  · have h0 : (((a.getD []).length : Int) != ((b.getD []).length : Int)) = true := by simp; omega
    simp only [h0, hcond, all2_ne _ _ hne]
    first | exact ⟨rfl, rfl⟩ | trivial
theorem vIdx_segsV (o : Option (List Seg)) (i : Nat) (hi : i < (o.getD []).length) : vIdx 1 (rowV segC 1 o) (.lit (.int .i64 i)) = some (.elt (segC ((o.getD []).getD i none)) 0) := by
  cases o with
  | none => simp at hi
  | some l => exact idx_rowL segC_len none l .i64 hi
theorem seg0 (x : Seg) : (segC x)[0]? = some (batsV x) := rfl
theorem alls {s : HS} (o : Option (List Seg)) (hl : (o.getD []).length ≤ 100000) (hf : (flatS (o.getD [])).length ≤ 100000) : HC Try.prog 29 [rowV segC 1 o] s (fun v s' => s' = s ∧ v = batsV (orNil (flatS (o.getD [])))) := by
  refine HC.up (HC29 ?_)
  unfold c29
  have hlen : ∀ t, vLenT (Try.prog.underlying 22) t (rowV segC 1 o) = some (.lit (.int .i64 ((o.getD []).length : Nat))) := fun t => by cases o <;> rfl
  have hflat : ∀ i, (flatS ((o.getD []).take i)).length ≤ 100000 := by
    intro i
    refine Nat.le_trans ?_ hf
    have := congrArg List.length (flatS_app ((o.getD []).take i) ((o.getD []).drop i))
    rw [List.take_append_drop, List.length_append] at this
    omega
  refine HLoop.ghost (σ := HV × Nat) (fun g => [g.1, .lit (.int .i64 g.2)]) (fun g t => g.2 ≤ (o.getD []).length ∧ HS.le s t ∧ Acc s t 6 g.1 (flatS ((o.getD []).take g.2)).length (batsC (flatS ((o.getD []).take g.2)))) (fun g => (o.getD []).length - g.2) (nilV, 0) rfl ⟨Nat.zero_le _, le_refl' _, Acc.nil _ _ _⟩ ?_
  rintro ⟨A, i⟩ t K ⟨hi, hst, ho⟩ hK
  simp only at hi hst ho
  simp only [List.tail_cons, List.headD_cons, hlen, bindO, vBin, if_true]
  by_cases hlt : i < (o.getD []).length
  · have hlt' : (i : Int) < ((o.getD []).length : Int) := by omega
    have htk := take_succ' (none : Seg) (o.getD []) hlt
    have hix := vIdx_segsV o i hlt
    generalize (o.getD []).getD i none = x at *
    simp only [hlt', decide_true, hcond, hix, load_elt1, seg0]
    have hfl : flatS ((o.getD []).take (i + 1)) = flatS ((o.getD []).take i) ++ x.getD [] := by rw [htk, flatS_app]; simp [flatS]
    have hfl2 := hflat (i + 1)
    rw [hfl, List.length_append] at hfl2
    refine ho.app hst (lcells_batsV x t) (llen_batsV x) (batsC_len _) ⟨by omega, by omega⟩ ?_
    intro A' t' g1 g2 _
    refine hK (A', i + 1) _ _ (by rw [w64 (by omega) (by omega)]; rfl) ⟨hlt, g2, ?_⟩ (by show (o.getD []).length - (i + 1) < (o.getD []).length - i; omega)
    rw [hfl, List.length_append, batsC_app]
    exact g1
  · obtain rfl : i = (o.getD []).length := by omega
    have hlt' : ¬ ((o.getD []).length : Int) < ((o.getD []).length : Int) := by omega
    simp only [hlt', decide_false, hcond]
    rw [List.take_length] at ho
    have := ho.up hst
    rw [accV_bats] at this
    exact ⟨_, s, this, rfl, rfl⟩
def flatR (l : List Bat) : List Rec := l.flatMap fun b => b.recs.getD []
theorem flatR_app (a b : List Bat) : flatR (a ++ b) = flatR a ++ flatR b := by simp [flatR]
theorem lcells_recsV (o : Option (List Rec)) (s : HS) : lcells s 6 (recsV o) = some (recsC (o.getD [])) := by rw [recsV_row]; exact lcells_rowV o s
theorem llen_recsV (o : Option (List Rec)) : llen (recsV o) = (o.getD []).length := by rw [recsV_row]; exact llen_rowV o
theorem bat5 (b : Bat) : (batC b)[5]? = some (recsV b.recs) := rfl
theorem records {s : HS} (o : Seg) (hl : (o.getD []).length ≤ 100000) (hf : (flatR (o.getD [])).length ≤ 100000) : HC Try.prog 28 [batsV o] s (fun v s' => s' = s ∧ v = recsV (orNil (flatR (o.getD [])))) := by
  refine HC.up (HC28 ?_)
  unfold c28
  have hflat : ∀ i, (flatR ((o.getD []).take i)).length ≤ 100000 := by
    intro i
    refine Nat.le_trans ?_ hf
    have := congrArg List.length (flatR_app ((o.getD []).take i) ((o.getD []).drop i))
    rw [List.take_append_drop, List.length_append] at this
    omega
  refine HLoop.ghost (σ := HV × Nat) (fun g => [g.1, .lit (.int .i64 g.2)]) (fun g t => g.2 ≤ (o.getD []).length ∧ HS.le s t ∧ Acc s t 6 g.1 (flatR ((o.getD []).take g.2)).length (recsC (flatR ((o.getD []).take g.2)))) (fun g => (o.getD []).length - g.2) (nilV, 0) rfl ⟨Nat.zero_le _, le_refl' _, Acc.nil _ _ _⟩ ?_
  rintro ⟨A, i⟩ t K ⟨hi, hst, ho⟩ hK
  simp only at hi hst ho
  simp only [List.tail_cons, List.headD_cons, len_batsV, bindO, vBin, if_true]
  by_cases hlt : i < (o.getD []).length
  · have hlt' : (i : Int) < ((o.getD []).length : Int) := by omega
    have htk := take_succ' b0 (o.getD []) hlt
    have hix := vIdx_batsV o i hlt
    generalize (o.getD []).getD i b0 = x at *
    simp only [hlt', decide_true, hcond, hix, field_elt, load_elt1, Nat.zero_add, bat5]
    have hfl : flatR ((o.getD []).take (i + 1)) = flatR ((o.getD []).take i) ++ x.recs.getD [] := by rw [htk, flatR_app]; simp [flatR]
    have hfl2 := hflat (i + 1)
    rw [hfl, List.length_append] at hfl2
    refine ho.app hst (lcells_recsV x.recs t) (llen_recsV x.recs) (recsC_len _) ⟨by omega, by omega⟩ ?_
    intro A' t' g1 g2 _
    refine hK (A', i + 1) _ _ (by rw [w64 (by omega) (by omega)]; rfl) ⟨hlt, g2, ?_⟩ (by show (o.getD []).length - (i + 1) < (o.getD []).length - i; omega)
    rw [hfl, List.length_append, recsC_app]
    exact g1
  · obtain rfl : i = (o.getD []).length := by omega
    have hlt' : ¬ ((o.getD []).length : Int) < ((o.getD []).length : Int) := by omega
    simp only [hlt', decide_false, hcond]
    rw [List.take_length] at ho
    have := ho.up hst
    rw [accV_recs] at this
    exact ⟨_, s, this, rfl, rfl⟩
end Go.Proofs.Ytecnfekcflfihaa.CL
namespace Go.Proofs.Ytecnfekcflfihaa.CL
open Go.Proofs.Ytecnfekcflfihaa.H
set_option linter.unusedVariables false
set_option linter.unusedSimpArgs false
theorem flatS_cons (x : Seg) (l : List Seg) : flatS (x :: l) = x.getD [] ++ flatS l := by simp [flatS]
theorem flatR_cons (b : Bat) (l : List Bat) : flatR (b :: l) = b.recs.getD [] ++ flatR l := by simp [flatR]
theorem flatS_len (l : List Seg) (h : ∀ x ∈ l, (x.getD []).length ≤ 30) : (flatS l).length ≤ 30 * l.length := by
  induction l with
  | nil => simp [flatS]
  | cons x r ih =>
    have h1 := h x List.mem_cons_self
    have h2 := ih fun y hy => h y (List.mem_cons_of_mem _ hy)
    rw [flatS_cons, List.length_append, List.length_cons]
    omega
theorem flatR_len (l : List Bat) (h : ∀ b ∈ l, (b.recs.getD []).length ≤ 100) : (flatR l).length ≤ 100 * l.length := by
  induction l with
  | nil => simp [flatR]
  | cons x r ih =>
    have h1 := h x List.mem_cons_self
    have h2 := ih fun y hy => h y (List.mem_cons_of_mem _ hy)
    rw [flatR_cons, List.length_append, List.length_cons]
    omega
theorem mem_flatS {l : List Seg} {b : Bat} : b ∈ flatS l ↔ ∃ x ∈ l, b ∈ x.getD [] := by simp [flatS]
theorem mem_flatR {l : List Bat} {r : Rec} : r ∈ flatR l ↔ ∃ b ∈ l, r ∈ b.recs.getD [] := by simp [flatR]
theorem MayB.len {b : Bat} (h : MayB b) : (b.recs.getD []).length ≤ 100 := by obtain ⟨l, h1, h2, h3⟩ := h; rw [h1]; exact h3.n
theorem Mayy.mem {segs : List Seg} (h : Mayy segs) {b : Bat} (hb : b ∈ flatS segs) : MayB b := by
  obtain ⟨x, hx, hbx⟩ := mem_flatS.1 hb
  exact h.ok x hx b hbx
theorem Mayy.lenS {segs : List Seg} (h : Mayy segs) : (flatS segs).length ≤ 600 := by have := flatS_len segs h.m; have := h.n; omega
theorem Mayy.lenR {segs : List Seg} (h : Mayy segs) : (flatR (flatS segs)).length ≤ 60000 := by have := flatR_len (flatS segs) (fun b hb => (h.mem hb).len); have := h.lenS; omega
theorem MayB.in {b : Bat} (h : MayB b) {r : Rec} (hr : r ∈ b.recs.getD []) : b.base ≤ r.off ∧ r.off ≤ b.last := by
  obtain ⟨l, h1, h2, h3⟩ := h
  rw [h1, Option.getD_some] at hr
  obtain ⟨j, hj, rfl⟩ := List.mem_iff_getElem.1 hr
  have := h3.recs j hj
  rw [show l.getD j r0 = l[j] from by simp [List.getD, hj]] at this
  exact ⟨this.lo, this.hi⟩
theorem MayB.offs {b : Bat} (h : MayB b) : (b.recs.getD []).Pairwise fun r q => r.off < q.off := by
  obtain ⟨l, h1, h2, h3⟩ := h
  rw [h1, Option.getD_some]
  have key : ∀ d i, i + d + 1 < l.length → (l.getD i r0).off < (l.getD (i + d + 1) r0).off := by
    intro d
    induction d with
    | zero =>
      intro i hi
      have := (h3.recs (i + 1) hi).up
      rw [if_neg (Nat.succ_ne_zero i), Nat.add_sub_cancel] at this
      exact this
    | succ d ih =>
      intro i hi
      have a1 := ih i (by omega)
      have a2 := (h3.recs (i + (d + 1) + 1) hi).up
      rw [if_neg (Nat.succ_ne_zero _), Nat.add_sub_cancel] at a2
      have e : i + (d + 1) = i + d + 1 := by omega
      rw [e] at a2 ⊢
      omega
  rw [List.pairwise_iff_getElem]
  intro i j hi hj hij
  have := key (j - i - 1) i (by omega)
  rw [show i + (j - i - 1) + 1 = j by omega] at this
  simpa [List.getD, hi, hj] using this
theorem offs_rising : ∀ (l : List Bat), (∀ b ∈ l, MayB b) → Rising l → (flatR l).Pairwise fun r q => r.off < q.off
  | [], _, _ => by simp [flatR]
  | b :: l, h, hr => by
    unfold Rising at hr
    rw [List.pairwise_cons] at hr
    rw [flatR_cons, List.pairwise_append]
    refine ⟨(h b List.mem_cons_self).offs, offs_rising l (fun x hx => h x (List.mem_cons_of_mem _ hx)) hr.2, fun r hrb q hq => ?_⟩
    obtain ⟨b', hb', hqb⟩ := mem_flatR.1 hq
    have g1 := ((h b List.mem_cons_self).in hrb).2
    have g2 := ((h b' (List.mem_cons_of_mem _ hb')).in hqb).1
    have g3 := hr.1 b' hb'
    omega
theorem put_some {M : Value → Option Int} {k q : Value} {x l : Int} (h : put M k x q = some l) : (q = k ∧ l = x) ∨ M q = some l := by
  unfold put at h
  split at h
  · rename_i e; exact .inl ⟨e, (Option.some.inj h).symm⟩
  · exact .inr h
theorem offF_some {W : Int} {g : (Value → Option Int) × Nat} {k q : Value} {x l : Int} (h : (offF W g k x).1 q = some l) : (q = k ∧ l = x) ∨ g.1 q = some l := by
  unfold offF at h
  split at h
  · rename_i y hy
    rcases put_some h with ⟨rfl, rfl⟩ | h
    · rcases Int.le_total x y with h1 | h1
      · right; rw [hy]; congr 1; omega
      · left; exact ⟨rfl, by omega⟩
    · exact .inr h
  · split at h
    · exact .inr h
    · exact put_some h
theorem fold_some {W from_ : Int} : ∀ (l : List Rec) (g : (Value → Option Int) × Nat) {q : Value} {x : Int}, (l.foldl (offStep W from_) g).1 q = some x → (∃ r ∈ l, r.hasKey = true ∧ kv r.key = q ∧ r.off = x ∧ from_ ≤ r.off) ∨ g.1 q = some x
  | [], g, q, x, h => .inr h
  | r :: l, g, q, x, h => by
    rw [List.foldl_cons] at h
    rcases fold_some l _ h with ⟨r', h1, h2⟩ | h
    · exact .inl ⟨r', List.mem_cons_of_mem _ h1, h2⟩
    · unfold offStep at h
      split at h
      · rename_i hc
        rcases offF_some h with ⟨rfl, rfl⟩ | h
        · exact .inl ⟨r, List.mem_cons_self, hc.1, rfl, rfl, hc.2⟩
        · exact .inr h
      · exact .inr h
theorem build_some {W from_ : Int} : ∀ (l : List Bat) (g : (Value → Option Int) × Nat) (upto : Int) {q : Value} {x : Int}, (buildF W from_ l g upto).1.1 q = some x → (∃ r ∈ flatR l, r.hasKey = true ∧ kv r.key = q ∧ r.off = x ∧ from_ ≤ r.off) ∨ g.1 q = some x
  | [], g, upto, q, x, h => .inr h
  | b :: l, g, upto, q, x, h => by
    unfold buildF at h
    split at h
    · exact .inr h
    · rcases build_some l _ _ h with ⟨r', h1, h2⟩ | h
      · exact .inl ⟨r', by rw [flatR_cons]; exact List.mem_append_right _ h1, h2⟩
      · rcases fold_some _ _ h with ⟨r', h1, h2⟩ | h
        · exact .inl ⟨r', by rw [flatR_cons]; exact List.mem_append_left _ h1, h2⟩
        · exact .inr h
theorem keptB_lenR (M : Value → Option Int) (upto now grace : Int) : ∀ l : List Bat, (flatR (keptB M upto now grace l)).length ≤ (flatR l).length
  | [] => Nat.le_refl _
  | b :: l => by
    have ih := keptB_lenR M upto now grace l
    have h1 : (keptR M upto now grace (b.recs.getD [])).length ≤ (b.recs.getD []).length := List.length_filter_le _ _
    have h2 : (cutB M upto now grace b).recs.getD [] = keptR M upto now grace (b.recs.getD []) := getD_orNil _
    simp only [keptB]
    split
    · rw [flatR_cons, flatR_cons, List.length_append, List.length_append, h2]; omega
    · rw [flatR_cons, List.length_append]; omega
def SameHead (x y : Bat) : Prop := x.base = y.base ∧ x.last = y.last ∧ x.prod = y.prod ∧ x.seq = y.seq
inductive Emb : List Bat → List Bat → Prop
  | done (ys : List Bat) : Emb [] ys
  | skip {xs ys : List Bat} (y : Bat) (h : Emb xs ys) : Emb xs (y :: ys)
  | take {xs ys : List Bat} (x y : Bat) (h : SameHead x y) (h' : Emb xs ys) : Emb (x :: xs) (y :: ys)
theorem Emb.refl : ∀ l, Emb l l
  | [] => .done _
  | x :: l => .take x x ⟨rfl, rfl, rfl, rfl⟩ (Emb.refl l)
theorem Emb.pad {c : List Bat} : ∀ (b : List Bat) {d : List Bat}, Emb c d → Emb c (b ++ d)
  | [], d, h => h
  | y :: b, d, h => .skip y (Emb.pad b h)
theorem Emb.append {a b c d : List Bat} (h : Emb a b) (k : Emb c d) : Emb (a ++ c) (b ++ d) := by
  induction h with
  | done ys => exact Emb.pad ys k
  | skip y h ih => exact .skip y ih
  | take x y h h' ih => exact .take x y h ih
theorem keptB_emb (M : Value → Option Int) (upto now grace : Int) : ∀ l : List Bat, Emb (keptB M upto now grace l) l
  | [] => .done _
  | b :: l => by
    simp only [keptB]
    split
    · exact .take _ _ ⟨rfl, rfl, rfl, rfl⟩ (keptB_emb M upto now grace l)
    · exact .skip _ (keptB_emb M upto now grace l)
theorem idx_emb : ∀ (l : List Seg) (f : Nat → Seg → Seg), (∀ i x, Emb ((f i x).getD []) (x.getD [])) → Emb (flatS (l.mapIdx f)) (flatS l)
  | [], f, h => Emb.refl _
  | x :: l, f, h => by
    rw [List.mapIdx_cons, flatS_cons, flatS_cons]
    exact (h 0 x).append (idx_emb l (fun i => f (i + 1)) fun i x => h (i + 1) x)
theorem outs_emb (M : Value → Option Int) (upto now grace : Int) (last : Nat) (l : List Seg) : Emb (flatS (outsF M upto now grace last l)) (flatS l) := idx_emb l _ fun i x => by
  unfold cleanAt; split
  · rw [getD_orNil]; exact keptB_emb _ _ _ _ _
  · rw [getD_orNil]; exact Emb.refl _
theorem Emb.mem {xs ys : List Bat} (h : Emb xs ys) : ∀ x ∈ xs, ∃ y ∈ ys, SameHead x y := by
  induction h with
  | done ys => intro x hx; cases hx
  | skip y h ih => intro x hx; obtain ⟨y', h1, h2⟩ := ih x hx; exact ⟨y', List.mem_cons_of_mem _ h1, h2⟩
  | take x y h h' ih =>
    intro z hz
    rcases List.mem_cons.1 hz with rfl | hz
    · exact ⟨y, List.mem_cons_self, h⟩
    · obtain ⟨y', h1, h2⟩ := ih z hz; exact ⟨y', List.mem_cons_of_mem _ h1, h2⟩
theorem Emb.tail {x : Bat} {xs ys : List Bat} (h : Emb (x :: xs) ys) : Emb xs ys := by
  generalize hz : x :: xs = z at h
  induction h with
  | done ys => cases hz
  | skip y h ih => exact .skip y (ih hz)
  | take x' y h h' ih => cases hz; exact .skip y h'
end Go.Proofs.Ytecnfekcflfihaa.CL
end
section
namespace Go.Proofs.Ytecnfekcflfihaa.C6
end Go.Proofs.Ytecnfekcflfihaa.C6
end
section
namespace Go.Proofs.Ytecnfekcflfihaa.CL
open Go.Proofs.Ytecnfekcflfihaa.H Go.Proofs.Ytecnfekcflfihaa.C6
set_option linter.unusedVariables false
set_option linter.unusedSimpArgs false
set_option maxRecDepth 100000
theorem kv_same (a b : Option (List Int)) : kv a = kv b ↔ sameB' a b = true := by
  constructor
  · intro h
    have h1 : (⟨(keyB a).toArray⟩ : ByteArray) = ⟨(keyB b).toArray⟩ := by injection h
    have h2 : (keyB a).toArray = (keyB b).toArray := by injection h1
    have h3 : keyB a = keyB b := by have := congrArg Array.toList h2; simpa using this
    simp [sameB', h3]
  · intro h
    have : keyB a = keyB b := by simpa [sameB'] using h
    simp [kv, this]
theorem len_recsV (o : Option (List Rec)) (s : HS) : vLenT (Try.prog.underlying 44) s (recsV o) = some (.lit (.int .i64 ((o.getD []).length : Nat))) := by cases o <;> rfl
theorem cfg_len (c : Cfg) : (cfgC c).length = 9 := rfl
theorem cfg6 (c : Cfg) : (cfgC c)[6]? = some (.lit (.int .i64 c.grace)) := rfl
theorem okB_of {segs : List Seg} (h : Mayy segs) : ∀ x ∈ segs, ∀ b ∈ x.getD [], OkB b := by
  intro x hx b hb
  obtain ⟨l, h1, h2, h3⟩ := h.ok x hx b hb
  refine ⟨l, h1, h2, by have := h3.n; omega, fun r hr => ?_⟩
  obtain ⟨j, hj, rfl⟩ := List.mem_iff_getElem.1 hr
  have := h3.recs j hj
  rw [show l.getD j r0 = l[j] from by simp [List.getD, hj]] at this
  have hk := this.k
  have hv := this.v
  constructor
  · unfold short; cases hkk : l[j].key with
    | none => trivial
    | some k => rw [hkk, Option.getD_some] at hk; show k.length ≤ _; omega
  · unfold short; cases hkk : l[j].val with
    | none => trivial
    | some k => rw [hkk, Option.getD_some] at hv; show k.length ≤ _; omega
end Go.Proofs.Ytecnfekcflfihaa.CL
namespace Go.Proofs.Ytecnfekcflfihaa.CL
open Go.Proofs.Ytecnfekcflfihaa.H
set_option linter.unusedVariables false
set_option linter.unusedSimpArgs false
theorem fresh_le (M : Value → Option Int) (from_ : Int) : ∀ (l : List Rec) (g : (Value → Option Int) × Nat), (l.foldl (freshStep M from_) g).2 ≤ g.2 + l.length
  | [], g => Nat.le_refl _
  | r :: l, g => by
    rw [List.foldl_cons, List.length_cons]
    have h1 := fresh_le M from_ l (freshStep M from_ g r)
    have h2 : (freshStep M from_ g r).2 ≤ g.2 + 1 := by
      unfold freshStep
      split
      · dsimp only
        split
        · exact Nat.le_succ _
        · exact Nat.le_refl _
      · exact Nat.le_succ _
    omega
theorem offF_mono {W : Int} {g : (Value → Option Int) × Nat} {k q : Value} {x y : Int} (h : ∃ z, g.1 q = some z ∧ y ≤ z) : ∃ z, (offF W g k x).1 q = some z ∧ y ≤ z := by
  obtain ⟨z, h1, h2⟩ := h
  unfold offF
  split
  · rename_i v hv
    by_cases e : q = k
    · subst e
      rw [hv] at h1
      cases h1
      exact ⟨max x z, by simp [put], by omega⟩
    · exact ⟨z, by simp [put, e, h1], h2⟩
  · rename_i hv
    split
    · exact ⟨z, h1, h2⟩
    · by_cases e : q = k
      · subst e
        rw [hv] at h1
        cases h1
      · exact ⟨z, by simp [put, e, h1], h2⟩
theorem offStep_mono {W from_ : Int} {g : (Value → Option Int) × Nat} {r : Rec} {q : Value} {y : Int} (h : ∃ z, g.1 q = some z ∧ y ≤ z) : ∃ z, (offStep W from_ g r).1 q = some z ∧ y ≤ z := by
  unfold offStep
  split
  · exact offF_mono h
  · exact h
theorem fold_mono {W from_ : Int} : ∀ (l : List Rec) (g : (Value → Option Int) × Nat) {q : Value} {y : Int}, (∃ z, g.1 q = some z ∧ y ≤ z) → ∃ z, (l.foldl (offStep W from_) g).1 q = some z ∧ y ≤ z
  | [], g, q, y, h => h
  | r :: l, g, q, y, h => by rw [List.foldl_cons]; exact fold_mono l _ (offStep_mono h)
theorem keptB_recs (M : Value → Option Int) (upto now grace : Int) : ∀ l : List Bat, flatR (keptB M upto now grace l) = (flatR l).filter fun r => stays r M upto now grace
  | [] => rfl
  | b :: l => by
    have ih := keptB_recs M upto now grace l
    have h2 : (cutB M upto now grace b).recs.getD [] = keptR M upto now grace (b.recs.getD []) := getD_orNil _
    rw [flatR_cons, List.filter_append, ← ih]
    simp only [keptB]
    split
    · rw [flatR_cons, h2]; rfl
    · rename_i hne
      have : keptR M upto now grace (b.recs.getD []) = [] := by simpa using hne
      unfold keptR at this
      rw [this]; rfl
theorem keptB_form {M : Value → Option Int} {upto now grace : Int} : ∀ {l : List Bat} {b : Bat}, b ∈ keptB M upto now grace l → ∃ b0 ∈ l, b = cutB M upto now grace b0 ∧ keptR M upto now grace (b0.recs.getD []) ≠ []
  | x :: l, b, h => by
    simp only [keptB] at h
    split at h
    · rename_i hne
      rcases List.mem_cons.1 h with rfl | h
      · exact ⟨x, List.mem_cons_self, rfl, hne⟩
      · obtain ⟨b0, h1, h2⟩ := keptB_form h
        exact ⟨b0, List.mem_cons_of_mem _ h1, h2⟩
    · obtain ⟨b0, h1, h2⟩ := keptB_form h
      exact ⟨b0, List.mem_cons_of_mem _ h1, h2⟩
theorem orNil_ne {α : Type} {l : List α} (h : l ≠ []) : orNil l = some l := by cases l with | nil => exact absurd rfl h | cons => rfl
theorem outs_len (M : Value → Option Int) (upto now grace : Int) (last : Nat) (l : List Seg) : (outsF M upto now grace last l).length = l.length := by unfold outsF; rw [List.length_mapIdx]
/-- The clean part. -/
theorem outs_take (M : Value → Option Int) (upto now grace : Int) (last : Nat) (segs : List Seg) : flatS ((outsF M upto now grace last segs).take last) = keptB M upto now grace (flatS (segs.take last)) := by
  have key : ∀ n, n ≤ last → flatS ((outsF M upto now grace last segs).take n) = keptB M upto now grace (flatS (segs.take n)) := by
    intro n
    induction n with
    | zero => intro _; simp [flatS, keptB]
    | succ n ih =>
      intro hn
      have ih := ih (by omega)
      by_cases hl : n < segs.length
      · rw [take_succ' none _ (by rw [outs_len]; exact hl), take_succ' none segs hl, flatS_app, flatS_app, keptB_app, ih]
        congr 1
        have e1 : (outsF M upto now grace last segs).getD n none = cleanAt M upto now grace last n (segs.getD n none) := by
          unfold outsF
          simp [List.getD, hl]
        rw [e1]
        unfold cleanAt
        rw [if_pos (by omega)]
        simp [flatS, getD_orNil]
      · rw [List.take_of_length_le (by rw [outs_len]; omega), List.take_of_length_le (by omega)] at ih ⊢
        exact ih
  exact key last (Nat.le_refl _)
end Go.Proofs.Ytecnfekcflfihaa.CL
end
section
namespace Go.Proofs.Ytecnfekcflfihaa.CL
open Go.Proofs.Ytecnfekcflfihaa.H
set_option linter.unusedVariables false
set_option linter.unusedSimpArgs false
abbrev By := List UInt8
abbrev bl_ (a b : By) : Bool := Op.bytesLess a b
theorem bl_irrefl : ∀ a : By, bl_ a a = false
  | [] => rfl
  | x :: a => by simp only [bl_, Op.bytesLess]; have := bl_irrefl a; simp [bl_] at this; simp [this]
theorem bl_tri : ∀ a b : By, bl_ a b = false → a = b ∨ bl_ b a = true
  | [], [], _ => .inl rfl
  | [], y :: b, h => by simp [bl_, Op.bytesLess] at h
  | x :: a, [], _ => .inr rfl
  | x :: a, y :: b, h => by
    simp only [bl_, Op.bytesLess, Bool.or_eq_false_iff, Bool.and_eq_false_iff, decide_eq_false_iff_not] at h
    obtain ⟨h1, h2⟩ := h
    by_cases e : x = y
    · subst e
      have h3 : bl_ a b = false := by rcases h2 with h | h; simp at h; exact h
      rcases bl_tri a b h3 with h | h
      · exact .inl (by rw [h])
      · refine .inr ?_
        simp only [bl_, Op.bytesLess, Bool.or_eq_true, Bool.and_eq_true, beq_self_eq_true, true_and]
        exact .inr h
    · refine .inr ?_
      simp only [bl_, Op.bytesLess, Bool.or_eq_true, decide_eq_true_eq]
      refine .inl ?_
      rcases UInt8.lt_or_lt_of_ne (a := x) (b := y) e with h | h
      · exact absurd h h1
      · exact h
theorem bl_trans : ∀ a b c : By, bl_ a b = true → bl_ b c = true → bl_ a c = true
  | _, b, [], _, h => by cases b <;> simp [bl_, Op.bytesLess] at h
  | _, [], z :: c, h, _ => by rename_i a; cases a <;> simp [bl_, Op.bytesLess] at h
  | [], y :: b, z :: c, _, _ => rfl
  | x :: a, y :: b, z :: c, h, k => by
    simp only [bl_, Op.bytesLess, Bool.or_eq_true, Bool.and_eq_true, decide_eq_true_eq, beq_iff_eq] at h k ⊢
    rcases h with h | ⟨rfl, h⟩ <;> rcases k with k | ⟨rfl, k⟩
    · exact .inl (UInt8.lt_trans h k)
    · exact .inl h
    · exact .inl k
    · exact .inr ⟨rfl, bl_trans a b c h k⟩
theorem bl_asymm {a b : By} (h : bl_ a b = true) : bl_ b a = false := by
  cases hb : bl_ b a with
  | false => rfl
  | true => have := bl_trans a b a h hb; rw [bl_irrefl] at this; cases this
/-- A key, a value, an offset. -/
structure Pr where
  key : Option (List Int)
  val : Option (List Int)
  off : Int
def p0 : Pr := ⟨none, none, 0⟩
def pk (p : Pr) : By := keyB p.key
/-- Sorted by their keys, each once. -/
def SortedP (l : List Pr) : Prop := l.Pairwise fun a b => bl_ (pk a) (pk b) = true
def findI (l : List Pr) (k : By) : Nat := (l.takeWhile fun p => bl_ (pk p) k).length
def findOk (l : List Pr) (k : By) : Bool := match l[findI l k]? with | some p => pk p == k | none => false
def putF (l : List Pr) (p : Pr) : List Pr := l.take (findI l (pk p)) ++ (p :: l.drop (if findOk l (pk p) then findI l (pk p) + 1 else findI l (pk p)))
theorem findI_le (l : List Pr) (k : By) : findI l k ≤ l.length := (List.takeWhile_sublist _).length_le
theorem findI_cons (x : Pr) (l : List Pr) (k : By) : findI (x :: l) k = if bl_ (pk x) k then findI l k + 1 else 0 := by
  unfold findI
  rw [List.takeWhile_cons]
  split <;> simp
theorem findOk_cons (x : Pr) (l : List Pr) (k : By) : findOk (x :: l) k = if bl_ (pk x) k then findOk l k else pk x == k := by
  unfold findOk
  rw [findI_cons]
  by_cases h : bl_ (pk x) k = true
  · simp only [h, if_true, List.getElem?_cons_succ]
  · simp only [h, if_false, List.getElem?_cons_zero, Bool.false_eq_true]
theorem putF_cons (x : Pr) (l : List Pr) (p : Pr) : putF (x :: l) p = if bl_ (pk x) (pk p) then x :: putF l p else if pk x == pk p then p :: l else p :: x :: l := by
  unfold putF
  rw [findI_cons, findOk_cons]
  by_cases h : bl_ (pk x) (pk p) = true
  · simp only [h, if_true]
    by_cases h2 : findOk l (pk p) = true <;> simp [h2]
  · simp only [h, if_false]
    cases h2 : (pk x == pk p) <;> simp
/-- What a row says of a key. -/
def look (l : List Pr) (k : By) : Option Pr := l.find? fun p => pk p == k
theorem look_cons (x : Pr) (l : List Pr) (k : By) : look (x :: l) k = if pk x == k then some x else look l k := by
  unfold look
  rw [List.find?_cons]
  split <;> simp_all
theorem look_none_of_lt {l : List Pr} {k : By} (h : ∀ p ∈ l, bl_ k (pk p) = true) : look l k = none := by
  unfold look
  rw [List.find?_eq_none]
  intro p hp
  have := h p hp
  simp only [beq_iff_eq]
  intro e
  rw [e, bl_irrefl] at this
  cases this
theorem look_put : ∀ (l : List Pr) (p : Pr) (q : By), SortedP l → look (putF l p) q = if pk p == q then some p else look l q
  | [], p, q, _ => by simp [putF, look_cons, findI]
  | x :: l, p, q, h => by
    unfold SortedP at h
    rw [List.pairwise_cons] at h
    rw [putF_cons]
    by_cases hx : bl_ (pk x) (pk p) = true
    · simp only [hx, if_true]
      rw [look_cons, look_put l p q h.2, look_cons]
      cases e1 : (pk x == q) <;> cases e2 : (pk p == q) <;> simp
      rw [eq_of_beq e1, eq_of_beq e2, bl_irrefl] at hx
      cases hx
    · simp only [hx, Bool.false_eq_true, if_false]
      cases e : (pk x == pk p) with
      | true =>
        simp only [if_true]
        rw [look_cons, look_cons]
        have := eq_of_beq e
        rw [this]
        cases (pk p == q) <;> simp
      | false =>
        simp only [Bool.false_eq_true, if_false]
        rw [look_cons]
theorem put_mem : ∀ {l : List Pr} {p q : Pr}, q ∈ putF l p → q = p ∨ q ∈ l
  | [], p, q, h => by simp [putF, findI] at h; exact .inl h
  | x :: l, p, q, h => by
    rw [putF_cons] at h
    split at h
    · rcases List.mem_cons.1 h with rfl | h
      · exact .inr List.mem_cons_self
      · rcases put_mem h with h | h
        · exact .inl h
        · exact .inr (List.mem_cons_of_mem _ h)
    · split at h
      · rcases List.mem_cons.1 h with rfl | h
        · exact .inl rfl
        · exact .inr (List.mem_cons_of_mem _ h)
      · rcases List.mem_cons.1 h with rfl | h
        · exact .inl rfl
        · exact .inr h
theorem put_sorted : ∀ {l : List Pr} {p : Pr}, SortedP l → SortedP (putF l p)
  | [], p, _ => by simp [putF, findI, SortedP]
  | x :: l, p, h => by
    have h0 := h
    unfold SortedP at h
    rw [List.pairwise_cons] at h
    rw [putF_cons]
    by_cases hx : bl_ (pk x) (pk p) = true
    · simp only [hx, if_true]
      unfold SortedP
      rw [List.pairwise_cons]
      refine ⟨fun q hq => ?_, put_sorted h.2⟩
      rcases put_mem hq with rfl | hq
      · exact hx
      · exact h.1 q hq
    · simp only [hx, Bool.false_eq_true, if_false]
      cases e : (pk x == pk p) with
      | true =>
        simp only [if_true]
        unfold SortedP
        rw [List.pairwise_cons, ← eq_of_beq e]
        exact h
      | false =>
        simp only [Bool.false_eq_true, if_false]
        have hlt : bl_ (pk p) (pk x) = true := by
          rcases bl_tri (pk x) (pk p) (by simpa using hx) with h' | h'
          · rw [h'] at e; simp at e
          · exact h'
        unfold SortedP
        rw [List.pairwise_cons]
        refine ⟨fun q hq => ?_, h0⟩
        rcases List.mem_cons.1 hq with rfl | hq
        · exact hlt
        · exact bl_trans _ _ _ hlt (h.1 q hq)
theorem putF_len : ∀ (l : List Pr) (p : Pr), SortedP l → (putF l p).length = if (look l (pk p)).isSome then l.length else l.length + 1
  | [], p, _ => by simp [putF, findI, look]
  | x :: l, p, h => by
    have h0 := h
    unfold SortedP at h
    rw [List.pairwise_cons] at h
    rw [putF_cons, look_cons]
    by_cases hx : bl_ (pk x) (pk p) = true
    · have hne : (pk x == pk p) = false := by
        cases e : (pk x == pk p) with
        | false => rfl
        | true => rw [eq_of_beq e, bl_irrefl] at hx; cases hx
      simp only [hx, if_true, hne, Bool.false_eq_true, if_false, List.length_cons, putF_len l p h.2]
      split <;> rfl
    · simp only [hx, Bool.false_eq_true, if_false]
      cases e : (pk x == pk p) with
      | true => simp
      | false =>
        have hlt : bl_ (pk p) (pk x) = true := by
          rcases bl_tri (pk x) (pk p) (by simpa using hx) with h' | h'
          · rw [h'] at e; simp at e
          · exact h'
        have : look l (pk p) = none := look_none_of_lt fun q hq => bl_trans _ _ _ hlt (h.1 q hq)
        simp [this]
end Go.Proofs.Ytecnfekcflfihaa.CL
namespace Go.Proofs.Ytecnfekcflfihaa.CL
open Go.Proofs.Ytecnfekcflfihaa.H Go.Proofs.Ytecnfekcflfihaa.C4
set_option linter.unusedVariables false
set_option linter.unusedSimpArgs false
set_option maxRecDepth 100000
def Acc0 (b t : HS) (sz : Nat) (A : HV) (n : Nat) (cs : List HV) : Prop := Acc b t sz A n cs ∨ (n = 0 ∧ cs = [] ∧ ∃ q, b q = none ∧ A = .view q 0 sz 0 true ∧ t q = some (.cells []))
theorem Acc0.to {b t : HS} {sz : Nat} {A : HV} {n : Nat} {cs : List HV} (h : Acc0 b t sz A n cs) (hn : n ≠ 0) : Acc b t sz A n cs := by
  rcases h with h | ⟨h, -⟩
  · exact h
  · exact absurd h hn
theorem app_empty {b t : HS} {sz by_ q : Nat} {K : HV → HS → Prop} (hb : HS.le b t) (hq : b q = none) (ht : t q = some (.cells [])) {x : HV} {xs : List HV} {k : Nat} (hx : lcells t sz x = some xs) (hk : llen x = k) (hl : xs.length = k * sz)
    (hroom : room k by_) (hK : ∀ A' t', Acc0 b t' sz A' k xs → HS.le b t' → K A' t') : hAppend t sz by_ (.view q 0 sz 0 true) x K := by
  unfold hAppend
  rw [hx]
  simp only [hk, ht]
  refine ⟨by trivial, by simp, ?_⟩
  simp only [if_true]
  split
  · rename_i h0
    subst h0
    have : xs = [] := List.eq_nil_of_length_eq_zero (by rw [hl]; omega)
    subst this
    exact hK _ _ (.inr ⟨rfl, rfl, q, hq, rfl, ht⟩) hb
  · refine ⟨by rw [Nat.zero_add]; exact hroom, fun id hid => ?_⟩
    have e : (([] : List HV).drop 0).take (0 * sz) ++ xs = xs := by simp
    rw [e]
    exact hK _ _ (.inl (.inr ⟨id, _, none_of_le hb hid, by rw [Nat.zero_add], set_at _ _ _, hl, by omega⟩)) (le_set_new _ hb hid)
theorem Acc0.app1 {b t : HS} {sz by_ : Nat} {A : HV} {n : Nat} {cs zs : List HV} {K : HV → HS → Prop} (h : Acc0 b t sz A n cs) (hb : HS.le b t) {x : HV} {vs : List HV} (hx : hcells x = some vs) (hv : vs.length = sz) (hz : zs.length = sz)
    (hroom : room (n + 1) by_) (hK : ∀ A' t', Acc b t' sz A' (n + 1) (cs ++ vs) → HS.le b t' → K A' t') : hBS t sz 1 zs [(0, x)] (fun v s => hAppend s sz by_ A v K) := by
  rcases h with h | ⟨rfl, rfl, q, h1, rfl, h3⟩
  · exact h.app1 hb hx hv hz hroom fun A' t' g1 g2 _ => hK A' t' g1 g2
  · have hf : hfill (fun i => some (i * sz, sz)) zs [(0, x)] = some vs := by
      simp only [hfill, hx, Nat.zero_mul, Nat.zero_add, hv, hz, Nat.le_refl, and_self, if_true, List.take_zero, List.nil_append]
      rw [List.drop_of_length_le (by omega), List.append_nil]
    unfold hBS
    rw [hf]
    intro id hid
    refine app_empty (le_set_new _ hb hid) h1 (by rw [set_ne _ _ (ne_new h3 hid)]; exact h3) (xs := vs) (k := 1) (by simp [lcells, set_at, hv, List.take_of_length_le]) rfl (by omega) (by rwa [Nat.zero_add] at hroom) ?_
    intro A' t' g1 g2
    exact hK A' t' (by rw [List.nil_append, Nat.zero_add]; exact g1.to (by omega)) g2
def prC (p : Pr) : List HV := [byV p.key, byV p.val, .lit (.int .i64 p.off)]
theorem prC_len (p : Pr) : (prC p).length = 3 := rfl
theorem pr0 (p : Pr) : (prC p)[0]? = some (byV p.key) := rfl
theorem vIdx_prV (o : Option (List Pr)) (i : Nat) (hi : i < (o.getD []).length) : vIdx 3 (rowV prC 3 o) (.lit (.int .i64 i)) = some (.elt (prC ((o.getD []).getD i p0)) 0) := by
  cases o with
  | none => simp at hi
  | some l => exact idx_rowL prC_len p0 l .i64 hi
theorem hc_prC (p : Pr) : hcells (.agg (prC p)) = some (prC p) := rfl
end Go.Proofs.Ytecnfekcflfihaa.CL
namespace Go.Proofs.Ytecnfekcflfihaa.CL
open Go.Proofs.Ytecnfekcflfihaa.H Go.Proofs.Ytecnfekcflfihaa.C4
set_option linter.unusedVariables false
set_option linter.unusedSimpArgs false
set_option maxRecDepth 100000
/-- The sorted row says what the map says. -/
structure RM (o : Option (List Pr)) (g : (Value → Option Int) × Nat) : Prop where
  sorted : SortedP (o.getD [])
  val : ∀ k : Option (List Int), g.1 (kv k) = (look (o.getD []) (keyB k)).map (·.off)
  num : g.2 = (o.getD []).length
theorem keyB_kv {a b : Option (List Int)} : (keyB a == keyB b) = true ↔ kv a = kv b := (kv_same a b).symm
theorem RM.put {o : Option (List Pr)} {g : (Value → Option Int) × Nat} (h : RM o g) (k : Option (List Int)) (x : Int) (n : Nat) (hn : n = if (look (o.getD []) (keyB k)).isSome then g.2 else g.2 + 1) : RM (some (putF (o.getD []) ⟨k, none, x⟩)) (put g.1 (kv k) x, n) := by
  refine ⟨put_sorted h.sorted, fun q => ?_, ?_⟩
  · show CL.put g.1 (kv k) x (kv q) = (look (putF (o.getD []) ⟨k, none, x⟩) (keyB q)).map (·.off)
    rw [look_put _ _ _ h.sorted]
    show _ = (if keyB k == keyB q then some _ else look (o.getD []) (keyB q)).map (·.off)
    unfold CL.put
    cases e : (keyB k == keyB q) with
    | true =>
      rw [if_pos (keyB_kv.1 e).symm]; rfl
    | false =>
      rw [if_neg (fun hc => by rw [keyB_kv.2 hc.symm] at e; cases e)]
      exact h.val q
  · show n = (putF (o.getD []) ⟨k, none, x⟩).length
    rw [putF_len _ _ h.sorted, hn, h.num]
    rfl
/-- An offer, whether there is room or not. -/
theorem RM.offer {W : Int} {o : Option (List Pr)} {g : (Value → Option Int) × Nat} (h : RM o g) (k : Option (List Int)) (x : Int) :
    RM (if ((look (o.getD []) (keyB k)).isSome || decide ((g.2 : Int) < W)) = true then some (putF (o.getD []) ⟨k, none, match look (o.getD []) (keyB k) with | some p => max x p.off | none => x⟩) else o) (offF W g (kv k) x) := by
  have hv := h.val k
  unfold offF
  cases hl : look (o.getD []) (keyB k) with
  | some p =>
    rw [hl] at hv
    simp only [Option.isSome_some, Bool.true_or, if_true, hv, Option.map_some]
    exact h.put k _ _ (by rw [hl]; rfl)
  | none =>
    rw [hl] at hv
    simp only [Option.isSome_none, Bool.false_or, hv, Option.map_none]
    by_cases hr : W ≤ (g.2 : Int)
    · rw [if_pos hr, if_neg (by simp; omega)]
      exact h
    · rw [if_neg hr, if_pos (by simp; omega)]
      exact h.put k _ _ (by rw [hl]; rfl)
open Classical in
noncomputable def DS (from_ : Int) : (Value → Prop) → List Rec → Nat
  | _, [] => 0
  | S, r :: l => if (r.hasKey = true ∧ from_ ≤ r.off) ∧ ¬ S (kv r.key) then 1 + DS from_ (fun q => S q ∨ q = kv r.key) l else DS from_ S l
theorem DS_cons (from_ : Int) (S : Value → Prop) (r : Rec) (l : List Rec) [Decidable ((r.hasKey = true ∧ from_ ≤ r.off) ∧ ¬ S (kv r.key))] : DS from_ S (r :: l) = if (r.hasKey = true ∧ from_ ≤ r.off) ∧ ¬ S (kv r.key) then 1 + DS from_ (fun q => S q ∨ q = kv r.key) l else DS from_ S l := by
  simp only [DS]
  split <;> rfl
open Classical in
theorem put_dom (M : Value → Option Int) (k q : Value) (x : Int) : (put M k x q).isSome = true ↔ (M q).isSome = true ∨ q = k := by
  unfold put
  split
  · rename_i e; simp [e]
  · rename_i e; simp [e]
open Classical in
theorem fresh_DS {from_ : Int} (M : Value → Option Int) : ∀ (l : List Rec) (g : (Value → Option Int) × Nat), (l.foldl (freshStep M from_) g).2 = g.2 + DS from_ (fun q => (M q).isSome = true ∨ (g.1 q).isSome = true) l
  | [], g => rfl
  | r :: l, g => by
    rw [List.foldl_cons, fresh_DS M l, DS_cons]
    by_cases he : r.hasKey = true ∧ from_ ≤ r.off
    · by_cases hM : (M (kv r.key)).isSome = true
      · have hf : isFresh M from_ r = false := by simp [isFresh, hM]
        have e1 : freshStep M from_ g r = g := by unfold freshStep; rw [hf]; rfl
        rw [if_neg (fun h => h.2 (.inl hM)), e1]
      · have hM0 : (M (kv r.key)).isSome = false := by simpa using hM
        have hf : isFresh M from_ r = true := by unfold isFresh; rw [hM0]; simp [he.1, he.2]
        have hg : freshStep M from_ g r = (put g.1 (kv r.key) (IntKind.i64.wrap ((g.1 (kv r.key)).getD 0 + 1)), if (g.1 (kv r.key)).isSome then g.2 else g.2 + 1) := by unfold freshStep; rw [hf]; rfl
        by_cases hgk : (g.1 (kv r.key)).isSome = true
        · rw [if_neg (fun h => h.2 (.inr hgk)), hg, if_pos hgk]
          have : (fun q => (M q).isSome = true ∨ (put g.1 (kv r.key) (IntKind.i64.wrap ((g.1 (kv r.key)).getD 0 + 1)) q).isSome = true) = fun q => (M q).isSome = true ∨ (g.1 q).isSome = true := by
            funext q
            apply propext
            rw [put_dom]
            constructor
            · rintro (h | h | rfl)
              · exact .inl h
              · exact .inr h
              · exact .inr hgk
            · rintro (h | h)
              · exact .inl h
              · exact .inr (.inl h)
          show g.2 + DS from_ (fun q => (M q).isSome = true ∨ (put g.1 (kv r.key) (IntKind.i64.wrap ((g.1 (kv r.key)).getD 0 + 1)) q).isSome = true) l = _
          rw [this]
        · rw [if_pos ⟨he, fun h => h.elim hM hgk⟩, hg, if_neg hgk]
          have : (fun q => (M q).isSome = true ∨ (put g.1 (kv r.key) (IntKind.i64.wrap ((g.1 (kv r.key)).getD 0 + 1)) q).isSome = true) = fun q => ((M q).isSome = true ∨ (g.1 q).isSome = true) ∨ q = kv r.key := by
            funext q
            apply propext
            rw [put_dom]
            constructor
            · rintro (h | h | h)
              · exact .inl (.inl h)
              · exact .inl (.inr h)
              · exact .inr h
            · rintro ((h | h) | h)
              · exact .inl h
              · exact .inr (.inl h)
              · exact .inr (.inr h)
          show g.2 + 1 + DS from_ (fun q => (M q).isSome = true ∨ (put g.1 (kv r.key) (IntKind.i64.wrap ((g.1 (kv r.key)).getD 0 + 1)) q).isSome = true) l = _
          rw [this, Nat.add_assoc]
    · have hf : isFresh M from_ r = false := by
        unfold isFresh
        cases h1 : r.hasKey with
        | false => rfl
        | true =>
          have : ¬ from_ ≤ r.off := fun h => he ⟨h1, h⟩
          simp [this]
      have e1 : freshStep M from_ g r = g := by unfold freshStep; rw [hf]; rfl
      rw [if_neg (fun h => he h.1), e1]
theorem offF_dom {W : Int} {g : (Value → Option Int) × Nat} {k : Value} {x : Int} (h : (g.1 k).isSome = true ∨ (g.2 : Int) < W) (q : Value) : ((offF W g k x).1 q).isSome = true ↔ (g.1 q).isSome = true ∨ q = k := by
  unfold offF
  split
  · exact put_dom _ _ _ _
  · rename_i hn
    rw [hn] at h
    rw [if_neg (by rcases h with h | h; cases h; omega)]
    exact put_dom _ _ _ _
theorem offF_num {W : Int} {g : (Value → Option Int) × Nat} {k : Value} {x : Int} (h : (g.1 k).isSome = true ∨ (g.2 : Int) < W) : (offF W g k x).2 = if (g.1 k).isSome then g.2 else g.2 + 1 := by
  unfold offF
  split
  · rename_i y hy; rw [hy]; rfl
  · rename_i hn
    rw [hn] at h ⊢
    rw [if_neg (by rcases h with h | h; cases h; omega)]
    rfl
open Classical in
/-- There is room for the first, and for the rest behind it. -/
theorem DS_step {W from_ : Int} {g : (Value → Option Int) × Nat} {r : Rec} {l : List Rec} (he : r.hasKey = true ∧ from_ ≤ r.off) (hg : (g.2 : Int) ≤ W) :
    (((g.2 + DS from_ (fun q => (g.1 q).isSome = true) (r :: l) : Nat) : Int) ≤ W ↔ ((g.1 (kv r.key)).isSome = true ∨ (g.2 : Int) < W) ∧ (((offF W g (kv r.key) r.off).2 + DS from_ (fun q => ((offF W g (kv r.key) r.off).1 q).isSome = true) l : Nat) : Int) ≤ W) := by
  rw [DS_cons]
  by_cases hk : (g.1 (kv r.key)).isSome = true
  · rw [if_neg (fun h => h.2 hk), offF_num (.inl hk), if_pos hk]
    have : (fun q => ((offF W g (kv r.key) r.off).1 q).isSome = true) = fun q => (g.1 q).isSome = true := by
      funext q
      apply propext
      rw [offF_dom (.inl hk)]
      exact ⟨fun h => h.elim id (by rintro rfl; exact hk), .inl⟩
    rw [this]
    exact ⟨fun h => ⟨.inl hk, h⟩, fun h => h.2⟩
  · rw [if_pos ⟨he, hk⟩]
    by_cases hr : (g.2 : Int) < W
    · rw [offF_num (.inr hr), if_neg hk]
      have : (fun q => ((offF W g (kv r.key) r.off).1 q).isSome = true) = fun q => (g.1 q).isSome = true ∨ q = kv r.key := by
        funext q
        apply propext
        exact offF_dom (.inr hr) q
      rw [this]
      exact ⟨fun h => ⟨.inr hr, by omega⟩, fun h => by have := h.2; omega⟩
    · exact ⟨fun h => by omega, fun h => (h.1.elim hk hr).elim⟩
end Go.Proofs.Ytecnfekcflfihaa.CL
end
section
namespace Go.Proofs.Ytecnfekcflfihaa.CL
end Go.Proofs.Ytecnfekcflfihaa.CL
end
section
namespace Go.Proofs.Ytecnfekcflfihaa.CL
open Go.Proofs.Ytecnfekcflfihaa.H Go.Proofs.Ytecnfekcflfihaa.C4
set_option linter.unusedVariables false
set_option linter.unusedSimpArgs false
set_option maxRecDepth 100000
theorem offF_len {W from_ : Int} (g : (Value → Option Int) × Nat) (r : Rec) (h : (g.2 : Int) ≤ W) : ((offStep W from_ g r).2 : Int) ≤ W := by
  unfold offStep
  split
  · unfold offF
    split
    · exact h
    · split
      · exact h
      · rename_i h1; show ((g.2 + 1 : Nat) : Int) ≤ W; omega
  · exact h
theorem fold_lenW {W from_ : Int} : ∀ (l : List Rec) (g : (Value → Option Int) × Nat), (g.2 : Int) ≤ W → ((l.foldl (offStep W from_) g).2 : Int) ≤ W
  | [], g, h => h
  | r :: l, g, h => by rw [List.foldl_cons]; exact fold_lenW l _ (offF_len g r h)
/-- What stands within a row that grows is a list from here on. -/
theorem acc_frzIn {b t : HS} {sz : Nat} {A : HV} {n : Nat} {cs : List HV} (h : Acc b t sz A n cs) (hb : HS.le b t) {q : Nat} {ds : List HV} (hq : t q = some (.cells ds)) (hbq : b q = none) (hA : accId A ≠ some q) :
    ∃ t', (∀ ys zs : List HV, (∀ q cs, ys.map (frz2 q cs) = ys) → (∀ q cs, zs.map (frz2 q cs) = zs) → UpL (ys ++ A :: zs) t (ys ++ A :: zs) t') ∧ HS.le b t' ∧ Acc b t' sz A n (cs.map (frz0 q ds)) := by
  rcases h with ⟨rfl, rfl, rfl⟩ | ⟨a, f, h1, rfl, h3, h4⟩
  · exact ⟨b, fun _ _ _ _ => UpL.le _ hb, le_refl' b, .inl ⟨rfl, rfl, rfl⟩⟩
  · have hne : a ≠ q := by rintro rfl; exact hA rfl
    refine ⟨b.set a (.cells (cs.map (frz0 q ds))), fun ys zs hy hz => ?_, le_set_new _ (le_refl' b) h1, .inr ⟨a, f, h1, rfl, set_at _ _ _, by rw [List.length_map]; exact h4⟩⟩
    have hu := UpL.frzG (xs := ys ++ HV.view a 0 sz n f :: zs) (s' := b.set a (.cells (cs.map (frz0 q ds)))) hq (fun k o hk => ?_)
    · have e : (ys ++ HV.view a 0 sz n f :: zs).map (frz2 q ds) = ys ++ HV.view a 0 sz n f :: zs := by
        rw [List.map_append, List.map_cons, hy, hz]
        simp [frz2, frz1, frz0, phi, hne]
      rw [e] at hu
      exact hu
    · by_cases hka : k = a
      · subst hka
        rw [set_at] at hk
        cases hk
        exact ⟨hne, _, h3, .inr rfl⟩
      · rw [set_ne _ _ hka] at hk
        exact ⟨(by rintro rfl; rw [hbq] at hk; cases hk), o, hb _ _ hk, .inl rfl⟩
end Go.Proofs.Ytecnfekcflfihaa.CL
namespace Go.Proofs.Ytecnfekcflfihaa.CL
open Go.Proofs.Ytecnfekcflfihaa.H Go.Proofs.Ytecnfekcflfihaa.C4 Go.Proofs.Ytecnfekcflfihaa.C5
set_option linter.unusedVariables false
set_option linter.unusedSimpArgs false
set_option maxRecDepth 100000
end Go.Proofs.Ytecnfekcflfihaa.CL
end
section
namespace Go.Proofs.Ytecnfekcflfihaa.CL
open Go.Proofs.Ytecnfekcflfihaa.H Go.Proofs.Ytecnfekcflfihaa.C0 Go.Proofs.Ytecnfekcflfihaa.F0
set_option linter.unusedVariables false
set_option linter.unusedSimpArgs false
set_option maxRecDepth 100000
open Classical in
noncomputable def putR (M : Value → Option Rec) (k : Value) (x : Rec) : Value → Option Rec := fun q => if q = k then some x else M q
noncomputable def stepR (g : (Value → Option Rec) × Nat) (r : Rec) : (Value → Option Rec) × Nat := if r.hasKey then (putR g.1 (kv r.key) r, if (g.1 (kv r.key)).isSome then g.2 else g.2 + 1) else g
noncomputable def lastG (xs : List Rec) : (Value → Option Rec) × Nat := xs.foldl stepR (fun _ => none, 0)
def mapR (g : (Value → Option Rec) × Nat) : HObj := .map .string (fun k => (g.1 k).map fun r => .agg (recC r)) g.2
theorem mapR_put (M : Value → Option Rec) (k : Value) (x : Rec) : fput (fun k => (M k).map fun r => .agg (recC r)) k (some (.agg (recC x))) = fun q => (putR M k x q).map fun r => .agg (recC r) := by
  unfold putR fput
  funext q
  split <;> rfl
theorem lastG_take (xs : List Rec) {i : Nat} (hi : i < xs.length) : lastG (xs.take (i + 1)) = stepR (lastG (xs.take i)) (xs.getD i r0) := by
  rw [take_succ' r0 xs hi]; simp [lastG]
theorem lastG_le : ∀ (xs : List Rec) (g : (Value → Option Rec) × Nat), (xs.foldl stepR g).2 ≤ g.2 + xs.length
  | [], g => Nat.le_refl _
  | x :: xs, g => by
    have := lastG_le xs (stepR g x)
    have h2 : (stepR g x).2 ≤ g.2 + 1 := by
      unfold stepR
      split
      · show (if (g.1 (kv x.key)).isSome then g.2 else g.2 + 1) ≤ g.2 + 1
        split <;> omega
      · omega
    simp only [List.foldl_cons, List.length_cons]
    omega
theorem lastG_mem : ∀ (xs : List Rec) (g : (Value → Option Rec) × Nat) (k : Value) (r : Rec), (xs.foldl stepR g).1 k = some r → g.1 k = some r ∨ (r ∈ xs ∧ r.hasKey = true ∧ k = kv r.key)
  | [], g, k, r, h => .inl h
  | x :: xs, g, k, r, h => by
    rcases lastG_mem xs (stepR g x) k r h with h | ⟨h1, h2⟩
    · unfold stepR at h
      split at h
      · rename_i hx
        simp only [putR] at h
        split at h
        · rename_i e; cases h; exact .inr ⟨List.mem_cons_self .., hx, e⟩
        · exact .inl h
      · exact .inl h
    · exact .inr ⟨List.mem_cons_of_mem _ h1, h2⟩
def byI (k : List UInt8) : List Int := k.map fun c => (c.toNat : Int)
def pairOf (M : Value → Option Rec) (k : List UInt8) : Option Pr := match M (encStr k) with
  | some r => if r.hasVal then some ⟨some (byI k), r.val, r.off⟩ else none
  | none => none
def outP (M : Value → Option Rec) (ks : List (List UInt8)) : List Pr := ks.filterMap (pairOf M)
theorem recC2 (r : Rec) : (recC r)[2]? = some (.lit (.bool r.hasKey)) := rfl
theorem recC3 (r : Rec) : (recC r)[3]? = some (byV r.key) := rfl
theorem recC4 (r : Rec) : (recC r)[4]? = some (.lit (.bool r.hasVal)) := rfl
theorem recC5 (r : Rec) : (recC r)[5]? = some (byV r.val) := rfl
theorem recC0 (r : Rec) : (recC r)[0]? = some (.lit (.int .i64 r.off)) := rfl
theorem accV_rows' (l : List Pr) : accV 3 l.length (rows prC l) = rowV prC 3 (orNil l) := by cases l <;> rfl
theorem len_strs (ks : List (List UInt8)) (e : Nat) (s : HS) : vLenT (some (.slice e)) s (strsV ks) = some (.lit (.int .i64 ks.length)) := by
  unfold strsV
  split
  · rename_i h; subst h; rfl
  · rfl
theorem idx_strs (ks : List (List UInt8)) {i : Nat} (hi : i < ks.length) : vIdx 1 (strsV ks) (.lit (.int .i64 i)) = some (.elt [.lit (encStr (ks.getD i []))] 0) := by
  unfold strsV
  rw [if_neg (by rintro rfl; simp at hi)]
  have h1 : ((ks.map fun x => HV.lit (encStr x)).drop i).take 1 = [.lit (encStr (ks.getD i []))] := by
    rw [List.drop_eq_getElem_cons (by simpa using hi)]
    simp [List.getD, hi]
  simp [vIdx, hi, h1]
theorem outP_take (M : Value → Option Rec) (ks : List (List UInt8)) {i : Nat} (hi : i < ks.length) : outP M (ks.take (i + 1)) = outP M (ks.take i) ++ (pairOf M (ks.getD i [])).toList := by
  rw [take_succ' [] ks hi]
  simp only [outP, List.filterMap_append]
  cases h : pairOf M (ks.getD i []) <;> simp [h, -List.getD_eq_getElem?_getD]
theorem outP_len (M : Value → Option Rec) (ks : List (List UInt8)) : (outP M ks).length ≤ ks.length := by
  unfold outP; exact List.length_filterMap_le _ _
theorem frz_prC (q : Nat) (ds : List HV) (l : List Pr) : (rows prC l).map (frz0 q ds) = rows prC l := by
  induction l with
  | nil => rfl
  | cons x r ih =>
    rw [rows_cons, List.map_append, ih]
    obtain ⟨k, v, o⟩ := x
    cases k <;> cases v <;> rfl
theorem up_lit {A A' : HV} {t t' : HS} (v : Value) (h : ∀ ys zs : List HV, (∀ q cs, ys.map (frz2 q cs) = ys) → (∀ q cs, zs.map (frz2 q cs) = zs) → UpL (ys ++ A :: zs) t (ys ++ A' :: zs) t') : UpL [A, .lit v] t [A', .lit v] t' :=
  h [] [.lit v] (fun _ _ => rfl) (fun _ _ => rfl)
theorem of40 {f : Nat} {caps : List HV} (hp : plainFn Try.prog f = true) (xs : List Rec) (s : HS) (it : Gives Try.prog f caps xs.length (encRs xs) s) (hx : xs.length ≤ 100000) (hs : ∀ r ∈ xs, ShortR r) :
    HC Try.prog 40 [.func (.func f) caps] s (fun v s' => ∃ ks : List (List UInt8), ks.Pairwise (fun x y => x ≤ y) ∧ ks.Nodup ∧ (∀ x, x ∈ ks ↔ ((lastG xs).1 (encStr x)).isSome = true) ∧ v = rowV prC 3 (orNil (outP (lastG xs).1 ks)) ∧ s' = s) := by
  refine HC.up (HC40 ?_)
  simp [c40, bindO, hcond, vCmp, vBin, vEq, vUn, vNil, vField, vLoad, takeCells, vExtract, hNew, hStore, hBox, hc_int, hc_bool, hc_string, hc_slice, hc_nilp, hc_nilm, hc_nilf, hc_agg, hc_list, hc_view, hc_ptr, hc_map, hc_func, ho_int, ho_bool, ho_string, ho_slice, ho_nilp, ho_nilm, ho_nilf, ho_list, ho_view, ho_ptr, ho_map, ho_func, putCells, lcells, litCells, isNilS, llen, vMk, set_at, Try.underlying3, Try.underlying4, Try.underlying9, Try.underlying22, Try.underlying31, Try.underlying32, Try.underlying36, Try.underlying44, Try.underlying64, Try.underlying80, Try.underlying90, Try.underlying123]
  intro mid hmid p3 hp3
  have n13 := ne_new (set_at s mid _) hp3
  simp only [set_none_iff] at hp3
  obtain ⟨-, hp3⟩ := hp3
  simp [bindO, hcond, vCmp, vBin, vEq, vUn, vNil, vField, vLoad, takeCells, vExtract, hNew, hStore, hBox, hc_int, hc_bool, hc_string, hc_slice, hc_nilp, hc_nilm, hc_nilf, hc_agg, hc_list, hc_view, hc_ptr, hc_map, hc_func, ho_int, ho_bool, ho_string, ho_slice, ho_nilp, ho_nilm, ho_nilf, ho_list, ho_view, ho_ptr, ho_map, ho_func, putCells, lcells, litCells, isNilS, llen, vMk, set_at, Try.underlying3, Try.underlying4, Try.underlying9, Try.underlying22, Try.underlying31, Try.underlying32, Try.underlying36, Try.underlying44, Try.underlying64, Try.underlying80, Try.underlying90, Try.underlying123, set_set]
  obtain ⟨s1, hs1⟩ : ∃ s1, (s.set mid (.map .string (fun _ => none) 0)).set p3 (.cells [.map mid]) = s1 := ⟨_, rfl⟩
  rw [hs1]
  have hle0 : HS.le s s1 := by rw [← hs1]; exact le_set_new _ (le_set_new _ (le_refl' s) hmid) (by simp [set_none_iff, hp3, Ne.symm n13])
  have e3 : s1 p3 = some (.cells [.map mid]) := by rw [← hs1, set_at]
  have em : s1 mid = some (mapR (lastG [])) := by rw [← hs1, set_ne _ _ n13, set_at]; rfl
  clear hs1
  refine Join.of (fun _ t => HS.le s t ∧ t p3 = some (.cells [.map mid]) ∧ t mid = some (mapR (lastG xs))) ?_ ?_
  · rintro _ t ⟨h1, h2, h3⟩
    simp [bindO, hcond, vCmp, vBin, vEq, vUn, vNil, vField, vLoad, takeCells, vExtract, hNew, hStore, hBox, hc_int, hc_bool, hc_string, hc_slice, hc_nilp, hc_nilm, hc_nilf, hc_agg, hc_list, hc_view, hc_ptr, hc_map, hc_func, ho_int, ho_bool, ho_string, ho_slice, ho_nilp, ho_nilm, ho_nilf, ho_list, ho_view, ho_ptr, ho_map, ho_func, putCells, lcells, litCells, isNilS, llen, vMk, set_at, Try.underlying3, Try.underlying4, Try.underlying9, Try.underlying22, Try.underlying31, Try.underlying32, Try.underlying36, Try.underlying44, Try.underlying64, Try.underlying80, Try.underlying90, Try.underlying123, h2]
    refine (keys63 mid).mono ?_
    rintro v t1 ⟨q, hq, rfl, rfl⟩
    have nqm := ne_new h3 hq
    have nq3 := ne_new h2 hq
    have hn : (lastG xs).2 ≤ 100000 := by
      have := lastG_le xs (fun _ => none, 0)
      simp only [Nat.zero_add] at this
      exact Nat.le_trans this hx
    refine (sorted62 (q := q) (mid := mid) (n := (lastG xs).2) (f := fun k => ((lastG xs).1 k).map fun r => .agg (recC r)) (set_at _ _ _) (by rw [set_ne _ _ nqm]; exact h3) ?_ (by omega)).mono ?_
    · intro k x hkx
      simp only [Option.map_eq_some_iff] at hkx
      obtain ⟨r, hr, -⟩ := hkx
      rcases lastG_mem xs _ k r hr with h | ⟨h4, -, rfl⟩
      · cases h
      · refine ⟨_, rfl, ?_⟩
        have := (hs r h4).1
        cases hkr : r.key with
        | none => simp [keyB]; show (0 : Nat) ≤ _; omega
        | some l =>
          rw [hkr] at this
          have h5 : l.length ≤ 140737488355328 := this
          show ((l.map fun n => UInt8.ofNat n.toNat).toArray).size ≤ _
          simpa using h5
    · rintro v t1 ⟨ks, ho, hnd, hmem, hlen, rfl, rfl⟩
      have hmem' : ∀ x, x ∈ ks ↔ ((lastG xs).1 (encStr x)).isSome = true := fun x => by rw [hmem x, Option.isSome_map]
      obtain ⟨b, hb⟩ : ∃ b, t.set q (.root [.map mid]) = b := ⟨_, rfl⟩
      rw [hb]
      have hsb : HS.le s b := by rw [← hb]; exact le_set_new _ h1 hq
      have b3 : b p3 = some (.cells [.map mid]) := by rw [← hb, set_ne _ _ nq3]; exact h2
      have bm : b mid = some (mapR (lastG xs)) := by rw [← hb, set_ne _ _ nqm]; exact h3
      clear hb
      generalize hG : lastG xs = G at *
      obtain ⟨M, n⟩ := G
      simp [bindO, hcond, vCmp, vBin, vEq, vUn, vNil, vField, vLoad, takeCells, vExtract, hNew, hStore, hBox, hc_int, hc_bool, hc_string, hc_slice, hc_nilp, hc_nilm, hc_nilf, hc_agg, hc_list, hc_view, hc_ptr, hc_map, hc_func, ho_int, ho_bool, ho_string, ho_slice, ho_nilp, ho_nilm, ho_nilf, ho_list, ho_view, ho_ptr, ho_map, ho_func, putCells, lcells, litCells, isNilS, llen, vMk, set_at, Try.underlying3, Try.underlying4, Try.underlying9, Try.underlying22, Try.underlying31, Try.underlying32, Try.underlying36, Try.underlying44, Try.underlying64, Try.underlying80, Try.underlying90, Try.underlying123, len_strs]
      refine HLoop.ghostU (σ := HV × Nat) (fun g => [g.1, .lit (.int .i64 g.2)]) (fun g t => g.2 ≤ ks.length ∧ HS.le b t ∧ Acc b t 3 g.1 (outP M (ks.take g.2)).length (rows prC (outP M (ks.take g.2)))) (fun g => ks.length - g.2) (nilV, 0) b (UpL.refl _ _) ⟨Nat.zero_le _, le_refl' b, .inl ⟨rfl, rfl, rfl⟩⟩ ?_
      rintro ⟨A, i⟩ t2 K ⟨hi, hle, hA⟩ hK
      simp only at hi hle hA
      by_cases hlt : i < ks.length
      · have hlt' : (i : Int) < (ks.length : Int) := by omega
        have hix := idx_strs ks hlt
        have hot := outP_take M ks hlt
        have hol := outP_len M (ks.take i)
        rw [List.length_take] at hol
        have hkm : ks.getD i [] ∈ ks := by rw [List.getD, List.getElem?_eq_getElem hlt]; exact List.getElem_mem hlt
        generalize ks.getD i [] = k at *
        obtain ⟨r, hr⟩ := Option.isSome_iff_exists.1 ((hmem' k).1 hkm)
        have c3 := hle _ _ b3
        have cm := hle _ _ bm
        simp only [mapR] at cm
        simp only at hr
        have hone := hA.one
        have hc := hA.hc
        simp [bindO, hcond, vCmp, vBin, vEq, vUn, vNil, vField, vLoad, takeCells, vExtract, hNew, hStore, hBox, hc_int, hc_bool, hc_string, hc_slice, hc_nilp, hc_nilm, hc_nilf, hc_agg, hc_list, hc_view, hc_ptr, hc_map, hc_func, ho_int, ho_bool, ho_string, ho_slice, ho_nilp, ho_nilm, ho_nilf, ho_list, ho_view, ho_ptr, ho_map, ho_func, putCells, lcells, litCells, isNilS, llen, vMk, set_at, Try.underlying3, Try.underlying4, Try.underlying9, Try.underlying22, Try.underlying31, Try.underlying32, Try.underlying36, Try.underlying44, Try.underlying64, Try.underlying80, Try.underlying90, Try.underlying123, hlt']
        refine Join.of (fun xs' t' => ∃ A' t3, xs' = [A'] ∧ (∀ v, UpL [A', .lit v] t' [A', .lit v] t3) ∧ HS.le b t3 ∧ Acc b t3 3 A' (outP M (ks.take (i + 1))).length (rows prC (outP M (ks.take (i + 1))))) ?_ ?_
        · rintro _ t' ⟨A', t3, rfl, g1, g2, g3⟩
          simp [bindO, hcond, vCmp, vBin, vEq, vUn, vNil, vField, vLoad, takeCells, vExtract, hNew, hStore, hBox, hc_int, hc_bool, hc_string, hc_slice, hc_nilp, hc_nilm, hc_nilf, hc_agg, hc_list, hc_view, hc_ptr, hc_map, hc_func, ho_int, ho_bool, ho_string, ho_slice, ho_nilp, ho_nilm, ho_nilf, ho_list, ho_view, ho_ptr, ho_map, ho_func, putCells, lcells, litCells, isNilS, llen, vMk, set_at, Try.underlying3, Try.underlying4, Try.underlying9, Try.underlying22, Try.underlying31, Try.underlying32, Try.underlying36, Try.underlying44, Try.underlying64, Try.underlying80, Try.underlying90, Try.underlying123]
          exact hK (A', i + 1) _ _ t3 (by rw [w64 (by omega) (by omega)]; exact g1 _) ⟨hlt, g2, g3⟩ (by show ks.length - (i + 1) < ks.length - i; omega)
        · intro K42 hK42
          simp [bindO, hcond, vCmp, vBin, vEq, vUn, vNil, vField, vLoad, takeCells, vExtract, hNew, hStore, hBox, hc_int, hc_bool, hc_string, hc_slice, hc_nilp, hc_nilm, hc_nilf, hc_agg, hc_list, hc_view, hc_ptr, hc_map, hc_func, ho_int, ho_bool, ho_string, ho_slice, ho_nilp, ho_nilm, ho_nilf, ho_list, ho_view, ho_ptr, ho_map, ho_func, putCells, lcells, litCells, isNilS, llen, vMk, set_at, Try.underlying3, Try.underlying4, Try.underlying9, Try.underlying22, Try.underlying31, Try.underlying32, Try.underlying36, Try.underlying44, Try.underlying64, Try.underlying80, Try.underlying90, Try.underlying123, hix, c3, vLookup, cm, hr, keyIs, sameKey, ho_recC, recC_len]
          intro X hX
          have nX3 := ne_new c3 hX
          simp [bindO, hcond, vCmp, vBin, vEq, vUn, vNil, vField, vLoad, takeCells, vExtract, hNew, hStore, hBox, hc_int, hc_bool, hc_string, hc_slice, hc_nilp, hc_nilm, hc_nilf, hc_agg, hc_list, hc_view, hc_ptr, hc_map, hc_func, ho_int, ho_bool, ho_string, ho_slice, ho_nilp, ho_nilm, ho_nilf, ho_list, ho_view, ho_ptr, ho_map, ho_func, putCells, lcells, litCells, isNilS, llen, vMk, set_at, Try.underlying3, Try.underlying4, Try.underlying9, Try.underlying22, Try.underlying31, Try.underlying32, Try.underlying36, Try.underlying44, Try.underlying64, Try.underlying80, Try.underlying90, Try.underlying123, set_set, recC4, recC5, recC0, recC_len, hcz, ho_recC]
          cases hv : r.hasVal with
          | false =>
            simp
            refine hK42 _ _ ⟨A, _, rfl, fun v => UpL.refl _ _, le_set_new _ hle hX, ?_⟩
            rw [hot]
            simp [pairOf, hr, hv]
            exact hA.new _ hX
          | true =>
            simp [hStrBytes, bindO, hcond, vCmp, vBin, vEq, vUn, vNil, vField, vLoad, takeCells, vExtract, hNew, hStore, hBox, hc_int, hc_bool, hc_string, hc_slice, hc_nilp, hc_nilm, hc_nilf, hc_agg, hc_list, hc_view, hc_ptr, hc_map, hc_func, ho_int, ho_bool, ho_string, ho_slice, ho_nilp, ho_nilm, ho_nilf, ho_list, ho_view, ho_ptr, ho_map, ho_func, putCells, lcells, litCells, isNilS, llen, vMk, set_at, Try.underlying3, Try.underlying4, Try.underlying9, Try.underlying22, Try.underlying31, Try.underlying32, Try.underlying36, Try.underlying44, Try.underlying64, Try.underlying80, Try.underlying90, Try.underlying123]
            intro Y hY
            simp only [set_none_iff] at hY
            obtain ⟨hYX, hY⟩ := hY
            have hsz : (ByteArray.mk k.toArray).size = k.length := by simp [ByteArray.size]
            simp [bindO, hcond, vCmp, vBin, vEq, vUn, vNil, vField, vLoad, takeCells, vExtract, hNew, hStore, hBox, hc_int, hc_bool, hc_string, hc_slice, hc_nilp, hc_nilm, hc_nilf, hc_agg, hc_list, hc_view, hc_ptr, hc_map, hc_func, ho_int, ho_bool, ho_string, ho_slice, ho_nilp, ho_nilm, ho_nilf, ho_list, ho_view, ho_ptr, ho_map, ho_func, putCells, lcells, litCells, isNilS, llen, vMk, set_at, Try.underlying3, Try.underlying4, Try.underlying9, Try.underlying22, Try.underlying31, Try.underlying32, Try.underlying36, Try.underlying44, Try.underlying64, Try.underlying80, Try.underlying90, Try.underlying123, set_ne _ _ (Ne.symm hYX), recC5, recC0, hfill, hc_by, ho_by, hsz]
            have hYs : (t2.set X (.cells (recC r))) Y = none := by rw [set_none_iff]; exact ⟨hYX, hY⟩
            have hAY : accId A ≠ some Y := by
              intro e
              have := (hA.free e).2
              rw [hY] at this
              cases this
            refine ((hA.new (.cells (recC r)) hX).new _ hYs).app1 (le_set_new _ (le_set_new _ hle hX) hYs) (vs := [.view Y 0 1 k.length false, byV r.val, .lit (.int .i64 r.off)]) rfl rfl rfl ?_ ?_
            · simp [room]; omega
            · intro A' t' h1 h2 h3
              have o := h3 Y _ hAY (set_at _ _ _)
              obtain ⟨t3, u1, u2, u3⟩ := acc_frzIn h1 h2 o.1 (none_of_le hle hY) o.2
              refine hK42 _ _ ⟨A', t3, rfl, fun v => up_lit v u1, u2, ?_⟩
              rw [hot]
              have hpr : pairOf M k = some ⟨some (byI k), r.val, r.off⟩ := by simp [pairOf, hr, hv]
              rw [hpr]
              have hfr : ([.view Y 0 1 k.length false, byV r.val, .lit (.int .i64 r.off)] : List HV).map (frz0 Y (k.map fun c => HV.lit (.int .u8 c.toNat))) = prC ⟨some (byI k), r.val, r.off⟩ := by
                have e1 : (k.map fun c => HV.lit (.int .u8 c.toNat)).take k.length = bl (byI k) := by
                  rw [List.take_of_length_le (by simp)]
                  simp [bl, byI]
                have e2 : frz0 Y (k.map fun c => HV.lit (.int .u8 c.toNat)) (byV r.val) = byV r.val := by cases r.val <;> rfl
                simp [prC, frz0, phi, e1, byV, byI]
                cases r.val <;> rfl
              rw [List.map_append, frz_prC, hfr] at u3
              simpa [rows_app, rows_one] using u3
      · obtain rfl : i = ks.length := by omega
        rw [List.take_length] at hA
        simp [bindO, hcond, vCmp, vBin, vEq, vUn, vNil, vField, vLoad, takeCells, vExtract, hNew, hStore, hBox, hc_int, hc_bool, hc_string, hc_slice, hc_nilp, hc_nilm, hc_nilf, hc_agg, hc_list, hc_view, hc_ptr, hc_map, hc_func, ho_int, ho_bool, ho_string, ho_slice, ho_nilp, ho_nilm, ho_nilf, ho_list, ho_view, ho_ptr, ho_map, ho_func, putCells, lcells, litCells, isNilS, llen, vMk, set_at, Try.underlying3, Try.underlying4, Try.underlying9, Try.underlying22, Try.underlying31, Try.underlying32, Try.underlying36, Try.underlying44, Try.underlying64, Try.underlying80, Try.underlying90, Try.underlying123]
        refine ⟨_, s, ?_, ks, ho, hnd, hmem', rfl, rfl⟩
        rw [← accV_rows']
        exact (hA.base hsb).up (HS.le.trans hsb hle)
  · intro K hK
    refine HRange.seq hp (it.le hle0) (fun i _ => rfl) (fun i t => HS.le s t ∧ t p3 = some (.cells [.map mid]) ∧ t mid = some (mapR (lastG (xs.take i)))) (fun _ => False) (fun _ _ => False) ?_ (fun _ _ _ _ _ h => h) (fun _ _ _ _ _ _ h => h) ⟨hle0, e3, em⟩ ?_ (fun _ h => h.elim) (fun _ _ h => h.elim) ?_
    · rintro idl i t t' hi hn ⟨g1, g2, g3⟩
      exact ⟨hn.le g1 (none_of_le hle0 hi), hn.cells g2, hn.map g3⟩
    · rintro t ⟨g1, g2, g3⟩
      rw [List.take_length] at g3
      exact hK _ _ ⟨g1, g2, g3⟩
    · rintro i t idl R0 R1 K' hi hid ht ⟨g1, g2, g3⟩ kn kr kx tk0 tk1
      have n3 : p3 ≠ idl := by rintro rfl; rw [ht] at g2; cases g2; exact tk0
      have nm : mid ≠ idl := by rintro rfl; rw [ht] at g3; cases g3; exact tk0
      have hsi : s idl = none := none_of_le hle0 hid
      have htk := lastG_take xs hi
      have hsm := hs (xs.getD i r0) (by rw [List.getD, List.getElem?_eq_getElem hi]; exact List.getElem_mem hi)
      simp [bindO, hcond, vCmp, vBin, vEq, vUn, vNil, vField, vLoad, takeCells, vExtract, hNew, hStore, hBox, hc_int, hc_bool, hc_string, hc_slice, hc_nilp, hc_nilm, hc_nilf, hc_agg, hc_list, hc_view, hc_ptr, hc_map, hc_func, ho_int, ho_bool, ho_string, ho_slice, ho_nilp, ho_nilm, ho_nilf, ho_list, ho_view, ho_ptr, ho_map, ho_func, putCells, lcells, litCells, isNilS, llen, vMk, set_at, Try.underlying3, Try.underlying4, Try.underlying9, Try.underlying22, Try.underlying31, Try.underlying32, Try.underlying36, Try.underlying44, Try.underlying64, Try.underlying80, Try.underlying90, Try.underlying123, encRs]
      simp only [← List.getD_eq_getElem?_getD]
      generalize xs.getD i r0 = x at *
      intro X hX
      have m1 := ne_new g3 hX
      have m3 := ne_new g2 hX
      have mi := ne_new ht hX
      simp [bindO, hcond, vCmp, vBin, vEq, vUn, vNil, vField, vLoad, takeCells, vExtract, hNew, hStore, hBox, hc_int, hc_bool, hc_string, hc_slice, hc_nilp, hc_nilm, hc_nilf, hc_agg, hc_list, hc_view, hc_ptr, hc_map, hc_func, ho_int, ho_bool, ho_string, ho_slice, ho_nilp, ho_nilm, ho_nilf, ho_list, ho_view, ho_ptr, ho_map, ho_func, putCells, lcells, litCells, isNilS, llen, vMk, set_at, Try.underlying3, Try.underlying4, Try.underlying9, Try.underlying22, Try.underlying31, Try.underlying32, Try.underlying36, Try.underlying44, Try.underlying64, Try.underlying80, Try.underlying90, Try.underlying123, set_set, hcz, ho_recC, recC_len, set_ne _ _ mi, ht]
      obtain ⟨t2, ht2⟩ : ∃ t2, (t.set X (.cells (recC x))).set idl R1 = t2 := ⟨_, rfl⟩
      rw [ht2]
      have em2 : t2 mid = some (mapR (lastG (xs.take i))) := by rw [← ht2, set_ne _ _ nm, set_ne _ _ m1]; exact g3
      have e32 : t2 p3 = some (.cells [.map mid]) := by rw [← ht2, set_ne _ _ n3, set_ne _ _ m3]; exact g2
      have ei : t2 idl = some R1 := by rw [← ht2, set_at]
      have eX : t2 X = some (.cells (recC x)) := by rw [← ht2, set_ne _ _ (Ne.symm mi), set_at]
      have hle2 : HS.le s t2 := by rw [← ht2]; exact le_set_free _ (le_set_new _ g1 hX) hsi
      clear ht2
      generalize hG : lastG (xs.take i) = G at *
      obtain ⟨M, n⟩ := G
      have hmid3 : p3 ≠ mid := by rintro rfl; rw [em2] at e32; cases e32
      simp [bindO, hcond, vCmp, vBin, vEq, vUn, vNil, vField, vLoad, takeCells, vExtract, hNew, hStore, hBox, hc_int, hc_bool, hc_string, hc_slice, hc_nilp, hc_nilm, hc_nilf, hc_agg, hc_list, hc_view, hc_ptr, hc_map, hc_func, ho_int, ho_bool, ho_string, ho_slice, ho_nilp, ho_nilm, ho_nilf, ho_list, ho_view, ho_ptr, ho_map, ho_func, putCells, lcells, litCells, isNilS, llen, vMk, set_at, Try.underlying3, Try.underlying4, Try.underlying9, Try.underlying22, Try.underlying31, Try.underlying32, Try.underlying36, Try.underlying44, Try.underlying64, Try.underlying80, Try.underlying90, Try.underlying123, eX, recC2, recC3]
      cases hk : x.hasKey with
      | false =>
        simp
        refine kn _ ei ⟨hle2, e32, ?_⟩
        rw [htk, stepR, hk]
        exact em2
      | true =>
        have h6 := mapR_put M (kv x.key) x
        simp [bindO, hcond, vCmp, vBin, vEq, vUn, vNil, vField, vLoad, takeCells, vExtract, hNew, hStore, hBox, hc_int, hc_bool, hc_string, hc_slice, hc_nilp, hc_nilm, hc_nilf, hc_agg, hc_list, hc_view, hc_ptr, hc_map, hc_func, ho_int, ho_bool, ho_string, ho_slice, ho_nilp, ho_nilm, ho_nilf, ho_list, ho_view, ho_ptr, ho_map, ho_func, putCells, lcells, litCells, isNilS, llen, vMk, set_at, Try.underlying3, Try.underlying4, Try.underlying9, Try.underlying22, Try.underlying31, Try.underlying32, Try.underlying36, Try.underlying44, Try.underlying64, Try.underlying80, Try.underlying90, Try.underlying123, e32, eX, recC2, recC3, recC_len, hcz, isStr_by, toStr_by]
        refine (own x _ hsm.1 hsm.2).mono ?_
        rintro v s2 ⟨rfl, rfl⟩
        simp only [mapR] at em2
        simp [bindO, hcond, vCmp, vBin, vEq, vUn, vNil, vField, vLoad, takeCells, vExtract, hNew, hStore, hBox, hc_int, hc_bool, hc_string, hc_slice, hc_nilp, hc_nilm, hc_nilf, hc_agg, hc_list, hc_view, hc_ptr, hc_map, hc_func, ho_int, ho_bool, ho_string, ho_slice, ho_nilp, ho_nilm, ho_nilf, ho_list, ho_view, ho_ptr, ho_map, ho_func, putCells, lcells, litCells, isNilS, llen, vMk, set_at, Try.underlying3, Try.underlying4, Try.underlying9, Try.underlying22, Try.underlying31, Try.underlying32, Try.underlying36, Try.underlying44, Try.underlying64, Try.underlying80, Try.underlying90, Try.underlying123, e32, eX, recC2, recC3, toStr_by, hMapSet, em2, sameKey_str, keyIs_kv]
        rw [h6]
        refine kn _ (by rw [set_ne _ _ (Ne.symm nm)]; exact ei) ⟨?_, by rw [set_ne _ _ hmid3]; exact e32, ?_⟩
        · exact le_set_free _ hle2 hmid
        · rw [htk, set_at]
          simp [mapR, stepR, hk]
end Go.Proofs.Ytecnfekcflfihaa.CL
end
section
namespace Go.Proofs.Ytecnfekcflfihaa.CL
open Go.Proofs.Ytecnfekcflfihaa.H Go.Proofs.Ytecnfekcflfihaa.C0 Go.Proofs.Ytecnfekcflfihaa.F0
set_option linter.unusedVariables false
set_option linter.unusedSimpArgs false
set_option maxRecDepth 100000
theorem pr1 (p : Pr) : (prC p)[1]? = some (byV p.val) := rfl
theorem len_prV' (o : Option (List Pr)) (e : Nat) (s : HS) : vLenT (some (.slice e)) s (rowV prC 3 o) = some (.lit (.int .i64 ((o.getD []).length : Nat))) := by cases o <;> rfl
def sameP (off : Bool) (p q : Pr) : Bool := sameB' p.key q.key && (sameB' p.val q.val && (!off || p.off == q.off))
def delF (l : List Pr) (k : By) : List Pr := if findOk l k then l.take (findI l k) ++ l.drop (findI l k + 1) else l
def stepP (l : List Pr) (r : Rec) : List Pr := if r.hasKey then (if r.hasVal then putF l ⟨r.key, r.val, r.off⟩ else delF l (keyB r.key)) else l
def foldP (xs : List Rec) : List Pr := xs.foldl stepP []
theorem putF_len_le (l : List Pr) (p : Pr) : (putF l p).length ≤ l.length + 1 := by
  unfold putF
  have := findI_le l (pk p)
  rw [List.length_append, List.length_cons, List.length_take, List.length_drop]
  split <;> omega
theorem stepP_len (l : List Pr) (r : Rec) : (stepP l r).length ≤ l.length + 1 := by
  unfold stepP delF
  split
  · split
    · exact putF_len_le _ _
    · split
      · have := findI_le l (keyB r.key)
        rw [List.length_append, List.length_take, List.length_drop]; omega
      · omega
  · omega
end Go.Proofs.Ytecnfekcflfihaa.CL
end
section
namespace Go.Proofs.Ytecnfekcflfihaa.H
open Go.RowKit Go.MapKept
set_option linter.unusedVariables false
set_option linter.unusedSimpArgs false
theorem load_cell {t : HS} {q : Nat} {cs : List HV} (off n : Nat) (h : t q = some (.cells cs)) : vLoad t (.ptr q off) n false = cs[off]? := by simp [vLoad, takeCells, h]
theorem load_all {t : HS} {q n : Nat} {cs : List HV} (hn : cs.length = n) (h : t q = some (.cells cs)) : vLoad t (.ptr q 0) n true = some (.agg cs) := by
  subst hn
  simp [vLoad, takeCells, h]
/-- A value is put into a box of its size. -/
theorem store_all {s : HS} {q n : Nat} {cs vs : List HV} {K : HS → Prop} (hq : s q = some (.cells cs)) (hc : cs.length = n) (hv : vs.length = n) (ho : ∀ x ∈ vs, hone x = true) (h : K (s.set q (.cells vs))) : hStore s (.ptr q 0) (.agg vs) n K := by
  unfold hStore
  simp only [hcells, hq]
  refine ⟨hv, by omega, ho, ?_⟩
  have e : putCells cs 0 vs = vs := by
    unfold putCells
    rw [List.take_zero, List.nil_append, List.drop_of_length_le (by omega), List.append_nil]
  rw [e]
  exact h
/-- A new box that a value is put into. -/
theorem new_store {s : HS} {n : Nat} {zs vs : List HV} {K : HV → HS → Prop} (hz : zs.length = n) (hv : vs.length = n) (ho : ∀ x ∈ vs, hone x = true) (h : ∀ q, s q = none → K (.ptr q 0) (s.set q (.cells vs))) :
    hNew s (.cells zs) (fun id => .ptr id 0) (fun x t => hStore t x (.agg vs) n (fun t' => K x t')) := by
  intro q hq
  refine store_all (s := s.set q (.cells zs)) (by simp [HS.set]) hz hv ho ?_
  have : (s.set q (.cells zs)).set q (.cells vs) = s.set q (.cells vs) := by funext k; simp only [HS.set]; split <;> rfl
  rw [this]
  exact h q hq
end Go.Proofs.Ytecnfekcflfihaa.H
end
section
namespace Go.Proofs.Ytecnfekcflfihaa.H
open Go.RowKit Go.MapKept
set_option linter.unusedVariables false
set_option linter.unusedSimpArgs false
variable {P : Program}
theorem wrap_add1 {i : Nat} (h : i < 9223372036854775807) : IntKind.i64.wrap ((i : Int) + 1) = ((i + 1 : Nat) : Int) := by rw [w64 (by omega) (by omega)]; omega
theorem getD_get {α : Type} (z : α) (l : List α) {i : Nat} (h : i < l.length) : l.getD i z = l[i] := by simp [List.getD, h]
end Go.Proofs.Ytecnfekcflfihaa.H
end
section
namespace Go.Proofs.Ytecnfekcflfihaa.CL
end Go.Proofs.Ytecnfekcflfihaa.CL
end
section
namespace Go.Proofs.Ytecnfekcflfihaa.CL
end Go.Proofs.Ytecnfekcflfihaa.CL
end
section
namespace Go.Proofs.Ytecnfekcflfihaa.CL
open Go.Proofs.Ytecnfekcflfihaa.H
set_option linter.unusedVariables false
set_option linter.unusedSimpArgs false
theorem bl_lt : ∀ a b : By, bl_ a b = true → a < b
  | [], [], h => by simp [bl_, Op.bytesLess] at h
  | [], y :: b, h => List.nil_lt_cons y b
  | x :: a, [], h => by simp [bl_, Op.bytesLess] at h
  | x :: a, y :: b, h => by
    rw [List.cons_lt_cons_iff]
    simp only [bl_, Op.bytesLess, Bool.or_eq_true, Bool.and_eq_true, decide_eq_true_eq, beq_iff_eq] at h
    rcases h with h | ⟨h1, h2⟩
    · exact .inl h
    · exact .inr ⟨h1, bl_lt a b h2⟩
theorem le_bl {a b : By} (h : a ≤ b) (hne : a ≠ b) : bl_ a b = true := by
  cases hb : bl_ b a with
  | true => exact absurd (bl_lt _ _ hb) (List.not_lt.2 h)
  | false =>
    rcases bl_tri b a hb with h | h
    · exact absurd h.symm hne
    · exact h
def SameO : Option Pr → Option Pr → Prop
  | none, none => True
  | some p, some q => sameP true p q = true
  | _, _ => False
theorem same_of_look : ∀ (a b : List Pr), SortedP a → SortedP b → (∀ k, SameO (look a k) (look b k)) → all2 (sameP true) a b = true
  | [], [], _, _, _ => rfl
  | [], q :: b, _, _, h => by
    have := h (pk q)
    rw [look_cons, if_pos (by simp)] at this
    exact this.elim
  | p :: a, [], _, _, h => by
    have := h (pk p)
    rw [look_cons, if_pos (by simp)] at this
    exact this.elim
  | p :: a, q :: b, ha, hb, h => by
    have ha' := List.pairwise_cons.1 ha
    have hb' := List.pairwise_cons.1 hb
    have e : pk p = pk q := by
      have h1 := h (pk p)
      have h2 := h (pk q)
      rw [look_cons, if_pos (by simp), look_cons] at h1
      rw [look_cons, look_cons (x := q), if_pos (c := (pk q == pk q) = true) (by simp)] at h2
      by_cases hpq : pk p = pk q
      · exact hpq
      · exfalso
        rw [if_neg (by simpa using fun e => hpq e.symm)] at h1
        rw [if_neg (by simpa using hpq)] at h2
        cases hl1 : look b (pk p) with
        | none => rw [hl1] at h1; exact h1
        | some x =>
          cases hl2 : look a (pk q) with
          | none => rw [hl2] at h2; exact h2
          | some y =>
            have m1 := List.mem_of_find?_eq_some hl1
            have m2 := List.mem_of_find?_eq_some hl2
            have k1 : pk x = pk p := by have := List.find?_some hl1; simpa using this
            have k2 : pk y = pk q := by have := List.find?_some hl2; simpa using this
            have g1 := hb'.1 x m1
            have g2 := ha'.1 y m2
            rw [k1] at g1
            rw [k2] at g2
            rw [bl_asymm g1] at g2
            cases g2
    have hpq : sameP true p q = true := by
      have h1 := h (pk p)
      rw [look_cons, if_pos (by simp), look_cons, if_pos (by simp [e])] at h1
      exact h1
    show (sameP true p q && all2 (sameP true) a b) = true
    rw [hpq, Bool.true_and]
    refine same_of_look a b ha'.2 hb'.2 fun k => ?_
    by_cases hk : pk p = k
    · subst hk
      rw [look_none_of_lt fun x hx => ha'.1 x hx, look_none_of_lt fun x hx => by rw [e]; exact hb'.1 x hx]
      trivial
    · have := h k
      rw [look_cons, if_neg (by simpa using hk), look_cons, if_neg (by rw [← e]; simpa using hk)] at this
      exact this
theorem del_sorted {l : List Pr} (h : SortedP l) (k : By) : SortedP (delF l k) := by
  unfold delF
  split
  · unfold SortedP at *
    refine List.Pairwise.sublist ?_ h
    have : l = l.take (findI l k) ++ l.drop (findI l k) := (List.take_append_drop _ _).symm
    conv => rhs; rw [this]
    exact (List.Sublist.refl _).append (List.drop_sublist_drop_left _ (Nat.le_succ _))
  · exact h
theorem delF_cons (x : Pr) (l : List Pr) (k : By) : delF (x :: l) k = if bl_ (pk x) k then x :: delF l k else if pk x == k then l else x :: l := by
  unfold delF
  rw [findI_cons, findOk_cons]
  split
  · split <;> simp
  · split <;> simp
theorem look_del : ∀ (l : List Pr) (k q : By), SortedP l → look (delF l k) q = if k == q then none else look l q
  | [], k, q, _ => by simp [delF, findOk, look]
  | x :: l, k, q, h => by
    have h' := List.pairwise_cons.1 h
    rw [delF_cons]
    split
    · rename_i hlt
      rw [look_cons, look_del l k q h'.2, look_cons]
      have hne : pk x ≠ k := by rintro e; rw [e, bl_irrefl] at hlt; cases hlt
      by_cases hkq : k = q
      · subst hkq
        simp [hne]
      · simp [hkq]
    · rename_i hlt
      split
      · rename_i he
        have he : pk x = k := by simpa using he
        subst he
        rw [look_cons]
        by_cases hkq : pk x = q
        · subst hkq
          rw [if_pos (by simp)]
          exact look_none_of_lt fun y hy => h'.1 y hy
        · rw [if_neg (by simpa using hkq), if_neg (by simpa using hkq)]
      · rename_i he
        have he : pk x ≠ k := by simpa using he
        by_cases hkq : k = q
        · subst hkq
          rw [if_pos (by simp)]
          refine look_none_of_lt fun y hy => ?_
          have hxk : bl_ k (pk x) = true := by
            rcases bl_tri (pk x) k (by simpa using hlt) with h | h
            · exact absurd h he
            · exact h
          rcases List.mem_cons.1 hy with rfl | hy
          · exact hxk
          · exact bl_trans _ _ _ hxk (h'.1 y hy)
        · rw [if_neg (by simpa using hkq)]
theorem step_sorted {l : List Pr} (h : SortedP l) (r : Rec) : SortedP (stepP l r) := by
  unfold stepP
  split
  · split
    · exact put_sorted h
    · exact del_sorted h _
  · exact h
def sayR (M : Value → Option Rec) (k : By) : Option Pr := match M (encStr k) with
  | some r => if r.hasVal then some ⟨r.key, r.val, r.off⟩ else none
  | none => none
theorem kv_enc (k : Option (List Int)) : kv k = encStr (keyB k) := rfl
theorem enc_inj {a b : By} : encStr a = encStr b ↔ a = b := by
  constructor
  · intro h; simpa [encStr] using h
  · rintro rfl; rfl
theorem foldP_look : ∀ (xs : List Rec) (l : List Pr) (g : (Value → Option Rec) × Nat), SortedP l → (∀ k, look l k = sayR g.1 k) → SortedP (xs.foldl stepP l) ∧ ∀ k, look (xs.foldl stepP l) k = sayR (xs.foldl stepR g).1 k
  | [], l, g, h1, h2 => ⟨h1, h2⟩
  | r :: xs, l, g, h1, h2 => by
    refine foldP_look xs (stepP l r) (stepR g r) (step_sorted h1 r) fun k => ?_
    unfold stepP stepR
    cases hk : r.hasKey with
    | false => simpa using h2 k
    | true =>
      simp only [if_true]
      have hM : (putR g.1 (kv r.key) r) (encStr k) = if k = keyB r.key then some r else g.1 (encStr k) := by
        unfold putR
        rw [kv_enc]
        by_cases e : k = keyB r.key
        · rw [if_pos (enc_inj.2 e), if_pos e]
        · rw [if_neg (fun h => e (enc_inj.1 h)), if_neg e]
      unfold sayR
      rw [hM]
      have h2k := h2 k
      unfold sayR at h2k
      cases hv : r.hasVal with
      | true =>
        simp only [if_true]
        rw [look_put _ _ _ h1]
        by_cases e : k = keyB r.key
        · subst e
          simp [pk, hv]
        · rw [if_neg (by simpa [pk] using fun h => e h.symm), if_neg e]
          exact h2k
      | false =>
        simp only [Bool.false_eq_true, if_false]
        rw [look_del _ _ _ h1]
        by_cases e : k = keyB r.key
        · subst e
          simp [hv]
        · rw [if_neg (by simpa using fun h => e h.symm), if_neg e]
          exact h2k
theorem keyB_byI (k : By) : keyB (some (byI k)) = k := by
  unfold keyB byI
  simp only [Option.getD_some, List.map_map]
  conv => rhs; rw [← List.map_id k]
  refine List.map_congr_left fun c _ => ?_
  simp
theorem pairOf_key {M : Value → Option Rec} {k : By} {p : Pr} (h : pairOf M k = some p) : pk p = k := by
  unfold pairOf at h
  split at h
  · split at h
    · cases h; exact keyB_byI k
    · cases h
  · cases h
theorem outP_sorted (M : Value → Option Rec) : ∀ (ks : List By), ks.Pairwise (fun x y => x ≤ y) → ks.Nodup → SortedP (outP M ks)
  | [], _, _ => List.Pairwise.nil
  | k :: ks, h1, h2 => by
    have h1' := List.pairwise_cons.1 h1
    have h2' := List.pairwise_cons.1 h2
    unfold outP
    rw [List.filterMap_cons]
    split
    · exact outP_sorted M ks h1'.2 h2'.2
    · rename_i p hp
      refine List.Pairwise.cons (fun q hq => ?_) (outP_sorted M ks h1'.2 h2'.2)
      obtain ⟨k', hk', hq'⟩ := List.mem_filterMap.1 hq
      rw [pairOf_key hp, pairOf_key hq']
      exact le_bl (h1'.1 k' hk') (h2'.1 k' hk')
theorem outP_look (M : Value → Option Rec) (ks : List By) (k : By) (hk : k ∈ ks ↔ (M (encStr k)).isSome = true) : ∀ l : List By, (∀ x ∈ l, x ∈ ks) → look (outP M l) k = if k ∈ l then pairOf M k else none
  | [], _ => rfl
  | x :: l, h => by
    have ih := outP_look M ks k hk l fun y hy => h y (List.mem_cons_of_mem _ hy)
    unfold outP at ih ⊢
    rw [List.filterMap_cons]
    split
    · rename_i hp
      rw [ih]
      by_cases e : k = x
      · subst e
        simp [hp]
      · simp [e]
    · rename_i p hp
      rw [look_cons, ih, pairOf_key hp]
      by_cases e : x = k
      · subst e
        simp [hp]
      · simp [e, Ne.symm e]
theorem fold_same (xs : List Rec) (ks : List By) (h1 : ks.Pairwise (fun x y => x ≤ y)) (h2 : ks.Nodup) (h3 : ∀ x, x ∈ ks ↔ ((lastG xs).1 (encStr x)).isSome = true) : all2 (sameP true) (outP (lastG xs).1 ks) (foldP xs) = true := by
  obtain ⟨g1, g2⟩ := foldP_look xs [] (fun _ => none, 0) List.Pairwise.nil (fun k => rfl)
  refine same_of_look _ _ (outP_sorted _ ks h1 h2) g1 fun k => ?_
  rw [outP_look _ ks k (h3 k) ks (fun _ h => h)]
  have g3 : look (foldP xs) k = sayR (lastG xs).1 k := g2 k
  rw [g3]
  by_cases hk : k ∈ ks
  · rw [if_pos hk]
    unfold pairOf sayR
    cases hM : (lastG xs).1 (encStr k) with
    | none => trivial
    | some r =>
      rcases lastG_mem xs _ _ _ hM with h | ⟨-, -, h⟩
      · cases h
      · rw [kv_enc, enc_inj] at h
        cases hv : r.hasVal with
        | false => simp [hv, SameO]
        | true =>
          simp only [hv, if_true, SameO]
          simp [sameP, sameB', keyB_byI, ← h]
  · rw [if_neg hk]
    have : (lastG xs).1 (encStr k) = none := by
      cases hM : (lastG xs).1 (encStr k) with
      | none => rfl
      | some r => exact absurd ((h3 k).2 (by rw [hM]; rfl)) hk
    unfold sayR
    rw [this]
    trivial
end Go.Proofs.Ytecnfekcflfihaa.CL
end
section
namespace Go.Proofs.Ytecnfekcflfihaa.CL
open Go.Proofs.Ytecnfekcflfihaa.H Go.Proofs.Ytecnfekcflfihaa.C1
set_option linter.unusedVariables false
set_option linter.unusedSimpArgs false
set_option maxRecDepth 100000
def wR (r : Rec) : Int := 1 + ((r.key.getD []).length : Int) + (r.val.getD []).length
def wB (b : Bat) : Int := 1 + ((b.recs.getD []).map wR).sum
end Go.Proofs.Ytecnfekcflfihaa.CL
end
section
namespace Go.Proofs.Ytecnfekcflfihaa.CL
open Go.Proofs.Ytecnfekcflfihaa.H Go.Proofs.Ytecnfekcflfihaa.C0 Go.Proofs.Ytecnfekcflfihaa.F0
set_option linter.unusedVariables false
set_option linter.unusedSimpArgs false
set_option maxRecDepth 100000
theorem sum_len {α : Type} (f : α → Int) : ∀ (l : List α), (∀ x ∈ l, 1 ≤ f x) → (l.length : Int) ≤ (l.map f).sum
  | [], _ => by simp
  | x :: l, h => by
    have h1 := h x List.mem_cons_self
    have h2 := sum_len f l fun y hy => h y (List.mem_cons_of_mem _ hy)
    simp only [List.length_cons, List.map_cons, List.sum_cons]
    omega
theorem sum_mem {α : Type} (f : α → Int) : ∀ (l : List α), (∀ x ∈ l, 0 ≤ f x) → ∀ x ∈ l, f x ≤ (l.map f).sum
  | y :: l, h, x, hx => by
    have h1 := h y List.mem_cons_self
    have hnn : 0 ≤ (l.map f).sum := by
      clear hx
      induction l with
      | nil => simp
      | cons z l ih =>
        have h3 := h z (by simp)
        have h4 := ih (fun w hw => h w (by rcases List.mem_cons.1 hw with rfl | hw <;> simp [*]))
        simp only [List.map_cons, List.sum_cons]
        omega
    simp only [List.map_cons, List.sum_cons]
    rcases List.mem_cons.1 hx with rfl | hx
    · omega
    · have h2 := sum_mem f l (fun y hy => h y (List.mem_cons_of_mem _ hy)) x hx
      omega
def Small (l : List Bat) : Prop := l.length ≤ 60 ∧ (l.map wB).sum ≤ 4000
theorem wR_pos (r : Rec) : 1 ≤ wR r := by unfold wR; omega
theorem wB_len (b : Bat) : ((b.recs.getD []).length : Int) + 1 ≤ wB b := by
  unfold wB
  have := sum_len wR (b.recs.getD []) fun x _ => wR_pos x
  omega
theorem Small.recs {l : List Bat} (h : Small l) : ∀ b ∈ l, (b.recs.getD []).length ≤ 4000 ∧ ∀ x ∈ b.recs.getD [], ShortR x := by
  intro b hb
  have h1 := sum_mem wB l (fun b _ => by have := wB_len b; omega) b hb
  have h2 := h.2
  have h3 := wB_len b
  refine ⟨by omega, fun x hx => ?_⟩
  have h4 := sum_mem wR _ (fun r _ => by have := wR_pos r; omega) x hx
  have h6 : wB b = 1 + ((b.recs.getD []).map wR).sum := rfl
  have h5 : wR x ≤ 4000 := by omega
  unfold wR at h5
  constructor
  · cases hk : x.key with
    | none => trivial
    | some k => rw [hk] at h5; simp only [Option.getD_some] at h5; show k.length ≤ _; omega
  · cases hk : x.val with
    | none => trivial
    | some k => rw [hk] at h5; simp only [Option.getD_some] at h5; show k.length ≤ _; omega
theorem batches39 (l : List Bat) (s : HS) (hl : l.length ≤ 100000) (hr : (recsOf l).length ≤ 100000) (hs : ∀ b ∈ l, ∃ r, b.recs = some r ∧ r.length ≤ 100000 ∧ ∀ x ∈ r, ShortR x) :
    HC Try.prog 39 [batsV (some l)] s (fun v s' => ∃ ks : List By, ks.Pairwise (fun x y => x ≤ y) ∧ ks.Nodup ∧ (∀ x, x ∈ ks ↔ ((lastG (recsOf l)).1 (encStr x)).isSome = true) ∧ v = rowV prC 3 (orNil (outP (lastG (recsOf l)).1 ks)) ∧ s' = s) := by
  refine HC.weaken (HC39 ?_)
  unfold c39
  refine (records34 l s).mono ?_
  rintro v t ⟨p, hp, rfl, rfl⟩
  have hsh : ∀ r ∈ recsOf l, ShortR r := fun x hx => by
    obtain ⟨b, hb, hx⟩ := List.mem_flatMap.1 hx
    obtain ⟨r, h1, -, h2⟩ := hs b hb
    rw [h1] at hx
    exact h2 x hx
  refine (of40 plain59 (recsOf l) _ (gives59 l p _ hl hs (set_at _ _ _)) hr hsh).mono ?_
  rintro v t ⟨ks, h1, h2, h3, rfl, rfl⟩
  exact ⟨s, le_set_new _ (le_refl' s) hp, ks, h1, h2, h3, rfl, rfl⟩
end Go.Proofs.Ytecnfekcflfihaa.CL
end
section
namespace Go.Proofs.Ytecnfekcflfihaa.CL
end Go.Proofs.Ytecnfekcflfihaa.CL
end
section
namespace Go.Proofs.Ytecnfekcflfihaa.CL
open Go.Proofs.Ytecnfekcflfihaa.H Go.Proofs.Ytecnfekcflfihaa.C0 Go.Proofs.Ytecnfekcflfihaa.F0
set_option linter.unusedVariables false
set_option linter.unusedSimpArgs false
set_option maxRecDepth 100000
theorem equal68 (a b : Option (List Int)) (s : HS) : HC Try.prog 68 [byV a, byV b] s (fun v s' => v = .lit (.bool (sameB' a b)) ∧ s' = s) := by
  refine HC68 ?_
  unfold c68
  simp only [isStr_by, Bool.false_eq_true, if_false, toStr_by, bindO, kv, vCmp, vBin, str_eq]
  trivial
def sameKV (p q : Pr) : Bool := sameB' p.key q.key && sameB' p.val q.val
theorem prC_ho (p : Pr) : ∀ x ∈ prC p, hone x = true := by
  intro x hx
  simp only [prC, List.mem_cons, List.not_mem_nil, or_false] at hx
  rcases hx with rfl | rfl | rfl <;> first | rfl | exact ho_by _
theorem same67 (p q : Pr) (s : HS) : HC Try.prog 67 [.agg (prC p), .agg (prC q)] s (fun v s' => v = .lit (.bool (sameKV p q)) ∧ s' = s) := by
  refine HC.weaken (HC67 ?_)
  unfold c67 hBox
  simp only [hc_prC]
  intro X hX Y hY
  have nXY : X ≠ Y := ne_new (set_at s X _) hY
  have hle := le_set_new (.cells (prC q)) (le_set_new (.cells (prC p)) (le_refl' s) hX) hY
  have eX : ((s.set X (.cells (prC p))).set Y (.cells (prC q))) X = some (.cells (prC p)) := by rw [set_ne _ _ nXY, set_at]
  have eY := set_at (s.set X (.cells (prC p))) Y (.cells (prC q))
  generalize (s.set X (.cells (prC p))).set Y (.cells (prC q)) = u at *
  have a0 : vLoad u (.ptr X 0) 1 false = some (byV p.key) := by rw [load_cell 0 1 eX, pr0]
  have a1 : vLoad u (.ptr X 1) 1 false = some (byV p.val) := by rw [load_cell 1 1 eX, pr1]
  have b0 : vLoad u (.ptr Y 0) 1 false = some (byV q.key) := by rw [load_cell 0 1 eY, pr0]
  have b1 : vLoad u (.ptr Y 1) 1 false = some (byV q.val) := by rw [load_cell 1 1 eY, pr1]
  simp only [vField, bindO, Nat.zero_add, a0, b0]
  refine (equal68 _ _ _).mono ?_
  rintro v u2 ⟨rfl, rfl⟩
  unfold sameKV
  cases h : sameB' p.key q.key with
  | false => simp only [hcond]; exact ⟨s, hle, rfl, rfl⟩
  | true =>
    simp only [hcond, a1, b1]
    refine (equal68 _ _ _).mono ?_
    rintro v u2 ⟨rfl, rfl⟩
    exact ⟨s, hle, by rw [Bool.true_and], rfl⟩
theorem same43 (a b : Option (List Pr)) (s : HS) (ha : (a.getD []).length ≤ 1000000) : HC Try.prog 43 [rowV prC 3 a, rowV prC 3 b] s (fun v s' => v = .lit (.bool (all2 sameKV (a.getD []) (b.getD []))) ∧ s' = s) := by
  refine HC43 ?_
  unfold c43
  refine HC.mono (HC.weaken (HC66 ?_)) (Q := fun v s' => v = .lit (.bool (all2 sameKV (a.getD []) (b.getD []))) ∧ s' = s) (fun _ _ h => h)
  unfold c66
  simp only [Try.underlying69, len_prV', bindO, vCmp, vBin, if_true]
  by_cases hne : (a.getD []).length = (b.getD []).length
  · have h0 : (((a.getD []).length : Int) != ((b.getD []).length : Int)) = false := by simp [hne]
    simp only [h0, hcond]
    refine HLoop.ghost (σ := Nat) (fun i => [.lit (.int .i64 (i : Int))]) (fun i t => i ≤ (a.getD []).length ∧ HS.le s t ∧ all2 sameKV ((a.getD []).drop i) ((b.getD []).drop i) = all2 sameKV (a.getD []) (b.getD [])) (fun i => (a.getD []).length - i) 0 rfl ⟨Nat.zero_le _, le_refl' s, rfl⟩ ?_
    rintro i t K ⟨hi, hle, hall⟩ hK
    simp only [List.headD_cons]
    by_cases hlt : i < (a.getD []).length
    · have hlt' : (i : Int) < ((a.getD []).length : Int) := by omega
      have hltb : i < (b.getD []).length := by omega
      have e1 := vIdx_prV a i hlt
      have e2 := vIdx_prV b i hltb
      rw [drop_cons' p0 _ hlt, drop_cons' p0 _ hltb] at hall
      generalize (a.getD []).getD i p0 = x at *
      generalize (b.getD []).getD i p0 = y at *
      simp only [hlt', decide_true, e1, load_elt _ _ 3 (prC_len _)]
      refine new_store rfl rfl (prC_ho x) fun X hX => ?_
      simp only [e2, load_elt _ _ 3 (prC_len _)]
      refine new_store rfl rfl (prC_ho y) fun Y hY => ?_
      have nXY : X ≠ Y := ne_new (set_at t X _) hY
      have hle2 := le_set_new (.cells (prC y)) (le_set_new (.cells (prC x)) hle hX) hY
      have eX : ((t.set X (.cells (prC x))).set Y (.cells (prC y))) X = some (.cells (prC x)) := by rw [set_ne _ _ nXY, set_at]
      have eY := set_at (t.set X (.cells (prC x))) Y (.cells (prC y))
      generalize (t.set X (.cells (prC x))).set Y (.cells (prC y)) = u at hle2 eX eY ⊢
      simp only [load_all (prC_len x) eX, load_all (prC_len y) eY]
      unfold hcall
      simp only
      rw [hite_eq, if_pos (by decide +kernel)]
      refine (same67 x y u).mono ?_
      rintro v u2 ⟨rfl, rfl⟩
      simp only [all2] at hall
      cases h : sameKV x y with
      | false =>
        rw [h, Bool.false_and] at hall
        simp only [vUn, Bool.not_false]
        exact ⟨s, hle2, by rw [← hall], rfl⟩
      | true =>
        rw [h, Bool.true_and] at hall
        simp only [vUn, Bool.not_true, wrap_add1 (show i < 9223372036854775807 by omega)]
        exact hK (i + 1) _ _ rfl ⟨hlt, hle2, hall⟩ (by omega)
    · obtain rfl : i = (a.getD []).length := by omega
      have hlt' : ¬ ((a.getD []).length : Int) < ((a.getD []).length : Int) := by omega
      rw [List.drop_length, hne, List.drop_length] at hall
      simp only [hlt', decide_false]
      exact ⟨s, hle, by rw [← hall]; rfl, rfl⟩
  · have h0 : (((a.getD []).length : Int) != ((b.getD []).length : Int)) = true := by simp; omega
    simp only [h0, hcond]
    exact ⟨s, le_refl' s, by rw [all2_ne _ _ hne], rfl⟩
end Go.Proofs.Ytecnfekcflfihaa.CL
end
section
namespace Go.Proofs.Ytecnfekcflfihaa.CL
open Go.Proofs.Ytecnfekcflfihaa.H Go.Proofs.Ytecnfekcflfihaa.C0 Go.Proofs.Ytecnfekcflfihaa.F0
set_option linter.unusedVariables false
set_option linter.unusedSimpArgs false
set_option maxRecDepth 100000
theorem all2_imp {α : Type} {f g : α → α → Bool} (h : ∀ x y, f x y = true → g x y = true) : ∀ (a b : List α), all2 f a b = true → all2 g a b = true
  | [], [], _ => rfl
  | [], _ :: _, h => by simp [all2] at h
  | _ :: _, [], h => by simp [all2] at h
  | x :: a, y :: b, h' => by
    simp only [all2, Bool.and_eq_true] at h' ⊢
    exact ⟨h x y h'.1, all2_imp h a b h'.2⟩
end Go.Proofs.Ytecnfekcflfihaa.CL
end
section
namespace Go.Proofs.Ytecnfekcflfihaa.CL
open Go.Proofs.Ytecnfekcflfihaa.H
set_option linter.unusedVariables false
set_option linter.unusedSimpArgs false
theorem fold_has' {W from_ : Int} : ∀ (l : List Rec) (g : (Value → Option Int) × Nat), (g.2 : Int) ≤ W → ((g.2 + DS from_ (fun q => (g.1 q).isSome = true) l : Nat) : Int) ≤ W →
    ∀ r ∈ l, r.hasKey = true → from_ ≤ r.off → ∃ z, (l.foldl (offStep W from_) g).1 (kv r.key) = some z ∧ r.off ≤ z
  | x :: l, g, hg, h, r, hr, hk, hf => by
    rw [List.foldl_cons]
    by_cases he : x.hasKey = true ∧ from_ ≤ x.off
    · obtain ⟨h1, h2⟩ := (DS_step he hg).1 h
      have hst : offStep W from_ g x = offF W g (kv x.key) x.off := by unfold offStep; rw [if_pos he]
      rw [hst]
      have hg2 : ((offF W g (kv x.key) x.off).2 : Int) ≤ W := by
        have := offF_len (from_ := from_) g x hg
        rw [hst] at this
        exact this
      rcases List.mem_cons.1 hr with rfl | hr
      · refine fold_mono l _ ?_
        unfold offF
        split
        · rename_i y hy
          exact ⟨max r.off y, by simp [put], by omega⟩
        · rename_i hn
          rw [hn] at h1
          rw [if_neg (by rcases h1 with h1 | h1; cases h1; omega)]
          exact ⟨r.off, by simp [put], Int.le_refl _⟩
      · exact fold_has' l _ hg2 h2 r hr hk hf
    · have hst : offStep W from_ g x = g := by unfold offStep; rw [if_neg he]
      classical
      rw [DS_cons, if_neg (fun h => he h.1)] at h
      rw [hst]
      rcases List.mem_cons.1 hr with rfl | hr
      · exact absurd ⟨hk, hf⟩ he
      · exact fold_has' l g hg h r hr hk hf
theorem build_mono {W from_ : Int} : ∀ (l : List Bat) (g : (Value → Option Int) × Nat) (u : Int) {q : Value} {y : Int}, (∃ z, g.1 q = some z ∧ y ≤ z) → ∃ z, (buildF W from_ l g u).1.1 q = some z ∧ y ≤ z
  | [], g, u, q, y, h => h
  | b :: l, g, u, q, y, h => by
    unfold buildF
    split
    · exact h
    · exact build_mono l _ _ (fold_mono _ _ h)
theorem build_upto {W from_ : Int} : ∀ (l : List Bat) (g : (Value → Option Int) × Nat) (u : Int), from_ ≤ u → from_ ≤ (buildF W from_ l g u).2
  | [], g, u, h => h
  | b :: l, g, u, h => by
    unfold buildF
    split
    · show from_ ≤ max b.base from_; omega
    · exact build_upto l _ _ (by omega)
theorem build_has {W from_ : Int} (hW : W ≤ 1000000) : ∀ (l : List Bat) (g : (Value → Option Int) × Nat) (u : Int), (∀ b ∈ l, MayB b) → Rising l → (g.2 : Int) ≤ W →
    ∀ r ∈ flatR l, r.hasKey = true → from_ ≤ r.off → r.off < (buildF W from_ l g u).2 → ∃ z, (buildF W from_ l g u).1.1 (kv r.key) = some z ∧ r.off ≤ z
  | [], g, u, _, _, _, r, hr, _, _, _ => by simp [flatR] at hr
  | b :: l, g, u, hm, hri, hg, r, hr, hk, hf, hu => by
    have hri' := List.pairwise_cons.1 hri
    have hb := hm b List.mem_cons_self
    have hlow : b.base ≤ r.off := by
      rw [flatR_cons, List.mem_append] at hr
      rcases hr with hr | hr
      · exact (hb.in hr).1
      · obtain ⟨b', h1, h2⟩ := mem_flatR.1 hr
        have h3 := hri'.1 b' h1
        have h4 := ((hm b' (List.mem_cons_of_mem _ h1)).in h2).1
        obtain ⟨l', -, -, h5⟩ := hb
        have := h5.b1
        omega
    have hlen := hb.len
    have hfr : (freshF g.1 from_ (b.recs.getD [])).2 = DS from_ (fun q => (g.1 q).isSome = true) (b.recs.getD []) := by
      have := fresh_DS (from_ := from_) g.1 (b.recs.getD []) (fun _ => none, 0)
      unfold freshF
      rw [this]
      simp
    have hfl : (freshF g.1 from_ (b.recs.getD [])).2 ≤ (b.recs.getD []).length := by
      have := fresh_le g.1 from_ (b.recs.getD []) (fun _ => none, 0)
      unfold freshF
      omega
    unfold buildF at hu ⊢
    split
    · rename_i hc
      rw [if_pos hc] at hu
      simp only at hu
      omega
    · rename_i hc
      rw [if_neg hc] at hu
      rw [w64 (by omega) (by omega)] at hc
      rw [hfr] at hc
      rw [flatR_cons, List.mem_append] at hr
      rcases hr with hr | hr
      · exact build_mono l _ _ (fold_has' _ g hg (by omega) r hr hk hf)
      · exact build_has hW l _ _ (fun b' hb' => hm b' (List.mem_cons_of_mem _ hb')) hri'.2 (fold_lenW _ g hg) r hr hk hf hu
/-- The last record of a key. -/
def lastO (k : By) (xs : List Rec) (o : Option Rec) : Option Rec := xs.foldl (fun o x => if x.hasKey && keyB x.key == k then some x else o) o
theorem lastG_O (k : By) : ∀ (xs : List Rec) (g : (Value → Option Rec) × Nat), (xs.foldl stepR g).1 (encStr k) = lastO k xs (g.1 (encStr k))
  | [], g => rfl
  | x :: xs, g => by
    rw [List.foldl_cons, lastG_O k xs]
    unfold lastO
    rw [List.foldl_cons]
    congr 1
    unfold stepR
    cases hx : x.hasKey with
    | false => simp
    | true =>
      simp only [if_true, Bool.true_and, putR, kv_enc]
      by_cases e : keyB x.key = k
      · rw [if_pos (by rw [e]), if_pos (by simp [e])]
      · rw [if_neg (fun h => e (enc_inj.1 h).symm), if_neg (by simpa using e)]
theorem lastO_max (k : By) : ∀ (xs : List Rec) (o : Option Rec), (xs.Pairwise fun r q => r.off < q.off) → (∀ r, o = some r → r.hasKey = true ∧ keyB r.key = k ∧ ∀ q ∈ xs, r.off < q.off) →
    (∀ r, lastO k xs o = some r → (o = some r ∨ r ∈ xs) ∧ r.hasKey = true ∧ keyB r.key = k ∧ ∀ q ∈ xs, q.hasKey = true → keyB q.key = k → q.off ≤ r.off) ∧
    (lastO k xs o = none → o = none ∧ ∀ q ∈ xs, ¬ (q.hasKey = true ∧ keyB q.key = k))
  | [], o, _, ho => ⟨fun r hr => ⟨.inl hr, (ho r hr).1, (ho r hr).2.1, fun q hq => by cases hq⟩, fun h => ⟨h, fun q hq => by cases hq⟩⟩
  | x :: xs, o, hp, ho => by
    have hp' := List.pairwise_cons.1 hp
    have e : lastO k (x :: xs) o = lastO k xs (if x.hasKey && keyB x.key == k then some x else o) := rfl
    rw [e]
    by_cases hx : (x.hasKey && keyB x.key == k) = true
    · rw [if_pos hx]
      have hx' : x.hasKey = true ∧ keyB x.key = k := by simpa using hx
      obtain ⟨h1, h2⟩ := lastO_max k xs (some x) hp'.2 fun r hr => by cases hr; exact ⟨hx'.1, hx'.2, hp'.1⟩
      constructor
      · intro r hr
        obtain ⟨g1, g2, g3, g4⟩ := h1 r hr
        refine ⟨.inr ?_, g2, g3, fun q hq hqk hqe => ?_⟩
        · rcases g1 with g1 | g1
          · cases g1; exact List.mem_cons_self
          · exact List.mem_cons_of_mem _ g1
        · rcases List.mem_cons.1 hq with rfl | hq
          · rcases g1 with g1 | g1
            · cases g1; exact Int.le_refl _
            · have := hp'.1 r g1; omega
          · exact g4 q hq hqk hqe
      · intro h
        have := (h2 h).1
        cases this
    · rw [if_neg hx]
      have hx' : ¬ (x.hasKey = true ∧ keyB x.key = k) := by simpa using hx
      obtain ⟨h1, h2⟩ := lastO_max k xs o hp'.2 fun r hr => ⟨(ho r hr).1, (ho r hr).2.1, fun q hq => (ho r hr).2.2 q (List.mem_cons_of_mem _ hq)⟩
      constructor
      · intro r hr
        obtain ⟨g1, g2, g3, g4⟩ := h1 r hr
        refine ⟨g1.imp id (List.mem_cons_of_mem _), g2, g3, fun q hq hqk hqe => ?_⟩
        rcases List.mem_cons.1 hq with rfl | hq
        · exact absurd ⟨hqk, hqe⟩ hx'
        · exact g4 q hq hqk hqe
      · intro h
        obtain ⟨g1, g2⟩ := h2 h
        refine ⟨g1, fun q hq => ?_⟩
        rcases List.mem_cons.1 hq with rfl | hq
        · exact hx'
        · exact g2 q hq
theorem off_inj {xs : List Rec} (h : xs.Pairwise fun r q => r.off < q.off) {r q : Rec} (hr : r ∈ xs) (hq : q ∈ xs) (he : r.off = q.off) : r = q := by
  obtain ⟨i, hi, rfl⟩ := List.mem_iff_getElem.1 hr
  obtain ⟨j, hj, rfl⟩ := List.mem_iff_getElem.1 hq
  rcases Nat.lt_trichotomy i j with hij | rfl | hij
  · have := List.pairwise_iff_getElem.1 h i j hi hj hij; omega
  · rfl
  · have := List.pairwise_iff_getElem.1 h j i hj hi hij; omega
/-- A log in two parts: what is cleaned, and the active segment. -/
theorem split_segs {segs : List Seg} (hne : segs ≠ []) : flatS segs = flatS (segs.take (segs.length - 1)) ++ (segs.getD (segs.length - 1) none).getD [] := by
  have hpos : 0 < segs.length := List.length_pos_iff.2 hne
  have e : segs = segs.take (segs.length - 1) ++ [segs.getD (segs.length - 1) none] := by
    have := take_succ' (none : Seg) segs (show segs.length - 1 < segs.length by omega)
    rw [show segs.length - 1 + 1 = segs.length by omega, List.take_length] at this
    exact this
  conv => lhs; rw [e]
  rw [flatS_app]
  simp [flatS]
theorem outs_recs (M : Value → Option Int) (upto now grace : Int) {segs : List Seg} (hne : segs ≠ []) :
    flatR (flatS (outsF M upto now grace (segs.length - 1) segs)) = ((flatR (flatS (segs.take (segs.length - 1)))).filter fun r => stays r M upto now grace) ++ flatR ((segs.getD (segs.length - 1) none).getD []) := by
  have hpos : 0 < segs.length := List.length_pos_iff.2 hne
  have hne2 : outsF M upto now grace (segs.length - 1) segs ≠ [] := by
    intro h
    have := congrArg List.length h
    rw [outs_len] at this
    simp at this
    exact hne this
  have h1 := split_segs hne2
  rw [outs_len, outs_take] at h1
  rw [h1, flatR_app, keptB_recs]
  congr 2
  unfold outsF
  have : segs.length - 1 < segs.length := by omega
  simp [List.getD, this, cleanAt, getD_orNil]
theorem fold_clean {segs : List Seg} (h : Mayy segs) (hne : segs ≠ []) (dirty mm now grace : Int) (k : By) :
    sayR (lastG (flatR (flatS (outsF (cleanMap segs dirty mm).1.1 (cleanMap segs dirty mm).2 now grace (segs.length - 1) segs)))).1 k = sayR (lastG (flatR (flatS segs))).1 k := by
  have hR : flatR (flatS segs) = flatR (flatS (segs.take (segs.length - 1))) ++ flatR ((segs.getD (segs.length - 1) none).getD []) := by rw [split_segs hne, flatR_app]
  rw [outs_recs _ _ _ _ hne]
  have hp := offs_rising (flatS segs) (fun b hb => h.mem hb) h.up
  have hMB : ∀ b ∈ flatS (segs.take (segs.length - 1)), MayB b := fun b hb => h.mem (by rw [split_segs hne]; exact List.mem_append_left _ hb)
  have hRi : Rising (flatS (segs.take (segs.length - 1))) := by
    have := h.up
    rw [split_segs hne] at this
    exact (List.pairwise_append.1 this).1
  have hcm : cleanMap segs dirty mm = buildF (min (max (max mm 1) 1) 1000000) dirty (flatS (segs.take (segs.length - 1))) (fun _ => none, 0) dirty := rfl
  rw [hcm]
  generalize flatS (segs.take (segs.length - 1)) = A at *
  rw [hR] at hp ⊢
  generalize flatR ((segs.getD (segs.length - 1) none).getD []) = B at *
  obtain ⟨hpA, hpB, hpAB⟩ := List.pairwise_append.1 hp
  have hsome := @build_some (min (max (max mm 1) 1) 1000000) dirty A (fun _ => none, 0) dirty
  have hhas := build_has (from_ := dirty) (show min (max (max mm 1) 1) 1000000 ≤ 1000000 by omega) A (fun _ => none, 0) dirty hMB hRi (by show (0 : Int) ≤ _; omega)
  generalize (buildF (min (max (max mm 1) 1) 1000000) dirty A (fun _ => none, 0) dirty) = G at *
  obtain ⟨⟨M, n⟩, upto⟩ := G
  simp only at hsome hhas ⊢
  have hp' : ((flatR A).filter (fun r => stays r M upto now grace) ++ B).Pairwise fun r q => r.off < q.off :=
    List.Pairwise.sublist (List.Sublist.append List.filter_sublist (List.Sublist.refl B)) hp
  have hsub : ∀ r ∈ (flatR A).filter (fun r => stays r M upto now grace) ++ B, r ∈ flatR A ++ B := fun r hr => by
    rcases List.mem_append.1 hr with hr | hr
    · exact List.mem_append_left _ (List.mem_filter.1 hr).1
    · exact List.mem_append_right _ hr
  unfold sayR
  have e1 : (lastG (flatR A ++ B)).1 (encStr k) = lastO k (flatR A ++ B) none := lastG_O k _ _
  have e2 : (lastG ((flatR A).filter (fun r => stays r M upto now grace) ++ B)).1 (encStr k) = lastO k ((flatR A).filter (fun r => stays r M upto now grace) ++ B) none := lastG_O k _ _
  rw [e1, e2]
  obtain ⟨m1, m2⟩ := lastO_max k _ none hp (fun r hr => by cases hr)
  obtain ⟨n1, n2⟩ := lastO_max k _ none hp' (fun r hr => by cases hr)
  cases hL : lastO k (flatR A ++ B) none with
  | none =>
    cases hL' : lastO k ((flatR A).filter (fun r => stays r M upto now grace) ++ B) none with
    | none => rfl
    | some r' =>
      obtain ⟨a1, a2, a3, -⟩ := n1 r' hL'
      rcases a1 with a1 | a1
      · cases a1
      · exact absurd ⟨a2, a3⟩ ((m2 hL).2 r' (hsub r' a1))
  | some r =>
    obtain ⟨b1, b2, b3, b4⟩ := m1 r hL
    have b1 : r ∈ flatR A ++ B := b1.resolve_left (by rintro ⟨⟩)
    -- if r stays, it is the last one still
    have still : r ∈ (flatR A).filter (fun r => stays r M upto now grace) ++ B → lastO k ((flatR A).filter (fun r => stays r M upto now grace) ++ B) none = some r := by
      intro hr
      cases hL' : lastO k ((flatR A).filter (fun r => stays r M upto now grace) ++ B) none with
      | none => exact absurd ⟨b2, b3⟩ ((n2 hL').2 r hr)
      | some r' =>
        obtain ⟨a1, a2, a3, a4⟩ := n1 r' hL'
        have a1 : r' ∈ _ := a1.resolve_left (by rintro ⟨⟩)
        have c1 := a4 r hr b2 b3
        have c2 := b4 r' (hsub r' a1) a2 a3
        rw [off_inj hp (hsub r' a1) b1 (by omega)]
    by_cases hin : r ∈ (flatR A).filter (fun r => stays r M upto now grace) ++ B
    · rw [still hin]
    · have hA : r ∈ flatR A := by
        rcases List.mem_append.1 b1 with h | h
        · exact h
        · exact absurd (List.mem_append_right _ h) hin
      have hst : stays r M upto now grace = false := by
        cases hs : stays r M upto now grace with
        | false => rfl
        | true => exact absurd (List.mem_append_left _ (List.mem_filter.2 ⟨hA, hs⟩)) hin
      have hkv : kv r.key = encStr k := by rw [kv_enc, b3]
      unfold stays at hst
      rw [if_neg (by intro hc; rw [if_pos hc] at hst; cases hst)] at hst
      have hup : r.off < upto := by
        apply Classical.byContradiction
        intro hc
        exact hin (List.mem_append_left _ (List.mem_filter.2 ⟨hA, by unfold stays; rw [if_pos (.inr (by omega))]⟩))
      cases hM : M (kv r.key) with
      | none => rw [hM] at hst; cases hst
      | some z =>
        rw [hM] at hst
        simp only at hst
        obtain ⟨q, q1, q2, q3, q4, q5⟩ := (hsome hM).resolve_right (by rintro ⟨⟩)
        have hqk : keyB q.key = k := by rw [kv_enc, hkv, enc_inj] at q3; exact q3
        have hz := b4 q (List.mem_append_left _ q1) q2 hqk
        rw [if_neg (by omega)] at hst
        have hval : r.hasVal = false := by
          cases hv : r.hasVal with
          | false => rfl
          | true => rw [hv] at hst; simp at hst
        obtain ⟨z', y1, y2⟩ := hhas r hA b2 (by omega) hup
        rw [hM] at y1
        cases y1
        have hzr : z = r.off := by omega
        simp only [hval, Bool.false_eq_true, if_false]
        cases hL' : lastO k ((flatR A).filter (fun r => stays r M upto now grace) ++ B) none with
        | none => rfl
        | some r' =>
          exfalso
          obtain ⟨a1, a2, a3, -⟩ := n1 r' hL'
          have a1 : r' ∈ _ := a1.resolve_left (by rintro ⟨⟩)
          have c2 := b4 r' (hsub r' a1) a2 a3
          have hne' : r'.off ≠ r.off := fun e => hin (by rw [← off_inj hp (hsub r' a1) b1 e]; exact a1)
          rcases List.mem_append.1 a1 with a1 | a1
          · have hs' := (List.mem_filter.1 a1).2
            unfold stays at hs'
            rw [if_neg (by intro hc; rcases hc with hc | hc; rw [a2] at hc; cases hc; omega)] at hs'
            have : kv r'.key = kv r.key := by rw [kv_enc, a3, hkv]
            rw [this, hM] at hs'
            simp only at hs'
            rw [if_pos (by omega)] at hs'
            cases hs'
          · have := hpAB r hA r' a1
            omega
end Go.Proofs.Ytecnfekcflfihaa.CL
end
section
namespace Go.Proofs.Ytecnfekcflfihaa.F1
end Go.Proofs.Ytecnfekcflfihaa.F1
end
section
namespace Go.Proofs.Ytecnfekcflfihaa.CL
end Go.Proofs.Ytecnfekcflfihaa.CL
end
section
namespace Go.Proofs.Ytecnfekcflfihaa.F2
open Go.Proofs.Ytecnfekcflfihaa.H
set_option linter.unusedVariables false
set_option maxRecDepth 100000
/-- cordwain/cordwainlaw14.CleanFolds -/
def c12 (a0 a1 a2 : HV) (s : HS) (Q : HV → HS → Prop) : Prop :=
  hBox s a1 (fun x1 s2 => Join (fun K3 => HC Try.prog 13 [a0] s2 (fun r6 s7 => bindO (vUn .not r6) fun x8 => hcond x8 (K3 [(.lit (.bool true))] s7) (bindO (vField 6 x1) fun x9 => bindO (vLoad s7 x9 1 false) fun x10 => bindO (vBin .lss x10 (.lit (.int .i64 0))) fun x11 => hcond x11 (K3 [(.lit (.bool true))] s7) (bindO (vField 6 x1) fun x12 => bindO (vLoad s7 x12 1 false) fun x13 => bindO (vBin .gtr x13 (.lit (.int .i64 1125899906842624))) fun x14 => hcond x14 (K3 [(.lit (.bool true))] s7) (bindO (vLenT (Try.prog.underlying 80) s7 a2) fun x15 => bindO (vBin .gtr x15 (.lit (.int .i64 10))) fun x16 => K3 [x16] s7))))) (fun y4 s5 => hcond (y4.headD .junk) (HC Try.prog 14 [] s5 (fun r17 s18 => Q r17 s18)) (HC Try.prog 29 [a0] s5 (fun r19 s20 => HC Try.prog 39 [r19] s20 (fun r21 s22 => HLoop (fun y24 s25 K23 => bindO (vLenT (Try.prog.underlying 80) s25 a2) fun x26 => bindO (vBin .lss (y24.tail.tail.headD .junk) x26) fun x27 => hcond x27 (Join (fun K28 => bindO (vIdx 1 a2 (y24.tail.tail.headD .junk)) fun x31 => bindO (vLoad s25 x31 1 false) fun x32 => bindO (vBin .lss x32 (.lit (.int .i64 0))) fun x33 => hcond x33 (K28 [(.lit (.bool true))] s25) (bindO (vIdx 1 a2 (y24.tail.tail.headD .junk)) fun x34 => bindO (vLoad s25 x34 1 false) fun x35 => bindO (vBin .gtr x35 (.lit (.int .i64 1125899906842624))) fun x36 => K28 [x36] s25)) (fun y29 s30 => hcond (y29.headD .junk) (HC Try.prog 14 [] s30 (fun r37 s38 => Q r37 s38)) (bindO (vLoad s30 x1 9 true) fun x39 => bindO (vIdx 1 a2 (y24.tail.tail.headD .junk)) fun x40 => bindO (vLoad s30 x40 1 false) fun x41 => HC Try.prog 15 [(y24.headD .junk), (y24.tail.headD .junk), x39, x41] s30 (fun r42 s43 => bindO (vExtract r42 0) fun x44 => bindO (vExtract r42 1) fun x45 => bindO (vExtract r42 2) fun x46 => Join (fun K47 => bindO (vLenT (Try.prog.underlying 22) s43 x44) fun x50 => bindO (vLenT (Try.prog.underlying 22) s43 (y24.headD .junk)) fun x51 => bindO (vCmp (Try.prog.underlying 3) .neq x50 x51) fun x52 => hcond x52 (K47 [(.lit (.bool true))] s43) (bindO (vBin .lss x46 (.lit (.int .i64 0))) fun x53 => hcond x53 (K47 [(.lit (.bool true))] s43) (bindO (vBin .lss x45 (y24.tail.headD .junk)) fun x54 => K47 [x54] s43))) (fun y48 s49 => hcond (y48.headD .junk) (Q (.lit (.bool false)) s49) (Join (fun K55 => bindO (vLenT (Try.prog.underlying 22) s49 (y24.headD .junk)) fun x58 => bindO (vBin .gtr x58 (.lit (.int .i64 0))) fun x59 => hcond x59 (bindO (vLenT (Try.prog.underlying 22) s49 (y24.headD .junk)) fun x60 => bindO (vBin .sub x60 (.lit (.int .i64 1))) fun x61 => bindO (vIdx 1 x44 x61) fun x62 => bindO (vLoad s49 x62 1 false) fun x63 => bindO (vLenT (Try.prog.underlying 22) s49 (y24.headD .junk)) fun x64 => bindO (vBin .sub x64 (.lit (.int .i64 1))) fun x65 => bindO (vIdx 1 (y24.headD .junk) x65) fun x66 => bindO (vLoad s49 x66 1 false) fun x67 => HC Try.prog 26 [x63, x67] s49 (fun r68 s69 => bindO (vUn .not r68) fun x70 => K55 [x70] s69)) (K55 [(.lit (.bool false))] s49)) (fun y56 s57 => hcond (y56.headD .junk) (Q (.lit (.bool false)) s57) (HC Try.prog 29 [(y24.headD .junk)] s57 (fun r71 s72 => HC Try.prog 28 [r71] s72 (fun r73 s74 => HC Try.prog 29 [x44] s74 (fun r75 s76 => HC Try.prog 28 [r75] s76 (fun r77 s78 => HLoop (fun y80 s81 K79 => Join (fun K82 => bindO (vLenT (Try.prog.underlying 44) s81 r73) fun x85 => bindO (vBin .lss (y80.tail.headD .junk) x85) fun x86 => hcond x86 (bindO (vLenT (Try.prog.underlying 44) s81 r77) fun x87 => bindO (vBin .lss (y80.headD .junk) x87) fun x88 => K82 [x88] s81) (K82 [(.lit (.bool false))] s81)) (fun y83 s84 => hcond (y83.headD .junk) (Join (fun K89 => bindO (vIdx 6 r73 (y80.tail.headD .junk)) fun x92 => bindO (vLoad s84 x92 6 true) fun x93 => bindO (vIdx 6 r77 (y80.headD .junk)) fun x94 => bindO (vLoad s84 x94 6 true) fun x95 => HC Try.prog 30 [x93, x95] s84 (fun r96 s97 => hcond r96 (bindO (vBin .add (y80.headD .junk) (.lit (.int .i64 1))) fun x98 => K89 [x98] s97) (K89 [(y80.headD .junk)] s97))) (fun y90 s91 => bindO (vBin .add (y80.tail.headD .junk) (.lit (.int .i64 1))) fun x99 => K79 [(y90.headD .junk), x99] s91)) (Join (fun K100 => bindO (vLenT (Try.prog.underlying 44) s84 r77) fun x103 => bindO (vCmp (Try.prog.underlying 3) .neq (y80.headD .junk) x103) fun x104 => hcond x104 (K100 [(.lit (.bool true))] s84) (bindO (vLenT (Try.prog.underlying 44) s84 r73) fun x105 => bindO (vLenT (Try.prog.underlying 44) s84 r77) fun x106 => bindO (vBin .sub x105 x106) fun x107 => bindO (vCmp (Try.prog.underlying 3) .neq x107 x46) fun x108 => hcond x108 (K100 [(.lit (.bool true))] s84) (HC Try.prog 29 [x44] s84 (fun r109 s110 => HC Try.prog 39 [r109] s110 (fun r111 s112 => HC Try.prog 43 [r111, r21] s112 (fun r113 s114 => bindO (vUn .not r113) fun x115 => K100 [x115] s114)))))) (fun y101 s102 => hcond (y101.headD .junk) (Q (.lit (.bool false)) s102) (bindO (vBin .add (y24.tail.tail.headD .junk) (.lit (.int .i64 1))) fun x116 => K23 [x44, x45, x116] s102))))) [(.lit (.int .i64 0)), (.lit (.int .i64 0))] s78)))))))))))) (HC Try.prog 14 [] s25 (fun r117 s118 => Q r117 s118))) [a0, (.lit (.int .i64 0)), (.lit (.int .i64 0))] s22)))))
theorem c12_eq (a0 a1 a2 : HV) (s : HS) (Q : HV → HS → Prop) : (match Try.f12.body with | some c => hwp Try.prog (fun p => if p = 6 then some [35] else if p = 506 then some [7, 8, 10] else if p = 16200 then some [58] else if p = 64806 then some [85] else if p = 129614 then some [104] else if p = 2073854 then some [154] else if p = 4147706 then some [16, 17] else if p = 16590824 then some [120] else if p = 16590825 then some [16] else none) false 1 c (hretQ Try.prog Try.f12.results.toList Q) (([a0, a1, a2] : List HV) ++ List.replicate (Try.f12.ntmps - 3) (.lit undef)) s | none => False) = c12 a0 a1 a2 s Q := by kernel_rfl
theorem HC12 {a0 a1 a2 : HV} {s : HS} {Q : HV → HS → Prop} (h : c12 a0 a1 a2 s Q) : HC Try.prog 12 [a0, a1, a2] s Q := HC_by Try.func12 (by have := c12_eq a0 a1 a2 s Q; exact this.mpr h)
end Go.Proofs.Ytecnfekcflfihaa.F2
end
section
namespace Go.Proofs.Ytecnfekcflfihaa.CL
open Go.Proofs.Ytecnfekcflfihaa.H Go.Proofs.Ytecnfekcflfihaa.C0 Go.Proofs.Ytecnfekcflfihaa.F0 Go.Proofs.Ytecnfekcflfihaa.F2
set_option linter.unusedVariables false
set_option linter.unusedSimpArgs false
set_option maxRecDepth 100000
theorem mayB_cut {b : Bat} (h : MayB b) (M : Value → Option Int) (upto now grace : Int) (hne : keptR M upto now grace (b.recs.getD []) ≠ []) : MayB (cutB M upto now grace b) := by
  have hoffs := h.offs
  have hin := fun r hr => h.in (r := r) hr
  obtain ⟨l, h1, h2, h3⟩ := h
  rw [h1, Option.getD_some] at hne hoffs hin
  have hk : ∀ r ∈ keptR M upto now grace l, r ∈ l := fun r hr => (List.mem_filter.1 hr).1
  have hp : (keptR M upto now grace l).Pairwise fun r q => r.off < q.off := List.Pairwise.sublist List.filter_sublist hoffs
  refine ⟨keptR M upto now grace l, by show orNil (keptR M upto now grace (b.recs.getD [])) = _; rw [h1, Option.getD_some, orNil_ne hne], hne, ⟨h3.b0, h3.b1, h3.l1, Nat.le_trans (List.length_filter_le _ _) h3.n, h3.prod, h3.seq, fun i hi => ?_⟩⟩
  have hm := hk _ (List.getElem_mem hi)
  obtain ⟨j, hj, hje⟩ := List.mem_iff_getElem.1 hm
  have ho := h3.recs j hj
  rw [getD_get r0 l hj, hje] at ho
  rw [getD_get r0 _ hi]
  have hlo := ho.lo
  refine ⟨ho.lo, ho.hi, ?_, ho.t0, ho.t1, ho.nk, ho.nv, ho.k, ho.v⟩
  split
  · have := h3.b0
    omega
  · rename_i hi0
    rw [getD_get r0 _ (show i - 1 < (keptR M upto now grace l).length by omega)]
    exact List.pairwise_iff_getElem.1 hp (i - 1) i (by omega) hi (by omega)
theorem emb_rising {xs ys : List Bat} (h : Emb xs ys) : Rising ys → Rising xs := by
  induction h with
  | done ys => intro _; exact List.Pairwise.nil
  | skip y h ih => intro hr; exact ih (List.pairwise_cons.1 hr).2
  | take x y hs h ih =>
    intro hr
    have hr' := List.pairwise_cons.1 hr
    refine List.Pairwise.cons (fun a ha => ?_) (ih hr'.2)
    obtain ⟨b, hb, hab⟩ := h.mem a ha
    have := hr'.1 b hb
    rw [hs.2.1, hab.1]
    exact this
theorem mayy_outs {segs : List Seg} (h : Mayy segs) (M : Value → Option Int) (upto now grace : Int) (last : Nat) : Mayy (outsF M upto now grace last segs) := by
  refine ⟨by rw [outs_len]; exact h.n, fun x hx => ?_, fun x hx b hb => ?_, emb_rising (outs_emb M upto now grace last segs) h.up⟩
  · obtain ⟨i, hi, rfl⟩ := List.mem_mapIdx.1 hx
    have hm := h.m segs[i] (List.getElem_mem hi)
    unfold cleanAt
    split
    · rw [getD_orNil]; exact Nat.le_trans (keptB_len _ _ _ _ _) hm
    · rw [getD_orNil]; exact hm
  · obtain ⟨i, hi, rfl⟩ := List.mem_mapIdx.1 hx
    have hm := h.ok segs[i] (List.getElem_mem hi)
    unfold cleanAt at hb
    split at hb
    · rw [getD_orNil] at hb
      obtain ⟨b0, h1, rfl, h2⟩ := keptB_form hb
      exact mayB_cut (hm b0 h1) M upto now grace h2
    · rw [getD_orNil] at hb
      exact hm b hb
theorem cnt_go : ∀ (l : List Bat) (a : Int), 0 ≤ a → a + (flatR l).length < 4611686018427387904 → l.foldl (fun a b => IntKind.i64.wrap (a + ((b.recs.getD []).length : Nat))) a = a + (flatR l).length
  | [], a, _, _ => by simp [flatR]
  | b :: l, a, h0, h => by
    rw [flatR_cons, List.length_append] at h ⊢
    rw [List.foldl_cons, w64 (by omega) (by omega), cnt_go l _ (by omega) (by omega)]
    omega
theorem cntF_flat (l : List Bat) (h : (flatR l).length < 1000000) : cntF l = (flatR l).length := by
  unfold cntF
  rw [cnt_go l 0 (Int.le_refl _) (by omega)]
  omega
theorem gone_go : ∀ (l : List Seg) (f : Nat → Seg → Seg) (a : Int), 0 ≤ a → a + (flatR (flatS l)).length < 1000000 → (∀ i x, x ∈ l → (flatR ((f i x).getD [])).length ≤ (flatR (x.getD [])).length) →
    (l.mapIdx (fun i x => IntKind.i64.wrap (cntF (x.getD []) - cntF ((f i x).getD [])))).foldl (fun a d => IntKind.i64.wrap (a + d)) a = a + (flatR (flatS l)).length - (flatR (flatS (l.mapIdx f))).length
  | [], f, a, _, _, _ => by simp [flatS, flatR]
  | x :: l, f, a, h0, h, hf => by
    rw [flatS_cons, flatR_app, List.length_append] at h
    have h1 := hf 0 x List.mem_cons_self
    have ih := gone_go l (fun i => f (i + 1)) (a + (flatR (x.getD [])).length - (flatR ((f 0 x).getD [])).length) (by omega) (by omega) (fun i y hy => hf (i + 1) y (List.mem_cons_of_mem _ hy))
    rw [List.mapIdx_cons, List.foldl_cons, List.mapIdx_cons, flatS_cons, flatS_cons, flatR_app, flatR_app, List.length_append, List.length_append]
    rw [cntF_flat _ (by omega), cntF_flat _ (by omega)]
    have e1 : IntKind.i64.wrap (((flatR (x.getD [])).length : Int) - ((flatR ((f 0 x).getD [])).length : Int)) = ((flatR (x.getD [])).length : Int) - ((flatR ((f 0 x).getD [])).length : Int) := w64 (by omega) (by omega)
    rw [e1, w64 (by omega) (by omega)]
    have e2 : a + (((flatR (x.getD [])).length : Int) - ((flatR ((f 0 x).getD [])).length : Int)) = a + (flatR (x.getD [])).length - (flatR ((f 0 x).getD [])).length := by omega
    rw [e2, ih]
    omega
theorem cleanAt_lenR (M : Value → Option Int) (upto now grace : Int) (last i : Nat) (x : Seg) : (flatR ((cleanAt M upto now grace last i x).getD [])).length ≤ (flatR (x.getD [])).length := by
  unfold cleanAt
  split
  · rw [getD_orNil]; exact keptB_lenR _ _ _ _ _
  · rw [getD_orNil]; exact Nat.le_refl _
theorem gone_eq {M : Value → Option Int} {upto now grace : Int} {last : Nat} {segs : List Seg} (h : (flatR (flatS segs)).length ≤ 60000) : goneF M upto now grace last segs = ((flatR (flatS segs)).length : Int) - (flatR (flatS (outsF M upto now grace last segs))).length := by
  have := gone_go segs (cleanAt M upto now grace last) 0 (Int.le_refl _) (by omega) (fun i x _ => cleanAt_lenR _ _ _ _ _ _ _)
  unfold goneF goneAt outsF
  rw [this]
  omega
theorem outs_sub (M : Value → Option Int) (upto now grace : Int) (segs : List Seg) : (flatR (flatS (outsF M upto now grace (segs.length - 1) segs))).Sublist (flatR (flatS segs)) := by
  by_cases hne : segs = []
  · subst hne; exact List.Sublist.refl _
  · rw [outs_recs _ _ _ _ hne, split_segs hne, flatR_app]
    exact List.Sublist.append List.filter_sublist (List.Sublist.refl _)
/-- Two rows of records that say the same. -/
theorem fold_same2 (xs ys : List Rec) (ks kt : List By) (h1 : ks.Pairwise (fun x y => x ≤ y)) (h2 : ks.Nodup) (h3 : ∀ x, x ∈ ks ↔ ((lastG xs).1 (encStr x)).isSome = true)
    (g1 : kt.Pairwise (fun x y => x ≤ y)) (g2 : kt.Nodup) (g3 : ∀ x, x ∈ kt ↔ ((lastG ys).1 (encStr x)).isSome = true) (he : ∀ k, sayR (lastG xs).1 k = sayR (lastG ys).1 k) : all2 sameKV (outP (lastG xs).1 ks) (outP (lastG ys).1 kt) = true := by
  have a1 := fold_same xs ks h1 h2 h3
  have a2 := fold_same ys kt g1 g2 g3
  obtain ⟨s1, l1⟩ := foldP_look xs [] (fun _ => none, 0) List.Pairwise.nil (fun k => rfl)
  obtain ⟨s2, l2⟩ := foldP_look ys [] (fun _ => none, 0) List.Pairwise.nil (fun k => rfl)
  have a3 : all2 (sameP true) (foldP xs) (foldP ys) = true := same_of_look _ _ s1 s2 fun k => by
    have e1 : look (foldP xs) k = sayR (lastG xs).1 k := l1 k
    have e2 : look (foldP ys) k = sayR (lastG ys).1 k := l2 k
    rw [e1, e2, he k]
    cases sayR (lastG ys).1 k with
    | none => trivial
    | some p => simp [SameO, sameP, sameB']
  have tr : ∀ (a b c : List Pr), all2 (sameP true) a b = true → all2 (sameP true) b c = true → all2 (sameP true) a c = true := by
    intro a
    induction a with
    | nil => intro b c h k; cases b <;> cases c <;> simp_all [all2]
    | cons x a ih =>
      intro b c h k
      cases b with
      | nil => simp [all2] at h
      | cons y b =>
        cases c with
        | nil => simp [all2] at k
        | cons z c =>
          simp only [all2, Bool.and_eq_true] at h k ⊢
          refine ⟨?_, ih b c h.2 k.2⟩
          have h := h.1
          have k := k.1
          simp only [sameP, sameB', Bool.not_true, Bool.false_or, Bool.and_eq_true, beq_iff_eq] at h k ⊢
          exact ⟨h.1.trans k.1, h.2.1.trans k.2.1, h.2.2.trans k.2.2⟩
  have sy : ∀ (a b : List Pr), all2 (sameP true) a b = true → all2 (sameP true) b a = true := by
    intro a
    induction a with
    | nil => intro b h; cases b <;> simp_all [all2]
    | cons x a ih =>
      intro b h
      cases b with
      | nil => simp [all2] at h
      | cons y b =>
        simp only [all2, Bool.and_eq_true] at h ⊢
        refine ⟨?_, ih b h.2⟩
        have h := h.1
        simp only [sameP, sameB', Bool.not_true, Bool.false_or, Bool.and_eq_true, beq_iff_eq] at h ⊢
        exact ⟨h.1.symm, h.2.1.symm, h.2.2.symm⟩
  refine all2_imp (f := sameP true) (fun x y h => ?_) _ _ (tr _ _ _ a1 (tr _ _ _ a3 (sy _ _ a2)))
  simp only [sameP, Bool.and_eq_true] at h
  simp only [sameKV, Bool.and_eq_true]
  exact ⟨h.1, h.2.1⟩
theorem outP_len2 (xs : List Rec) (ks : List By) (h1 : ks.Pairwise (fun x y => x ≤ y)) (h2 : ks.Nodup) (h3 : ∀ x, x ∈ ks ↔ ((lastG xs).1 (encStr x)).isSome = true) : (outP (lastG xs).1 ks).length ≤ xs.length := by
  have h2 : all2 (sameP true) (outP (lastG xs).1 ks) (foldP xs) = true := fold_same xs ks h1 h2 h3
  have h3 : (outP (lastG xs).1 ks).length = (foldP xs).length := by
    apply Classical.byContradiction
    intro h
    rw [all2_ne _ _ h] at h2
    cases h2
  rw [h3]
  have h4 : ∀ (xs : List Rec) (z : List Pr), (xs.foldl stepP z).length ≤ z.length + xs.length := by
    intro xs
    induction xs with
    | nil => intro z; exact Nat.le_refl _
    | cons r xs ih => intro z; have := ih (stepP z r); have := stepP_len z r; simp only [List.foldl_cons, List.length_cons]; omega
  have := h4 xs []
  simp only [List.length_nil, Nat.zero_add] at this
  exact this
/-- Mayy's batches, for fold. -/
theorem Mayy.short {segs : List Seg} (h : Mayy segs) : ∀ b ∈ flatS segs, ∃ r, b.recs = some r ∧ r.length ≤ 100000 ∧ ∀ x ∈ r, ShortR x := by
  intro b hb
  obtain ⟨x, hx, hbx⟩ := mem_flatS.1 hb
  obtain ⟨r, h1, h2, h3, h4⟩ := okB_of h x hx b hbx
  exact ⟨r, h1, h3, h4⟩
theorem batches39o (l : List Bat) (s : HS) (hl : l.length ≤ 100000) (hr : (recsOf l).length ≤ 100000) (hs : ∀ b ∈ l, ∃ r, b.recs = some r ∧ r.length ≤ 100000 ∧ ∀ x ∈ r, ShortR x) :
    HC Try.prog 39 [batsV (orNil l)] s (fun v s' => ∃ ks : List By, ks.Pairwise (fun x y => x ≤ y) ∧ ks.Nodup ∧ (∀ x, x ∈ ks ↔ ((lastG (recsOf l)).1 (encStr x)).isSome = true) ∧ v = rowV prC 3 (orNil (outP (lastG (recsOf l)).1 ks)) ∧ s' = s) := by
  have h := batches39 l s hl hr hs
  have hu := upSeg (orNil l) [] s
  rw [getD_orNil] at hu
  exact HC.upArgs hu h
def intsV (l : List Int) : HV := .list 1 l.length (l.map fun n => .lit (.int .i64 n)) false
theorem vIdx_ints (l : List Int) {i : Nat} (hi : i < l.length) : vIdx 1 (intsV l) (.lit (.int .i64 i)) = some (.elt [.lit (.int .i64 (l.getD i 0))] 0) := by
  have h1 : (i : Int) < (l.length : Int) := by omega
  have h2 : ((l.map fun n => HV.lit (.int .i64 n)).drop i).take 1 = [.lit (.int .i64 (l.getD i 0))] := by
    rw [List.drop_eq_getElem_cons (by simpa using hi)]
    simp [List.getD, hi]
  simp [vIdx, intsV, h1, h2]
theorem len_ints (l : List Int) (s : HS) : vLenT (Try.prog.underlying 80) s (intsV l) = some (.lit (.int .i64 (l.length : Nat))) := rfl
theorem len_segs (o : Option (List Seg)) (s : HS) : vLenT (Try.prog.underlying 22) s (rowV segC 1 o) = some (.lit (.int .i64 ((o.getD []).length : Nat))) := by cases o <;> rfl
theorem all15 {s : HS} (o : Option (List Seg)) (dirty : Int) (c : Cfg) (now : Int) (hn : (o.getD []).length ≤ 100000) (hf : (flatS (o.getD [])).length ≤ 100000) (hs : ∀ x ∈ o.getD [], ∀ b ∈ x.getD [], OkB b) :
    HC Try.prog 15 [rowV segC 1 o, .lit (.int .i64 dirty), .agg (cfgC c), .lit (.int .i64 now)] s (fun v s' => s' = s ∧ v =
      .tup [rowV segC 1 (orNil (outsF (cleanMap (o.getD []) dirty c.mm).1.1 (cleanMap (o.getD []) dirty c.mm).2 now c.grace ((o.getD []).length - 1) (o.getD []))), .lit (.int .i64 (cleanMap (o.getD []) dirty c.mm).2), .lit (.int .i64 (goneF (cleanMap (o.getD []) dirty c.mm).1.1 (cleanMap (o.getD []) dirty c.mm).2 now c.grace ((o.getD []).length - 1) (o.getD [])))]) := by
  refine HC.upArgs (upRow segC 1 o [] [.lit (.int .i64 dirty), .agg (cfgC c), .lit (.int .i64 now)] s) ?_
  refine (all (o.getD []) dirty c now hn hf hs).mono ?_
  rintro v s' ⟨rfl, rfl⟩
  refine ⟨rfl, ?_⟩
  split
  · rename_i h
    rw [h]
    rfl
  · rfl
theorem cleanFolds_law (segs : List Seg) (c : Cfg) (times : List Int) (s : HS) (hl : segs.length ≤ 9223372036854775807) (hin : ∀ x ∈ segs, InSeg x) (hlt : times.length ≤ 9223372036854775807) :
    HC Try.prog 12 [rowL segC 1 segs, .agg (cfgC c), intsV times] s (fun v _ => v = .lit (.bool true)) := by
  refine HC12 ?_
  unfold c12 hBox
  have hb9 : hcells (.agg (cfgC c)) = some (cfgC c) := rfl
  simp only [hb9]
  intro p hp
  obtain ⟨t0, ht0⟩ : ∃ t, t = s.set p (.cells (cfgC c)) := ⟨_, rfl⟩
  have hcfg : t0 p = some (.cells (cfgC c)) := by rw [ht0, set_at]
  rw [← ht0]
  clear ht0
  have lg : ∀ t, t p = some (.cells (cfgC c)) → vLoad t (.ptr p 6) 1 false = some (.lit (.int .i64 c.grace)) := fun t h => by rw [load_cell 6 1 h, cfg6]
  refine Join.of (fun xs t => t = t0 ∧ ∃ g : Bool, xs = [.lit (.bool g)] ∧ (g = false → Mayy segs ∧ times.length ≤ 10)) ?_ ?_
  rotate_left
  · intro K hK
    have kt : K [.lit (.bool true)] t0 := hK _ _ ⟨rfl, true, rfl, fun h => by cases h⟩
    refine (may segs hl hin).mono ?_
    rintro v t1 ⟨rfl, g, rfl, hg⟩
    cases g with
    | false => simp only [vUn, Bool.not_false, bindO, hcond]; exact kt
    | true =>
      simp only [vUn, Bool.not_true, bindO, hcond, vField, Nat.zero_add, lg _ hcfg, vBin, if_true, len_ints]
      by_cases h1 : c.grace < 0
      · simp only [h1, decide_true]; exact kt
      · simp only [h1, decide_false]
        by_cases h2 : c.grace > 1125899906842624
        · simp only [h2, decide_true]; exact kt
        · simp only [h2, decide_false]
          refine hK _ _ ⟨rfl, _, rfl, fun h => ⟨hg rfl, ?_⟩⟩
          simp only [decide_eq_false_iff_not] at h
          omega
  rintro xs t ⟨rfl, g, rfl, hg⟩
  simp only [List.headD_cons, hcond]
  cases g with
  | true => exact awake _
  | false =>
  obtain ⟨hm, ht10⟩ := hg rfl
  simp only []
  have hflat : ∀ l, flatR l = recsOf l := fun _ => rfl
  have bounds : ∀ {sg : List Seg}, Mayy sg → sg.length ≤ 20 ∧ (flatS sg).length ≤ 600 ∧ (recsOf (flatS sg)).length ≤ 60000 := fun h => ⟨h.n, h.lenS, h.lenR⟩
  obtain ⟨z1, z2, z3⟩ := bounds hm
  refine (alls (some segs) (by rw [Option.getD_some]; omega) (by rw [Option.getD_some]; omega)).mono ?_
  rintro v t1 ⟨rfl, rfl⟩
  rw [Option.getD_some]
  refine (batches39o (flatS segs) _ (by omega) (by omega) hm.short).mono ?_
  rintro v t2 ⟨ks0, i1, i2, i3, rfl, rfl⟩
  have hwl := outP_len2 _ ks0 i1 i2 i3
  refine HLoop.ghost (σ := Option (List Seg) × Int × Nat) (fun g => [rowV segC 1 g.1, .lit (.int .i64 g.2.1), .lit (.int .i64 (g.2.2 : Int))])
    (fun g t => g.2.2 ≤ times.length ∧ t p = some (.cells (cfgC c)) ∧ Mayy (g.1.getD []) ∧ ∀ k, sayR (lastG (recsOf (flatS (g.1.getD [])))).1 k = sayR (lastG (recsOf (flatS segs))).1 k) (fun g => times.length - g.2.2) (some segs, 0, 0) rfl
    ⟨Nat.zero_le _, hcfg, hm, fun k => rfl⟩ ?_
  clear hcfg
  rintro ⟨o, dirty, i⟩ u K ⟨hi, hcfg, hmo, hsay⟩ hK
  simp only at hi hcfg hmo hsay
  simp only [List.headD_cons, List.tail_cons, len_ints, bindO, vBin, if_true]
  by_cases hit : i < times.length
  · have hit' : (i : Int) < (times.length : Int) := by omega
    simp only [hit', decide_true, vIdx_ints times hit, load_elt1]
    generalize times.getD i 0 = now
    refine Join.of (fun xs t => t = u ∧ ∃ g : Bool, xs = [.lit (.bool g)]) ?_ ?_
    rotate_left
    · intro K28 hK28
      simp only [List.getElem?_cons_zero]
      by_cases h1 : now < 0
      · simp only [h1, decide_true]; exact hK28 _ _ ⟨rfl, _, rfl⟩
      · simp only [h1, decide_false]; exact hK28 _ _ ⟨rfl, _, rfl⟩
    rintro xs t ⟨rfl, g, rfl⟩
    simp only [List.headD_cons, List.getElem?_cons_zero]
    cases g with
    | true => exact awake _
    | false =>
    simp only [load_all (cfg_len c) hcfg]
    obtain ⟨b1, b2, b3⟩ := bounds hmo
    refine (all15 o dirty c now (by omega) (by omega) (okB_of hmo)).mono ?_
    rintro v t3 ⟨rfl, rfl⟩
    obtain ⟨sg, hsg⟩ : ∃ sg, sg = o.getD [] := ⟨_, rfl⟩
    rw [← hsg] at hmo hsay b1 b2 b3 ⊢
    have hupto : dirty ≤ (cleanMap sg dirty c.mm).2 := build_upto _ _ _ (Int.le_refl _)
    have hfc : ∀ k, sayR (lastG (recsOf (flatS (outsF (cleanMap sg dirty c.mm).1.1 (cleanMap sg dirty c.mm).2 now c.grace (sg.length - 1) sg)))).1 k = sayR (lastG (recsOf (flatS sg))).1 k := fun k => by
      by_cases hne : sg = []
      · rw [hne]; rfl
      · exact fold_clean hmo hne dirty c.mm now c.grace k
    generalize (cleanMap sg dirty c.mm).1.1 = M at *
    generalize (cleanMap sg dirty c.mm).2 = upto at *
    have hmo2 := mayy_outs hmo M upto now c.grace (sg.length - 1)
    have hsub := outs_sub M upto now c.grace sg
    have hgone := gone_eq (M := M) (upto := upto) (now := now) (grace := c.grace) (last := sg.length - 1) (segs := sg) b3
    have hol := outs_len M upto now c.grace (sg.length - 1) sg
    have hlast : 0 < sg.length → ((outsF M upto now c.grace (sg.length - 1) sg).getD (sg.length - 1) none).getD [] = (sg.getD (sg.length - 1) none).getD [] := fun h => by
      have : sg.length - 1 < sg.length := by omega
      unfold outsF
      simp [List.getD, this, cleanAt, getD_orNil]
    obtain ⟨out, hout⟩ : ∃ out, out = outsF M upto now c.grace (sg.length - 1) sg := ⟨_, rfl⟩
    rw [← hout] at hmo2 hsub hgone hol hlast hfc ⊢
    obtain ⟨c1, c2, c3⟩ := bounds hmo2
    have hsl := hsub.length_le
    simp only [vExtract, List.getElem?_cons_zero, List.getElem?_cons_succ, len_segs, getD_orNil, ← hsg, vCmp, vBin, if_true, hol]
    have e0 : ((sg.length : Int) != (sg.length : Int)) = false := by simp
    have e1 : ¬ goneF M upto now c.grace (sg.length - 1) sg < 0 := by rw [hgone]; omega
    have e2 : ¬ upto < dirty := by omega
    refine Join.of (fun xs t => t = t3 ∧ xs = [.lit (.bool false)]) ?_ ?_
    rotate_left
    · intro K47 hK47
      simp only [e0, e1, e2, decide_false]
      exact hK47 _ _ ⟨rfl, rfl⟩
    rintro xs t ⟨rfl, rfl⟩
    simp only [List.headD_cons]
    refine Join.of (fun xs t' => t' = t ∧ xs = [.lit (.bool false)]) ?_ ?_
    rotate_left
    · intro K55 hK55
      by_cases hpos : 0 < sg.length
      · have hpos' : (sg.length : Int) > 0 := by omega
        have hw : IntKind.i64.wrap ((sg.length : Int) - 1) = ((sg.length - 1 : Nat) : Int) := by rw [w64 (by omega) (by omega)]; omega
        have x1 := vIdx_segsV (orNil out) (sg.length - 1) (by rw [getD_orNil, hol]; omega)
        have x2 := vIdx_segsV o (sg.length - 1) (by rw [← hsg]; omega)
        rw [getD_orNil] at x1
        rw [← hsg] at x2
        simp only [hpos', decide_true, hw, x1, x2, load_elt1, seg0]
        have hmem : out.getD (sg.length - 1) none ∈ out := by rw [List.getD, List.getElem?_eq_getElem (by omega)]; exact List.getElem_mem _
        have h30 := hmo2.m _ hmem
        refine (sameBatches _ _ (by omega) (fun b hb => ?_)).mono ?_
        · obtain ⟨r, h1, -, h3, -⟩ := okB_of hmo2 _ hmem b hb
          unfold LenB
          rw [h1, Option.getD_some]
          omega
        · rintro v t4 ⟨rfl, rfl⟩
          rw [hlast hpos, all2_refl _ fun x _ => sameBat_refl x]
          simp only [vUn, Bool.not_true]
          exact hK55 _ _ ⟨rfl, rfl⟩
      · have hpos' : ¬ (sg.length : Int) > 0 := by omega
        simp only [hpos', decide_false]
        exact hK55 _ _ ⟨rfl, rfl⟩
    rintro xs t' ⟨rfl, rfl⟩
    simp only [List.headD_cons]
    refine (alls o (by rw [← hsg]; omega) (by rw [← hsg]; omega)).mono ?_
    rintro v t4 ⟨rfl, rfl⟩
    rw [← hsg]
    refine (records _ (by rw [getD_orNil]; omega) (by rw [getD_orNil]; exact Nat.le_trans b3 (by omega))).mono ?_
    rintro v t5 ⟨rfl, rfl⟩
    refine (alls (orNil out) (by rw [getD_orNil]; omega) (by rw [getD_orNil]; omega)).mono ?_
    rintro v t6 ⟨rfl, rfl⟩
    refine (records _ (by rw [getD_orNil, getD_orNil]; omega) (by rw [getD_orNil, getD_orNil]; exact Nat.le_trans c3 (by omega))).mono ?_
    rintro v t7 ⟨rfl, rfl⟩
    simp only [getD_orNil]
    have hA : ∀ q : Nat, q < (flatR (flatS sg)).length → vIdx 6 (recsV (orNil (flatR (flatS sg)))) (.lit (.int .i64 q)) = some (.elt (recC ((flatR (flatS sg)).getD q r0)) 0) := fun q hq => by
      have := vIdx_recsV (orNil (flatR (flatS sg))) q (by rw [getD_orNil]; exact hq)
      rwa [getD_orNil] at this
    have hB : ∀ q : Nat, q < (flatR (flatS out)).length → vIdx 6 (recsV (orNil (flatR (flatS out)))) (.lit (.int .i64 q)) = some (.elt (recC ((flatR (flatS out)).getD q r0)) 0) := fun q hq => by
      have := vIdx_recsV (orNil (flatR (flatS out))) q (by rw [getD_orNil]; exact hq)
      rwa [getD_orNil] at this
    rw [← hflat] at b3 c3
    refine HLoop.ghost (σ := Nat × Nat) (fun g => [.lit (.int .i64 (g.1 : Int)), .lit (.int .i64 (g.2 : Int))]) (fun g t => t = t7 ∧ g.1 ≤ (flatR (flatS out)).length ∧ g.2 ≤ (flatR (flatS sg)).length ∧ ((flatR (flatS out)).drop g.1).Sublist ((flatR (flatS sg)).drop g.2)) (fun g => (flatR (flatS sg)).length - g.2) (0, 0) rfl
      ⟨rfl, Nat.zero_le _, Nat.zero_le _, hsub⟩ ?_
    rintro ⟨k, j⟩ t8 K79 ⟨rfl, g1, g2, g3⟩ hK79
    simp only at g1 g2 g3
    simp only [List.headD_cons, List.tail_cons, len_recsV, getD_orNil, vBin, if_true]
    refine Join.of (fun xs t => t = t8 ∧ xs = [.lit (.bool (decide (j < (flatR (flatS sg)).length) && decide (k < (flatR (flatS out)).length)))]) ?_ ?_
    rotate_left
    · intro K82 hK82
      by_cases h1 : j < (flatR (flatS sg)).length
      · have h1' : (j : Int) < ((flatR (flatS sg)).length : Int) := by omega
        simp only [h1', decide_true]
        refine hK82 _ _ ⟨rfl, ?_⟩
        by_cases h2 : k < (flatR (flatS out)).length
        · have h2' : (k : Int) < ((flatR (flatS out)).length : Int) := by omega
          simp [h1, h2, h2']
        · have h2' : ¬ (k : Int) < ((flatR (flatS out)).length : Int) := by omega
          simp [h1, h2, h2']
      · have h1' : ¬ (j : Int) < ((flatR (flatS sg)).length : Int) := by omega
        simp only [h1', decide_false]
        exact hK82 _ _ ⟨rfl, by simp [h1]⟩
    rintro xs t9 ⟨rfl, rfl⟩
    simp only [List.headD_cons]
    by_cases hboth : j < (flatR (flatS sg)).length ∧ k < (flatR (flatS out)).length
    · obtain ⟨h1, h2⟩ := hboth
      simp only [h1, h2, decide_true, Bool.and_self]
      have d1 := drop_cons' r0 _ h1
      have d2 := drop_cons' r0 _ h2
      rw [d1, d2] at g3
      refine Join.of (fun xs t => t = t9 ∧ ∃ k' : Nat, xs = [.lit (.int .i64 (k' : Int))] ∧ k' ≤ (flatR (flatS out)).length ∧ ((flatR (flatS out)).drop k').Sublist ((flatR (flatS sg)).drop (j + 1))) ?_ ?_
      rotate_left
      · intro K89 hK89
        simp only [hA j h1, hB k h2, load_elt _ _ 6 (recC_len _)]
        refine (sameRecord _ _).mono ?_
        rintro v t10 ⟨rfl, rfl⟩
        generalize (flatR (flatS sg)).getD j r0 = xa at *
        generalize (flatR (flatS out)).getD k r0 = xb at *
        cases hs : sameR xa xb with
        | true =>
          simp only [wrap_add1 (show k < 9223372036854775807 by omega)]
          refine hK89 _ _ ⟨rfl, k + 1, rfl, h2, ?_⟩
          cases g3 with
          | cons _ h => exact (List.sublist_cons_self _ _).trans h
          | cons_cons _ h => exact h
        | false =>
          refine hK89 _ _ ⟨rfl, k, rfl, g1, ?_⟩
          rw [d2]
          cases g3 with
          | cons _ h => exact h
          | cons_cons _ h => rw [sameR_refl] at hs; cases hs
      · rintro xs t10 ⟨rfl, k', rfl, h3, h4⟩
        simp only [List.headD_cons, wrap_add1 (show j < 9223372036854775807 by omega)]
        exact hK79 (k', j + 1) _ _ rfl ⟨rfl, h3, h1, h4⟩ (by show (flatR (flatS sg)).length - (j + 1) < (flatR (flatS sg)).length - j; omega)
    · have hf : (decide (j < (flatR (flatS sg)).length) && decide (k < (flatR (flatS out)).length)) = false := by
        simp only [Bool.and_eq_false_iff, decide_eq_false_iff_not]
        omega
      have hk : k = (flatR (flatS out)).length := by
        apply Classical.byContradiction
        intro hne
        have : j = (flatR (flatS sg)).length := by omega
        rw [this, List.drop_length] at g3
        have := g3.length_le
        rw [List.length_drop, List.length_nil] at this
        omega
      subst hk
      simp only [hf]
      have e3 : (((flatR (flatS out)).length : Int) != ((flatR (flatS out)).length : Int)) = false := by simp
      have e4 : IntKind.i64.wrap (((flatR (flatS sg)).length : Int) - ((flatR (flatS out)).length : Int)) = goneF M upto now c.grace (sg.length - 1) sg := by rw [hgone, w64 (by omega) (by omega)]
      have e5 : (goneF M upto now c.grace (sg.length - 1) sg != goneF M upto now c.grace (sg.length - 1) sg) = false := by simp
      refine Join.of (fun xs t => t = t9 ∧ xs = [.lit (.bool false)]) ?_ ?_
      rotate_left
      · intro K100 hK100
        simp only [vCmp, vBin, if_true, e3, e4, e5]
        refine (alls (orNil out) (by rw [getD_orNil]; omega) (by rw [getD_orNil]; omega)).mono ?_
        rintro v t10 ⟨rfl, rfl⟩
        rw [getD_orNil]
        refine (batches39o (flatS out) _ (by omega) (by rw [← hflat]; omega) hmo2.short).mono ?_
        rintro v t11 ⟨ks, j1, j2, j3, rfl, rfl⟩
        have hl2 := outP_len2 _ ks j1 j2 j3
        rw [← hflat] at hl2
        refine (same43 _ _ _ (by rw [getD_orNil]; exact Nat.le_trans hl2 (by omega))).mono ?_
        rintro v t12 ⟨rfl, rfl⟩
        rw [getD_orNil, getD_orNil, fold_same2 _ _ ks ks0 j1 j2 j3 i1 i2 i3 fun k => (hfc k).trans (hsay k)]
        simp only [vUn, Bool.not_true]
        exact hK100 _ _ ⟨rfl, rfl⟩
      · rintro xs t10 ⟨rfl, rfl⟩
        simp only [List.headD_cons, wrap_add1 (show i < 9223372036854775807 by omega)]
        refine hK (orNil out, upto, i + 1) _ _ rfl ⟨hit, hcfg, by rw [getD_orNil]; exact hmo2, fun k => ?_⟩ (by show times.length - (i + 1) < times.length - i; omega)
        rw [getD_orNil]
        exact (hfc k).trans (hsay k)
  · have hit' : ¬ (i : Int) < (times.length : Int) := by omega
    simp only [hit', decide_false]
    exact awake _
end Go.Proofs.Ytecnfekcflfihaa.CL
end
section
set_option linter.unusedVariables false
set_option linter.unusedSimpArgs false
namespace Go.Proofs.YtecnfekcflfihaaW.PrintWords
open Go.RowKit
/-- The world is the old one, some orders having been drawn. -/
structure Drawn0 (w w' : World) : Prop where mk :: (out : ∃ n, w' = w.drewN n)
theorem Drawn0.refl (w : World) : Drawn0 w w := ⟨⟨0, rfl⟩⟩
theorem Drawn0.step {w w' : World} (h : Drawn0 w w') (n : Nat) : Drawn0 w (w'.drewN n) := by
  obtain ⟨m, rfl⟩ := h
  exact ⟨⟨m + n, World.drewN_drewN ..⟩⟩
theorem Drawn0.grown {w w' : World} (h : Drawn0 w w') : Grown w w' := by
  obtain ⟨n, rfl⟩ := h
  induction n with
  | zero => exact Grown.refl _
  | succ n ih => rw [← World.drew_drewN]; exact Grown.drew ih
theorem Drawn0.below {w w' : World} (h : Drawn0 w w') : Below w.heap.size w w' := by
  obtain ⟨n, rfl⟩ := h
  induction n with
  | zero => exact Below.refl _ _
  | succ n ih => rw [← World.drew_drewN]; exact ih.drew
def rd (xs : List Int) (i : Int) : Int := xs.getD i.toNat 0
theorem below_alloc {w W : World} (h : Below w.heap.size w W) (o : Obj) : Below w.heap.size w (W.alloc o) := h.alloc h.size o
theorem grown_of_below {w w1 : World} (h : Below w.heap.size w w1) (row : Option Nat) : w.grownBy w1 row := ⟨h.os, h.tape, h.output, h.size, fun i hi _ => h.block i hi⟩
theorem pw_cell_below {w w1 : World} (h : Below w.heap.size w w1) {a : Addr} {v : Value} (hc : w.cell? a = some v) : w1.cell? a = some v := (h.cell (World.block_lt_of_cell? w a hc)).trans hc
def ReadsInt (w : World) (k : IntKind) (A : Option Addr) (n : Nat) (xs : List Int) : Prop :=
  xs.length = n ∧ n ≤ 9223372036854775807 ∧ (0 < n → ∃ ad, A = some ad ∧ ∀ j, j < n → w.cell? (ad.add j) = some (.int k (xs.getD j 0)))
theorem ReadsInt.below {w w1 : World} {k : IntKind} {A : Option Addr} {n : Nat} {xs : List Int} (h : ReadsInt w k A n xs) (hb : Below w.heap.size w w1) : ReadsInt w1 k A n xs :=
  ⟨h.1, h.2.1, fun hn => by
    obtain ⟨ad, e, hc⟩ := h.2.2 hn
    exact ⟨ad, e, fun j hj => pw_cell_below hb (hc j hj)⟩⟩
theorem own_nil (W : World) (base : Nat) (e : TypeId) (size : Nat) : W.ownsRow base e size (.slice none 0 0) 0 [] := ⟨by simp, .inl ⟨rfl, rfl⟩⟩
theorem own_base {w : World} {base : Nat} {e : TypeId} {size n : Nat} {v : Value} {xs : List Value} (h : w.ownsRow base e size v n xs) (k : Nat) (hk : v.ownBlock = some k) : base ≤ k := by
  rcases h.2 with ⟨rfl, _⟩ | ⟨g, cap, cur, rfl, hb, _⟩
  · simp [Value.ownBlock] at hk
  · have : g = k := by simpa [Value.ownBlock] using hk
    omega
theorem own_lt {w : World} {base : Nat} {e : TypeId} {size n : Nat} {v : Value} {xs : List Value} (h : w.ownsRow base e size v n xs) (k : Nat) (hk : v.ownBlock = some k) : k < w.heap.size := by
  rcases h.2 with ⟨rfl, _⟩ | ⟨g, cap, cur, rfl, hb, hh, _⟩
  · simp [Value.ownBlock] at hk
  · have : g = k := by simpa [Value.ownBlock] using hk
    subst this
    exact (Array.getElem?_eq_some_iff.1 hh).1
theorem pw_own_below {w w1 : World} {base : Nat} {e : TypeId} {size n : Nat} {v : Value} {xs : List Value} (h : w.ownsRow base e size v n xs) (hb : Below w.heap.size w w1) : w1.ownsRow base e size v n xs :=
  h.kept (grown_of_below hb none) (by cases v.ownBlock <;> simp)
/-- What is written is another row: this one lives on. -/
theorem own_other {w w1 : World} {base : Nat} {e : TypeId} {size n : Nat} {v : Value} {xs : List Value} (h : w.ownsRow base e size v n xs) {row : Option Nat} (hg : w.grownBy w1 row) (hne : v.ownBlock = none ∨ v.ownBlock ≠ row) : w1.ownsRow base e size v n xs := h.kept hg hne
section
variable {P : Program} {ops : Array Oper} {rest : List Oper} {o : Oper} {a : Act} {Q : Exit → Act → World → Prop}
end
section
variable {P : Program}
end
section
variable {P : Program} {ops : Array Oper} {rest : List Oper} {o : Oper} {a : Act} {Q : Exit → Act → World → Prop}
end
def bytesOf (s : ByteArray) : List Int := s.data.toList.map fun b => (b.toNat : Int)
/-- Where the first answers, the second answers the same. -/
def LeO {α : Type} (a b : Option α) : Prop := ∀ r, a = some r → b = some r
theorem LeO.refl {α : Type} (a : Option α) : LeO a a := fun _ h => h
theorem LeO.none {α : Type} (b : Option α) : LeO Option.none b := fun _ h => by cases h
theorem LeO.trans {α : Type} {a b c : Option α} (h : LeO a b) (k : LeO b c) : LeO a c := fun r hr => k r (h r hr)
theorem LeO.bind {α β : Type} {a a' : Option α} {f f' : α → Option β} (h : LeO a a') (k : ∀ x, LeO (f x) (f' x)) : LeO (a.bind f) (a'.bind f') := by
  intro r hr
  obtain ⟨x, hx, hf⟩ := Option.bind_eq_some_iff.1 hr
  exact Option.bind_eq_some_iff.2 ⟨x, h x hx, k x r hf⟩
theorem LeO.map {α β : Type} {a a' : Option α} (f : α → β) (h : LeO a a') : LeO (a.map f) (a'.map f) := by
  intro r hr
  obtain ⟨x, hx, hf⟩ := Option.map_eq_some_iff.1 hr
  exact Option.map_eq_some_iff.2 ⟨x, h x hx, hf⟩
theorem more_rounds {α : Type} {g : Nat → Option α} (h : ∀ k, LeO (g k) (g (k + 1))) (k : Nat) : ∀ j, LeO (g k) (g (k + j))
  | 0 => LeO.refl _
  | j + 1 => (more_rounds h k j).trans (h (k + j))
theorem at_rounds {α : Type} {g : Nat → Option α} (h : ∀ k, LeO (g k) (g (k + 1))) {k k' : Nat} (hk : k ≤ k') {r : α} (hr : g k = some r) : g k' = some r := by
  have := more_rounds h k (k' - k) r hr
  rwa [Nat.add_sub_cancel' hk] at this
def Reps {α : Type} (R : α → List Value → Prop) (size : Nat) (ps : List α) (cs : List Value) : Prop :=
  cs.length = ps.length * size ∧ ∀ j p, ps[j]? = some p → R p ((cs.drop (j * size)).take size)
theorem Reps.none {α : Type} (R : α → List Value → Prop) (size : Nat) : Reps R size [] [] := ⟨by simp, fun j p h => by simp at h⟩
theorem Reps.snoc {α : Type} {R : α → List Value → Prop} {size : Nat} {ps : List α} {cs c : List Value} {p : α} (h : Reps R size ps cs) (hp : R p c) (hc : c.length = size) : Reps R size (ps ++ [p]) (cs ++ c) := by
  refine ⟨by rw [List.length_append, h.1, hc, List.length_append, List.length_singleton, Nat.add_mul, Nat.one_mul], fun j q hq => ?_⟩
  rcases Nat.lt_or_ge j ps.length with hj | hj
  · rw [List.getElem?_append_left hj] at hq
    have h1 : j * size + size ≤ cs.length := by rw [h.1, ← Nat.succ_mul]; exact Nat.mul_le_mul_right _ hj
    have h2 := h.2 j q hq
    rw [List.drop_append_of_le_length (by omega), List.take_append_of_le_length (by rw [List.length_drop]; omega)]
    exact h2
  · have hj' : j = ps.length := by
      have := (List.getElem?_eq_some_iff.1 hq).1
      rw [List.length_append, List.length_singleton] at this
      omega
    subst hj'
    have hq' : p = q := by simpa using hq
    subst hq'
    rw [← h.1, List.drop_left, ← hc, List.take_length]
    exact hp
theorem Reps.imp_ {α : Type} {R R' : α → List Value → Prop} {size : Nat} {ps : List α} {cs : List Value} (h : Reps R size ps cs) (hR : ∀ p c, R p c → R' p c) : Reps R' size ps cs := ⟨h.1, fun j p hj => hR _ _ (h.2 j p hj)⟩
def ReadsRow {α : Type} (R : α → List Value → Prop) (size : Nat) (w : World) (A : Option Addr) (n : Nat) (ps : List α) : Prop :=
  ps.length = n ∧ n ≤ 9223372036854775807 ∧ (0 < n → ∃ ad, A = some ad ∧ ∀ j p, ps[j]? = some p → ∃ c, c.length = size ∧ R p c ∧ ∀ i u, c[i]? = some u → w.cell? (ad.add (j * size + i)) = some u)
theorem ReadsRow.imp_ {α : Type} {R R' : α → List Value → Prop} {size : Nat} {w w1 : World} {A : Option Addr} {n : Nat} {ps : List α} (h : ReadsRow R size w A n ps) (hb : Below w.heap.size w w1) (hR : ∀ p c, R p c → R' p c) : ReadsRow R' size w1 A n ps :=
  ⟨h.1, h.2.1, fun hn => by
    obtain ⟨ad, e, hc⟩ := h.2.2 hn
    refine ⟨ad, e, fun j p hj => ?_⟩
    obtain ⟨c, hs, hr, hcell⟩ := hc j p hj
    exact ⟨c, hs, hR _ _ hr, fun i u hu => pw_cell_below hb (hcell i u hu)⟩⟩
theorem own_reads_row {α : Type} {R : α → List Value → Prop} {w : World} {base n size : Nat} {e : TypeId} {v : Value} {ps : List α} {cs : List Value} (h : w.ownsRow base e size v n cs) (hR : Reps R size ps cs) (hn : ps.length = n) :
    ∃ A c, v = .slice A n c ∧ ReadsRow R size w A n ps := by
  rcases Nat.eq_zero_or_pos n with h0 | h0
  · rcases h.2 with ⟨rfl, rfl⟩ | ⟨g, cap, cur, rfl, _⟩
    · exact ⟨none, 0, rfl, hn, by omega, fun hp => absurd hp (by omega)⟩
    · exact ⟨_, cap, rfl, hn, by omega, fun hp => absurd hp (by omega)⟩
  · obtain ⟨g, cap, rfl, _, _⟩ := h.form h0
    have hm : n ≤ 9223372036854775807 := by
      rcases h.2 with ⟨_, h1⟩ | ⟨g', cap', cur, he, _, _, h1, h2, _⟩
      · omega
      · simp only [maxLen] at h2
        omega
    refine ⟨_, cap, rfl, hn, hm, fun _ => ⟨_, rfl, fun j p hj => ⟨(cs.drop (j * size)).take size, ?_, hR.2 j p hj, fun i u hu => ?_⟩⟩⟩
    · have hjl := (List.getElem?_eq_some_iff.1 hj).1
      have h1 : j * size + size ≤ cs.length := by rw [hR.1, ← Nat.succ_mul]; exact Nat.mul_le_mul_right _ hjl
      rw [List.length_take, List.length_drop]
      omega
    · refine h.cells (g := g) rfl _ u ?_
      rw [List.getElem?_take] at hu
      split at hu
      · rw [List.getElem?_drop] at hu
        exact hu
      · cases hu
section
variable {P : Program} {ops : Array Oper} {rest : List Oper} {o : Oper} {a : Act} {Q : Exit → Act → World → Prop}
/-- append(v, x), x of several cells; behind 'at_builtin'; the goal's world is 'W.alloc' of the variadic's box. -/
theorem print_append_cells {w0 W : World} (base : Nat) (hgd : o.guard = none) (s x : Operand) (t e : TypeId) (z : Value) (size bytes : Nat)
    (ho : o.op = .call { callee := .builtin .append, args := #[s, x], argTypes := #[t, t] })
    (ht : P.underlying t = some (.slice e)) (hinfo : (P.info? e).map (fun i => (i.zero, i.size, i.bytes)) = some (some z, size, bytes)) (hz : z.cells.size = size) (hs0 : 0 < size) (hb0 : 0 < bytes)
    (v : Value) (n : Nat) (xs ys : List Value) (hs : a.eval s = v) (hx : a.eval x = .slice (some ⟨W.heap.size, 0, none⟩) 1 1) (hys : ys.length = size) (h1 : ∀ u ∈ ys, u.oneCell' = true)
    (HO : W.ownsRow base e size v n xs) (HB : Below base w0 W) (hbase : base ≤ W.heap.size) (hl : (n + 1) * bytes ≤ 140737488355328)
    (h : ∀ v1 w1, w1.ownsRow base e size v1 (n + 1) (xs ++ ys) → Below base w0 w1 → W.grownBy w1 v.ownBlock → (v1.ownBlock = v.ownBlock ∨ ∃ b, v1.ownBlock = some b ∧ W.heap.size ≤ b) → wpList P ops Q rest (a.put o.dst v1) w1) :
    wpList P ops Q (o :: rest) a (W.alloc (.cells ys.toArray e)) := by
  obtain ⟨i0, hi, hzz⟩ := Option.map_eq_some_iff.1 hinfo
  simp only [Prod.mk.injEq] at hzz
  obtain ⟨hz0, hz1, hz2⟩ := hzz
  have hlen : n + 1 ≤ 140737488355328 := Nat.le_trans (Nat.le_mul_of_pos_right _ hb0) hl
  refine wpList_append_own_at (W.alloc (.cells ys.toArray e)) hgd s x t ho base e i0 z size bytes ht hi hz0 hz1 hz2 hz hs0 v n xs hs (HO.alloc _) ⟨W.heap.size, 0, none⟩ 1 1 ys hx (by rw [hys]; simp)
    (by simpa using World.news_of_block (cs := ys.toArray) (t := e) (fr := (0, 0)) (heap_alloc_new W (.cells ys.toArray e))) h1 (by simp only [maxLen]; omega) hl (by simp; omega) ?_
  intro v1 w1 hown hg _ hat
  refine h v1 w1 hown ((HB.alloc hbase _).grown hg (by simp; omega) (own_base HO)) (World.grownBy.trans (World.grownBy_alloc W _ _) hg) ?_
  rcases hat with hat | hat
  · exact .inl hat
  · exact .inr ⟨_, hat, by simp⟩
end
theorem own_ne {w : World} {base : Nat} {e t : TypeId} {size n g : Nat} {v : Value} {xs : List Value} {cs : Array Value} (h : w.ownsRow base e size v n xs) (hg : w.heap[g]? = some (.cells cs t (0, 0))) (hne : e ≠ t) : some g ≠ v.ownBlock := by
  rcases h.2 with ⟨rfl, _⟩ | ⟨g', cap, cur, rfl, _, hh, _⟩
  · simp [Value.ownBlock]
  · intro he
    have : g = g' := by simpa [Value.ownBlock] using he
    subst this
    rw [hg] at hh
    injection hh with hh
    injection hh with _ ht
    exact hne ht.symm
theorem blk_lt {w : World} {g : Nat} {o : Obj} (h : w.heap[g]? = some o) : g < w.heap.size := (Array.getElem?_eq_some_iff.1 h).1
def KeepBut (w w' : World) (g : Nat) (row : Option Nat) : Prop := w.heap.size ≤ w'.heap.size ∧ ∀ i, i < w.heap.size → i ≠ g → some i ≠ row → w'.heap[i]? = w.heap[i]?
theorem KeepBut.refl (w : World) (g : Nat) (row : Option Nat) : KeepBut w w g row := ⟨Nat.le_refl _, fun _ _ _ _ => rfl⟩
theorem KeepBut.of_below {w w1 : World} (h : Below w.heap.size w w1) (g : Nat) (row : Option Nat) : KeepBut w w1 g row := ⟨h.size, fun i hi _ _ => h.block i hi⟩
theorem KeepBut.trans {w w1 w2 : World} {g : Nat} {row row1 : Option Nat} (h : KeepBut w w1 g row) (k : KeepBut w1 w2 g row1) (hr : row1 = row ∨ ∃ b, row1 = some b ∧ w.heap.size ≤ b) : KeepBut w w2 g row :=
  ⟨Nat.le_trans h.1 k.1, fun i hi hg hn => by
    refine (k.2 i (Nat.lt_of_lt_of_le hi h.1) hg ?_).trans (h.2 i hi hg hn)
    rcases hr with rfl | ⟨b, rfl, hb⟩
    · exact hn
    · intro e
      injection e with e
      omega⟩
/-- Another block, another row: they live on. -/
theorem KeepBut.blk {w w1 : World} {g g' : Nat} {row : Option Nat} {o : Obj} (h : KeepBut w w1 g row) (hb : w.heap[g']? = some o) (hg : g' ≠ g) (hr : some g' ≠ row) : w1.heap[g']? = some o := (h.2 g' (blk_lt hb) hg hr).trans hb
theorem KeepBut.own {w w1 : World} {g : Nat} {row : Option Nat} {base : Nat} {e : TypeId} {size n : Nat} {v : Value} {xs : List Value} (h : KeepBut w w1 g row) (ho : w.ownsRow base e size v n xs) (hg : v.ownBlock ≠ some g) (hr : v.ownBlock = none ∨ v.ownBlock ≠ row) : w1.ownsRow base e size v n xs := by
  obtain ⟨h1, h2⟩ := ho
  refine ⟨h1, ?_⟩
  rcases h2 with h2 | ⟨b, cap, cur, rfl, hb, hh, r⟩
  · exact .inl h2
  · refine .inr ⟨b, cap, cur, rfl, hb, h.blk hh ?_ ?_, r⟩
    · intro e
      exact hg (by rw [← e]; rfl)
    · rcases hr with hr | hr
      · simp [Value.ownBlock] at hr
      · exact hr
def Ev {α : Type} (g : Nat → Option α) (r : α) : Prop := ∃ K, ∀ k, K ≤ k → g k = some r
theorem Ev.of {α : Type} {g : Nat → Option α} {r : α} (hg : ∀ k, LeO (g k) (g (k + 1))) {k : Nat} (h : g k = some r) : Ev g r := ⟨k, fun _ hk => at_rounds hg hk h⟩
theorem Ev.now {α : Type} (r : α) : Ev (fun _ => some r) r := ⟨0, fun _ _ => rfl⟩
theorem Ev.bind {α β : Type} {g : Nat → Option α} {f : Nat → α → Option β} {a : α} {r : β} (h : Ev g a) (k : Ev (fun n => f n a) r) : Ev (fun n => (g n).bind (f n)) r := by
  obtain ⟨K, h⟩ := h
  obtain ⟨K', k⟩ := k
  refine ⟨max K K', fun n hn => ?_⟩
  have h1 := h n (by omega)
  have h2 := k n (by omega)
  simp only [h1, Option.bind_some]
  exact h2
/-- One round of a loop. -/
theorem Ev.step {α : Type} {g f : Nat → Option α} {r : α} (h : ∀ k, g (k + 1) = f k) (k : Ev f r) : Ev g r := by
  obtain ⟨K, k⟩ := k
  refine ⟨K + 1, fun n hn => ?_⟩
  obtain ⟨m, rfl⟩ : ∃ m, n = m + 1 := ⟨n - 1, by omega⟩
  rw [h]
  exact k m (by omega)
theorem Ev.congr {α : Type} {g f : Nat → Option α} {r : α} (h : ∀ k, g k = f k) (k : Ev f r) : Ev g r := by
  obtain ⟨K, k⟩ := k
  exact ⟨K, fun n hn => (h n).trans (k n hn)⟩
section
variable {P : Program} {ops : Array Oper} {o : Oper} {a : Act} {Q : Exit → Act → World → Prop} {K : Act → World → Prop}
end
theorem own_weaken {w : World} {base base' : Nat} {e : TypeId} {size n : Nat} {v : Value} {xs : List Value} (h : w.ownsRow base e size v n xs) (hb : base' ≤ base) : w.ownsRow base' e size v n xs := by
  obtain ⟨h1, h2⟩ := h
  refine ⟨h1, ?_⟩
  rcases h2 with h2 | ⟨g, cap, cur, rfl, hg, r⟩
  · exact .inl h2
  · exact .inr ⟨g, cap, cur, rfl, Nat.le_trans hb hg, r⟩
section
variable {α : Type} {enc : α → Value} {d : α}
def ReadsOf (enc : α → Value) (d : α) (w : World) (A : Option Addr) (n : Nat) (xs : List α) : Prop :=
  xs.length = n ∧ n ≤ 9223372036854775807 ∧ (0 < n → ∃ ad, A = some ad ∧ ∀ j, j < n → w.cell? (ad.add j) = some (enc (xs.getD j d)))
theorem ReadsOf.below {w w1 : World} {A : Option Addr} {n : Nat} {xs : List α} (h : ReadsOf enc d w A n xs) (hb : Below w.heap.size w w1) : ReadsOf enc d w1 A n xs :=
  ⟨h.1, h.2.1, fun hn => by
    obtain ⟨ad, e, hc⟩ := h.2.2 hn
    exact ⟨ad, e, fun j hj => pw_cell_below hb (hc j hj)⟩⟩
end
section
variable {α : Type} {P : Program} {ops : Array Oper} {rest : List Oper} {o : Oper} {a : Act} {Q : Exit → Act → World → Prop}
end
section
variable {P : Program}
end
theorem own_le {w : World} {base n m c size : Nat} {e : TypeId} {A : Option Addr} {xs : List Value} (h : w.ownsRow base e size (.slice A m c) n xs) : m ≤ c := by
  rcases h.2 with ⟨he, _⟩ | ⟨g, cap, cur, he, _, _, hnc, _⟩
  · injection he with _ h2 h3
    omega
  · injection he with _ h2 h3
    omega
def OwnRow {α : Type} (R : α → List Value → Prop) (e : TypeId) (size : Nat) (w : World) (base : Nat) (v : Value) (ps : List α) : Prop :=
  ∃ inner, w.ownsRow base e size v ps.length inner ∧ Reps R size ps inner
section
variable {α : Type} {R R' : α → List Value → Prop} {e : TypeId} {size : Nat} {w w1 : World} {base : Nat} {v : Value} {ps : List α}
theorem OwnRow.none_ (R : α → List Value → Prop) (e : TypeId) (size : Nat) (w : World) (base : Nat) : OwnRow R e size w base (.slice none 0 0) [] := ⟨[], own_nil _ _ _ _, Reps.none _ _⟩
theorem OwnRow.imp_ (h : OwnRow R e size w base v ps) (hR : ∀ p c, R p c → R' p c) : OwnRow R' e size w base v ps := by
  obtain ⟨inner, ho, hr⟩ := h
  exact ⟨inner, ho, hr.imp_ hR⟩
theorem OwnRow.below (h : OwnRow R e size w base v ps) (hb : Below w.heap.size w w1) : OwnRow R e size w1 base v ps := by
  obtain ⟨inner, ho, hr⟩ := h
  exact ⟨inner, pw_own_below ho hb, hr⟩
theorem OwnRow.other (h : OwnRow R e size w base v ps) {row : Option Nat} (hg : w.grownBy w1 row) (hne : v.ownBlock = none ∨ v.ownBlock ≠ row) : OwnRow R e size w1 base v ps := by
  obtain ⟨inner, ho, hr⟩ := h
  exact ⟨inner, own_other ho hg hne, hr⟩
theorem OwnRow.keep (h : OwnRow R e size w base v ps) {g : Nat} {t : TypeId} {cells : Array Value} (hb : w.heap[g]? = some (.cells cells t (0, 0))) (ht : e ≠ t) (hk : KeepBut w w1 g none) : OwnRow R e size w1 base v ps := by
  obtain ⟨inner, ho, hr⟩ := h
  exact ⟨inner, hk.own ho (Ne.symm (own_ne ho hb ht)) (by cases v.ownBlock <;> simp), hr⟩
theorem OwnRow.reads (h : OwnRow R e size w base v ps) : ∃ A c, v = .slice A ps.length c ∧ ps.length ≤ c ∧ ReadsRow R size w A ps.length ps := by
  obtain ⟨inner, ho, hr⟩ := h
  obtain ⟨A, c, rfl, hrow⟩ := own_reads_row ho hr rfl
  exact ⟨A, c, rfl, own_le ho, hrow⟩
/-- A literal: the elements' cells one behind the other. -/
theorem OwnRow.lit (W : World) (base : Nat) {inner : List Value} (hr : Reps R size ps inner) (hb : base ≤ W.heap.size) (hm : ps.length ≤ 9223372036854775807) :
    OwnRow R e size (W.alloc (.cells inner.toArray e)) base (.slice (some ⟨W.heap.size, 0, none⟩) ps.length ps.length) ps := by
  have h := World.ownsRow_lit (base := base) (e := e) (size := size) W inner.toArray ps.length hb (by simpa [maxLen] using hm) (by simpa using hr.1)
  exact ⟨inner, by simpa using h, hr⟩
end
section
variable {P : Program} {ops : Array Oper} {rest : List Oper} {o : Oper} {a : Act} {Q : Exit → Act → World → Prop} {α : Type} {R : α → List Value → Prop}
/-- append(v, x): x's cells are cs. R is that of the world AHEAD; move it over hg ('OwnRow.imp_'). -/
theorem OwnRow.append {w0 W : World} (base : Nat) (hgd : o.guard = none) (s x : Operand) (t e : TypeId) (z : Value) (size bytes : Nat)
    (ho : o.op = .call { callee := .builtin .append, args := #[s, x], argTypes := #[t, t] })
    (ht : P.underlying t = some (.slice e)) (hinfo : (P.info? e).map (fun i => (i.zero, i.size, i.bytes)) = some (some z, size, bytes)) (hz : z.cells.size = size) (hs0 : 0 < size) (hb0 : 0 < bytes)
    (v : Value) (ps : List α) (p : α) (cs : List Value) (hs : a.eval s = v) (hx : a.eval x = .slice (some ⟨W.heap.size, 0, none⟩) 1 1) (hp : R p cs) (hcs : cs.length = size) (h1 : ∀ u ∈ cs, u.oneCell' = true)
    (HO : OwnRow R e size W base v ps) (HB : Below base w0 W) (hbase : base ≤ W.heap.size) (hl : (ps.length + 1) * bytes ≤ 140737488355328)
    (h : ∀ v1 w1, OwnRow R e size w1 base v1 (ps ++ [p]) → Below base w0 w1 → W.grownBy w1 v.ownBlock → (v1.ownBlock = v.ownBlock ∨ ∃ b, v1.ownBlock = some b ∧ W.heap.size ≤ b) → wpList P ops Q rest (a.put o.dst v1) w1) :
    wpList P ops Q (o :: rest) a (W.alloc (.cells cs.toArray e)) := by
  obtain ⟨inner, hown, hr⟩ := HO
  refine print_append_cells base hgd s x t e z size bytes ho ht hinfo hz hs0 hb0 v ps.length inner cs hs hx hcs h1 hown HB hbase hl ?_
  intro v1 w1 hown1 hb1 hg1 hat1
  exact h v1 w1 ⟨inner ++ cs, by rw [List.length_append, List.length_singleton]; exact hown1, hr.snoc hp hcs⟩ hb1 hg1 hat1
end
section
variable {P : Program} {ops : Array Oper} {o : Oper} {a : Act} {Q : Exit → Act → World → Prop} {K : Act → World → Prop} {α : Type} {R : α → List Value → Prop}
end
section
variable {α : Type} {P : Program}
theorem ReadsOf.len_ {enc : α → Value} {d : α} {w : World} {A : Option Addr} {n : Nat} {xs : List α} (h : ReadsOf enc d w A n xs) : ReadsOf enc d w A xs.length xs := by rw [h.1]; exact h
end
section
variable {P : Program} {ops : Array Oper} {rest : List Oper} {o : Oper} {a : Act} {Q : Exit → Act → World → Prop}
end
/-- ok: which blocks the rows inside may be ('not the row that is being written'). -/
structure Kd (α : Type) where
  sz : Nat
  E : List Nat
  K : World → α → List Value → Prop
  M : World → Nat → (Nat → Prop) → α → List Value → Prop
  K_len : ∀ {w x cs}, K w x cs → cs.length = sz
  K_one : ∀ {w x cs}, K w x cs → ∀ u ∈ cs, u.oneCell' = true
  K_below : ∀ {w w1 : World} {x cs}, Below w.heap.size w w1 → K w x cs → K w1 x cs
  K_of_M : ∀ {w base ok x cs}, M w base ok x cs → K w x cs
  M_mono : ∀ {w base ok ok' x cs}, (∀ k, ok k → ok' k) → M w base ok x cs → M w base ok' x cs
  M_bound : ∀ {w : World} {base ok x cs}, M w base ok x cs → M w base (fun k => ok k ∧ base ≤ k ∧ k < w.heap.size ∧ ∃ q, q ∈ E ∧ ∃ cells, w.heap[k]? = some (.cells cells q (0, 0))) x cs
  M_move : ∀ {w w1 : World} {base ok x cs}, (∀ k, ok k → w1.heap[k]? = w.heap[k]?) → M w base ok x cs → M w1 base ok x cs
  M_lower : ∀ {w base base' ok x cs}, base' ≤ base → M w base ok x cs → M w base' ok x cs
theorem own_move {w w1 : World} {base : Nat} {e : TypeId} {size n : Nat} {v : Value} {xs : List Value} (h : w.ownsRow base e size v n xs) (hm : ∀ k, v.ownBlock = some k → w1.heap[k]? = w.heap[k]?) : w1.ownsRow base e size v n xs := by
  obtain ⟨h1, h2⟩ := h
  refine ⟨h1, ?_⟩
  rcases h2 with h2 | ⟨g, cap, cur, rfl, hg, hh, r⟩
  · exact .inl h2
  · exact .inr ⟨g, cap, cur, rfl, hg, (hm g (by simp [Value.ownBlock])).trans hh, r⟩
theorem own_typed {w : World} {base : Nat} {e : TypeId} {size n : Nat} {v : Value} {xs : List Value} (h : w.ownsRow base e size v n xs) (k : Nat) (hk : v.ownBlock = some k) : ∃ cells, w.heap[k]? = some (.cells cells e (0, 0)) := by
  rcases h.2 with ⟨rfl, _⟩ | ⟨g, cap, cur, rfl, hg, hh, r⟩
  · simp [Value.ownBlock] at hk
  · have : g = k := by simpa [Value.ownBlock] using hk
    subst this
    exact ⟨cur, hh⟩
namespace Kd
/-- A row of elements that is read. -/
def C {α : Type} (d : Kd α) (w : World) (A : Option Addr) (n : Nat) (xs : List α) : Prop := ReadsRow (d.K w) d.sz w A n xs
/-- A row of elements (type e) of the call's own; the elements' rows are not this one. -/
def R {α : Type} (d : Kd α) (e : Nat) (w : World) (base : Nat) (ok : Nat → Prop) (v : Value) (xs : List α) : Prop :=
  (∀ k, v.ownBlock = some k → ok k) ∧ OwnRow (d.M w base (fun k => ok k ∧ some k ≠ v.ownBlock)) e d.sz w base v xs
section
variable {α : Type} {d : Kd α} {e : Nat} {w w1 : World} {base : Nat} {ok ok' : Nat → Prop} {v : Value} {xs : List α}
theorem C_below {A : Option Addr} {n : Nat} (h : d.C w A n xs) (hb : Below w.heap.size w w1) : d.C w1 A n xs := ReadsRow.imp_ h hb (fun _ _ hp => d.K_below hb hp)
theorem R_mono (h : d.R e w base ok v xs) (hok : ∀ k, ok k → ok' k) : d.R e w base ok' v xs := ⟨fun k hk => hok k (h.1 k hk), h.2.imp_ (fun _ _ hp => d.M_mono (fun k hk => ⟨hok k hk.1, hk.2⟩) hp)⟩
theorem R_bound (h : d.R e w base ok v xs) : d.R e w base (fun k => ok k ∧ base ≤ k ∧ k < w.heap.size ∧ ∃ q, q ∈ e :: d.E ∧ ∃ cells, w.heap[k]? = some (.cells cells q (0, 0))) v xs := by
  obtain ⟨h0, inner, ho, hr⟩ := h
  refine ⟨fun k hk => ?_, inner, ho, hr.imp_ (fun _ _ hp => d.M_mono (fun k hk => ?_) (d.M_bound hp))⟩
  · obtain ⟨cells, hc⟩ := own_typed ho k hk
    exact ⟨h0 k hk, own_base ho k hk, own_lt ho k hk, e, List.mem_cons_self, cells, hc⟩
  · obtain ⟨⟨h1, h2⟩, h3, h4, q, hq, hc⟩ := hk
    exact ⟨⟨h1, h3, h4, q, List.mem_cons_of_mem _ hq, hc⟩, h2⟩
theorem R_move (h : d.R e w base ok v xs) (hm : ∀ k, ok k → w1.heap[k]? = w.heap[k]?) : d.R e w1 base ok v xs := by
  obtain ⟨h0, inner, ho, hr⟩ := h
  exact ⟨h0, inner, own_move ho (fun k hk => hm k (h0 k hk)), hr.imp_ (fun _ _ hp => d.M_move (fun k hk => hm k hk.1) hp)⟩
theorem R_lower {base' : Nat} (h : d.R e w base ok v xs) (hb : base' ≤ base) : d.R e w base' ok v xs := by
  obtain ⟨h0, inner, ho, hr⟩ := h
  exact ⟨h0, inner, own_weaken ho hb, hr.imp_ (fun _ _ hp => d.M_lower hb hp)⟩
theorem R_reads (h : d.R e w base ok v xs) : ∃ A c, v = .slice A xs.length c ∧ xs.length ≤ c ∧ d.C w A xs.length xs := by
  obtain ⟨A, c, he, hl, hr⟩ := OwnRow.reads h.2
  exact ⟨A, c, he, hl, hr.imp_ (Below.refl _ _) (fun _ _ hp => d.K_of_M hp)⟩
end
def scalar {α : Type} (enc : α → Value) (h1 : ∀ x, (enc x).oneCell' = true) : Kd α where
  sz := 1
  E := []
  K := fun _ x cs => cs = [enc x]
  M := fun _ _ _ x cs => cs = [enc x]
  K_len := fun h => by rw [h]; rfl
  K_one := fun h u hu => by
    rw [h] at hu
    rw [List.mem_singleton.1 hu]
    exact h1 _
  K_below := fun _ h => h
  K_of_M := fun h => h
  M_mono := fun _ h => h
  M_bound := fun h => h
  M_move := fun _ h => h
  M_lower := fun _ h => h
def int (k : IntKind) : Kd Int := scalar (Value.int k) (fun _ => rfl)
def bool : Kd Bool := scalar Value.bool (fun _ => rfl)
def string : Kd ByteArray := scalar Value.string (fun _ => rfl)
def slice {α : Type} (e : Nat) (d : Kd α) : Kd (List α) where
  sz := 1
  E := e :: d.E
  K := fun w xs cs => ∃ A c, cs = [.slice A xs.length c] ∧ xs.length ≤ c ∧ d.C w A xs.length xs
  M := fun w base ok xs cs => ∃ v, cs = [v] ∧ d.R e w base ok v xs
  K_len := by
    rintro w x cs ⟨A, c, rfl, _⟩
    rfl
  K_one := by
    rintro w x cs ⟨A, c, rfl, _⟩ u hu
    rw [List.mem_singleton.1 hu]
    rfl
  K_below := by
    rintro w w1 x cs hb ⟨A, c, rfl, hl, hr⟩
    exact ⟨A, c, rfl, hl, C_below hr hb⟩
  K_of_M := by
    rintro w base ok x cs ⟨v, rfl, h⟩
    obtain ⟨A, c, rfl, hl, hr⟩ := R_reads h
    exact ⟨A, c, rfl, hl, hr⟩
  M_mono := by
    rintro w base ok ok' x cs hok ⟨v, rfl, h⟩
    exact ⟨v, rfl, R_mono h hok⟩
  M_bound := by
    rintro w base ok x cs ⟨v, rfl, h⟩
    exact ⟨v, rfl, R_bound h⟩
  M_move := by
    rintro w w1 base ok x cs hm ⟨v, rfl, h⟩
    exact ⟨v, rfl, R_move h hm⟩
  M_lower := by
    rintro w base base' ok x cs hb ⟨v, rfl, h⟩
    exact ⟨v, rfl, R_lower h hb⟩
/-- Two in line. -/
def pair {α β : Type} (a : Kd α) (b : Kd β) : Kd (α × β) where
  sz := a.sz + b.sz
  E := a.E ++ b.E
  K := fun w x cs => ∃ c0 c1, cs = c0 ++ c1 ∧ a.K w x.1 c0 ∧ b.K w x.2 c1
  M := fun w base ok x cs => ∃ c0 c1, cs = c0 ++ c1 ∧ a.M w base ok x.1 c0 ∧ b.M w base ok x.2 c1
  K_len := by
    rintro w x cs ⟨c0, c1, rfl, h0, h1⟩
    rw [List.length_append, a.K_len h0, b.K_len h1]
  K_one := by
    rintro w x cs ⟨c0, c1, rfl, h0, h1⟩ u hu
    rcases List.mem_append.1 hu with hu | hu
    · exact a.K_one h0 u hu
    · exact b.K_one h1 u hu
  K_below := by
    rintro w w1 x cs hb ⟨c0, c1, rfl, h0, h1⟩
    exact ⟨c0, c1, rfl, a.K_below hb h0, b.K_below hb h1⟩
  K_of_M := by
    rintro w base ok x cs ⟨c0, c1, rfl, h0, h1⟩
    exact ⟨c0, c1, rfl, a.K_of_M h0, b.K_of_M h1⟩
  M_mono := by
    rintro w base ok ok' x cs hok ⟨c0, c1, rfl, h0, h1⟩
    exact ⟨c0, c1, rfl, a.M_mono hok h0, b.M_mono hok h1⟩
  M_bound := by
    rintro w base ok x cs ⟨c0, c1, rfl, h0, h1⟩
    refine ⟨c0, c1, rfl, a.M_mono ?_ (a.M_bound h0), b.M_mono ?_ (b.M_bound h1)⟩
    · rintro k ⟨h2, h3, h4, q, hq, hc⟩
      exact ⟨h2, h3, h4, q, List.mem_append_left _ hq, hc⟩
    · rintro k ⟨h2, h3, h4, q, hq, hc⟩
      exact ⟨h2, h3, h4, q, List.mem_append_right _ hq, hc⟩
  M_move := by
    rintro w w1 base ok x cs hm ⟨c0, c1, rfl, h0, h1⟩
    exact ⟨c0, c1, rfl, a.M_move hm h0, b.M_move hm h1⟩
  M_lower := by
    rintro w base base' ok x cs hb ⟨c0, c1, rfl, h0, h1⟩
    exact ⟨c0, c1, rfl, a.M_lower hb h0, b.M_lower hb h1⟩
/-- A Lean structure by its fields. -/
def iso {α β : Type} (d : Kd α) (f : β → α) : Kd β where
  sz := d.sz
  E := d.E
  K := fun w x cs => d.K w (f x) cs
  M := fun w base ok x cs => d.M w base ok (f x) cs
  K_len := d.K_len
  K_one := d.K_one
  K_below := d.K_below
  K_of_M := d.K_of_M
  M_mono := d.M_mono
  M_bound := d.M_bound
  M_move := d.M_move
  M_lower := d.M_lower
/-- Nothing is of this kind: where the nesting's depth is used up. -/
def bot {α : Type} (sz : Nat) (E : List Nat) : Kd α where
  sz := sz
  E := E
  K := fun _ _ _ => False
  M := fun _ _ _ _ _ => False
  K_len := fun h => h.elim
  K_one := fun h => h.elim
  K_below := fun _ h => h
  K_of_M := fun h => h
  M_mono := fun _ h => h
  M_bound := fun h => h
  M_move := fun _ h => h
  M_lower := fun _ h => h
/-- A type nested in itself: nested at most n deep .. -/
def upto {α : Type} (F : Kd α → Kd α) (sz : Nat) (E : List Nat) : Nat → Kd α
  | 0 => bot sz E
  | n + 1 => F (upto F sz E n)
/-- .. for some n. -/
def fix {α : Type} (F : Kd α → Kd α) (sz : Nat) (E : List Nat) (hs : ∀ n, (upto F sz E n).sz = sz) (hE : ∀ n q, q ∈ (upto F sz E n).E → q ∈ E) : Kd α where
  sz := sz
  E := E
  K := fun w x cs => ∃ n, (upto F sz E n).K w x cs
  M := fun w base ok x cs => ∃ n, (upto F sz E n).M w base ok x cs
  K_len := by
    rintro w x cs ⟨n, h⟩
    rw [(upto F sz E n).K_len h, hs n]
  K_one := by
    rintro w x cs ⟨n, h⟩
    exact (upto F sz E n).K_one h
  K_below := by
    rintro w w1 x cs hb ⟨n, h⟩
    exact ⟨n, (upto F sz E n).K_below hb h⟩
  K_of_M := by
    rintro w base ok x cs ⟨n, h⟩
    exact ⟨n, (upto F sz E n).K_of_M h⟩
  M_mono := by
    rintro w base ok ok' x cs hok ⟨n, h⟩
    exact ⟨n, (upto F sz E n).M_mono hok h⟩
  M_bound := by
    rintro w base ok x cs ⟨n, h⟩
    refine ⟨n, (upto F sz E n).M_mono ?_ ((upto F sz E n).M_bound h)⟩
    rintro k ⟨h2, h3, h4, q, hq, hc⟩
    exact ⟨h2, h3, h4, q, hE n q hq, hc⟩
  M_move := by
    rintro w w1 base ok x cs hm ⟨n, h⟩
    exact ⟨n, (upto F sz E n).M_move hm h⟩
  M_lower := by
    rintro w base base' ok x cs hb ⟨n, h⟩
    exact ⟨n, (upto F sz E n).M_lower hb h⟩
section
variable {P : Program} {ops : Array Oper} {rest : List Oper} {o : Oper} {a : Act} {Q : Exit → Act → World → Prop} {α : Type}
end
section
variable {P : Program} {ops : Array Oper} {o : Oper} {a : Act} {Q : Exit → Act → World → Prop} {Kc : Act → World → Prop} {α : Type}
end
end Kd
namespace Kd
/-- F says the more, the more its argument says. -/
structure Mono {α β : Type} (F : Kd α → Kd β) : Prop where
  sz : ∀ d d' : Kd α, d.sz = d'.sz → (F d).sz = (F d').sz
  K : ∀ d d' : Kd α, d.sz = d'.sz → (∀ w x cs, d.K w x cs → d'.K w x cs) → ∀ w x cs, (F d).K w x cs → (F d').K w x cs
  M : ∀ d d' : Kd α, d.sz = d'.sz → (∀ w base ok x cs, d.M w base ok x cs → d'.M w base ok x cs) → ∀ w base ok x cs, (F d).M w base ok x cs → (F d').M w base ok x cs
section
variable {α : Type} {F : Kd α → Kd α} {sz : Nat} {E : List Nat} {hs : ∀ n, (upto F sz E n).sz = sz} {hE : ∀ n q, q ∈ (upto F sz E n).E → q ∈ E}
end
end Kd
namespace Kd
end Kd
namespace Kd
section
variable {α β : Type} {d : Kd α} {d' : Kd β} {e e' : Nat} {w w1 W : World} {base b b' : Nat} {ok ok' okv oku : Nat → Prop} {v u : Value} {xs : List α} {ys : List β}
theorem C_nil (d : Kd α) (w : World) : d.C w none ([] : List α).length [] := ⟨rfl, by simp, fun h => absurd h (Nat.lt_irrefl 0)⟩
end
section
variable {w W : World} {A : Option Addr} {n : Nat}
variable {α : Type} {enc : α → Value} {h1 : ∀ x, (enc x).oneCell' = true} {e base g cap : Nat} {ok : Nat → Prop} {xs : List α}
end
section
variable {P : Program} {ops : Array Oper} {rest : List Oper} {o : Oper} {a : Act} {Q : Exit → Act → World → Prop}
variable {α : Type}
end
end Kd
section
variable {P : Program}
end
/-- A row of one's own that may begin inside its block. -/
def QRow (w : World) (base : Nat) (e : TypeId) (size : Nat) (v : Value) (n : Nat) (xs : List Value) : Prop :=
  xs.length = n * size ∧
  ((n = 0 ∧ ∃ A, v = .slice A 0 0 ∧ ∀ a, A = some a → base ≤ a.block ∧ ∃ cur, w.heap[a.block]? = some (.cells cur e (0, 0))) ∨
   ∃ g off cap cur, v = .slice (some ⟨g, off * size, none⟩) n cap ∧ base ≤ g ∧ w.heap[g]? = some (.cells cur e (0, 0)) ∧ n ≤ cap ∧ off + cap ≤ maxLen ∧ cur.size = (off + cap) * size ∧ (cur.toList.drop (off * size)).take (n * size) = xs)
section
variable {w w1 : World} {base n size : Nat} {e : TypeId} {v : Value} {xs : List Value}
end
section
variable {P : Program}
end
namespace Kd
def Q {α : Type} (d : Kd α) (e : Nat) (w : World) (base : Nat) (ok : Nat → Prop) (v : Value) (xs : List α) : Prop :=
  (∀ k, v.ownBlock = some k → ok k) ∧ ∃ inner, QRow w base e d.sz v xs.length inner ∧ Reps (d.M w base (fun k => ok k ∧ some k ≠ v.ownBlock)) d.sz xs inner
section
variable {α : Type} {d : Kd α} {e : Nat} {w w1 W : World} {base : Nat} {ok ok' : Nat → Prop} {v : Value} {xs : List α}
end
section
variable {P : Program} {ops : Array Oper} {rest : List Oper} {o : Oper} {a : Act} {Q' : Exit → Act → World → Prop} {Kc : Act → World → Prop} {α : Type}
end
end Kd
namespace Kd
section
variable {α : Type} {d : Kd α} {e e' : Nat} {w w1 W : World} {base : Nat} {ok : Nat → Prop} {u v : Value} {xs : List α}
end
end Kd
namespace Kd
section
variable {α : Type} {d : Kd α} {e base g n cap : Nat} {ok okp : Nat → Prop} {W : World} {xs : List α}
end
end Kd
namespace Kd
section
variable {α : Type} {F : Kd α → Kd α} {sz : Nat} {E : List Nat} {hs : ∀ n, (upto F sz E n).sz = sz} {hE : ∀ n q, q ∈ (upto F sz E n).E → q ∈ E}
end
end Kd
namespace Kd
section
variable {P : Program} {ops : Array Oper} {rest : List Oper} {o : Oper} {a : Act} {Q : Exit → Act → World → Prop} {α : Type}
end
end Kd
namespace Kd
section
variable {P : Program} {ops : Array Oper} {rest : List Oper} {o : Oper} {a : Act} {Q : Exit → Act → World → Prop} {α : Type}
end
end Kd
namespace Kd
section
variable {α : Type} {k : Kd α} {w : World} {A : Option Addr} {xs : List α} {m c : Nat}
end
end Kd
section
variable {P : Program}
end
theorem ReadsInt.nil (W : World) (k : IntKind) : ReadsInt W k none ([] : List Int).length [] := ⟨rfl, by simp, fun h => absurd h (Nat.lt_irrefl 0)⟩
theorem ReadsInt.drewN {W : World} {k : IntKind} {A : Option Addr} {n : Nat} {xs : List Int} (h : ReadsInt W k A n xs) (m : Nat) : ReadsInt (W.drewN m) k A n xs := h
theorem keep_cell {w W : World} {g : Nat} (h : KeepBut w W g none) {a : Addr} {v : Value} (hc : w.cell? a = some v) (hne : a.block ≠ g) : W.cell? a = some v := by
  have := h.2 a.block (World.block_lt_of_cell? w a hc) hne (by simp)
  simpa [World.cell?, this] using hc
theorem add_block (a : Addr) (i : Nat) : (a.add i).block = a.block := by unfold Addr.add; split <;> rfl
theorem ReadsOf.nil {α : Type} (enc : α → Value) (d : α) (W : World) : ReadsOf enc d W none ([] : List α).length [] := ⟨rfl, by simp, fun h => absurd h (Nat.lt_irrefl 0)⟩
theorem ReadsOf.drewN {α : Type} {enc : α → Value} {d : α} {W : World} {A : Option Addr} {n : Nat} {xs : List α} (h : ReadsOf enc d W A n xs) (m : Nat) : ReadsOf enc d (W.drewN m) A n xs := h
theorem ReadsInt.keep {w W : World} {k : IntKind} {A : Option Addr} {n g : Nat} {xs : List Int} (h : ReadsInt w k A n xs) (hk : KeepBut w W g none) (hf : ∀ ad, A = some ad → 0 < n → ad.block ≠ g) : ReadsInt W k A n xs :=
  ⟨h.1, h.2.1, fun hn => by
    obtain ⟨ad, e, hc⟩ := h.2.2 hn
    exact ⟨ad, e, fun j hj => keep_cell hk (hc j hj) (by rw [add_block]; exact hf ad e hn)⟩⟩
theorem ReadsOf.keep {α : Type} {enc : α → Value} {d : α} {w W : World} {A : Option Addr} {n g : Nat} {xs : List α} (h : ReadsOf enc d w A n xs) (hk : KeepBut w W g none) (hf : ∀ ad, A = some ad → 0 < n → ad.block ≠ g) : ReadsOf enc d W A n xs :=
  ⟨h.1, h.2.1, fun hn => by
    obtain ⟨ad, e, hc⟩ := h.2.2 hn
    exact ⟨ad, e, fun j hj => keep_cell hk (hc j hj) (by rw [add_block]; exact hf ad e hn)⟩⟩
namespace Kd
section
variable {α β : Type} {d : Kd α} {d' : Kd β} {e e' base base' n : Nat} {ok ok' : Nat → Prop} {w W w1 W1 : World} {v u : Value} {xs : List α} {ys : List β} {A : Option Addr} {c : Nat}
end
section
variable {α : Type} {enc : α → Value} {h1 : ∀ x, (enc x).oneCell' = true} {w W : World} {A : Option Addr} {n g : Nat} {xs : List α}
end
end Kd
namespace Kd
section
variable {α : Type} {d : Kd α} {e base g : Nat} {ok : Nat → Prop} {w w1 : World} {v : Value} {xs : List α} {o : Obj}
end
end Kd
section
variable {P : Program} {ops : Array Oper} {rest : List Oper} {o : Oper} {a : Act} {Q : Exit → Act → World → Prop}
end
namespace Kd
section
variable {α : Type} {enc : α → Value} {h1 : ∀ x, (enc x).oneCell' = true} {e base g n cap : Nat} {ok : Nat → Prop} {W : World} {xs : List α}
end
end Kd
section
variable {P : Program} {ops : Array Oper} {rest : List Oper} {o : Oper} {a : Act} {Q : Exit → Act → World → Prop}
end
namespace Kd
section
variable {α : Type} {enc : α → Value} {h1 : ∀ x, (enc x).oneCell' = true} {e base g n cap : Nat} {ok : Nat → Prop} {W : World} {xs : List α}
end
end Kd
section
variable {P : Program} {ops : Array Oper} {rest : List Oper} {o : Oper} {a : Act} {Q : Exit → Act → World → Prop} {W : World}
end
section
variable {P : Program} {ops : Array Oper} {o : Oper} {a : Act} {Q : Exit → Act → World → Prop} {Kc : Act → World → Prop}
namespace Kd
variable {α : Type}
end Kd
end
inductive Vals (P : Program) (tmps : Array Value) (w : World) : List ResultVar → List Value → Prop where
  | nil : Vals P tmps w [] []
  | tmp {u : Tmp} {rs : List ResultVar} {vs : List Value} (h : Vals P tmps w rs vs) : Vals P tmps w (.tmp u :: rs) (tmps.getD u undef :: vs)
  | cell {p : Tmp} {ty : TypeId} {rs : List ResultVar} {vs : List Value} (g : Nat) (t : TypeId) (cs : Array Value) (fr : Nat × Nat) (d : TypeDesc)
      (hp : tmps.getD p undef = .pointer (some ⟨g, 0, none⟩)) (hg : w.heap[g]? = some (.cells cs t fr))
      (hu : P.underlying ty = some d) (hd : (match d with | .struct _ | .array _ _ => true | _ => false) = true) (hi : (P.info? ty).map (·.size) = some cs.size)
      (h : Vals P tmps w rs vs) : Vals P tmps w (.cell p ty :: rs) (.agg cs :: vs)
section
variable {P : Program} {tmps : Array Value} {w : World}
end
namespace Kd
section
variable {P : Program} {α : Type}
end
section
variable {P : Program} {ops : Array Oper} {rest : List Oper} {o : Oper} {a : Act} {Q : Exit → Act → World → Prop} {Kc : Act → World → Prop} {α : Type}
end
end Kd
end Go.Proofs.YtecnfekcflfihaaW.PrintWords
end
section
namespace Go.Proofs.Ytecnfekcflfihaa.H
open Go.RowKit Go.MapKept Go.Proofs.YtecnfekcflfihaaW.PrintWords
set_option linter.unusedVariables false
set_option linter.unusedSimpArgs false
variable {P : Program}
def m0 (w : World) : M :=
  { w0 := w, fix := ⟨fun k => k < w.heap.size, fun k => k < w.heap.size, fun _ h => h⟩, com := fun b o => match w.cell? ⟨b, o, none⟩ with | some v => if v.oneCell' then some v else none | none => none, loc := fun _ => none, res := fun _ => false }
theorem m0_com {w : World} {b o : Nat} {v : Value} : (m0 w).com b o = some v ↔ w.cell? ⟨b, o, none⟩ = some v ∧ v.oneCell' = true := by
  show (match w.cell? ⟨b, o, none⟩ with | some v => if v.oneCell' then some v else none | none => none) = some v ↔ _
  cases h : w.cell? ⟨b, o, none⟩ with
  | none => simp
  | some u =>
    simp only
    split
    · rename_i h1; simp only [Option.some.injEq]; constructor
      · rintro rfl; exact ⟨rfl, h1⟩
      · exact fun h => h.1
    · rename_i h1; simp only [Option.some.injEq, false_iff, not_and, reduceCtorEq]; rintro rfl; exact h1
def s0 : HS := fun _ => none
theorem rel0 (w : World) : Rel (m0 w) s0 w :=
  ⟨⟨rfl, rfl, rfl, fun k h => ⟨h, rfl⟩⟩, fun b o v h => (m0_com.1 h).1, (fun id ob l h => by cases h), (fun id ob l h => by cases h), (fun id id' ob ob' l l' h => by cases h), 0, fun id _ => ⟨rfl, rfl, rfl⟩⟩
/-- A kind's cells, as H values. -/
structure Br {α : Type} (d : Kd α) (enc : α → List HV) : Prop where
  pos : 0 < d.sz
  len : ∀ x, (enc x).length = d.sz
  rep : ∀ w x cs, d.K w x cs → Reps (m0 w) (enc x) cs
theorem reps1 {m : M} {x : HV} {v : Value} (h : Rep m x v) (ho : hone x = true) : Reps m [x] [v] :=
  ⟨fun z hz => by simp at hz; subst hz; exact ho, rfl, fun j z hj => by cases j with | zero => simp at hj; subst hj; exact h | succ j => simp at hj⟩
theorem Br.int (k : IntKind) : Br (Kd.int k) (fun n => [.lit (.int k n)]) := ⟨Nat.one_pos, fun _ => rfl, fun w x cs h => by rw [show cs = [.int k x] from h]; exact reps1 (.lit _) rfl⟩
theorem Br.bool : Br Kd.bool (fun b => [.lit (.bool b)]) := ⟨Nat.one_pos, fun _ => rfl, fun w x cs h => by rw [show cs = [.bool x] from h]; exact reps1 (.lit _) rfl⟩
theorem Br.string : Br Kd.string (fun b => [.lit (.string b)]) := ⟨Nat.one_pos, fun _ => rfl, fun w x cs h => by rw [show cs = [.string x] from h]; exact reps1 (.lit _) rfl⟩
theorem Br.pair {α β : Type} {a : Kd α} {b : Kd β} {ea : α → List HV} {eb : β → List HV} (ha : Br a ea) (hb : Br b eb) : Br (Kd.pair a b) (fun x => ea x.1 ++ eb x.2) :=
  ⟨Nat.lt_of_lt_of_le ha.pos (Nat.le_add_right _ _), fun x => by rw [List.length_append, ha.len, hb.len]; rfl, fun w x cs h => by
    obtain ⟨c0, c1, rfl, h0, h1⟩ := h
    exact (ha.rep w _ _ h0).append (hb.rep w _ _ h1)⟩
theorem Br.iso {α β : Type} {d : Kd α} {e : α → List HV} (h : Br d e) (f : β → α) : Br (Kd.iso d f) (fun x => e (f x)) := ⟨h.pos, fun x => h.len _, fun w x cs hk => h.rep w _ _ hk⟩
theorem flat_at {α : Type} {enc : α → List HV} {sz : Nat} (hlen : ∀ x, (enc x).length = sz) (hpos : 0 < sz) : ∀ (xs : List α) (j : Nat), (xs.flatMap enc)[j]? = (xs[j / sz]?).bind fun x => (enc x)[j % sz]?
  | [], j => by simp
  | x :: xs, j => by
    rw [List.flatMap_cons]
    by_cases h : j < sz
    · rw [List.getElem?_append_left (by rw [hlen]; exact h), Nat.div_eq_of_lt h, Nat.mod_eq_of_lt h]; simp
    · rw [List.getElem?_append_right (by rw [hlen]; omega), hlen, flat_at hlen hpos xs]
      have h1 : j / sz = (j - sz) / sz + 1 := by rw [Nat.div_eq_sub_div hpos (by omega)]
      have h2 : j % sz = (j - sz) % sz := Nat.mod_eq_sub_mod (by omega)
      rw [h1, h2]; simp
theorem flat_len {α : Type} {enc : α → List HV} {sz : Nat} (hlen : ∀ x, (enc x).length = sz) : ∀ xs : List α, (xs.flatMap enc).length = xs.length * sz
  | [] => by simp
  | x :: xs => by rw [List.flatMap_cons, List.length_append, hlen, flat_len hlen xs, List.length_cons, Nat.add_mul]; omega
theorem Br.row {α : Type} {d : Kd α} {enc : α → List HV} (h : Br d enc) {w : World} {A : Option Addr} {n c : Nat} {xs : List α} (hr : d.C w A n xs) (hc : n ≤ c) : Rep (m0 w) (.list d.sz n (xs.flatMap enc) false) (.slice A n c) := by
  obtain ⟨h1, h2, h3⟩ := hr
  rcases Nat.eq_zero_or_pos n with hn | hn
  · subst hn
    have : xs = [] := List.eq_nil_of_length_eq_zero h1
    subst this
    exact .list0 _ _ _ _ (fun h => by cases h)
  · obtain ⟨ad, rfl, hx⟩ := h3 hn
    have hlenF := flat_len h.len xs
    rw [h1] at hlenF
    -- each cell
    have key : ∀ j, j < n * d.sz → ∃ v y, w.cell? (ad.add j) = some v ∧ v.oneCell' = true ∧ (xs.flatMap enc)[j]? = some y ∧ Rep (m0 w) y v ∧ hone y = true := by
      intro j hj
      have hq : j / d.sz < xs.length := by rw [h1]; exact Nat.div_lt_of_lt_mul (by rw [Nat.mul_comm]; exact hj)
      have hxq : xs[j / d.sz]? = some xs[j / d.sz] := by simp [hq]
      obtain ⟨cs, hl, hk, hcell⟩ := hx _ _ hxq
      have hrp := h.rep w _ _ hk
      have hm : j % d.sz < cs.length := by rw [hl]; exact Nat.mod_lt _ h.pos
      have hcj : cs[j % d.sz]? = some cs[j % d.sz] := by simp [hm]
      have hm2 : j % d.sz < (enc xs[j / d.sz]).length := by rw [h.len]; exact Nat.mod_lt _ h.pos
      have hy : (enc xs[j / d.sz])[j % d.sz]? = some (enc xs[j / d.sz])[j % d.sz] := by simp [hm2]
      refine ⟨cs[j % d.sz], (enc xs[j / d.sz])[j % d.sz], ?_, d.K_one hk _ (List.getElem_mem hm), ?_, ?_, hrp.1 _ (List.getElem_mem hm2)⟩
      · have := hcell _ _ hcj
        rwa [Nat.div_add_mod' j d.sz] at this
      · rw [flat_at h.len h.pos, hxq]; exact hy
      · have := hrp.2.2 _ _ hy
        rwa [show cs.getD (j % d.sz) undef = cs[j % d.sz] from by simp [List.getD, hm]] at this
    have hspot : ad.spot = none := by
      obtain ⟨v, y, hv, -⟩ := key 0 (Nat.mul_pos hn h.pos)
      have e : ad.add 0 = ad := by unfold Addr.add; rfl
      rw [e] at hv
      unfold World.cell? at hv
      split at hv
      · split at hv
        · cases hv
        · rename_i hs; simpa using hs
      · cases hv
    obtain ⟨b, o, sp⟩ := ad
    simp only at hspot; subst hspot
    refine .list d.sz n _ false c b o (fun j => (w.cell? ⟨b, o + j, none⟩).getD undef) hc (fun h => by cases h) hlenF (fun x hx => ?_) (fun j hj => ?_) (fun j x hj => ?_)
    · obtain ⟨j, hj⟩ := List.getElem?_of_mem hx
      have hlt := (List.getElem?_eq_some_iff.1 hj).1
      obtain ⟨v, y, g1, g2, g3, g4, g5⟩ := key j (by omega)
      rw [g3] at hj; cases hj; exact g5
    · obtain ⟨v, y, g1, g2, g3, g4, g5⟩ := key j (by omega)
      rw [add_loc] at g1
      rw [g1]; exact m0_com.2 ⟨g1, g2⟩
    · have hlt := (List.getElem?_eq_some_iff.1 hj).1
      obtain ⟨v, y, g1, g2, g3, g4, g5⟩ := key j (by omega)
      rw [add_loc] at g1
      rw [g1]; rw [g3] at hj; cases hj; exact g4
theorem Br.slice {α : Type} (e : Nat) {d : Kd α} {enc : α → List HV} (h : Br d enc) : Br (Kd.slice e d) (fun xs => [.list d.sz xs.length (xs.flatMap enc) false]) :=
  ⟨Nat.one_pos, fun _ => rfl, fun w xs cs hk => by
    obtain ⟨A, c, rfl, hc, hr⟩ := hk
    exact reps1 (h.row hr hc) rfl⟩
/-- From the H layer to the law. -/
theorem law_of {f : FuncId} {args : List HV} {cargs : Array Value} {w : World} (h : HC P f args s0 fun v _ => v = .lit (.bool true)) (hn : cargs.size = args.length) (ha : ∀ (j : Nat) x, args[j]? = some x → Rep (m0 w) x (cargs.getD j undef)) :
    Calls P f cargs w fun e w' => e = .returned (.bool true) ∧ Below w.heap.size w w' := by
  refine (h (m0 w) w cargs (rel0 w) hn ha).mono ?_
  rintro e w' ⟨cv, v, s', m', rfl, h1, h2, h3, rfl⟩
  cases h3
  refine ⟨rfl, ?_⟩
  have hb := h2.below
  have hf := h1.fix
  have hkey : ∀ k, k < w.heap.size → k < w'.heap.size ∧ w'.heap[k]? = w.heap[k]? := fun k hk => ⟨(hb.block k (hf k hk).1).1, (hb.block k (hf k hk).1).2.trans (hf k hk).2⟩
  refine ⟨hb.os.trans h1.env.1, hb.tape.trans h1.env.2.1, hb.output.trans h1.env.2.2, ?_, fun k hk => (hkey k hk).2⟩
  rcases Nat.eq_zero_or_pos w.heap.size with h0 | h0
  · omega
  · have := (hkey (w.heap.size - 1) (by omega)).1
    omega
end Go.Proofs.Ytecnfekcflfihaa.H
end
section
namespace Go.Proofs.YtecnfekcflfihaaW.PrintLast
section
variable {P : Program} {ops : Array Oper} {Q : Exit → Act → World → Prop} {md : Region.Mode} {S : World → Prop} {ds : List Nat}
def ListedClosed (md : Region.Mode) (ops : Array Oper) (listed : Array Bool) : Prop :=
  ∀ j oj, ops[j]? = some oj → listed.getD j false = true → ∀ e ∈ oj.after, Region.binds md e = true → listed.getD e.on false = true
theorem ListedClosed.set {listed : Array Bool} {i : Nat} (h : ListedClosed md ops listed) (hi : i ∈ Region.ready md ops listed) : ListedClosed md ops (listed.setIfInBounds i true) := by
  obtain ⟨_, oi, hoi, hall⟩ := mem_ready.1 hi
  intro j oj hj hl e he hb
  by_cases hij : i = j
  · subst hij
    have : oj = oi := Option.some.inj (hj.symm.trans hoi)
    subst this
    exact getD_set_true (hall e he hb)
  · rw [getD_set_ne false hij] at hl
    exact getD_set_true (h j oj hj hl e he hb)
/-- Whatever order is picked from here on, AND 'S' HOLDS BEHIND EVERY OPERATION THAT IS CARRIED OUT, those of ds apart. -/
def wpAnyLast (P : Program) (md : Region.Mode) (ops : Array Oper) (Q : Exit → Act → World → Prop) (S : World → Prop) (ds : List Nat) : Nat → Array Bool → Act → World → Prop
  | 0, listed, a, w => Region.ready md ops listed = [] ∧ Q .normal a w
  | fuel + 1, listed, a, w =>
    (Region.ready md ops listed = [] → Q .normal a w) ∧
    ∀ i ∈ Region.ready md ops listed, wpOp P ops Q i (fun a' w' => (i ∉ ds → S w → S w') ∧ wpAnyLast P md ops Q S ds fuel (listed.setIfInBounds i true) a' w') a w
end
section
variable {P : Program} {ops : Array Oper} {Q : Exit → Act → World → Prop} {md : Region.Mode} {S : World → Prop} {ds : List Nat}
def AllReadyL (P : Program) (md : Region.Mode) (ops : Array Oper) (Q : Exit → Act → World → Prop) (S : World → Prop) (ds : List Nat) (fuel : Nat) (listed : Array Bool) (a : Act) (w : World) (rs : List Nat) : Prop :=
  ∀ i ∈ rs, wpOp P ops Q i (fun a' w' => (i ∉ ds → S w → S w') ∧ wpAnyLast P md ops Q S ds fuel (listed.setIfInBounds i true) a' w') a w
theorem AllReadyL.nil {fuel : Nat} {listed : Array Bool} {a : Act} {w : World} : AllReadyL P md ops Q S ds fuel listed a w [] := fun _ h => by cases h
theorem AllReadyL.cons {fuel : Nat} {listed : Array Bool} {a : Act} {w : World} {i : Nat} {o : Oper} {rs : List Nat} (ho : ops[i]? = some o) (hd : i ∉ ds)
    (h : ∀ K' : Act → World → Prop, Shut (∀ a w, S w → (S w → wpAnyLast P md ops Q S ds fuel (listed.setIfInBounds i true) a w) → K' a w) → if Region.wanted o (yielded ops a.tmps) = true then Oper.wp P o a w K' Q else K' (a.put o.dst undef) w)
    (hs : AllReadyL P md ops Q S ds fuel listed a w rs) : AllReadyL P md ops Q S ds fuel listed a w (i :: rs) := fun j hj => by
  rcases List.mem_cons.1 hj with rfl | hj
  · exact wpOp_step ho (fun K' hK => h K' (fun a w hS hW => hK a w ⟨fun _ _ => hS, hW hS⟩))
  · exact hs j hj
end
end Go.Proofs.YtecnfekcflfihaaW.PrintLast
end
section
namespace Go.Proofs.YtecnfekcflfihaaW.PrintLast
end Go.Proofs.YtecnfekcflfihaaW.PrintLast
end
section
namespace Go.Proofs.YtecnfekcflfihaaW.PrintLast
end Go.Proofs.YtecnfekcflfihaaW.PrintLast
end
section
namespace Go.Proofs.YtecnfekcflfihaaW.PrintWords
end Go.Proofs.YtecnfekcflfihaaW.PrintWords
namespace Kd
end Kd
end
section
namespace Go.Proofs.YtecnfekcflfihaaW.PrintWords
open Go.RowKit
namespace Kd
/-- An element with its index: its blocks are those that f gives to it. -/
def tag {α : Type} (f : Nat → Nat) (d : Kd α) : Kd (α × Nat) where
  sz := d.sz
  E := d.E
  K := fun w x cs => d.K w x.1 cs
  M := fun w base ok x cs => d.M w base (fun k => ok k ∧ f k = x.2) x.1 cs
  K_len := fun h => d.K_len h
  K_one := fun h => d.K_one h
  K_below := fun hb h => d.K_below hb h
  K_of_M := fun h => d.K_of_M h
  M_mono := fun hok h => d.M_mono (fun k hk => ⟨hok k hk.1, hk.2⟩) h
  M_bound := fun h => d.M_mono (fun _ hk => ⟨⟨hk.1.1, hk.2⟩, hk.1.2⟩) (d.M_bound h)
  M_move := fun hm h => d.M_move (fun k hk => hm k hk.1) h
  M_lower := fun hb h => d.M_lower hb h
/-- The cells themselves. -/
def raw (sz : Nat) : Kd (List Value) where
  sz := sz
  E := []
  K := fun _ x cs => cs = x ∧ cs.length = sz ∧ ∀ u ∈ cs, u.oneCell' = true
  M := fun _ _ _ x cs => cs = x ∧ cs.length = sz ∧ ∀ u ∈ cs, u.oneCell' = true
  K_len := fun h => h.2.1
  K_one := fun h => h.2.2
  K_below := fun _ h => h
  K_of_M := fun h => h
  M_mono := fun _ h => h
  M_bound := fun h => h
  M_move := fun _ h => h
  M_lower := fun _ h => h
/-- A row of elements (type e) of the call's own, no two of which lead to one block. -/
def S {α : Type} (d : Kd α) (e : Nat) (w : World) (base : Nat) (ok : Nat → Prop) (v : Value) (xs : List α) : Prop := ∃ f, (tag f d).R e w base ok v xs.zipIdx
section
variable {α β : Type} {d : Kd α} {d' : Kd β} {e e' : Nat} {w w1 W : World} {base b : Nat} {ok ok' okv oku : Nat → Prop} {u v : Value} {xs : List α} {ys : List β}
end
section
variable {α β : Type} {d : Kd α} {d' : Kd β} {e e' g : Nat} {w w1 W : World} {base b : Nat} {ok ok' okv oku : Nat → Prop} {u v : Value} {xs : List α} {ys : List β}
end
section
variable {P : Program} {ops : Array Oper} {rest : List Oper} {o : Oper} {a : Act} {Q : Exit → Act → World → Prop} {Kc : Act → World → Prop} {α : Type}
end
/-- Element i is these cells; the others are d's. -/
def gap {α : Type} (f : Nat → Nat) (d : Kd α) (i : Nat) (c : List Value) : Kd (α × Nat) where
  sz := d.sz
  E := d.E
  K := fun w x cs => (x.2 = i → cs = c ∧ cs.length = d.sz ∧ ∀ u ∈ cs, u.oneCell' = true) ∧ (x.2 ≠ i → d.K w x.1 cs)
  M := fun w base ok x cs => (x.2 = i → cs = c ∧ cs.length = d.sz ∧ ∀ u ∈ cs, u.oneCell' = true) ∧ (x.2 ≠ i → d.M w base (fun k => ok k ∧ f k = x.2) x.1 cs)
  K_len := fun {w x cs} h => by
    by_cases hx : x.2 = i
    · exact (h.1 hx).2.1
    · exact d.K_len (h.2 hx)
  K_one := fun {w x cs} h => by
    by_cases hx : x.2 = i
    · exact (h.1 hx).2.2
    · exact d.K_one (h.2 hx)
  K_below := fun hb h => ⟨h.1, fun hx => d.K_below hb (h.2 hx)⟩
  K_of_M := fun h => ⟨h.1, fun hx => d.K_of_M (h.2 hx)⟩
  M_mono := fun hok h => ⟨h.1, fun hx => d.M_mono (fun k hk => ⟨hok k hk.1, hk.2⟩) (h.2 hx)⟩
  M_bound := fun h => ⟨h.1, fun hx => d.M_mono (fun _ hk => ⟨⟨hk.1.1, hk.2⟩, hk.1.2⟩) (d.M_bound (h.2 hx))⟩
  M_move := fun hm h => ⟨h.1, fun hx => d.M_move (fun k hk => hm k hk.1) (h.2 hx)⟩
  M_lower := fun hb h => ⟨h.1, fun hx => d.M_lower hb (h.2 hx)⟩
def H {α : Type} (d : Kd α) (e : Nat) (w : World) (base : Nat) (ok : Nat → Prop) (v : Value) (xs : List α) (i : Int) (oki : Nat → Prop) (c : List Value) : Prop :=
  (∀ k, oki k → ok k) ∧ ∃ f, (gap f d i.toNat c).R e w base (fun k => ok k ∧ ¬ oki k) v xs.zipIdx
section
variable {α β : Type} {d : Kd α} {e e' g n cap : Nat} {w w1 W : World} {base : Nat} {ok ok' oki okp : Nat → Prop} {u v : Value} {xs : List α} {i : Int} {c : List Value}
end
section
variable {P : Program} {ops : Array Oper} {rest : List Oper} {o : Oper} {a : Act} {Q : Exit → Act → World → Prop} {α : Type}
end
end Kd
end Go.Proofs.YtecnfekcflfihaaW.PrintWords
end
section
namespace Go.Proofs.YtecnfekcflfihaaW.PrintWords
end Go.Proofs.YtecnfekcflfihaaW.PrintWords
namespace Kd
end Kd
end
section
namespace Go.Proofs.YtecnfekcflfihaaW.PrintWords
end Go.Proofs.YtecnfekcflfihaaW.PrintWords
namespace Kd
end Kd
end
section
namespace Go.Proofs.YtecnfekcflfihaaW.PrintWords
open Go.RowKit
namespace Kd
/-- What a kind reads lies in the blocks: nothing else of the world is looked at. -/
structure Heap {α : Type} (d : Kd α) : Prop where
  K : ∀ {w w1 : World} {x : α} {cs : List Value}, (∀ k, k < w.heap.size → w1.heap[k]? = w.heap[k]?) → d.K w x cs → d.K w1 x cs
theorem cell_heap {w w1 : World} (hb : ∀ k, k < w.heap.size → w1.heap[k]? = w.heap[k]?) {a : Addr} {v : Value} (h : w.cell? a = some v) : w1.cell? a = some v := by
  have := hb a.block (World.block_lt_of_cell? w a h)
  simpa [World.cell?, this] using h
theorem Heap.C {α : Type} {d : Kd α} (hd : Heap d) {w w1 : World} {A : Option Addr} {n : Nat} {xs : List α} (hb : ∀ k, k < w.heap.size → w1.heap[k]? = w.heap[k]?) (h : d.C w A n xs) : d.C w1 A n xs :=
  ⟨h.1, h.2.1, fun hn => by
    obtain ⟨ad, e, hc⟩ := h.2.2 hn
    refine ⟨ad, e, fun j p hj => ?_⟩
    obtain ⟨c, hs, hr, hcell⟩ := hc j p hj
    exact ⟨c, hs, hd.K hb hr, fun i u hu => cell_heap hb (hcell i u hu)⟩⟩
section
variable {α : Type} {d : Kd α} {e base g n c : Nat} {ok : Nat → Prop} {w w0 W : World} {A : Option Addr} {xs : List α}
end
end Kd
end Go.Proofs.YtecnfekcflfihaaW.PrintWords
end
section
namespace Go.Proofs.YtecnfekcflfihaaW.PrintWords
open Go.RowKit
def Kept (w W : World) (S : Nat → Prop) : Prop := w.heap.size ≤ W.heap.size ∧ ∀ i, i < w.heap.size → ¬ S i → W.heap[i]? = w.heap[i]?
section
variable {w W W2 : World} {S S2 S' : Nat → Prop}
theorem Kept.refl (w : World) (S : Nat → Prop) : Kept w w S := ⟨Nat.le_refl _, fun _ _ _ => rfl⟩
theorem Kept.of_below (h : Below w.heap.size w W) (S : Nat → Prop) : Kept w W S := ⟨h.size, fun i hi _ => h.block i hi⟩
theorem Kept.mono (h : Kept w W S) (hs : ∀ k, S k → S' k) : Kept w W S' := ⟨h.1, fun i hi hn => h.2 i hi (fun hk => hn (hs i hk))⟩
theorem Kept.then_ (h : Kept w W S) (k : Kept W W2 S2) (hs : ∀ k, S2 k → S k ∨ w.heap.size ≤ k) : Kept w W2 S :=
  ⟨Nat.le_trans h.1 k.1, fun i hi hn => (k.2 i (Nat.lt_of_lt_of_le hi h.1) (fun h2 => (hs i h2).elim hn (fun h3 => by omega))).trans (h.2 i hi hn)⟩
theorem Kept.below (h : Kept w W S) (hb : Below W.heap.size W W2) : Kept w W2 S := h.then_ (Kept.of_below hb (fun _ => False)) (fun _ hk => hk.elim)
theorem Kept.alloc (h : Kept w W S) (o : Obj) : Kept w (W.alloc o) S := h.below (below_alloc (Below.refl _ _) o)
theorem Kept.drew (h : Kept w W S) : Kept w W.drew S := h
theorem Kept.drewN (h : Kept w W S) (m : Nat) : Kept w (W.drewN m) S := h
theorem Kept.setCell (h : Kept w W S) {p : Addr} (hp : S p.block ∨ w.heap.size ≤ p.block) (u : Value) : Kept w (W.setCell p u) S :=
  h.then_ (S2 := fun k => k = p.block) ⟨by simp [World.setCell], fun i _ hn => Below.heap_setCell W p u i hn⟩ (fun k hk => by rw [hk]; exact hp)
/-- Beside a state: what was written is new since. -/
theorem Kept.keep {g : Nat} (h : KeepBut w W g none) (k : Kept W W2 S2) (hs : ∀ k, S2 k → w.heap.size ≤ k) : KeepBut w W2 g none :=
  ⟨Nat.le_trans h.1 k.1, fun i hi hg hr => (k.2 i (Nat.lt_of_lt_of_le hi h.1) (fun h2 => by have := hs i h2; omega)).trans (h.2 i hi hg hr)⟩
end
namespace Kd
section
variable {α : Type} {d : Kd α} {e base n c : Nat} {ok oki S S2 : Nat → Prop} {w w0 W W1 W2 : World} {v : Value} {A : Option Addr} {xs : List α} {i : Int} {cs : List Value}
end
end Kd
end Go.Proofs.YtecnfekcflfihaaW.PrintWords
end
section
namespace Go.Proofs.YtecnfekcflfihaaW.PrintWords
open Go.RowKit
/-- P holds in W and in every world that has W's blocks of ok. -/
def Foot (P : World → Prop) (W : World) (ok : Nat → Prop) : Prop := ∀ W' : World, (∀ k, ok k → k < W.heap.size → W'.heap[k]? = W.heap[k]?) → P W'
theorem heap_lt {W W1 : World} {k : Nat} (h : W1.heap[k]? = W.heap[k]?) (hlt : k < W.heap.size) : k < W1.heap.size := by
  rw [Array.getElem?_eq_getElem hlt] at h
  exact (Array.getElem?_eq_some_iff.1 h).1
namespace Foot
variable {P Q : World → Prop} {W W1 : World} {ok ok' : Nat → Prop}
theorem now (h : Foot P W ok) : P W := h W (fun _ _ _ => rfl)
theorem mono (h : Foot P W ok) (hok : ∀ k, ok k → ok' k) : Foot P W ok' := fun W' hW => h W' (fun k hk hlt => hW k (hok k hk) hlt)
theorem bound (h : Foot P W ok) : Foot P W (fun k => ok k ∧ k < W.heap.size) := fun W' hW => h W' (fun k hk hlt => hW k ⟨hk, hlt⟩ hlt)
theorem step (h : Foot P W ok) (hm : ∀ k, ok k → k < W.heap.size → W1.heap[k]? = W.heap[k]?) : Foot P W1 ok := fun W' hW => h W' (fun k hk hlt => (hW k hk (heap_lt (hm k hk hlt) hlt)).trans (hm k hk hlt))
theorem imp (h : Foot P W ok) (hi : ∀ W', P W' → Q W') : Foot Q W ok := fun W' hW => hi W' (h W' hW)
/-- Moved, and still elder than what is new since W. -/
theorem old (h : Foot P W ok) (hb : Below W.heap.size W W1) : Foot P W1 (fun k => ok k ∧ k < W.heap.size) := (h.bound).step (fun k _ hlt => hb.block k hlt)
end Foot
namespace Kd
/-- A row that is only read: what it leads to lies in ok. -/
def F {α : Type} (d : Kd α) (W : World) (ok : Nat → Prop) (A : Option Addr) (n : Nat) (xs : List α) : Prop := Foot (fun W => d.C W A n xs) W ok
/-- An element's cells: what they lead to lies in ok. -/
def FK {α : Type} (d : Kd α) (W : World) (ok : Nat → Prop) (x : α) (c : List Value) : Prop := Foot (fun W => d.K W x c) W ok
section
variable {α β : Type} {d : Kd α} {e base n n' cc g N : Nat} {ok ok' okp S : Nat → Prop} {w w0 w1 W W1 : World} {A A' : Option Addr} {u v v1 : Value} {xs : List α} {xs' : List β} {d' : Kd β} {x : α} {c : List Value}
end
end Kd
end Go.Proofs.YtecnfekcflfihaaW.PrintWords
end
section
namespace Go.Proofs.YtecnfekcflfihaaW.PrintWords
open Go.RowKit
namespace Kd
section
variable {α : Type} {d : Kd α} {e base n cc g : Nat} {ok ok' okp S : Nat → Prop} {w w1 W W1 : World} {A : Option Addr} {u v v1 : Value} {xs : List α} {x : α} {c : List Value}
/-- A row of elements (type e) of the call's own; what the elements lead to is only read, and is not this row. -/
def N {α : Type} (d : Kd α) (e : Nat) (w : World) (base : Nat) (ok : Nat → Prop) (v : Value) (xs : List α) : Prop :=
  (∀ k, v.ownBlock = some k → ok k) ∧ ∃ rows : List (List Value), rows.length = xs.length ∧ (raw d.sz).R e w base (fun k => some k = v.ownBlock) v rows ∧ ∀ (j : Nat) (x : α) (c : List Value), xs[j]? = some x → rows[j]? = some c → FK d w (fun k => ok k ∧ some k ≠ v.ownBlock) x c
end
end Kd
end Go.Proofs.YtecnfekcflfihaaW.PrintWords
end
section
namespace Go.Proofs.YtecnfekcflfihaaW.PrintWords
end Go.Proofs.YtecnfekcflfihaaW.PrintWords
namespace Kd
end Kd
end
section
namespace Go.Proofs.YtecnfekcflfihaaW.PrintWords
end Go.Proofs.YtecnfekcflfihaaW.PrintWords
namespace Kd
end Kd
end
section
namespace Go.Proofs.YtecnfekcflfihaaW.PrintWords
end Go.Proofs.YtecnfekcflfihaaW.PrintWords
end
section
namespace Go.Proofs.YtecnfekcflfihaaW.PrintWords
/-- One cell an element. -/
theorem Reps.one {α : Type} {R : α → List Value → Prop} {ps : List α} {cs : List Value} {p : α} {v : Value} (hp : R p [v]) (h : Reps R 1 ps cs) : Reps R 1 (p :: ps) (v :: cs) := by
  refine ⟨by simp [h.1], fun j q hq => ?_⟩
  cases j with
  | zero =>
    simp only [List.getElem?_cons_zero, Option.some.injEq] at hq
    subst hq
    simpa using hp
  | succ j =>
    simp only [List.getElem?_cons_succ] at hq
    have h1 := h.2 j q hq
    simpa [Nat.mul_one] using h1
/-- More cells an element: told apart by the cells' list. -/
theorem Reps.front {α : Type} {R : α → List Value → Prop} {size : Nat} {ps : List α} {cs c all : List Value} {p : α} (hp : R p c) (hc : c.length = size) (h : Reps R size ps cs) (ha : c ++ cs = all) : Reps R size (p :: ps) all := by
  subst ha
  refine ⟨by rw [List.length_append, hc, h.1, List.length_cons, Nat.succ_mul, Nat.add_comm], fun j q hq => ?_⟩
  cases j with
  | zero =>
    simp only [List.getElem?_cons_zero, Option.some.injEq] at hq
    subst hq
    rw [Nat.zero_mul, List.drop_zero, List.take_append_of_le_length (by omega), List.take_of_length_le (by omega)]
    exact hp
  | succ j =>
    simp only [List.getElem?_cons_succ] at hq
    have h1 := h.2 j q hq
    rw [Nat.succ_mul, List.drop_append, List.drop_of_length_le (by rw [hc]; exact Nat.le_add_left _ _), List.nil_append, hc, Nat.add_sub_cancel]
    exact h1
theorem Reps.c2 {α : Type} {R : α → List Value → Prop} {ps : List α} {cs : List Value} {p : α} {va vb : Value} (hp : R p [va, vb]) (h : Reps R 2 ps cs) : Reps R 2 (p :: ps) (va :: vb :: cs) := Reps.front hp rfl h rfl
theorem Reps.c3 {α : Type} {R : α → List Value → Prop} {ps : List α} {cs : List Value} {p : α} {va vb vc : Value} (hp : R p [va, vb, vc]) (h : Reps R 3 ps cs) : Reps R 3 (p :: ps) (va :: vb :: vc :: cs) := Reps.front hp rfl h rfl
theorem Reps.c4 {α : Type} {R : α → List Value → Prop} {ps : List α} {cs : List Value} {p : α} {va vb vc vd : Value} (hp : R p [va, vb, vc, vd]) (h : Reps R 4 ps cs) : Reps R 4 (p :: ps) (va :: vb :: vc :: vd :: cs) := Reps.front hp rfl h rfl
end Go.Proofs.YtecnfekcflfihaaW.PrintWords
end
section
namespace Go.Proofs.YtecnfekcflfihaaW.PrintLast
/-- Number i is listed too. -/
def up (b : Nat → Bool) (i : Nat) : Nat → Bool := fun j => if j = i then true else b j
section
variable {P : Program} {ops : Array Oper} {Q : Exit → Act → World → Prop} {md : Region.Mode} {T : Bool × List (List Nat × List Nat)} {B : List Nat} {O : List Nat} {b : Nat → Bool} {i j n : Nat}
end
end Go.Proofs.YtecnfekcflfihaaW.PrintLast
end
section
namespace Go.Proofs.YtecnfekcflfihaaW.PrintWords
end Go.Proofs.YtecnfekcflfihaaW.PrintWords
namespace Go.Proofs.YtecnfekcflfihaaW.PrintLast
end Go.Proofs.YtecnfekcflfihaaW.PrintLast
end
section
namespace Go.Proofs.YtecnfekcflfihaaW.PrintWords
end Go.Proofs.YtecnfekcflfihaaW.PrintWords
end
section
namespace Go.Proofs.YtecnfekcflfihaaW.PrintWords
end Go.Proofs.YtecnfekcflfihaaW.PrintWords
namespace Kd
end Kd
end
section
namespace Go.Proofs.YtecnfekcflfihaaW.PrintMore
open Go.RowKit Go.Proofs.YtecnfekcflfihaaW.PrintWords
namespace Kd
open Go.Proofs.YtecnfekcflfihaaW.PrintWords.Kd
end Kd
namespace Kd
open Go.Proofs.YtecnfekcflfihaaW.PrintWords.Kd
section
variable {α : Type} {d : Kd α} {e base g N : Nat} {ok : Nat → Prop} {W w1 : World} {u v : Value} {xs : List α}
end
end Kd
end Go.Proofs.YtecnfekcflfihaaW.PrintMore
namespace Go.Proofs.YtecnfekcflfihaaW.PrintWords
open Go.RowKit
section
variable {P : Program} {ops : Array Oper} {rest : List Oper} {o : Oper} {a : Act} {Q : Exit → Act → World → Prop} {W : World}
end
/-- The greater of two whole numbers, as Go's max tells it. -/
def mx (a b : Int) : Int := if a < b then b else a
/-- A shift to the left, as Go tells it: a count beyond the width leaves nothing. -/
def shl (k : IntKind) (x y : Int) : Int := k.wrap (x * 2 ^ min y.toNat k.bits)
/-- A shift to the right: a count beyond the width leaves the sign. -/
def shr (k : IntKind) (x y : Int) : Int := x / 2 ^ min y.toNat k.bits
namespace Kd
section
variable {α : Type} {d : Kd α} {e base : Nat} {ok : Nat → Prop} {W w1 : World} {v : Value} {xs : List α}
end
section
variable {α : Type} {d : Kd α} {e base g n cap : Nat} {ok oki okp : Nat → Prop} {W : World} {xs : List α} {i : Int} {c : List Value}
end
section
variable {α : Type} {d : Kd α} {e base b b' g N : Nat} {ok ok1 : Nat → Prop} {W W2 w1 : World} {u v : Value} {xs ys : List α} {S : Nat → Prop}
end
end Kd
end Go.Proofs.YtecnfekcflfihaaW.PrintWords
namespace Go.Proofs.YtecnfekcflfihaaW.PrintWords
open Go.RowKit
namespace Kd
section
variable {α β : Type} {d : Kd α} {e base base' n m c g N' lo hi : Nat} {ok ok' S : Nat → Prop} {w W w1 : World} {A : Option Addr} {ad : Addr} {u v v1 : Value} {xs : List α}
end
end Kd
end Go.Proofs.YtecnfekcflfihaaW.PrintWords
end
section
namespace Go.Proofs.Ytecnfekcflfihaa.CK
open Go.RowKit Go.Proofs.YtecnfekcflfihaaW.PrintWords Go.Proofs.YtecnfekcflfihaaW.PrintLast Go.Proofs.YtecnfekcflfihaaW.PrintMore
set_option linter.unusedVariables false
structure S34 where
  f0 : Int
  f1 : Int
  f2 : Bool
  f3 : (List Int)
  f4 : Bool
  f5 : (List Int)
def k34 : Kd S34 := Kd.iso (Kd.pair (Kd.int .i64) (Kd.pair (Kd.int .i64) (Kd.pair Kd.bool (Kd.pair (Kd.slice 5 (Kd.int .u8)) (Kd.pair Kd.bool (Kd.slice 5 (Kd.int .u8))))))) (fun x : S34 => (x.f0, x.f1, x.f2, x.f3, x.f4, x.f5))
structure S46 where
  f0 : Int
  f1 : Int
  f2 : Int
  f3 : Int
  f4 : Int
  f5 : (List S34)
def z46 : S46 := ⟨(0 : Int), (0 : Int), (0 : Int), (0 : Int), (0 : Int), ([] : List S34)⟩
def k46 : Kd S46 := Kd.iso (Kd.pair (Kd.int .i64) (Kd.pair (Kd.int .i64) (Kd.pair (Kd.int .i64) (Kd.pair (Kd.int .i64) (Kd.pair (Kd.int .i64) (Kd.slice 34 k34)))))) (fun x : S46 => (x.f0, x.f1, x.f2, x.f3, x.f4, x.f5))
structure S24 where
  f0 : Int
  f1 : Int
  f2 : Int
  f3 : Int
  f4 : Int
  f5 : Bool
  f6 : Int
  f7 : Int
  f8 : Bool
def z24 : S24 := ⟨(0 : Int), (0 : Int), (0 : Int), (0 : Int), (0 : Int), false, (0 : Int), (0 : Int), false⟩
def k24 : Kd S24 := Kd.iso (Kd.pair (Kd.int .i64) (Kd.pair (Kd.int .i64) (Kd.pair (Kd.int .i64) (Kd.pair (Kd.int .i64) (Kd.pair (Kd.int .i64) (Kd.pair Kd.bool (Kd.pair (Kd.int .i64) (Kd.pair (Kd.int .i64) Kd.bool)))))))) (fun x : S24 => (x.f0, x.f1, x.f2, x.f3, x.f4, x.f5, x.f6, x.f7, x.f8))
theorem k24_open {w : World} {x : S24} {cs : List Value} (h : k24.K w x cs) : cs = [.int .i64 x.f0, .int .i64 x.f1, .int .i64 x.f2, .int .i64 x.f3, .int .i64 x.f4, .bool x.f5, .int .i64 x.f6, .int .i64 x.f7, .bool x.f8] := by
  obtain ⟨_, _, rfl, rfl, ⟨_, _, rfl, rfl, ⟨_, _, rfl, rfl, ⟨_, _, rfl, rfl, ⟨_, _, rfl, rfl, ⟨_, _, rfl, rfl, ⟨_, _, rfl, rfl, ⟨_, _, rfl, rfl, rfl⟩⟩⟩⟩⟩⟩⟩⟩ := h
  exact rfl
structure S103 where
  f0 : (List Int)
  f1 : (List Int)
  f2 : Int
end Go.Proofs.Ytecnfekcflfihaa.CK
end
section
namespace Go.Proofs.Ytecnfekcflfihaa.CL
open Go.Proofs.Ytecnfekcflfihaa.H Go.RowKit Go.Proofs.YtecnfekcflfihaaW.PrintWords Go.Proofs.Ytecnfekcflfihaa.CK
set_option linter.unusedVariables false
theorem br_congr {α : Type} {d : Kd α} {e e' : α → List HV} (h : Br d e) (he : ∀ x, e x = e' x) : Br d e' := by
  have : e = e' := funext he
  rw [← this]; exact h
theorem flat_bl (l : List Int) : l.flatMap (fun n => ([.lit (.int .u8 n)] : List HV)) = bl l := by
  induction l with
  | nil => rfl
  | cons x r ih => simp only [List.flatMap_cons, ih]; rfl
def toRec (x : S34) : Rec := ⟨x.f0, x.f1, x.f2, some x.f3, x.f4, some x.f5⟩
def toBat (x : S46) : Bat := ⟨x.f0, x.f1, x.f2, x.f3, x.f4, some (x.f5.map toRec)⟩
def toSeg (x : List S46) : Seg := some (x.map toBat)
theorem br34 : Br k34 (fun x => recC (toRec x)) := by
  refine br_congr (Br.iso (Br.pair (Br.int .i64) (Br.pair (Br.int .i64) (Br.pair Br.bool (Br.pair (Br.slice 5 (Br.int .u8)) (Br.pair Br.bool (Br.slice 5 (Br.int .u8))))))) (fun x : S34 => (x.f0, x.f1, x.f2, x.f3, x.f4, x.f5))) ?_
  intro x
  simp only [flat_bl]
  rfl
theorem flat_map {α β γ : Type} (l : List α) (f : α → β) (g : β → List γ) : (l.map f).flatMap g = l.flatMap fun x => g (f x) := List.flatMap_map f g l
theorem br46 : Br k46 (fun x => batC (toBat x)) := by
  refine br_congr (Br.iso (Br.pair (Br.int .i64) (Br.pair (Br.int .i64) (Br.pair (Br.int .i64) (Br.pair (Br.int .i64) (Br.pair (Br.int .i64) (Br.slice 34 br34)))))) (fun x : S46 => (x.f0, x.f1, x.f2, x.f3, x.f4, x.f5))) ?_
  intro x
  have e1 : recsC (x.f5.map toRec) = x.f5.flatMap fun x => recC (toRec x) := flat_map _ _ _
  have e2 : (x.f5.map toRec).length = x.f5.length := List.length_map ..
  have e : recsV (some (x.f5.map toRec)) = .list 6 x.f5.length (x.f5.flatMap fun x => recC (toRec x)) false := by simp only [recsV, e1, e2]
  show _ = [HV.lit (.int .i64 x.f0), .lit (.int .i64 x.f1), .lit (.int .i64 x.f2), .lit (.int .i64 x.f3), .lit (.int .i64 x.f4), recsV (some (x.f5.map toRec))]
  rw [e]
  rfl
theorem brSeg : Br (Kd.slice 46 k46) (fun x => segC (toSeg x)) := by
  refine br_congr (Br.slice 46 br46) ?_
  intro x
  have e1 : batsC (x.map toBat) = x.flatMap fun x => batC (toBat x) := flat_map _ _ _
  have e2 : (x.map toBat).length = x.length := List.length_map ..
  have e : batsV (some (x.map toBat)) = .list 6 x.length (x.flatMap fun x => batC (toBat x)) false := by simp only [batsV, e1, e2]
  show _ = [batsV (some (x.map toBat))]
  rw [e]
  rfl
theorem repSegs {w : World} {A : Option Addr} {c : Nat} {l : List (List S46)} (hr : Kd.C (Kd.slice 46 k46) w A l.length l) (hc : l.length ≤ c) : Rep (m0 w) (rowL segC 1 (l.map toSeg)) (.slice A l.length c) := by
  have := brSeg.row hr hc
  have e1 : rows segC (l.map toSeg) = l.flatMap fun x => segC (toSeg x) := flat_map _ _ _
  have e2 : (l.map toSeg).length = l.length := List.length_map ..
  unfold rowL
  rw [e1, e2]
  exact this
theorem repCfg (m : M) (c : Cfg) : Rep m (.agg (cfgC c)) (.agg #[.int .i64 c.n0, .int .i64 c.n1, .int .i64 c.n2, .int .i64 c.n3, .int .i64 c.n4, .bool c.b5, .int .i64 c.grace, .int .i64 c.mm, .bool c.b8]) := by
  refine .agg _ _ ?_ rfl ?_
  · intro x hx
    simp only [cfgC, List.mem_cons, List.not_mem_nil, or_false] at hx
    rcases hx with rfl | rfl | rfl | rfl | rfl | rfl | rfl | rfl | rfl <;> rfl
  · intro j x hj
    rcases j with _ | _ | _ | _ | _ | _ | _ | _ | _ | j <;> simp [cfgC] at hj <;> subst hj <;> exact .lit _
theorem inBat_of (x : S46) (h : x.f5.length ≤ maxLen) : InBat (toBat x) := ⟨x.f5.map toRec, rfl, by rw [List.length_map]; exact h, fun y hy => by obtain ⟨z, -, rfl⟩ := List.mem_map.1 hy; exact ⟨_, _, rfl, rfl⟩⟩
theorem inSegs_of (l0 : List (List S46)) (q0 : ∀ x ∈ l0, x.length ≤ maxLen ∧ ∀ y ∈ x, y.f5.length ≤ maxLen) : ∀ x ∈ l0.map toSeg, InSeg x := by
  intro x hx
  obtain ⟨y, hy, rfl⟩ := List.mem_map.1 hx
  refine ⟨y.map toBat, rfl, by rw [List.length_map]; exact (q0 y hy).1, fun b hb => ?_⟩
  obtain ⟨z, hz, rfl⟩ := List.mem_map.1 hb
  exact inBat_of z ((q0 y hy).2 z hz)
end Go.Proofs.Ytecnfekcflfihaa.CL
end
section
namespace Go.Proofs.Ytecnfekcflfihaa.FVW
open Go.Proofs.Ytecnfekcflfihaa.H Go.RowKit Go.Proofs.YtecnfekcflfihaaW.PrintWords Go.Proofs.YtecnfekcflfihaaW.PrintLast Go.Proofs.YtecnfekcflfihaaW.PrintMore Go.Proofs.Ytecnfekcflfihaa.CK
set_option linter.unusedVariables false
theorem repInts {w : World} {A : Option Addr} {c : Nat} {l : List Int} (hr : Kd.C (Kd.int .i64) w A l.length l) (hc : l.length ≤ c) : Rep (m0 w) (CL.intsV l) (.slice A l.length c) := by
  have := (Br.int .i64).row hr hc
  have e : l.flatMap (fun n => ([.lit (.int .i64 n)] : List HV)) = l.map fun n => .lit (.int .i64 n) := by
    clear this hr hc
    induction l with
    | nil => rfl
    | cons x r ih => simp only [List.flatMap_cons, ih]; rfl
  rw [e] at this
  exact this
theorem cleanFolds_walk (A0 : Option Addr) (c0 : Nat) (l0 : List (List (S46))) (a1_0 : Int) (a1_1 : Int) (a1_2 : Int) (a1_3 : Int) (a1_4 : Int) (a1_5 : Bool) (a1_6 : Int) (a1_7 : Int) (a1_8 : Bool) (A2 : Option Addr) (c2 : Nat) (l2 : List Int) (w : World) (hc0 : l0.length ≤ c0) (hr0 : Kd.C (Kd.slice 46 k46) w A0 l0.length l0) (hc2 : l2.length ≤ c2) (hr2 : Kd.C (Kd.int .i64) w A2 l2.length l2) (q0 : (l0.length ≤ maxLen ∧ ∀ x_ ∈ l0, (x_.length ≤ maxLen ∧ ∀ x__ ∈ x_, ((Lit.int .i64 x__.f0).wf = true ∧ (Lit.int .i64 x__.f1).wf = true ∧ (Lit.int .i64 x__.f2).wf = true ∧ (Lit.int .i64 x__.f3).wf = true ∧ (Lit.int .i64 x__.f4).wf = true ∧ (x__.f5.length ≤ maxLen ∧ ∀ x___ ∈ x__.f5, ((Lit.int .i64 x___.f0).wf = true ∧ (Lit.int .i64 x___.f1).wf = true ∧ True ∧ (x___.f3.length ≤ maxLen ∧ ∀ x____ ∈ x___.f3, (Lit.int .u8 x____).wf = true) ∧ True ∧ (x___.f5.length ≤ maxLen ∧ ∀ x____ ∈ x___.f5, (Lit.int .u8 x____).wf = true))))))) (q1 : ((Lit.int .i64 ((⟨a1_0, a1_1, a1_2, a1_3, a1_4, a1_5, a1_6, a1_7, a1_8⟩ : S24).f0)).wf = true ∧ (Lit.int .i64 ((⟨a1_0, a1_1, a1_2, a1_3, a1_4, a1_5, a1_6, a1_7, a1_8⟩ : S24).f1)).wf = true ∧ (Lit.int .i64 ((⟨a1_0, a1_1, a1_2, a1_3, a1_4, a1_5, a1_6, a1_7, a1_8⟩ : S24).f2)).wf = true ∧ (Lit.int .i64 ((⟨a1_0, a1_1, a1_2, a1_3, a1_4, a1_5, a1_6, a1_7, a1_8⟩ : S24).f3)).wf = true ∧ (Lit.int .i64 ((⟨a1_0, a1_1, a1_2, a1_3, a1_4, a1_5, a1_6, a1_7, a1_8⟩ : S24).f4)).wf = true ∧ True ∧ (Lit.int .i64 ((⟨a1_0, a1_1, a1_2, a1_3, a1_4, a1_5, a1_6, a1_7, a1_8⟩ : S24).f6)).wf = true ∧ (Lit.int .i64 ((⟨a1_0, a1_1, a1_2, a1_3, a1_4, a1_5, a1_6, a1_7, a1_8⟩ : S24).f7)).wf = true ∧ True)) (q2 : (l2.length ≤ maxLen ∧ ∀ x_ ∈ l2, (Lit.int .i64 x_).wf = true)) :
    Calls Try.prog 12 #[.slice A0 l0.length c0, .agg #[.int .i64 a1_0, .int .i64 a1_1, .int .i64 a1_2, .int .i64 a1_3, .int .i64 a1_4, .bool a1_5, .int .i64 a1_6, .int .i64 a1_7, .bool a1_8], .slice A2 l2.length c2] w fun e w' => e = .returned (.bool true) ∧ Below w.heap.size w w' := by
  refine law_of (CL.cleanFolds_law (l0.map CL.toSeg) ⟨a1_0, a1_1, a1_2, a1_3, a1_4, a1_5, a1_6, a1_7, a1_8⟩ l2 s0 (by rw [List.length_map]; exact q0.1) (CL.inSegs_of l0 fun x hx => ⟨(q0.2 x hx).1, fun y hy => ((q0.2 x hx).2 y hy).2.2.2.2.2.1⟩) q2.1) rfl ?_
  intro j x hj
  rcases j with _ | _ | _ | j <;> simp at hj
  · subst hj; exact CL.repSegs hr0 hc0
  · subst hj; exact CL.repCfg _ _
  · subst hj; exact repInts hr2 hc2
end Go.Proofs.Ytecnfekcflfihaa.FVW
end
section
namespace Go.Proofs.YtecnfekcflfihaaW.Opens
open Go.RowKit Go.WideShapes Go.Proofs.YtecnfekcflfihaaW.PrintWords
/-- Whatever can be read as a value of type t is a value of kind d, of which Q holds. -/
def Opens (P : Program) (t : TypeId) {α : Type} (d : Kd α) (Q : α → Prop) : Prop :=
  ∀ {H : Type} (enc : TypeId × Value → H) (w : World) (base : Nat) (spare : Nat → Bool) (held : Bool) (fuel : Nat) (cs : List Value) (x : DataW H × List MemPlace),
    DataW.trod enc P w base spare held fuel t cs = some x → ∃ a : α, d.K w a cs ∧ Q a
variable {P : Program} {α β : Type}
theorem opens_int {t : TypeId} {k : IntKind} (ht : P.underlying t = some (.int k)) : Opens P t (Kd.int k) (fun n => (Lit.int k n).wf = true) := by
  intro H enc w base spare held fuel cs x h
  obtain ⟨n, rfl, _, hw⟩ := DataW.trod_int ht h
  exact ⟨n, rfl, hw⟩
theorem opens_bool {t : TypeId} (ht : P.underlying t = some .bool) : Opens P t Kd.bool (fun _ => True) := by
  intro H enc w base spare held fuel cs x h
  obtain ⟨b, rfl, _⟩ := DataW.trod_bool ht h
  exact ⟨b, rfl, trivial⟩
theorem add_of_add (a : Addr) (i j : Nat) : (a.add i).add j = a.add (i + j) := by
  unfold Addr.add
  by_cases hi : i = 0 <;> by_cases hj : j = 0 <;> simp [hi, hj, Nat.add_assoc]
theorem opens_slice {t e : TypeId} (n : Nat) (ht : P.underlying t = some (.slice e)) {d : Kd α} {Q : α → Prop} (hs : P.cellsOf e = d.sz) (he : Opens P e d Q) :
    Opens P t (Kd.slice n d) (fun l => l.length ≤ maxLen ∧ ∀ x ∈ l, Q x) := by
  intro H enc w base spare held fuel cs x h
  rcases DataW.trod_slice ht h with ⟨rfl, _⟩ | ⟨a, len, cap, elems, rest, n', _, rfl, _, _, hl, hm, hlen, hel, _, _⟩
  · exact ⟨[], ⟨none, 0, rfl, Nat.le_refl _, Kd.C_nil _ _⟩, by simp, fun x hx => by simp at hx⟩
  · have each : ∀ i : Fin len, ∃ (x : α) (c : List Value), d.K w x c ∧ Q x ∧ ∀ j u, c[j]? = some u → w.cell? (a.add (i.val * d.sz + j)) = some u := by
      intro i
      have h1 := hel i.val i.isLt
      rw [List.getElem?_eq_getElem (by omega), Option.bind_eq_some_iff] at h1
      obtain ⟨c, hc, hy⟩ := h1
      obtain ⟨x, hK, hQ⟩ := he enc w base spare held n' c _ hy
      obtain ⟨_, hcl, hcc⟩ := World.cells?_some hc
      refine ⟨x, c, hK, hQ, fun j u hu => ?_⟩
      have hj : j < c.length := by
        rcases Nat.lt_or_ge j c.length with hlt | hge
        · exact hlt
        · rw [List.getElem?_eq_none hge] at hu; cases hu
      have := hcc j (by omega)
      rw [add_of_add, hs] at this
      rw [this, hu]
    let f : Fin len → α := fun i => Classical.choose (each i)
    have hf : ∀ i : Fin len, ∃ c : List Value, d.K w (f i) c ∧ Q (f i) ∧ ∀ j u, c[j]? = some u → w.cell? (a.add (i.val * d.sz + j)) = some u := fun i => Classical.choose_spec (each i)
    have hlen' : (List.ofFn f).length = len := List.length_ofFn
    have hget : ∀ j p, (List.ofFn f)[j]? = some p → ∃ hj : j < len, p = f ⟨j, hj⟩ := by
      intro j p hp
      have hj : j < len := by
        rcases Nat.lt_or_ge j len with hlt | hge
        · exact hlt
        · rw [List.getElem?_eq_none (by omega)] at hp; cases hp
      rw [List.getElem?_eq_getElem (by omega), List.getElem_ofFn] at hp
      exact ⟨hj, (Option.some.inj hp).symm⟩
    refine ⟨List.ofFn f, ⟨some a, cap, by rw [hlen'], by omega, hlen'.symm ▸ ?_⟩, by omega, ?_⟩
    · refine ⟨hlen', ?_, fun _ => ⟨a, rfl, fun j p hp => ?_⟩⟩
      · unfold maxLen at hm; omega
      · obtain ⟨hj, rfl⟩ := hget j p hp
        obtain ⟨c, hK, _, hc⟩ := hf ⟨j, hj⟩
        exact ⟨c, d.K_len hK, hK, fun i u hu => hc i u hu⟩
    · intro x hx
      obtain ⟨j, hj⟩ := List.getElem?_of_mem hx
      obtain ⟨hj', rfl⟩ := hget j x hj
      exact (hf ⟨j, hj'⟩).choose_spec.2.1
/-- The fields of a struct from the one at offset o on. -/
def OpensF (P : Program) (o : Nat) (fs : List Field) (d : Kd α) (Q : α → Prop) : Prop :=
  ∀ {H : Type} (enc : TypeId × Value → H) (w : World) (base : Nat) (spare : Nat → Bool) (held : Bool) (fuel : Nat) (cs : List Value),
    (∀ f ∈ fs, ∃ x, DataW.trod enc P w base spare held fuel f.type ((cs.drop f.offset).take (P.cellsOf f.type)) = some x) → cs.length = o + d.sz → ∃ a : α, d.K w a (cs.drop o) ∧ Q a
theorem opensF_one {o : Nat} {f : Field} {d : Kd α} {Q : α → Prop} (ho : f.offset = o) (hs : P.cellsOf f.type = d.sz) (h : Opens P f.type d Q) : OpensF P o [f] d Q := by
  intro H enc w base spare held fuel cs hx hl
  obtain ⟨x, hx⟩ := hx f (by simp)
  rw [ho, hs, List.take_of_length_le (by simp; omega)] at hx
  exact h enc w base spare held fuel _ x hx
theorem opensF_cons {o : Nat} {f : Field} {fs : List Field} {d : Kd α} {d' : Kd β} {Q : α → Prop} {Q' : β → Prop} (ho : f.offset = o) (hs : P.cellsOf f.type = d.sz) (h : Opens P f.type d Q) (hr : OpensF P (o + d.sz) fs d' Q') :
    OpensF P o (f :: fs) (Kd.pair d d') (fun x => Q x.1 ∧ Q' x.2) := by
  intro H enc w base spare held fuel cs hx hl
  have hl' : cs.length = o + (d.sz + d'.sz) := hl
  obtain ⟨x, hx1⟩ := hx f (by simp)
  rw [ho, hs] at hx1
  obtain ⟨a, ha, hq⟩ := h enc w base spare held fuel _ x hx1
  obtain ⟨b, hb, hq'⟩ := hr enc w base spare held fuel cs (fun g hg => hx g (by simp [hg])) (by omega)
  refine ⟨(a, b), ⟨_, _, ?_, ha, hb⟩, hq, hq'⟩
  rw [← List.drop_drop, List.take_append_drop]
theorem opens_struct {t : TypeId} {fs : Array Field} (ht : P.underlying t = some (.struct fs)) {d : Kd α} {Q : α → Prop} (hs : P.cellsOf t = d.sz) (h : OpensF P 0 fs.toList d Q) : Opens P t d Q := by
  intro H enc w base spare held fuel cs x hx
  obtain ⟨xs, n, _, _, hl, hxl, hf⟩ := DataW.trod_struct ht hx
  obtain ⟨a, ha, hq⟩ := h enc w base spare held n cs (fun f hm => by
    obtain ⟨i, hi⟩ := List.getElem?_of_mem hm
    have hi' : fs[i]? = some f := by rw [← hi, Array.getElem?_toList]
    have hlt : i < fs.size := by
      rcases Nat.lt_or_ge i fs.size with hlt | hge
      · exact hlt
      · rw [Array.getElem?_eq_none hge] at hi'; cases hi'
    rw [hf i f hi']
    exact ⟨_, List.getElem?_eq_getElem (by omega)⟩) (by omega)
  exact ⟨a, ha, hq⟩
theorem opens_iso {t : TypeId} {d : Kd α} {Q : α → Prop} (f : β → α) (g : α → β) (hg : ∀ a, f (g a) = a) (h : Opens P t d Q) : Opens P t (Kd.iso d f) (fun b => Q (f b)) := by
  intro H enc w base spare held fuel cs x hx
  obtain ⟨a, ha, hq⟩ := h enc w base spare held fuel cs x hx
  exact ⟨g a, (show d.K w (f (g a)) cs by rw [hg]; exact ha), (show Q (f (g a)) by rw [hg]; exact hq)⟩
/-- A parameter that is a slice. -/
theorem open_slice {t e : TypeId} {n : Nat} {d : Kd α} {Q : List α → Prop} (ht : P.underlying t = some (.slice e)) (h : Opens P t (Kd.slice n d) Q) {H : Type} {enc : TypeId × Value → H} {w : World} {base base' : Nat} {spare : Nat → Bool} {held : Bool} {r : Reach} {v : Value} {x : DataW H} {ps : List MemPlace}
    (hv : Value.okWide P w r base' t v) (hx : DataW.Trod enc P w base spare held t v x ps) : ∃ (A : Option Addr) (c : Nat) (l : List α), v = .slice A l.length c ∧ l.length ≤ c ∧ d.C w A l.length l ∧ Q l := by
  obtain ⟨a, len, cap, rfl⟩ := okWide_slice ht hv
  obtain ⟨fuel, hf⟩ := hx
  obtain ⟨l, ⟨A, c, hc, hl, hC⟩, hQ⟩ := h enc w base spare held fuel _ _ hf
  have : (Value.slice a len cap) = .slice A l.length c := by simpa [Value.cells] using hc
  exact ⟨A, c, l, this, hl, hC, hQ⟩
/-- A parameter that is a struct. -/
theorem open_struct {t : TypeId} {fs : Array Field} {d : Kd α} {Q : α → Prop} (ht : P.underlying t = some (.struct fs)) (h : Opens P t d Q) {H : Type} {enc : TypeId × Value → H} {w : World} {base base' : Nat} {spare : Nat → Bool} {held : Bool} {r : Reach} {v : Value} {x : DataW H} {ps : List MemPlace}
    (hv : Value.okWide P w r base' t v) (hx : DataW.Trod enc P w base spare held t v x ps) : ∃ (cs : List Value) (a : α), v = .agg cs.toArray ∧ d.K w a cs ∧ Q a := by
  simp only [Value.okWide, ht] at hv
  obtain ⟨cs, rfl, _, _⟩ := hv
  obtain ⟨fuel, hf⟩ := hx
  obtain ⟨a, hK, hQ⟩ := h enc w base spare held fuel _ _ hf
  exact ⟨cs.toList, a, by simp, hK, hQ⟩
end Go.Proofs.YtecnfekcflfihaaW.Opens
end
