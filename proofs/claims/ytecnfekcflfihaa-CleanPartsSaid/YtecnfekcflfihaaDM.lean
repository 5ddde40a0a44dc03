/- What a log may be, over the H layer: batches that may be. -/
import Derived.Test.YtecnfekcflfihaaCN
import Derived.Test.YtecnfekcflfihaaC4
import Derived.Test.YtecnfekcflfihaaC5
/- What a log may be, over the H layer: batches that may be. -/
namespace Go.Proofs.Ytecnfekcflfihaa.CL
open Go.Proofs.Ytecnfekcflfihaa.H Go.Proofs.Ytecnfekcflfihaa.C1
set_option linter.unusedVariables false
set_option linter.unusedSimpArgs false
set_option maxRecDepth 100000
/-- What a record may be, behind one with an offset. -/
structure OkRec (b : Bat) (last : Int) (r : Rec) : Prop where
  lo : b.base ≤ r.off
  hi : r.off ≤ b.last
  up : last < r.off
  t0 : 0 ≤ r.time
  t1 : r.time ≤ 1125899906842624
  nk : r.hasKey = false → (r.key.getD []).length = 0
  nv : r.hasVal = false → (r.val.getD []).length = 0
  k : (r.key.getD []).length ≤ 200
  v : (r.val.getD []).length ≤ 2000
theorem checkRecord {s : HS} (r : Rec) (b : Bat) (last : Int) : HC Try.prog 69 [.agg (recC r), .agg (batC b), .lit (.int .i64 last)] s (fun v s' => s' = s ∧ ∃ e, v = .lit (.int .i64 e) ∧ (e = 0 → OkRec b last r)) := by
  refine HC.weaken (HC69 ?_)
  obtain ⟨off, time, hk, key, hv, val⟩ := r
  simp only [c69, hBox, hc_agg, recC, batC]
  intro p hp q hq
  have hpq := ne_new (set_at s p _) hq
  have htq := set_at (s.set p (.cells [.lit (.int .i64 off), .lit (.int .i64 time), .lit (.bool hk), byV key, .lit (.bool hv), byV val])) q (.cells [.lit (.int .i64 b.base), .lit (.int .i64 b.last), .lit (.int .i64 b.prod), .lit (.int .i64 b.epoch), .lit (.int .i64 b.seq), recsV b.recs])
  have htp : ((s.set p (.cells [.lit (.int .i64 off), .lit (.int .i64 time), .lit (.bool hk), byV key, .lit (.bool hv), byV val])).set q (.cells [.lit (.int .i64 b.base), .lit (.int .i64 b.last), .lit (.int .i64 b.prod), .lit (.int .i64 b.epoch), .lit (.int .i64 b.seq), recsV b.recs])) p = some (.cells [.lit (.int .i64 off), .lit (.int .i64 time), .lit (.bool hk), byV key, .lit (.bool hv), byV val]) := by rw [set_ne _ _ hpq, set_at]
  have hst : HS.le s ((s.set p (.cells [.lit (.int .i64 off), .lit (.int .i64 time), .lit (.bool hk), byV key, .lit (.bool hv), byV val])).set q (.cells [.lit (.int .i64 b.base), .lit (.int .i64 b.last), .lit (.int .i64 b.prod), .lit (.int .i64 b.epoch), .lit (.int .i64 b.seq), recsV b.recs])) := le_set_new _ (le_set_new _ (le_refl' s) hp) hq
  generalize ((s.set p (.cells [.lit (.int .i64 off), .lit (.int .i64 time), .lit (.bool hk), byV key, .lit (.bool hv), byV val])).set q (.cells [.lit (.int .i64 b.base), .lit (.int .i64 b.last), .lit (.int .i64 b.prod), .lit (.int .i64 b.epoch), .lit (.int .i64 b.seq), recsV b.recs])) = t at *
  have hfin : ∀ e : Int, (e = 0 → OkRec b last ⟨off, time, hk, key, hv, val⟩) → ∃ s'', HS.le s'' t ∧ s'' = s ∧ ∃ e', HV.lit (.int .i64 e) = .lit (.int .i64 e') ∧ (e' = 0 → OkRec b last ⟨off, time, hk, key, hv, val⟩) := fun e h => ⟨s, hst, rfl, e, rfl, h⟩
  have bad : ∀ e : Int, e ≠ 0 → ∃ s'', HS.le s'' t ∧ s'' = s ∧ ∃ e', HV.lit (.int .i64 e) = .lit (.int .i64 e') ∧ (e' = 0 → OkRec b last ⟨off, time, hk, key, hv, val⟩) := fun e h => hfin e fun h0 => absurd h0 h
  clear hpq hp hq
  simp only [bindO, hcond, vCmp, vBin, vEq, vUn, vNil, vField, vLoad, takeCells, vExtract, hNew, hStore, hBox, hc_int, hc_bool, hc_string, hc_slice, hc_nilp, hc_nilm, hc_nilf, hc_agg, hc_list, hc_view, hc_ptr, hc_map, hc_func, ho_int, ho_bool, ho_string, ho_slice, ho_nilp, ho_nilm, ho_nilf, ho_list, ho_view, ho_ptr, ho_map, ho_func, putCells, vMk, set_at, Join, vToInt, bits64, bits64u, bits8, htp, htq, len_by, List.getElem?_cons_zero, List.getElem?_cons_succ, Nat.zero_add, Bool.false_eq_true, if_false, if_true, List.headD_cons, Option.map_some]
  by_cases h1 : off < b.base
  · simp only [h1, decide_true]; exact bad 1 (by omega)
  by_cases h2 : off > b.last
  · simp only [h1, h2, decide_true, decide_false]; exact bad 1 (by omega)
  by_cases h3 : off ≤ last
  · simp only [h1, h2, h3, decide_true, decide_false]; exact bad 1 (by omega)
  by_cases h4 : time < 0
  · simp only [h1, h2, h3, h4, decide_true, decide_false]; exact bad 1 (by omega)
  by_cases h5 : time > 1125899906842624
  · simp only [h1, h2, h3, h4, h5, decide_true, decide_false]; exact bad 1 (by omega)
  simp only [h1, h2, h3, h4, h5, decide_false]
  have key_ : hk = false → ((key.getD []).length : Int) > 0 → (match HV.lit (.bool (!hk)) with | .lit (.bool true) => True | _ => False) := by rintro rfl _; trivial
  have fin : (hk = false → ¬ ((key.getD []).length : Int) > 0) → (hv = false → ¬ ((val.getD []).length : Int) > 0) → ¬ ((key.getD []).length : Int) > 200 → ¬ ((val.getD []).length : Int) > 2000 → OkRec b last ⟨off, time, hk, key, hv, val⟩ := by
    intro g1 g2 g3 g4
    exact ⟨by show b.base ≤ off; omega, by show off ≤ b.last; omega, by show last < off; omega, by show 0 ≤ time; omega, by show time ≤ _; omega, fun h => by have := g1 h; show (key.getD []).length = 0; omega, fun h => by have := g2 h; show (val.getD []).length = 0; omega, by show (key.getD []).length ≤ 200; omega, by show (val.getD []).length ≤ 2000; omega⟩
  cases hk <;> cases hv <;> simp only [Bool.not_true, Bool.not_false]
  all_goals
    by_cases k1 : ((key.getD []).length : Int) > 0 <;> by_cases v1 : ((val.getD []).length : Int) > 0 <;> by_cases k2 : ((key.getD []).length : Int) > 200 <;> by_cases v2 : ((val.getD []).length : Int) > 2000 <;>
      simp only [k1, v1, k2, v2, decide_true, decide_false] <;>
      first
      | exact bad 1 (by omega)
      | exact bad 3 (by omega)
      | exact hfin 0 fun _ => fin (by first | exact fun _ => k1 | exact fun h => by cases h) (by first | exact fun _ => v1 | exact fun h => by cases h) k2 v2
      | (exfalso; omega)
/-- What a batch may be. -/
structure OkBat (b : Bat) (l : List Rec) : Prop where
  b0 : 0 ≤ b.base
  b1 : b.base ≤ b.last
  l1 : b.last ≤ 4611686018427387904
  n : l.length ≤ 100
  prod : 0 ≤ b.prod
  seq : 0 ≤ b.seq
  recs : ∀ i, i < l.length → OkRec b (if i = 0 then -1 else (l.getD (i - 1) r0).off) (l.getD i r0)
theorem okRec_short {b : Bat} {last : Int} {r : Rec} (h : OkRec b last r) : (r.key.getD []).length ≤ 1000 ∧ (r.val.getD []).length ≤ 10000 := ⟨Nat.le_trans h.k (by omega), Nat.le_trans h.v (by omega)⟩
theorem check {s : HS} (b : Bat) (l : List Rec) (hb : b.recs = some l) : HC Try.prog 45 [.agg (batC b)] s (fun v s' => s' = s ∧ ∃ e, v = .lit (.int .i64 e) ∧ (e = 0 → OkBat b l)) := by
  refine HC.weaken (HC45 ?_)
  obtain ⟨c0, c1, c2, c3, c4, recs⟩ := b
  simp only at hb
  subst hb
  simp only [c45, hBox, hc_agg, batC]
  intro p hp
  have htp := set_at s p (.cells (batC ⟨c0, c1, c2, c3, c4, some l⟩))
  have hst := le_set_new (.cells (batC ⟨c0, c1, c2, c3, c4, some l⟩)) (le_refl' s) hp
  simp only [batC] at htp hst
  generalize s.set p (.cells [.lit (.int .i64 c0), .lit (.int .i64 c1), .lit (.int .i64 c2), .lit (.int .i64 c3), .lit (.int .i64 c4), recsV (some l)]) = t at *
  have hfin : ∀ (t' : HS) (e : Int), HS.le t t' → (e = 0 → OkBat ⟨c0, c1, c2, c3, c4, some l⟩ l) → ∃ s'', HS.le s'' t' ∧ s'' = s ∧ ∃ e', HV.lit (.int .i64 e) = .lit (.int .i64 e') ∧ (e' = 0 → OkBat ⟨c0, c1, c2, c3, c4, some l⟩ l) := fun t' e h0 h => ⟨s, HS.le.trans hst h0, rfl, e, rfl, h⟩
  have bad : ∀ e : Int, e ≠ 0 → ∃ s'', HS.le s'' t ∧ s'' = s ∧ ∃ e', HV.lit (.int .i64 e) = .lit (.int .i64 e') ∧ (e' = 0 → OkBat ⟨c0, c1, c2, c3, c4, some l⟩ l) := fun e h => hfin t e (le_refl' t) fun h0 => absurd h0 h
  have hlen : ∀ t, vLenT (Try.prog.underlying 44) t (recsV (some l)) = some (.lit (.int .i64 l.length)) := fun t => rfl
  clear hp
  refine Join.of (fun xs s' => s' = t ∧ ∃ g : Bool, xs = [.lit (.bool g)] ∧ (g = false → 0 ≤ c0 ∧ c0 ≤ c1 ∧ c1 ≤ 4611686018427387904 ∧ 0 ≤ c2 ∧ 0 ≤ c4)) ?_ ?_
  rotate_left
  · intro K hK
    have kt : K [.lit (.bool true)] t := hK _ _ ⟨rfl, true, rfl, by simp⟩
    simp only [bindO, hcond, vCmp, vBin, vEq, vUn, vNil, vField, vLoad, takeCells, vExtract, hNew, hStore, hBox, hc_int, hc_bool, hc_string, hc_slice, hc_nilp, hc_nilm, hc_nilf, hc_agg, hc_list, hc_view, hc_ptr, hc_map, hc_func, ho_int, ho_bool, ho_string, ho_slice, ho_nilp, ho_nilm, ho_nilf, ho_list, ho_view, ho_ptr, ho_map, ho_func, putCells, vMk, set_at, Join, vToInt, bits64, bits64u, bits8, htp, List.getElem?_cons_zero, List.getElem?_cons_succ, Nat.zero_add, Bool.false_eq_true, if_false, if_true]
    by_cases h1 : c0 < 0
    · simp only [h1, decide_true]; exact kt
    by_cases h2 : c0 > 4611686018427387904
    · simp only [h1, h2, decide_true, decide_false]; exact kt
    by_cases h3 : c1 < c0
    · simp only [h1, h2, h3, decide_true, decide_false]; exact kt
    by_cases h4 : c1 > 4611686018427387904
    · simp only [h1, h2, h3, h4, decide_true, decide_false]; exact kt
    by_cases h5 : c2 < 0
    · simp only [h1, h2, h3, h4, h5, decide_true, decide_false]; exact kt
    have kg : ∀ g, c4 < 0 ∨ 0 ≤ c4 → (g = false → 0 ≤ c4) → K [.lit (.bool g)] t := fun g _ hg => hK _ _ ⟨rfl, g, rfl, fun h => ⟨by omega, by omega, by omega, by omega, hg h⟩⟩
    simp only [h1, h2, h3, h4, h5, decide_false]
    by_cases h6 : c2 > 1099511627776 <;> by_cases h7 : c3 < 0 <;> by_cases h8 : c3 > 32767 <;> by_cases h9 : c4 < 0 <;> by_cases h10 : c4 > 2147483647 <;> cases h11 : (c2 == 0) <;> cases h12 : (c3 != 0) <;>
      simp only [h6, h7, h8, h9, h10, decide_true, decide_false] <;> first | exact kt | exact kg _ (by omega) (fun _ => by omega)
  rintro xs s1 ⟨rfl, g, rfl, hg⟩
  simp only [List.headD_cons]
  cases g with
  | true => simp only [hcond]; exact bad 1 (by omega)
  | false =>
  obtain ⟨g1, g2, g3, g4, g5⟩ := hg rfl
  have z5 : [HV.lit (.int .i64 c0), .lit (.int .i64 c1), .lit (.int .i64 c2), .lit (.int .i64 c3), .lit (.int .i64 c4), recsV (some l)][5]? = some (recsV (some l)) := rfl
  simp only [bindO, hcond, vCmp, vBin, vEq, vUn, vNil, vField, vLoad, takeCells, vExtract, hNew, hStore, hBox, hc_int, hc_bool, hc_string, hc_slice, hc_nilp, hc_nilm, hc_nilf, hc_agg, hc_list, hc_view, hc_ptr, hc_map, hc_func, ho_int, ho_bool, ho_string, ho_slice, ho_nilp, ho_nilm, ho_nilf, ho_list, ho_view, ho_ptr, ho_map, ho_func, putCells, vMk, set_at, Join, vToInt, bits64, bits64u, bits8, htp, Nat.zero_add, Bool.false_eq_true, if_false, if_true, z5, hlen]
  by_cases hn : (l.length : Int) > 100
  · simp only [hn, decide_true]; exact bad 3 (by omega)
  simp only [hn, decide_false]
  refine HLoop.ghost (σ := Int × Nat) (fun g => [.lit (.int .i64 g.1), .lit (.int .i64 g.2)]) (fun g t' => g.2 ≤ l.length ∧ t' = s1 ∧ g.1 = (if g.2 = 0 then -1 else (l.getD (g.2 - 1) r0).off) ∧ ∀ i, i < g.2 → OkRec ⟨c0, c1, c2, c3, c4, some l⟩ (if i = 0 then -1 else (l.getD (i - 1) r0).off) (l.getD i r0)) (fun g => l.length - g.2) (-1, 0) rfl ⟨Nat.zero_le _, rfl, rfl, fun i hi => absurd hi (Nat.not_lt_zero _)⟩ ?_
  rintro ⟨last, i⟩ t K ⟨hi, rfl, hla, hok⟩ hK
  simp only at hi hla hok
  simp only [List.headD_cons, List.tail_cons, htp, z5, hlen]
  by_cases hlt : i < l.length
  · have hlt' : (i : Int) < (l.length : Int) := by omega
    have hix := recsC_idx l i hlt
    obtain ⟨x, hx⟩ : ∃ x, x = l.getD i r0 := ⟨_, rfl⟩
    rw [← hx] at hix
    simp only [hlt', decide_true, vIdx, recsV, Int.natCast_nonneg, true_and, if_true, Int.toNat_natCast, hix, recC_len, Nat.le_refl, List.drop_zero, hcz, Nat.zero_add, List.length_cons, List.length_nil, Nat.reduceAdd, List.take_succ_cons, List.take_zero]
    refine (checkRecord x ⟨c0, c1, c2, c3, c4, some l⟩ last).mono ?_
    rintro v s2 ⟨rfl, e, rfl, he⟩
    simp only [if_true]
    cases h0 : (e != 0) with
    | true =>
      simp only []
      refine hfin _ e (le_refl' _) fun h => ?_
      subst h; cases h0
    | false =>
      have he0 : e = 0 := by simpa using h0
      have hr := he he0
      have y0 : (recC x)[0]? = some (.lit (.int .i64 x.off)) := rfl
      simp only [htp, z5, recsV, hlt', true_and, if_true, Int.natCast_nonneg, Int.toNat_natCast, hix, y0, List.getElem?_cons_zero, List.getElem?_cons_succ]
      refine hK (x.off, i + 1) _ _ (by rw [w64 (by omega) (by omega)]; rfl) ⟨hlt, rfl, ?_, ?_⟩ (by show l.length - (i + 1) < l.length - i; omega)
      · show x.off = _
        rw [if_neg (Nat.succ_ne_zero i), Nat.add_sub_cancel, hx]
      · intro j hj
        by_cases hji : j = i
        · subst hji
          rw [← hx, ← hla]; exact hr
        · exact hok j (by show j < i; have : j < i + 1 := hj; omega)
  · obtain rfl : i = l.length := by omega
    have hlt' : ¬ (l.length : Int) < (l.length : Int) := by omega
    have hOk : OkBat ⟨c0, c1, c2, c3, c4, some l⟩ l := ⟨g1, g2, g3, by omega, g4, g5, hok⟩
    simp only [hlt', decide_false, List.length_cons, List.length_nil, Nat.reduceAdd, Nat.le_refl, if_true, List.drop_zero, List.take_succ_cons, List.take_zero]
    refine (encode_len ⟨c0, c1, c2, c3, c4, some l⟩ l rfl (by omega) ?_).mono ?_
    · intro r hr
      obtain ⟨j, hj, rfl⟩ := List.mem_iff_getElem.1 hr
      have := okRec_short (hok j hj)
      rwa [show l.getD j r0 = l[j] from by simp [List.getD, hj]] at this
    · intro v s2 h2
      obtain ⟨k, hk, hl2, -⟩ := h2.row
      rw [hl2]
      simp only
      cases decide ((k : Int) > 65536) with
      | true => exact hfin s2 3 h2.hle (fun _ => hOk)
      | false => exact hfin s2 0 h2.hle (fun _ => hOk)
end Go.Proofs.Ytecnfekcflfihaa.CL

/- What a log may be, over the H layer. -/
namespace Go.Proofs.Ytecnfekcflfihaa.CL
open Go.Proofs.Ytecnfekcflfihaa.H Go.Proofs.Ytecnfekcflfihaa.C1
set_option linter.unusedVariables false
set_option linter.unusedSimpArgs false
set_option maxRecDepth 100000
/-- What an argument is: nothing is nil. -/
def InBat (b : Bat) : Prop := ∃ r, b.recs = some r ∧ r.length ≤ 9223372036854775807 ∧ ∀ y ∈ r, ∃ k v, y.key = some k ∧ y.val = some v
def InSeg (x : Seg) : Prop := ∃ l, x = some l ∧ l.length ≤ 9223372036854775807 ∧ ∀ b ∈ l, InBat b
def MayB (b : Bat) : Prop := ∃ l, b.recs = some l ∧ l ≠ [] ∧ OkBat b l
def Rising (l : List Bat) : Prop := l.Pairwise fun a b => a.last < b.base
structure Mayy (segs : List Seg) : Prop where
  n : segs.length ≤ 20
  m : ∀ x ∈ segs, (x.getD []).length ≤ 30
  ok : ∀ x ∈ segs, ∀ b ∈ x.getD [], MayB b
  up : Rising (flatS segs)
theorem rising_snoc {l : List Bat} {b : Bat} (h : Rising l) (hb : ∀ a ∈ l, a.last < b.base) : Rising (l ++ [b]) := by
  unfold Rising at *
  rw [List.pairwise_append]
  exact ⟨h, List.pairwise_singleton _ _, fun a ha c hc => by simp at hc; subst hc; exact hb a ha⟩
theorem may {s : HS} (segs : List Seg) (hl : segs.length ≤ 9223372036854775807) (hin : ∀ x ∈ segs, InSeg x) :
    HC Try.prog 13 [rowL segC 1 segs] s (fun v s' => s' = s ∧ ∃ g : Bool, v = .lit (.bool g) ∧ (g = true → Mayy segs)) := by
  refine HC.weaken (HC13 ?_)
  unfold c13
  have hfin : ∀ t, HS.le s t → ∃ s'', HS.le s'' t ∧ s'' = s ∧ ∃ g : Bool, HV.lit (.bool false) = .lit (.bool g) ∧ (g = true → Mayy segs) := fun t h => ⟨s, h, rfl, false, rfl, fun h => by cases h⟩
  simp only [Try.underlying22, len_rowL, bindO, vBin, if_true]
  by_cases h20 : (segs.length : Int) > 20
  · simp only [h20, decide_true, hcond]; exact hfin s (le_refl' s)
  simp only [h20, decide_false, hcond]
  refine HLoop.ghost (σ := Int × Int × Nat) (fun g => [.lit (.int .i64 g.1), .lit (.int .i64 g.2.1), .lit (.int .i64 g.2.2)])
    (fun g t => g.2.2 ≤ segs.length ∧ 0 ≤ g.2.1 ∧ HS.le s t ∧ (∀ x ∈ segs.take g.2.2, (x.getD []).length ≤ 30 ∧ ∀ b ∈ x.getD [], MayB b) ∧ Rising (flatS (segs.take g.2.2)) ∧ ∀ b ∈ flatS (segs.take g.2.2), b.last ≤ g.1) (fun g => segs.length - g.2.2) (-1, 0, 0) rfl
    ⟨Nat.zero_le _, by decide, le_refl' s, fun x hx => by simp at hx, by simp [flatS, Rising], fun b hb => by simp [flatS] at hb⟩ ?_
  rintro ⟨last, n, i⟩ t K ⟨hi, hn, hst, hok, hup, hla⟩ hK
  simp only at hi hn hst hok hup hla
  simp only [List.headD_cons, List.tail_cons]
  by_cases hlt : i < segs.length
  · have hlt' : (i : Int) < (segs.length : Int) := by omega
    have htk := take_succ' (none : Seg) segs (i := i) hlt
    obtain ⟨l, hxl, hl1, hl2⟩ := hin _ (getD_mem (z := none) hlt)
    have hidx := idx_rowL segC_len none segs .i64 hlt
    rw [hxl] at hidx htk
    have hx0 : (segC (some l))[0]? = some (batsV (some l)) := rfl
    have hlen : ∀ t, vLenT (Try.prog.underlying 31) t (batsV (some l)) = some (.lit (.int .i64 l.length)) := fun t => rfl
    simp only [hlt', decide_true, hidx, load_elt1, hx0]
    refine (weights l 4000 hl1 (fun b hb => hl2 b hb)).mono ?_
    rintro v t1 ⟨rfl, w, rfl, hw⟩
    have e1 : hfill (fun i => some (i * 1, 1)) [.lit (.int .i64 0)] [(0, .lit (.int .i64 w))] = some [.lit (.int .i64 w)] := rfl
    simp only [hBS, e1, hNew]
    intro id hid
    refine HC.frzN hid ?_
    have e2 : ([HV.lit (.int .i64 n), HV.view id 0 1 1 true] : List HV).map (frz2 id [.lit (.int .i64 w)]) = [.lit (.int .i64 n), .list 1 1 [.lit (.int .i64 w)] false] := by simp [frz2, frz1, frz0, phi]
    rw [e2]
    refine (sum (s := t1) n [w] hn (by simpa using hw) (by simp)).mono ?_
    rintro v t2 ⟨rfl, m, rfl, hm⟩
    refine Join.of (fun xs s' => s' = t2 ∧ ∃ g : Bool, xs = [.lit (.bool g)] ∧ (g = false → l.length ≤ 30)) ?_ ?_
    rotate_left
    · intro K2 hK2
      by_cases h1 : m > 4000
      · simp only [h1, decide_true]; exact hK2 _ _ ⟨rfl, true, rfl, by simp⟩
      · simp only [h1, decide_false, hlen]
        exact hK2 _ _ ⟨rfl, _, rfl, fun h => by simp at h; omega⟩
    rintro xs s1 ⟨rfl, g, rfl, hg⟩
    simp only [List.headD_cons]
    cases g with
    | true => simp only; exact hfin _ hst
    | false =>
    have h30 := hg rfl
    simp only
    refine HLoop.ghost (σ := Int × Nat) (fun g => [.lit (.int .i64 g.1), .lit (.int .i64 g.2)])
      (fun g t => g.2 ≤ l.length ∧ HS.le s t ∧ (∀ b ∈ l.take g.2, MayB b) ∧ Rising (flatS (segs.take i) ++ l.take g.2) ∧ ∀ b ∈ flatS (segs.take i) ++ l.take g.2, b.last ≤ g.1) (fun g => l.length - g.2) (last, 0) rfl
      ⟨Nat.zero_le _, hst, fun x hx => by simp at hx, by simpa using hup, by simpa using hla⟩ ?_
    rintro ⟨la, j⟩ t3 K3 ⟨hj, hst3, hok3, hup3, hla3⟩ hK3
    simp only at hj hst3 hok3 hup3 hla3
    simp only [List.headD_cons, List.tail_cons, hidx, load_elt1, hx0, hlen]
    by_cases hjl : j < l.length
    · have hjl' : (j : Int) < (l.length : Int) := by omega
      have htj := take_succ' b0 l hjl
      obtain ⟨r, hr, hr1, hr2⟩ := hl2 _ (getD_mem (z := b0) hjl)
      have hixj := vIdx_batsV (some l) j hjl
      simp only [Option.getD_some] at hixj
      generalize l.getD j b0 = y at *
      simp only [hjl', decide_true, hixj, load_elt _ _ 6 (batC_len _)]
      intro X hX
      have hle := le_set_new (.cells (batC y)) hst3 hX
      have hat := set_at t3 X (.cells (batC y))
      have e0 : putCells [HV.lit (.int .i64 0), .lit (.int .i64 0), .lit (.int .i64 0), .lit (.int .i64 0), .lit (.int .i64 0), .lit (.slice none 0 0)] 0 (batC y) = batC y := by simp [putCells, batC]
      simp only [hStore, hc_agg, set_at, batC_len, true_and, Nat.zero_add, List.length_cons, List.length_nil, Nat.reduceAdd, Nat.le_refl, set_set, e0]
      refine ⟨by simpa using (ho_batC y), ?_⟩
      generalize t3.set X (.cells (batC y)) = t4 at *
      have y5 : (batC y)[5]? = some (recsV (some r)) := by rw [← hr]; rfl
      have y0 : (batC y)[0]? = some (.lit (.int .i64 y.base)) := rfl
      have y1 : (batC y)[1]? = some (.lit (.int .i64 y.last)) := rfl
      have hlr : ∀ t, vLenT (Try.prog.underlying 44) t (recsV (some r)) = some (.lit (.int .i64 r.length)) := fun t => rfl
      refine Join.of (fun xs s' => s' = t4 ∧ ∃ g : Bool, xs = [.lit (.bool g)] ∧ (g = false → MayB y ∧ la < y.base)) ?_ ?_
      rotate_left
      · intro K4 hK4
        have kt : K4 [.lit (.bool true)] t4 := hK4 _ _ ⟨rfl, true, rfl, by simp⟩
        simp only [vField, Nat.zero_add, vLoad, hat, takeCells, Bool.false_eq_true, if_false, y5, hlr, vCmp, vBin, if_true]
        cases h0 : ((r.length : Int) == 0) with
        | true => simp only; exact kt
        | false =>
          simp only
          by_cases h100 : (r.length : Int) > 100
          · simp only [h100, decide_true]; exact kt
          · simp only [h100, decide_false, batC_len, Nat.le_refl, if_true, List.drop_zero, hcb]
            refine (check y r hr).mono ?_
            rintro v t5 ⟨rfl, e, rfl, he⟩
            simp only [if_true]
            cases h1 : (e != 0) with
            | true => simp only; exact kt
            | false =>
              have he0 : e = 0 := by simpa using h1
              simp only [hat, y0, if_true]
              refine hK4 _ _ ⟨rfl, _, rfl, fun h => ⟨⟨r, hr, ?_, he he0⟩, by simp at h; omega⟩⟩
              rintro rfl
              simp at h0
      rintro xs s2 ⟨rfl, g, rfl, hg⟩
      simp only [List.headD_cons]
      cases g with
      | true => simp only; exact hfin _ hle
      | false =>
        obtain ⟨hmb, hlb⟩ := hg rfl
        simp only [vField, Nat.zero_add, vLoad, hat, takeCells, Bool.false_eq_true, if_false, y1, if_true]
        have hbl : y.base ≤ y.last := by
          obtain ⟨rr, e1, -, e2⟩ := hmb
          exact e2.b1
        refine hK3 (y.last, j + 1) _ _ (by rw [w64 (by omega) (by omega)]; rfl) ⟨hjl, hle, ?_, ?_, ?_⟩ (by show l.length - (j + 1) < l.length - j; omega)
        · intro b hb
          rw [htj] at hb
          rcases List.mem_append.1 hb with hb | hb
          · exact hok3 b hb
          · simp at hb; subst hb; exact hmb
        · rw [htj, ← List.append_assoc]
          exact rising_snoc hup3 fun a ha => by have := hla3 a ha; omega
        · rw [htj, ← List.append_assoc]
          intro b hb
          rcases List.mem_append.1 hb with hb | hb
          · have := hla3 b hb
            show b.last ≤ y.last
            omega
          · simp at hb; subst hb; exact Int.le_refl _
    · obtain rfl : j = l.length := by omega
      have hlt' : ¬ (l.length : Int) < (l.length : Int) := by omega
      simp only [hlt', decide_false]
      rw [List.take_length] at hok3 hup3 hla3
      have hfl : flatS (segs.take (i + 1)) = flatS (segs.take i) ++ l := by rw [htk, flatS_app]; simp [flatS]
      refine hK (la, m, i + 1) _ _ (by rw [w64 (by omega) (by omega)]; rfl) ⟨hlt, hm, hst3, ?_, by rw [hfl]; exact hup3, by rw [hfl]; exact hla3⟩ (by show segs.length - (i + 1) < segs.length - i; omega)
      intro x hx
      rw [htk] at hx
      rcases List.mem_append.1 hx with hx | hx
      · exact hok x hx
      · simp at hx; subst hx; exact ⟨h30, hok3⟩
  · obtain rfl : i = segs.length := by omega
    have hlt' : ¬ (segs.length : Int) < (segs.length : Int) := by omega
    simp only [hlt', decide_false]
    rw [List.take_length] at hok hup hla
    exact ⟨s, hst, rfl, true, rfl, fun _ => ⟨by omega, fun x hx => (hok x hx).1, fun x hx => (hok x hx).2, hup⟩⟩
end Go.Proofs.Ytecnfekcflfihaa.CL

/- What is alike, over the H layer; all batches, all records. -/
namespace Go.Proofs.Ytecnfekcflfihaa.CL
open Go.Proofs.Ytecnfekcflfihaa.H Go.Proofs.Ytecnfekcflfihaa.C4 Go.Proofs.Ytecnfekcflfihaa.C5
set_option linter.unusedVariables false
set_option linter.unusedSimpArgs false
set_option maxRecDepth 100000
def all2 {α : Type} (f : α → α → Bool) : List α → List α → Bool
  | [], [] => true
  | x :: a, y :: b => f x y && all2 f a b
  | _, _ => false
theorem all2_ne {α : Type} {f : α → α → Bool} : ∀ (a b : List α), a.length ≠ b.length → all2 f a b = false
  | [], [], h => absurd rfl h
  | [], _ :: _, _ => rfl
  | _ :: _, [], _ => rfl
  | x :: a, y :: b, h => by simp only [all2, all2_ne a b (fun e => h (by simp [e])), Bool.and_false]
theorem all2_refl {α : Type} {f : α → α → Bool} : ∀ (a : List α), (∀ x ∈ a, f x x = true) → all2 f a a = true
  | [], _ => rfl
  | x :: a, h => by simp only [all2, h x List.mem_cons_self, all2_refl a (fun y hy => h y (List.mem_cons_of_mem _ hy)), Bool.and_self]
def sameB' (a b : Option (List Int)) : Bool := keyB a == keyB b
def sameR (r q : Rec) : Bool := r.off == q.off && (r.time == q.time && (r.hasKey == q.hasKey && (r.hasVal == q.hasVal && (sameB' r.key q.key && sameB' r.val q.val))))
theorem sameR_refl (r : Rec) : sameR r r = true := by simp [sameR, sameB']
theorem recsV_row (o : Option (List Rec)) : recsV o = rowV recC 6 o := by cases o <;> rfl
theorem vIdx_recsV (o : Option (List Rec)) (i : Nat) (hi : i < (o.getD []).length) : vIdx 6 (recsV o) (.lit (.int .i64 i)) = some (.elt (recC ((o.getD []).getD i r0)) 0) := by
  cases o with
  | none => simp at hi
  | some l => exact idx_rowL recC_len r0 l .i64 hi
def strOf (k : Option (List Int)) : ByteArray := ⟨(keyB k).toArray⟩
theorem toList_go (s : ByteArray) : ∀ (k i : Nat) (r : List UInt8), s.size - i = k → i ≤ s.size → ByteArray.toList.loop s i r = r.reverse ++ s.data.toList.drop i := by
  intro k
  induction k with
  | zero =>
    intro i r h hi
    have : i = s.size := by omega
    unfold ByteArray.toList.loop
    rw [if_neg (by omega)]
    have e : s.data.toList.drop i = [] := List.drop_of_length_le (by rw [this]; show s.data.toList.length ≤ s.data.size; simp)
    rw [e, List.append_nil]
  | succ k ih =>
    intro i r h hi
    have hlt : i < s.size := by omega
    unfold ByteArray.toList.loop
    rw [if_pos hlt, ih (i + 1) _ (by omega) (by omega)]
    have hlt2 : i < s.data.toList.length := by
      have : s.data.toList.length = s.data.size := by simp
      rw [this]; exact hlt
    rw [List.drop_eq_getElem_cons hlt2, List.reverse_cons, List.append_assoc]
    congr 1
    show [s.data[i]!] ++ _ = _
    rw [getElem!_pos s.data i (by simpa using hlt2)]
    rfl
theorem toList_data (s : ByteArray) : s.toList = s.data.toList := by
  unfold ByteArray.toList
  rw [toList_go s s.size 0 [] (by omega) (by omega)]
  simp
theorem str_eq (a b : Option (List Int)) : ((⟨(keyB a).toArray⟩ : ByteArray).toList == (⟨(keyB b).toArray⟩ : ByteArray).toList) = sameB' a b := by rw [toList_data, toList_data]; rfl
theorem sameRecord {s : HS} (r q : Rec) : HC Try.prog 30 [.agg (recC r), .agg (recC q)] s (fun v s' => s' = s ∧ v = .lit (.bool (sameR r q))) := by
  refine HC.weaken (HC30 ?_)
  obtain ⟨off, time, hk, key, hv, val⟩ := r
  obtain ⟨off2, time2, hk2, key2, hv2, val2⟩ := q
  simp only [c30, hBox, hc_agg, recC]
  intro p hp q hq
  have hpq := ne_new (set_at s p _) hq
  have htq := set_at (s.set p (.cells [.lit (.int .i64 off), .lit (.int .i64 time), .lit (.bool hk), byV key, .lit (.bool hv), byV val])) q (.cells [.lit (.int .i64 off2), .lit (.int .i64 time2), .lit (.bool hk2), byV key2, .lit (.bool hv2), byV val2])
  have htp : ((s.set p (.cells [.lit (.int .i64 off), .lit (.int .i64 time), .lit (.bool hk), byV key, .lit (.bool hv), byV val])).set q (.cells [.lit (.int .i64 off2), .lit (.int .i64 time2), .lit (.bool hk2), byV key2, .lit (.bool hv2), byV val2])) p = some (.cells [.lit (.int .i64 off), .lit (.int .i64 time), .lit (.bool hk), byV key, .lit (.bool hv), byV val]) := by rw [set_ne _ _ hpq, set_at]
  have hst : HS.le s ((s.set p (.cells [.lit (.int .i64 off), .lit (.int .i64 time), .lit (.bool hk), byV key, .lit (.bool hv), byV val])).set q (.cells [.lit (.int .i64 off2), .lit (.int .i64 time2), .lit (.bool hk2), byV key2, .lit (.bool hv2), byV val2])) := le_set_new _ (le_set_new _ (le_refl' s) hp) hq
  generalize ((s.set p (.cells [.lit (.int .i64 off), .lit (.int .i64 time), .lit (.bool hk), byV key, .lit (.bool hv), byV val])).set q (.cells [.lit (.int .i64 off2), .lit (.int .i64 time2), .lit (.bool hk2), byV key2, .lit (.bool hv2), byV val2])) = t at *
  have fin : ∀ g g' : Bool, g = g' → ∃ s'', HS.le s'' t ∧ s'' = s ∧ HV.lit (.bool g) = .lit (.bool g') := fun g g' h => ⟨s, hst, rfl, by rw [h]⟩
  simp only [bindO, hcond, vCmp, vBin, vEq, vUn, vNil, vField, vLoad, takeCells, vExtract, hNew, hStore, hBox, hc_int, hc_bool, hc_agg, hc_list, hc_view, hc_ptr, set_at, Join, isStr_by, toStr_by, Nat.zero_add, List.getElem?_cons_zero, List.getElem?_cons_succ, Bool.false_eq_true, if_false, if_true, htp, htq, Try.underlying3, Try.underlying4, Try.underlying9, kv, str_eq, Option.map_some]
  cases h1 : (off == off2) with
  | false => exact fin _ _ (by simp [sameR, h1])
  | true =>
  cases h2 : (time == time2) with
  | false => exact fin _ _ (by simp [sameR, h2])
  | true =>
  cases h3 : (hk == hk2) with
  | false => exact fin _ _ (by simp [sameR, h3])
  | true =>
  cases h4 : (hv == hv2) with
  | false => exact fin _ _ (by simp [sameR, h4])
  | true =>
  cases h5 : sameB' key key2 with
  | false => exact fin _ _ (by simp [sameR, h5])
  | true => exact fin _ _ (by simp only [sameR, h1, h2, h3, h4, h5, Bool.true_and])
theorem sameRecords {s : HS} (a b : Option (List Rec)) (ha : (a.getD []).length ≤ 9223372036854775807) :
    HC Try.prog 36 [recsV a, recsV b] s (fun v s' => s' = s ∧ v = .lit (.bool (all2 sameR (a.getD []) (b.getD [])))) := by
  refine HC36 ?_
  unfold c36
  have hl : ∀ (o : Option (List Rec)) t, vLenT (Try.prog.underlying 44) t (recsV o) = some (.lit (.int .i64 ((o.getD []).length : Nat))) := fun o t => by cases o <;> rfl
  simp only [hl, bindO, vCmp, vBin, if_true]
  by_cases hne : (a.getD []).length = (b.getD []).length
  · have h0 : (((a.getD []).length : Int) != ((b.getD []).length : Int)) = false := by simp [hne]
    simp only [h0, hcond]
    refine HLoop.ghost (σ := Nat) (fun i => [.lit (.int .i64 i)]) (fun i t => i ≤ (a.getD []).length ∧ t = s ∧ all2 sameR ((a.getD []).drop i) ((b.getD []).drop i) = all2 sameR (a.getD []) (b.getD [])) (fun i => (a.getD []).length - i) 0 rfl ⟨Nat.zero_le _, rfl, rfl⟩ ?_
    rintro i t K ⟨hi, rfl, hall⟩ hK
    simp only [List.headD_cons]
    by_cases hlt : i < (a.getD []).length
    · have hlt' : (i : Int) < ((a.getD []).length : Int) := by omega
      have hltb : i < (b.getD []).length := by omega
      have e1 := vIdx_recsV a i hlt
      have e2 := vIdx_recsV b i hltb
      rw [drop_cons' r0 _ hlt, drop_cons' r0 _ hltb] at hall
      have hxm : ∀ (P : Rec → Prop), (∀ x ∈ a.getD [], P x) → P ((a.getD []).getD i r0) := fun P h => h _ (getD_mem hlt)
      skip
      generalize (a.getD []).getD i r0 = x at *
      generalize (b.getD []).getD i r0 = y at *
      simp only [hlt', decide_true, e1, e2, load_elt _ _ 6 (recC_len _)]
      refine (sameRecord x y).mono ?_
      rintro v s' ⟨rfl, rfl⟩
      skip
      simp only [all2] at hall
      cases h : sameR x y with
      | true =>
        rw [h, Bool.true_and] at hall
        simp only [vUn, Bool.not_true]
        exact hK (i + 1) _ _ (by rw [w64 (by omega) (by omega)]; rfl) ⟨hlt, rfl, hall⟩ (by omega)
      | false =>
        rw [h, Bool.false_and] at hall
        simp only [vUn, Bool.not_false, ← hall]
        first | exact ⟨rfl, rfl⟩ | trivial
    · obtain rfl : i = (a.getD []).length := by omega
      have hlt' : ¬ ((a.getD []).length : Int) < ((a.getD []).length : Int) := by omega
      rw [List.drop_length, hne, List.drop_length] at hall
      simp only [hlt', decide_false, ← hall]
      first | exact ⟨rfl, rfl⟩ | trivial
  · have h0 : (((a.getD []).length : Int) != ((b.getD []).length : Int)) = true := by simp; omega
    simp only [h0, hcond, all2_ne _ _ hne]
    first | exact ⟨rfl, rfl⟩ | trivial
def sameBat (a b : Bat) : Bool := a.base == b.base && (a.last == b.last && (a.prod == b.prod && (a.epoch == b.epoch && (a.seq == b.seq && all2 sameR (a.recs.getD []) (b.recs.getD [])))))
theorem sameBat_refl (a : Bat) : sameBat a a = true := by simp [sameBat, all2_refl _ (fun x _ => sameR_refl x)]
def LenB (b : Bat) : Prop := (b.recs.getD []).length ≤ 9223372036854775807
theorem sameBatch {s : HS} (a b : Bat) (ha : LenB a) : HC Try.prog 25 [.agg (batC a), .agg (batC b)] s (fun v s' => s' = s ∧ v = .lit (.bool (sameBat a b))) := by
  refine HC.weaken (HC25 ?_)
  obtain ⟨base, last, prod, epoch, seq, recs⟩ := a
  obtain ⟨base2, last2, prod2, epoch2, seq2, recs2⟩ := b
  simp only [c25, hBox, hc_agg, batC]
  intro p hp q hq
  have hpq := ne_new (set_at s p _) hq
  have htq := set_at (s.set p (.cells [.lit (.int .i64 base), .lit (.int .i64 last), .lit (.int .i64 prod), .lit (.int .i64 epoch), .lit (.int .i64 seq), recsV recs])) q (.cells [.lit (.int .i64 base2), .lit (.int .i64 last2), .lit (.int .i64 prod2), .lit (.int .i64 epoch2), .lit (.int .i64 seq2), recsV recs2])
  have htp : ((s.set p (.cells [.lit (.int .i64 base), .lit (.int .i64 last), .lit (.int .i64 prod), .lit (.int .i64 epoch), .lit (.int .i64 seq), recsV recs])).set q (.cells [.lit (.int .i64 base2), .lit (.int .i64 last2), .lit (.int .i64 prod2), .lit (.int .i64 epoch2), .lit (.int .i64 seq2), recsV recs2])) p = some (.cells [.lit (.int .i64 base), .lit (.int .i64 last), .lit (.int .i64 prod), .lit (.int .i64 epoch), .lit (.int .i64 seq), recsV recs]) := by rw [set_ne _ _ hpq, set_at]
  have hst : HS.le s ((s.set p (.cells [.lit (.int .i64 base), .lit (.int .i64 last), .lit (.int .i64 prod), .lit (.int .i64 epoch), .lit (.int .i64 seq), recsV recs])).set q (.cells [.lit (.int .i64 base2), .lit (.int .i64 last2), .lit (.int .i64 prod2), .lit (.int .i64 epoch2), .lit (.int .i64 seq2), recsV recs2])) := le_set_new _ (le_set_new _ (le_refl' s) hp) hq
  generalize ((s.set p (.cells [.lit (.int .i64 base), .lit (.int .i64 last), .lit (.int .i64 prod), .lit (.int .i64 epoch), .lit (.int .i64 seq), recsV recs])).set q (.cells [.lit (.int .i64 base2), .lit (.int .i64 last2), .lit (.int .i64 prod2), .lit (.int .i64 epoch2), .lit (.int .i64 seq2), recsV recs2])) = t at *
  have fin : ∀ g g' : Bool, g = g' → ∃ s'', HS.le s'' t ∧ s'' = s ∧ HV.lit (.bool g) = .lit (.bool g') := fun g g' h => ⟨s, hst, rfl, by rw [h]⟩
  simp only [bindO, hcond, vCmp, vBin, vEq, vUn, vNil, vField, vLoad, takeCells, vExtract, hNew, hStore, hBox, hc_int, hc_bool, hc_agg, hc_list, hc_view, hc_ptr, set_at, Join, isStr_by, toStr_by, Nat.zero_add, List.getElem?_cons_zero, List.getElem?_cons_succ, Bool.false_eq_true, if_false, if_true, htp, htq]
  cases h1 : (base == base2) with
  | false => exact fin _ _ (by simp [sameBat, h1])
  | true =>
  cases h2 : (last == last2) with
  | false => exact fin _ _ (by simp [sameBat, h2])
  | true =>
  cases h3 : (prod == prod2) with
  | false => exact fin _ _ (by simp [sameBat, h3])
  | true =>
  cases h4 : (epoch == epoch2) with
  | false => exact fin _ _ (by simp [sameBat, h4])
  | true =>
  cases h5 : (seq == seq2) with
  | false => exact fin _ _ (by simp [sameBat, h5])
  | true =>
    simp only []
    refine (sameRecords recs recs2 ha).mono ?_
    rintro v s' ⟨rfl, rfl⟩
    exact fin _ _ (by simp only [sameBat, h1, h2, h3, h4, h5, Bool.true_and])
theorem sameBatches {s : HS} (a b : Option (List Bat)) (ha : (a.getD []).length ≤ 9223372036854775807) (hL : ∀ x ∈ a.getD [], LenB x) :
    HC Try.prog 26 [batsV a, batsV b] s (fun v s' => s' = s ∧ v = .lit (.bool (all2 sameBat (a.getD []) (b.getD [])))) := by
  refine HC26 ?_
  unfold c26
  have hl : ∀ (o : Option (List Bat)) t, vLenT (Try.prog.underlying 31) t (batsV o) = some (.lit (.int .i64 ((o.getD []).length : Nat))) := fun o t => by cases o <;> rfl
  simp only [hl, bindO, vCmp, vBin, if_true]
  by_cases hne : (a.getD []).length = (b.getD []).length
  · have h0 : (((a.getD []).length : Int) != ((b.getD []).length : Int)) = false := by simp [hne]
    simp only [h0, hcond]
    refine HLoop.ghost (σ := Nat) (fun i => [.lit (.int .i64 i)]) (fun i t => i ≤ (a.getD []).length ∧ t = s ∧ all2 sameBat ((a.getD []).drop i) ((b.getD []).drop i) = all2 sameBat (a.getD []) (b.getD [])) (fun i => (a.getD []).length - i) 0 rfl ⟨Nat.zero_le _, rfl, rfl⟩ ?_
    rintro i t K ⟨hi, rfl, hall⟩ hK
    simp only [List.headD_cons]
    by_cases hlt : i < (a.getD []).length
    · have hlt' : (i : Int) < ((a.getD []).length : Int) := by omega
      have hltb : i < (b.getD []).length := by omega
      have e1 := vIdx_batsV a i hlt
      have e2 := vIdx_batsV b i hltb
      rw [drop_cons' b0 _ hlt, drop_cons' b0 _ hltb] at hall
      have hxm : ∀ (P : Bat → Prop), (∀ x ∈ a.getD [], P x) → P ((a.getD []).getD i b0) := fun P h => h _ (getD_mem hlt)
      have hLx := hxm LenB hL
      generalize (a.getD []).getD i b0 = x at *
      generalize (b.getD []).getD i b0 = y at *
      simp only [hlt', decide_true, e1, e2, load_elt _ _ 6 (batC_len _)]
      refine (sameBatch x y hLx).mono ?_
      rintro v s' ⟨rfl, rfl⟩
      skip
      simp only [all2] at hall
      cases h : sameBat x y with
      | true =>
        rw [h, Bool.true_and] at hall
        simp only [vUn, Bool.not_true]
        exact hK (i + 1) _ _ (by rw [w64 (by omega) (by omega)]; rfl) ⟨hlt, rfl, hall⟩ (by omega)
      | false =>
        rw [h, Bool.false_and] at hall
        simp only [vUn, Bool.not_false, ← hall]
        first | exact ⟨rfl, rfl⟩ | trivial
    · obtain rfl : i = (a.getD []).length := by omega
      have hlt' : ¬ ((a.getD []).length : Int) < ((a.getD []).length : Int) := by omega
      rw [List.drop_length, hne, List.drop_length] at hall
      simp only [hlt', decide_false, ← hall]
      first | exact ⟨rfl, rfl⟩ | trivial
  · have h0 : (((a.getD []).length : Int) != ((b.getD []).length : Int)) = true := by simp; omega
    simp only [h0, hcond, all2_ne _ _ hne]
    first | exact ⟨rfl, rfl⟩ | trivial
def sameSeg (a b : Seg) : Bool := all2 sameBat (a.getD []) (b.getD [])
theorem sameSeg_refl (a : Seg) : sameSeg a a = true := all2_refl _ fun x _ => sameBat_refl x
def LenS (x : Seg) : Prop := (x.getD []).length ≤ 9223372036854775807 ∧ ∀ b ∈ x.getD [], LenB b
theorem vIdx_segsV (o : Option (List Seg)) (i : Nat) (hi : i < (o.getD []).length) : vIdx 1 (rowV segC 1 o) (.lit (.int .i64 i)) = some (.elt (segC ((o.getD []).getD i none)) 0) := by
  cases o with
  | none => simp at hi
  | some l => exact idx_rowL segC_len none l .i64 hi
theorem seg0 (x : Seg) : (segC x)[0]? = some (batsV x) := rfl
theorem sameSegs {s : HS} (a b : Option (List Seg)) (ha : (a.getD []).length ≤ 9223372036854775807) (hL : ∀ x ∈ a.getD [], LenS x) :
    HC Try.prog 17 [rowV segC 1 a, rowV segC 1 b] s (fun v s' => s' = s ∧ v = .lit (.bool (all2 sameSeg (a.getD []) (b.getD [])))) := by
  refine HC17 ?_
  unfold c17
  have hl : ∀ (o : Option (List Seg)) t, vLenT (Try.prog.underlying 22) t (rowV segC 1 o) = some (.lit (.int .i64 ((o.getD []).length : Nat))) := fun o t => by cases o <;> rfl
  simp only [hl, bindO, vCmp, vBin, if_true]
  by_cases hne : (a.getD []).length = (b.getD []).length
  · have h0 : (((a.getD []).length : Int) != ((b.getD []).length : Int)) = false := by simp [hne]
    simp only [h0, hcond]
    refine HLoop.ghost (σ := Nat) (fun i => [.lit (.int .i64 i)]) (fun i t => i ≤ (a.getD []).length ∧ t = s ∧ all2 sameSeg ((a.getD []).drop i) ((b.getD []).drop i) = all2 sameSeg (a.getD []) (b.getD [])) (fun i => (a.getD []).length - i) 0 rfl ⟨Nat.zero_le _, rfl, rfl⟩ ?_
    rintro i t K ⟨hi, rfl, hall⟩ hK
    simp only [List.headD_cons]
    by_cases hlt : i < (a.getD []).length
    · have hlt' : (i : Int) < ((a.getD []).length : Int) := by omega
      have hltb : i < (b.getD []).length := by omega
      have e1 := vIdx_segsV a i hlt
      have e2 := vIdx_segsV b i hltb
      rw [drop_cons' none _ hlt, drop_cons' none _ hltb] at hall
      have hxm : ∀ (P : Seg → Prop), (∀ x ∈ a.getD [], P x) → P ((a.getD []).getD i none) := fun P h => h _ (getD_mem hlt)
      have hLx := hxm LenS hL
      generalize (a.getD []).getD i none = x at *
      generalize (b.getD []).getD i none = y at *
      simp only [hlt', decide_true, e1, e2, load_elt1, seg0]
      refine (sameBatches x y hLx.1 hLx.2).mono ?_
      rintro v s' ⟨rfl, rfl⟩
      rw [show all2 sameBat (x.getD []) (y.getD []) = sameSeg x y from rfl]
      simp only [all2] at hall
      cases h : sameSeg x y with
      | true =>
        rw [h, Bool.true_and] at hall
        simp only [vUn, Bool.not_true]
        exact hK (i + 1) _ _ (by rw [w64 (by omega) (by omega)]; rfl) ⟨hlt, rfl, hall⟩ (by omega)
      | false =>
        rw [h, Bool.false_and] at hall
        simp only [vUn, Bool.not_false, ← hall]
        first | exact ⟨rfl, rfl⟩ | trivial
    · obtain rfl : i = (a.getD []).length := by omega
      have hlt' : ¬ ((a.getD []).length : Int) < ((a.getD []).length : Int) := by omega
      rw [List.drop_length, hne, List.drop_length] at hall
      simp only [hlt', decide_false, ← hall]
      first | exact ⟨rfl, rfl⟩ | trivial
  · have h0 : (((a.getD []).length : Int) != ((b.getD []).length : Int)) = true := by simp; omega
    simp only [h0, hcond, all2_ne _ _ hne]
    first | exact ⟨rfl, rfl⟩ | trivial
theorem accV_recs (l : List Rec) : accV 6 l.length (recsC l) = recsV (orNil l) := by cases l <;> simp [accV, recsV, orNil, recsC]
theorem alls {s : HS} (o : Option (List Seg)) (hl : (o.getD []).length ≤ 100000) (hf : (flatS (o.getD [])).length ≤ 100000) : HC Try.prog 29 [rowV segC 1 o] s (fun v s' => s' = s ∧ v = batsV (orNil (flatS (o.getD [])))) := by
  refine HC.up (HC29 ?_)
  unfold c29
  have hlen : ∀ t, vLenT (Try.prog.underlying 22) t (rowV segC 1 o) = some (.lit (.int .i64 ((o.getD []).length : Nat))) := fun t => by cases o <;> rfl
  have hflat : ∀ i, (flatS ((o.getD []).take i)).length ≤ 100000 := by
    intro i
    refine Nat.le_trans ?_ hf
    have := congrArg List.length (flatS_app ((o.getD []).take i) ((o.getD []).drop i))
    rw [List.take_append_drop, List.length_append] at this
    omega
  refine HLoop.ghost (σ := HV × Nat) (fun g => [g.1, .lit (.int .i64 g.2)]) (fun g t => g.2 ≤ (o.getD []).length ∧ HS.le s t ∧ Acc s t 6 g.1 (flatS ((o.getD []).take g.2)).length (batsC (flatS ((o.getD []).take g.2)))) (fun g => (o.getD []).length - g.2) (nilV, 0) rfl ⟨Nat.zero_le _, le_refl' _, Acc.nil _ _ _⟩ ?_
  rintro ⟨A, i⟩ t K ⟨hi, hst, ho⟩ hK
  simp only at hi hst ho
  simp only [List.tail_cons, List.headD_cons, hlen, bindO, vBin, if_true]
  by_cases hlt : i < (o.getD []).length
  · have hlt' : (i : Int) < ((o.getD []).length : Int) := by omega
    have htk := take_succ' (none : Seg) (o.getD []) hlt
    have hix := vIdx_segsV o i hlt
    generalize (o.getD []).getD i none = x at *
    simp only [hlt', decide_true, hcond, hix, load_elt1, seg0]
    have hfl : flatS ((o.getD []).take (i + 1)) = flatS ((o.getD []).take i) ++ x.getD [] := by rw [htk, flatS_app]; simp [flatS]
    have hfl2 := hflat (i + 1)
    rw [hfl, List.length_append] at hfl2
    refine ho.app hst (lcells_batsV x t) (llen_batsV x) (batsC_len _) ⟨by omega, by omega⟩ ?_
    intro A' t' g1 g2 _
    refine hK (A', i + 1) _ _ (by rw [w64 (by omega) (by omega)]; rfl) ⟨hlt, g2, ?_⟩ (by show (o.getD []).length - (i + 1) < (o.getD []).length - i; omega)
    rw [hfl, List.length_append, batsC_app]
    exact g1
  · obtain rfl : i = (o.getD []).length := by omega
    have hlt' : ¬ ((o.getD []).length : Int) < ((o.getD []).length : Int) := by omega
    simp only [hlt', decide_false, hcond]
    rw [List.take_length] at ho
    have := ho.up hst
    rw [accV_bats] at this
    exact ⟨_, s, this, rfl, rfl⟩
def flatR (l : List Bat) : List Rec := l.flatMap fun b => b.recs.getD []
theorem flatR_app (a b : List Bat) : flatR (a ++ b) = flatR a ++ flatR b := by simp [flatR]
theorem lcells_recsV (o : Option (List Rec)) (s : HS) : lcells s 6 (recsV o) = some (recsC (o.getD [])) := by rw [recsV_row]; exact lcells_rowV o s
theorem llen_recsV (o : Option (List Rec)) : llen (recsV o) = (o.getD []).length := by rw [recsV_row]; exact llen_rowV o
theorem bat5 (b : Bat) : (batC b)[5]? = some (recsV b.recs) := rfl
theorem records {s : HS} (o : Seg) (hl : (o.getD []).length ≤ 100000) (hf : (flatR (o.getD [])).length ≤ 100000) : HC Try.prog 28 [batsV o] s (fun v s' => s' = s ∧ v = recsV (orNil (flatR (o.getD [])))) := by
  refine HC.up (HC28 ?_)
  unfold c28
  have hflat : ∀ i, (flatR ((o.getD []).take i)).length ≤ 100000 := by
    intro i
    refine Nat.le_trans ?_ hf
    have := congrArg List.length (flatR_app ((o.getD []).take i) ((o.getD []).drop i))
    rw [List.take_append_drop, List.length_append] at this
    omega
  refine HLoop.ghost (σ := HV × Nat) (fun g => [g.1, .lit (.int .i64 g.2)]) (fun g t => g.2 ≤ (o.getD []).length ∧ HS.le s t ∧ Acc s t 6 g.1 (flatR ((o.getD []).take g.2)).length (recsC (flatR ((o.getD []).take g.2)))) (fun g => (o.getD []).length - g.2) (nilV, 0) rfl ⟨Nat.zero_le _, le_refl' _, Acc.nil _ _ _⟩ ?_
  rintro ⟨A, i⟩ t K ⟨hi, hst, ho⟩ hK
  simp only at hi hst ho
  simp only [List.tail_cons, List.headD_cons, len_batsV, bindO, vBin, if_true]
  by_cases hlt : i < (o.getD []).length
  · have hlt' : (i : Int) < ((o.getD []).length : Int) := by omega
    have htk := take_succ' b0 (o.getD []) hlt
    have hix := vIdx_batsV o i hlt
    generalize (o.getD []).getD i b0 = x at *
    simp only [hlt', decide_true, hcond, hix, field_elt, load_elt1, Nat.zero_add, bat5]
    have hfl : flatR ((o.getD []).take (i + 1)) = flatR ((o.getD []).take i) ++ x.recs.getD [] := by rw [htk, flatR_app]; simp [flatR]
    have hfl2 := hflat (i + 1)
    rw [hfl, List.length_append] at hfl2
    refine ho.app hst (lcells_recsV x.recs t) (llen_recsV x.recs) (recsC_len _) ⟨by omega, by omega⟩ ?_
    intro A' t' g1 g2 _
    refine hK (A', i + 1) _ _ (by rw [w64 (by omega) (by omega)]; rfl) ⟨hlt, g2, ?_⟩ (by show (o.getD []).length - (i + 1) < (o.getD []).length - i; omega)
    rw [hfl, List.length_append, recsC_app]
    exact g1
  · obtain rfl : i = (o.getD []).length := by omega
    have hlt' : ¬ ((o.getD []).length : Int) < ((o.getD []).length : Int) := by omega
    simp only [hlt', decide_false, hcond]
    rw [List.take_length] at ho
    have := ho.up hst
    rw [accV_recs] at this
    exact ⟨_, s, this, rfl, rfl⟩
end Go.Proofs.Ytecnfekcflfihaa.CL

/- Cleaning, in plain words: what stays. -/
namespace Go.Proofs.Ytecnfekcflfihaa.CL
open Go.Proofs.Ytecnfekcflfihaa.H
set_option linter.unusedVariables false
set_option linter.unusedSimpArgs false
-- lengths
theorem flatS_cons (x : Seg) (l : List Seg) : flatS (x :: l) = x.getD [] ++ flatS l := by simp [flatS]
theorem flatR_cons (b : Bat) (l : List Bat) : flatR (b :: l) = b.recs.getD [] ++ flatR l := by simp [flatR]
theorem flatS_len (l : List Seg) (h : ∀ x ∈ l, (x.getD []).length ≤ 30) : (flatS l).length ≤ 30 * l.length := by
  induction l with
  | nil => simp [flatS]
  | cons x r ih =>
    have h1 := h x List.mem_cons_self
    have h2 := ih fun y hy => h y (List.mem_cons_of_mem _ hy)
    rw [flatS_cons, List.length_append, List.length_cons]
    omega
theorem flatR_len (l : List Bat) (h : ∀ b ∈ l, (b.recs.getD []).length ≤ 100) : (flatR l).length ≤ 100 * l.length := by
  induction l with
  | nil => simp [flatR]
  | cons x r ih =>
    have h1 := h x List.mem_cons_self
    have h2 := ih fun y hy => h y (List.mem_cons_of_mem _ hy)
    rw [flatR_cons, List.length_append, List.length_cons]
    omega
theorem mem_flatS {l : List Seg} {b : Bat} : b ∈ flatS l ↔ ∃ x ∈ l, b ∈ x.getD [] := by simp [flatS]
theorem mem_flatR {l : List Bat} {r : Rec} : r ∈ flatR l ↔ ∃ b ∈ l, r ∈ b.recs.getD [] := by simp [flatR]
theorem MayB.len {b : Bat} (h : MayB b) : (b.recs.getD []).length ≤ 100 := by obtain ⟨l, h1, h2, h3⟩ := h; rw [h1]; exact h3.n
theorem Mayy.mem {segs : List Seg} (h : Mayy segs) {b : Bat} (hb : b ∈ flatS segs) : MayB b := by
  obtain ⟨x, hx, hbx⟩ := mem_flatS.1 hb
  exact h.ok x hx b hbx
theorem Mayy.lenS {segs : List Seg} (h : Mayy segs) : (flatS segs).length ≤ 600 := by have := flatS_len segs h.m; have := h.n; omega
theorem Mayy.lenR {segs : List Seg} (h : Mayy segs) : (flatR (flatS segs)).length ≤ 60000 := by have := flatR_len (flatS segs) (fun b hb => (h.mem hb).len); have := h.lenS; omega
-- rising offsets
theorem MayB.in {b : Bat} (h : MayB b) {r : Rec} (hr : r ∈ b.recs.getD []) : b.base ≤ r.off ∧ r.off ≤ b.last := by
  obtain ⟨l, h1, h2, h3⟩ := h
  rw [h1, Option.getD_some] at hr
  obtain ⟨j, hj, rfl⟩ := List.mem_iff_getElem.1 hr
  have := h3.recs j hj
  rw [show l.getD j r0 = l[j] from by simp [List.getD, hj]] at this
  exact ⟨this.lo, this.hi⟩
theorem MayB.offs {b : Bat} (h : MayB b) : (b.recs.getD []).Pairwise fun r q => r.off < q.off := by
  obtain ⟨l, h1, h2, h3⟩ := h
  rw [h1, Option.getD_some]
  have key : ∀ d i, i + d + 1 < l.length → (l.getD i r0).off < (l.getD (i + d + 1) r0).off := by
    intro d
    induction d with
    | zero =>
      intro i hi
      have := (h3.recs (i + 1) hi).up
      rw [if_neg (Nat.succ_ne_zero i), Nat.add_sub_cancel] at this
      exact this
    | succ d ih =>
      intro i hi
      have a1 := ih i (by omega)
      have a2 := (h3.recs (i + (d + 1) + 1) hi).up
      rw [if_neg (Nat.succ_ne_zero _), Nat.add_sub_cancel] at a2
      have e : i + (d + 1) = i + d + 1 := by omega
      rw [e] at a2 ⊢
      omega
  rw [List.pairwise_iff_getElem]
  intro i j hi hj hij
  have := key (j - i - 1) i (by omega)
  rw [show i + (j - i - 1) + 1 = j by omega] at this
  simpa [List.getD, hi, hj] using this
theorem offs_rising : ∀ (l : List Bat), (∀ b ∈ l, MayB b) → Rising l → (flatR l).Pairwise fun r q => r.off < q.off
  | [], _, _ => by simp [flatR]
  | b :: l, h, hr => by
    unfold Rising at hr
    rw [List.pairwise_cons] at hr
    rw [flatR_cons, List.pairwise_append]
    refine ⟨(h b List.mem_cons_self).offs, offs_rising l (fun x hx => h x (List.mem_cons_of_mem _ hx)) hr.2, fun r hrb q hq => ?_⟩
    obtain ⟨b', hb', hqb⟩ := mem_flatR.1 hq
    have g1 := ((h b List.mem_cons_self).in hrb).2
    have g2 := ((h b' (List.mem_cons_of_mem _ hb')).in hqb).1
    have g3 := hr.1 b' hb'
    omega
/-- A later offset stands further behind. -/
theorem later {l : List Rec} (h : l.Pairwise fun r q => r.off < q.off) {i : Nat} {z q : Rec} (hi : i < l.length) (hq : q ∈ l) (hlt : (l.getD i z).off < q.off) : ∃ k, i < k ∧ k < l.length ∧ l.getD k z = q := by
  obtain ⟨k, hk, rfl⟩ := List.mem_iff_getElem.1 hq
  refine ⟨k, ?_, hk, by simp [List.getD, hk]⟩
  rcases Nat.lt_or_ge i k with h1 | h1
  · exact h1
  · exfalso
    have e1 : l.getD i z = l[i] := by simp [List.getD, hi]
    rw [e1] at hlt
    rcases Nat.eq_or_lt_of_le h1 with h2 | h2
    · subst h2; omega
    · have := (List.pairwise_iff_getElem.1 h) k i hk hi h2
      omega
-- the map
theorem put_some {M : Value → Option Int} {k q : Value} {x l : Int} (h : put M k x q = some l) : (q = k ∧ l = x) ∨ M q = some l := by
  unfold put at h
  split at h
  · rename_i e; exact .inl ⟨e, (Option.some.inj h).symm⟩
  · exact .inr h
theorem offF_some {W : Int} {g : (Value → Option Int) × Nat} {k q : Value} {x l : Int} (h : (offF W g k x).1 q = some l) : (q = k ∧ l = x) ∨ g.1 q = some l := by
  unfold offF at h
  split at h
  · rename_i y hy
    rcases put_some h with ⟨rfl, rfl⟩ | h
    · rcases Int.le_total x y with h1 | h1
      · right; rw [hy]; congr 1; omega
      · left; exact ⟨rfl, by omega⟩
    · exact .inr h
  · split at h
    · exact .inr h
    · exact put_some h
theorem fold_some {W from_ : Int} : ∀ (l : List Rec) (g : (Value → Option Int) × Nat) {q : Value} {x : Int}, (l.foldl (offStep W from_) g).1 q = some x → (∃ r ∈ l, r.hasKey = true ∧ kv r.key = q ∧ r.off = x ∧ from_ ≤ r.off) ∨ g.1 q = some x
  | [], g, q, x, h => .inr h
  | r :: l, g, q, x, h => by
    rw [List.foldl_cons] at h
    rcases fold_some l _ h with ⟨r', h1, h2⟩ | h
    · exact .inl ⟨r', List.mem_cons_of_mem _ h1, h2⟩
    · unfold offStep at h
      split at h
      · rename_i hc
        rcases offF_some h with ⟨rfl, rfl⟩ | h
        · exact .inl ⟨r, List.mem_cons_self, hc.1, rfl, rfl, hc.2⟩
        · exact .inr h
      · exact .inr h
theorem build_some {W from_ : Int} : ∀ (l : List Bat) (g : (Value → Option Int) × Nat) (upto : Int) {q : Value} {x : Int}, (buildF W from_ l g upto).1.1 q = some x → (∃ r ∈ flatR l, r.hasKey = true ∧ kv r.key = q ∧ r.off = x ∧ from_ ≤ r.off) ∨ g.1 q = some x
  | [], g, upto, q, x, h => .inr h
  | b :: l, g, upto, q, x, h => by
    unfold buildF at h
    split at h
    · exact .inr h
    · rcases build_some l _ _ h with ⟨r', h1, h2⟩ | h
      · exact .inl ⟨r', by rw [flatR_cons]; exact List.mem_append_right _ h1, h2⟩
      · rcases fold_some _ _ h with ⟨r', h1, h2⟩ | h
        · exact .inl ⟨r', by rw [flatR_cons]; exact List.mem_append_left _ h1, h2⟩
        · exact .inr h
-- what stays
theorem keptB_mem {M : Value → Option Int} {upto now grace : Int} : ∀ {l : List Bat} {b : Bat} {r : Rec}, b ∈ l → r ∈ b.recs.getD [] → stays r M upto now grace = true → r ∈ flatR (keptB M upto now grace l)
  | b' :: l, b, r, hb, hr, hs => by
    rcases List.mem_cons.1 hb with rfl | hb
    · have hk : r ∈ keptR M upto now grace (b.recs.getD []) := List.mem_filter.2 ⟨hr, hs⟩
      have hne : keptR M upto now grace (b.recs.getD []) ≠ [] := fun e => by rw [e] at hk; cases hk
      simp only [keptB, if_pos hne, flatR_cons]
      refine List.mem_append_left _ ?_
      show r ∈ (orNil (keptR M upto now grace (b.recs.getD []))).getD []
      rw [getD_orNil]; exact hk
    · have := keptB_mem hb hr hs
      simp only [keptB]
      split
      · rw [flatR_cons]; exact List.mem_append_right _ this
      · exact this
theorem outs_mem {M : Value → Option Int} {upto now grace : Int} {last : Nat} {segs : List Seg} {r : Rec} (hr : r ∈ flatR (flatS segs)) (hs : stays r M upto now grace = true) : r ∈ flatR (flatS (outsF M upto now grace last segs)) := by
  obtain ⟨b, hb, hrb⟩ := mem_flatR.1 hr
  obtain ⟨x, hx, hbx⟩ := mem_flatS.1 hb
  obtain ⟨i, hi, rfl⟩ := List.mem_iff_getElem.1 hx
  have hm : cleanAt M upto now grace last i segs[i] ∈ outsF M upto now grace last segs := List.mem_mapIdx.2 ⟨i, hi, rfl⟩
  have : r ∈ flatR ((cleanAt M upto now grace last i segs[i]).getD []) := by
    unfold cleanAt
    split
    · rw [getD_orNil]; exact keptB_mem hbx hrb hs
    · rw [getD_orNil]; exact mem_flatR.2 ⟨b, hbx, hrb⟩
  obtain ⟨b', h1, h2⟩ := mem_flatR.1 this
  exact mem_flatR.2 ⟨b', mem_flatS.2 ⟨_, hm, h1⟩, h2⟩
theorem keptB_lenR (M : Value → Option Int) (upto now grace : Int) : ∀ l : List Bat, (flatR (keptB M upto now grace l)).length ≤ (flatR l).length
  | [] => Nat.le_refl _
  | b :: l => by
    have ih := keptB_lenR M upto now grace l
    have h1 : (keptR M upto now grace (b.recs.getD [])).length ≤ (b.recs.getD []).length := List.length_filter_le _ _
    have h2 : (cutB M upto now grace b).recs.getD [] = keptR M upto now grace (b.recs.getD []) := getD_orNil _
    simp only [keptB]
    split
    · rw [flatR_cons, flatR_cons, List.length_append, List.length_append, h2]; omega
    · rw [flatR_cons, List.length_append]; omega
theorem idx_lenS : ∀ (l : List Seg) (f : Nat → Seg → Seg), (∀ i x, ((f i x).getD []).length ≤ (x.getD []).length) → (flatS (l.mapIdx f)).length ≤ (flatS l).length
  | [], f, h => by simp [flatS]
  | x :: l, f, h => by
    have ih := idx_lenS l (fun i => f (i + 1)) fun i x => h (i + 1) x
    have h0 := h 0 x
    rw [List.mapIdx_cons, flatS_cons, flatS_cons, List.length_append, List.length_append]
    omega
theorem idx_lenR : ∀ (l : List Seg) (f : Nat → Seg → Seg), (∀ i x, (flatR ((f i x).getD [])).length ≤ (flatR (x.getD [])).length) → (flatR (flatS (l.mapIdx f))).length ≤ (flatR (flatS l)).length
  | [], f, h => by simp [flatS]
  | x :: l, f, h => by
    have ih := idx_lenR l (fun i => f (i + 1)) fun i x => h (i + 1) x
    have h0 := h 0 x
    rw [List.mapIdx_cons, flatS_cons, flatS_cons, flatR_app, flatR_app, List.length_append, List.length_append]
    omega
theorem outs_lenS (M : Value → Option Int) (upto now grace : Int) (last : Nat) (l : List Seg) : (flatS (outsF M upto now grace last l)).length ≤ (flatS l).length := idx_lenS l _ fun i x => by
  unfold cleanAt; split
  · rw [getD_orNil]; exact keptB_len _ _ _ _ _
  · rw [getD_orNil]; exact Nat.le_refl _
theorem outs_lenR (M : Value → Option Int) (upto now grace : Int) (last : Nat) (l : List Seg) : (flatR (flatS (outsF M upto now grace last l))).length ≤ (flatR (flatS l)).length := idx_lenR l _ fun i x => by
  unfold cleanAt; split
  · rw [getD_orNil]; exact keptB_lenR _ _ _ _ _
  · rw [getD_orNil]; exact Nat.le_refl _
-- batches keep their offsets
def SameHead (x y : Bat) : Prop := x.base = y.base ∧ x.last = y.last ∧ x.prod = y.prod ∧ x.seq = y.seq
inductive Emb : List Bat → List Bat → Prop
  | done (ys : List Bat) : Emb [] ys
  | skip {xs ys : List Bat} (y : Bat) (h : Emb xs ys) : Emb xs (y :: ys)
  | take {xs ys : List Bat} (x y : Bat) (h : SameHead x y) (h' : Emb xs ys) : Emb (x :: xs) (y :: ys)
theorem Emb.refl : ∀ l, Emb l l
  | [] => .done _
  | x :: l => .take x x ⟨rfl, rfl, rfl, rfl⟩ (Emb.refl l)
theorem Emb.pad {c : List Bat} : ∀ (b : List Bat) {d : List Bat}, Emb c d → Emb c (b ++ d)
  | [], d, h => h
  | y :: b, d, h => .skip y (Emb.pad b h)
theorem Emb.append {a b c d : List Bat} (h : Emb a b) (k : Emb c d) : Emb (a ++ c) (b ++ d) := by
  induction h with
  | done ys => exact Emb.pad ys k
  | skip y h ih => exact .skip y ih
  | take x y h h' ih => exact .take x y h ih
theorem keptB_emb (M : Value → Option Int) (upto now grace : Int) : ∀ l : List Bat, Emb (keptB M upto now grace l) l
  | [] => .done _
  | b :: l => by
    simp only [keptB]
    split
    · exact .take _ _ ⟨rfl, rfl, rfl, rfl⟩ (keptB_emb M upto now grace l)
    · exact .skip _ (keptB_emb M upto now grace l)
theorem idx_emb : ∀ (l : List Seg) (f : Nat → Seg → Seg), (∀ i x, Emb ((f i x).getD []) (x.getD [])) → Emb (flatS (l.mapIdx f)) (flatS l)
  | [], f, h => Emb.refl _
  | x :: l, f, h => by
    rw [List.mapIdx_cons, flatS_cons, flatS_cons]
    exact (h 0 x).append (idx_emb l (fun i => f (i + 1)) fun i x => h (i + 1) x)
theorem outs_emb (M : Value → Option Int) (upto now grace : Int) (last : Nat) (l : List Seg) : Emb (flatS (outsF M upto now grace last l)) (flatS l) := idx_emb l _ fun i x => by
  unfold cleanAt; split
  · rw [getD_orNil]; exact keptB_emb _ _ _ _ _
  · rw [getD_orNil]; exact Emb.refl _
theorem Emb.mem {xs ys : List Bat} (h : Emb xs ys) : ∀ x ∈ xs, ∃ y ∈ ys, SameHead x y := by
  induction h with
  | done ys => intro x hx; cases hx
  | skip y h ih => intro x hx; obtain ⟨y', h1, h2⟩ := ih x hx; exact ⟨y', List.mem_cons_of_mem _ h1, h2⟩
  | take x y h h' ih =>
    intro z hz
    rcases List.mem_cons.1 hz with rfl | hz
    · exact ⟨y, List.mem_cons_self, h⟩
    · obtain ⟨y', h1, h2⟩ := ih z hz; exact ⟨y', List.mem_cons_of_mem _ h1, h2⟩
theorem Emb.inv {x y : Bat} {xs ys : List Bat} (h : Emb (x :: xs) (y :: ys)) : Emb (x :: xs) ys ∨ (SameHead x y ∧ Emb xs ys) := by
  cases h with
  | skip _ h => exact .inl h
  | take _ _ h h' => exact .inr ⟨h, h'⟩
theorem Emb.tail {x : Bat} {xs ys : List Bat} (h : Emb (x :: xs) ys) : Emb xs ys := by
  generalize hz : x :: xs = z at h
  induction h with
  | done ys => cases hz
  | skip y h ih => exact .skip y (ih hz)
  | take x' y h h' ih => cases hz; exact .skip y h'
/-- What is to stay, by the law: it has no key, or it is the last of its key, with a value. -/
theorem stays_of {segs : List Seg} (h : Mayy segs) {mm now grace : Int} {i : Nat} (hi : i < (flatR (flatS segs)).length)
    (hk : ((flatR (flatS segs)).getD i r0).hasKey = true → ((flatR (flatS segs)).getD i r0).hasVal = true ∧ ∀ k, i < k → k < (flatR (flatS segs)).length → ((flatR (flatS segs)).getD k r0).hasKey = true → kv ((flatR (flatS segs)).getD k r0).key ≠ kv ((flatR (flatS segs)).getD i r0).key) :
    stays ((flatR (flatS segs)).getD i r0) (cleanMap segs 0 mm).1.1 (cleanMap segs 0 mm).2 now grace = true := by
  unfold stays
  split
  · rfl
  · rename_i h1
    have hkey : ((flatR (flatS segs)).getD i r0).hasKey = true := by
      cases hh : ((flatR (flatS segs)).getD i r0).hasKey
      · exact absurd (Or.inl hh) h1
      · rfl
    obtain ⟨hv, hl⟩ := hk hkey
    split
    · rfl
    · rename_i l hM
      split
      · rename_i hgt
        exfalso
        rcases build_some _ _ _ hM with ⟨r, hr, g1, g2, g3, -⟩ | h0
        · have hr' : r ∈ flatR (flatS segs) := by
            obtain ⟨b, hb, hrb⟩ := mem_flatR.1 hr
            obtain ⟨x, hx, hbx⟩ := mem_flatS.1 hb
            exact mem_flatR.2 ⟨b, mem_flatS.2 ⟨x, List.mem_of_mem_take hx, hbx⟩, hrb⟩
          obtain ⟨k, k1, k2, k3⟩ := later (z := r0) (offs_rising _ (fun b hb => h.mem hb) h.up) hi hr' (by omega)
          rw [← k3] at g1 g2
          exact hl k k1 k2 g1 g2
        · cases h0
      · rw [if_neg (fun e => by rw [hv] at e; cases e.1)]
end Go.Proofs.Ytecnfekcflfihaa.CL

