/- Clean over the H layer: the law of what is kept. -/
import Derived.Test.YtecnfekcflfihaaDM
import Derived.Test.YtecnfekcflfihaaC6
/- Clean over the H layer: the law of what is kept. -/
namespace Go.Proofs.Ytecnfekcflfihaa.CL
open Go.Proofs.Ytecnfekcflfihaa.H Go.Proofs.Ytecnfekcflfihaa.C6
set_option linter.unusedVariables false
set_option linter.unusedSimpArgs false
set_option maxRecDepth 100000
theorem kv_same (a b : Option (List Int)) : kv a = kv b ↔ sameB' a b = true := by
  constructor
  · intro h
    have h1 : (⟨(keyB a).toArray⟩ : ByteArray) = ⟨(keyB b).toArray⟩ := by injection h
    have h2 : (keyB a).toArray = (keyB b).toArray := by injection h1
    have h3 : keyB a = keyB b := by have := congrArg Array.toList h2; simpa using this
    simp [sameB', h3]
  · intro h
    have : keyB a = keyB b := by simpa [sameB'] using h
    simp [kv, this]
theorem bat0 (b : Bat) : (batC b)[0]? = some (.lit (.int .i64 b.base)) := rfl
theorem bat1 (b : Bat) : (batC b)[1]? = some (.lit (.int .i64 b.last)) := rfl
theorem bat2 (b : Bat) : (batC b)[2]? = some (.lit (.int .i64 b.prod)) := rfl
theorem bat4 (b : Bat) : (batC b)[4]? = some (.lit (.int .i64 b.seq)) := rfl
theorem rec2 (b : Rec) : (recC b)[2]? = some (.lit (.bool b.hasKey)) := rfl
theorem rec3 (b : Rec) : (recC b)[3]? = some (byV b.key) := rfl
theorem rec4 (b : Rec) : (recC b)[4]? = some (.lit (.bool b.hasVal)) := rfl
theorem rec0 (b : Rec) : (recC b)[0]? = some (.lit (.int .i64 b.off)) := rfl
theorem len_recsV (o : Option (List Rec)) (s : HS) : vLenT (Try.prog.underlying 44) s (recsV o) = some (.lit (.int .i64 ((o.getD []).length : Nat))) := by cases o <;> rfl
theorem cfg_len (c : Cfg) : (cfgC c).length = 9 := rfl
theorem cfg6 (c : Cfg) : (cfgC c)[6]? = some (.lit (.int .i64 c.grace)) := rfl
theorem load_cfg {t : HS} {p : Nat} {c : Cfg} (h : t p = some (.cells (cfgC c))) : vLoad t (.ptr p 0) 9 true = some (.agg (cfgC c)) := by
  simp only [vLoad, h, takeCells, if_true, Nat.zero_add, cfg_len, Nat.le_refl, List.drop_zero]
  rfl
theorem okB_of {segs : List Seg} (h : Mayy segs) : ∀ x ∈ segs, ∀ b ∈ x.getD [], OkB b := by
  intro x hx b hb
  obtain ⟨l, h1, h2, h3⟩ := h.ok x hx b hb
  refine ⟨l, h1, h2, by have := h3.n; omega, fun r hr => ?_⟩
  obtain ⟨j, hj, rfl⟩ := List.mem_iff_getElem.1 hr
  have := h3.recs j hj
  rw [show l.getD j r0 = l[j] from by simp [List.getD, hj]] at this
  have hk := this.k
  have hv := this.v
  constructor
  · unfold short; cases hkk : l[j].key with
    | none => trivial
    | some k => rw [hkk, Option.getD_some] at hk; show k.length ≤ _; omega
  · unfold short; cases hkk : l[j].val with
    | none => trivial
    | some k => rw [hkk, Option.getD_some] at hv; show k.length ≤ _; omega
theorem segsV_getD (l : List Seg) : (orNil l).getD [] = l := getD_orNil l
theorem keeps_law (segs : List Seg) (c : Cfg) (now : Int) (s : HS) (hl : segs.length ≤ 9223372036854775807) (hin : ∀ x ∈ segs, InSeg x) :
    HC Try.prog 6 [rowL segC 1 segs, .agg (cfgC c), .lit (.int .i64 now)] s (fun v _ => v = .lit (.bool true)) := by
  refine HC6 ?_
  unfold c6
  have hb9 : hcells (.agg (cfgC c)) = some (cfgC c) := rfl
  unfold hBox
  rw [hb9]
  intro p0 hp0
  have hcfg := set_at s p0 (.cells (cfgC c))
  generalize s.set p0 (.cells (cfgC c)) = t0 at *
  refine Join.of (fun xs s' => s' = t0 ∧ ∃ g : Bool, xs = [.lit (.bool g)] ∧ (g = false → Mayy segs)) ?_ ?_
  rotate_left
  · intro K hK
    refine (may segs hl hin).mono ?_
    rintro v t1 ⟨rfl, g, rfl, hg⟩
    have kt : K [.lit (.bool true)] t1 := hK _ _ ⟨rfl, true, rfl, by simp⟩
    cases g with
    | false => simp only [bindO, hcond, vCmp, vBin, vUn, vExtract, if_true, List.headD_cons, List.tail_cons, Bool.not_true, Bool.not_false]; exact kt
    | true =>
      have hm := hg rfl
      have kg : ∀ g, K [.lit (.bool g)] t1 := fun g => hK _ _ ⟨rfl, g, rfl, fun _ => hm⟩
      simp only [bindO, hcond, vCmp, vBin, vUn, vExtract, if_true, List.headD_cons, List.tail_cons, Bool.not_true, Bool.not_false, vField, Nat.zero_add, vLoad, hcfg, takeCells, Bool.false_eq_true, if_false, cfg6]
      by_cases h1 : now < 0
      · simp only [h1, decide_true]; exact kt
      by_cases h2 : now > 1125899906842624
      · simp only [h1, h2, decide_true, decide_false]; exact kt
      by_cases h3 : c.grace < 0
      · simp only [h1, h2, h3, decide_true, decide_false]; exact kt
      simp only [h1, h2, h3, decide_false]
      exact kg _
  rintro xs s1 ⟨rfl, g, rfl, hg⟩
  simp only [bindO, hcond, vCmp, vBin, vUn, vExtract, if_true, List.headD_cons, List.tail_cons, Bool.not_true, Bool.not_false]
  cases g with
  | true => exact awake s1
  | false =>
  have hm := hg rfl
  have hlS := hm.lenS
  have hlR := hm.lenR
  have hn20 := hm.n
  simp only [load_cfg hcfg]
  refine (all segs 0 c now (by omega) (by omega) (okB_of hm)).mono ?_
  rintro v s2 ⟨rfl, hv⟩
  obtain ⟨outs, upto, gone, hve, houts, hmemO, hembO, hlSO, hlRO, hlenO⟩ : ∃ (outs : List Seg) (upto gone : Int), v = .tup [segsV outs, .lit (.int .i64 upto), .lit (.int .i64 gone)] ∧ (segs ≠ [] → outs = outsF (cleanMap segs 0 c.mm).1.1 (cleanMap segs 0 c.mm).2 now c.grace (segs.length - 1) segs) ∧
      (∀ r, r ∈ flatR (flatS segs) → stays r (cleanMap segs 0 c.mm).1.1 (cleanMap segs 0 c.mm).2 now c.grace = true → r ∈ flatR (flatS outs)) ∧ Emb (flatS outs) (flatS segs) ∧ (flatS outs).length ≤ (flatS segs).length ∧ (flatR (flatS outs)).length ≤ (flatR (flatS segs)).length ∧ outs.length = segs.length := by
    by_cases hne : segs = []
    · rw [if_pos hne] at hv
      refine ⟨[], _, _, hv, fun h => absurd hne h, ?_, ?_, ?_, ?_, ?_⟩
      · intro r hr; rw [hne] at hr; simp [flatS, flatR] at hr
      · rw [hne]; exact Emb.refl _
      · simp [flatS]
      · simp [flatS, flatR]
      · rw [hne]
    · rw [if_neg hne] at hv
      exact ⟨_, _, _, hv, fun _ => rfl, fun r hr hs => outs_mem hr hs, outs_emb _ _ _ _ _ _, outs_lenS _ _ _ _ _ _, outs_lenR _ _ _ _ _ _, by unfold outsF; rw [List.length_mapIdx]⟩
  subst hve
  simp only [bindO, hcond, vCmp, vBin, vUn, vExtract, if_true, List.headD_cons, List.tail_cons, Bool.not_true, Bool.not_false, List.getElem?_cons_zero, List.getElem?_cons_succ]
  refine (alls (some segs) (by show segs.length ≤ 100000; omega) (by show (flatS segs).length ≤ 100000; omega)).mono ?_
  rintro v s3 ⟨rfl, rfl⟩
  refine (records (orNil (flatS segs)) (by rw [getD_orNil]; omega) (by rw [getD_orNil]; omega)).mono ?_
  rintro v s4 ⟨rfl, rfl⟩
  refine (alls (orNil outs) (by rw [getD_orNil]; omega) (by rw [getD_orNil]; omega)).mono ?_
  rintro v s5 ⟨rfl, rfl⟩
  rw [getD_orNil outs]
  refine (records (orNil (flatS outs)) (by rw [getD_orNil]; omega) (by rw [getD_orNil]; omega)).mono ?_
  rintro v s6 ⟨rfl, rfl⟩
  simp only [getD_orNil, Option.getD_some]
  obtain ⟨a, ha⟩ : ∃ a, a = flatR (flatS segs) := ⟨_, rfl⟩
  obtain ⟨b, hb⟩ : ∃ b, b = flatR (flatS outs) := ⟨_, rfl⟩
  have hst := fun i hi hk => stays_of hm (mm := c.mm) (now := now) (grace := c.grace) (i := i) hi hk
  rw [← ha] at hst hmemO hlR ⊢
  rw [← hb] at hmemO ⊢
  have hlb : b.length ≤ 60000 := by rw [hb]; have := hlRO; rw [← ha] at this; omega
  have hao : ∀ i, i < a.length → vIdx 6 (recsV (orNil a)) (.lit (.int .i64 i)) = some (.elt (recC (a.getD i r0)) 0) := fun i hi => by have := vIdx_recsV (orNil a) i (by rw [getD_orNil]; exact hi); rwa [getD_orNil] at this
  have hbo : ∀ i, i < b.length → vIdx 6 (recsV (orNil b)) (.lit (.int .i64 i)) = some (.elt (recC (b.getD i r0)) 0) := fun i hi => by have := vIdx_recsV (orNil b) i (by rw [getD_orNil]; exact hi); rwa [getD_orNil] at this
  have hla : ∀ t, vLenT (Try.prog.underlying 44) t (recsV (orNil a)) = some (.lit (.int .i64 a.length)) := fun t => by have := len_recsV (orNil a) t; rwa [getD_orNil] at this
  have hlbv : ∀ t, vLenT (Try.prog.underlying 44) t (recsV (orNil b)) = some (.lit (.int .i64 b.length)) := fun t => by have := len_recsV (orNil b) t; rwa [getD_orNil] at this
  refine HLoop.ghost (σ := Nat) (fun i => [.lit (.int .i64 i)]) (fun i t => i ≤ a.length ∧ t = s6) (fun i => a.length - i) 0 rfl ⟨Nat.zero_le _, rfl⟩ ?_
  rintro i t K ⟨hi, rfl⟩ hK
  simp only [bindO, hcond, vCmp, vBin, vUn, vExtract, if_true, List.headD_cons, List.tail_cons, Bool.not_true, Bool.not_false, hla]
  by_cases hlt : i < a.length
  · have hlt' : (i : Int) < (a.length : Int) := by omega
    have hw1 : IntKind.i64.wrap ((i : Int) + 1) = ((i + 1 : Nat) : Int) := by rw [w64 (by omega) (by omega)]; rfl
    simp only [hlt', decide_true, hw1]
    refine Join.of (fun xs s' => s' = t) ?_ ?_
    · rintro xs s' rfl
      exact hK (i + 1) _ _ rfl ⟨hlt, rfl⟩ (by omega)
    intro K38 hK38
    have k38 := hK38 [] t rfl
    refine HLoop.ghost (σ := Bool × Nat) (fun g => [.lit (.bool g.1), .lit (.int .i64 g.2)]) (fun g t' => g.2 ≤ a.length ∧ i < g.2 ∧ t' = t ∧ (g.1 = true → ∀ k, i < k → k < g.2 → (a.getD k r0).hasKey = true → kv (a.getD k r0).key ≠ kv (a.getD i r0).key)) (fun g => a.length - g.2) (true, i + 1) rfl ⟨hlt, Nat.lt_succ_self i, rfl, fun _ k h1 h2 => absurd h2 (by show ¬ k < i + 1; omega)⟩ ?_
    rintro ⟨la, j⟩ t2 K2 ⟨hj, hij, rfl, hlast⟩ hK2
    simp only at hj hij hlast
    simp only [bindO, hcond, vCmp, vBin, vUn, vExtract, if_true, List.headD_cons, List.tail_cons, Bool.not_true, Bool.not_false, hla]
    obtain ⟨x, hx⟩ : ∃ x, x = a.getD i r0 := ⟨_, rfl⟩
    have hix := hao i hlt
    rw [← hx] at hix
    rw [← hx] at hlast
    refine Join.of (fun xs s' => s' = t2 ∧ xs = [.lit (.bool (decide (j < a.length) && x.hasKey))]) ?_ ?_
    rotate_left
    · intro K3 hK3
      by_cases hjl : j < a.length
      · have hjl' : (j : Int) < (a.length : Int) := by omega
        simp only [hjl', decide_true, hix, field_elt, load_elt1, Nat.zero_add, rec2]
        exact hK3 _ _ ⟨rfl, by simp [hjl]⟩
      · have hjl' : ¬ (j : Int) < (a.length : Int) := by omega
        simp only [hjl', decide_false]
        exact hK3 _ _ ⟨rfl, by simp [hjl]⟩
    rintro xs s' ⟨rfl, rfl⟩
    simp only [bindO, hcond, vCmp, vBin, vUn, vExtract, if_true, List.headD_cons, List.tail_cons, Bool.not_true, Bool.not_false]
    cases hgo : (decide (j < a.length) && x.hasKey) with
    | true =>
      have hjl : j < a.length := by simp at hgo; exact hgo.1
      have hjx := hao j hjl
      have hw2 : IntKind.i64.wrap ((j : Int) + 1) = ((j + 1 : Nat) : Int) := by rw [w64 (by omega) (by omega)]; rfl
      obtain ⟨y, hy⟩ : ∃ y, y = a.getD j r0 := ⟨_, rfl⟩
      rw [← hy] at hjx
      simp only []
      refine Join.of (fun xs s'' => s'' = s' ∧ ∃ g : Bool, xs = [.lit (.bool g)] ∧ (g = true → la = true ∧ (y.hasKey = true → kv y.key ≠ kv x.key))) ?_ ?_
      rotate_left
      · intro K4 hK4
        cases la with
        | false => simp only []; exact hK4 _ _ ⟨rfl, false, rfl, by simp⟩
        | true =>
          simp only [hjx, field_elt, load_elt1, Nat.zero_add, rec2]
          cases hyk : y.hasKey with
          | false => simp only [Bool.not_false]; exact hK4 _ _ ⟨rfl, true, rfl, fun _ => ⟨rfl, fun h => by first | (rw [hyk] at h; cases h) | cases h⟩⟩
          | true =>
            simp only [Bool.not_true, rec3, isStr_by, Bool.false_eq_true, if_false, toStr_by, hix, field_elt, load_elt1, Nat.zero_add, kv, str_eq]
            refine hK4 _ _ ⟨rfl, _, rfl, fun h => ⟨rfl, fun _ e => ?_⟩⟩
            rw [(kv_same _ _).1 e] at h
            cases h
      rintro xs s'' ⟨rfl, g, rfl, hg2⟩
      simp only [bindO, hcond, vCmp, vBin, vUn, vExtract, if_true, List.headD_cons, List.tail_cons, Bool.not_true, Bool.not_false, hw2]
      refine hK2 (g, j + 1) _ _ rfl ⟨hjl, by show i < j + 1; omega, rfl, ?_⟩ (by show a.length - (j + 1) < a.length - j; omega)
      intro hgt k k1 k2
      have hgt : g = true := hgt
      have k2 : k < j + 1 := k2
      obtain ⟨q1, q2⟩ := hg2 hgt
      rw [← hx]
      by_cases hkj : k = j
      · subst hkj; rw [← hy]; exact q2
      · exact hlast q1 k k1 (by omega)
    | false =>
      simp only []
      refine Join.of (fun xs s'' => s'' = s' ∧ ∃ g : Bool, xs = [.lit (.bool g)] ∧ (g = false → x.hasKey = true → la = true ∧ x.hasVal = true)) ?_ ?_
      rotate_left
      · intro K4 hK4
        simp only [hix, field_elt, load_elt1, Nat.zero_add, rec2]
        cases hxk : x.hasKey with
        | false => simp only []; exact hK4 _ _ ⟨rfl, false, rfl, fun _ h => by rw [hxk] at h; cases h⟩
        | true =>
          cases la with
          | false => simp only [Bool.not_false]; exact hK4 _ _ ⟨rfl, true, rfl, by simp⟩
          | true =>
            simp only [Bool.not_true, rec4]
            exact hK4 _ _ ⟨rfl, _, rfl, fun h _ => ⟨rfl, by simpa using h⟩⟩
      rintro xs s'' ⟨rfl, g, rfl, hg2⟩
      simp only [bindO, hcond, vCmp, vBin, vUn, vExtract, if_true, List.headD_cons, List.tail_cons, Bool.not_true, Bool.not_false]
      cases g with
      | true => simp only []; exact k38
      | false =>
        simp only []
        -- it stays: it is met
        have hmet : ∃ k, k < b.length ∧ b.getD k r0 = x := by
          have hxb : x ∈ b := by
            rw [hx]
            refine hmemO _ (getD_mem hlt) (hst i hlt ?_)
            intro hkx
            rw [← hx] at hkx
            obtain ⟨q1, q2⟩ := hg2 rfl hkx
            rw [← hx]
            refine ⟨q2, fun k k1 k2 => hlast q1 k k1 ?_⟩
            rw [hkx] at hgo
            simp at hgo
            omega
          obtain ⟨k, hk, hkx⟩ := List.mem_iff_getElem.1 hxb
          exact ⟨k, hk, by simp [List.getD, hk, hkx]⟩
        obtain ⟨k0, hk0, hkx⟩ := hmet
        refine HLoop.ghost (σ := Bool × Nat) (fun g => [.lit (.bool g.1), .lit (.int .i64 g.2)]) (fun g t' => g.2 ≤ b.length ∧ t' = s'' ∧ (k0 < g.2 → g.1 = true)) (fun g => b.length - g.2) (false, 0) rfl ⟨Nat.zero_le _, rfl, fun h => absurd h (Nat.not_lt_zero _)⟩ ?_
        rintro ⟨met, m⟩ t3 K3 ⟨hm3, rfl, hmt⟩ hK3
        simp only at hm3 hmt
        simp only [bindO, hcond, vCmp, vBin, vUn, vExtract, if_true, List.headD_cons, List.tail_cons, Bool.not_true, Bool.not_false, hlbv]
        by_cases hml : m < b.length
        · have hml' : (m : Int) < (b.length : Int) := by omega
          have hbx := hbo m hml
          have hw3 : IntKind.i64.wrap ((m : Int) + 1) = ((m + 1 : Nat) : Int) := by rw [w64 (by omega) (by omega)]; rfl
          simp only [hml', decide_true]
          refine Join.of (fun xs s4 => s4 = t3 ∧ ∃ g : Bool, xs = [.lit (.bool g)] ∧ ((met = true ∨ k0 = m) → g = true)) ?_ ?_
          rotate_left
          · intro K4 hK4
            cases met with
            | true => simp only []; exact hK4 _ _ ⟨rfl, true, rfl, fun _ => rfl⟩
            | false =>
              simp only [hix, load_elt _ _ 6 (recC_len _), hbx]
              refine (sameRecord x (b.getD m r0)).mono ?_
              rintro v s5 ⟨rfl, rfl⟩
              refine hK4 _ _ ⟨rfl, _, rfl, ?_⟩
              rintro (h | h)
              · cases h
              · subst h; rw [hkx]; exact sameR_refl x
          rintro xs s4 ⟨rfl, g, rfl, hg3⟩
          simp only [bindO, hcond, vCmp, vBin, vUn, vExtract, if_true, List.headD_cons, List.tail_cons, Bool.not_true, Bool.not_false, hw3]
          refine hK3 (g, m + 1) _ _ rfl ⟨hml, rfl, fun h => ?_⟩ (by show b.length - (m + 1) < b.length - m; omega)
          have h : k0 < m + 1 := h
          rcases Nat.lt_or_ge k0 m with h1 | h1
          · exact hg3 (.inl (hmt h1))
          · exact hg3 (.inr (by omega))
        · obtain rfl : m = b.length := by omega
          have hml' : ¬ (b.length : Int) < (b.length : Int) := by omega
          rw [hmt hk0]
          simp only [hml', decide_false, Bool.not_true]
          exact k38
  · obtain rfl : i = a.length := by omega
    have hlt' : ¬ (a.length : Int) < (a.length : Int) := by omega
    simp only [hlt', decide_false]
    clear hK hst hmemO
    refine (alls (orNil outs) (by rw [getD_orNil]; omega) (by rw [getD_orNil]; omega)).mono ?_
    rintro v s7 ⟨rfl, rfl⟩
    refine (alls (some segs) (by show segs.length ≤ 100000; omega) (by show (flatS segs).length ≤ 100000; omega)).mono ?_
    rintro v s8 ⟨rfl, rfl⟩
    simp only [getD_orNil, Option.getD_some]
    have hrise := hm.up
    have hbl : ∀ b ∈ flatS segs, b.base ≤ b.last := fun b hb => by obtain ⟨l, h1, h2, h3⟩ := hm.mem hb; exact h3.b1
    generalize flatS outs = x at *
    generalize flatS segs = y at *
    have hxo : ∀ i, i < x.length → vIdx 6 (batsV (orNil x)) (.lit (.int .i64 i)) = some (.elt (batC (x.getD i b0)) 0) := fun i hi => by have := vIdx_batsV (orNil x) i (by rw [getD_orNil]; exact hi); rwa [getD_orNil] at this
    have hyo : ∀ i, i < y.length → vIdx 6 (batsV (orNil y)) (.lit (.int .i64 i)) = some (.elt (batC (y.getD i b0)) 0) := fun i hi => by have := vIdx_batsV (orNil y) i (by rw [getD_orNil]; exact hi); rwa [getD_orNil] at this
    have hlx : ∀ t, vLenT (Try.prog.underlying 31) t (batsV (orNil x)) = some (.lit (.int .i64 x.length)) := fun t => by have := len_batsV (orNil x) t; rwa [getD_orNil] at this
    have hly : ∀ t, vLenT (Try.prog.underlying 31) t (batsV (orNil y)) = some (.lit (.int .i64 y.length)) := fun t => by have := len_batsV (orNil y) t; rwa [getD_orNil] at this
    refine HLoop.ghost (σ := Nat × Nat) (fun g => [.lit (.int .i64 g.1), .lit (.int .i64 g.2)]) (fun g t' => g.2 ≤ x.length ∧ Emb (x.drop g.2) (y.drop g.1)) (fun g => x.length - g.2) (0, 0) rfl ⟨Nat.zero_le _, hembO⟩ ?_
    rintro ⟨k, i⟩ t K ⟨hi, he⟩ hK
    simp only at hi he
    simp only [bindO, hcond, vCmp, vBin, vUn, vExtract, if_true, List.headD_cons, List.tail_cons, Bool.not_true, Bool.not_false, hlx]
    by_cases hlt : i < x.length
    · have hlt2 : (i : Int) < (x.length : Int) := by omega
      have hix := hxo i hlt
      rw [drop_cons' b0 x hlt] at he
      obtain ⟨u, hu⟩ : ∃ u, u = x.getD i b0 := ⟨_, rfl⟩
      rw [← hu] at hix he
      simp only [hlt2, decide_true]
      refine HLoop.ghost (σ := Nat) (fun k => [.lit (.int .i64 k)]) (fun k t' => Emb (u :: x.drop (i + 1)) (y.drop k)) (fun k => y.length - k) k rfl he ?_
      rintro k t2 K2 he hK2
      simp only [bindO, hcond, vCmp, vBin, vUn, vExtract, if_true, List.headD_cons, List.tail_cons, Bool.not_true, Bool.not_false, hly]
      have hky : k < y.length := by
        rcases Nat.lt_or_ge k y.length with h | h
        · exact h
        · rw [List.drop_of_length_le h] at he; cases he
      have hky' : (k : Int) < (y.length : Int) := by omega
      have hkx := hyo k hky
      rw [drop_cons' b0 y hky] at he
      have hdw : Rising (y.drop k) := List.Pairwise.sublist (List.drop_sublist k y) hrise
      rw [drop_cons' b0 y hky] at hdw
      have hwb : (y.getD k b0).base ≤ (y.getD k b0).last := hbl _ (getD_mem hky)
      have hbl' : ∀ b ∈ y.drop (k + 1), b.base ≤ b.last := fun b hb => hbl b (List.mem_of_mem_drop hb)
      obtain ⟨w, hw⟩ : ∃ w, w = y.getD k b0 := ⟨_, rfl⟩
      rw [← hw] at hkx he hdw hwb
      have hwk : IntKind.i64.wrap ((k : Int) + 1) = ((k + 1 : Nat) : Int) := by rw [w64 (by omega) (by omega)]; rfl
      refine Join.of (fun xs s' => s' = t2 ∧ xs = [.lit (.bool (w.base != u.base))]) ?_ ?_
      rotate_left
      · intro K3 hK3
        simp only [hky', decide_true, hkx, hix, field_elt, load_elt1, Nat.zero_add, bat0]
        exact hK3 _ _ ⟨rfl, rfl⟩
      rintro xs s' ⟨rfl, rfl⟩
      simp only [bindO, hcond, vCmp, vBin, vUn, vExtract, if_true, List.headD_cons, List.tail_cons, Bool.not_true, Bool.not_false, hwk]
      cases hne : (w.base != u.base) with
      | true =>
        simp only []
        refine hK2 (k + 1) _ _ rfl ?_ (by omega)
        rcases he.inv with h | ⟨h, -⟩
        · exact h
        · exfalso
          rw [h.1] at hne
          simp at hne
      | false =>
        have hbe : w.base = u.base := by simpa using hne
        simp only []
        have hhead : SameHead u w ∧ Emb (x.drop (i + 1)) (y.drop (k + 1)) := by
          rcases he.inv with h | h
          · exfalso
            obtain ⟨z, hz, hz1⟩ := h.mem u List.mem_cons_self
            unfold Rising at hdw
            rw [List.pairwise_cons] at hdw
            have := hdw.1 z hz
            have := hz1.1
            omega
          · exact h
        obtain ⟨hhead, hrest⟩ := hhead
        have hge : ¬ (k : Int) ≥ (y.length : Int) := by omega
        refine Join.of (fun xs s4 => s4 = s' ∧ xs = [.lit (.bool false)]) ?_ ?_
        rotate_left
        · intro K3 hK3
          have e1 : (u.last != w.last) = false := by rw [hhead.2.1]; simp
          have e2 : (u.prod != w.prod) = false := by rw [hhead.2.2.1]; simp
          have e3 : (u.seq != w.seq) = false := by rw [hhead.2.2.2]; simp
          simp only [hge, decide_false, hkx, hix, field_elt, load_elt1, Nat.zero_add, bat1, bat2, bat4, e1, e2, e3]
          exact hK3 _ _ ⟨rfl, rfl⟩
        rintro xs s4 ⟨rfl, rfl⟩
        simp only [bindO, hcond, vCmp, vBin, vUn, vExtract, if_true, List.headD_cons, List.tail_cons, Bool.not_true, Bool.not_false]
        refine hK (k, i + 1) _ _ (by rw [w64 (by omega) (by omega)]; rfl) ⟨hlt, ?_⟩ (by show x.length - (i + 1) < x.length - i; omega)
        show Emb (x.drop (i + 1)) (y.drop k)
        rw [drop_cons' b0 y hky]
        exact .skip _ hrest
    · obtain rfl : i = x.length := by omega
      have hlt2 : ¬ (x.length : Int) < (x.length : Int) := by omega
      simp only [hlt2, decide_false]
      exact awake t
end Go.Proofs.Ytecnfekcflfihaa.CL

/- Cleaning again, in plain words: with room for all keys, nothing more goes. -/
namespace Go.Proofs.Ytecnfekcflfihaa.CL
open Go.Proofs.Ytecnfekcflfihaa.H
set_option linter.unusedVariables false
set_option linter.unusedSimpArgs false
-- how many keys
theorem fresh_le (M : Value → Option Int) (from_ : Int) : ∀ (l : List Rec) (g : (Value → Option Int) × Nat), (l.foldl (freshStep M from_) g).2 ≤ g.2 + l.length
  | [], g => Nat.le_refl _
  | r :: l, g => by
    rw [List.foldl_cons, List.length_cons]
    have h1 := fresh_le M from_ l (freshStep M from_ g r)
    have h2 : (freshStep M from_ g r).2 ≤ g.2 + 1 := by
      unfold freshStep
      split
      · dsimp only
        split
        · exact Nat.le_succ _
        · exact Nat.le_refl _
      · exact Nat.le_succ _
    omega
theorem offF_le {W : Int} (g : (Value → Option Int) × Nat) (k : Value) (x : Int) : (offF W g k x).2 ≤ g.2 + 1 := by
  unfold offF
  split
  · exact Nat.le_succ _
  · split
    · exact Nat.le_succ _
    · exact Nat.le_refl _
theorem offStep_le {W from_ : Int} (g : (Value → Option Int) × Nat) (r : Rec) : (offStep W from_ g r).2 ≤ g.2 + 1 := by
  unfold offStep
  split
  · exact offF_le _ _ _
  · exact Nat.le_succ _
theorem fold_le {W from_ : Int} : ∀ (l : List Rec) (g : (Value → Option Int) × Nat), (l.foldl (offStep W from_) g).2 ≤ g.2 + l.length
  | [], g => Nat.le_refl _
  | r :: l, g => by
    rw [List.foldl_cons, List.length_cons]
    have h1 := fold_le (W := W) (from_ := from_) l (offStep W from_ g r)
    have h2 := offStep_le (W := W) (from_ := from_) g r
    omega
def uptoF (from_ : Int) (l : List Bat) (u : Int) : Int := l.foldl (fun _ b => max (IntKind.i64.wrap (b.last + 1)) from_) u
/-- With room for all keys nothing is refused. -/
theorem build_all {W from_ : Int} (hW : W ≤ 1000000) : ∀ (l : List Bat) (g : (Value → Option Int) × Nat) (u : Int), ((g.2 + (flatR l).length : Nat) : Int) ≤ W → buildF W from_ l g u = ((flatR l).foldl (offStep W from_) g, uptoF from_ l u)
  | [], g, u, h => rfl
  | b :: l, g, u, h => by
    rw [flatR_cons, List.length_append] at h
    have h1 := fresh_le g.1 from_ (b.recs.getD []) (fun _ => none, 0)
    have h2 : (freshF g.1 from_ (b.recs.getD [])).2 ≤ (b.recs.getD []).length := by unfold freshF; simpa using h1
    have h3 := fold_le (W := W) (from_ := from_) (b.recs.getD []) g
    unfold buildF
    rw [if_neg (by rw [w64 (by omega) (by omega)]; omega), build_all hW l _ _ (by omega), flatR_cons, List.foldl_append]
    rfl
-- what the map knows
theorem offF_mono {W : Int} {g : (Value → Option Int) × Nat} {k q : Value} {x y : Int} (h : ∃ z, g.1 q = some z ∧ y ≤ z) : ∃ z, (offF W g k x).1 q = some z ∧ y ≤ z := by
  obtain ⟨z, h1, h2⟩ := h
  unfold offF
  split
  · rename_i v hv
    by_cases e : q = k
    · subst e
      rw [hv] at h1
      cases h1
      exact ⟨max x z, by simp [put], by omega⟩
    · exact ⟨z, by simp [put, e, h1], h2⟩
  · rename_i hv
    split
    · exact ⟨z, h1, h2⟩
    · by_cases e : q = k
      · subst e
        rw [hv] at h1
        cases h1
      · exact ⟨z, by simp [put, e, h1], h2⟩
theorem offStep_mono {W from_ : Int} {g : (Value → Option Int) × Nat} {r : Rec} {q : Value} {y : Int} (h : ∃ z, g.1 q = some z ∧ y ≤ z) : ∃ z, (offStep W from_ g r).1 q = some z ∧ y ≤ z := by
  unfold offStep
  split
  · exact offF_mono h
  · exact h
theorem fold_mono {W from_ : Int} : ∀ (l : List Rec) (g : (Value → Option Int) × Nat) {q : Value} {y : Int}, (∃ z, g.1 q = some z ∧ y ≤ z) → ∃ z, (l.foldl (offStep W from_) g).1 q = some z ∧ y ≤ z
  | [], g, q, y, h => h
  | r :: l, g, q, y, h => by rw [List.foldl_cons]; exact fold_mono l _ (offStep_mono h)
theorem fold_has {W from_ : Int} : ∀ (l : List Rec) (g : (Value → Option Int) × Nat), ((g.2 + l.length : Nat) : Int) ≤ W → ∀ r ∈ l, r.hasKey = true → from_ ≤ r.off → ∃ z, (l.foldl (offStep W from_) g).1 (kv r.key) = some z ∧ r.off ≤ z
  | x :: l, g, h, r, hr, hk, hf => by
    rw [List.length_cons] at h
    rw [List.foldl_cons]
    rcases List.mem_cons.1 hr with rfl | hr
    · refine fold_mono l _ ?_
      unfold offStep
      rw [if_pos ⟨hk, hf⟩]
      unfold offF
      split
      · rename_i y hy
        exact ⟨max r.off y, by simp [put], by omega⟩
      · rw [if_neg (by omega)]
        exact ⟨r.off, by simp [put], Int.le_refl _⟩
    · exact fold_has l (offStep W from_ g x) (by have := offStep_le (W := W) (from_ := from_) g x; omega) r hr hk hf
-- up to where
theorem upto_ge {from_ : Int} : ∀ (l : List Bat) (u : Int), (∀ b ∈ l, MayB b) → Rising l → ∀ b ∈ l, b.last + 1 ≤ uptoF from_ l u
  | b :: l, u, h, hr, x, hx => by
    unfold Rising at hr
    rw [List.pairwise_cons] at hr
    have ih := upto_ge (from_ := from_) l (max (IntKind.i64.wrap (b.last + 1)) from_) (fun y hy => h y (List.mem_cons_of_mem _ hy)) hr.2
    have e : uptoF from_ (b :: l) u = uptoF from_ l (max (IntKind.i64.wrap (b.last + 1)) from_) := rfl
    rw [e]
    rcases List.mem_cons.1 hx with rfl | hx
    · cases l with
      | nil =>
        obtain ⟨rs, h1, h2, h3⟩ := h x List.mem_cons_self
        have := h3.l1
        have := h3.b0
        have := h3.b1
        show x.last + 1 ≤ max (IntKind.i64.wrap (x.last + 1)) from_
        rw [w64 (by omega) (by omega)]
        omega
      | cons y l =>
        have g1 := ih y List.mem_cons_self
        have g2 := hr.1 y List.mem_cons_self
        obtain ⟨rs, h1, h2, h3⟩ := h y (List.mem_cons_of_mem _ List.mem_cons_self)
        have := h3.b1
        omega
    · exact ih x hx
-- what is kept
theorem keptB_recs (M : Value → Option Int) (upto now grace : Int) : ∀ l : List Bat, flatR (keptB M upto now grace l) = (flatR l).filter fun r => stays r M upto now grace
  | [] => rfl
  | b :: l => by
    have ih := keptB_recs M upto now grace l
    have h2 : (cutB M upto now grace b).recs.getD [] = keptR M upto now grace (b.recs.getD []) := getD_orNil _
    rw [flatR_cons, List.filter_append, ← ih]
    simp only [keptB]
    split
    · rw [flatR_cons, h2]; rfl
    · rename_i hne
      have : keptR M upto now grace (b.recs.getD []) = [] := by simpa using hne
      unfold keptR at this
      rw [this]; rfl
theorem keptB_form {M : Value → Option Int} {upto now grace : Int} : ∀ {l : List Bat} {b : Bat}, b ∈ keptB M upto now grace l → ∃ b0 ∈ l, b = cutB M upto now grace b0 ∧ keptR M upto now grace (b0.recs.getD []) ≠ []
  | x :: l, b, h => by
    simp only [keptB] at h
    split at h
    · rename_i hne
      rcases List.mem_cons.1 h with rfl | h
      · exact ⟨x, List.mem_cons_self, rfl, hne⟩
      · obtain ⟨b0, h1, h2⟩ := keptB_form h
        exact ⟨b0, List.mem_cons_of_mem _ h1, h2⟩
    · obtain ⟨b0, h1, h2⟩ := keptB_form h
      exact ⟨b0, List.mem_cons_of_mem _ h1, h2⟩
theorem orNil_ne {α : Type} {l : List α} (h : l ≠ []) : orNil l = some l := by cases l with | nil => exact absurd rfl h | cons => rfl
theorem keptB_id {M : Value → Option Int} {upto now grace : Int} : ∀ (K : List Bat), (∀ b ∈ K, ∃ l, b.recs = some l ∧ l ≠ [] ∧ ∀ r ∈ l, stays r M upto now grace = true) → keptB M upto now grace K = K
  | [], h => rfl
  | b :: K, h => by
    obtain ⟨l, h1, h2, h3⟩ := h b List.mem_cons_self
    have e1 : keptR M upto now grace (b.recs.getD []) = l := by rw [h1]; exact List.filter_eq_self.2 h3
    simp only [keptB]
    rw [e1, if_pos h2, keptB_id K fun x hx => h x (List.mem_cons_of_mem _ hx)]
    congr 1
    unfold cutB
    rw [e1, orNil_ne h2, ← h1]
theorem outs_len (M : Value → Option Int) (upto now grace : Int) (last : Nat) (l : List Seg) : (outsF M upto now grace last l).length = l.length := by unfold outsF; rw [List.length_mapIdx]
theorem outs_get (M : Value → Option Int) (upto now grace : Int) (last : Nat) (l : List Seg) (i : Nat) (h : i < (outsF M upto now grace last l).length) : (outsF M upto now grace last l)[i] = cleanAt M upto now grace last i (l[i]'(by rw [outs_len] at h; exact h)) := by
  have h' : i < (l.mapIdx (cleanAt M upto now grace last)).length := h
  exact List.getElem_mapIdx
/-- What stays stays again. -/
theorem idem {M M' : Value → Option Int} {upto upto' now now' grace grace' : Int} {last : Nat} (segs : List Seg) (h : ∀ r ∈ flatR (flatS ((outsF M upto now grace last segs).take last)), stays r M' upto' now' grace' = true) :
    outsF M' upto' now' grace' last (outsF M upto now grace last segs) = outsF M upto now grace last segs := by
  apply List.ext_getElem
  · rw [outs_len]
  · intro i h1 h2
    have h3 : i < segs.length := by rw [outs_len] at h2; exact h2
    have e1 : (outsF M upto now grace last segs)[i] = cleanAt M upto now grace last i segs[i] := outs_get _ _ _ _ _ _ _ _
    have e2 : (outsF M' upto' now' grace' last (outsF M upto now grace last segs))[i] = cleanAt M' upto' now' grace' last i (outsF M upto now grace last segs)[i] := outs_get _ _ _ _ _ _ _ _
    rw [e2, e1]
    unfold cleanAt
    by_cases hl : i < last
    · rw [if_pos hl, if_pos hl, getD_orNil, keptB_id]
      intro b hb
      obtain ⟨b0, g1, rfl, g3⟩ := keptB_form hb
      refine ⟨_, orNil_ne g3, g3, fun r hr => h r ?_⟩
      refine mem_flatR.2 ⟨cutB M upto now grace b0, mem_flatS.2 ⟨(outsF M upto now grace last segs)[i], ?_, ?_⟩, ?_⟩
      · rw [List.mem_take_iff_getElem]
        exact ⟨i, by omega, rfl⟩
      · rw [e1]; unfold cleanAt; rw [if_pos hl, getD_orNil]; exact hb
      · show r ∈ (orNil (keptR M upto now grace (b0.recs.getD []))).getD []
        rw [getD_orNil]; exact hr
    · rw [if_neg hl, if_neg hl, getD_orNil]
theorem gone_idem {M : Value → Option Int} {upto now grace : Int} {last : Nat} (l : List Seg) (h : outsF M upto now grace last l = l) : goneF M upto now grace last l = 0 := by
  have key : ∀ x ∈ l.mapIdx (goneAt M upto now grace last), x = 0 := by
    intro x hx
    obtain ⟨i, hi, rfl⟩ := List.mem_mapIdx.1 hx
    have e : cleanAt M upto now grace last i l[i] = l[i] := by
      have h1 : (outsF M upto now grace last l)[i]'(by rw [outs_len]; exact hi) = cleanAt M upto now grace last i l[i] := outs_get _ _ _ _ _ _ _ _
      rw [← h1]
      congr 1
    unfold goneAt
    rw [e, Int.sub_self, w64 (by omega) (by omega)]
  unfold goneF
  generalize l.mapIdx (goneAt M upto now grace last) = g at *
  have : ∀ (g : List Int) (a : Int), (∀ x ∈ g, x = 0) → a = 0 → g.foldl (fun a d => IntKind.i64.wrap (a + d)) a = 0 := by
    intro g
    induction g with
    | nil => intro a _ h; exact h
    | cons x g ih =>
      intro a hx ha
      rw [List.foldl_cons]
      exact ih _ (fun y hy => hx y (List.mem_cons_of_mem _ hy)) (by rw [ha, hx x List.mem_cons_self, w64 (by omega) (by omega)]; rfl)
  exact this g 0 key rfl
/-- The clean part. -/
theorem outs_take (M : Value → Option Int) (upto now grace : Int) (last : Nat) (segs : List Seg) : flatS ((outsF M upto now grace last segs).take last) = keptB M upto now grace (flatS (segs.take last)) := by
  have key : ∀ n, n ≤ last → flatS ((outsF M upto now grace last segs).take n) = keptB M upto now grace (flatS (segs.take n)) := by
    intro n
    induction n with
    | zero => intro _; simp [flatS, keptB]
    | succ n ih =>
      intro hn
      have ih := ih (by omega)
      by_cases hl : n < segs.length
      · rw [take_succ' none _ (by rw [outs_len]; exact hl), take_succ' none segs hl, flatS_app, flatS_app, keptB_app, ih]
        congr 1
        have e1 : (outsF M upto now grace last segs).getD n none = cleanAt M upto now grace last n (segs.getD n none) := by
          unfold outsF
          simp [List.getD, hl]
        rw [e1]
        unfold cleanAt
        rw [if_pos (by omega)]
        simp [flatS, getD_orNil]
      · rw [List.take_of_length_le (by rw [outs_len]; omega), List.take_of_length_le (by omega)] at ih ⊢
        exact ih
  exact key last (Nat.le_refl _)
/-- All that is needed of a log with room for all its keys. -/
theorem clean_all {segs : List Seg} (h : Mayy segs) (now grace : Int) :
    let M := (cleanMap segs 0 100000).1.1
    let upto := (cleanMap segs 0 100000).2
    let last := segs.length - 1
    let outs := outsF M upto now grace last segs
    let R := flatR (flatS (outs.take last))
    (R.Pairwise fun r q => r.off < q.off) ∧ (∀ r ∈ R, ∀ q ∈ R, r.hasKey = true → q.hasKey = true → kv r.key = kv q.key → r.off = q.off) ∧
    (∀ r ∈ R, stays r (cleanMap outs 0 100000).1.1 (cleanMap outs 0 100000).2 now grace = true) ∧ (∀ r ∈ R, stays r (cleanMap outs upto 100000).1.1 (cleanMap outs upto 100000).2 now grace = true) := by
  intro M upto last outs R
  obtain ⟨L, hL⟩ : ∃ L, L = flatS (segs.take last) := ⟨_, rfl⟩
  have hmem : ∀ b ∈ L, b ∈ flatS segs := by
    intro b hb
    rw [hL] at hb
    obtain ⟨x, hx, hbx⟩ := mem_flatS.1 hb
    exact mem_flatS.2 ⟨x, List.mem_of_mem_take hx, hbx⟩
  have hMB : ∀ b ∈ L, MayB b := fun b hb => h.mem (hmem b hb)
  have hsub : L.Sublist (flatS segs) := by
    rw [hL]
    have e := flatS_app (segs.take last) (segs.drop last)
    rw [List.take_append_drop] at e
    rw [e]
    exact List.sublist_append_left _ _
  have hup : Rising L := List.Pairwise.sublist hsub h.up
  have hlen : (flatR L).length ≤ 60000 := by
    have h1 := flatR_len L fun b hb => (hMB b hb).len
    have h2 := hsub.length_le
    have h3 := h.lenS
    omega
  have hcap : min (max (max (100000 : Int) 1) 1) 1000000 = 100000 := by decide
  have hbuild : cleanMap segs 0 100000 = ((flatR L).foldl (offStep 100000 0) (fun _ => none, 0), uptoF 0 L 0) := by
    unfold cleanMap
    rw [hcap, ← hL]
    exact build_all (by omega) L _ _ (by simp; omega)
  have hoff : ∀ r ∈ flatR L, 0 ≤ r.off ∧ r.off < upto := by
    intro r hr
    obtain ⟨b, hb, hrb⟩ := mem_flatR.1 hr
    have h1 := (hMB b hb).in hrb
    have h2 := upto_ge (from_ := 0) L 0 hMB hup b hb
    obtain ⟨l, g1, g2, g3⟩ := hMB b hb
    have := g3.b0
    have h3 : upto = uptoF 0 L 0 := congrArg Prod.snd hbuild
    omega
  have hhas : ∀ r ∈ flatR L, r.hasKey = true → ∃ z, M (kv r.key) = some z ∧ r.off ≤ z := by
    intro r hr hk
    have h3 : M = ((flatR L).foldl (offStep 100000 0) (fun _ => none, 0)).1 := congrArg (fun x => x.1.1) hbuild
    rw [h3]
    exact fold_has (flatR L) (fun _ => none, 0) (by simp; omega) r hr hk (hoff r hr).1
  have hR : R = (flatR L).filter fun r => stays r M upto now grace := by
    show flatR (flatS (outs.take last)) = _
    rw [show flatS (outs.take last) = keptB M upto now grace L from by rw [hL]; exact outs_take M upto now grace last segs]
    exact keptB_recs M upto now grace L
  have hRm : ∀ r ∈ R, r ∈ flatR L ∧ stays r M upto now grace = true := fun r hr => by rw [hR] at hr; exact List.mem_filter.1 hr
  have hpw : R.Pairwise fun r q => r.off < q.off := by
    rw [hR]
    exact (offs_rising L hMB hup).filter _
  -- the last of a key
  have hlast : ∀ r ∈ R, r.hasKey = true → M (kv r.key) = some r.off ∧ ¬ (r.hasVal = false ∧ min (max now (-2305843009213693952)) 2305843009213693952 - min (max r.time (-2305843009213693952)) 2305843009213693952 > grace) := by
    intro r hr hk
    obtain ⟨h1, h2⟩ := hRm r hr
    obtain ⟨z, h3, h4⟩ := hhas r h1 hk
    unfold stays at h2
    rw [if_neg (by have := (hoff r h1).2; intro hc; rcases hc with hc | hc; rw [hk] at hc; cases hc; omega)] at h2
    simp only [h3] at h2
    by_cases hz : z > r.off
    · rw [if_pos hz] at h2; cases h2
    · rw [if_neg hz] at h2
      have : z = r.off := by omega
      subst this
      refine ⟨h3, fun hc => ?_⟩
      rw [if_pos hc] at h2; cases h2
  have huniq : ∀ r ∈ R, ∀ q ∈ R, r.hasKey = true → q.hasKey = true → kv r.key = kv q.key → r.off = q.off := by
    intro r hr q hq hk hk' he
    have h1 := (hlast r hr hk).1
    have h2 := (hlast q hq hk').1
    rw [he, h2] at h1
    exact (Option.some.inj h1).symm
  have hLo : flatS (outs.take (outs.length - 1)) = flatS (outs.take last) := by
    show flatS (outs.take ((outsF M upto now grace last segs).length - 1)) = _
    rw [outs_len]
  refine ⟨hpw, huniq, ?_, ?_⟩
  · intro r hr
    unfold stays
    split
    · rfl
    · rename_i hc
      have hk : r.hasKey = true := by
        cases hh : r.hasKey with
        | true => rfl
        | false => exact absurd (Or.inl hh) hc
      split
      · rfl
      · rename_i z hz
        have : z = r.off := by
          unfold cleanMap at hz
          rcases build_some _ _ _ hz with ⟨q, h1, h2, h3, h4, -⟩ | h0
          · rw [hLo] at h1
            rw [← h4]
            exact huniq q h1 r hr h2 hk h3
          · cases h0
        rw [if_neg (by omega), if_neg (hlast r hr hk).2]
  · intro r hr
    have hnone : (cleanMap outs upto 100000).1.1 (kv r.key) = none := by
      cases hz : (cleanMap outs upto 100000).1.1 (kv r.key) with
      | none => rfl
      | some z =>
        exfalso
        unfold cleanMap at hz
        rcases build_some _ _ _ hz with ⟨q, h1, h2, h3, h4, h5⟩ | h0
        · rw [hLo] at h1
          have := (hoff q (hRm q h1).1).2
          omega
        · cases h0
    unfold stays
    split
    · rfl
    · rw [hnone]
end Go.Proofs.Ytecnfekcflfihaa.CL

