/- Clean over the H layer: all segments of a log. -/
import Derived.Test.YtecnfekcflfihaaCE
import Derived.Test.YtecnfekcflfihaaH16
namespace Go.Proofs.Ytecnfekcflfihaa.CL
open Go.Proofs.Ytecnfekcflfihaa.H Go.Proofs.Ytecnfekcflfihaa.C0
set_option linter.unusedVariables false
set_option linter.unusedSimpArgs false
set_option maxRecDepth 100000
structure Cfg where
  n0 : Int
  n1 : Int
  n2 : Int
  n3 : Int
  n4 : Int
  b5 : Bool
  grace : Int
  mm : Int
  b8 : Bool
def cfgC (c : Cfg) : List HV := [.lit (.int .i64 c.n0), .lit (.int .i64 c.n1), .lit (.int .i64 c.n2), .lit (.int .i64 c.n3), .lit (.int .i64 c.n4), .lit (.bool c.b5), .lit (.int .i64 c.grace), .lit (.int .i64 c.mm), .lit (.bool c.b8)]
abbrev Seg := Option (List Bat)
theorem batsC_rows (l : List Bat) : batsC l = rows batC l := rfl
theorem batsV_row (o : Seg) : batsV o = rowV batC 6 o := by cases o <;> rfl
def segC (x : Seg) : List HV := [batsV x]
theorem segC_len (x : Seg) : (segC x).length = 1 := rfl
def OkB (b : Bat) : Prop := ∃ r, b.recs = some r ∧ r ≠ [] ∧ r.length ≤ 100000 ∧ ∀ x ∈ r, ShortR x
def flatS (l : List Seg) : List Bat := l.flatMap fun x => x.getD []
theorem flatS_app (a b : List Seg) : flatS (a ++ b) = flatS a ++ flatS b := by simp [flatS]
def cleanAt (M : Value → Option Int) (upto now grace : Int) (last i : Nat) (x : Seg) : Seg := if i < last then orNil (keptB M upto now grace (x.getD [])) else orNil (x.getD [])
def goneAt (M : Value → Option Int) (upto now grace : Int) (last i : Nat) (x : Seg) : Int := IntKind.i64.wrap (cntF (x.getD []) - cntF ((cleanAt M upto now grace last i x).getD []))
def outsF (M : Value → Option Int) (upto now grace : Int) (last : Nat) (l : List Seg) : List Seg := l.mapIdx (cleanAt M upto now grace last)
def goneF (M : Value → Option Int) (upto now grace : Int) (last : Nat) (l : List Seg) : Int := (l.mapIdx (goneAt M upto now grace last)).foldl (fun a d => IntKind.i64.wrap (a + d)) 0
/-- The map, and up to where, that a cleaning builds. -/
noncomputable def cleanMap (segs : List Seg) (dirty mm : Int) : ((Value → Option Int) × Nat) × Int := buildF (min (max (max mm 1) 1) 1000000) dirty (flatS (segs.take (segs.length - 1))) (fun _ => none, 0) dirty
def segsV (l : List Seg) : HV := rowV segC 1 (orNil l)
theorem getD_orNil {α : Type} (l : List α) : (orNil l).getD [] = l := by cases l <;> rfl
theorem accV_segs (l : List Seg) : accV 1 l.length (rows segC l) = segsV l := by cases l <;> simp [accV, rowV, rowL, segsV, orNil]
theorem accV_bats (l : List Bat) : accV 6 l.length (batsC l) = batsV (orNil l) := by cases l <;> simp [accV, batsV, orNil, batsC]
theorem upSeg (o : Seg) (zs : List HV) (t : HS) : UpL (batsV o :: zs) t (.list 6 (o.getD []).length (batsC (o.getD [])) false :: zs) t := by
  have := upRow batC 6 o [] zs t
  rw [batsV_row]
  exact this
theorem count' (o : Seg) (s : HS) (hl : (o.getD []).length ≤ 100000) : HC Try.prog 48 [batsV o] s (fun v s' => v = .lit (.int .i64 (cntF (o.getD []))) ∧ s' = s) := HC.upArgs (upSeg o [] s) (count _ s hl)
theorem len_batsV (o : Seg) (s : HS) : vLenT (Try.prog.underlying 31) s (batsV o) = some (.lit (.int .i64 ((o.getD []).length : Nat))) := by rw [batsV_row, Try.underlying31]; exact len_rowV o s
theorem len_batsV' (o : Seg) (s : HS) : vLenT (some (.slice 32)) s (batsV o) = some (.lit (.int .i64 ((o.getD []).length : Nat))) := by rw [batsV_row]; exact len_rowV o s
theorem vIdx_batsV (o : Seg) (i : Nat) (hi : i < (o.getD []).length) : vIdx 6 (batsV o) (.lit (.int .i64 i)) = some (.elt (batC ((o.getD []).getD i b0)) 0) := by
  cases o with
  | none => simp at hi
  | some l => exact idx_rowL batC_len b0 l .i64 hi
theorem lcells_batsV (o : Seg) (s : HS) : lcells s 6 (batsV o) = some (batsC (o.getD [])) := by rw [batsV_row]; exact lcells_rowV o s
theorem llen_batsV (o : Seg) : llen (batsV o) = (o.getD []).length := by rw [batsV_row]; exact llen_rowV o
theorem hc_batsV (o : Seg) : hcells (batsV o) = some [batsV o] := by cases o <;> rfl
theorem ho_batsV (o : Seg) : hone (batsV o) = true := by cases o <;> rfl
theorem all {s : HS} (segs : List Seg) (dirty : Int) (c : Cfg) (now : Int) (hn : segs.length ≤ 100000) (hf : (flatS segs).length ≤ 100000) (hs : ∀ x ∈ segs, ∀ b ∈ x.getD [], OkB b) :
    HC Try.prog 15 [rowL segC 1 segs, .lit (.int .i64 dirty), .agg (cfgC c), .lit (.int .i64 now)] s (fun v s' => s' = s ∧ v = if segs = [] then .tup [nilV, .lit (.int .i64 dirty), .lit (.int .i64 0)] else
      .tup [segsV (outsF (cleanMap segs dirty c.mm).1.1 (cleanMap segs dirty c.mm).2 now c.grace (segs.length - 1) segs), .lit (.int .i64 (cleanMap segs dirty c.mm).2), .lit (.int .i64 (goneF (cleanMap segs dirty c.mm).1.1 (cleanMap segs dirty c.mm).2 now c.grace (segs.length - 1) segs))]) := by
  refine HC.up (HC15 ?_)
  unfold c15
  have hb9 : hcells (.agg (cfgC c)) = some (cfgC c) := rfl
  unfold hBox
  rw [hb9]
  intro p0 hp0
  simp only [Try.underlying22, len_rowL, bindO]
  obtain ⟨t0, ht0⟩ : ∃ t, t = s.set p0 (.cells (cfgC c)) := ⟨_, rfl⟩
  have hcfg : t0 p0 = some (.cells (cfgC c)) := by rw [ht0, set_at]
  have hst0 : HS.le s t0 := by rw [ht0]; exact le_set_new _ (le_refl' s) hp0
  rw [← ht0]
  clear ht0
  by_cases hne : segs = []
  · subst hne
    simp only [List.length_nil, if_true, vCmp, vBin, hcond]
    exact ⟨_, s, UpL.le _ hst0, rfl, rfl⟩
  have hpos : 0 < segs.length := List.length_pos_iff.2 hne
  have hw : IntKind.i64.wrap ((segs.length : Int) - 1) = ((segs.length - 1 : Nat) : Int) := by rw [w64 (by omega) (by omega)]; omega
  have h0 : ((segs.length : Int) == 0) = false := by simp; exact hne
  obtain ⟨last, hlast⟩ : ∃ n, n = segs.length - 1 := ⟨_, rfl⟩
  rw [← hlast] at hw
  simp only [vCmp, vBin, h0, hcond, if_true, hw, slice_rowL_hi segC_len segs .i64 (show last ≤ segs.length by omega), len_rowL]
  have hlen2 : (segs.take last).length = last := by rw [List.length_take]; omega
  rw [hlen2]
  have hflat : ∀ i, (flatS (segs.take i)).length ≤ 100000 := by
    intro i
    refine Nat.le_trans ?_ hf
    have := congrArg List.length (flatS_app (segs.take i) (segs.drop i))
    rw [List.take_append_drop, List.length_append] at this
    omega
  refine HLoop.ghost (σ := HV × Nat) (fun g => [g.1, .lit (.int .i64 g.2)]) (fun g t => g.2 ≤ last ∧ HS.le t0 t ∧ Acc t0 t 6 g.1 (flatS (segs.take g.2)).length (batsC (flatS (segs.take g.2)))) (fun g => last - g.2) (nilV, 0) rfl ⟨Nat.zero_le _, le_refl' _, Acc.nil _ _ _⟩ ?_
  rintro ⟨A, i⟩ t K ⟨hi, hst, ho⟩ hK
  simp only at hi hst ho
  simp only [List.tail_cons, List.headD_cons]
  by_cases hlt : i < last
  · have hlt' : (i : Int) < (last : Int) := by omega
    have htk := take_succ' (none : Seg) segs (i := i) (by omega)
    have hgt : (segs.take last).getD i none = segs.getD i none := by simp [List.getD, List.getElem?_take, hlt]
    simp only [hlt', decide_true, idx_rowL segC_len none (segs.take last) .i64 (by rw [hlen2]; exact hlt), load_elt1, hgt]
    generalize segs.getD i none = x at *
    have hx : (segC x)[0]? = some (batsV x) := rfl
    simp only [hx]
    have hfl : flatS (segs.take (i + 1)) = flatS (segs.take i) ++ x.getD [] := by rw [htk, flatS_app]; simp [flatS]
    have hfl2 := hflat (i + 1)
    rw [hfl, List.length_append] at hfl2
    refine ho.app hst (lcells_batsV x t) (llen_batsV x) (batsC_len _) ⟨by omega, by omega⟩ ?_
    intro A' t' g1 g2 _
    refine hK (A', i + 1) _ _ (by rw [w64 (by omega) (by omega)]; rfl) ⟨hlt, g2, ?_⟩ (by show last - (i + 1) < last - i; omega)
    rw [hfl, List.length_append, batsC_app]
    exact g1
  · obtain rfl : i = last := by omega
    have hlt' : ¬ (i : Int) < (i : Int) := by omega
    have hp0t : t p0 = some (.cells (cfgC c)) := hst _ _ hcfg
    have hc7 : (cfgC c)[7]? = some (.lit (.int .i64 c.mm)) := rfl
    have hmx : (if (1 : Int) > c.mm then 1 else c.mm) = max c.mm 1 := by omega
    simp only [hlt', decide_false, vField, vLoad, hp0t, takeCells, Bool.false_eq_true, if_false, Nat.zero_add, hc7, hfold, vMax2, Option.bind_some, hmx]
    refine HC.upArgs (args' := [.list 6 (flatS (segs.take i)).length (batsC (flatS (segs.take i))) false, .lit (.int .i64 dirty), .lit (.int .i64 (max c.mm 1))]) (s' := t0) (ho.upAtL hst [] [.lit (.int .i64 dirty), .lit (.int .i64 (max c.mm 1))] (fun _ _ => rfl) (fun _ _ => rfl)) ?_
    have hsm : ∀ j, ∀ x ∈ segs.take j, ∀ b ∈ x.getD [], OkB b := fun j x hx => hs x (List.mem_of_mem_take hx)
    refine (build (flatS (segs.take i)) dirty (max c.mm 1) t0 (hflat i) ?_).mono ?_
    · intro b hb
      obtain ⟨x, hx, hbx⟩ := List.mem_flatMap.1 hb
      obtain ⟨r, h1, h2, h3, h4⟩ := hsm _ x hx b hbx
      exact ⟨r, h1, h3⟩
    have hcm : buildF (min (max (max c.mm 1) 1) 1000000) dirty (flatS (segs.take i)) (fun _ => none, 0) dirty = cleanMap segs dirty c.mm := by rw [hlast]; rfl
    rw [hcm]
    generalize cleanMap segs dirty c.mm = CM at *
    obtain ⟨⟨M, nM⟩, upto⟩ := CM
    simp only
    rintro v s1 ⟨p, mid, rfl, hs1, hkm⟩
    simp only [vExtract, List.getElem?_cons_zero, List.getElem?_cons_succ, len_rowL]
    clear hK ho hst hp0t
    have hcfg1 := hs1 _ _ hcfg
    refine HLoop.ghost (σ := HV × Nat) (fun g => [g.1, .lit (.int .i64 (goneF M upto now c.grace i (segs.take g.2))), .lit (.int .i64 g.2)]) (fun g t => g.2 ≤ segs.length ∧ HS.le s1 t ∧ Acc s1 t 1 g.1 (outsF M upto now c.grace i (segs.take g.2)).length (rows segC (outsF M upto now c.grace i (segs.take g.2)))) (fun g => segs.length - g.2) (nilV, 0) rfl ⟨Nat.zero_le _, le_refl' _, Acc.nil _ _ _⟩ ?_
    rintro ⟨A, j⟩ t K ⟨hj, hst, ho⟩ hK
    simp only at hj hst ho
    simp only [List.tail_cons, List.headD_cons]
    by_cases hlt : j < segs.length
    · have hltj : (j : Int) < (segs.length : Int) := by omega
      have htk := take_succ' (none : Seg) segs (i := j) (by omega)
      have hxm : ∀ b ∈ (segs.getD j none).getD [], OkB b := hs _ (getD_mem hlt)
      have hxl : ((segs.getD j none).getD []).length ≤ 100000 := by
        have h1 := hflat (j + 1)
        rw [htk, flatS_app, List.length_append] at h1
        have : flatS [segs.getD j none] = (segs.getD j none).getD [] := by simp [flatS]
        rw [this] at h1
        omega
      simp only [hltj, decide_true, idx_rowL segC_len none segs .i64 hlt, load_elt1]
      generalize segs.getD j none = x at *
      have hx : (segC x)[0]? = some (batsV x) := rfl
      simp only [hx]
      have hO : outsF M upto now c.grace i (segs.take (j + 1)) = outsF M upto now c.grace i (segs.take j) ++ [cleanAt M upto now c.grace i j x] := by
        rw [htk]; unfold outsF; rw [List.mapIdx_concat, List.length_take, Nat.min_eq_left hj]
      have hG : goneF M upto now c.grace i (segs.take (j + 1)) = IntKind.i64.wrap (goneF M upto now c.grace i (segs.take j) + goneAt M upto now c.grace i j x) := by
        rw [htk]; unfold goneF; rw [List.mapIdx_concat, List.foldl_append, List.length_take, Nat.min_eq_left hj]; rfl
      have hOl : (outsF M upto now c.grace i (segs.take j)).length = j := by unfold outsF; rw [List.length_mapIdx, List.length_take]; omega
      -- what is kept is put in
      have fin : ∀ (t1 : HS), HS.le s1 t1 → Acc s1 t1 1 A (outsF M upto now c.grace i (segs.take j)).length (rows segC (outsF M upto now c.grace i (segs.take j))) → ((cleanAt M upto now c.grace i j x).getD []).length ≤ 100000 →
          HC Try.prog 48 [batsV x] t1 (fun r58 s59 => HC Try.prog 48 [batsV (cleanAt M upto now c.grace i j x)] s59 (fun r60 s61 => bindO (vBin .sub r58 r60) fun x62 => bindO (vBin .add (.lit (.int .i64 (goneF M upto now c.grace i (segs.take j)))) x62) fun x63 => hBS s61 1 1 [.lit (.slice none 0 0)] [(0, batsV (cleanAt M upto now c.grace i j x))] (fun x64 s65 => hAppend s65 1 24 A x64 (fun x66 s67 => bindO (vBin .add (.lit (.int .i64 j)) (.lit (.int .i64 1))) fun x68 => K [x66, x63, x68] s67)))) := by
        intro t1 h1 h2 h3
        refine (count' x t1 hxl).mono ?_
        rintro v t2 ⟨rfl, rfl⟩
        refine (count' _ t2 h3).mono ?_
        rintro v t3 ⟨rfl, rfl⟩
        simp only [vBin, bindO, if_true]
        refine h2.app1 h1 (hc_batsV _) rfl rfl ⟨by omega, by omega⟩ ?_
        intro A' t' g1 g2 _
        refine hK (A', j + 1) _ _ ?_ ⟨hlt, g2, ?_⟩ (by show segs.length - (j + 1) < segs.length - j; omega)
        · rw [w64 (x := (j : Int) + 1) (by omega) (by omega)]
          show _ = [A', HV.lit (Value.int IntKind.i64 (goneF M upto now c.grace i (segs.take (j + 1)))), _]
          rw [hG]; rfl
        · rw [hO, rows_app, rows_one, List.length_append]; exact g1
      unfold Join
      by_cases hji : j < i
      · have hji' : (j : Int) < (i : Int) := by omega
        have hc6 : (cfgC c)[6]? = some (.lit (.int .i64 c.grace)) := rfl
        simp only [hji', decide_true, hst _ _ hcfg1, if_true, hc6]
        refine HC.upArgs (upSeg x _ t) ?_
        refine (segment (hkm.le hst) (x.getD []) hxl (fun b hb => ?_) upto now c.grace).mono ?_
        · obtain ⟨r, g1, g2, g3, g4⟩ := hxm b hb
          exact ⟨r, g1, g3, g4⟩
        rintro v t2 ⟨rfl, rfl⟩
        have hca : orNil (keptB M upto now c.grace (x.getD [])) = cleanAt M upto now c.grace i j x := by unfold cleanAt; rw [if_pos hji]
        rw [hca]
        exact fin t2 hst ho (by rw [← hca, getD_orNil]; exact Nat.le_trans (keptB_len _ _ _ _ _) hxl)
      · have hji' : ¬ (j : Int) < (i : Int) := by omega
        simp only [hji', decide_false, if_true, len_batsV]
        have hca : orNil (x.getD []) = cleanAt M upto now c.grace i j x := by unfold cleanAt; rw [if_neg hji]
        obtain ⟨l, hl⟩ : ∃ l, l = x.getD [] := ⟨_, rfl⟩
        rw [← hl] at hca hxl hxm ⊢
        refine HLoop.ghostU (σ := HV × Nat) (fun g => [if g.2 = l.length then batsV (orNil l) else g.1, .lit (.int .i64 g.2)]) (fun g t' => g.2 ≤ l.length ∧ HS.le t t' ∧ (g.2 = l.length → t' = t) ∧ (g.2 ≠ l.length → Acc t t' 6 g.1 g.2 (batsC (l.take g.2)))) (fun g => l.length - g.2) (nilV, 0) t ?_ ⟨Nat.zero_le _, le_refl' _, fun _ => rfl, fun _ => Acc.nil _ _ _⟩ ?_
        · by_cases h0 : 0 = l.length
          · have : l = [] := List.eq_nil_of_length_eq_zero h0.symm
            rw [if_pos h0, this]
            exact UpL.refl _ _
          · rw [if_neg h0]
            exact UpL.refl _ _
        rintro ⟨B, k⟩ t2 K2 ⟨hk, hst2, he2, ho2⟩ hK2
        simp only at hk hst2 he2 ho2
        simp only [List.tail_cons, List.headD_cons]
        by_cases hkl : k < l.length
        · have hkl' : (k : Int) < (l.length : Int) := by omega
          have hkn : k ≠ l.length := by omega
          have ho2 := ho2 hkn
          have hkt := take_succ' b0 l (i := k) hkl
          have hym : OkB (l.getD k b0) := hxm _ (getD_mem hkl)
          simp only [hkl', decide_true, vIdx_batsV x k (by rw [← hl]; exact hkl), load_elt _ _ 6 (batC_len _), if_neg hkn]
          rw [← hl]
          generalize l.getD k b0 = y at *
          intro X hX
          simp [bindO, hcond, vCmp, vBin, vUn, vField, takeCells, vLoad, vExtract, hNew, hStore, hBox, hc_int, hc_bool, hc_agg, hc_list, hc_view, hc_ptr, ho_int, ho_bool, putCells, set_at, Join, batC_len, ho_batC, hcb, hc_recs, ho_recs]
          obtain ⟨r, g1, g2, g3, g4⟩ := hym
          refine (copy y r _ g1 g3 g4 g2).mono ?_
          rintro v t3 ⟨rfl, rfl⟩
          have hle3 := le_set_new (.cells (batC y)) hst2 hX
          have ho3 := ho2.new (.cells (batC y)) hX
          rw [set_set]
          refine ho3.app1 hle3 rfl rfl rfl ⟨by omega, by omega⟩ ?_
          intro A' t' q1 q2 _
          have q1' : Acc t t' 6 A' (k + 1) (batsC (l.take (k + 1))) := by rw [hkt, batsC_app]; simpa [batsC] using q1
          have hw1 : IntKind.i64.wrap ((k : Int) + 1) = ((k + 1 : Nat) : Int) := by rw [w64 (by omega) (by omega)]; rfl
          rw [hw1]
          by_cases hend : k + 1 = l.length
          · refine hK2 (A', k + 1) _ _ t ?_ ⟨hkl, le_refl' _, fun _ => rfl, fun h => absurd hend h⟩ (by show l.length - (k + 1) < l.length - k; omega)
            simp only [if_pos hend]
            have := q1'.upAt q2 [] [.lit (.int .i64 ((k + 1 : Nat) : Int))] (fun _ _ => rfl) (fun _ _ => rfl)
            rw [hend, List.take_length, accV_bats] at this
            rw [hend]
            exact this
          · refine hK2 (A', k + 1) _ _ t' ?_ ⟨hkl, q2, fun h => absurd h hend, fun _ => q1'⟩ (by show l.length - (k + 1) < l.length - k; omega)
            simp only [if_neg hend]
            exact UpL.refl _ _
        · obtain rfl : k = l.length := by omega
          have hlt' : ¬ (l.length : Int) < (l.length : Int) := by omega
          obtain rfl := he2 rfl
          simp only [hlt', decide_false, if_true]
          rw [hca]
          exact fin t2 hst ho (by rw [← hca, getD_orNil]; exact hxl)
    · obtain rfl : j = segs.length := by omega
      have hlt' : ¬ (segs.length : Int) < (segs.length : Int) := by omega
      simp only [hlt', decide_false]
      rw [List.take_length] at ho ⊢
      refine ⟨_, s, ?_, rfl, rfl⟩
      rw [if_neg hne]
      have := ho.upT hst [] [.lit (.int .i64 upto), .lit (.int .i64 (goneF M upto now c.grace i segs))] (fun _ _ => rfl) (fun _ _ => rfl)
      rw [accV_segs] at this
      rw [← hlast]
      exact this.trans (UpL.le _ (HS.le.trans hst0 hs1))
end Go.Proofs.Ytecnfekcflfihaa.CL
