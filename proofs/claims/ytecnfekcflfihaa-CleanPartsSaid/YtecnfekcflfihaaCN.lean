/- Clean over the H layer: all segments of a log. -/
import Derived.Test.YtecnfekcflfihaaCM
import Derived.Test.YtecnfekcflfihaaHB
import Derived.Test.YtecnfekcflfihaaC1
import Derived.Test.YtecnfekcflfihaaC2
import Derived.Test.YtecnfekcflfihaaC3
/- Clean over the H layer: all segments of a log. -/
namespace Go.Proofs.Ytecnfekcflfihaa.CL
open Go.Proofs.Ytecnfekcflfihaa.H Go.Proofs.Ytecnfekcflfihaa.C0
set_option linter.unusedVariables false
set_option linter.unusedSimpArgs false
set_option maxRecDepth 100000
structure Cfg where
  n0 : Int
  n1 : Int
  n2 : Int
  n3 : Int
  n4 : Int
  b5 : Bool
  grace : Int
  mm : Int
  b8 : Bool
def cfgC (c : Cfg) : List HV := [.lit (.int .i64 c.n0), .lit (.int .i64 c.n1), .lit (.int .i64 c.n2), .lit (.int .i64 c.n3), .lit (.int .i64 c.n4), .lit (.bool c.b5), .lit (.int .i64 c.grace), .lit (.int .i64 c.mm), .lit (.bool c.b8)]
abbrev Seg := Option (List Bat)
theorem batsC_rows (l : List Bat) : batsC l = rows batC l := rfl
theorem batsV_row (o : Seg) : batsV o = rowV batC 6 o := by cases o <;> rfl
def segC (x : Seg) : List HV := [batsV x]
theorem segC_len (x : Seg) : (segC x).length = 1 := rfl
def OkB (b : Bat) : Prop := ∃ r, b.recs = some r ∧ r ≠ [] ∧ r.length ≤ 100000 ∧ ∀ x ∈ r, ShortR x
def flatS (l : List Seg) : List Bat := l.flatMap fun x => x.getD []
theorem flatS_app (a b : List Seg) : flatS (a ++ b) = flatS a ++ flatS b := by simp [flatS]
def cleanAt (M : Value → Option Int) (upto now grace : Int) (last i : Nat) (x : Seg) : Seg := if i < last then orNil (keptB M upto now grace (x.getD [])) else orNil (x.getD [])
def goneAt (M : Value → Option Int) (upto now grace : Int) (last i : Nat) (x : Seg) : Int := IntKind.i64.wrap (cntF (x.getD []) - cntF ((cleanAt M upto now grace last i x).getD []))
def outsF (M : Value → Option Int) (upto now grace : Int) (last : Nat) (l : List Seg) : List Seg := l.mapIdx (cleanAt M upto now grace last)
def goneF (M : Value → Option Int) (upto now grace : Int) (last : Nat) (l : List Seg) : Int := (l.mapIdx (goneAt M upto now grace last)).foldl (fun a d => IntKind.i64.wrap (a + d)) 0
/-- The map, and up to where, that a cleaning builds. -/
noncomputable def cleanMap (segs : List Seg) (dirty mm : Int) : ((Value → Option Int) × Nat) × Int := buildF (min (max (max mm 1) 1) 1000000) dirty (flatS (segs.take (segs.length - 1))) (fun _ => none, 0) dirty
def segsV (l : List Seg) : HV := rowV segC 1 (orNil l)
theorem getD_orNil {α : Type} (l : List α) : (orNil l).getD [] = l := by cases l <;> rfl
theorem accV_segs (l : List Seg) : accV 1 l.length (rows segC l) = segsV l := by cases l <;> simp [accV, rowV, rowL, segsV, orNil]
theorem accV_bats (l : List Bat) : accV 6 l.length (batsC l) = batsV (orNil l) := by cases l <;> simp [accV, batsV, orNil, batsC]
theorem upSeg (o : Seg) (zs : List HV) (t : HS) : UpL (batsV o :: zs) t (.list 6 (o.getD []).length (batsC (o.getD [])) false :: zs) t := by
  have := upRow batC 6 o [] zs t
  rw [batsV_row]
  exact this
theorem count' (o : Seg) (s : HS) (hl : (o.getD []).length ≤ 100000) : HC Try.prog 48 [batsV o] s (fun v s' => v = .lit (.int .i64 (cntF (o.getD []))) ∧ s' = s) := HC.upArgs (upSeg o [] s) (count _ s hl)
theorem len_batsV (o : Seg) (s : HS) : vLenT (Try.prog.underlying 31) s (batsV o) = some (.lit (.int .i64 ((o.getD []).length : Nat))) := by rw [batsV_row, Try.underlying31]; exact len_rowV o s
theorem len_batsV' (o : Seg) (s : HS) : vLenT (some (.slice 32)) s (batsV o) = some (.lit (.int .i64 ((o.getD []).length : Nat))) := by rw [batsV_row]; exact len_rowV o s
theorem vIdx_batsV (o : Seg) (i : Nat) (hi : i < (o.getD []).length) : vIdx 6 (batsV o) (.lit (.int .i64 i)) = some (.elt (batC ((o.getD []).getD i b0)) 0) := by
  cases o with
  | none => simp at hi
  | some l => exact idx_rowL batC_len b0 l .i64 hi
theorem lcells_batsV (o : Seg) (s : HS) : lcells s 6 (batsV o) = some (batsC (o.getD [])) := by rw [batsV_row]; exact lcells_rowV o s
theorem llen_batsV (o : Seg) : llen (batsV o) = (o.getD []).length := by rw [batsV_row]; exact llen_rowV o
theorem hc_batsV (o : Seg) : hcells (batsV o) = some [batsV o] := by cases o <;> rfl
theorem ho_batsV (o : Seg) : hone (batsV o) = true := by cases o <;> rfl
theorem all {s : HS} (segs : List Seg) (dirty : Int) (c : Cfg) (now : Int) (hn : segs.length ≤ 100000) (hf : (flatS segs).length ≤ 100000) (hs : ∀ x ∈ segs, ∀ b ∈ x.getD [], OkB b) :
    HC Try.prog 15 [rowL segC 1 segs, .lit (.int .i64 dirty), .agg (cfgC c), .lit (.int .i64 now)] s (fun v s' => s' = s ∧ v = if segs = [] then .tup [nilV, .lit (.int .i64 dirty), .lit (.int .i64 0)] else
      .tup [segsV (outsF (cleanMap segs dirty c.mm).1.1 (cleanMap segs dirty c.mm).2 now c.grace (segs.length - 1) segs), .lit (.int .i64 (cleanMap segs dirty c.mm).2), .lit (.int .i64 (goneF (cleanMap segs dirty c.mm).1.1 (cleanMap segs dirty c.mm).2 now c.grace (segs.length - 1) segs))]) := by
  refine HC.up (HC15 ?_)
  unfold c15
  have hb9 : hcells (.agg (cfgC c)) = some (cfgC c) := rfl
  unfold hBox
  rw [hb9]
  intro p0 hp0
  simp only [Try.underlying22, len_rowL, bindO]
  obtain ⟨t0, ht0⟩ : ∃ t, t = s.set p0 (.cells (cfgC c)) := ⟨_, rfl⟩
  have hcfg : t0 p0 = some (.cells (cfgC c)) := by rw [ht0, set_at]
  have hst0 : HS.le s t0 := by rw [ht0]; exact le_set_new _ (le_refl' s) hp0
  rw [← ht0]
  clear ht0
  by_cases hne : segs = []
  · subst hne
    simp only [List.length_nil, if_true, vCmp, vBin, hcond]
    exact ⟨_, s, UpL.le _ hst0, rfl, rfl⟩
  have hpos : 0 < segs.length := List.length_pos_iff.2 hne
  have hw : IntKind.i64.wrap ((segs.length : Int) - 1) = ((segs.length - 1 : Nat) : Int) := by rw [w64 (by omega) (by omega)]; omega
  have h0 : ((segs.length : Int) == 0) = false := by simp; exact hne
  obtain ⟨last, hlast⟩ : ∃ n, n = segs.length - 1 := ⟨_, rfl⟩
  rw [← hlast] at hw
  simp only [vCmp, vBin, h0, hcond, if_true, hw, slice_rowL_hi segC_len segs .i64 (show last ≤ segs.length by omega), len_rowL]
  have hlen2 : (segs.take last).length = last := by rw [List.length_take]; omega
  rw [hlen2]
  have hflat : ∀ i, (flatS (segs.take i)).length ≤ 100000 := by
    intro i
    refine Nat.le_trans ?_ hf
    have := congrArg List.length (flatS_app (segs.take i) (segs.drop i))
    rw [List.take_append_drop, List.length_append] at this
    omega
  refine HLoop.ghost (σ := HV × Nat) (fun g => [g.1, .lit (.int .i64 g.2)]) (fun g t => g.2 ≤ last ∧ HS.le t0 t ∧ Acc t0 t 6 g.1 (flatS (segs.take g.2)).length (batsC (flatS (segs.take g.2)))) (fun g => last - g.2) (nilV, 0) rfl ⟨Nat.zero_le _, le_refl' _, Acc.nil _ _ _⟩ ?_
  rintro ⟨A, i⟩ t K ⟨hi, hst, ho⟩ hK
  simp only at hi hst ho
  simp only [List.tail_cons, List.headD_cons]
  by_cases hlt : i < last
  · have hlt' : (i : Int) < (last : Int) := by omega
    have htk := take_succ' (none : Seg) segs (i := i) (by omega)
    have hgt : (segs.take last).getD i none = segs.getD i none := by simp [List.getD, List.getElem?_take, hlt]
    simp only [hlt', decide_true, idx_rowL segC_len none (segs.take last) .i64 (by rw [hlen2]; exact hlt), load_elt1, hgt]
    generalize segs.getD i none = x at *
    have hx : (segC x)[0]? = some (batsV x) := rfl
    simp only [hx]
    have hfl : flatS (segs.take (i + 1)) = flatS (segs.take i) ++ x.getD [] := by rw [htk, flatS_app]; simp [flatS]
    have hfl2 := hflat (i + 1)
    rw [hfl, List.length_append] at hfl2
    refine ho.app hst (lcells_batsV x t) (llen_batsV x) (batsC_len _) ⟨by omega, by omega⟩ ?_
    intro A' t' g1 g2 _
    refine hK (A', i + 1) _ _ (by rw [w64 (by omega) (by omega)]; rfl) ⟨hlt, g2, ?_⟩ (by show last - (i + 1) < last - i; omega)
    rw [hfl, List.length_append, batsC_app]
    exact g1
  · obtain rfl : i = last := by omega
    have hlt' : ¬ (i : Int) < (i : Int) := by omega
    have hp0t : t p0 = some (.cells (cfgC c)) := hst _ _ hcfg
    have hc7 : (cfgC c)[7]? = some (.lit (.int .i64 c.mm)) := rfl
    have hmx : (if (1 : Int) > c.mm then 1 else c.mm) = max c.mm 1 := by omega
    simp only [hlt', decide_false, vField, vLoad, hp0t, takeCells, Bool.false_eq_true, if_false, Nat.zero_add, hc7, hfold, vMax2, Option.bind_some, hmx]
    refine HC.upArgs (args' := [.list 6 (flatS (segs.take i)).length (batsC (flatS (segs.take i))) false, .lit (.int .i64 dirty), .lit (.int .i64 (max c.mm 1))]) (s' := t0) (ho.upAtL hst [] [.lit (.int .i64 dirty), .lit (.int .i64 (max c.mm 1))] (fun _ _ => rfl) (fun _ _ => rfl)) ?_
    have hsm : ∀ j, ∀ x ∈ segs.take j, ∀ b ∈ x.getD [], OkB b := fun j x hx => hs x (List.mem_of_mem_take hx)
    refine (build (flatS (segs.take i)) dirty (max c.mm 1) t0 (hflat i) ?_).mono ?_
    · intro b hb
      obtain ⟨x, hx, hbx⟩ := List.mem_flatMap.1 hb
      obtain ⟨r, h1, h2, h3, h4⟩ := hsm _ x hx b hbx
      exact ⟨r, h1, h3⟩
    have hcm : buildF (min (max (max c.mm 1) 1) 1000000) dirty (flatS (segs.take i)) (fun _ => none, 0) dirty = cleanMap segs dirty c.mm := by rw [hlast]; rfl
    rw [hcm]
    generalize cleanMap segs dirty c.mm = CM at *
    obtain ⟨⟨M, nM⟩, upto⟩ := CM
    simp only
    rintro v s1 ⟨p, mid, rfl, hs1, hkm⟩
    simp only [vExtract, List.getElem?_cons_zero, List.getElem?_cons_succ, len_rowL]
    clear hK ho hst hp0t
    have hcfg1 := hs1 _ _ hcfg
    refine HLoop.ghost (σ := HV × Nat) (fun g => [g.1, .lit (.int .i64 (goneF M upto now c.grace i (segs.take g.2))), .lit (.int .i64 g.2)]) (fun g t => g.2 ≤ segs.length ∧ HS.le s1 t ∧ Acc s1 t 1 g.1 (outsF M upto now c.grace i (segs.take g.2)).length (rows segC (outsF M upto now c.grace i (segs.take g.2)))) (fun g => segs.length - g.2) (nilV, 0) rfl ⟨Nat.zero_le _, le_refl' _, Acc.nil _ _ _⟩ ?_
    rintro ⟨A, j⟩ t K ⟨hj, hst, ho⟩ hK
    simp only at hj hst ho
    simp only [List.tail_cons, List.headD_cons]
    by_cases hlt : j < segs.length
    · have hltj : (j : Int) < (segs.length : Int) := by omega
      have htk := take_succ' (none : Seg) segs (i := j) (by omega)
      have hxm : ∀ b ∈ (segs.getD j none).getD [], OkB b := hs _ (getD_mem hlt)
      have hxl : ((segs.getD j none).getD []).length ≤ 100000 := by
        have h1 := hflat (j + 1)
        rw [htk, flatS_app, List.length_append] at h1
        have : flatS [segs.getD j none] = (segs.getD j none).getD [] := by simp [flatS]
        rw [this] at h1
        omega
      simp only [hltj, decide_true, idx_rowL segC_len none segs .i64 hlt, load_elt1]
      generalize segs.getD j none = x at *
      have hx : (segC x)[0]? = some (batsV x) := rfl
      simp only [hx]
      have hO : outsF M upto now c.grace i (segs.take (j + 1)) = outsF M upto now c.grace i (segs.take j) ++ [cleanAt M upto now c.grace i j x] := by
        rw [htk]; unfold outsF; rw [List.mapIdx_concat, List.length_take, Nat.min_eq_left hj]
      have hG : goneF M upto now c.grace i (segs.take (j + 1)) = IntKind.i64.wrap (goneF M upto now c.grace i (segs.take j) + goneAt M upto now c.grace i j x) := by
        rw [htk]; unfold goneF; rw [List.mapIdx_concat, List.foldl_append, List.length_take, Nat.min_eq_left hj]; rfl
      have hOl : (outsF M upto now c.grace i (segs.take j)).length = j := by unfold outsF; rw [List.length_mapIdx, List.length_take]; omega
      -- what is kept is put in
      have fin : ∀ (t1 : HS), HS.le s1 t1 → Acc s1 t1 1 A (outsF M upto now c.grace i (segs.take j)).length (rows segC (outsF M upto now c.grace i (segs.take j))) → ((cleanAt M upto now c.grace i j x).getD []).length ≤ 100000 →
          HC Try.prog 48 [batsV x] t1 (fun r58 s59 => HC Try.prog 48 [batsV (cleanAt M upto now c.grace i j x)] s59 (fun r60 s61 => bindO (vBin .sub r58 r60) fun x62 => bindO (vBin .add (.lit (.int .i64 (goneF M upto now c.grace i (segs.take j)))) x62) fun x63 => hBS s61 1 1 [.lit (.slice none 0 0)] [(0, batsV (cleanAt M upto now c.grace i j x))] (fun x64 s65 => hAppend s65 1 24 A x64 (fun x66 s67 => bindO (vBin .add (.lit (.int .i64 j)) (.lit (.int .i64 1))) fun x68 => K [x66, x63, x68] s67)))) := by
        intro t1 h1 h2 h3
        refine (count' x t1 hxl).mono ?_
        rintro v t2 ⟨rfl, rfl⟩
        refine (count' _ t2 h3).mono ?_
        rintro v t3 ⟨rfl, rfl⟩
        simp only [vBin, bindO, if_true]
        refine h2.app1 h1 (hc_batsV _) rfl rfl ⟨by omega, by omega⟩ ?_
        intro A' t' g1 g2 _
        refine hK (A', j + 1) _ _ ?_ ⟨hlt, g2, ?_⟩ (by show segs.length - (j + 1) < segs.length - j; omega)
        · rw [w64 (x := (j : Int) + 1) (by omega) (by omega)]
          show _ = [A', HV.lit (Value.int IntKind.i64 (goneF M upto now c.grace i (segs.take (j + 1)))), _]
          rw [hG]; rfl
        · rw [hO, rows_app, rows_one, List.length_append]; exact g1
      unfold Join
      by_cases hji : j < i
      · have hji' : (j : Int) < (i : Int) := by omega
        have hc6 : (cfgC c)[6]? = some (.lit (.int .i64 c.grace)) := rfl
        simp only [hji', decide_true, hst _ _ hcfg1, if_true, hc6]
        refine HC.upArgs (upSeg x _ t) ?_
        refine (segment (hkm.le hst) (x.getD []) hxl (fun b hb => ?_) upto now c.grace).mono ?_
        · obtain ⟨r, g1, g2, g3, g4⟩ := hxm b hb
          exact ⟨r, g1, g3, g4⟩
        rintro v t2 ⟨rfl, rfl⟩
        have hca : orNil (keptB M upto now c.grace (x.getD [])) = cleanAt M upto now c.grace i j x := by unfold cleanAt; rw [if_pos hji]
        rw [hca]
        exact fin t2 hst ho (by rw [← hca, getD_orNil]; exact Nat.le_trans (keptB_len _ _ _ _ _) hxl)
      · have hji' : ¬ (j : Int) < (i : Int) := by omega
        simp only [hji', decide_false, if_true, len_batsV]
        have hca : orNil (x.getD []) = cleanAt M upto now c.grace i j x := by unfold cleanAt; rw [if_neg hji]
        obtain ⟨l, hl⟩ : ∃ l, l = x.getD [] := ⟨_, rfl⟩
        rw [← hl] at hca hxl hxm ⊢
        refine HLoop.ghostU (σ := HV × Nat) (fun g => [if g.2 = l.length then batsV (orNil l) else g.1, .lit (.int .i64 g.2)]) (fun g t' => g.2 ≤ l.length ∧ HS.le t t' ∧ (g.2 = l.length → t' = t) ∧ (g.2 ≠ l.length → Acc t t' 6 g.1 g.2 (batsC (l.take g.2)))) (fun g => l.length - g.2) (nilV, 0) t ?_ ⟨Nat.zero_le _, le_refl' _, fun _ => rfl, fun _ => Acc.nil _ _ _⟩ ?_
        · by_cases h0 : 0 = l.length
          · have : l = [] := List.eq_nil_of_length_eq_zero h0.symm
            rw [if_pos h0, this]
            exact UpL.refl _ _
          · rw [if_neg h0]
            exact UpL.refl _ _
        rintro ⟨B, k⟩ t2 K2 ⟨hk, hst2, he2, ho2⟩ hK2
        simp only at hk hst2 he2 ho2
        simp only [List.tail_cons, List.headD_cons]
        by_cases hkl : k < l.length
        · have hkl' : (k : Int) < (l.length : Int) := by omega
          have hkn : k ≠ l.length := by omega
          have ho2 := ho2 hkn
          have hkt := take_succ' b0 l (i := k) hkl
          have hym : OkB (l.getD k b0) := hxm _ (getD_mem hkl)
          simp only [hkl', decide_true, vIdx_batsV x k (by rw [← hl]; exact hkl), load_elt _ _ 6 (batC_len _), if_neg hkn]
          rw [← hl]
          generalize l.getD k b0 = y at *
          intro X hX
          simp [bindO, hcond, vCmp, vBin, vUn, vField, takeCells, vLoad, vExtract, hNew, hStore, hBox, hc_int, hc_bool, hc_agg, hc_list, hc_view, hc_ptr, ho_int, ho_bool, putCells, set_at, Join, batC_len, ho_batC, hcb, hc_recs, ho_recs]
          obtain ⟨r, g1, g2, g3, g4⟩ := hym
          refine (copy y r _ g1 g3 g4 g2).mono ?_
          rintro v t3 ⟨rfl, rfl⟩
          have hle3 := le_set_new (.cells (batC y)) hst2 hX
          have ho3 := ho2.new (.cells (batC y)) hX
          rw [set_set]
          refine ho3.app1 hle3 rfl rfl rfl ⟨by omega, by omega⟩ ?_
          intro A' t' q1 q2 _
          have q1' : Acc t t' 6 A' (k + 1) (batsC (l.take (k + 1))) := by rw [hkt, batsC_app]; simpa [batsC] using q1
          have hw1 : IntKind.i64.wrap ((k : Int) + 1) = ((k + 1 : Nat) : Int) := by rw [w64 (by omega) (by omega)]; rfl
          rw [hw1]
          by_cases hend : k + 1 = l.length
          · refine hK2 (A', k + 1) _ _ t ?_ ⟨hkl, le_refl' _, fun _ => rfl, fun h => absurd hend h⟩ (by show l.length - (k + 1) < l.length - k; omega)
            simp only [if_pos hend]
            have := q1'.upAt q2 [] [.lit (.int .i64 ((k + 1 : Nat) : Int))] (fun _ _ => rfl) (fun _ _ => rfl)
            rw [hend, List.take_length, accV_bats] at this
            rw [hend]
            exact this
          · refine hK2 (A', k + 1) _ _ t' ?_ ⟨hkl, q2, fun h => absurd h hend, fun _ => q1'⟩ (by show l.length - (k + 1) < l.length - k; omega)
            simp only [if_neg hend]
            exact UpL.refl _ _
        · obtain rfl : k = l.length := by omega
          have hlt' : ¬ (l.length : Int) < (l.length : Int) := by omega
          obtain rfl := he2 rfl
          simp only [hlt', decide_false, if_true]
          rw [hca]
          exact fin t2 hst ho (by rw [← hca, getD_orNil]; exact hxl)
    · obtain rfl : j = segs.length := by omega
      have hlt' : ¬ (segs.length : Int) < (segs.length : Int) := by omega
      simp only [hlt', decide_false]
      rw [List.take_length] at ho ⊢
      refine ⟨_, s, ?_, rfl, rfl⟩
      rw [if_neg hne]
      have := ho.upT hst [] [.lit (.int .i64 upto), .lit (.int .i64 (goneF M upto now c.grace i segs))] (fun _ _ => rfl) (fun _ _ => rfl)
      rw [accV_segs] at this
      rw [← hlast]
      exact this.trans (UpL.le _ (HS.le.trans hst0 hs1))
end Go.Proofs.Ytecnfekcflfihaa.CL

/- Clean over the H layer: the law of the grace. -/
namespace Go.Proofs.Ytecnfekcflfihaa.CL
open Go.Proofs.Ytecnfekcflfihaa.H Go.Proofs.Ytecnfekcflfihaa.C0
set_option linter.unusedVariables false
set_option linter.unusedSimpArgs false
set_option maxRecDepth 100000

def ra : Rec := ⟨0, 0, true, some [97], true, none⟩
def rb : Rec := ⟨1, 0, true, some [97], true, none⟩
def bab : Bat := ⟨0, 1, 0, 0, 0, some [ra, rb]⟩
theorem map_ab : (cleanMap [some [bab], none] 0 5) = ((put (fun _ => none) (kv (some [97])) 1, 1), 2) := by
  have h1 : IntKind.i64.wrap 1 = 1 := w64 (by omega) (by omega)
  have h2 : IntKind.i64.wrap 2 = 2 := w64 (by omega) (by omega)
  have hm : min (max (max (5 : Int) 1) 1) 1000000 = 5 := by decide
  have h3 : max (1 : Int) 0 = 1 := by decide
  have h4 : max (2 : Int) 0 = 2 := by decide
  unfold cleanMap
  rw [hm]
  simp [flatS, buildF, bab, ra, rb, freshF, freshStep, isFresh, put, h1, h2, h3, h4, offStep, offF]
  funext q
  simp only [put]
  split <;> rfl
theorem awake (s : HS) : HC Try.prog 14 [] s (fun v _ => v = .lit (.bool true)) := by
  refine HC14 ?_
  simp [c14, bindO, hcond, vCmp, vBin, vEq, vUn, vNil, vField, vLoad, takeCells, vIdx, vLenT, vLen, vExtract, hBS, hfill, hNew, hStore, hBox, hc_int, hc_bool, hc_string, hc_slice, hc_nilp, hc_nilm, hc_nilf, hc_agg, hc_list, hc_view, hc_ptr, hc_map, hc_func, ho_int, ho_bool, ho_string, ho_slice, ho_nilp, ho_nilm, ho_nilf, ho_list, ho_view, ho_ptr, ho_map, ho_func, putCells, hAppend, lcells, litCells, isNilS, llen, room, vMk, set_at, Join, vToInt, vSlice, cutAt, intAt, bl_len, bits64, bits64u, bits8, hfold, vMax2, vMin2, Try.underlying3, Try.underlying4, Try.underlying9, Try.underlying22, Try.underlying31, Try.underlying32, Try.underlying36, Try.underlying44, Try.underlying64, Try.underlying80, Try.underlying90, Try.underlying123, hMark]
  intro k hk R hR B hB G hG
  simp only [set_none_iff] at hR hB hG
  obtain ⟨n1, hR⟩ := hR
  obtain ⟨n2, n3, hB⟩ := hB
  obtain ⟨n4, n5, n6, hG⟩ := hG
  have m1 := Ne.symm n1
  have m2 := Ne.symm n2
  have m3 := Ne.symm n3
  have m4 := Ne.symm n4
  have m5 := Ne.symm n5
  have m6 := Ne.symm n6
  refine HC.frz (id := k) (cs := [.lit (.int .u8 97)]) (by simp [HS.set, *]) ?_
  simp [frzS_set, frzS_same, frzO, frz2, frz1, frz0, phi, List.map_cons, List.map_nil, n1, n2, n3, n4, n5, n6, m1, m2, m3, m4, m5, m6]
  refine HC.frz (id := R) (cs := recsC [ra, rb]) (by simp [HS.set, *]; rfl) ?_
  simp [frzS_set, frzS_same, frzO, frz2, frz1, frz0, phi, List.map_cons, List.map_nil, n1, n2, n3, n4, n5, n6, m1, m2, m3, m4, m5, m6, recsC_len]
  refine HC.frz (id := B) (cs := batsC [bab]) (by simp [HS.set, *]; rfl) ?_
  simp [frzS_set, frzS_same, frzO, frz2, frz1, frz0, phi, List.map_cons, List.map_nil, n1, n2, n3, n4, n5, n6, m1, m2, m3, m4, m5, m6, batsC_len]
  refine HC.frz (id := G) (cs := rows segC [some [bab], none]) (by simp [HS.set, *]; rfl) ?_
  simp [frzS_set, frzS_same, frzO, frz2, frz1, frz0, phi, List.map_cons, List.map_nil, n1, n2, n3, n4, n5, n6, m1, m2, m3, m4, m5, m6, rows_len segC_len]
  refine (all [some [bab], none] 0 ⟨0, 0, 0, 0, 0, false, 0, 5, false⟩ 0 (by simp) (by simp [flatS]) ?_).mono ?_
  · intro x hx b hb
    simp at hx
    rcases hx with rfl | rfl
    · simp at hb
      subst hb
      exact ⟨_, rfl, by simp, by simp, by intro r hr; simp at hr; rcases hr with rfl | rfl <;> exact ⟨by show (1 : Nat) ≤ _; omega, trivial⟩⟩
    · simp at hb
  · rintro v s' ⟨-, rfl⟩
    rw [if_neg (by simp), map_ab]
    have h1 : IntKind.i64.wrap 1 = 1 := w64 (by omega) (by omega)
    have h2 : IntKind.i64.wrap 2 = 2 := w64 (by omega) (by omega)
    simp [buildF, freshF, freshStep, isFresh, put, offStep, offF, flatS, cleanMap, w64, outsF, cleanAt, keptB, keptR, cutB, orNil, goneF, goneAt, cntF, List.mapIdx_cons, stays, put, bab, ra, rb, h1, h2]
    simp [bindO, hcond, vCmp, vBin, vEq, vUn, vNil, vField, vLoad, takeCells, vIdx, vLenT, vLen, vExtract, hBS, hfill, hNew, hStore, hBox, hc_int, hc_bool, hc_string, hc_slice, hc_nilp, hc_nilm, hc_nilf, hc_agg, hc_list, hc_view, hc_ptr, hc_map, hc_func, ho_int, ho_bool, ho_string, ho_slice, ho_nilp, ho_nilm, ho_nilf, ho_list, ho_view, ho_ptr, ho_map, ho_func, putCells, hAppend, lcells, litCells, isNilS, llen, room, vMk, set_at, Join, vToInt, vSlice, cutAt, intAt, bl_len, bits64, bits64u, bits8, hfold, vMax2, vMin2, Try.underlying3, Try.underlying4, Try.underlying9, Try.underlying22, Try.underlying31, Try.underlying32, Try.underlying36, Try.underlying44, Try.underlying64, Try.underlying80, Try.underlying90, Try.underlying123, hMark, segsV, rowV, rowL, rows, segC, batsV, batsC, batC, recsV, recsC, recC, byV, orNil, List.flatMap_cons, List.flatMap_nil]
-- CleanGrace
def ga : Rec := ⟨0, 0, true, some [107], true, some [118]⟩
def gb (at_ : Int) (value : Bool) : Rec := ⟨1, at_, true, some [107], value, none⟩
def ba : Bat := ⟨0, 0, 0, 0, 0, some [ga]⟩
def bb (at_ : Int) (value : Bool) : Bat := ⟨1, 1, 0, 0, 0, some [gb at_ value]⟩
theorem map_g (at_ : Int) (value : Bool) : (cleanMap [some [ba, bb at_ value], none] 0 9) = ((put (fun _ => none) (kv (some [107])) 1, 1), 2) := by
  have h0 : IntKind.i64.wrap 0 = 0 := w64 (by omega) (by omega)
  have h1 : IntKind.i64.wrap 1 = 1 := w64 (by omega) (by omega)
  have h2 : IntKind.i64.wrap 2 = 2 := w64 (by omega) (by omega)
  have hm : min (max (max (9 : Int) 1) 1) 1000000 = 9 := by decide
  have h3 : max (1 : Int) 0 = 1 := by decide
  have h4 : max (2 : Int) 0 = 2 := by decide
  unfold cleanMap
  rw [hm]
  simp [flatS, buildF, ba, bb, ga, gb, freshF, freshStep, isFresh, put, h0, h1, h2, h3, h4, offStep, offF]
  funext q
  simp only [put]
  split <;> rfl
theorem outs_stay (at_ grace now : Int) (value : Bool) (h : value = true ∨ now - at_ ≤ grace) (h0 : 0 ≤ at_) (h1 : at_ ≤ 1125899906842624) (h2 : 0 ≤ now) (h3 : now ≤ 1125899906842624) :
    outsF (put (fun _ => none) (kv (some [107])) 1) 2 now grace 1 [some [ba, bb at_ value], none] = [some [bb at_ value], none] ∧ goneF (put (fun _ => none) (kv (some [107])) 1) 2 now grace 1 [some [ba, bb at_ value], none] = 1 := by
  have e0 : IntKind.i64.wrap 0 = 0 := w64 (by omega) (by omega)
  have e1 : IntKind.i64.wrap 1 = 1 := w64 (by omega) (by omega)
  have e2 : IntKind.i64.wrap 2 = 2 := w64 (by omega) (by omega)
  have e3 : min (max now (-2305843009213693952)) 2305843009213693952 = now := by omega
  have e4 : min (max at_ (-2305843009213693952)) 2305843009213693952 = at_ := by omega
  cases value with
  | true => simp [buildF, freshF, freshStep, isFresh, put, offStep, offF, flatS, cleanMap, w64, outsF, cleanAt, keptB, keptR, cutB, orNil, goneF, goneAt, cntF, List.mapIdx_cons, stays, put, ba, bb, ga, gb, e0, e1, e2]
  | false =>
    have h5 : ¬ grace < now - at_ := by rcases h with h | h; cases h; omega
    simp [buildF, freshF, freshStep, isFresh, put, offStep, offF, flatS, cleanMap, w64, outsF, cleanAt, keptB, keptR, cutB, orNil, goneF, goneAt, cntF, List.mapIdx_cons, stays, put, ba, bb, ga, gb, e0, e1, e2, e3, e4, h5]
theorem outs_go (at_ grace now : Int) (h : grace < now - at_) (h0 : 0 ≤ at_) (h1 : at_ ≤ 1125899906842624) (h2 : 0 ≤ now) (h3 : now ≤ 1125899906842624) :
    outsF (put (fun _ => none) (kv (some [107])) 1) 2 now grace 1 [some [ba, bb at_ false], none] = [none, none] ∧ goneF (put (fun _ => none) (kv (some [107])) 1) 2 now grace 1 [some [ba, bb at_ false], none] = 2 := by
  have e0 : IntKind.i64.wrap 0 = 0 := w64 (by omega) (by omega)
  have e1 : IntKind.i64.wrap 1 = 1 := w64 (by omega) (by omega)
  have e2 : IntKind.i64.wrap 2 = 2 := w64 (by omega) (by omega)
  have e3 : min (max now (-2305843009213693952)) 2305843009213693952 = now := by omega
  have e4 : min (max at_ (-2305843009213693952)) 2305843009213693952 = at_ := by omega
  simp [buildF, freshF, freshStep, isFresh, put, offStep, offF, flatS, cleanMap, w64, outsF, cleanAt, keptB, keptR, cutB, orNil, goneF, goneAt, cntF, List.mapIdx_cons, stays, put, ba, bb, ga, gb, e0, e1, e2, e3, e4, h]
theorem grace_law (a0 a1 a2 : Int) (a3 : Bool) (s : HS) : HC Try.prog 5 [.lit (.int .i64 a0), .lit (.int .i64 a1), .lit (.int .i64 a2), .lit (.bool a3)] s (fun v _ => v = .lit (.bool true)) := by
  refine HC5 ?_
  by_cases c0 : a0 < 0
  · simp [c5, bindO, hcond, vCmp, vBin, vEq, vUn, vNil, vField, vLoad, takeCells, vIdx, vLenT, vLen, vExtract, hBS, hfill, hNew, hStore, hBox, hc_int, hc_bool, hc_string, hc_slice, hc_nilp, hc_nilm, hc_nilf, hc_agg, hc_list, hc_view, hc_ptr, hc_map, hc_func, ho_int, ho_bool, ho_string, ho_slice, ho_nilp, ho_nilm, ho_nilf, ho_list, ho_view, ho_ptr, ho_map, ho_func, putCells, hAppend, lcells, litCells, isNilS, llen, room, vMk, set_at, Join, vToInt, vSlice, cutAt, intAt, bl_len, bits64, bits64u, bits8, hfold, vMax2, vMin2, Try.underlying3, Try.underlying4, Try.underlying9, Try.underlying22, Try.underlying31, Try.underlying32, Try.underlying36, Try.underlying44, Try.underlying64, Try.underlying80, Try.underlying90, Try.underlying123, hMark, c0]
    exact awake s
  by_cases c1 : 1125899906842624 < a0
  · simp [c5, bindO, hcond, vCmp, vBin, vEq, vUn, vNil, vField, vLoad, takeCells, vIdx, vLenT, vLen, vExtract, hBS, hfill, hNew, hStore, hBox, hc_int, hc_bool, hc_string, hc_slice, hc_nilp, hc_nilm, hc_nilf, hc_agg, hc_list, hc_view, hc_ptr, hc_map, hc_func, ho_int, ho_bool, ho_string, ho_slice, ho_nilp, ho_nilm, ho_nilf, ho_list, ho_view, ho_ptr, ho_map, ho_func, putCells, hAppend, lcells, litCells, isNilS, llen, room, vMk, set_at, Join, vToInt, vSlice, cutAt, intAt, bl_len, bits64, bits64u, bits8, hfold, vMax2, vMin2, Try.underlying3, Try.underlying4, Try.underlying9, Try.underlying22, Try.underlying31, Try.underlying32, Try.underlying36, Try.underlying44, Try.underlying64, Try.underlying80, Try.underlying90, Try.underlying123, hMark, c0, c1]
    exact awake s
  by_cases c2 : a1 < 0
  · simp [c5, bindO, hcond, vCmp, vBin, vEq, vUn, vNil, vField, vLoad, takeCells, vIdx, vLenT, vLen, vExtract, hBS, hfill, hNew, hStore, hBox, hc_int, hc_bool, hc_string, hc_slice, hc_nilp, hc_nilm, hc_nilf, hc_agg, hc_list, hc_view, hc_ptr, hc_map, hc_func, ho_int, ho_bool, ho_string, ho_slice, ho_nilp, ho_nilm, ho_nilf, ho_list, ho_view, ho_ptr, ho_map, ho_func, putCells, hAppend, lcells, litCells, isNilS, llen, room, vMk, set_at, Join, vToInt, vSlice, cutAt, intAt, bl_len, bits64, bits64u, bits8, hfold, vMax2, vMin2, Try.underlying3, Try.underlying4, Try.underlying9, Try.underlying22, Try.underlying31, Try.underlying32, Try.underlying36, Try.underlying44, Try.underlying64, Try.underlying80, Try.underlying90, Try.underlying123, hMark, c0, c1, c2]
    exact awake s
  by_cases c3 : 1125899906842624 < a1
  · simp [c5, bindO, hcond, vCmp, vBin, vEq, vUn, vNil, vField, vLoad, takeCells, vIdx, vLenT, vLen, vExtract, hBS, hfill, hNew, hStore, hBox, hc_int, hc_bool, hc_string, hc_slice, hc_nilp, hc_nilm, hc_nilf, hc_agg, hc_list, hc_view, hc_ptr, hc_map, hc_func, ho_int, ho_bool, ho_string, ho_slice, ho_nilp, ho_nilm, ho_nilf, ho_list, ho_view, ho_ptr, ho_map, ho_func, putCells, hAppend, lcells, litCells, isNilS, llen, room, vMk, set_at, Join, vToInt, vSlice, cutAt, intAt, bl_len, bits64, bits64u, bits8, hfold, vMax2, vMin2, Try.underlying3, Try.underlying4, Try.underlying9, Try.underlying22, Try.underlying31, Try.underlying32, Try.underlying36, Try.underlying44, Try.underlying64, Try.underlying80, Try.underlying90, Try.underlying123, hMark, c0, c1, c2, c3]
    exact awake s
  by_cases c4 : a2 < 0
  · simp [c5, bindO, hcond, vCmp, vBin, vEq, vUn, vNil, vField, vLoad, takeCells, vIdx, vLenT, vLen, vExtract, hBS, hfill, hNew, hStore, hBox, hc_int, hc_bool, hc_string, hc_slice, hc_nilp, hc_nilm, hc_nilf, hc_agg, hc_list, hc_view, hc_ptr, hc_map, hc_func, ho_int, ho_bool, ho_string, ho_slice, ho_nilp, ho_nilm, ho_nilf, ho_list, ho_view, ho_ptr, ho_map, ho_func, putCells, hAppend, lcells, litCells, isNilS, llen, room, vMk, set_at, Join, vToInt, vSlice, cutAt, intAt, bl_len, bits64, bits64u, bits8, hfold, vMax2, vMin2, Try.underlying3, Try.underlying4, Try.underlying9, Try.underlying22, Try.underlying31, Try.underlying32, Try.underlying36, Try.underlying44, Try.underlying64, Try.underlying80, Try.underlying90, Try.underlying123, hMark, c0, c1, c2, c3, c4]
    exact awake s
  by_cases c5' : 1125899906842624 < a2
  · simp [c5, bindO, hcond, vCmp, vBin, vEq, vUn, vNil, vField, vLoad, takeCells, vIdx, vLenT, vLen, vExtract, hBS, hfill, hNew, hStore, hBox, hc_int, hc_bool, hc_string, hc_slice, hc_nilp, hc_nilm, hc_nilf, hc_agg, hc_list, hc_view, hc_ptr, hc_map, hc_func, ho_int, ho_bool, ho_string, ho_slice, ho_nilp, ho_nilm, ho_nilf, ho_list, ho_view, ho_ptr, ho_map, ho_func, putCells, hAppend, lcells, litCells, isNilS, llen, room, vMk, set_at, Join, vToInt, vSlice, cutAt, intAt, bl_len, bits64, bits64u, bits8, hfold, vMax2, vMin2, Try.underlying3, Try.underlying4, Try.underlying9, Try.underlying22, Try.underlying31, Try.underlying32, Try.underlying36, Try.underlying44, Try.underlying64, Try.underlying80, Try.underlying90, Try.underlying123, hMark, c0, c1, c2, c3, c4, c5']
    exact awake s
  simp [c5, bindO, hcond, vCmp, vBin, vEq, vUn, vNil, vField, vLoad, takeCells, vIdx, vLenT, vLen, vExtract, hBS, hfill, hNew, hStore, hBox, hc_int, hc_bool, hc_string, hc_slice, hc_nilp, hc_nilm, hc_nilf, hc_agg, hc_list, hc_view, hc_ptr, hc_map, hc_func, ho_int, ho_bool, ho_string, ho_slice, ho_nilp, ho_nilm, ho_nilf, ho_list, ho_view, ho_ptr, ho_map, ho_func, putCells, hAppend, lcells, litCells, isNilS, llen, room, vMk, set_at, Join, vToInt, vSlice, cutAt, intAt, bl_len, bits64, bits64u, bits8, hfold, vMax2, vMin2, Try.underlying3, Try.underlying4, Try.underlying9, Try.underlying22, Try.underlying31, Try.underlying32, Try.underlying36, Try.underlying44, Try.underlying64, Try.underlying80, Try.underlying90, Try.underlying123, hMark, c0, c1, c2, c3, c4, c5']
  intro k hk j hj R hR T hT B hB G hG
  simp only [set_none_iff] at hj hR hT hB hG
  obtain ⟨n1, hj⟩ := hj
  obtain ⟨n2, n3, hR⟩ := hR
  obtain ⟨n4, n5, n6, hT⟩ := hT
  obtain ⟨n7, n8, n9, n10, hB⟩ := hB
  obtain ⟨n11, n12, n13, n14, n15, hG⟩ := hG
  have m1 := Ne.symm n1
  have m2 := Ne.symm n2
  have m3 := Ne.symm n3
  have m4 := Ne.symm n4
  have m5 := Ne.symm n5
  have m6 := Ne.symm n6
  have m7 := Ne.symm n7
  have m8 := Ne.symm n8
  have m9 := Ne.symm n9
  have m10 := Ne.symm n10
  have m11 := Ne.symm n11
  have m12 := Ne.symm n12
  have m13 := Ne.symm n13
  have m14 := Ne.symm n14
  have m15 := Ne.symm n15
  refine HC.frz (id := k) (cs := [.lit (.int .u8 107)]) (by simp [HS.set, *]) ?_
  simp [frzS_set, frzS_same, frzO, frz2, frz1, frz0, phi, List.map_cons, List.map_nil, n1, n2, n3, n4, n5, n6, n7, n8, n9, n10, n11, n12, n13, n14, n15, m1, m2, m3, m4, m5, m6, m7, m8, m9, m10, m11, m12, m13, m14, m15]
  refine HC.frz (id := j) (cs := [.lit (.int .u8 118)]) (by simp [HS.set, *]) ?_
  simp [frzS_set, frzS_same, frzO, frz2, frz1, frz0, phi, List.map_cons, List.map_nil, n1, n2, n3, n4, n5, n6, n7, n8, n9, n10, n11, n12, n13, n14, n15, m1, m2, m3, m4, m5, m6, m7, m8, m9, m10, m11, m12, m13, m14, m15]
  refine HC.frz (id := R) (cs := recsC [ga]) (by simp [HS.set, *]; rfl) ?_
  simp [frzS_set, frzS_same, frzO, frz2, frz1, frz0, phi, List.map_cons, List.map_nil, n1, n2, n3, n4, n5, n6, n7, n8, n9, n10, n11, n12, n13, n14, n15, m1, m2, m3, m4, m5, m6, m7, m8, m9, m10, m11, m12, m13, m14, m15, recsC_len]
  refine HC.frz (id := T) (cs := recsC [gb a0 a3]) (by simp [HS.set, *]; rfl) ?_
  simp [frzS_set, frzS_same, frzO, frz2, frz1, frz0, phi, List.map_cons, List.map_nil, n1, n2, n3, n4, n5, n6, n7, n8, n9, n10, n11, n12, n13, n14, n15, m1, m2, m3, m4, m5, m6, m7, m8, m9, m10, m11, m12, m13, m14, m15, recsC_len]
  refine HC.frz (id := B) (cs := batsC [ba, bb a0 a3]) (by simp [HS.set, *]; rfl) ?_
  simp [frzS_set, frzS_same, frzO, frz2, frz1, frz0, phi, List.map_cons, List.map_nil, n1, n2, n3, n4, n5, n6, n7, n8, n9, n10, n11, n12, n13, n14, n15, m1, m2, m3, m4, m5, m6, m7, m8, m9, m10, m11, m12, m13, m14, m15, batsC_len]
  refine HC.frz (id := G) (cs := rows segC [some [ba, bb a0 a3], none]) (by simp [HS.set, *]; rfl) ?_
  simp [frzS_set, frzS_same, frzO, frz2, frz1, frz0, phi, List.map_cons, List.map_nil, n1, n2, n3, n4, n5, n6, n7, n8, n9, n10, n11, n12, n13, n14, n15, m1, m2, m3, m4, m5, m6, m7, m8, m9, m10, m11, m12, m13, m14, m15, rows_len segC_len]
  refine (all [some [ba, bb a0 a3], none] 0 ⟨0, 0, 0, 0, 0, false, a1, 9, false⟩ a2 (by simp) (by simp [flatS]) ?_).mono ?_
  · intro x hx b hb
    simp at hx
    rcases hx with rfl | rfl
    · simp at hb
      rcases hb with rfl | rfl
      · exact ⟨_, rfl, by simp, by simp, by intro r hr; simp at hr; subst hr; exact ⟨by show (1 : Nat) ≤ _; omega, by show (1 : Nat) ≤ _; omega⟩⟩
      · exact ⟨_, rfl, by simp, by simp, by intro r hr; simp at hr; subst hr; exact ⟨by show (1 : Nat) ≤ _; omega, trivial⟩⟩
    · simp at hb
  · rintro v s' ⟨-, rfl⟩
    rw [if_neg (by simp), map_g]
    simp only [List.length_cons, List.length_nil, Nat.zero_add, Nat.reduceAdd, Nat.reduceSub]
    have hw : IntKind.i64.wrap (a2 - a0) = a2 - a0 := w64 (by omega) (by omega)
    by_cases hs : a3 = true ∨ a2 - a0 ≤ a1
    · obtain ⟨ho, hg⟩ := outs_stay a0 a1 a2 a3 hs (by omega) (by omega) (by omega) (by omega)
      rw [ho, hg]
      cases a3 with
      | true =>
        simp [bindO, hcond, vCmp, vBin, vEq, vUn, vNil, vField, vLoad, takeCells, vIdx, vLenT, vLen, vExtract, hBS, hfill, hNew, hStore, hBox, hc_int, hc_bool, hc_string, hc_slice, hc_nilp, hc_nilm, hc_nilf, hc_agg, hc_list, hc_view, hc_ptr, hc_map, hc_func, ho_int, ho_bool, ho_string, ho_slice, ho_nilp, ho_nilm, ho_nilf, ho_list, ho_view, ho_ptr, ho_map, ho_func, putCells, hAppend, lcells, litCells, isNilS, llen, room, vMk, set_at, Join, vToInt, vSlice, cutAt, intAt, bl_len, bits64, bits64u, bits8, hfold, vMax2, vMin2, Try.underlying3, Try.underlying4, Try.underlying9, Try.underlying22, Try.underlying31, Try.underlying32, Try.underlying36, Try.underlying44, Try.underlying64, Try.underlying80, Try.underlying90, Try.underlying123, hMark, segsV, rowV, rowL, rows, segC, batsV, batsC, batC, recsV, recsC, recC, byV, orNil, List.flatMap_cons, List.flatMap_nil, bb]
        exact awake s'
      | false =>
        have hs' : a2 - a0 ≤ a1 := by rcases hs with h | h; cases h; exact h
        by_cases hl : a2 ≤ a0
        · simp [bindO, hcond, vCmp, vBin, vEq, vUn, vNil, vField, vLoad, takeCells, vIdx, vLenT, vLen, vExtract, hBS, hfill, hNew, hStore, hBox, hc_int, hc_bool, hc_string, hc_slice, hc_nilp, hc_nilm, hc_nilf, hc_agg, hc_list, hc_view, hc_ptr, hc_map, hc_func, ho_int, ho_bool, ho_string, ho_slice, ho_nilp, ho_nilm, ho_nilf, ho_list, ho_view, ho_ptr, ho_map, ho_func, putCells, hAppend, lcells, litCells, isNilS, llen, room, vMk, set_at, Join, vToInt, vSlice, cutAt, intAt, bl_len, bits64, bits64u, bits8, hfold, vMax2, vMin2, Try.underlying3, Try.underlying4, Try.underlying9, Try.underlying22, Try.underlying31, Try.underlying32, Try.underlying36, Try.underlying44, Try.underlying64, Try.underlying80, Try.underlying90, Try.underlying123, hMark, segsV, rowV, rowL, rows, segC, batsV, batsC, batC, recsV, recsC, recC, byV, orNil, List.flatMap_cons, List.flatMap_nil, bb, hw, hl]
          exact awake s'
        · simp [bindO, hcond, vCmp, vBin, vEq, vUn, vNil, vField, vLoad, takeCells, vIdx, vLenT, vLen, vExtract, hBS, hfill, hNew, hStore, hBox, hc_int, hc_bool, hc_string, hc_slice, hc_nilp, hc_nilm, hc_nilf, hc_agg, hc_list, hc_view, hc_ptr, hc_map, hc_func, ho_int, ho_bool, ho_string, ho_slice, ho_nilp, ho_nilm, ho_nilf, ho_list, ho_view, ho_ptr, ho_map, ho_func, putCells, hAppend, lcells, litCells, isNilS, llen, room, vMk, set_at, Join, vToInt, vSlice, cutAt, intAt, bl_len, bits64, bits64u, bits8, hfold, vMax2, vMin2, Try.underlying3, Try.underlying4, Try.underlying9, Try.underlying22, Try.underlying31, Try.underlying32, Try.underlying36, Try.underlying44, Try.underlying64, Try.underlying80, Try.underlying90, Try.underlying123, hMark, segsV, rowV, rowL, rows, segC, batsV, batsC, batC, recsV, recsC, recC, byV, orNil, List.flatMap_cons, List.flatMap_nil, bb, hw, hl, hs']
          exact awake s'
    · have h3 : a3 = false := by cases a3; rfl; exact absurd (Or.inl rfl) hs
      subst h3
      have hs' : ¬ a2 - a0 ≤ a1 := fun h => hs (Or.inr h)
      have hl : ¬ a2 ≤ a0 := by omega
      obtain ⟨ho, hg⟩ := outs_go a0 a1 a2 (by omega) (by omega) (by omega) (by omega) (by omega)
      rw [ho, hg]
      simp [bindO, hcond, vCmp, vBin, vEq, vUn, vNil, vField, vLoad, takeCells, vIdx, vLenT, vLen, vExtract, hBS, hfill, hNew, hStore, hBox, hc_int, hc_bool, hc_string, hc_slice, hc_nilp, hc_nilm, hc_nilf, hc_agg, hc_list, hc_view, hc_ptr, hc_map, hc_func, ho_int, ho_bool, ho_string, ho_slice, ho_nilp, ho_nilm, ho_nilf, ho_list, ho_view, ho_ptr, ho_map, ho_func, putCells, hAppend, lcells, litCells, isNilS, llen, room, vMk, set_at, Join, vToInt, vSlice, cutAt, intAt, bl_len, bits64, bits64u, bits8, hfold, vMax2, vMin2, Try.underlying3, Try.underlying4, Try.underlying9, Try.underlying22, Try.underlying31, Try.underlying32, Try.underlying36, Try.underlying44, Try.underlying64, Try.underlying80, Try.underlying90, Try.underlying123, hMark, segsV, rowV, rowL, rows, segC, batsV, batsC, batC, recsV, recsC, recC, byV, orNil, List.flatMap_cons, List.flatMap_nil, bb, hw, hl, hs']
      exact awake s'
end Go.Proofs.Ytecnfekcflfihaa.CL

/- What a log may be, over the H layer: weights. -/
namespace Go.Proofs.Ytecnfekcflfihaa.CL
open Go.Proofs.Ytecnfekcflfihaa.H Go.Proofs.Ytecnfekcflfihaa.C1
set_option linter.unusedVariables false
set_option linter.unusedSimpArgs false
set_option maxRecDepth 100000
def ints (l : List Int) : List HV := l.map fun n => .lit (.int .i64 n)
theorem sum {s : HS} (n : Int) (l : List Int) (hn : 0 ≤ n) (hl : ∀ x ∈ l, 0 ≤ x) (hlen : l.length ≤ 1000) :
    HC Try.prog 18 [.lit (.int .i64 n), .list 1 l.length (ints l) false] s (fun v s' => s' = s ∧ ∃ k, v = .lit (.int .i64 k) ∧ 0 ≤ k) := by
  refine HC18 ?_
  unfold c18
  refine HLoop.ghost (σ := Int × Nat) (fun g => [.lit (.int .i64 g.1), .lit (.int .i64 g.2)]) (fun g t => g.2 ≤ l.length ∧ 0 ≤ g.1 ∧ t = s) (fun g => l.length - g.2) (n, 0) rfl ⟨Nat.zero_le _, hn, rfl⟩ ?_
  rintro ⟨n, i⟩ t K ⟨hi, hn, rfl⟩ hK
  simp only at hi hn
  by_cases hlt : i < l.length
  · have hlt' : (i : Int) < (l.length : Int) := by omega
    have hx : ((ints l).drop i).take 1 = [.lit (.int .i64 (l.getD i 0))] := by
      rw [ints, ← List.map_drop, drop_cons' 0 l hlt]; rfl
    have h0 := hl _ (getD_mem (z := 0) hlt)
    generalize l.getD i 0 = x at *
    simp [bindO, hcond, vCmp, vBin, vEq, vUn, vNil, vField, vLoad, takeCells, vIdx, vLenT, vLen, vExtract, hBS, hfill, hNew, hStore, hBox, hc_int, hc_bool, hc_string, hc_slice, hc_nilp, hc_nilm, hc_nilf, hc_agg, hc_list, hc_view, hc_ptr, hc_map, hc_func, ho_int, ho_bool, ho_string, ho_slice, ho_nilp, ho_nilm, ho_nilf, ho_list, ho_view, ho_ptr, ho_map, ho_func, putCells, hAppend, lcells, litCells, isNilS, llen, room, vMk, set_at, Join, vToInt, vSlice, cutAt, intAt, bl_len, bits64, bits64u, bits8, hfold, vMax2, vMin2, Try.underlying3, Try.underlying4, Try.underlying9, Try.underlying22, Try.underlying31, Try.underlying32, Try.underlying36, Try.underlying44, Try.underlying64, Try.underlying80, Try.underlying90, Try.underlying123, hMark, hlt', hlt, hx]
    by_cases h1 : 1099511627776 < n
    · simp [h1]
    · have hw : IntKind.i64.wrap (1099511627776 - n) = 1099511627776 - n := w64 (by omega) (by omega)
      by_cases h2 : 1099511627776 - n < x
      · simp [h1, hw, h2]
      · simp [h1, hw, h2]
        refine hK (n + x, i + 1) _ _ ?_ ⟨hlt, by show 0 ≤ n + x; omega, rfl⟩ (by show l.length - (i + 1) < l.length - i; omega)
        rw [w64 (x := (i : Int) + 1) (by omega) (by omega), w64 (x := n + x) (by omega) (by omega)]
        rfl
  · obtain rfl : i = l.length := by omega
    simp [bindO, hcond, vCmp, vBin, vEq, vUn, vNil, vField, vLoad, takeCells, vIdx, vLenT, vLen, vExtract, hBS, hfill, hNew, hStore, hBox, hc_int, hc_bool, hc_string, hc_slice, hc_nilp, hc_nilm, hc_nilf, hc_agg, hc_list, hc_view, hc_ptr, hc_map, hc_func, ho_int, ho_bool, ho_string, ho_slice, ho_nilp, ho_nilm, ho_nilf, ho_list, ho_view, ho_ptr, ho_map, ho_func, putCells, hAppend, lcells, litCells, isNilS, llen, room, vMk, set_at, Join, vToInt, vSlice, cutAt, intAt, bl_len, bits64, bits64u, bits8, hfold, vMax2, vMin2, Try.underlying3, Try.underlying4, Try.underlying9, Try.underlying22, Try.underlying31, Try.underlying32, Try.underlying36, Try.underlying44, Try.underlying64, Try.underlying80, Try.underlying90, Try.underlying123, hMark, hn]
theorem weight {s : HS} (b : Bat) (l : List Rec) (hb : b.recs = some l) (hl : l.length ≤ 9223372036854775807) (hs : ∀ r ∈ l, ∃ k v, r.key = some k ∧ r.val = some v) :
    HC Try.prog 71 [.agg (batC b)] s (fun v s' => s' = s ∧ ∃ k, v = .lit (.int .i64 k) ∧ 0 ≤ k) := by
  refine HC.weaken (HC71 ?_)
  obtain ⟨c0, c1, c2, c3, c4, recs⟩ := b
  simp only at hb
  subst hb
  simp only [c71, hBox, hc_agg, batC]
  intro p hp
  have htp := set_at s p (.cells [.lit (.int .i64 c0), .lit (.int .i64 c1), .lit (.int .i64 c2), .lit (.int .i64 c3), .lit (.int .i64 c4), recsV (some l)])
  have hst := le_set_new (.cells [.lit (.int .i64 c0), .lit (.int .i64 c1), .lit (.int .i64 c2), .lit (.int .i64 c3), .lit (.int .i64 c4), recsV (some l)]) (le_refl' s) hp
  generalize s.set p (.cells [.lit (.int .i64 c0), .lit (.int .i64 c1), .lit (.int .i64 c2), .lit (.int .i64 c3), .lit (.int .i64 c4), recsV (some l)]) = t0 at *
  refine HLoop.ghost (σ := Int × Nat) (fun g => [.lit (.int .i64 g.1), .lit (.int .i64 g.2)]) (fun g t => g.2 ≤ l.length ∧ 0 ≤ g.1 ∧ t = t0) (fun g => l.length - g.2) (1, 0) rfl ⟨Nat.zero_le _, by decide, rfl⟩ ?_
  rintro ⟨n, i⟩ t K ⟨hi, hn, rfl⟩ hK
  simp only at hi hn
  have hfin : ∀ k : Int, 0 ≤ k → ∃ s'', HS.le s'' t ∧ s'' = s ∧ ∃ k', HV.lit (.int .i64 k) = .lit (.int .i64 k') ∧ 0 ≤ k' := fun k h => ⟨s, hst, rfl, k, rfl, h⟩
  have hl5 : vLenT (Try.prog.underlying 44) t (recsV (some l)) = some (.lit (.int .i64 l.length)) := rfl
  by_cases hlt : i < l.length
  · have hlt' : (i : Int) < (l.length : Int) := by omega
    have hix := recsC_idx l i hlt
    obtain ⟨k, v, hk, hv⟩ := hs _ (getD_mem (z := r0) hlt)
    generalize l.getD i r0 = x at *
    have y3 : (recC x)[3]? = some (.list 1 k.length (bl k) false) := by simp [recC, hk, byV]
    have y5 : (recC x)[5]? = some (.list 1 v.length (bl v) false) := by simp [recC, hv, byV]
    by_cases h1 : n ≤ 1099511627776
    · simp [bindO, hcond, vCmp, vBin, vEq, vUn, vNil, vField, vLoad, takeCells, vIdx, vLenT, vLen, vExtract, hBS, hfill, hNew, hStore, hBox, hc_int, hc_bool, hc_string, hc_slice, hc_nilp, hc_nilm, hc_nilf, hc_agg, hc_list, hc_view, hc_ptr, hc_map, hc_func, ho_int, ho_bool, ho_string, ho_slice, ho_nilp, ho_nilm, ho_nilf, ho_list, ho_view, ho_ptr, ho_map, ho_func, putCells, hAppend, lcells, litCells, isNilS, llen, room, vMk, set_at, Join, vToInt, vSlice, cutAt, intAt, bl_len, bits64, bits64u, bits8, hfold, vMax2, vMin2, Try.underlying3, Try.underlying4, Try.underlying9, Try.underlying22, Try.underlying31, Try.underlying32, Try.underlying36, Try.underlying44, Try.underlying64, Try.underlying80, Try.underlying90, Try.underlying123, hMark, htp, recsV, hlt', h1, hix, y3, y5, hlt]
      intro id hid
      refine HC.frzN hid ?_
      simp [frz2, frz1, frz0, phi]
      refine (sum (s := t) n [1, (k.length : Int), (v.length : Int)] hn (by simp) (by simp)).mono ?_
      rintro r s' ⟨rfl, q, rfl, hq⟩
      refine hK (q, i + 1) _ _ ?_ ⟨hlt, hq, rfl⟩ (by show l.length - (i + 1) < l.length - i; omega)
      rw [w64 (x := (i : Int) + 1) (by omega) (by omega)]
      rfl
    · simp [bindO, hcond, vCmp, vBin, vEq, vUn, vNil, vField, vLoad, takeCells, vIdx, vLenT, vLen, vExtract, hBS, hfill, hNew, hStore, hBox, hc_int, hc_bool, hc_string, hc_slice, hc_nilp, hc_nilm, hc_nilf, hc_agg, hc_list, hc_view, hc_ptr, hc_map, hc_func, ho_int, ho_bool, ho_string, ho_slice, ho_nilp, ho_nilm, ho_nilf, ho_list, ho_view, ho_ptr, ho_map, ho_func, putCells, hAppend, lcells, litCells, isNilS, llen, room, vMk, set_at, Join, vToInt, vSlice, cutAt, intAt, bl_len, bits64, bits64u, bits8, hfold, vMax2, vMin2, Try.underlying3, Try.underlying4, Try.underlying9, Try.underlying22, Try.underlying31, Try.underlying32, Try.underlying36, Try.underlying44, Try.underlying64, Try.underlying80, Try.underlying90, Try.underlying123, hMark, htp, recsV, h1, hlt', hlt]
      first | exact hfin _ hn | exact ⟨s, hst, rfl, hn⟩ | exact ⟨hst, hn⟩
  · obtain rfl : i = l.length := by omega
    have hlt' : ¬ (l.length : Int) < (l.length : Int) := by omega
    simp [bindO, hcond, vCmp, vBin, vEq, vUn, vNil, vField, vLoad, takeCells, vIdx, vLenT, vLen, vExtract, hBS, hfill, hNew, hStore, hBox, hc_int, hc_bool, hc_string, hc_slice, hc_nilp, hc_nilm, hc_nilf, hc_agg, hc_list, hc_view, hc_ptr, hc_map, hc_func, ho_int, ho_bool, ho_string, ho_slice, ho_nilp, ho_nilm, ho_nilf, ho_list, ho_view, ho_ptr, ho_map, ho_func, putCells, hAppend, lcells, litCells, isNilS, llen, room, vMk, set_at, Join, vToInt, vSlice, cutAt, intAt, bl_len, bits64, bits64u, bits8, hfold, vMax2, vMin2, Try.underlying3, Try.underlying4, Try.underlying9, Try.underlying22, Try.underlying31, Try.underlying32, Try.underlying36, Try.underlying44, Try.underlying64, Try.underlying80, Try.underlying90, Try.underlying123, hMark, htp, recsV, hlt']
    first | exact hfin _ hn | exact ⟨s, hst, rfl, hn⟩ | exact ⟨hst, hn⟩
theorem weights {s : HS} (l : List Bat) (lim : Int) (hl : l.length ≤ 9223372036854775807) (hs : ∀ b ∈ l, ∃ r, b.recs = some r ∧ r.length ≤ 9223372036854775807 ∧ ∀ x ∈ r, ∃ k v, x.key = some k ∧ x.val = some v) :
    HC Try.prog 46 [.list 6 l.length (batsC l) false, .lit (.int .i64 lim)] s (fun v s' => s' = s ∧ ∃ k, v = .lit (.int .i64 k) ∧ 0 ≤ k) := by
  refine HC46 ?_
  unfold c46
  refine HLoop.ghost (σ := Int × Nat) (fun g => [.lit (.int .i64 g.1), .lit (.int .i64 g.2)]) (fun g t => g.2 ≤ l.length ∧ 0 ≤ g.1 ∧ t = s) (fun g => l.length - g.2) (0, 0) rfl ⟨Nat.zero_le _, by decide, rfl⟩ ?_
  rintro ⟨n, i⟩ t K ⟨hi, hn, rfl⟩ hK
  simp only at hi hn
  by_cases hlt : i < l.length
  · have hlt' : (i : Int) < (l.length : Int) := by omega
    have hix := batsC_idx l i hlt
    obtain ⟨r, hr, hr1, hr2⟩ := hs _ (getD_mem (z := b0) hlt)
    generalize l.getD i b0 = x at *
    by_cases h1 : n ≤ lim
    · simp [bindO, hcond, vCmp, vBin, vEq, vUn, vNil, vField, vLoad, takeCells, vIdx, vLenT, vLen, vExtract, hBS, hfill, hNew, hStore, hBox, hc_int, hc_bool, hc_string, hc_slice, hc_nilp, hc_nilm, hc_nilf, hc_agg, hc_list, hc_view, hc_ptr, hc_map, hc_func, ho_int, ho_bool, ho_string, ho_slice, ho_nilp, ho_nilm, ho_nilf, ho_list, ho_view, ho_ptr, ho_map, ho_func, putCells, hAppend, lcells, litCells, isNilS, llen, room, vMk, set_at, Join, vToInt, vSlice, cutAt, intAt, bl_len, bits64, bits64u, bits8, hfold, vMax2, vMin2, Try.underlying3, Try.underlying4, Try.underlying9, Try.underlying22, Try.underlying31, Try.underlying32, Try.underlying36, Try.underlying44, Try.underlying64, Try.underlying80, Try.underlying90, Try.underlying123, hMark, hlt', h1, hlt, hix, batC_len, hcb]
      refine (weight x r hr hr1 hr2).mono ?_
      rintro v s' ⟨rfl, q, rfl, hq⟩
      simp [bindO, hcond, vCmp, vBin, vEq, vUn, vNil, vField, vLoad, takeCells, vIdx, vLenT, vLen, vExtract, hBS, hfill, hNew, hStore, hBox, hc_int, hc_bool, hc_string, hc_slice, hc_nilp, hc_nilm, hc_nilf, hc_agg, hc_list, hc_view, hc_ptr, hc_map, hc_func, ho_int, ho_bool, ho_string, ho_slice, ho_nilp, ho_nilm, ho_nilf, ho_list, ho_view, ho_ptr, ho_map, ho_func, putCells, hAppend, lcells, litCells, isNilS, llen, room, vMk, set_at, Join, vToInt, vSlice, cutAt, intAt, bl_len, bits64, bits64u, bits8, hfold, vMax2, vMin2, Try.underlying3, Try.underlying4, Try.underlying9, Try.underlying22, Try.underlying31, Try.underlying32, Try.underlying36, Try.underlying44, Try.underlying64, Try.underlying80, Try.underlying90, Try.underlying123, hMark]
      intro id hid
      refine HC.frzN hid ?_
      simp [frz2, frz1, frz0, phi]
      refine (sum (s := s') n [q] hn (by simpa using hq) (by simp)).mono ?_
      rintro r s' ⟨rfl, q, rfl, hq⟩
      refine hK (q, i + 1) _ _ ?_ ⟨hlt, hq, rfl⟩ (by show l.length - (i + 1) < l.length - i; omega)
      rw [w64 (x := (i : Int) + 1) (by omega) (by omega)]
      rfl
    · simp [bindO, hcond, vCmp, vBin, vEq, vUn, vNil, vField, vLoad, takeCells, vIdx, vLenT, vLen, vExtract, hBS, hfill, hNew, hStore, hBox, hc_int, hc_bool, hc_string, hc_slice, hc_nilp, hc_nilm, hc_nilf, hc_agg, hc_list, hc_view, hc_ptr, hc_map, hc_func, ho_int, ho_bool, ho_string, ho_slice, ho_nilp, ho_nilm, ho_nilf, ho_list, ho_view, ho_ptr, ho_map, ho_func, putCells, hAppend, lcells, litCells, isNilS, llen, room, vMk, set_at, Join, vToInt, vSlice, cutAt, intAt, bl_len, bits64, bits64u, bits8, hfold, vMax2, vMin2, Try.underlying3, Try.underlying4, Try.underlying9, Try.underlying22, Try.underlying31, Try.underlying32, Try.underlying36, Try.underlying44, Try.underlying64, Try.underlying80, Try.underlying90, Try.underlying123, hMark, hlt', h1, hn]
  · obtain rfl : i = l.length := by omega
    simp [bindO, hcond, vCmp, vBin, vEq, vUn, vNil, vField, vLoad, takeCells, vIdx, vLenT, vLen, vExtract, hBS, hfill, hNew, hStore, hBox, hc_int, hc_bool, hc_string, hc_slice, hc_nilp, hc_nilm, hc_nilf, hc_agg, hc_list, hc_view, hc_ptr, hc_map, hc_func, ho_int, ho_bool, ho_string, ho_slice, ho_nilp, ho_nilm, ho_nilf, ho_list, ho_view, ho_ptr, ho_map, ho_func, putCells, hAppend, lcells, litCells, isNilS, llen, room, vMk, set_at, Join, vToInt, vSlice, cutAt, intAt, bl_len, bits64, bits64u, bits8, hfold, vMax2, vMin2, Try.underlying3, Try.underlying4, Try.underlying9, Try.underlying22, Try.underlying31, Try.underlying32, Try.underlying36, Try.underlying44, Try.underlying64, Try.underlying80, Try.underlying90, Try.underlying123, hMark, hn]
end Go.Proofs.Ytecnfekcflfihaa.CL

/- What a log may be, over the H layer: how long a batch's bytes are at most. -/
namespace Go.Proofs.Ytecnfekcflfihaa.CL
open Go.Proofs.Ytecnfekcflfihaa.H Go.Proofs.Ytecnfekcflfihaa.C2 Go.Proofs.Ytecnfekcflfihaa.C3
set_option linter.unusedVariables false
set_option linter.unusedSimpArgs false
set_option maxRecDepth 100000
/-- A row of bytes of its own. -/
def FreshB (s s' : HS) (v : HV) (bound : Nat) : Prop := ∃ l : List Int, Acc s s' 1 v l.length (bl l) ∧ HS.le s s' ∧ l.length ≤ bound
theorem wrapu (x : Int) : 0 ≤ IntKind.u64.wrap x ∧ IntKind.u64.wrap x < 18446744073709551616 := by
  have : IntKind.u64.wrap x = x % 18446744073709551616 := by simp [IntKind.wrap, IntKind.signed, IntKind.bits]
  omega
theorem zig {s : HS} (n : Int) : HC Try.prog 97 [.lit (.int .i64 n)] s (fun v s' => s' = s ∧ ∃ z, v = .lit (.int .u64 z) ∧ 0 ≤ z ∧ z < 18446744073709551616) := by
  refine HC97 ?_
  unfold c97
  by_cases h : n < 0
  · simp [bindO, hcond, vCmp, vBin, vEq, vUn, vNil, vField, vLoad, takeCells, vIdx, vLenT, vLen, vExtract, hBS, hfill, hNew, hStore, hBox, hc_int, hc_bool, hc_string, hc_slice, hc_nilp, hc_nilm, hc_nilf, hc_agg, hc_list, hc_view, hc_ptr, hc_map, hc_func, ho_int, ho_bool, ho_string, ho_slice, ho_nilp, ho_nilm, ho_nilf, ho_list, ho_view, ho_ptr, ho_map, ho_func, putCells, hAppend, lcells, litCells, isNilS, llen, room, vMk, set_at, Join, vToInt, vSlice, cutAt, intAt, bl_len, bits64, bits64u, bits8, hfold, vMax2, vMin2, Try.underlying3, Try.underlying4, Try.underlying9, Try.underlying22, Try.underlying31, Try.underlying32, Try.underlying36, Try.underlying44, Try.underlying64, Try.underlying80, Try.underlying90, Try.underlying123, hMark, h]
    exact wrapu _
  · simp [bindO, hcond, vCmp, vBin, vEq, vUn, vNil, vField, vLoad, takeCells, vIdx, vLenT, vLen, vExtract, hBS, hfill, hNew, hStore, hBox, hc_int, hc_bool, hc_string, hc_slice, hc_nilp, hc_nilm, hc_nilf, hc_agg, hc_list, hc_view, hc_ptr, hc_map, hc_func, ho_int, ho_bool, ho_string, ho_slice, ho_nilp, ho_nilm, ho_nilf, ho_list, ho_view, ho_ptr, ho_map, ho_func, putCells, hAppend, lcells, litCells, isNilS, llen, room, vMk, set_at, Join, vToInt, vSlice, cutAt, intAt, bl_len, bits64, bits64u, bits8, hfold, vMax2, vMin2, Try.underlying3, Try.underlying4, Try.underlying9, Try.underlying22, Try.underlying31, Try.underlying32, Try.underlying36, Try.underlying44, Try.underlying64, Try.underlying80, Try.underlying90, Try.underlying123, hMark, h]
    exact wrapu _
theorem shr7 {z : Int} (h : 0 ≤ z) : z.fdiv (2 ^ (min (7 : Int).toNat 64)) = z / 128 := by
  rw [show (2 : Int) ^ (min (7 : Int).toNat 64) = 128 by decide]
  exact Int.fdiv_eq_ediv_of_nonneg _ (by omega)
theorem acc_byte {b t : HS} {A : HV} {l : List Int} {x : Int} {K : HV → HS → Prop} (h : Acc b t 1 A l.length (bl l)) (hb : HS.le b t) (hl : l.length ≤ 100000000)
    (hK : ∀ A' t', Acc b t' 1 A' (l ++ [x]).length (bl (l ++ [x])) → HS.le b t' → K A' t') : hBS t 1 1 [.lit (.int .u8 0)] [(0, .lit (.int .u8 x))] (fun v s => hAppend s 1 1 A v K) := by
  refine h.app1 hb (hc_int _ _) rfl rfl ⟨by omega, by omega⟩ ?_
  intro A' t' h1 h2 _
  refine hK A' t' ?_ h2
  rw [List.length_append]
  simpa [bl] using h1
theorem put_len {s : HS} (n : Int) : HC Try.prog 84 [.lit (.int .i64 n)] s (fun v s' => FreshB s s' v 65) := by
  refine HC84 ?_
  unfold c84
  refine (zig n).mono ?_
  rintro v s1 ⟨rfl, z, rfl, hz0, hz1⟩
  refine HLoop.ghost (σ := Int × HV × List Int) (fun g => [.lit (.int .u64 g.1), g.2.1]) (fun g t => 0 ≤ g.1 ∧ g.2.2.length ≤ 64 ∧ g.1 < 2 ^ (64 - g.2.2.length) ∧ HS.le s1 t ∧ Acc s1 t 1 g.2.1 g.2.2.length (bl g.2.2)) (fun g => g.1.toNat) (z, nilV, []) rfl ⟨hz0, by simp, by simpa using hz1, le_refl' _, Acc.nil _ _ _⟩ ?_
  rintro ⟨z, A, l⟩ t K ⟨h0, h1, h2, hst, ho⟩ hK
  simp only at h0 h1 h2 hst ho
  by_cases hge : 128 ≤ z
  · simp only [vBin, bindO, List.headD_cons, List.tail_cons, if_true, ge_iff_le, hge, decide_true, hcond, vToInt]
    refine acc_byte ho hst (by omega) ?_
    intro A' t' g1 g2
    have hs7 : z.fdiv (2 ^ (min (7 : Int).toNat IntKind.u64.bits)) = z / 128 := shr7 h0
    simp only [show ¬ ((7 : Int) < 0) from by omega, if_false, hs7]
    have hk : l.length < 64 := by
      rcases Nat.lt_or_ge l.length 64 with h | h
      · exact h
      · rw [show 64 - l.length = 0 by omega] at h2; simp at h2; omega
    refine hK (z / 128, A', l ++ [_]) _ _ rfl ⟨by show 0 ≤ z / 128; omega, by rw [List.length_append]; simp; omega, ?_, g2, g1⟩ (by show (z / 128).toNat < z.toNat; omega)
    show z / 128 < 2 ^ (64 - (l ++ [_]).length)
    rw [List.length_append, List.length_singleton]
    rw [show 64 - l.length = (64 - (l.length + 1)) + 1 by omega, Int.pow_succ] at h2
    generalize (2 : Int) ^ (64 - (l.length + 1)) = P at *
    omega
  · simp only [vBin, bindO, List.headD_cons, List.tail_cons, if_true, ge_iff_le, hge, decide_false, hcond, vToInt]
    refine acc_byte ho hst (by omega) ?_
    intro A' t' g1 g2
    exact ⟨_, g1, g2, by rw [List.length_append]; simp; omega⟩
theorem FreshB.append {b s t : HS} {A B : HV} {n k : Nat} {K : HV → HS → Prop} (hA : FreshB b s A n) (hB : FreshB s t B k) (hn : n + k ≤ 100000000) (hK : ∀ A' t', FreshB b t' A' (n + k) → K A' t') : hAppend t 1 1 A B K := by
  obtain ⟨la, a1, a2, a3⟩ := hA
  obtain ⟨lb, b1, b2, b3⟩ := hB
  have a1 := a1.le b2
  refine a1.app (HS.le.trans a2 b2) b1.cells b1.llen (by rw [bl_len]; omega) ⟨by omega, by omega⟩ ?_
  intro A' t' h1 h2 _
  exact hK A' t' ⟨la ++ lb, by rw [List.length_append]; simpa [bl] using h1, h2, by rw [List.length_append]; omega⟩
/-- .. a row of bytes that was given. -/
theorem FreshB.appendL {b s : HS} {A : HV} {n k : Nat} {o : Option (List Int)} {K : HV → HS → Prop} (hA : FreshB b s A n) (ho : (o.getD []).length ≤ k) (hn : n + k ≤ 100000000) (hK : ∀ A' t', FreshB b t' A' (n + k) → K A' t') : hAppend s 1 1 A (byV o) K := by
  obtain ⟨la, a1, a2, a3⟩ := hA
  refine a1.app a2 (xs := bl (o.getD [])) (k := (o.getD []).length) (by cases o <;> simp [byV, lcells, litCells, bl]) (by cases o <;> rfl) (by rw [bl_len]; omega) ⟨by omega, by omega⟩ ?_
  intro A' t' h1 h2 _
  exact hK A' t' ⟨la ++ o.getD [], by rw [List.length_append]; simpa [bl] using h1, h2, by rw [List.length_append]; omega⟩
theorem FreshB.up {b s t : HS} {A : HV} {n : Nat} (h : FreshB s t A n) (hb : HS.le b s) : FreshB b t A n := by
  obtain ⟨l, h1, h2, h3⟩ := h
  exact ⟨l, h1.base hb, HS.le.trans hb h2, h3⟩
theorem FreshB.mono {b t : HS} {A : HV} {n k : Nat} (h : FreshB b t A n) (hk : n ≤ k) : FreshB b t A k := by
  obtain ⟨l, h1, h2, h3⟩ := h
  exact ⟨l, h1, h2, by omega⟩
theorem len_by (k : Option (List Int)) (s : HS) : vLenT (Try.prog.underlying 32) s (byV k) = some (.lit (.int .i64 ((k.getD []).length : Nat))) := by cases k <;> rfl
theorem bytes_len {s : HS} (k : Option (List Int)) (n : Nat) (hk : (k.getD []).length ≤ n) (hn : n ≤ 10000000) : HC Try.prog 78 [byV k] s (fun v s' => FreshB s s' v (65 + n)) := by
  refine HC78 ?_
  unfold c78
  rw [len_by]
  simp only [bindO]
  refine (put_len _).mono ?_
  intro v s' h
  exact h.appendL hk (by omega) fun _ _ h => h
theorem fixed_len {s : HS} (n : Int) (k : Nat) (hk : k ≤ 100) (h0 : 0 < k) : HC Try.prog 77 [.lit (.int .i64 n), .lit (.int .i64 k)] s (fun v s' => FreshB s s' v k) := by
  refine HC77 ?_
  unfold c77 hMake
  refine ⟨by omega, by omega, by omega, by simp; omega, rfl, rfl, ?_⟩
  intro id hid
  have hz : ∀ m, zcells (.int .u8 0) m = bl (List.replicate m 0) := by
    intro m
    have : ∀ j : List Nat, j.map (fun _ => HV.lit (.int .u8 0)) = bl (List.replicate j.length 0) := by
      intro j; induction j with
      | nil => rfl
      | cons x r ih => simp [bl, List.replicate_succ] at ih ⊢; exact ih
    have h2 := this (List.range m)
    rw [List.length_range] at h2
    rw [← h2]
    unfold zcells
    apply List.map_congr_left
    intro j hj
    simp [Value.cells, Nat.mod_one]
  refine HLoop.ghost (σ := Nat × List Int) (fun g => [.lit (.int .i64 g.1)]) (fun g t => g.1 ≤ k ∧ g.2.length = k ∧ HS.le s t ∧ t id = some (.cells (bl g.2))) (fun g => k - g.1) (0, List.replicate k 0) rfl ⟨Nat.zero_le _, by simp, le_set_new _ (le_refl' s) hid, by rw [set_at, hz]; simp⟩ ?_
  rintro ⟨i, l⟩ t K ⟨hi, hl, hst, ho⟩ hK
  simp only at hi hl hst ho
  by_cases hlt : i < k
  · have hlt' : (i : Int) < (k : Int) := by omega
    have hw1 : IntKind.i64.wrap ((k : Int) - 1) = (k : Int) - 1 := w64 (by omega) (by omega)
    have hw2 : IntKind.i64.wrap ((k : Int) - 1 - i) = ((k - 1 - i : Nat) : Int) := by rw [w64 (by omega) (by omega)]; omega
    have hw3 : IntKind.i64.wrap (8 * (i : Int)) = 8 * i := w64 (by omega) (by omega)
    have hx : ((k - 1 - i : Nat) : Int) < (k : Int) := by omega
    have h8 : ¬ (8 * (i : Int) < 0) := by omega
    simp only [vBin, bindO, List.headD_cons, if_true, hlt', decide_true, hcond, hw1, hw2, hw3, vToInt, h8, if_false, vIdx, Int.natCast_nonneg, true_and, Int.toNat_natCast, hx, Nat.zero_add, Nat.mul_one, and_self, hStore, hc_int, ho, List.length_singleton]
    refine ⟨by rw [bl_len]; omega, by simp [ho_int], ?_⟩
    generalize IntKind.u8.wrap ((IntKind.u64.wrap n).fdiv (2 ^ min (8 * (i : Int)).toNat IntKind.u64.bits)) = z
    refine hK (i + 1, l.set (k - 1 - i) z) _ _ (by rw [w64 (by omega) (by omega)]; rfl) ⟨hlt, by simpa using hl, le_set_free _ hst hid, ?_⟩ (by show k - (i + 1) < k - i; omega)
    rw [set_at]
    congr 2
    simp only [putCells, bl, List.length_singleton]
    rw [List.set_eq_take_append_cons_drop, if_pos (by omega), List.map_append, List.map_cons, List.map_take, List.map_drop]
    simp
  · obtain rfl : i = k := by omega
    have hlt' : ¬ (i : Int) < (i : Int) := by omega
    simp only [vBin, bindO, List.headD_cons, if_true, hlt', decide_false, hcond]
    exact ⟨l, .inr ⟨id, _, hid, by rw [hl, Int.toNat_natCast], ho, by rw [bl_len]; omega, by omega⟩, hst, by omega⟩
/-- A row of bytes, in whatever form. -/
def RowB (s : HS) (A : HV) (n : Nat) : Prop := vLenT (Try.prog.underlying 32) s A = some (.lit (.int .i64 n)) ∧ ∀ i : Nat, i < n → ∃ e x, vIdx 1 A (.lit (.int .i64 i)) = some e ∧ vLoad s e 1 false = some (.lit (.int .u8 x))
theorem FreshB.row {b s : HS} {A : HV} {n : Nat} (h : FreshB b s A n) : ∃ k, k ≤ n ∧ RowB s A k := by
  obtain ⟨l, h1, h2, h3⟩ := h
  refine ⟨l.length, h3, h1.len 5 s, fun i hi => ?_⟩
  obtain ⟨e, g1, g2⟩ := h1.at1 .i64 hi
  exact ⟨e, l.getD i 0, g1, by rw [g2]; simp [bl, List.getD, hi]⟩
theorem more {s : HS} (A : HV) (n : Nat) (r : Int) (h : RowB s A n) (hn : n ≤ 100000000) : HC Try.prog 85 [.lit (.int .u32 r), A] s (fun v s' => s' = s ∧ ∃ q, v = .lit (.int .u32 q)) := by
  refine HC85 ?_
  unfold c85
  refine HLoop.ghost (σ := Int × Nat) (fun g => [.lit (.int .u32 g.1), .lit (.int .i64 g.2)]) (fun g t => g.2 ≤ n ∧ t = s) (fun g => n - g.2) (r, 0) rfl ⟨Nat.zero_le _, rfl⟩ ?_
  rintro ⟨r, i⟩ t K ⟨hi, rfl⟩ hK
  simp only at hi
  simp only [h.1, bindO, List.headD_cons, List.tail_cons, vBin, if_true]
  by_cases hlt : i < n
  · have hlt' : (i : Int) < (n : Int) := by omega
    obtain ⟨e, x, h1, h2⟩ := h.2 i hlt
    simp only [hlt', decide_true, hcond, h1, h2, vToInt, if_true]
    refine HLoop.ghost (σ := Int × Nat) (fun g => [.lit (.int .u32 g.1), .lit (.int .i64 g.2)]) (fun g t' => g.2 ≤ 8 ∧ t' = t) (fun g => 8 - g.2) (_, 0) rfl ⟨Nat.zero_le _, rfl⟩ ?_
    rintro ⟨r, j⟩ t2 K2 ⟨hj, rfl⟩ hK2
    simp only at hj
    simp only [bindO, List.headD_cons, List.tail_cons, vBin, if_true]
    by_cases hj8 : j < 8
    · have hj' : (j : Int) < 8 := by omega
      simp only [hj', decide_true, hcond, Join, vCmp, vBin, if_true, bindO, Try.underlying123]
      have h1n : ¬ (1 : Int) < 0 := by omega
      cases hb : (bits .and .u32 r 1 == 1) <;> simp only [h1n, if_false, List.headD_cons] <;>
        exact hK2 (_, j + 1) _ _ (by rw [w64 (by omega) (by omega)]; rfl) ⟨hj8, rfl⟩ (by show 8 - (j + 1) < 8 - j; omega)
    · have hj' : ¬ (j : Int) < 8 := by omega
      simp only [hj', decide_false, hcond]
      exact hK (r, i + 1) _ _ (by rw [w64 (by omega) (by omega)]; rfl) ⟨hlt, rfl⟩ (by show n - (i + 1) < n - i; omega)
  · obtain rfl : i = n := by omega
    have hlt' : ¬ (i : Int) < (i : Int) := by omega
    simp only [hlt', decide_false, hcond]
    exact ⟨by trivial, r, rfl⟩
theorem sumc {s : HS} (A : HV) (n : Nat) (h : RowB s A n) (hn : n ≤ 100000000) : HC Try.prog 80 [A] s (fun v s' => s' = s ∧ ∃ q, v = .lit (.int .u32 q)) := by
  refine HC80 ?_
  unfold c80
  refine (more A n _ h hn).mono ?_
  rintro v s' ⟨rfl, q, rfl⟩
  exact ⟨rfl, _, rfl⟩
theorem bytesF_len {b s : HS} {A : HV} {n : Nat} (h : FreshB b s A n) (hn : n ≤ 10000000) : HC Try.prog 78 [A] s (fun v s' => FreshB s s' v (65 + n)) := by
  refine HC78 ?_
  unfold c78
  obtain ⟨k, hk, hl, -⟩ := h.row
  rw [hl]
  simp only [bindO]
  refine (put_len _).mono ?_
  intro v s' h2
  obtain ⟨la, a1, a2, a3⟩ := h2
  obtain ⟨lb, b1, b2, b3⟩ := h
  have b1 := b1.le a2
  refine a1.app a2 b1.cells b1.llen (by rw [bl_len]; omega) ⟨by omega, by omega⟩ ?_
  intro A' t' h1 h2 _
  exact ⟨la ++ lb, by rw [List.length_append]; simpa [bl] using h1, h2, by rw [List.length_append]; omega⟩
theorem FreshB.le {b s t : HS} {A : HV} {n : Nat} (h : FreshB b s A n) (hle : HS.le s t) : FreshB b t A n := by
  obtain ⟨l, h1, h2, h3⟩ := h
  exact ⟨l, h1.le hle, HS.le.trans h2 hle, h3⟩
theorem body_len {s : HS} (r : Rec) (first base : Int) (hk : (r.key.getD []).length ≤ 1000) (hv : (r.val.getD []).length ≤ 10000) : HC Try.prog 79 [.agg (recC r), .lit (.int .i64 first), .lit (.int .i64 base)] s (fun v s' => FreshB s s' v 20000) := by
  refine HC79 ?_
  obtain ⟨off, time, hask, key, hasv, val⟩ := r
  simp only at hk hv
  simp only [c79, hBox, hc_agg, recC]
  intro p hp
  have htp := set_at s p (.cells [.lit (.int .i64 off), .lit (.int .i64 time), .lit (.bool hask), byV key, .lit (.bool hasv), byV val])
  have hst := le_set_new (.cells [.lit (.int .i64 off), .lit (.int .i64 time), .lit (.bool hask), byV key, .lit (.bool hasv), byV val]) (le_refl' s) hp
  generalize s.set p (.cells [.lit (.int .i64 off), .lit (.int .i64 time), .lit (.bool hask), byV key, .lit (.bool hasv), byV val]) = t0 at *
  simp [bindO, hcond, vCmp, vBin, vEq, vUn, vNil, vField, vLoad, takeCells, vExtract, hNew, hStore, hBox, hc_int, hc_bool, hc_string, hc_slice, hc_nilp, hc_nilm, hc_nilf, hc_agg, hc_list, hc_view, hc_ptr, hc_map, hc_func, ho_int, ho_bool, ho_string, ho_slice, ho_nilp, ho_nilm, ho_nilf, ho_list, ho_view, ho_ptr, ho_map, ho_func, putCells, vMk, set_at, Join, vToInt, bits64, bits64u, bits8, htp]
  refine (put_len _).mono ?_
  intro v s1 h1
  have e1 := h1.choose_spec.2.1 p _ htp
  simp [bindO, hcond, vCmp, vBin, vEq, vUn, vNil, vField, vLoad, takeCells, vExtract, hNew, hStore, hBox, hc_int, hc_bool, hc_string, hc_slice, hc_nilp, hc_nilm, hc_nilf, hc_agg, hc_list, hc_view, hc_ptr, hc_map, hc_func, ho_int, ho_bool, ho_string, ho_slice, ho_nilp, ho_nilm, ho_nilf, ho_list, ho_view, ho_ptr, ho_map, ho_func, putCells, vMk, set_at, Join, vToInt, bits64, bits64u, bits8, e1]
  refine (put_len _).mono ?_
  intro v2 s2 h2
  refine h1.append h2 (by omega) ?_
  intro A s3 h3
  have e3 := h3.choose_spec.2.1 p _ htp
  simp [bindO, hcond, vCmp, vBin, vEq, vUn, vNil, vField, vLoad, takeCells, vExtract, hNew, hStore, hBox, hc_int, hc_bool, hc_string, hc_slice, hc_nilp, hc_nilm, hc_nilf, hc_agg, hc_list, hc_view, hc_ptr, hc_map, hc_func, ho_int, ho_bool, ho_string, ho_slice, ho_nilp, ho_nilm, ho_nilf, ho_list, ho_view, ho_ptr, ho_map, ho_func, putCells, vMk, set_at, Join, vToInt, bits64, bits64u, bits8, e3]
  have tail : ∀ (A : HV) (s4 : HS), FreshB t0 s4 A 2000 → (match hcond (.lit (.bool hasv)) (HC Try.prog 78 [byV val] s4 (fun r34 s35 => hAppend s35 1 1 A r34 (fun x36 s37 => FreshB s s37 x36 20000))) (HC Try.prog 84 [.lit (.int .i64 (-1))] s4 (fun r38 s39 => hAppend s39 1 1 A r38 (fun x40 s41 => FreshB s s41 x40 20000))) with | q => q) := by
    intro A s4 h4
    cases hasv with
    | true =>
      simp only [hcond]
      refine (bytes_len val 10000 hv (by omega)).mono ?_
      intro v5 s5 h5
      exact h4.append h5 (by omega) fun A' t' h6 => (h6.up hst).mono (by omega)
    | false =>
      simp only [hcond]
      refine (put_len _).mono ?_
      intro v5 s5 h5
      exact h4.append h5 (by omega) fun A' t' h6 => (h6.up hst).mono (by omega)
  cases hask with
  | true =>
    simp only [hcond]
    refine (bytes_len key 1000 hk (by omega)).mono ?_
    intro v4 s4 h4
    refine h3.append h4 (by omega) fun A' t' h6 => ?_
    have e6 := h6.choose_spec.2.1 p _ htp
    have := tail A' t' (h6.mono (by omega))
    simpa [bindO, hcond, vCmp, vBin, vEq, vUn, vNil, vField, vLoad, takeCells, vExtract, hNew, hStore, hBox, hc_int, hc_bool, hc_string, hc_slice, hc_nilp, hc_nilm, hc_nilf, hc_agg, hc_list, hc_view, hc_ptr, hc_map, hc_func, ho_int, ho_bool, ho_string, ho_slice, ho_nilp, ho_nilm, ho_nilf, ho_list, ho_view, ho_ptr, ho_map, ho_func, putCells, vMk, set_at, Join, vToInt, bits64, bits64u, bits8, e6] using this
  | false =>
    simp only [hcond]
    refine (put_len _).mono ?_
    intro v4 s4 h4
    refine h3.append h4 (by omega) fun A' t' h6 => ?_
    have e6 := h6.choose_spec.2.1 p _ htp
    have := tail A' t' (h6.mono (by omega))
    simpa [bindO, hcond, vCmp, vBin, vEq, vUn, vNil, vField, vLoad, takeCells, vExtract, hNew, hStore, hBox, hc_int, hc_bool, hc_string, hc_slice, hc_nilp, hc_nilm, hc_nilf, hc_agg, hc_list, hc_view, hc_ptr, hc_map, hc_func, ho_int, ho_bool, ho_string, ho_slice, ho_nilp, ho_nilm, ho_nilf, ho_list, ho_view, ho_ptr, ho_map, ho_func, putCells, vMk, set_at, Join, vToInt, bits64, bits64u, bits8, e6] using this
theorem FreshB.hle {b s : HS} {A : HV} {n : Nat} (h : FreshB b s A n) : HS.le b s := h.choose_spec.2.1
theorem FreshB.app2 {b b' t : HS} {A B : HV} {n k : Nat} {K : HV → HS → Prop} (hA : FreshB b t A n) (hB : FreshB b' t B k) (hn : n + k ≤ 100000000) (hK : ∀ A' t', FreshB b t' A' (n + k) → K A' t') : hAppend t 1 1 A B K := by
  obtain ⟨la, a1, a2, a3⟩ := hA
  obtain ⟨lb, b1, b2, b3⟩ := hB
  refine a1.app a2 b1.cells b1.llen (by rw [bl_len]; omega) ⟨by omega, by omega⟩ ?_
  intro A' t' h1 h2 _
  exact hK A' t' ⟨la ++ lb, by rw [List.length_append]; simpa [bl] using h1, h2, by rw [List.length_append]; omega⟩
theorem encode_len {s : HS} (b : Bat) (l : List Rec) (hb : b.recs = some l) (hl : l.length ≤ 100) (hs : ∀ r ∈ l, (r.key.getD []).length ≤ 1000 ∧ (r.val.getD []).length ≤ 10000) :
    HC Try.prog 70 [.agg (batC b)] s (fun v s' => FreshB s s' v 100000000) := by
  refine HC70 ?_
  obtain ⟨c0, c1, c2, c3, c4, recs⟩ := b
  simp only at hb
  subst hb
  simp only [c70, hBox, hc_agg, batC]
  intro p hp
  obtain ⟨Z, hZ⟩ : ∃ Z, Z = [.lit (.int .i64 c0), .lit (.int .i64 c1), .lit (.int .i64 c2), .lit (.int .i64 c3), .lit (.int .i64 c4), recsV (some l)] := ⟨_, rfl⟩
  rw [← hZ]
  have z0 : Z[0]? = some (.lit (.int .i64 c0)) := by rw [hZ]; rfl
  have z1 : Z[1]? = some (.lit (.int .i64 c1)) := by rw [hZ]; rfl
  have z2 : Z[2]? = some (.lit (.int .i64 c2)) := by rw [hZ]; rfl
  have z3 : Z[3]? = some (.lit (.int .i64 c3)) := by rw [hZ]; rfl
  have z4 : Z[4]? = some (.lit (.int .i64 c4)) := by rw [hZ]; rfl
  have z5 : Z[5]? = some (recsV (some l)) := by rw [hZ]; rfl
  have htp := set_at s p (.cells Z)
  have hst := le_set_new (.cells Z) (le_refl' s) hp
  generalize s.set p (.cells Z) = t0 at *
  have hlen : ∀ t, vLenT (Try.prog.underlying 44) t (recsV (some l)) = some (.lit (.int .i64 l.length)) := fun t => rfl
  have hlen' : ∀ t, vLenT (some (.slice 34)) t (recsV (some l)) = some (.lit (.int .i64 l.length)) := fun t => rfl
  refine Join.of (fun xs s' => ∃ f, xs = [.lit (.int .i64 f)] ∧ s' = t0) ?_ ?_
  rotate_left
  · intro K hK
    simp only [bindO, vField, Nat.zero_add, vLoad, htp, takeCells, Bool.false_eq_true, if_false, z5, hlen, vBin, if_true]
    by_cases h0 : 0 < l.length
    · have h0' : (0 : Int) < (l.length : Int) := by omega
      have hix := recsC_idx l 0 h0
      simp only [Nat.zero_mul, List.drop_zero] at hix
      simp [hcond, vIdx, recsV, h0, hix, recC]
      exact hK _ _ ⟨_, rfl, rfl⟩
    · have h0' : ¬ (l.length : Int) > 0 := by omega
      simp only [h0', decide_false, hcond]
      exact hK _ _ ⟨_, rfl, rfl⟩
  rintro xs s1 ⟨f, rfl, rfl⟩
  simp only [bindO, vField, Nat.zero_add, vLoad, htp, takeCells, Bool.false_eq_true, if_false, z0, z1, vBin, if_true, List.headD_cons]
  refine (fixed_len _ 8 (by omega) (by omega)).mono ?_
  intro v s2 h2
  refine (fixed_len _ 8 (by omega) (by omega)).mono ?_
  intro v' s3 h3
  refine h2.append h3 (by omega) ?_
  intro A s4 h4
  have e4 := h4.hle _ _ htp
  simp only [e4, z2, z3, z4, z5, hlen, hlen']
  refine (fixed_len _ 8 (by omega) (by omega)).mono ?_
  intro v s5 h5
  have e5 := h5.hle _ _ e4
  simp only [e5, z2, z3, z4, z5, hlen, true_and]
  refine h4.append h5 (by omega) ?_
  intro A s6 h6
  have e6 := h6.hle _ _ htp
  simp only [e6, z2, z3, z4, z5, hlen, true_and]
  refine (fixed_len _ 2 (by omega) (by omega)).mono ?_
  intro v s7 h7
  have e7 := h7.hle _ _ e6
  simp only [e7, z2, z3, z4, z5, hlen, true_and]
  refine h6.append h7 (by omega) ?_
  intro A s8 h8
  have e8 := h8.hle _ _ htp
  simp only [e8, z2, z3, z4, z5, hlen, true_and]
  refine (fixed_len _ 4 (by omega) (by omega)).mono ?_
  intro v s9 h9
  have e9 := h9.hle _ _ e8
  simp only [e9, z2, z3, z4, z5, hlen, true_and]
  refine h8.append h9 (by omega) ?_
  intro A s10 h10
  have e10 := h10.hle _ _ htp
  simp only [e10, z2, z3, z4, z5, hlen, true_and]
  refine (fixed_len _ 4 (by omega) (by omega)).mono ?_
  intro v s11 h11
  refine h10.append h11 (by omega) ?_
  intro A s12 h12
  refine HLoop.ghost (σ := HV × Nat) (fun g => [g.1, .lit (.int .i64 g.2)]) (fun g t => g.2 ≤ l.length ∧ FreshB s1 t g.1 (100 + g.2 * 20065)) (fun g => l.length - g.2) (A, 0) rfl ⟨Nat.zero_le _, h12.mono (by omega)⟩ ?_
  rintro ⟨A, i⟩ t K ⟨hi, ho⟩ hK
  simp only at hi ho
  have et := ho.hle _ _ htp
  simp only [List.headD_cons, List.tail_cons, et, z5, hlen]
  by_cases hlt : i < l.length
  · have hlt' : (i : Int) < (l.length : Int) := by omega
    have hix := recsC_idx l i hlt
    obtain ⟨hk, hv⟩ := hs _ (getD_mem (z := r0) hlt)
    generalize l.getD i r0 = x at *
    simp only [hlt', decide_true, hcond, vIdx, recsV, Int.natCast_nonneg, true_and, if_true, Int.toNat_natCast, hix, recC_len, Nat.zero_add, Nat.le_refl, List.drop_zero, hcz, z0, et]
    refine (body_len x _ _ hk hv).mono ?_
    intro v s13 h13
    refine (bytesF_len h13 (by omega)).mono ?_
    intro v s14 h14
    have ho' := ho.le h13.hle
    refine ho'.append h14 (by omega) ?_
    intro A' t' h15
    exact hK (A', i + 1) _ _ (by rw [w64 (by omega) (by omega)]; rfl) ⟨hlt, h15.mono (by omega)⟩ (by show l.length - (i + 1) < l.length - i; omega)
  · obtain rfl : i = l.length := by omega
    have hlt' : ¬ (l.length : Int) < (l.length : Int) := by omega
    simp only [hlt', decide_false, hcond, et, z0]
    refine (fixed_len _ 8 (by omega) (by omega)).mono ?_
    intro v s13 h13
    have hoa := ho.le h13.hle
    obtain ⟨k, hk, hkl, -⟩ := hoa.row
    rw [hkl]
    refine (fixed_len _ 4 (by omega) (by omega)).mono ?_
    intro v2 s14 h14
    have ho2 := hoa.le h14.hle
    refine h13.append h14 (by omega) ?_
    intro A2 t2 h15
    have ho3 := ho.le h15.hle
    obtain ⟨k, hk, hrow⟩ := ho3.row
    refine (sumc A k hrow (by omega)).mono ?_
    rintro r t3 ⟨rfl, q, rfl⟩
    simp only [vToInt]
    refine (fixed_len _ 4 (by omega) (by omega)).mono ?_
    intro v3 t4 h16
    refine h15.append h16 (by omega) ?_
    intro A3 t5 h17
    have ho4 := ho.le h17.hle
    refine h17.app2 ho4 (by omega) ?_
    intro A4 t6 h18
    exact (h18.up (HS.le.trans hst ho.hle)).mono (by omega)
end Go.Proofs.Ytecnfekcflfihaa.CL

