/- What the proof of the law FoldWhole needs, cut out of the session's own texts by a program (slim.py): part 4. -/
import Derived.Test.YtecnfekcflfihaaQFoldWholec
section
namespace Go.Proofs.Ytecnfekcflfihaa.CL
end Go.Proofs.Ytecnfekcflfihaa.CL
end
section
namespace Go.Proofs.Ytecnfekcflfihaa.CL
open Go.Proofs.Ytecnfekcflfihaa.H Go.Proofs.Ytecnfekcflfihaa.C4
set_option linter.unusedVariables false
set_option linter.unusedSimpArgs false
set_option maxRecDepth 100000
/-- What stands within a row that grows is a list from here on. -/
theorem acc_frzIn {b t : HS} {sz : Nat} {A : HV} {n : Nat} {cs : List HV} (h : Acc b t sz A n cs) (hb : HS.le b t) {q : Nat} {ds : List HV} (hq : t q = some (.cells ds)) (hbq : b q = none) (hA : accId A ≠ some q) :
    ∃ t', (∀ ys zs : List HV, (∀ q cs, ys.map (frz2 q cs) = ys) → (∀ q cs, zs.map (frz2 q cs) = zs) → UpL (ys ++ A :: zs) t (ys ++ A :: zs) t') ∧ HS.le b t' ∧ Acc b t' sz A n (cs.map (frz0 q ds)) := by
  rcases h with ⟨rfl, rfl, rfl⟩ | ⟨a, f, h1, rfl, h3, h4⟩
  · exact ⟨b, fun _ _ _ _ => UpL.le _ hb, le_refl' b, .inl ⟨rfl, rfl, rfl⟩⟩
  · have hne : a ≠ q := by rintro rfl; exact hA rfl
    refine ⟨b.set a (.cells (cs.map (frz0 q ds))), fun ys zs hy hz => ?_, le_set_new _ (le_refl' b) h1, .inr ⟨a, f, h1, rfl, set_at _ _ _, by rw [List.length_map]; exact h4⟩⟩
    have hu := UpL.frzG (xs := ys ++ HV.view a 0 sz n f :: zs) (s' := b.set a (.cells (cs.map (frz0 q ds)))) hq (fun k o hk => ?_)
    · have e : (ys ++ HV.view a 0 sz n f :: zs).map (frz2 q ds) = ys ++ HV.view a 0 sz n f :: zs := by
        rw [List.map_append, List.map_cons, hy, hz]
        simp [frz2, frz1, frz0, phi, hne]
      rw [e] at hu
      exact hu
    · by_cases hka : k = a
      · subst hka
        rw [set_at] at hk
        cases hk
        exact ⟨hne, _, h3, .inr rfl⟩
      · rw [set_ne _ _ hka] at hk
        exact ⟨(by rintro rfl; rw [hbq] at hk; cases hk), o, hb _ _ hk, .inl rfl⟩
end Go.Proofs.Ytecnfekcflfihaa.CL
namespace Go.Proofs.Ytecnfekcflfihaa.CL
open Go.Proofs.Ytecnfekcflfihaa.H Go.Proofs.Ytecnfekcflfihaa.C4 Go.Proofs.Ytecnfekcflfihaa.C5
set_option linter.unusedVariables false
set_option linter.unusedSimpArgs false
set_option maxRecDepth 100000
end Go.Proofs.Ytecnfekcflfihaa.CL
end
section
namespace Go.Proofs.Ytecnfekcflfihaa.CL
open Go.Proofs.Ytecnfekcflfihaa.H Go.Proofs.Ytecnfekcflfihaa.C0 Go.Proofs.Ytecnfekcflfihaa.F0
set_option linter.unusedVariables false
set_option linter.unusedSimpArgs false
set_option maxRecDepth 100000
open Classical in
noncomputable def putR (M : Value → Option Rec) (k : Value) (x : Rec) : Value → Option Rec := fun q => if q = k then some x else M q
noncomputable def stepR (g : (Value → Option Rec) × Nat) (r : Rec) : (Value → Option Rec) × Nat := if r.hasKey then (putR g.1 (kv r.key) r, if (g.1 (kv r.key)).isSome then g.2 else g.2 + 1) else g
noncomputable def lastG (xs : List Rec) : (Value → Option Rec) × Nat := xs.foldl stepR (fun _ => none, 0)
def mapR (g : (Value → Option Rec) × Nat) : HObj := .map .string (fun k => (g.1 k).map fun r => .agg (recC r)) g.2
theorem mapR_put (M : Value → Option Rec) (k : Value) (x : Rec) : fput (fun k => (M k).map fun r => .agg (recC r)) k (some (.agg (recC x))) = fun q => (putR M k x q).map fun r => .agg (recC r) := by
  unfold putR fput
  funext q
  split <;> rfl
theorem lastG_take (xs : List Rec) {i : Nat} (hi : i < xs.length) : lastG (xs.take (i + 1)) = stepR (lastG (xs.take i)) (xs.getD i r0) := by
  rw [take_succ' r0 xs hi]; simp [lastG]
theorem lastG_le : ∀ (xs : List Rec) (g : (Value → Option Rec) × Nat), (xs.foldl stepR g).2 ≤ g.2 + xs.length
  | [], g => Nat.le_refl _
  | x :: xs, g => by
    have := lastG_le xs (stepR g x)
    have h2 : (stepR g x).2 ≤ g.2 + 1 := by
      unfold stepR
      split
      · show (if (g.1 (kv x.key)).isSome then g.2 else g.2 + 1) ≤ g.2 + 1
        split <;> omega
      · omega
    simp only [List.foldl_cons, List.length_cons]
    omega
theorem lastG_mem : ∀ (xs : List Rec) (g : (Value → Option Rec) × Nat) (k : Value) (r : Rec), (xs.foldl stepR g).1 k = some r → g.1 k = some r ∨ (r ∈ xs ∧ r.hasKey = true ∧ k = kv r.key)
  | [], g, k, r, h => .inl h
  | x :: xs, g, k, r, h => by
    rcases lastG_mem xs (stepR g x) k r h with h | ⟨h1, h2⟩
    · unfold stepR at h
      split at h
      · rename_i hx
        simp only [putR] at h
        split at h
        · rename_i e; cases h; exact .inr ⟨List.mem_cons_self .., hx, e⟩
        · exact .inl h
      · exact .inl h
    · exact .inr ⟨List.mem_cons_of_mem _ h1, h2⟩
def byI (k : List UInt8) : List Int := k.map fun c => (c.toNat : Int)
def pairOf (M : Value → Option Rec) (k : List UInt8) : Option Pr := match M (encStr k) with
  | some r => if r.hasVal then some ⟨some (byI k), r.val, r.off⟩ else none
  | none => none
def outP (M : Value → Option Rec) (ks : List (List UInt8)) : List Pr := ks.filterMap (pairOf M)
theorem recC2 (r : Rec) : (recC r)[2]? = some (.lit (.bool r.hasKey)) := rfl
theorem recC3 (r : Rec) : (recC r)[3]? = some (byV r.key) := rfl
theorem recC4 (r : Rec) : (recC r)[4]? = some (.lit (.bool r.hasVal)) := rfl
theorem recC5 (r : Rec) : (recC r)[5]? = some (byV r.val) := rfl
theorem recC0 (r : Rec) : (recC r)[0]? = some (.lit (.int .i64 r.off)) := rfl
theorem accV_rows' (l : List Pr) : accV 3 l.length (rows prC l) = rowV prC 3 (orNil l) := by cases l <;> rfl
theorem len_strs (ks : List (List UInt8)) (e : Nat) (s : HS) : vLenT (some (.slice e)) s (strsV ks) = some (.lit (.int .i64 ks.length)) := by
  unfold strsV
  split
  · rename_i h; subst h; rfl
  · rfl
theorem idx_strs (ks : List (List UInt8)) {i : Nat} (hi : i < ks.length) : vIdx 1 (strsV ks) (.lit (.int .i64 i)) = some (.elt [.lit (encStr (ks.getD i []))] 0) := by
  unfold strsV
  rw [if_neg (by rintro rfl; simp at hi)]
  have h1 : ((ks.map fun x => HV.lit (encStr x)).drop i).take 1 = [.lit (encStr (ks.getD i []))] := by
    rw [List.drop_eq_getElem_cons (by simpa using hi)]
    simp [List.getD, hi]
  simp [vIdx, hi, h1]
theorem outP_take (M : Value → Option Rec) (ks : List (List UInt8)) {i : Nat} (hi : i < ks.length) : outP M (ks.take (i + 1)) = outP M (ks.take i) ++ (pairOf M (ks.getD i [])).toList := by
  rw [take_succ' [] ks hi]
  simp only [outP, List.filterMap_append]
  cases h : pairOf M (ks.getD i []) <;> simp [h, -List.getD_eq_getElem?_getD]
theorem outP_len (M : Value → Option Rec) (ks : List (List UInt8)) : (outP M ks).length ≤ ks.length := by
  unfold outP; exact List.length_filterMap_le _ _
theorem frz_prC (q : Nat) (ds : List HV) (l : List Pr) : (rows prC l).map (frz0 q ds) = rows prC l := by
  induction l with
  | nil => rfl
  | cons x r ih =>
    rw [rows_cons, List.map_append, ih]
    obtain ⟨k, v, o⟩ := x
    cases k <;> cases v <;> rfl
theorem up_lit {A A' : HV} {t t' : HS} (v : Value) (h : ∀ ys zs : List HV, (∀ q cs, ys.map (frz2 q cs) = ys) → (∀ q cs, zs.map (frz2 q cs) = zs) → UpL (ys ++ A :: zs) t (ys ++ A' :: zs) t') : UpL [A, .lit v] t [A', .lit v] t' :=
  h [] [.lit v] (fun _ _ => rfl) (fun _ _ => rfl)
theorem of40 {f : Nat} {caps : List HV} (hp : plainFn Try.prog f = true) (xs : List Rec) (s : HS) (it : Gives Try.prog f caps xs.length (encRs xs) s) (hx : xs.length ≤ 100000) (hs : ∀ r ∈ xs, ShortR r) :
    HC Try.prog 40 [.func (.func f) caps] s (fun v s' => ∃ ks : List (List UInt8), ks.Pairwise (fun x y => x ≤ y) ∧ ks.Nodup ∧ (∀ x, x ∈ ks ↔ ((lastG xs).1 (encStr x)).isSome = true) ∧ v = rowV prC 3 (orNil (outP (lastG xs).1 ks)) ∧ s' = s) := by
  refine HC.up (HC40 ?_)
  simp [c40, bindO, hcond, vCmp, vBin, vEq, vUn, vNil, vField, vLoad, takeCells, vExtract, hNew, hStore, hBox, hc_int, hc_bool, hc_string, hc_slice, hc_nilp, hc_nilm, hc_nilf, hc_agg, hc_list, hc_view, hc_ptr, hc_map, hc_func, ho_int, ho_bool, ho_string, ho_slice, ho_nilp, ho_nilm, ho_nilf, ho_list, ho_view, ho_ptr, ho_map, ho_func, putCells, lcells, litCells, isNilS, llen, vMk, set_at, Try.underlying3, Try.underlying4, Try.underlying9, Try.underlying22, Try.underlying31, Try.underlying32, Try.underlying36, Try.underlying44, Try.underlying64, Try.underlying80, Try.underlying90, Try.underlying123]
  intro mid hmid p3 hp3
  have n13 := ne_new (set_at s mid _) hp3
  simp only [set_none_iff] at hp3
  obtain ⟨-, hp3⟩ := hp3
  simp [bindO, hcond, vCmp, vBin, vEq, vUn, vNil, vField, vLoad, takeCells, vExtract, hNew, hStore, hBox, hc_int, hc_bool, hc_string, hc_slice, hc_nilp, hc_nilm, hc_nilf, hc_agg, hc_list, hc_view, hc_ptr, hc_map, hc_func, ho_int, ho_bool, ho_string, ho_slice, ho_nilp, ho_nilm, ho_nilf, ho_list, ho_view, ho_ptr, ho_map, ho_func, putCells, lcells, litCells, isNilS, llen, vMk, set_at, Try.underlying3, Try.underlying4, Try.underlying9, Try.underlying22, Try.underlying31, Try.underlying32, Try.underlying36, Try.underlying44, Try.underlying64, Try.underlying80, Try.underlying90, Try.underlying123, set_set]
  obtain ⟨s1, hs1⟩ : ∃ s1, (s.set mid (.map .string (fun _ => none) 0)).set p3 (.cells [.map mid]) = s1 := ⟨_, rfl⟩
  rw [hs1]
  have hle0 : HS.le s s1 := by rw [← hs1]; exact le_set_new _ (le_set_new _ (le_refl' s) hmid) (by simp [set_none_iff, hp3, Ne.symm n13])
  have e3 : s1 p3 = some (.cells [.map mid]) := by rw [← hs1, set_at]
  have em : s1 mid = some (mapR (lastG [])) := by rw [← hs1, set_ne _ _ n13, set_at]; rfl
  clear hs1
  refine Join.of (fun _ t => HS.le s t ∧ t p3 = some (.cells [.map mid]) ∧ t mid = some (mapR (lastG xs))) ?_ ?_
  · rintro _ t ⟨h1, h2, h3⟩
    simp [bindO, hcond, vCmp, vBin, vEq, vUn, vNil, vField, vLoad, takeCells, vExtract, hNew, hStore, hBox, hc_int, hc_bool, hc_string, hc_slice, hc_nilp, hc_nilm, hc_nilf, hc_agg, hc_list, hc_view, hc_ptr, hc_map, hc_func, ho_int, ho_bool, ho_string, ho_slice, ho_nilp, ho_nilm, ho_nilf, ho_list, ho_view, ho_ptr, ho_map, ho_func, putCells, lcells, litCells, isNilS, llen, vMk, set_at, Try.underlying3, Try.underlying4, Try.underlying9, Try.underlying22, Try.underlying31, Try.underlying32, Try.underlying36, Try.underlying44, Try.underlying64, Try.underlying80, Try.underlying90, Try.underlying123, h2]
    refine (keys63 mid).mono ?_
    rintro v t1 ⟨q, hq, rfl, rfl⟩
    have nqm := ne_new h3 hq
    have nq3 := ne_new h2 hq
    have hn : (lastG xs).2 ≤ 100000 := by
      have := lastG_le xs (fun _ => none, 0)
      simp only [Nat.zero_add] at this
      exact Nat.le_trans this hx
    refine (sorted62 (q := q) (mid := mid) (n := (lastG xs).2) (f := fun k => ((lastG xs).1 k).map fun r => .agg (recC r)) (set_at _ _ _) (by rw [set_ne _ _ nqm]; exact h3) ?_ (by omega)).mono ?_
    · intro k x hkx
      simp only [Option.map_eq_some_iff] at hkx
      obtain ⟨r, hr, -⟩ := hkx
      rcases lastG_mem xs _ k r hr with h | ⟨h4, -, rfl⟩
      · cases h
      · refine ⟨_, rfl, ?_⟩
        have := (hs r h4).1
        cases hkr : r.key with
        | none => simp [keyB]; show (0 : Nat) ≤ _; omega
        | some l =>
          rw [hkr] at this
          have h5 : l.length ≤ 140737488355328 := this
          show ((l.map fun n => UInt8.ofNat n.toNat).toArray).size ≤ _
          simpa using h5
    · rintro v t1 ⟨ks, ho, hnd, hmem, hlen, rfl, rfl⟩
      have hmem' : ∀ x, x ∈ ks ↔ ((lastG xs).1 (encStr x)).isSome = true := fun x => by rw [hmem x, Option.isSome_map]
      obtain ⟨b, hb⟩ : ∃ b, t.set q (.root [.map mid]) = b := ⟨_, rfl⟩
      rw [hb]
      have hsb : HS.le s b := by rw [← hb]; exact le_set_new _ h1 hq
      have b3 : b p3 = some (.cells [.map mid]) := by rw [← hb, set_ne _ _ nq3]; exact h2
      have bm : b mid = some (mapR (lastG xs)) := by rw [← hb, set_ne _ _ nqm]; exact h3
      clear hb
      generalize hG : lastG xs = G at *
      obtain ⟨M, n⟩ := G
      simp [bindO, hcond, vCmp, vBin, vEq, vUn, vNil, vField, vLoad, takeCells, vExtract, hNew, hStore, hBox, hc_int, hc_bool, hc_string, hc_slice, hc_nilp, hc_nilm, hc_nilf, hc_agg, hc_list, hc_view, hc_ptr, hc_map, hc_func, ho_int, ho_bool, ho_string, ho_slice, ho_nilp, ho_nilm, ho_nilf, ho_list, ho_view, ho_ptr, ho_map, ho_func, putCells, lcells, litCells, isNilS, llen, vMk, set_at, Try.underlying3, Try.underlying4, Try.underlying9, Try.underlying22, Try.underlying31, Try.underlying32, Try.underlying36, Try.underlying44, Try.underlying64, Try.underlying80, Try.underlying90, Try.underlying123, len_strs]
      refine HLoop.ghostU (σ := HV × Nat) (fun g => [g.1, .lit (.int .i64 g.2)]) (fun g t => g.2 ≤ ks.length ∧ HS.le b t ∧ Acc b t 3 g.1 (outP M (ks.take g.2)).length (rows prC (outP M (ks.take g.2)))) (fun g => ks.length - g.2) (nilV, 0) b (UpL.refl _ _) ⟨Nat.zero_le _, le_refl' b, .inl ⟨rfl, rfl, rfl⟩⟩ ?_
      rintro ⟨A, i⟩ t2 K ⟨hi, hle, hA⟩ hK
      simp only at hi hle hA
      by_cases hlt : i < ks.length
      · have hlt' : (i : Int) < (ks.length : Int) := by omega
        have hix := idx_strs ks hlt
        have hot := outP_take M ks hlt
        have hol := outP_len M (ks.take i)
        rw [List.length_take] at hol
        have hkm : ks.getD i [] ∈ ks := by rw [List.getD, List.getElem?_eq_getElem hlt]; exact List.getElem_mem hlt
        generalize ks.getD i [] = k at *
        obtain ⟨r, hr⟩ := Option.isSome_iff_exists.1 ((hmem' k).1 hkm)
        have c3 := hle _ _ b3
        have cm := hle _ _ bm
        simp only [mapR] at cm
        simp only at hr
        have hone := hA.one
        have hc := hA.hc
        simp [bindO, hcond, vCmp, vBin, vEq, vUn, vNil, vField, vLoad, takeCells, vExtract, hNew, hStore, hBox, hc_int, hc_bool, hc_string, hc_slice, hc_nilp, hc_nilm, hc_nilf, hc_agg, hc_list, hc_view, hc_ptr, hc_map, hc_func, ho_int, ho_bool, ho_string, ho_slice, ho_nilp, ho_nilm, ho_nilf, ho_list, ho_view, ho_ptr, ho_map, ho_func, putCells, lcells, litCells, isNilS, llen, vMk, set_at, Try.underlying3, Try.underlying4, Try.underlying9, Try.underlying22, Try.underlying31, Try.underlying32, Try.underlying36, Try.underlying44, Try.underlying64, Try.underlying80, Try.underlying90, Try.underlying123, hlt']
        refine Join.of (fun xs' t' => ∃ A' t3, xs' = [A'] ∧ (∀ v, UpL [A', .lit v] t' [A', .lit v] t3) ∧ HS.le b t3 ∧ Acc b t3 3 A' (outP M (ks.take (i + 1))).length (rows prC (outP M (ks.take (i + 1))))) ?_ ?_
        · rintro _ t' ⟨A', t3, rfl, g1, g2, g3⟩
          simp [bindO, hcond, vCmp, vBin, vEq, vUn, vNil, vField, vLoad, takeCells, vExtract, hNew, hStore, hBox, hc_int, hc_bool, hc_string, hc_slice, hc_nilp, hc_nilm, hc_nilf, hc_agg, hc_list, hc_view, hc_ptr, hc_map, hc_func, ho_int, ho_bool, ho_string, ho_slice, ho_nilp, ho_nilm, ho_nilf, ho_list, ho_view, ho_ptr, ho_map, ho_func, putCells, lcells, litCells, isNilS, llen, vMk, set_at, Try.underlying3, Try.underlying4, Try.underlying9, Try.underlying22, Try.underlying31, Try.underlying32, Try.underlying36, Try.underlying44, Try.underlying64, Try.underlying80, Try.underlying90, Try.underlying123]
          exact hK (A', i + 1) _ _ t3 (by rw [w64 (by omega) (by omega)]; exact g1 _) ⟨hlt, g2, g3⟩ (by show ks.length - (i + 1) < ks.length - i; omega)
        · intro K42 hK42
          simp [bindO, hcond, vCmp, vBin, vEq, vUn, vNil, vField, vLoad, takeCells, vExtract, hNew, hStore, hBox, hc_int, hc_bool, hc_string, hc_slice, hc_nilp, hc_nilm, hc_nilf, hc_agg, hc_list, hc_view, hc_ptr, hc_map, hc_func, ho_int, ho_bool, ho_string, ho_slice, ho_nilp, ho_nilm, ho_nilf, ho_list, ho_view, ho_ptr, ho_map, ho_func, putCells, lcells, litCells, isNilS, llen, vMk, set_at, Try.underlying3, Try.underlying4, Try.underlying9, Try.underlying22, Try.underlying31, Try.underlying32, Try.underlying36, Try.underlying44, Try.underlying64, Try.underlying80, Try.underlying90, Try.underlying123, hix, c3, vLookup, cm, hr, keyIs, sameKey, ho_recC, recC_len]
          intro X hX
          have nX3 := ne_new c3 hX
          simp [bindO, hcond, vCmp, vBin, vEq, vUn, vNil, vField, vLoad, takeCells, vExtract, hNew, hStore, hBox, hc_int, hc_bool, hc_string, hc_slice, hc_nilp, hc_nilm, hc_nilf, hc_agg, hc_list, hc_view, hc_ptr, hc_map, hc_func, ho_int, ho_bool, ho_string, ho_slice, ho_nilp, ho_nilm, ho_nilf, ho_list, ho_view, ho_ptr, ho_map, ho_func, putCells, lcells, litCells, isNilS, llen, vMk, set_at, Try.underlying3, Try.underlying4, Try.underlying9, Try.underlying22, Try.underlying31, Try.underlying32, Try.underlying36, Try.underlying44, Try.underlying64, Try.underlying80, Try.underlying90, Try.underlying123, set_set, recC4, recC5, recC0, recC_len, hcz, ho_recC]
          cases hv : r.hasVal with
          | false =>
            simp
            refine hK42 _ _ ⟨A, _, rfl, fun v => UpL.refl _ _, le_set_new _ hle hX, ?_⟩
            rw [hot]
            simp [pairOf, hr, hv]
            exact hA.new _ hX
          | true =>
            simp [hStrBytes, bindO, hcond, vCmp, vBin, vEq, vUn, vNil, vField, vLoad, takeCells, vExtract, hNew, hStore, hBox, hc_int, hc_bool, hc_string, hc_slice, hc_nilp, hc_nilm, hc_nilf, hc_agg, hc_list, hc_view, hc_ptr, hc_map, hc_func, ho_int, ho_bool, ho_string, ho_slice, ho_nilp, ho_nilm, ho_nilf, ho_list, ho_view, ho_ptr, ho_map, ho_func, putCells, lcells, litCells, isNilS, llen, vMk, set_at, Try.underlying3, Try.underlying4, Try.underlying9, Try.underlying22, Try.underlying31, Try.underlying32, Try.underlying36, Try.underlying44, Try.underlying64, Try.underlying80, Try.underlying90, Try.underlying123]
            intro Y hY
            simp only [set_none_iff] at hY
            obtain ⟨hYX, hY⟩ := hY
            have hsz : (ByteArray.mk k.toArray).size = k.length := by simp [ByteArray.size]
            simp [bindO, hcond, vCmp, vBin, vEq, vUn, vNil, vField, vLoad, takeCells, vExtract, hNew, hStore, hBox, hc_int, hc_bool, hc_string, hc_slice, hc_nilp, hc_nilm, hc_nilf, hc_agg, hc_list, hc_view, hc_ptr, hc_map, hc_func, ho_int, ho_bool, ho_string, ho_slice, ho_nilp, ho_nilm, ho_nilf, ho_list, ho_view, ho_ptr, ho_map, ho_func, putCells, lcells, litCells, isNilS, llen, vMk, set_at, Try.underlying3, Try.underlying4, Try.underlying9, Try.underlying22, Try.underlying31, Try.underlying32, Try.underlying36, Try.underlying44, Try.underlying64, Try.underlying80, Try.underlying90, Try.underlying123, set_ne _ _ (Ne.symm hYX), recC5, recC0, hfill, hc_by, ho_by, hsz]
            have hYs : (t2.set X (.cells (recC r))) Y = none := by rw [set_none_iff]; exact ⟨hYX, hY⟩
            have hAY : accId A ≠ some Y := by
              intro e
              have := (hA.free e).2
              rw [hY] at this
              cases this
            refine ((hA.new (.cells (recC r)) hX).new _ hYs).app1 (le_set_new _ (le_set_new _ hle hX) hYs) (vs := [.view Y 0 1 k.length false, byV r.val, .lit (.int .i64 r.off)]) rfl rfl rfl ?_ ?_
            · simp [room]; omega
            · intro A' t' h1 h2 h3
              have o := h3 Y _ hAY (set_at _ _ _)
              obtain ⟨t3, u1, u2, u3⟩ := acc_frzIn h1 h2 o.1 (none_of_le hle hY) o.2
              refine hK42 _ _ ⟨A', t3, rfl, fun v => up_lit v u1, u2, ?_⟩
              rw [hot]
              have hpr : pairOf M k = some ⟨some (byI k), r.val, r.off⟩ := by simp [pairOf, hr, hv]
              rw [hpr]
              have hfr : ([.view Y 0 1 k.length false, byV r.val, .lit (.int .i64 r.off)] : List HV).map (frz0 Y (k.map fun c => HV.lit (.int .u8 c.toNat))) = prC ⟨some (byI k), r.val, r.off⟩ := by
                have e1 : (k.map fun c => HV.lit (.int .u8 c.toNat)).take k.length = bl (byI k) := by
                  rw [List.take_of_length_le (by simp)]
                  simp [bl, byI]
                have e2 : frz0 Y (k.map fun c => HV.lit (.int .u8 c.toNat)) (byV r.val) = byV r.val := by cases r.val <;> rfl
                simp [prC, frz0, phi, e1, byV, byI]
                cases r.val <;> rfl
              rw [List.map_append, frz_prC, hfr] at u3
              simpa [rows_app, rows_one] using u3
      · obtain rfl : i = ks.length := by omega
        rw [List.take_length] at hA
        simp [bindO, hcond, vCmp, vBin, vEq, vUn, vNil, vField, vLoad, takeCells, vExtract, hNew, hStore, hBox, hc_int, hc_bool, hc_string, hc_slice, hc_nilp, hc_nilm, hc_nilf, hc_agg, hc_list, hc_view, hc_ptr, hc_map, hc_func, ho_int, ho_bool, ho_string, ho_slice, ho_nilp, ho_nilm, ho_nilf, ho_list, ho_view, ho_ptr, ho_map, ho_func, putCells, lcells, litCells, isNilS, llen, vMk, set_at, Try.underlying3, Try.underlying4, Try.underlying9, Try.underlying22, Try.underlying31, Try.underlying32, Try.underlying36, Try.underlying44, Try.underlying64, Try.underlying80, Try.underlying90, Try.underlying123]
        refine ⟨_, s, ?_, ks, ho, hnd, hmem', rfl, rfl⟩
        rw [← accV_rows']
        exact (hA.base hsb).up (HS.le.trans hsb hle)
  · intro K hK
    refine HRange.seq hp (it.le hle0) (fun i _ => rfl) (fun i t => HS.le s t ∧ t p3 = some (.cells [.map mid]) ∧ t mid = some (mapR (lastG (xs.take i)))) (fun _ => False) (fun _ _ => False) ?_ (fun _ _ _ _ _ h => h) (fun _ _ _ _ _ _ h => h) ⟨hle0, e3, em⟩ ?_ (fun _ h => h.elim) (fun _ _ h => h.elim) ?_
    · rintro idl i t t' hi hn ⟨g1, g2, g3⟩
      exact ⟨hn.le g1 (none_of_le hle0 hi), hn.cells g2, hn.map g3⟩
    · rintro t ⟨g1, g2, g3⟩
      rw [List.take_length] at g3
      exact hK _ _ ⟨g1, g2, g3⟩
    · rintro i t idl R0 R1 K' hi hid ht ⟨g1, g2, g3⟩ kn kr kx tk0 tk1
      have n3 : p3 ≠ idl := by rintro rfl; rw [ht] at g2; cases g2; exact tk0
      have nm : mid ≠ idl := by rintro rfl; rw [ht] at g3; cases g3; exact tk0
      have hsi : s idl = none := none_of_le hle0 hid
      have htk := lastG_take xs hi
      have hsm := hs (xs.getD i r0) (by rw [List.getD, List.getElem?_eq_getElem hi]; exact List.getElem_mem hi)
      simp [bindO, hcond, vCmp, vBin, vEq, vUn, vNil, vField, vLoad, takeCells, vExtract, hNew, hStore, hBox, hc_int, hc_bool, hc_string, hc_slice, hc_nilp, hc_nilm, hc_nilf, hc_agg, hc_list, hc_view, hc_ptr, hc_map, hc_func, ho_int, ho_bool, ho_string, ho_slice, ho_nilp, ho_nilm, ho_nilf, ho_list, ho_view, ho_ptr, ho_map, ho_func, putCells, lcells, litCells, isNilS, llen, vMk, set_at, Try.underlying3, Try.underlying4, Try.underlying9, Try.underlying22, Try.underlying31, Try.underlying32, Try.underlying36, Try.underlying44, Try.underlying64, Try.underlying80, Try.underlying90, Try.underlying123, encRs]
      simp only [← List.getD_eq_getElem?_getD]
      generalize xs.getD i r0 = x at *
      intro X hX
      have m1 := ne_new g3 hX
      have m3 := ne_new g2 hX
      have mi := ne_new ht hX
      simp [bindO, hcond, vCmp, vBin, vEq, vUn, vNil, vField, vLoad, takeCells, vExtract, hNew, hStore, hBox, hc_int, hc_bool, hc_string, hc_slice, hc_nilp, hc_nilm, hc_nilf, hc_agg, hc_list, hc_view, hc_ptr, hc_map, hc_func, ho_int, ho_bool, ho_string, ho_slice, ho_nilp, ho_nilm, ho_nilf, ho_list, ho_view, ho_ptr, ho_map, ho_func, putCells, lcells, litCells, isNilS, llen, vMk, set_at, Try.underlying3, Try.underlying4, Try.underlying9, Try.underlying22, Try.underlying31, Try.underlying32, Try.underlying36, Try.underlying44, Try.underlying64, Try.underlying80, Try.underlying90, Try.underlying123, set_set, hcz, ho_recC, recC_len, set_ne _ _ mi, ht]
      obtain ⟨t2, ht2⟩ : ∃ t2, (t.set X (.cells (recC x))).set idl R1 = t2 := ⟨_, rfl⟩
      rw [ht2]
      have em2 : t2 mid = some (mapR (lastG (xs.take i))) := by rw [← ht2, set_ne _ _ nm, set_ne _ _ m1]; exact g3
      have e32 : t2 p3 = some (.cells [.map mid]) := by rw [← ht2, set_ne _ _ n3, set_ne _ _ m3]; exact g2
      have ei : t2 idl = some R1 := by rw [← ht2, set_at]
      have eX : t2 X = some (.cells (recC x)) := by rw [← ht2, set_ne _ _ (Ne.symm mi), set_at]
      have hle2 : HS.le s t2 := by rw [← ht2]; exact le_set_free _ (le_set_new _ g1 hX) hsi
      clear ht2
      generalize hG : lastG (xs.take i) = G at *
      obtain ⟨M, n⟩ := G
      have hmid3 : p3 ≠ mid := by rintro rfl; rw [em2] at e32; cases e32
      simp [bindO, hcond, vCmp, vBin, vEq, vUn, vNil, vField, vLoad, takeCells, vExtract, hNew, hStore, hBox, hc_int, hc_bool, hc_string, hc_slice, hc_nilp, hc_nilm, hc_nilf, hc_agg, hc_list, hc_view, hc_ptr, hc_map, hc_func, ho_int, ho_bool, ho_string, ho_slice, ho_nilp, ho_nilm, ho_nilf, ho_list, ho_view, ho_ptr, ho_map, ho_func, putCells, lcells, litCells, isNilS, llen, vMk, set_at, Try.underlying3, Try.underlying4, Try.underlying9, Try.underlying22, Try.underlying31, Try.underlying32, Try.underlying36, Try.underlying44, Try.underlying64, Try.underlying80, Try.underlying90, Try.underlying123, eX, recC2, recC3]
      cases hk : x.hasKey with
      | false =>
        simp
        refine kn _ ei ⟨hle2, e32, ?_⟩
        rw [htk, stepR, hk]
        exact em2
      | true =>
        have h6 := mapR_put M (kv x.key) x
        simp [bindO, hcond, vCmp, vBin, vEq, vUn, vNil, vField, vLoad, takeCells, vExtract, hNew, hStore, hBox, hc_int, hc_bool, hc_string, hc_slice, hc_nilp, hc_nilm, hc_nilf, hc_agg, hc_list, hc_view, hc_ptr, hc_map, hc_func, ho_int, ho_bool, ho_string, ho_slice, ho_nilp, ho_nilm, ho_nilf, ho_list, ho_view, ho_ptr, ho_map, ho_func, putCells, lcells, litCells, isNilS, llen, vMk, set_at, Try.underlying3, Try.underlying4, Try.underlying9, Try.underlying22, Try.underlying31, Try.underlying32, Try.underlying36, Try.underlying44, Try.underlying64, Try.underlying80, Try.underlying90, Try.underlying123, e32, eX, recC2, recC3, recC_len, hcz, isStr_by, toStr_by]
        refine (own x _ hsm.1 hsm.2).mono ?_
        rintro v s2 ⟨rfl, rfl⟩
        simp only [mapR] at em2
        simp [bindO, hcond, vCmp, vBin, vEq, vUn, vNil, vField, vLoad, takeCells, vExtract, hNew, hStore, hBox, hc_int, hc_bool, hc_string, hc_slice, hc_nilp, hc_nilm, hc_nilf, hc_agg, hc_list, hc_view, hc_ptr, hc_map, hc_func, ho_int, ho_bool, ho_string, ho_slice, ho_nilp, ho_nilm, ho_nilf, ho_list, ho_view, ho_ptr, ho_map, ho_func, putCells, lcells, litCells, isNilS, llen, vMk, set_at, Try.underlying3, Try.underlying4, Try.underlying9, Try.underlying22, Try.underlying31, Try.underlying32, Try.underlying36, Try.underlying44, Try.underlying64, Try.underlying80, Try.underlying90, Try.underlying123, e32, eX, recC2, recC3, toStr_by, hMapSet, em2, sameKey_str, keyIs_kv]
        rw [h6]
        refine kn _ (by rw [set_ne _ _ (Ne.symm nm)]; exact ei) ⟨?_, by rw [set_ne _ _ hmid3]; exact e32, ?_⟩
        · exact le_set_free _ hle2 hmid
        · rw [htk, set_at]
          simp [mapR, stepR, hk]
end Go.Proofs.Ytecnfekcflfihaa.CL
end
section
namespace Go.Proofs.Ytecnfekcflfihaa.CL
open Go.Proofs.Ytecnfekcflfihaa.H Go.Proofs.Ytecnfekcflfihaa.C0 Go.Proofs.Ytecnfekcflfihaa.F0
set_option linter.unusedVariables false
set_option linter.unusedSimpArgs false
set_option maxRecDepth 100000
theorem pr1 (p : Pr) : (prC p)[1]? = some (byV p.val) := rfl
theorem len_prV' (o : Option (List Pr)) (e : Nat) (s : HS) : vLenT (some (.slice e)) s (rowV prC 3 o) = some (.lit (.int .i64 ((o.getD []).length : Nat))) := by cases o <;> rfl
def sameP (off : Bool) (p q : Pr) : Bool := sameB' p.key q.key && (sameB' p.val q.val && (!off || p.off == q.off))
def delF (l : List Pr) (k : By) : List Pr := if findOk l k then l.take (findI l k) ++ l.drop (findI l k + 1) else l
def stepP (l : List Pr) (r : Rec) : List Pr := if r.hasKey then (if r.hasVal then putF l ⟨r.key, r.val, r.off⟩ else delF l (keyB r.key)) else l
def foldP (xs : List Rec) : List Pr := xs.foldl stepP []
theorem putF_len_le (l : List Pr) (p : Pr) : (putF l p).length ≤ l.length + 1 := by
  unfold putF
  have := findI_le l (pk p)
  rw [List.length_append, List.length_cons, List.length_take, List.length_drop]
  split <;> omega
theorem stepP_len (l : List Pr) (r : Rec) : (stepP l r).length ≤ l.length + 1 := by
  unfold stepP delF
  split
  · split
    · exact putF_len_le _ _
    · split
      · have := findI_le l (keyB r.key)
        rw [List.length_append, List.length_take, List.length_drop]; omega
      · omega
  · omega
end Go.Proofs.Ytecnfekcflfihaa.CL
end
section
namespace Go.Proofs.Ytecnfekcflfihaa.H
open Go.RowKit Go.MapKept
set_option linter.unusedVariables false
set_option linter.unusedSimpArgs false
theorem put_rows {α : Type} {enc : α → List HV} {sz : Nat} (h : ∀ x, (enc x).length = sz) (v : α) (rest : List HV) : ∀ (l : List α) (i : Nat), i < l.length → putCells (rows enc l ++ rest) (i * sz) (enc v) = rows enc (l.set i v) ++ rest
  | x :: l, 0, _ => by
    simp only [putCells, Nat.zero_mul, List.take_zero, List.nil_append, Nat.zero_add, List.set_cons_zero, rows_cons, h, List.append_assoc]
    rw [List.drop_append, List.drop_of_length_le (by rw [h]; omega), List.nil_append, h, Nat.sub_self, List.drop_zero]
  | x :: l, i + 1, hi => by
    have ih := put_rows h v rest l i (by simpa using hi)
    simp only [putCells, List.set_cons_succ, rows_cons, List.append_assoc] at ih ⊢
    rw [← ih, Nat.add_mul, Nat.one_mul]
    rw [List.take_append, List.take_of_length_le (by rw [h]; omega), h, Nat.add_sub_cancel, List.append_assoc]
    congr 1
    congr 1
    congr 1
    rw [h, List.drop_append, List.drop_of_length_le (by rw [h]; omega), List.nil_append, h]
    congr 1
    omega
theorem idx_view {q off sz n : Nat} {f : Bool} {i : Nat} (k : IntKind) (hi : i < n) : vIdx sz (.view q off sz n f) (.lit (.int k i)) = some (.ptr q (off + i * sz)) := by
  have h1 : (i : Int) < (n : Int) := by omega
  simp [vIdx, h1]
theorem load_rows {α : Type} {enc : α → List HV} {sz : Nat} (h : ∀ x, (enc x).length = sz) (z : α) {s : HS} {q : Nat} {l : List α} {rest : List HV} (hq : s q = some (.cells (rows enc l ++ rest))) {i : Nat} (hi : i < l.length) :
    vLoad s (.ptr q (i * sz)) sz true = some (.agg (enc (l.getD i z))) := by
  have hl : (rows enc l).length = l.length * sz := rows_len h l
  have h2 : i * sz + sz ≤ l.length * sz := by
    have := Nat.mul_le_mul_right sz (show i + 1 ≤ l.length from hi)
    rw [Nat.add_mul, Nat.one_mul] at this
    exact this
  have h3 : ((rows enc l ++ rest).drop (i * sz)).take sz = enc (l.getD i z) := by
    rw [List.drop_append_of_le_length (by omega), List.take_append_of_le_length (by simp; omega)]
    exact rows_idx h z l i hi
  simp only [vLoad, hq, takeCells, if_true, h3]
  rw [if_pos (by rw [List.length_append]; omega)]
theorem load_cell {t : HS} {q : Nat} {cs : List HV} (off n : Nat) (h : t q = some (.cells cs)) : vLoad t (.ptr q off) n false = cs[off]? := by simp [vLoad, takeCells, h]
theorem load_all {t : HS} {q n : Nat} {cs : List HV} (hn : cs.length = n) (h : t q = some (.cells cs)) : vLoad t (.ptr q 0) n true = some (.agg cs) := by
  subst hn
  simp [vLoad, takeCells, h]
/-- A value is put into a box of its size. -/
theorem store_all {s : HS} {q n : Nat} {cs vs : List HV} {K : HS → Prop} (hq : s q = some (.cells cs)) (hc : cs.length = n) (hv : vs.length = n) (ho : ∀ x ∈ vs, hone x = true) (h : K (s.set q (.cells vs))) : hStore s (.ptr q 0) (.agg vs) n K := by
  unfold hStore
  simp only [hcells, hq]
  refine ⟨hv, by omega, ho, ?_⟩
  have e : putCells cs 0 vs = vs := by
    unfold putCells
    rw [List.take_zero, List.nil_append, List.drop_of_length_le (by omega), List.append_nil]
  rw [e]
  exact h
/-- A new box that a value is put into. -/
theorem new_store {s : HS} {n : Nat} {zs vs : List HV} {K : HV → HS → Prop} (hz : zs.length = n) (hv : vs.length = n) (ho : ∀ x ∈ vs, hone x = true) (h : ∀ q, s q = none → K (.ptr q 0) (s.set q (.cells vs))) :
    hNew s (.cells zs) (fun id => .ptr id 0) (fun x t => hStore t x (.agg vs) n (fun t' => K x t')) := by
  intro q hq
  refine store_all (s := s.set q (.cells zs)) (by simp [HS.set]) hz hv ho ?_
  have : (s.set q (.cells zs)).set q (.cells vs) = s.set q (.cells vs) := by funext k; simp only [HS.set]; split <;> rfl
  rw [this]
  exact h q hq
/-- An element is put into a row. -/
theorem store_rows {α : Type} {enc : α → List HV} {sz : Nat} (h : ∀ x, (enc x).length = sz) {s : HS} {q : Nat} {l : List α} {rest : List HV} (hq : s q = some (.cells (rows enc l ++ rest))) {i : Nat} (hi : i < l.length) (v : α)
    (ho : ∀ x ∈ enc v, hone x = true) {K : HS → Prop} (hK : K (s.set q (.cells (rows enc (l.set i v) ++ rest)))) : hStore s (.ptr q (i * sz)) (.agg (enc v)) sz K := by
  have hl : (rows enc l).length = l.length * sz := rows_len h l
  have h2 : i * sz + sz ≤ l.length * sz := by
    have := Nat.mul_le_mul_right sz (show i + 1 ≤ l.length from hi)
    rw [Nat.add_mul, Nat.one_mul] at this
    exact this
  unfold hStore
  simp only [hcells, hq]
  refine ⟨h v, by rw [List.length_append]; omega, ho, ?_⟩
  rw [put_rows h v rest l i hi]
  exact hK
theorem slice_view_hi {q off sz n : Nat} {f : Bool} {hi : Nat} (k : IntKind) (h1 : hi ≤ n) : vSlice sz (.view q off sz n f) none (some (.lit (.int k hi))) none = some (.view q off sz hi (f && hi == n)) := by
  have h3 : (hi : Int) ≤ (n : Int) := by omega
  simp [vSlice, cutAt, intAt, h3]
theorem slice_view_lo {q off sz n : Nat} {f : Bool} {lo : Nat} (k : IntKind) (h1 : lo ≤ n) : vSlice sz (.view q off sz n f) (some (.lit (.int k lo))) none none = some (.view q (off + lo * sz) sz (n - lo) f) := by
  have h3 : (lo : Int) ≤ (n : Int) := by omega
  simp [vSlice, cutAt, intAt, h3]
/-- What is left of a row, when the end of it is made zero. -/
theorem clear_tail {α : Type} {enc : α → List HV} {sz : Nat} (h : ∀ x, (enc x).length = sz) (hz0 : 0 < sz) {z : Value} (hz : z.cells.size = sz) {s : HS} {q : Nat} {l : List α} {rest : List HV} (hq : s q = some (.cells (rows enc l ++ rest))) {i : Nat} (hi : i ≤ l.length) {f : Bool} {K : HS → Prop}
    (hK : ∀ rest', K (s.set q (.cells (rows enc (l.take i) ++ rest')))) : hClear s sz z (.view q (0 + i * sz) sz (l.length - i) f) K := by
  have hl : (rows enc l).length = l.length * sz := rows_len h l
  have h2 : i * sz + (l.length - i) * sz = l.length * sz := by rw [← Nat.add_mul]; congr 1; omega
  unfold hClear
  simp only [hq]
  refine ⟨trivial, by rw [List.length_append]; omega, ?_⟩
  have e : putCells (rows enc l ++ rest) (0 + i * sz) (zcells z ((l.length - i) * sz)) = rows enc (l.take i) ++ (zcells z ((l.length - i) * sz) ++ (rows enc l ++ rest).drop (0 + i * sz + (zcells z ((l.length - i) * sz)).length)) := by
    unfold putCells
    rw [Nat.zero_add, List.take_append_of_le_length (by omega), rows_take h, List.append_assoc]
  rw [e]
  exact hK _
end Go.Proofs.Ytecnfekcflfihaa.H
end
section
namespace Go.Proofs.Ytecnfekcflfihaa.H
open Go.RowKit Go.MapKept
set_option linter.unusedVariables false
set_option linter.unusedSimpArgs false
variable {P : Program}
def idxI {α : Type} (p : α → Bool) (l : List α) : Int := match l.findIdx? p with | some i => (i : Int) | none => -1
theorem idxI_at {α : Type} {p : α → Bool} {l : List α} {i : Nat} (hi : i < l.length) (h : ∀ x ∈ l.take i, p x = false) (hp : p l[i] = true) : idxI p l = (i : Int) := by
  have : l.findIdx? p = some i := by
    rw [List.findIdx?_eq_some_iff_getElem]
    refine ⟨hi, hp, fun j hj => ?_⟩
    have := h l[j] (List.mem_take_iff_getElem.2 ⟨j, by omega, rfl⟩)
    simp [this]
  simp [idxI, this]
theorem idxI_none {α : Type} {p : α → Bool} {l : List α} (h : ∀ x ∈ l, p x = false) : idxI p l = -1 := by
  have : l.findIdx? p = none := List.findIdx?_eq_none_iff.2 h
  simp [idxI, this]
theorem idxI_cases {α : Type} (p : α → Bool) (l : List α) : (idxI p l = -1 ∧ ∀ x ∈ l, p x = false) ∨ ∃ i, ∃ hi : i < l.length, idxI p l = (i : Int) ∧ p l[i] = true ∧ ∀ x ∈ l.take i, p x = false := by
  cases h : l.findIdx? p with
  | none => exact .inl ⟨by simp [idxI, h], List.findIdx?_eq_none_iff.1 h⟩
  | some i =>
    rw [List.findIdx?_eq_some_iff_getElem] at h
    obtain ⟨hi, hp, hj⟩ := h
    have ht : ∀ x ∈ l.take i, p x = false := fun x hx => by
      obtain ⟨j, hj1, rfl⟩ := List.mem_take_iff_getElem.1 hx
      have := hj j (by omega)
      simpa using this
    exact .inr ⟨i, hi, idxI_at hi ht hp, hp, ht⟩
theorem wrap_add1 {i : Nat} (h : i < 9223372036854775807) : IntKind.i64.wrap ((i : Int) + 1) = ((i + 1 : Nat) : Int) := by rw [w64 (by omega) (by omega)]; omega
theorem getD_get {α : Type} (z : α) (l : List α) {i : Nat} (h : i < l.length) : l.getD i z = l[i] := by simp [List.getD, h]
/-- slices.IndexFunc: the row lies in memory. -/
theorem idxFunc_gen {e sz : Nat} {α : Type} {enc : α → List HV} (h : ∀ x, (enc x).length = sz) (z : α) (p : α → Bool) {a1 : HV} {q : Nat} {l : List α} {rest : List HV} {f : Bool} {s : HS} {Q : HV → HS → Prop}
    (hq : s q = some (.cells (rows enc l ++ rest))) (hl : l.length < 9223372036854775807)
    (hp : ∀ x ∈ l, ∀ K : HV → HS → Prop, K (.lit (.bool (p x))) s → hcall P a1 [.agg (enc x)] s K) (hQ : Q (.lit (.int .i64 (idxI p l))) s) :
    bindO (vLenT (some (.slice e)) s (.view q 0 sz l.length f)) fun x1 => HLoop (fun y3 s4 K2 => bindO (vBin .lss (y3.headD .junk) x1) fun x5 => hcond x5 (bindO (vIdx sz (.view q 0 sz l.length f) (y3.headD .junk)) fun x6 => bindO (vLoad s4 x6 sz true) fun x7 => hcall P a1 [x7] s4 (fun r8 s9 => hcond r8 (Q (y3.headD .junk) s9) (bindO (vBin .add (y3.headD .junk) (.lit (.int .i64 1))) fun x10 => K2 [x10] s9))) (Q (.lit (.int .i64 (-1))) s4)) [(.lit (.int .i64 0))] s := by
  simp only [vLenT, vLen, bindO]
  refine HLoop.ghost (σ := Nat) (fun i => [.lit (.int .i64 (i : Int))]) (fun i t => i ≤ l.length ∧ t = s ∧ ∀ x ∈ l.take i, p x = false) (fun i => l.length - i) 0 rfl ⟨Nat.zero_le _, rfl, by simp⟩ ?_
  rintro i t K ⟨hi, rfl, ht⟩ hK
  simp only [List.headD_cons, vBin, if_true, hcond]
  by_cases hlt : i < l.length
  · have hlt' : (i : Int) < (l.length : Int) := by omega
    have hg := getD_get z l hlt
    simp only [hlt', decide_true, idx_view _ hlt, Nat.zero_add, load_rows h z hq hlt, hg]
    refine hp _ (List.getElem_mem hlt) _ ?_
    cases hpx : p l[i] with
    | true =>
      have := idxI_at hlt ht hpx
      rw [this] at hQ
      exact hQ
    | false =>
      simp only [wrap_add1 (show i < 9223372036854775807 by omega)]
      refine hK (i + 1) _ _ rfl ⟨hlt, rfl, fun x hx => ?_⟩ (by omega)
      rw [take_succ' z l hlt, hg, List.mem_append, List.mem_singleton] at hx
      rcases hx with hx | rfl
      · exact ht x hx
      · exact hpx
  · have hlt' : ¬ (i : Int) < (l.length : Int) := by omega
    rw [List.take_of_length_le (by omega)] at ht
    rw [idxI_none ht] at hQ
    simp only [hlt', decide_false]
    exact hQ
theorem idxFunc_nil {e sz : Nat} {a1 : HV} {s : HS} {Q : HV → HS → Prop} (hQ : Q (.lit (.int .i64 (-1))) s) :
    bindO (vLenT (some (.slice e)) s nilV) fun x1 => HLoop (fun y3 s4 K2 => bindO (vBin .lss (y3.headD .junk) x1) fun x5 => hcond x5 (bindO (vIdx sz nilV (y3.headD .junk)) fun x6 => bindO (vLoad s4 x6 sz true) fun x7 => hcall P a1 [x7] s4 (fun r8 s9 => hcond r8 (Q (y3.headD .junk) s9) (bindO (vBin .add (y3.headD .junk) (.lit (.int .i64 1))) fun x10 => K2 [x10] s9))) (Q (.lit (.int .i64 (-1))) s4)) [(.lit (.int .i64 0))] s := by
  simp only [vLenT, vLen, bindO]
  refine HLoop.ghost (σ := Nat) (fun i => [.lit (.int .i64 (i : Int))]) (fun i t => t = s ∧ i = 0) (fun i => 0) 0 rfl ⟨rfl, rfl⟩ ?_
  rintro i t K ⟨rfl, rfl⟩ hK
  exact hQ
/-- slices.DeleteFunc: what is left lies where the row lay. -/
theorem delFunc_gen {e u3 sz g : Nat} {α : Type} {enc : α → List HV} {zs : List HV} {zv : Value} (h : ∀ x, (enc x).length = sz) (hz0 : 0 < sz) (hzs : zs.length = sz) (hzv : zv.cells.size = sz) (ho : ∀ x, ∀ y ∈ enc x, hone y = true) (z : α) (p : α → Bool) {a1 : HV} {q : Nat} {l : List α} {rest : List HV} {f : Bool} {s : HS} {Q : HV → HS → Prop}
    (hq : s q = some (.cells (rows enc l ++ rest))) (hl : l.length < 9223372036854775807)
    (hg : ∀ K : HV → HS → Prop, K (.lit (.int .i64 (idxI p l))) s → HC P g [.view q 0 sz l.length f, a1] s K)
    (hp : ∀ t, HS.le (s.del q) t → ∀ x ∈ l, ∀ K : HV → HS → Prop, K (.lit (.bool (p x))) t → hcall P a1 [.agg (enc x)] t K)
    (hQ : ∀ f' t rest', HS.le (s.del q) t → t q = some (.cells (rows enc (l.filter fun x => !p x) ++ rest')) → Q (.view q 0 sz (l.filter fun x => !p x).length f') t) :
    HC P g [.view q 0 sz l.length f, a1] s (fun r1 s2 => bindO (vCmp (P.underlying u3) .eql r1 (.lit (.int .i64 (-1)))) fun x3 => hcond x3 (Q (.view q 0 sz l.length f) s2) (bindO (vBin .add r1 (.lit (.int .i64 1))) fun x4 => HLoop (fun y6 s7 K5 => bindO (vLenT (some (.slice e)) s7 (.view q 0 sz l.length f)) fun x8 => bindO (vBin .lss (y6.tail.headD .junk) x8) fun x9 => hcond x9 (Join (fun K10 => bindO (vIdx sz (.view q 0 sz l.length f) (y6.tail.headD .junk)) fun x13 => bindO (vLoad s7 x13 sz true) fun x14 => hNew s7 (.cells zs) (fun id => .ptr id 0) (fun x15 s16 => hStore s16 x15 x14 sz (fun s17 => bindO (vLoad s17 x15 sz true) fun x18 => hcall P a1 [x18] s17 (fun r19 s20 => bindO (vUn .not r19) fun x21 => hcond x21 (bindO (vLoad s20 x15 sz true) fun x22 => bindO (vIdx sz (.view q 0 sz l.length f) (y6.headD .junk)) fun x23 => hStore s20 x23 x22 sz (fun s24 => bindO (vBin .add (y6.headD .junk) (.lit (.int .i64 1))) fun x25 => K10 [x25] s24)) (K10 [(y6.headD .junk)] s20))))) (fun y11 s12 => bindO (vBin .add (y6.tail.headD .junk) (.lit (.int .i64 1))) fun x26 => K5 [(y11.headD .junk), x26] s12)) (bindO (vSlice sz (.view q 0 sz l.length f) (some (y6.headD .junk)) none none) fun x27 => hClear s7 sz zv x27 (fun s28 => bindO (vSlice sz (.view q 0 sz l.length f) none (some (y6.headD .junk)) none) fun x29 => Q x29 s28))) [r1, x4] s2)) := by
  refine hg _ ?_
  rcases idxI_cases p l with ⟨hi, hall⟩ | ⟨i0, hi0, hi, hpi, hbef⟩
  · simp only [hi, vCmp, vBin, if_true, bindO, beq_self_eq_true, hcond]
    have e1 : (l.filter fun x => !p x) = l := List.filter_eq_self.2 fun x hx => by simp [hall x hx]
    have := hQ f s rest (le_del s q) (by rw [e1]; exact hq)
    rw [e1] at this
    exact this
  · have hne : ((i0 : Int) == -1) = false := by simp
    simp only [hi, vCmp, vBin, if_true, bindO, hne, hcond, wrap_add1 (show i0 < 9223372036854775807 by omega), vLenT, vLen]
    have hsq : (s.del q) q = none := by simp [HS.del]
    have hst : (l.take (i0 + 1)).filter (fun x => !p x) = l.take i0 := by
      rw [take_succ' z l hi0, getD_get z l hi0, List.filter_append, List.filter_eq_self.2 fun x hx => by simp [hbef x hx]]
      simp [hpi]
    refine HLoop.ghost (σ := Nat × Nat × List α) (fun G => [.lit (.int .i64 (G.1 : Int)), .lit (.int .i64 (G.2.1 : Int))])
      (fun G t => G.1 < G.2.1 ∧ G.2.1 ≤ l.length ∧ G.2.2.length = l.length ∧ G.2.2.take G.1 = (l.take G.2.1).filter (fun x => !p x) ∧ G.2.2.drop G.2.1 = l.drop G.2.1 ∧ t q = some (.cells (rows enc G.2.2 ++ rest)) ∧ HS.le (s.del q) t)
      (fun G => l.length - G.2.1) (i0, i0 + 1, l) rfl ⟨Nat.lt_succ_self _, hi0, rfl, hst.symm, rfl, hq, le_del s q⟩ ?_
    rintro ⟨i, j, M⟩ t K ⟨g1, g2, g3, g4, g5, g6, g7⟩ hK
    simp only at g1 g2 g3 g4 g5 g6 g7
    simp only [List.headD_cons, List.tail_cons]
    by_cases hlt : j < l.length
    · have hlt' : (j : Int) < (l.length : Int) := by omega
      have hjM : j < M.length := by omega
      have hMj : M.getD j z = l[j] := by
        rw [drop_cons' z M hjM, drop_cons' z l hlt, getD_get z l hlt] at g5
        exact (List.cons.inj g5).1
      have hdr : M.drop (j + 1) = l.drop (j + 1) := by
        rw [drop_cons' z M hjM, drop_cons' z l hlt] at g5
        exact (List.cons.inj g5).2
      have htk := take_succ' z l hlt
      rw [getD_get z l hlt] at htk
      have hmem : l[j] ∈ l := List.getElem_mem hlt
      generalize l[j] = x at *
      simp only [hlt', decide_true, idx_view _ hlt, Nat.zero_add, load_rows h z g6 hjM, hMj, wrap_add1 (show j < 9223372036854775807 by omega)]
      refine Join.of (fun xs t' => ∃ i' M', xs = [.lit (.int .i64 ((i' : Nat) : Int))] ∧ i' < j + 1 ∧ M'.length = l.length ∧ M'.take i' = (l.take (j + 1)).filter (fun x => !p x) ∧ M'.drop (j + 1) = l.drop (j + 1) ∧ t' q = some (.cells (rows enc M' ++ rest)) ∧ HS.le (s.del q) t') ?_ ?_
      · rintro xs t' ⟨i', M', rfl, k1, k2, k3, k4, k5, k6⟩
        simp only [List.headD_cons]
        exact hK (i', j + 1, M') _ _ rfl ⟨k1, hlt, k2, k3, k4, k5, k6⟩ (by show l.length - (j + 1) < l.length - j; omega)
      · intro K10 hK10
        refine new_store hzs (h x) (ho x) fun X hX => ?_
        have nX : q ≠ X := ne_new g6 hX
        have nX' : X ≠ q := Ne.symm nX
        have hleX : HS.le (s.del q) (t.set X (.cells (enc x))) := le_set_new _ g7 hX
        have hqX : (t.set X (.cells (enc x))) q = some (.cells (rows enc M ++ rest)) := by rw [set_ne _ _ nX]; exact g6
        have hlx : vLoad (t.set X (.cells (enc x))) (.ptr X 0) sz true = some (.agg (enc x)) := load_all (h x) (set_at _ _ _)
        simp only [hlx]
        refine hp _ hleX x hmem _ ?_
        cases hpx : p x with
        | true =>
          simp only [vUn, Bool.not_true]
          exact hK10 _ _ ⟨i, M, rfl, by omega, g3, by rw [htk, List.filter_append, g4]; simp [hpx], hdr, hqX, hleX⟩
        | false =>
          simp only [vUn, Bool.not_false, hlx, idx_view _ (show i < l.length by omega), Nat.zero_add]
          refine store_rows h hqX (show i < M.length by omega) x (ho x) ?_
          simp only [wrap_add1 (show i < 9223372036854775807 by omega)]
          refine hK10 _ _ ⟨i + 1, M.set i x, rfl, by omega, by rw [List.length_set]; exact g3, ?_, ?_, set_at _ _ _, ?_⟩
          · rw [take_succ' z (M.set i x) (by rw [List.length_set]; omega), getD_get z _ (by rw [List.length_set]; omega), List.getElem_set_self, List.take_set_of_le (Nat.le_refl _), g4, htk, List.filter_append]
            simp [hpx]
          · rw [List.drop_set_of_lt (by omega)]
            exact hdr
          · exact le_set_free _ hleX hsq
    · obtain rfl : j = l.length := by omega
      have hlt' : ¬ ((l.length : Nat) : Int) < (l.length : Int) := by omega
      rw [List.take_length] at g4
      have hi2 : i = (l.filter fun x => !p x).length := by rw [← g4, List.length_take]; omega
      simp only [hlt', decide_false, slice_view_lo _ (show i ≤ l.length by omega), slice_view_hi _ (show i ≤ l.length by omega)]
      rw [← g3] at g1 ⊢
      refine clear_tail h hz0 hzv g6 (by omega) fun rest' => ?_
      rw [g4]
      have := hQ (f && i == M.length) (t.set q (.cells (rows enc (l.filter fun x => !p x) ++ rest'))) rest' (le_set_free _ g7 hsq) (set_at _ _ _)
      rw [← hi2] at this
      exact this
end Go.Proofs.Ytecnfekcflfihaa.H
end
section
namespace Go.Proofs.Ytecnfekcflfihaa.CL
open Go.Proofs.Ytecnfekcflfihaa.H Go.Proofs.Ytecnfekcflfihaa.C0 Go.Proofs.Ytecnfekcflfihaa.F0
set_option linter.unusedVariables false
set_option linter.unusedSimpArgs false
set_option maxRecDepth 100000
/-- A batch's own copy: its records lie in memory. -/
theorem copyV (b : Bat) (l : List Rec) (s : HS) (hb : b.recs = some l) (hl : l.length ≤ 100000) (hs : ∀ r ∈ l, ShortR r) :
    HC Try.prog 47 [.agg (batC b)] s (fun v s' => ∃ A, v = .agg [.lit (.int .i64 b.base), .lit (.int .i64 b.last), .lit (.int .i64 b.prod), .lit (.int .i64 b.epoch), .lit (.int .i64 b.seq), A] ∧ Acc s s' 6 A l.length (recsC l) ∧ HS.le s s') := by
  obtain ⟨c0, c1, c2, c3, c4, recs⟩ := b
  simp only at hb
  subst hb
  refine HC47 ?_
  simp [c47, bindO, hcond, vCmp, vBin, vEq, vUn, vNil, vField, vLoad, takeCells, vIdx, vLenT, vLen, vExtract, hNew, hStore, hBox, hc_int, hc_bool, hc_string, hc_slice, hc_nilp, hc_nilm, hc_nilf, hc_agg, hc_list, hc_view, hc_ptr, hc_map, hc_func, ho_int, ho_bool, ho_string, ho_slice, ho_nilp, ho_nilm, ho_nilf, ho_list, ho_view, ho_ptr, ho_map, ho_func, putCells, lcells, litCells, isNilS, llen, room, vMk, set_at, Join, vToInt, vSlice, vSliceX, cutAt, intAt, bl_len, bits64, bits64u, bits8, hfold, vMax2, vMin2, Try.underlying3, Try.underlying4, Try.underlying9, Try.underlying22, Try.underlying31, Try.underlying32, Try.underlying36, Try.underlying44, Try.underlying64, Try.underlying80, Try.underlying90, Try.underlying123, recC_len, ho_recC, hcz, batC, recsV]
  intro p hp q hq
  have hpq := ne_new (set_at s p _) hq
  simp only [set_none_iff] at hq
  obtain ⟨-, hq⟩ := hq
  simp [bindO, hcond, vCmp, vBin, vEq, vUn, vNil, vField, vLoad, takeCells, vIdx, vLenT, vLen, vExtract, hNew, hStore, hBox, hc_int, hc_bool, hc_string, hc_slice, hc_nilp, hc_nilm, hc_nilf, hc_agg, hc_list, hc_view, hc_ptr, hc_map, hc_func, ho_int, ho_bool, ho_string, ho_slice, ho_nilp, ho_nilm, ho_nilf, ho_list, ho_view, ho_ptr, ho_map, ho_func, putCells, lcells, litCells, isNilS, llen, room, vMk, set_at, Join, vToInt, vSlice, vSliceX, cutAt, intAt, bl_len, bits64, bits64u, bits8, hfold, vMax2, vMin2, Try.underlying3, Try.underlying4, Try.underlying9, Try.underlying22, Try.underlying31, Try.underlying32, Try.underlying36, Try.underlying44, Try.underlying64, Try.underlying80, Try.underlying90, Try.underlying123, recC_len, ho_recC, hcz, set_ne _ _ hpq]
  obtain ⟨Z, hZ⟩ : ∃ Z, HObj.cells [.lit (.int .i64 0), .lit (.int .i64 0), .lit (.int .i64 0), .lit (.int .i64 0), .lit (.int .i64 0), .lit (.slice none 0 0)] = Z := ⟨_, rfl⟩
  rw [hZ]
  have hbp : (s.set q Z) p = none := by rw [set_ne _ _ hpq]; exact hp
  have hsb : HS.le s (s.set q Z) := le_set_new _ (le_refl' s) hq
  refine HLoop.ghost (σ := HV × Nat) (fun g => [.lit (.int .i64 g.2)]) (fun g t => g.2 ≤ l.length ∧ HS.le (s.set q Z) t ∧ t p = some (.cells [.lit (.int .i64 c0), .lit (.int .i64 c1), .lit (.int .i64 c2), .lit (.int .i64 c3), .lit (.int .i64 c4), g.1]) ∧ OutR (s.set q Z) t p g.1 (l.take g.2)) (fun g => l.length - g.2) (.lit (.slice none 0 0), 0) rfl ?_ ?_
  · refine ⟨Nat.zero_le _, ?_, by rw [set_at], .inl ⟨rfl, rfl⟩⟩
    exact le_set_free _ (le_set (le_set_new _ (le_refl' s) hp) _ _) hbp
  · rintro ⟨A, i⟩ t K ⟨hi, hst, htp, ho⟩ hK
    simp only at hi hst htp ho
    by_cases hlt : i < l.length
    · have hlt' : (i : Int) < (l.length : Int) := by omega
      have hix := recsC_idx l i hlt
      have hts := take_succ' r0 l hlt
      have hsm := hs (l.getD i r0) (by rw [List.getD, List.getElem?_eq_getElem hlt]; exact List.getElem_mem hlt)
      generalize l.getD i r0 = x at *
      simp [bindO, hcond, vCmp, vBin, vEq, vUn, vNil, vField, vLoad, takeCells, vIdx, vLenT, vLen, vExtract, hNew, hStore, hBox, hc_int, hc_bool, hc_string, hc_slice, hc_nilp, hc_nilm, hc_nilf, hc_agg, hc_list, hc_view, hc_ptr, hc_map, hc_func, ho_int, ho_bool, ho_string, ho_slice, ho_nilp, ho_nilm, ho_nilf, ho_list, ho_view, ho_ptr, ho_map, ho_func, putCells, lcells, litCells, isNilS, llen, room, vMk, set_at, Join, vToInt, vSlice, vSliceX, cutAt, intAt, bl_len, bits64, bits64u, bits8, hfold, vMax2, vMin2, Try.underlying3, Try.underlying4, Try.underlying9, Try.underlying22, Try.underlying31, Try.underlying32, Try.underlying36, Try.underlying44, Try.underlying64, Try.underlying80, Try.underlying90, Try.underlying123, recC_len, ho_recC, hcz, hlt', hlt, hix]
      intro X hX
      have nX := ne_new htp hX
      simp [bindO, hcond, vCmp, vBin, vEq, vUn, vNil, vField, vLoad, takeCells, vIdx, vLenT, vLen, vExtract, hNew, hStore, hBox, hc_int, hc_bool, hc_string, hc_slice, hc_nilp, hc_nilm, hc_nilf, hc_agg, hc_list, hc_view, hc_ptr, hc_map, hc_func, ho_int, ho_bool, ho_string, ho_slice, ho_nilp, ho_nilm, ho_nilf, ho_list, ho_view, ho_ptr, ho_map, ho_func, putCells, lcells, litCells, isNilS, llen, room, vMk, set_at, Join, vToInt, vSlice, vSliceX, cutAt, intAt, bl_len, bits64, bits64u, bits8, hfold, vMax2, vMin2, Try.underlying3, Try.underlying4, Try.underlying9, Try.underlying22, Try.underlying31, Try.underlying32, Try.underlying36, Try.underlying44, Try.underlying64, Try.underlying80, Try.underlying90, Try.underlying123, recC_len, ho_recC, hcz, htp, set_ne _ _ nX]
      rw [set_set]
      refine (own x _ hsm.1 hsm.2).mono ?_
      rintro v s1 ⟨rfl, rfl⟩
      simp [bindO, hcond, vCmp, vBin, vEq, vUn, vNil, vField, vLoad, takeCells, vIdx, vLenT, vLen, vExtract, hNew, hStore, hBox, hc_int, hc_bool, hc_string, hc_slice, hc_nilp, hc_nilm, hc_nilf, hc_agg, hc_list, hc_view, hc_ptr, hc_map, hc_func, ho_int, ho_bool, ho_string, ho_slice, ho_nilp, ho_nilm, ho_nilf, ho_list, ho_view, ho_ptr, ho_map, ho_func, putCells, lcells, litCells, isNilS, llen, room, vMk, set_at, Join, vToInt, vSlice, vSliceX, cutAt, intAt, bl_len, bits64, bits64u, bits8, hfold, vMax2, vMin2, Try.underlying3, Try.underlying4, Try.underlying9, Try.underlying22, Try.underlying31, Try.underlying32, Try.underlying36, Try.underlying44, Try.underlying64, Try.underlying80, Try.underlying90, Try.underlying123, recC_len, ho_recC, hcz, htp, set_ne _ _ nX]
      refine outR_append (b := s.set q Z) (p := p) (o := l.take i) (r := x) (ob := .cells [.lit (.int .i64 c0), .lit (.int .i64 c1), .lit (.int .i64 c2), .lit (.int .i64 c3), .lit (.int .i64 c4), A]) ?_ (le_set_new _ hst hX) hbp ((set_ne _ (.cells (recC x)) nX).trans htp) (by rw [List.length_take]; omega) ?_ ?_
      · exact ho.keep fun k ob _ h => (set_ne _ (.cells (recC x)) (ne_new h hX)).trans h
      · intro s2 h2
        simp [h2]
      · intro A' t' h1 h2 h3
        have ho1 := h1.one
        simp [bindO, hcond, vCmp, vBin, vEq, vUn, vNil, vField, vLoad, takeCells, vIdx, vLenT, vLen, vExtract, hNew, hStore, hBox, hc_int, hc_bool, hc_string, hc_slice, hc_nilp, hc_nilm, hc_nilf, hc_agg, hc_list, hc_view, hc_ptr, hc_map, hc_func, ho_int, ho_bool, ho_string, ho_slice, ho_nilp, ho_nilm, ho_nilf, ho_list, ho_view, ho_ptr, ho_map, ho_func, putCells, lcells, litCells, isNilS, llen, room, vMk, set_at, Join, vToInt, vSlice, vSliceX, cutAt, intAt, bl_len, bits64, bits64u, bits8, hfold, vMax2, vMin2, Try.underlying3, Try.underlying4, Try.underlying9, Try.underlying22, Try.underlying31, Try.underlying32, Try.underlying36, Try.underlying44, Try.underlying64, Try.underlying80, Try.underlying90, Try.underlying123, recC_len, ho_recC, hcz, h3, ho1.1, ho1.2]
        refine hK (A', i + 1) _ _ (by rw [w64 (by omega) (by omega)]; rfl) ⟨hlt, le_set_free _ h2 hbp, set_at _ _ _, ?_⟩ (by show l.length - (i + 1) < l.length - i; omega)
        rw [hts]
        exact h1.keep fun k ob hk h => by rw [set_ne _ _ hk]; exact h
    · obtain rfl : i = l.length := by omega
      rw [List.take_length] at ho
      have htq : t q = some Z := hst q Z (set_at _ _ _)
      rw [← hZ] at htq
      have ho1 := ho.one
      simp [bindO, hcond, vCmp, vBin, vEq, vUn, vNil, vField, vLoad, takeCells, vIdx, vLenT, vLen, vExtract, hNew, hStore, hBox, hc_int, hc_bool, hc_string, hc_slice, hc_nilp, hc_nilm, hc_nilf, hc_agg, hc_list, hc_view, hc_ptr, hc_map, hc_func, ho_int, ho_bool, ho_string, ho_slice, ho_nilp, ho_nilm, ho_nilf, ho_list, ho_view, ho_ptr, ho_map, ho_func, putCells, lcells, litCells, isNilS, llen, room, vMk, set_at, Join, vToInt, vSlice, vSliceX, cutAt, intAt, bl_len, bits64, bits64u, bits8, hfold, vMax2, vMin2, Try.underlying3, Try.underlying4, Try.underlying9, Try.underlying22, Try.underlying31, Try.underlying32, Try.underlying36, Try.underlying44, Try.underlying64, Try.underlying80, Try.underlying90, Try.underlying123, recC_len, ho_recC, hcz, htp, htq, ho1.1, ho1.2]
      refine ⟨?_, le_set_free _ (HS.le.trans hsb hst) hq⟩
      rcases ho with ⟨rfl, rfl⟩ | ⟨k, g1, g2, rfl, g3, g4⟩
      · exact .inl ⟨rfl, rfl, rfl⟩
      · have hkq : k ≠ q := by rintro rfl; rw [set_at] at g1; cases g1
        exact .inr ⟨k, _, none_of_le hsb g1, rfl, by rw [set_ne _ _ hkq]; exact g3, recsC_len l, by rw [ne_eq, List.length_eq_zero_iff]; exact g4⟩
def outB (f t : Int) (r : Rec) : Bool := decide (r.off < f) || decide (r.off ≥ t)
theorem in65 (r : Rec) {s : HS} {p1 p3 : Nat} {f t : Int} (h1 : s p1 = some (.cells [.lit (.int .i64 f)])) (h3 : s p3 = some (.cells [.lit (.int .i64 t)])) :
    HC Try.prog 65 [.agg (recC r), .ptr p1 0, .ptr p3 0] s (fun v s' => v = .lit (.bool (outB f t r)) ∧ s' = s) := by
  refine HC.weaken (HC65 ?_)
  unfold c65 hBox
  simp only [hc_agg]
  intro X hX
  have n1 := ne_new h1 hX
  have n3 := ne_new h3 hX
  have e0 : vLoad (s.set X (.cells (recC r))) (.ptr X 0) 1 false = some (.lit (.int .i64 r.off)) := by rw [load_cell 0 1 (set_at _ _ _)]; rfl
  have e1 : vLoad (s.set X (.cells (recC r))) (.ptr p1 0) 1 false = some (.lit (.int .i64 f)) := by rw [load_cell 0 1 (by rw [set_ne _ _ n1]; exact h1)]; rfl
  have e3 : vLoad (s.set X (.cells (recC r))) (.ptr p3 0) 1 false = some (.lit (.int .i64 t)) := by rw [load_cell 0 1 (by rw [set_ne _ _ n3]; exact h3)]; rfl
  simp only [vField, bindO, Nat.zero_add, e0, e1, e3, vBin, if_true]
  have hle : HS.le s (s.set X (.cells (recC r))) := le_set_new _ (le_refl' s) hX
  unfold outB
  by_cases ha : r.off < f
  · simp only [ha, decide_true, hcond, Bool.true_or]
    exact ⟨s, hle, trivial, rfl⟩
  · simp only [ha, decide_false, hcond, Bool.false_or]
    exact ⟨s, hle, trivial, rfl⟩
theorem call65 (r : Rec) {s : HS} {p1 p3 : Nat} {f t : Int} (h1 : s p1 = some (.cells [.lit (.int .i64 f)])) (h3 : s p3 = some (.cells [.lit (.int .i64 t)])) {K : HV → HS → Prop} (hK : K (.lit (.bool (outB f t r))) s) :
    hcall Try.prog (.func (.func 65) [.ptr p1 0, .ptr p3 0]) [.agg (recC r)] s K := by
  unfold hcall
  simp only
  rw [hite_eq, if_pos (by decide +kernel)]
  refine (in65 r h1 h3).mono ?_
  rintro v s' ⟨rfl, rfl⟩
  exact hK
def keptF (f t : Int) (l : List Rec) : List Rec := l.filter fun r => !outB f t r
theorem idx76 {l : List Rec} {q : Nat} {fl : Bool} {s : HS} {p1 p3 : Nat} {f t : Int} (hq : s q = some (.cells (recsC l))) (hl : l.length ≤ 100000) (h1 : s p1 = some (.cells [.lit (.int .i64 f)])) (h3 : s p3 = some (.cells [.lit (.int .i64 t)])) :
    HC Try.prog 76 [.view q 0 6 l.length fl, .func (.func 65) [.ptr p1 0, .ptr p3 0]] s (fun v s' => v = .lit (.int .i64 (idxI (outB f t) l)) ∧ s' = s) := by
  refine HC76 ?_
  unfold c76
  rw [Try.underlying44]
  exact idxFunc_gen (Q := fun v s' => v = .lit (.int .i64 (idxI (outB f t) l)) ∧ s' = s) recC_len r0 (outB f t) (rest := []) (by rw [List.append_nil]; exact hq) (by omega) (fun x _ K hK => call65 x h1 h3 hK) ⟨rfl, rfl⟩
theorem del64 {l : List Rec} {q : Nat} {fl : Bool} {s : HS} {p1 p3 : Nat} {f t : Int} (hq : s q = some (.cells (recsC l))) (hl : l.length ≤ 100000) (h1 : s p1 = some (.cells [.lit (.int .i64 f)])) (h3 : s p3 = some (.cells [.lit (.int .i64 t)])) (n1 : p1 ≠ q) (n3 : p3 ≠ q) :
    HC Try.prog 64 [.view q 0 6 l.length fl, .func (.func 65) [.ptr p1 0, .ptr p3 0]] s (fun v s' => v = recsV (some (keptF f t l)) ∧ s' = s.del q) := by
  refine HC.up (HC64 ?_)
  unfold c64
  simp only [Try.underlying44]
  refine delFunc_gen (Q := fun v s' => ∃ v' s'', UpL [v] s' [v'] s'' ∧ (v' = recsV (some (keptF f t l)) ∧ s'' = s.del q)) (e := 45) (zs := [.lit (.int .i64 0), .lit (.int .i64 0), .lit (.bool false), .lit (.slice none 0 0), .lit (.bool false), .lit (.slice none 0 0)]) (zv := .agg #[(.int .i64 0), (.int .i64 0), (.bool false), (.slice none 0 0), (.bool false), (.slice none 0 0)]) recC_len (by omega) rfl rfl (fun x => by have := ho_recC x; rw [this]; trivial) r0 (outB f t) (rest := []) (by rw [List.append_nil]; exact hq) (by omega) ?_ ?_ ?_
  · intro K hK
    refine (idx76 hq hl h1 h3).mono ?_
    rintro v s' ⟨rfl, rfl⟩
    exact hK
  · intro u hu x hx K hK
    exact call65 x (hu _ _ (by rw [del_ne _ n1]; exact h1)) (hu _ _ (by rw [del_ne _ n3]; exact h3)) hK
  · intro f' u rest' hu huq
    refine ⟨_, _, UpL.frzD huq hu (del_at s q), ?_, rfl⟩
    have e1 : (keptF f t l).length * 6 = (rows recC (keptF f t l)).length := (rows_len recC_len _).symm
    have e2 : (rows recC (keptF f t l) ++ rest').take ((keptF f t l).length * 6) = recsC (keptF f t l) := by
      rw [e1, List.take_left]; rfl
    have e3 : 0 + (keptF f t l).length * 6 ≤ (rows recC (keptF f t l) ++ rest').length := by rw [List.length_append]; omega
    show frz2 q (rows recC (keptF f t l) ++ rest') (HV.view q 0 6 (keptF f t l).length f') = recsV (some (keptF f t l))
    simp only [frz2, frz1, frz0, phi, true_and, e3, if_true, List.drop_zero, e2, Option.getD_some, recsV]
end Go.Proofs.Ytecnfekcflfihaa.CL
end
section
namespace Go.Proofs.Ytecnfekcflfihaa.CL
open Go.Proofs.Ytecnfekcflfihaa.H Go.Proofs.Ytecnfekcflfihaa.C0 Go.Proofs.Ytecnfekcflfihaa.F0
set_option linter.unusedVariables false
set_option linter.unusedSimpArgs false
set_option maxRecDepth 100000
def cutO (f t : Int) (b : Bat) : Option Bat := match keptF f t (b.recs.getD []) with
  | [] => none
  | x :: r => some { b with recs := some (x :: r) }
def restF (f t : Int) (l : List Bat) : List Bat := l.filterMap (cutO f t)
theorem restF_take (f t : Int) (l : List Bat) {i : Nat} (hi : i < l.length) : restF f t (l.take (i + 1)) = restF f t (l.take i) ++ (cutO f t (l.getD i b0)).toList := by
  rw [take_succ' b0 l hi]
  simp only [restF, List.filterMap_append]
  cases h : cutO f t (l.getD i b0) <;> simp [h, -List.getD_eq_getElem?_getD]
theorem restF_len (f t : Int) (l : List Bat) : (restF f t l).length ≤ l.length := List.length_filterMap_le _ _
theorem batC_len' (b : Bat) : (batC b).length = 6 := rfl
theorem ho_batC' (b : Bat) : ∀ x ∈ batC b, hone x = true := by
  intro x hx
  simp only [batC, List.mem_cons, List.not_mem_nil, or_false] at hx
  rcases hx with rfl | rfl | rfl | rfl | rfl | rfl <;> first | rfl | exact ho_recs _
theorem vIdx_bats (l : List Bat) {i : Nat} (hi : i < l.length) : vIdx 6 (batsV (some l)) (.lit (.int .i64 i)) = some (.elt (batC (l.getD i b0)) 0) := by
  rw [batsV_row]; exact idx_rowL batC_len' b0 l .i64 hi
theorem del64A {l : List Rec} {B : HV} {b s : HS} {p1 p3 : Nat} {f t : Int} (hB : Acc b s 6 B l.length (recsC l)) (hl : l.length ≤ 100000) (h1 : b p1 = some (.cells [.lit (.int .i64 f)])) (h3 : b p3 = some (.cells [.lit (.int .i64 t)])) (hle : HS.le b s) :
    HC Try.prog 64 [B, .func (.func 65) [.ptr p1 0, .ptr p3 0]] s (fun v s' => ∃ o, v = recsV o ∧ o.getD [] = keptF f t l ∧ ∀ k ob, accId B ≠ some k → s k = some ob → s' k = some ob) := by
  rcases hB with ⟨rfl, g1, g2⟩ | ⟨q, fl, g1, rfl, g3, g4, g5⟩
  · have hl0 : l = [] := List.eq_nil_of_length_eq_zero g2
    subst hl0
    refine HC64 ?_
    unfold c64
    refine (HC76 ?_ : HC Try.prog 76 _ s fun v s' => v = .lit (.int .i64 (-1)) ∧ s' = s).mono ?_
    · unfold c76
      rw [Try.underlying44]
      exact idxFunc_nil (Q := fun v s' => v = .lit (.int .i64 (-1)) ∧ s' = s) ⟨rfl, rfl⟩
    · rintro v s' ⟨rfl, rfl⟩
      simp only [vCmp, vBin, if_true, bindO, beq_self_eq_true, hcond]
      exact ⟨none, rfl, rfl, fun _ _ _ h => h⟩
  · refine (del64 g3 hl (hle _ _ h1) (hle _ _ h3) (by rintro rfl; rw [g1] at h1; cases h1) (by rintro rfl; rw [g1] at h3; cases h3)).mono ?_
    rintro v s' ⟨rfl, rfl⟩
    refine ⟨_, rfl, rfl, fun k ob hk hs => ?_⟩
    rw [del_ne _ (by rintro rfl; exact hk rfl)]
    exact hs
theorem restrict41 (l : List Bat) (f t : Int) (s : HS) (hl : l.length ≤ 100000) (hs : ∀ b ∈ l, ∃ r, b.recs = some r ∧ r.length ≤ 100000 ∧ ∀ x ∈ r, ShortR x) :
    HC Try.prog 41 [batsV (some l), .lit (.int .i64 f), .lit (.int .i64 t)] s (fun v s' => v = batsV (orNil (restF f t l)) ∧ s' = s) := by
  refine HC.up (HC41 ?_)
  unfold c41 hBox
  simp only [hc_int]
  intro p1 h1 p3 h3
  have n13 : p1 ≠ p3 := ne_new (set_at s p1 _) h3
  obtain ⟨b, hb⟩ : ∃ b, (s.set p1 (.cells [.lit (.int .i64 f)])).set p3 (.cells [.lit (.int .i64 t)]) = b := ⟨_, rfl⟩
  rw [hb]
  have e1 : b p1 = some (.cells [.lit (.int .i64 f)]) := by rw [← hb, set_ne _ _ n13, set_at]
  have e3 : b p3 = some (.cells [.lit (.int .i64 t)]) := by rw [← hb, set_at]
  have hsb : HS.le s b := by rw [← hb]; exact le_set_new _ (le_set_new _ (le_refl' s) h1) h3
  clear hb
  simp only [len_batsV, bindO, Option.getD_some]
  refine HLoop.ghost (σ := HV × Nat) (fun g => [g.1, .lit (.int .i64 g.2)]) (fun g u => g.2 ≤ l.length ∧ HS.le b u ∧ Acc b u 6 g.1 (restF f t (l.take g.2)).length (batsC (restF f t (l.take g.2)))) (fun g => l.length - g.2) (nilV, 0) rfl ⟨Nat.zero_le _, le_refl' b, .inl ⟨rfl, rfl, rfl⟩⟩ ?_
  rintro ⟨A, i⟩ u K ⟨hi, hle, hA⟩ hK
  simp only at hi hle hA
  simp only [List.headD_cons, List.tail_cons, vBin, if_true]
  by_cases hlt : i < l.length
  · have hlt' : (i : Int) < (l.length : Int) := by omega
    have hix := vIdx_bats l hlt
    have hot := restF_take f t l hlt
    have hol := restF_len f t (l.take i)
    rw [List.length_take] at hol
    have hmem : l.getD i b0 ∈ l := by rw [List.getD, List.getElem?_eq_getElem hlt]; exact List.getElem_mem hlt
    generalize l.getD i b0 = x at *
    obtain ⟨rs, hrs, hrl, hsh⟩ := hs x hmem
    simp only [hlt', decide_true, hcond, hix, load_elt _ _ 6 (batC_len' _)]
    refine Join.of (fun xs u' => ∃ A', xs = [A'] ∧ HS.le b u' ∧ Acc b u' 6 A' (restF f t (l.take (i + 1))).length (batsC (restF f t (l.take (i + 1))))) ?_ ?_
    · rintro _ u' ⟨A', rfl, g2, g3⟩
      simp only [List.headD_cons, wrap_add1 (show i < 9223372036854775807 by omega)]
      exact hK (A', i + 1) _ _ rfl ⟨hlt, g2, g3⟩ (by show l.length - (i + 1) < l.length - i; omega)
    · intro K10 hK10
      refine new_store rfl rfl (ho_batC' x) fun X1 hX1 => ?_
      simp only [load_all (batC_len' x) (set_at u X1 _)]
      have hleX := le_set_new (.cells (batC x)) hle hX1
      have hA1 := hA.new (.cells (batC x)) hX1
      generalize u.set X1 (.cells (batC x)) = u1 at hleX hA1 ⊢
      refine (copyV x rs u1 hrs hrl hsh).mono ?_
      rintro v u2 ⟨B, rfl, hB, hle2⟩
      have hB1 := hB.one
      refine new_store rfl rfl (by simp [hB1, ho_int]) fun X2 hX2 => ?_
      have hB2 := hB.new (.cells [.lit (.int .i64 x.base), .lit (.int .i64 x.last), .lit (.int .i64 x.prod), .lit (.int .i64 x.epoch), .lit (.int .i64 x.seq), B]) hX2
      have hle3 := le_set_new (.cells [.lit (.int .i64 x.base), .lit (.int .i64 x.last), .lit (.int .i64 x.prod), .lit (.int .i64 x.epoch), .lit (.int .i64 x.seq), B]) hle2 hX2
      have e2 := set_at u2 X2 (.cells [.lit (.int .i64 x.base), .lit (.int .i64 x.last), .lit (.int .i64 x.prod), .lit (.int .i64 x.epoch), .lit (.int .i64 x.seq), B])
      have hXB : accId B ≠ some X2 := fun e => by
        have := (hB.free e).2
        rw [hX2] at this
        cases this
      generalize u2.set X2 (.cells [.lit (.int .i64 x.base), .lit (.int .i64 x.last), .lit (.int .i64 x.prod), .lit (.int .i64 x.epoch), .lit (.int .i64 x.seq), B]) = u3 at hB2 hle3 e2 ⊢
      have l5 : vLoad u3 (.ptr X2 5) 1 false = some B := by rw [load_cell 5 1 e2]; rfl
      simp only [vField, Nat.zero_add, l5]
      refine (del64A hB2 hrl (hleX _ _ e1) (hleX _ _ e3) hle3).mono ?_
      rintro v u4 ⟨o, rfl, ho, hkeep⟩
      have e4 : u4 X2 = some (.cells [.lit (.int .i64 x.base), .lit (.int .i64 x.last), .lit (.int .i64 x.prod), .lit (.int .i64 x.epoch), .lit (.int .i64 x.seq), B]) := hkeep _ _ hXB e2
      have hle4 : HS.le b u4 := fun k ob hk => hkeep k ob (fun e => by
        have h9 := (hB2.free e).1
        rw [hleX _ _ hk] at h9
        cases h9) (hle3 _ _ (hleX _ _ hk))
      have hA4 : Acc b u4 6 A (restF f t (l.take i)).length (batsC (restF f t (l.take i))) := hA1.keep fun q ob hq hob => hkeep q ob (fun e => by
        have h9 := (hB2.free e).1
        rw [hob] at h9
        cases h9) (hle3 _ _ hob)
      have hX2b : b X2 = none := by
        cases h9 : b X2 with
        | none => rfl
        | some ob => rw [hle2 _ _ (hleX _ _ h9)] at hX2; cases hX2
      have hX2A : accId A ≠ some X2 := fun e => by
        have h9 := (hA1.free e).2
        rw [hle2 _ _ h9] at hX2
        cases hX2
      simp only [hStore, hc_recs, e4]
      refine ⟨rfl, by simp, by simp [ho_recs], ?_⟩
      have hpc : putCells [HV.lit (.int .i64 x.base), .lit (.int .i64 x.last), .lit (.int .i64 x.prod), .lit (.int .i64 x.epoch), .lit (.int .i64 x.seq), B] 5 [recsV o] = batC { x with recs := o } := rfl
      rw [hpc]
      have e5 := set_at u4 X2 (.cells (batC { x with recs := o }))
      have hle5 := le_set_free (.cells (batC { x with recs := o })) hle4 hX2b
      have hA5 := hA4.put (.cells (batC { x with recs := o })) hX2A
      generalize u4.set X2 (.cells (batC { x with recs := o })) = u5 at e5 hle5 hA5 ⊢
      have l6 : vLoad u5 (.ptr X2 5) 1 false = some (recsV o) := by rw [load_cell 5 1 e5]; rfl
      have l7 : vLoad u5 (.ptr X2 0) 6 true = some (.agg (batC { x with recs := o })) := load_all rfl e5
      simp only [l6, len_recsV, vBin, if_true, l7]
      have hcut : cutO f t x = if (o.getD []).length = 0 then none else some { x with recs := o } := by
        unfold cutO
        rw [hrs, Option.getD_some, ← ho]
        cases o with
        | none => rfl
        | some r => cases r <;> rfl
      by_cases hn : (o.getD []).length = 0
      · have hn' : ¬ (((o.getD []).length : Nat) : Int) > 0 := by omega
        simp only [hn', decide_false]
        refine hK10 _ _ ⟨A, rfl, hle5, ?_⟩
        rw [hot, hcut, if_pos hn]
        simpa using hA5
      · have hn' : (((o.getD []).length : Nat) : Int) > 0 := by omega
        simp only [hn', decide_true]
        refine hA5.app1 hle5 (vs := batC { x with recs := o }) rfl rfl rfl ⟨by omega, by omega⟩ ?_
        intro A' u6 k1 k2 k3
        refine hK10 _ _ ⟨A', rfl, k2, ?_⟩
        rw [hot, hcut, if_neg hn]
        simpa [batsC_app, batsC] using k1
  · obtain rfl : i = l.length := by omega
    have hlt' : ¬ (l.length : Int) < (l.length : Int) := by omega
    rw [List.take_length] at hA
    simp only [hlt', decide_false, hcond]
    refine ⟨_, s, ?_, rfl, rfl⟩
    rw [← accV_bats]
    exact (hA.up hle).trans (UpL.le _ hsb)
end Go.Proofs.Ytecnfekcflfihaa.CL
end
section
namespace Go.Proofs.Ytecnfekcflfihaa.CL
open Go.Proofs.Ytecnfekcflfihaa.H
set_option linter.unusedVariables false
set_option linter.unusedSimpArgs false
theorem bl_lt : ∀ a b : By, bl_ a b = true → a < b
  | [], [], h => by simp [bl_, Op.bytesLess] at h
  | [], y :: b, h => List.nil_lt_cons y b
  | x :: a, [], h => by simp [bl_, Op.bytesLess] at h
  | x :: a, y :: b, h => by
    rw [List.cons_lt_cons_iff]
    simp only [bl_, Op.bytesLess, Bool.or_eq_true, Bool.and_eq_true, decide_eq_true_eq, beq_iff_eq] at h
    rcases h with h | ⟨h1, h2⟩
    · exact .inl h
    · exact .inr ⟨h1, bl_lt a b h2⟩
theorem le_bl {a b : By} (h : a ≤ b) (hne : a ≠ b) : bl_ a b = true := by
  cases hb : bl_ b a with
  | true => exact absurd (bl_lt _ _ hb) (List.not_lt.2 h)
  | false =>
    rcases bl_tri b a hb with h | h
    · exact absurd h.symm hne
    · exact h
def SameO : Option Pr → Option Pr → Prop
  | none, none => True
  | some p, some q => sameP true p q = true
  | _, _ => False
theorem same_of_look : ∀ (a b : List Pr), SortedP a → SortedP b → (∀ k, SameO (look a k) (look b k)) → all2 (sameP true) a b = true
  | [], [], _, _, _ => rfl
  | [], q :: b, _, _, h => by
    have := h (pk q)
    rw [look_cons, if_pos (by simp)] at this
    exact this.elim
  | p :: a, [], _, _, h => by
    have := h (pk p)
    rw [look_cons, if_pos (by simp)] at this
    exact this.elim
  | p :: a, q :: b, ha, hb, h => by
    have ha' := List.pairwise_cons.1 ha
    have hb' := List.pairwise_cons.1 hb
    have e : pk p = pk q := by
      have h1 := h (pk p)
      have h2 := h (pk q)
      rw [look_cons, if_pos (by simp), look_cons] at h1
      rw [look_cons, look_cons (x := q), if_pos (c := (pk q == pk q) = true) (by simp)] at h2
      by_cases hpq : pk p = pk q
      · exact hpq
      · exfalso
        rw [if_neg (by simpa using fun e => hpq e.symm)] at h1
        rw [if_neg (by simpa using hpq)] at h2
        cases hl1 : look b (pk p) with
        | none => rw [hl1] at h1; exact h1
        | some x =>
          cases hl2 : look a (pk q) with
          | none => rw [hl2] at h2; exact h2
          | some y =>
            have m1 := List.mem_of_find?_eq_some hl1
            have m2 := List.mem_of_find?_eq_some hl2
            have k1 : pk x = pk p := by have := List.find?_some hl1; simpa using this
            have k2 : pk y = pk q := by have := List.find?_some hl2; simpa using this
            have g1 := hb'.1 x m1
            have g2 := ha'.1 y m2
            rw [k1] at g1
            rw [k2] at g2
            rw [bl_asymm g1] at g2
            cases g2
    have hpq : sameP true p q = true := by
      have h1 := h (pk p)
      rw [look_cons, if_pos (by simp), look_cons, if_pos (by simp [e])] at h1
      exact h1
    show (sameP true p q && all2 (sameP true) a b) = true
    rw [hpq, Bool.true_and]
    refine same_of_look a b ha'.2 hb'.2 fun k => ?_
    by_cases hk : pk p = k
    · subst hk
      rw [look_none_of_lt fun x hx => ha'.1 x hx, look_none_of_lt fun x hx => by rw [e]; exact hb'.1 x hx]
      trivial
    · have := h k
      rw [look_cons, if_neg (by simpa using hk), look_cons, if_neg (by rw [← e]; simpa using hk)] at this
      exact this
theorem del_sorted {l : List Pr} (h : SortedP l) (k : By) : SortedP (delF l k) := by
  unfold delF
  split
  · unfold SortedP at *
    refine List.Pairwise.sublist ?_ h
    have : l = l.take (findI l k) ++ l.drop (findI l k) := (List.take_append_drop _ _).symm
    conv => rhs; rw [this]
    exact (List.Sublist.refl _).append (List.drop_sublist_drop_left _ (Nat.le_succ _))
  · exact h
theorem delF_cons (x : Pr) (l : List Pr) (k : By) : delF (x :: l) k = if bl_ (pk x) k then x :: delF l k else if pk x == k then l else x :: l := by
  unfold delF
  rw [findI_cons, findOk_cons]
  split
  · split <;> simp
  · split <;> simp
theorem look_del : ∀ (l : List Pr) (k q : By), SortedP l → look (delF l k) q = if k == q then none else look l q
  | [], k, q, _ => by simp [delF, findOk, look]
  | x :: l, k, q, h => by
    have h' := List.pairwise_cons.1 h
    rw [delF_cons]
    split
    · rename_i hlt
      rw [look_cons, look_del l k q h'.2, look_cons]
      have hne : pk x ≠ k := by rintro e; rw [e, bl_irrefl] at hlt; cases hlt
      by_cases hkq : k = q
      · subst hkq
        simp [hne]
      · simp [hkq]
    · rename_i hlt
      split
      · rename_i he
        have he : pk x = k := by simpa using he
        subst he
        rw [look_cons]
        by_cases hkq : pk x = q
        · subst hkq
          rw [if_pos (by simp)]
          exact look_none_of_lt fun y hy => h'.1 y hy
        · rw [if_neg (by simpa using hkq), if_neg (by simpa using hkq)]
      · rename_i he
        have he : pk x ≠ k := by simpa using he
        by_cases hkq : k = q
        · subst hkq
          rw [if_pos (by simp)]
          refine look_none_of_lt fun y hy => ?_
          have hxk : bl_ k (pk x) = true := by
            rcases bl_tri (pk x) k (by simpa using hlt) with h | h
            · exact absurd h he
            · exact h
          rcases List.mem_cons.1 hy with rfl | hy
          · exact hxk
          · exact bl_trans _ _ _ hxk (h'.1 y hy)
        · rw [if_neg (by simpa using hkq)]
theorem step_sorted {l : List Pr} (h : SortedP l) (r : Rec) : SortedP (stepP l r) := by
  unfold stepP
  split
  · split
    · exact put_sorted h
    · exact del_sorted h _
  · exact h
def sayR (M : Value → Option Rec) (k : By) : Option Pr := match M (encStr k) with
  | some r => if r.hasVal then some ⟨r.key, r.val, r.off⟩ else none
  | none => none
theorem kv_enc (k : Option (List Int)) : kv k = encStr (keyB k) := rfl
theorem enc_inj {a b : By} : encStr a = encStr b ↔ a = b := by
  constructor
  · intro h; simpa [encStr] using h
  · rintro rfl; rfl
theorem foldP_look : ∀ (xs : List Rec) (l : List Pr) (g : (Value → Option Rec) × Nat), SortedP l → (∀ k, look l k = sayR g.1 k) → SortedP (xs.foldl stepP l) ∧ ∀ k, look (xs.foldl stepP l) k = sayR (xs.foldl stepR g).1 k
  | [], l, g, h1, h2 => ⟨h1, h2⟩
  | r :: xs, l, g, h1, h2 => by
    refine foldP_look xs (stepP l r) (stepR g r) (step_sorted h1 r) fun k => ?_
    unfold stepP stepR
    cases hk : r.hasKey with
    | false => simpa using h2 k
    | true =>
      simp only [if_true]
      have hM : (putR g.1 (kv r.key) r) (encStr k) = if k = keyB r.key then some r else g.1 (encStr k) := by
        unfold putR
        rw [kv_enc]
        by_cases e : k = keyB r.key
        · rw [if_pos (enc_inj.2 e), if_pos e]
        · rw [if_neg (fun h => e (enc_inj.1 h)), if_neg e]
      unfold sayR
      rw [hM]
      have h2k := h2 k
      unfold sayR at h2k
      cases hv : r.hasVal with
      | true =>
        simp only [if_true]
        rw [look_put _ _ _ h1]
        by_cases e : k = keyB r.key
        · subst e
          simp [pk, hv]
        · rw [if_neg (by simpa [pk] using fun h => e h.symm), if_neg e]
          exact h2k
      | false =>
        simp only [Bool.false_eq_true, if_false]
        rw [look_del _ _ _ h1]
        by_cases e : k = keyB r.key
        · subst e
          simp [hv]
        · rw [if_neg (by simpa using fun h => e h.symm), if_neg e]
          exact h2k
theorem keyB_byI (k : By) : keyB (some (byI k)) = k := by
  unfold keyB byI
  simp only [Option.getD_some, List.map_map]
  conv => rhs; rw [← List.map_id k]
  refine List.map_congr_left fun c _ => ?_
  simp
theorem pairOf_key {M : Value → Option Rec} {k : By} {p : Pr} (h : pairOf M k = some p) : pk p = k := by
  unfold pairOf at h
  split at h
  · split at h
    · cases h; exact keyB_byI k
    · cases h
  · cases h
theorem outP_sorted (M : Value → Option Rec) : ∀ (ks : List By), ks.Pairwise (fun x y => x ≤ y) → ks.Nodup → SortedP (outP M ks)
  | [], _, _ => List.Pairwise.nil
  | k :: ks, h1, h2 => by
    have h1' := List.pairwise_cons.1 h1
    have h2' := List.pairwise_cons.1 h2
    unfold outP
    rw [List.filterMap_cons]
    split
    · exact outP_sorted M ks h1'.2 h2'.2
    · rename_i p hp
      refine List.Pairwise.cons (fun q hq => ?_) (outP_sorted M ks h1'.2 h2'.2)
      obtain ⟨k', hk', hq'⟩ := List.mem_filterMap.1 hq
      rw [pairOf_key hp, pairOf_key hq']
      exact le_bl (h1'.1 k' hk') (h2'.1 k' hk')
theorem outP_look (M : Value → Option Rec) (ks : List By) (k : By) (hk : k ∈ ks ↔ (M (encStr k)).isSome = true) : ∀ l : List By, (∀ x ∈ l, x ∈ ks) → look (outP M l) k = if k ∈ l then pairOf M k else none
  | [], _ => rfl
  | x :: l, h => by
    have ih := outP_look M ks k hk l fun y hy => h y (List.mem_cons_of_mem _ hy)
    unfold outP at ih ⊢
    rw [List.filterMap_cons]
    split
    · rename_i hp
      rw [ih]
      by_cases e : k = x
      · subst e
        simp [hp]
      · simp [e]
    · rename_i p hp
      rw [look_cons, ih, pairOf_key hp]
      by_cases e : x = k
      · subst e
        simp [hp]
      · simp [e, Ne.symm e]
theorem fold_same (xs : List Rec) (ks : List By) (h1 : ks.Pairwise (fun x y => x ≤ y)) (h2 : ks.Nodup) (h3 : ∀ x, x ∈ ks ↔ ((lastG xs).1 (encStr x)).isSome = true) : all2 (sameP true) (outP (lastG xs).1 ks) (foldP xs) = true := by
  obtain ⟨g1, g2⟩ := foldP_look xs [] (fun _ => none, 0) List.Pairwise.nil (fun k => rfl)
  refine same_of_look _ _ (outP_sorted _ ks h1 h2) g1 fun k => ?_
  rw [outP_look _ ks k (h3 k) ks (fun _ h => h)]
  have g3 : look (foldP xs) k = sayR (lastG xs).1 k := g2 k
  rw [g3]
  by_cases hk : k ∈ ks
  · rw [if_pos hk]
    unfold pairOf sayR
    cases hM : (lastG xs).1 (encStr k) with
    | none => trivial
    | some r =>
      rcases lastG_mem xs _ _ _ hM with h | ⟨-, -, h⟩
      · cases h
      · rw [kv_enc, enc_inj] at h
        cases hv : r.hasVal with
        | false => simp [hv, SameO]
        | true =>
          simp only [hv, if_true, SameO]
          simp [sameP, sameB', keyB_byI, ← h]
  · rw [if_neg hk]
    have : (lastG xs).1 (encStr k) = none := by
      cases hM : (lastG xs).1 (encStr k) with
      | none => rfl
      | some r => exact absurd ((h3 k).2 (by rw [hM]; rfl)) hk
    unfold sayR
    rw [this]
    trivial
end Go.Proofs.Ytecnfekcflfihaa.CL
end
section
namespace Go.Proofs.Ytecnfekcflfihaa.CL
open Go.Proofs.Ytecnfekcflfihaa.H Go.Proofs.Ytecnfekcflfihaa.C1
set_option linter.unusedVariables false
set_option linter.unusedSimpArgs false
set_option maxRecDepth 100000
def wR (r : Rec) : Int := 1 + ((r.key.getD []).length : Int) + (r.val.getD []).length
def wB (b : Bat) : Int := 1 + ((b.recs.getD []).map wR).sum
theorem sum' {s : HS} (n : Int) (l : List Int) (hn : 0 ≤ n) (hl : ∀ x ∈ l, 0 ≤ x) (hlen : l.length ≤ 1000) :
    HC Try.prog 18 [.lit (.int .i64 n), .list 1 l.length (ints l) false] s (fun v s' => s' = s ∧ ∃ k, v = .lit (.int .i64 k) ∧ 0 ≤ k ∧ (n + l.sum ≤ k ∨ 1099511627776 ≤ k)) := by
  refine HC18 ?_
  unfold c18
  refine HLoop.ghost (σ := Int × Nat) (fun g => [.lit (.int .i64 g.1), .lit (.int .i64 g.2)]) (fun g t => g.2 ≤ l.length ∧ 0 ≤ g.1 ∧ n + (l.take g.2).sum = g.1 ∧ t = s) (fun g => l.length - g.2) (n, 0) rfl ⟨Nat.zero_le _, hn, by simp, rfl⟩ ?_
  obtain ⟨n0, hn0⟩ : ∃ n0, n0 = n := ⟨n, rfl⟩
  rw [← hn0]
  clear hn
  rintro ⟨n, i⟩ t K ⟨hi, hn, hsum, rfl⟩ hK
  simp only at hi hn hsum
  by_cases hlt : i < l.length
  · have hlt' : (i : Int) < (l.length : Int) := by omega
    have hx : ((ints l).drop i).take 1 = [.lit (.int .i64 (l.getD i 0))] := by
      rw [ints, ← List.map_drop, drop_cons' 0 l hlt]; rfl
    have h0 := hl _ (getD_mem (z := 0) hlt)
    have hts : (l.take (i + 1)).sum = (l.take i).sum + l.getD i 0 := by rw [take_succ' 0 l hlt]; simp
    generalize l.getD i 0 = x at *
    simp [bindO, hcond, vCmp, vBin, vEq, vUn, vNil, vField, vLoad, takeCells, vIdx, vLenT, vLen, vExtract, hBS, hfill, hNew, hStore, hBox, hc_int, hc_bool, hc_string, hc_slice, hc_nilp, hc_nilm, hc_nilf, hc_agg, hc_list, hc_view, hc_ptr, hc_map, hc_func, ho_int, ho_bool, ho_string, ho_slice, ho_nilp, ho_nilm, ho_nilf, ho_list, ho_view, ho_ptr, ho_map, ho_func, putCells, hAppend, lcells, litCells, isNilS, llen, room, vMk, set_at, Join, vToInt, vSlice, vSliceX, cutAt, intAt, bl_len, bits64, bits64u, bits8, hfold, vMax2, vMin2, Try.underlying3, Try.underlying4, Try.underlying9, Try.underlying22, Try.underlying31, Try.underlying32, Try.underlying36, Try.underlying44, Try.underlying64, Try.underlying80, Try.underlying90, Try.underlying123, hMark, hlt', hlt, hx]
    by_cases h1 : 1099511627776 < n
    · simp [h1]
    · have hw : IntKind.i64.wrap (1099511627776 - n) = 1099511627776 - n := w64 (by omega) (by omega)
      by_cases h2 : 1099511627776 - n < x
      · simp [h1, hw, h2]
      · simp [h1, hw, h2]
        refine hK (n + x, i + 1) _ _ ?_ ⟨hlt, by show 0 ≤ n + x; omega, by show _ = n + x; rw [hts]; omega, rfl⟩ (by show l.length - (i + 1) < l.length - i; omega)
        rw [w64 (x := (i : Int) + 1) (by omega) (by omega), w64 (x := n + x) (by omega) (by omega)]
        rfl
  · obtain rfl : i = l.length := by omega
    rw [List.take_length] at hsum
    simp [bindO, hcond, vCmp, vBin, vEq, vUn, vNil, vField, vLoad, takeCells, vIdx, vLenT, vLen, vExtract, hBS, hfill, hNew, hStore, hBox, hc_int, hc_bool, hc_string, hc_slice, hc_nilp, hc_nilm, hc_nilf, hc_agg, hc_list, hc_view, hc_ptr, hc_map, hc_func, ho_int, ho_bool, ho_string, ho_slice, ho_nilp, ho_nilm, ho_nilf, ho_list, ho_view, ho_ptr, ho_map, ho_func, putCells, hAppend, lcells, litCells, isNilS, llen, room, vMk, set_at, Join, vToInt, vSlice, vSliceX, cutAt, intAt, bl_len, bits64, bits64u, bits8, hfold, vMax2, vMin2, Try.underlying3, Try.underlying4, Try.underlying9, Try.underlying22, Try.underlying31, Try.underlying32, Try.underlying36, Try.underlying44, Try.underlying64, Try.underlying80, Try.underlying90, Try.underlying123, hMark, hn]
    omega
theorem weight' {s : HS} (b : Bat) (l : List Rec) (hb : b.recs = some l) (hl : l.length ≤ 9223372036854775807) (hs : ∀ r ∈ l, ∃ k v, r.key = some k ∧ r.val = some v) :
    HC Try.prog 71 [.agg (batC b)] s (fun v s' => s' = s ∧ ∃ k, v = .lit (.int .i64 k) ∧ 0 ≤ k ∧ (1 + (l.map wR).sum ≤ k ∨ 1099511627776 ≤ k)) := by
  refine HC.weaken (HC71 ?_)
  obtain ⟨c0, c1, c2, c3, c4, recs⟩ := b
  simp only at hb
  subst hb
  simp only [c71, hBox, hc_agg, batC]
  intro p hp
  have htp := set_at s p (.cells [.lit (.int .i64 c0), .lit (.int .i64 c1), .lit (.int .i64 c2), .lit (.int .i64 c3), .lit (.int .i64 c4), recsV (some l)])
  have hst := le_set_new (.cells [.lit (.int .i64 c0), .lit (.int .i64 c1), .lit (.int .i64 c2), .lit (.int .i64 c3), .lit (.int .i64 c4), recsV (some l)]) (le_refl' s) hp
  generalize s.set p (.cells [.lit (.int .i64 c0), .lit (.int .i64 c1), .lit (.int .i64 c2), .lit (.int .i64 c3), .lit (.int .i64 c4), recsV (some l)]) = t0 at *
  refine HLoop.ghost (σ := Int × Nat) (fun g => [.lit (.int .i64 g.1), .lit (.int .i64 g.2)]) (fun g t => g.2 ≤ l.length ∧ 0 ≤ g.1 ∧ (1 + ((l.take g.2).map wR).sum ≤ g.1 ∨ 1099511627776 ≤ g.1) ∧ t = t0) (fun g => l.length - g.2) (1, 0) rfl ⟨Nat.zero_le _, by decide, .inl (by simp), rfl⟩ ?_
  rintro ⟨n, i⟩ t K ⟨hi, hn, hsum, rfl⟩ hK
  simp only at hi hn hsum
  have hfin : ∀ k : Int, 0 ≤ k → (1 + (l.map wR).sum ≤ k ∨ 1099511627776 ≤ k) → ∃ s'', HS.le s'' t ∧ s'' = s ∧ ∃ k', HV.lit (.int .i64 k) = .lit (.int .i64 k') ∧ 0 ≤ k' ∧ (1 + (l.map wR).sum ≤ k' ∨ 1099511627776 ≤ k') := fun k h h' => ⟨s, hst, rfl, k, rfl, h, h'⟩
  have hl5 : vLenT (Try.prog.underlying 44) t (recsV (some l)) = some (.lit (.int .i64 l.length)) := rfl
  by_cases hlt : i < l.length
  · have hlt' : (i : Int) < (l.length : Int) := by omega
    have hix := recsC_idx l i hlt
    obtain ⟨k, v, hk, hv⟩ := hs _ (getD_mem (z := r0) hlt)
    have hts : ((l.take (i + 1)).map wR).sum = ((l.take i).map wR).sum + wR (l.getD i r0) := by rw [take_succ' r0 l hlt]; simp
    generalize l.getD i r0 = x at *
    have y3 : (recC x)[3]? = some (.list 1 k.length (bl k) false) := by simp [recC, hk, byV]
    have y5 : (recC x)[5]? = some (.list 1 v.length (bl v) false) := by simp [recC, hv, byV]
    by_cases h1 : n ≤ 1099511627776
    · simp [bindO, hcond, vCmp, vBin, vEq, vUn, vNil, vField, vLoad, takeCells, vIdx, vLenT, vLen, vExtract, hBS, hfill, hNew, hStore, hBox, hc_int, hc_bool, hc_string, hc_slice, hc_nilp, hc_nilm, hc_nilf, hc_agg, hc_list, hc_view, hc_ptr, hc_map, hc_func, ho_int, ho_bool, ho_string, ho_slice, ho_nilp, ho_nilm, ho_nilf, ho_list, ho_view, ho_ptr, ho_map, ho_func, putCells, hAppend, lcells, litCells, isNilS, llen, room, vMk, set_at, Join, vToInt, vSlice, vSliceX, cutAt, intAt, bl_len, bits64, bits64u, bits8, hfold, vMax2, vMin2, Try.underlying3, Try.underlying4, Try.underlying9, Try.underlying22, Try.underlying31, Try.underlying32, Try.underlying36, Try.underlying44, Try.underlying64, Try.underlying80, Try.underlying90, Try.underlying123, hMark, htp, recsV, hlt', h1, hix, y3, y5, hlt]
      intro id hid
      refine HC.frzN hid ?_
      simp [frz2, frz1, frz0, phi]
      refine (sum' (s := t) n [1, (k.length : Int), (v.length : Int)] hn (by simp) (by simp)).mono ?_
      rintro r s' ⟨rfl, q, rfl, hq, hq2⟩
      refine hK (q, i + 1) _ _ ?_ ⟨hlt, hq, (by
        have hw3 : wR x = 1 + (k.length : Int) + v.length := by simp [wR, hk, hv]
        simp at hq2
        simp only [hts, hw3]
        omega), rfl⟩ (by show l.length - (i + 1) < l.length - i; omega)
      rw [w64 (x := (i : Int) + 1) (by omega) (by omega)]
      rfl
    · simp [bindO, hcond, vCmp, vBin, vEq, vUn, vNil, vField, vLoad, takeCells, vIdx, vLenT, vLen, vExtract, hBS, hfill, hNew, hStore, hBox, hc_int, hc_bool, hc_string, hc_slice, hc_nilp, hc_nilm, hc_nilf, hc_agg, hc_list, hc_view, hc_ptr, hc_map, hc_func, ho_int, ho_bool, ho_string, ho_slice, ho_nilp, ho_nilm, ho_nilf, ho_list, ho_view, ho_ptr, ho_map, ho_func, putCells, hAppend, lcells, litCells, isNilS, llen, room, vMk, set_at, Join, vToInt, vSlice, vSliceX, cutAt, intAt, bl_len, bits64, bits64u, bits8, hfold, vMax2, vMin2, Try.underlying3, Try.underlying4, Try.underlying9, Try.underlying22, Try.underlying31, Try.underlying32, Try.underlying36, Try.underlying44, Try.underlying64, Try.underlying80, Try.underlying90, Try.underlying123, hMark, htp, recsV, h1, hlt', hlt]
      first | exact hfin _ hn (by omega) | exact ⟨s, hst, rfl, hn, by omega⟩ | exact ⟨hst, hn, by omega⟩
  · obtain rfl : i = l.length := by omega
    rw [List.take_length] at hsum
    have hlt' : ¬ (l.length : Int) < (l.length : Int) := by omega
    simp [bindO, hcond, vCmp, vBin, vEq, vUn, vNil, vField, vLoad, takeCells, vIdx, vLenT, vLen, vExtract, hBS, hfill, hNew, hStore, hBox, hc_int, hc_bool, hc_string, hc_slice, hc_nilp, hc_nilm, hc_nilf, hc_agg, hc_list, hc_view, hc_ptr, hc_map, hc_func, ho_int, ho_bool, ho_string, ho_slice, ho_nilp, ho_nilm, ho_nilf, ho_list, ho_view, ho_ptr, ho_map, ho_func, putCells, hAppend, lcells, litCells, isNilS, llen, room, vMk, set_at, Join, vToInt, vSlice, vSliceX, cutAt, intAt, bl_len, bits64, bits64u, bits8, hfold, vMax2, vMin2, Try.underlying3, Try.underlying4, Try.underlying9, Try.underlying22, Try.underlying31, Try.underlying32, Try.underlying36, Try.underlying44, Try.underlying64, Try.underlying80, Try.underlying90, Try.underlying123, hMark, htp, recsV, hlt']
    first | exact hfin _ hn (by omega) | exact ⟨s, hst, rfl, hn, by omega⟩ | exact ⟨hst, hn, by omega⟩
theorem weights' {s : HS} (l : List Bat) (lim : Int) (hl : l.length ≤ 9223372036854775807) (hs : ∀ b ∈ l, ∃ r, b.recs = some r ∧ r.length ≤ 9223372036854775807 ∧ ∀ x ∈ r, ∃ k v, x.key = some k ∧ x.val = some v) :
    HC Try.prog 46 [.list 6 l.length (batsC l) false, .lit (.int .i64 lim)] s (fun v s' => s' = s ∧ ∃ k, v = .lit (.int .i64 k) ∧ 0 ≤ k ∧ ((l.map wB).sum ≤ k ∨ 1099511627776 ≤ k ∨ lim < k)) := by
  refine HC46 ?_
  unfold c46
  refine HLoop.ghost (σ := Int × Nat) (fun g => [.lit (.int .i64 g.1), .lit (.int .i64 g.2)]) (fun g t => g.2 ≤ l.length ∧ 0 ≤ g.1 ∧ (((l.take g.2).map wB).sum ≤ g.1 ∨ 1099511627776 ≤ g.1) ∧ t = s) (fun g => l.length - g.2) (0, 0) rfl ⟨Nat.zero_le _, by decide, .inl (by simp), rfl⟩ ?_
  rintro ⟨n, i⟩ t K ⟨hi, hn, hsum, rfl⟩ hK
  simp only at hi hn hsum
  by_cases hlt : i < l.length
  · have hlt' : (i : Int) < (l.length : Int) := by omega
    have hix := batsC_idx l i hlt
    obtain ⟨r, hr, hr1, hr2⟩ := hs _ (getD_mem (z := b0) hlt)
    have hts : ((l.take (i + 1)).map wB).sum = ((l.take i).map wB).sum + wB (l.getD i b0) := by rw [take_succ' b0 l hlt]; simp
    generalize l.getD i b0 = x at *
    by_cases h1 : n ≤ lim
    · simp [bindO, hcond, vCmp, vBin, vEq, vUn, vNil, vField, vLoad, takeCells, vIdx, vLenT, vLen, vExtract, hBS, hfill, hNew, hStore, hBox, hc_int, hc_bool, hc_string, hc_slice, hc_nilp, hc_nilm, hc_nilf, hc_agg, hc_list, hc_view, hc_ptr, hc_map, hc_func, ho_int, ho_bool, ho_string, ho_slice, ho_nilp, ho_nilm, ho_nilf, ho_list, ho_view, ho_ptr, ho_map, ho_func, putCells, hAppend, lcells, litCells, isNilS, llen, room, vMk, set_at, Join, vToInt, vSlice, vSliceX, cutAt, intAt, bl_len, bits64, bits64u, bits8, hfold, vMax2, vMin2, Try.underlying3, Try.underlying4, Try.underlying9, Try.underlying22, Try.underlying31, Try.underlying32, Try.underlying36, Try.underlying44, Try.underlying64, Try.underlying80, Try.underlying90, Try.underlying123, hMark, hlt', h1, hlt, hix, batC_len, hcb]
      refine (weight' x r hr hr1 hr2).mono ?_
      rintro v s' ⟨rfl, q, rfl, hq, hqw⟩
      simp [bindO, hcond, vCmp, vBin, vEq, vUn, vNil, vField, vLoad, takeCells, vIdx, vLenT, vLen, vExtract, hBS, hfill, hNew, hStore, hBox, hc_int, hc_bool, hc_string, hc_slice, hc_nilp, hc_nilm, hc_nilf, hc_agg, hc_list, hc_view, hc_ptr, hc_map, hc_func, ho_int, ho_bool, ho_string, ho_slice, ho_nilp, ho_nilm, ho_nilf, ho_list, ho_view, ho_ptr, ho_map, ho_func, putCells, hAppend, lcells, litCells, isNilS, llen, room, vMk, set_at, Join, vToInt, vSlice, vSliceX, cutAt, intAt, bl_len, bits64, bits64u, bits8, hfold, vMax2, vMin2, Try.underlying3, Try.underlying4, Try.underlying9, Try.underlying22, Try.underlying31, Try.underlying32, Try.underlying36, Try.underlying44, Try.underlying64, Try.underlying80, Try.underlying90, Try.underlying123, hMark]
      intro id hid
      refine HC.frzN hid ?_
      simp [frz2, frz1, frz0, phi]
      refine (sum' (s := s') n [q] hn (by simpa using hq) (by simp)).mono ?_
      rintro r2 s' ⟨rfl, q2, rfl, hq2, hq3⟩
      refine hK (q2, i + 1) _ _ ?_ ⟨hlt, hq2, (by
        have hw3 : wB x = 1 + (r.map wR).sum := by simp [wB, hr]
        simp at hq3
        simp only [hts, hw3]
        omega), rfl⟩ (by show l.length - (i + 1) < l.length - i; omega)
      rw [w64 (x := (i : Int) + 1) (by omega) (by omega)]
      rfl
    · simp [bindO, hcond, vCmp, vBin, vEq, vUn, vNil, vField, vLoad, takeCells, vIdx, vLenT, vLen, vExtract, hBS, hfill, hNew, hStore, hBox, hc_int, hc_bool, hc_string, hc_slice, hc_nilp, hc_nilm, hc_nilf, hc_agg, hc_list, hc_view, hc_ptr, hc_map, hc_func, ho_int, ho_bool, ho_string, ho_slice, ho_nilp, ho_nilm, ho_nilf, ho_list, ho_view, ho_ptr, ho_map, ho_func, putCells, hAppend, lcells, litCells, isNilS, llen, room, vMk, set_at, Join, vToInt, vSlice, vSliceX, cutAt, intAt, bl_len, bits64, bits64u, bits8, hfold, vMax2, vMin2, Try.underlying3, Try.underlying4, Try.underlying9, Try.underlying22, Try.underlying31, Try.underlying32, Try.underlying36, Try.underlying44, Try.underlying64, Try.underlying80, Try.underlying90, Try.underlying123, hMark, hlt', h1, hn]
      omega
  · obtain rfl : i = l.length := by omega
    rw [List.take_length] at hsum
    simp [bindO, hcond, vCmp, vBin, vEq, vUn, vNil, vField, vLoad, takeCells, vIdx, vLenT, vLen, vExtract, hBS, hfill, hNew, hStore, hBox, hc_int, hc_bool, hc_string, hc_slice, hc_nilp, hc_nilm, hc_nilf, hc_agg, hc_list, hc_view, hc_ptr, hc_map, hc_func, ho_int, ho_bool, ho_string, ho_slice, ho_nilp, ho_nilm, ho_nilf, ho_list, ho_view, ho_ptr, ho_map, ho_func, putCells, hAppend, lcells, litCells, isNilS, llen, room, vMk, set_at, Join, vToInt, vSlice, vSliceX, cutAt, intAt, bl_len, bits64, bits64u, bits8, hfold, vMax2, vMin2, Try.underlying3, Try.underlying4, Try.underlying9, Try.underlying22, Try.underlying31, Try.underlying32, Try.underlying36, Try.underlying44, Try.underlying64, Try.underlying80, Try.underlying90, Try.underlying123, hMark, hn]
    omega
end Go.Proofs.Ytecnfekcflfihaa.CL
end
section
namespace Go.Proofs.Ytecnfekcflfihaa.CL
open Go.Proofs.Ytecnfekcflfihaa.H Go.Proofs.Ytecnfekcflfihaa.C0 Go.Proofs.Ytecnfekcflfihaa.F0
set_option linter.unusedVariables false
set_option linter.unusedSimpArgs false
set_option maxRecDepth 100000
theorem sum_len {α : Type} (f : α → Int) : ∀ (l : List α), (∀ x ∈ l, 1 ≤ f x) → (l.length : Int) ≤ (l.map f).sum
  | [], _ => by simp
  | x :: l, h => by
    have h1 := h x List.mem_cons_self
    have h2 := sum_len f l fun y hy => h y (List.mem_cons_of_mem _ hy)
    simp only [List.length_cons, List.map_cons, List.sum_cons]
    omega
theorem sum_mem {α : Type} (f : α → Int) : ∀ (l : List α), (∀ x ∈ l, 0 ≤ f x) → ∀ x ∈ l, f x ≤ (l.map f).sum
  | y :: l, h, x, hx => by
    have h1 := h y List.mem_cons_self
    have hnn : 0 ≤ (l.map f).sum := by
      clear hx
      induction l with
      | nil => simp
      | cons z l ih =>
        have h3 := h z (by simp)
        have h4 := ih (fun w hw => h w (by rcases List.mem_cons.1 hw with rfl | hw <;> simp [*]))
        simp only [List.map_cons, List.sum_cons]
        omega
    simp only [List.map_cons, List.sum_cons]
    rcases List.mem_cons.1 hx with rfl | hx
    · omega
    · have h2 := sum_mem f l (fun y hy => h y (List.mem_cons_of_mem _ hy)) x hx
      omega
def Small (l : List Bat) : Prop := l.length ≤ 60 ∧ (l.map wB).sum ≤ 4000
theorem wR_pos (r : Rec) : 1 ≤ wR r := by unfold wR; omega
theorem wB_len (b : Bat) : ((b.recs.getD []).length : Int) + 1 ≤ wB b := by
  unfold wB
  have := sum_len wR (b.recs.getD []) fun x _ => wR_pos x
  omega
theorem recsOf_len : ∀ l : List Bat, ((recsOf l).length : Int) ≤ (l.map wB).sum
  | [] => by simp [recsOf]
  | b :: l => by
    have h1 := wB_len b
    have h2 := recsOf_len l
    have e : recsOf (b :: l) = b.recs.getD [] ++ recsOf l := by simp [recsOf]
    rw [e, List.length_append]
    simp only [List.map_cons, List.sum_cons]
    omega
theorem Small.recs {l : List Bat} (h : Small l) : ∀ b ∈ l, (b.recs.getD []).length ≤ 4000 ∧ ∀ x ∈ b.recs.getD [], ShortR x := by
  intro b hb
  have h1 := sum_mem wB l (fun b _ => by have := wB_len b; omega) b hb
  have h2 := h.2
  have h3 := wB_len b
  refine ⟨by omega, fun x hx => ?_⟩
  have h4 := sum_mem wR _ (fun r _ => by have := wR_pos r; omega) x hx
  have h6 : wB b = 1 + ((b.recs.getD []).map wR).sum := rfl
  have h5 : wR x ≤ 4000 := by omega
  unfold wR at h5
  constructor
  · cases hk : x.key with
    | none => trivial
    | some k => rw [hk] at h5; simp only [Option.getD_some] at h5; show k.length ≤ _; omega
  · cases hk : x.val with
    | none => trivial
    | some k => rw [hk] at h5; simp only [Option.getD_some] at h5; show k.length ≤ _; omega
theorem recsOf_short {l : List Bat} (h : Small l) : ∀ x ∈ recsOf l, ShortR x := fun x hx => by
  obtain ⟨b, hb, hx⟩ := List.mem_flatMap.1 hx
  exact (h.recs b hb).2 x hx
theorem small {s : HS} (l : List Bat) (hl : l.length ≤ 9223372036854775807) (hs : ∀ b ∈ l, ∃ r, b.recs = some r ∧ r.length ≤ 9223372036854775807 ∧ ∀ x ∈ r, ∃ k v, x.key = some k ∧ x.val = some v) :
    HC Try.prog 31 [batsV (some l)] s (fun v s' => s' = s ∧ ∃ b, v = .lit (.bool b) ∧ (b = true → Small l)) := by
  refine HC31 ?_
  unfold c31
  simp only [len_batsV, bindO, vBin, if_true, Option.getD_some, hcond]
  by_cases h : (l.length : Int) ≤ 60
  · simp only [h, decide_true]
    refine (weights' l 4000 hl hs).mono ?_
    rintro v s' ⟨rfl, k, rfl, h0, hk⟩
    simp only [if_true]
    exact ⟨trivial, _, rfl, fun hd => ⟨by omega, by simp only [decide_eq_true_eq] at hd; omega⟩⟩
  · simp only [h, decide_false]
    exact ⟨trivial, _, rfl, fun h => by cases h⟩
theorem batches39 (l : List Bat) (s : HS) (hl : l.length ≤ 100000) (hr : (recsOf l).length ≤ 100000) (hs : ∀ b ∈ l, ∃ r, b.recs = some r ∧ r.length ≤ 100000 ∧ ∀ x ∈ r, ShortR x) :
    HC Try.prog 39 [batsV (some l)] s (fun v s' => ∃ ks : List By, ks.Pairwise (fun x y => x ≤ y) ∧ ks.Nodup ∧ (∀ x, x ∈ ks ↔ ((lastG (recsOf l)).1 (encStr x)).isSome = true) ∧ v = rowV prC 3 (orNil (outP (lastG (recsOf l)).1 ks)) ∧ s' = s) := by
  refine HC.weaken (HC39 ?_)
  unfold c39
  refine (records34 l s).mono ?_
  rintro v t ⟨p, hp, rfl, rfl⟩
  have hsh : ∀ r ∈ recsOf l, ShortR r := fun x hx => by
    obtain ⟨b, hb, hx⟩ := List.mem_flatMap.1 hx
    obtain ⟨r, h1, -, h2⟩ := hs b hb
    rw [h1] at hx
    exact h2 x hx
  refine (of40 plain59 (recsOf l) _ (gives59 l p _ hl hs (set_at _ _ _)) hr hsh).mono ?_
  rintro v t ⟨ks, h1, h2, h3, rfl, rfl⟩
  exact ⟨s, le_set_new _ (le_refl' s) hp, ks, h1, h2, h3, rfl, rfl⟩
end Go.Proofs.Ytecnfekcflfihaa.CL
end
section
namespace Go.Proofs.Ytecnfekcflfihaa.CL
open Go.Proofs.Ytecnfekcflfihaa.H Go.Proofs.Ytecnfekcflfihaa.C0 Go.Proofs.Ytecnfekcflfihaa.F0
set_option linter.unusedVariables false
set_option linter.unusedSimpArgs false
set_option maxRecDepth 100000
def fr1 : Rec := ⟨0, 0, true, some [97], true, some [49]⟩
def fr2 : Rec := ⟨1, 0, true, some [97], true, some [50]⟩
def fr3 : Rec := ⟨2, 0, true, some [98], false, none⟩
def fbat : Bat := ⟨0, 0, 0, 0, 0, some [fr1, fr2, fr3]⟩
theorem foldP_awake : foldP (recsOf [fbat]) = [⟨some [97], some [50], 1⟩] := by rfl
theorem foldAwake (s : HS) : HC Try.prog 32 [] s (fun v _ => v = .lit (.bool true)) := by
  refine HC32 ?_
  simp [c32, bindO, hcond, vCmp, vBin, vEq, vUn, vNil, vField, vLoad, takeCells, vIdx, vLenT, vLen, vExtract, hBS, hfill, hNew, hStore, hBox, hc_int, hc_bool, hc_string, hc_slice, hc_nilp, hc_nilm, hc_nilf, hc_agg, hc_list, hc_view, hc_ptr, hc_map, hc_func, ho_int, ho_bool, ho_string, ho_slice, ho_nilp, ho_nilm, ho_nilf, ho_list, ho_view, ho_ptr, ho_map, ho_func, putCells, hAppend, lcells, litCells, isNilS, llen, room, vMk, set_at, Join, vToInt, vSlice, vSliceX, cutAt, intAt, bl_len, bits64, bits64u, bits8, hfold, vMax2, vMin2, Try.underlying3, Try.underlying4, Try.underlying9, Try.underlying22, Try.underlying31, Try.underlying32, Try.underlying36, Try.underlying44, Try.underlying64, Try.underlying80, Try.underlying90, Try.underlying123, hMark]
  intro k1 h1 k2 h2 k3 h3 k4 h4 R hR B hB
  simp only [set_none_iff] at h2 h3 h4 hR hB
  obtain ⟨n1, h2⟩ := h2
  obtain ⟨n2, n3, h3⟩ := h3
  obtain ⟨n4, n5, n6, h4⟩ := h4
  obtain ⟨n7, n8, n9, n10, hR⟩ := hR
  obtain ⟨n11, n12, n13, n14, n15, hB⟩ := hB
  have m1 := Ne.symm n1
  have m2 := Ne.symm n2
  have m3 := Ne.symm n3
  have m4 := Ne.symm n4
  have m5 := Ne.symm n5
  have m6 := Ne.symm n6
  have m7 := Ne.symm n7
  have m8 := Ne.symm n8
  have m9 := Ne.symm n9
  have m10 := Ne.symm n10
  have m11 := Ne.symm n11
  have m12 := Ne.symm n12
  have m13 := Ne.symm n13
  have m14 := Ne.symm n14
  have m15 := Ne.symm n15
  refine HC.mono (Q := fun v t => ∃ p, sameP true p ⟨some [97], some [50], 1⟩ = true ∧ v = rowV prC 3 (some [p])) ?_ ?_
  · refine HC.frz (id := k1) (cs := [.lit (.int .u8 97)]) (by simp [HS.set, *]) ?_
    simp [frzS_set, frzS_same, frzO, frz2, frz1, frz0, phi, List.map_cons, List.map_nil, n1, n2, n3, n4, n5, n6, n7, n8, n9, n10, n11, n12, n13, n14, n15, m1, m2, m3, m4, m5, m6, m7, m8, m9, m10, m11, m12, m13, m14, m15]
    refine HC.frz (id := k2) (cs := [.lit (.int .u8 49)]) (by simp [HS.set, *]) ?_
    simp [frzS_set, frzS_same, frzO, frz2, frz1, frz0, phi, List.map_cons, List.map_nil, n1, n2, n3, n4, n5, n6, n7, n8, n9, n10, n11, n12, n13, n14, n15, m1, m2, m3, m4, m5, m6, m7, m8, m9, m10, m11, m12, m13, m14, m15]
    refine HC.frz (id := k3) (cs := [.lit (.int .u8 50)]) (by simp [HS.set, *]) ?_
    simp [frzS_set, frzS_same, frzO, frz2, frz1, frz0, phi, List.map_cons, List.map_nil, n1, n2, n3, n4, n5, n6, n7, n8, n9, n10, n11, n12, n13, n14, n15, m1, m2, m3, m4, m5, m6, m7, m8, m9, m10, m11, m12, m13, m14, m15]
    refine HC.frz (id := k4) (cs := [.lit (.int .u8 98)]) (by simp [HS.set, *]) ?_
    simp [frzS_set, frzS_same, frzO, frz2, frz1, frz0, phi, List.map_cons, List.map_nil, n1, n2, n3, n4, n5, n6, n7, n8, n9, n10, n11, n12, n13, n14, n15, m1, m2, m3, m4, m5, m6, m7, m8, m9, m10, m11, m12, m13, m14, m15]
    refine HC.frz (id := R) (cs := recsC [fr1, fr2, fr3]) (by simp [HS.set, *]; rfl) ?_
    simp [frzS_set, frzS_same, frzO, frz2, frz1, frz0, phi, List.map_cons, List.map_nil, n1, n2, n3, n4, n5, n6, n7, n8, n9, n10, n11, n12, n13, n14, n15, m1, m2, m3, m4, m5, m6, m7, m8, m9, m10, m11, m12, m13, m14, m15, recsC_len]
    refine HC.frz (id := B) (cs := batsC [fbat]) (by simp [HS.set, *]; rfl) ?_
    simp [frzS_set, frzS_same, frzO, frz2, frz1, frz0, phi, List.map_cons, List.map_nil, n1, n2, n3, n4, n5, n6, n7, n8, n9, n10, n11, n12, n13, n14, n15, m1, m2, m3, m4, m5, m6, m7, m8, m9, m10, m11, m12, m13, m14, m15, batsC_len]
    have hsm : ∀ x ∈ [fr1, fr2, fr3], ShortR x := by
      intro x hx
      simp at hx
      rcases hx with rfl | rfl | rfl
      · exact ⟨by show (1 : Nat) ≤ _; omega, by show (1 : Nat) ≤ _; omega⟩
      · exact ⟨by show (1 : Nat) ≤ _; omega, by show (1 : Nat) ≤ _; omega⟩
      · exact ⟨by show (1 : Nat) ≤ _; omega, trivial⟩
    refine (batches39 [fbat] _ (by simp) (by show (3 : Nat) ≤ _; omega) ?_).mono ?_
    · intro b hb
      simp at hb
      subst hb
      exact ⟨_, rfl, by simp, hsm⟩
    · rintro v t ⟨ks, j1, j2, j3, rfl, rfl⟩
      have h := fold_same _ ks j1 j2 j3
      rw [foldP_awake] at h
      generalize outP (lastG (recsOf [fbat])).1 ks = z at h
      cases z with
      | nil => simp [all2] at h
      | cons p z =>
        cases z with
        | nil => exact ⟨p, by simpa [all2] using h, rfl⟩
        | cons _ _ => simp [all2] at h
  · rintro v t ⟨p, hp, rfl⟩
    obtain ⟨key, val, off⟩ := p
    simp only [sameP, Bool.not_true, Bool.false_or, Bool.and_eq_true, beq_iff_eq] at hp
    obtain ⟨hp1, hp2, rfl⟩ := hp
    have hv : kv val = .string { data := #[50] } := (kv_same _ _).2 hp2
    simp [rowV, rowL, rows, prC, isStr_by, toStr_by, hv, bindO, hcond, vCmp, vBin, vEq, vUn, vNil, vField, vLoad, takeCells, vIdx, vLenT, vLen, vExtract, hBS, hfill, hNew, hStore, hBox, hc_int, hc_bool, hc_string, hc_slice, hc_nilp, hc_nilm, hc_nilf, hc_agg, hc_list, hc_view, hc_ptr, hc_map, hc_func, ho_int, ho_bool, ho_string, ho_slice, ho_nilp, ho_nilm, ho_nilf, ho_list, ho_view, ho_ptr, ho_map, ho_func, putCells, hAppend, lcells, litCells, isNilS, llen, room, vMk, set_at, Join, vToInt, vSlice, vSliceX, cutAt, intAt, bl_len, bits64, bits64u, bits8, hfold, vMax2, vMin2, Try.underlying3, Try.underlying4, Try.underlying9, Try.underlying22, Try.underlying31, Try.underlying32, Try.underlying36, Try.underlying44, Try.underlying64, Try.underlying80, Try.underlying90, Try.underlying123, hMark]
end Go.Proofs.Ytecnfekcflfihaa.CL
end
section
namespace Go.Proofs.Ytecnfekcflfihaa.CL
open Go.Proofs.Ytecnfekcflfihaa.H Go.Proofs.Ytecnfekcflfihaa.C0 Go.Proofs.Ytecnfekcflfihaa.F0
set_option linter.unusedVariables false
set_option linter.unusedSimpArgs false
set_option maxRecDepth 100000
theorem equal68 (a b : Option (List Int)) (s : HS) : HC Try.prog 68 [byV a, byV b] s (fun v s' => v = .lit (.bool (sameB' a b)) ∧ s' = s) := by
  refine HC68 ?_
  unfold c68
  simp only [isStr_by, Bool.false_eq_true, if_false, toStr_by, bindO, kv, vCmp, vBin, str_eq]
  trivial
def sameKV (p q : Pr) : Bool := sameB' p.key q.key && sameB' p.val q.val
theorem prC_ho (p : Pr) : ∀ x ∈ prC p, hone x = true := by
  intro x hx
  simp only [prC, List.mem_cons, List.not_mem_nil, or_false] at hx
  rcases hx with rfl | rfl | rfl <;> first | rfl | exact ho_by _
theorem same67 (p q : Pr) (s : HS) : HC Try.prog 67 [.agg (prC p), .agg (prC q)] s (fun v s' => v = .lit (.bool (sameKV p q)) ∧ s' = s) := by
  refine HC.weaken (HC67 ?_)
  unfold c67 hBox
  simp only [hc_prC]
  intro X hX Y hY
  have nXY : X ≠ Y := ne_new (set_at s X _) hY
  have hle := le_set_new (.cells (prC q)) (le_set_new (.cells (prC p)) (le_refl' s) hX) hY
  have eX : ((s.set X (.cells (prC p))).set Y (.cells (prC q))) X = some (.cells (prC p)) := by rw [set_ne _ _ nXY, set_at]
  have eY := set_at (s.set X (.cells (prC p))) Y (.cells (prC q))
  generalize (s.set X (.cells (prC p))).set Y (.cells (prC q)) = u at *
  have a0 : vLoad u (.ptr X 0) 1 false = some (byV p.key) := by rw [load_cell 0 1 eX, pr0]
  have a1 : vLoad u (.ptr X 1) 1 false = some (byV p.val) := by rw [load_cell 1 1 eX, pr1]
  have b0 : vLoad u (.ptr Y 0) 1 false = some (byV q.key) := by rw [load_cell 0 1 eY, pr0]
  have b1 : vLoad u (.ptr Y 1) 1 false = some (byV q.val) := by rw [load_cell 1 1 eY, pr1]
  simp only [vField, bindO, Nat.zero_add, a0, b0]
  refine (equal68 _ _ _).mono ?_
  rintro v u2 ⟨rfl, rfl⟩
  unfold sameKV
  cases h : sameB' p.key q.key with
  | false => simp only [hcond]; exact ⟨s, hle, rfl, rfl⟩
  | true =>
    simp only [hcond, a1, b1]
    refine (equal68 _ _ _).mono ?_
    rintro v u2 ⟨rfl, rfl⟩
    exact ⟨s, hle, by rw [Bool.true_and], rfl⟩
theorem same43 (a b : Option (List Pr)) (s : HS) (ha : (a.getD []).length ≤ 1000000) : HC Try.prog 43 [rowV prC 3 a, rowV prC 3 b] s (fun v s' => v = .lit (.bool (all2 sameKV (a.getD []) (b.getD []))) ∧ s' = s) := by
  refine HC43 ?_
  unfold c43
  refine HC.mono (HC.weaken (HC66 ?_)) (Q := fun v s' => v = .lit (.bool (all2 sameKV (a.getD []) (b.getD []))) ∧ s' = s) (fun _ _ h => h)
  unfold c66
  simp only [Try.underlying69, len_prV', bindO, vCmp, vBin, if_true]
  by_cases hne : (a.getD []).length = (b.getD []).length
  · have h0 : (((a.getD []).length : Int) != ((b.getD []).length : Int)) = false := by simp [hne]
    simp only [h0, hcond]
    refine HLoop.ghost (σ := Nat) (fun i => [.lit (.int .i64 (i : Int))]) (fun i t => i ≤ (a.getD []).length ∧ HS.le s t ∧ all2 sameKV ((a.getD []).drop i) ((b.getD []).drop i) = all2 sameKV (a.getD []) (b.getD [])) (fun i => (a.getD []).length - i) 0 rfl ⟨Nat.zero_le _, le_refl' s, rfl⟩ ?_
    rintro i t K ⟨hi, hle, hall⟩ hK
    simp only [List.headD_cons]
    by_cases hlt : i < (a.getD []).length
    · have hlt' : (i : Int) < ((a.getD []).length : Int) := by omega
      have hltb : i < (b.getD []).length := by omega
      have e1 := vIdx_prV a i hlt
      have e2 := vIdx_prV b i hltb
      rw [drop_cons' p0 _ hlt, drop_cons' p0 _ hltb] at hall
      generalize (a.getD []).getD i p0 = x at *
      generalize (b.getD []).getD i p0 = y at *
      simp only [hlt', decide_true, e1, load_elt _ _ 3 (prC_len _)]
      refine new_store rfl rfl (prC_ho x) fun X hX => ?_
      simp only [e2, load_elt _ _ 3 (prC_len _)]
      refine new_store rfl rfl (prC_ho y) fun Y hY => ?_
      have nXY : X ≠ Y := ne_new (set_at t X _) hY
      have hle2 := le_set_new (.cells (prC y)) (le_set_new (.cells (prC x)) hle hX) hY
      have eX : ((t.set X (.cells (prC x))).set Y (.cells (prC y))) X = some (.cells (prC x)) := by rw [set_ne _ _ nXY, set_at]
      have eY := set_at (t.set X (.cells (prC x))) Y (.cells (prC y))
      generalize (t.set X (.cells (prC x))).set Y (.cells (prC y)) = u at hle2 eX eY ⊢
      simp only [load_all (prC_len x) eX, load_all (prC_len y) eY]
      unfold hcall
      simp only
      rw [hite_eq, if_pos (by decide +kernel)]
      refine (same67 x y u).mono ?_
      rintro v u2 ⟨rfl, rfl⟩
      simp only [all2] at hall
      cases h : sameKV x y with
      | false =>
        rw [h, Bool.false_and] at hall
        simp only [vUn, Bool.not_false]
        exact ⟨s, hle2, by rw [← hall], rfl⟩
      | true =>
        rw [h, Bool.true_and] at hall
        simp only [vUn, Bool.not_true, wrap_add1 (show i < 9223372036854775807 by omega)]
        exact hK (i + 1) _ _ rfl ⟨hlt, hle2, hall⟩ (by omega)
    · obtain rfl : i = (a.getD []).length := by omega
      have hlt' : ¬ ((a.getD []).length : Int) < ((a.getD []).length : Int) := by omega
      rw [List.drop_length, hne, List.drop_length] at hall
      simp only [hlt', decide_false]
      exact ⟨s, hle, by rw [← hall]; rfl, rfl⟩
  · have h0 : (((a.getD []).length : Int) != ((b.getD []).length : Int)) = true := by simp; omega
    simp only [h0, hcond]
    exact ⟨s, le_refl' s, by rw [all2_ne _ _ hne], rfl⟩
end Go.Proofs.Ytecnfekcflfihaa.CL
end
section
namespace Go.Proofs.Ytecnfekcflfihaa.CL
open Go.Proofs.Ytecnfekcflfihaa.H Go.Proofs.Ytecnfekcflfihaa.C0 Go.Proofs.Ytecnfekcflfihaa.F0
set_option linter.unusedVariables false
set_option linter.unusedSimpArgs false
set_option maxRecDepth 100000
def OkBt (b : Bat) : Prop := OkBat b (b.recs.getD [])
def AscR (l : List Rec) : Prop := l.Pairwise fun a b => a.off < b.off
/-- Batches that may be, one behind the other. -/
def Ch : List Bat → Prop
  | [] => True
  | b :: l => OkBt b ∧ (∀ c, l.head? = some c → b.last < c.base) ∧ Ch l
theorem asc_of_adj : ∀ (l : List Rec), (∀ i, i + 1 < l.length → (l.getD i r0).off < (l.getD (i + 1) r0).off) → AscR l
  | [], _ => List.Pairwise.nil
  | [x], _ => List.pairwise_singleton _ _
  | x :: y :: l, h => by
    have ih := asc_of_adj (y :: l) fun i hi => by
      have := h (i + 1) (by simpa using hi)
      simpa using this
    have h0 : x.off < y.off := by simpa using h 0 (by simp)
    refine List.Pairwise.cons (fun z hz => ?_) ih
    rcases List.mem_cons.1 hz with rfl | hz
    · exact h0
    · have := (List.pairwise_cons.1 ih).1 z hz
      omega
theorem okBt_asc {b : Bat} (h : OkBt b) : AscR (b.recs.getD []) ∧ ∀ r ∈ b.recs.getD [], b.base ≤ r.off ∧ r.off ≤ b.last := by
  constructor
  · refine asc_of_adj _ fun i hi => ?_
    have := (h.recs (i + 1) hi).up
    simpa using this
  · intro r hr
    obtain ⟨i, hi, rfl⟩ := List.getElem_of_mem hr
    have := h.recs i hi
    rw [getD_get r0 _ hi] at this
    exact ⟨this.lo, this.hi⟩
theorem ch_low : ∀ (l : List Bat) (n : Int), (∀ c, l.head? = some c → n < c.base) → Ch l → ∀ r ∈ recsOf l, n < r.off
  | [], n, _, _, r, hr => by simp [recsOf] at hr
  | b :: l, n, h, hc, r, hr => by
    obtain ⟨h1, h2, h3⟩ := hc
    have hn := h b rfl
    have e : recsOf (b :: l) = b.recs.getD [] ++ recsOf l := by simp [recsOf]
    rw [e, List.mem_append] at hr
    rcases hr with hr | hr
    · have := ((okBt_asc h1).2 r hr).1
      omega
    · have h4 := ch_low l b.last h2 h3 r hr
      have h5 := h1.b1
      omega
theorem ch_asc : ∀ (l : List Bat), Ch l → AscR (recsOf l) ∧ ∀ r ∈ recsOf l, 0 ≤ r.off ∧ r.off ≤ 4611686018427387904
  | [], _ => ⟨List.Pairwise.nil, fun r hr => by simp [recsOf] at hr⟩
  | b :: l, hc => by
    obtain ⟨h1, h2, h3⟩ := hc
    obtain ⟨g1, g2⟩ := ch_asc l h3
    obtain ⟨k1, k2⟩ := okBt_asc h1
    have e : recsOf (b :: l) = b.recs.getD [] ++ recsOf l := by simp [recsOf]
    rw [e]
    constructor
    · refine List.pairwise_append.2 ⟨k1, g1, fun x hx y hy => ?_⟩
      have := (k2 x hx).2
      have := ch_low l b.last h2 h3 y hy
      omega
    · intro r hr
      rcases List.mem_append.1 hr with hr | hr
      · have := k2 r hr
        have := h1.b0
        have := h1.l1
        omega
      · exact g2 r hr
theorem split_asc (a : Int) : ∀ (R : List Rec), AscR R → (∀ r ∈ R, 0 ≤ r.off ∧ r.off ≤ 4611686018427387904) → keptF 0 a R ++ keptF a 4611686018427387905 R = R
  | [], _, _ => rfl
  | x :: R, h, hb => by
    have h' := List.pairwise_cons.1 h
    have ih := split_asc a R h'.2 fun r hr => hb r (List.mem_cons_of_mem _ hr)
    obtain ⟨b1, b2⟩ := hb x List.mem_cons_self
    have n1 : ¬ x.off < 0 := by omega
    have n2 : ¬ x.off ≥ 4611686018427387905 := by omega
    unfold keptF at ih ⊢
    by_cases hx : x.off < a
    · have n3 : ¬ x.off ≥ a := by omega
      have e1 : outB 0 a x = false := by simp [outB, n1, n3]
      have e2 : outB a 4611686018427387905 x = true := by simp [outB, hx]
      rw [List.filter_cons, e1, List.filter_cons, e2]
      simp only [Bool.not_false, if_true, Bool.not_true, Bool.false_eq_true, if_false, List.cons_append, ih]
    · have n3 : x.off ≥ a := by omega
      have e1 : outB 0 a x = true := by simp [outB, n3]
      have e2 : outB a 4611686018427387905 x = false := by simp [outB, hx, n2]
      have e3 : R.filter (fun r => !outB 0 a r) = [] := by
        rw [List.filter_eq_nil_iff]
        intro r hr
        have := h'.1 r hr
        have n4 : r.off ≥ a := by omega
        simp [outB, n4]
      rw [e3, List.nil_append] at ih
      rw [List.filter_cons, e1, List.filter_cons, e2]
      simp only [Bool.not_false, if_true, Bool.not_true, Bool.false_eq_true, if_false, e3, ih, List.nil_append]
theorem recs_rest (f t : Int) : ∀ (l : List Bat), recsOf (restF f t l) = keptF f t (recsOf l)
  | [] => rfl
  | b :: l => by
    have e : recsOf (b :: l) = b.recs.getD [] ++ recsOf l := by simp [recsOf]
    have ih := recs_rest f t l
    rw [e]
    unfold keptF at ih ⊢
    rw [List.filter_append, ← ih]
    unfold restF
    rw [List.filterMap_cons]
    have hk : cutO f t b = match (b.recs.getD []).filter (fun r => !outB f t r) with | [] => none | x :: r => some { b with recs := some (x :: r) } := rfl
    rw [hk]
    generalize (b.recs.getD []).filter (fun r => !outB f t r) = z
    cases z with
    | nil => rfl
    | cons x r => simp [recsOf]
theorem ch_of : ∀ (l : List Bat), (∀ i, i < l.length → OkBt (l.getD i b0)) → (∀ i, i + 1 < l.length → (l.getD i b0).last < (l.getD (i + 1) b0).base) → Ch l
  | [], _, _ => trivial
  | b :: l, h1, h2 => by
    refine ⟨by simpa using h1 0 (by simp), fun c hc => ?_, ch_of l (fun i hi => ?_) (fun i hi => ?_)⟩
    · cases l with
      | nil => cases hc
      | cons d l =>
        cases hc
        simpa using h2 0 (by simp)
    · simpa using h1 (i + 1) (by simpa using hi)
    · simpa using h2 (i + 1) (by simpa using hi)
theorem recsOf_app (a b : List Bat) : recsOf (a ++ b) = recsOf a ++ recsOf b := by simp [recsOf]
theorem all2_imp {α : Type} {f g : α → α → Bool} (h : ∀ x y, f x y = true → g x y = true) : ∀ (a b : List α), all2 f a b = true → all2 g a b = true
  | [], [], _ => rfl
  | [], _ :: _, h => by simp [all2] at h
  | _ :: _, [], h => by simp [all2] at h
  | x :: a, y :: b, h' => by
    simp only [all2, Bool.and_eq_true] at h' ⊢
    exact ⟨h x y h'.1, all2_imp h a b h'.2⟩
/-- Keys in whatever sorted row: the same pairs. -/
theorem outP_same (M : Value → Option Rec) (ks kt : List By) (h1 : ks.Pairwise (fun x y => x ≤ y)) (h2 : ks.Nodup) (h3 : ∀ x, x ∈ ks ↔ (M (encStr x)).isSome = true)
    (g1 : kt.Pairwise (fun x y => x ≤ y)) (g2 : kt.Nodup) (g3 : ∀ x, x ∈ kt ↔ (M (encStr x)).isSome = true) : all2 sameKV (outP M ks) (outP M kt) = true := by
  refine all2_imp (f := sameP true) (fun x y h => ?_) _ _ (same_of_look _ _ (outP_sorted M ks h1 h2) (outP_sorted M kt g1 g2) fun k => ?_)
  · simp only [sameP, Bool.and_eq_true] at h
    simp only [sameKV, Bool.and_eq_true]
    exact ⟨h.1, h.2.1⟩
  · rw [outP_look M ks k (h3 k) ks (fun _ h => h), outP_look M kt k (g3 k) kt (fun _ h => h)]
    have e : k ∈ ks ↔ k ∈ kt := (h3 k).trans (g3 k).symm
    by_cases hk : k ∈ ks
    · rw [if_pos hk, if_pos (e.1 hk)]
      cases pairOf M k with
      | none => trivial
      | some p => simp [SameO, sameP, sameB']
    · rw [if_neg hk, if_neg (fun h => hk (e.2 h))]
      trivial
end Go.Proofs.Ytecnfekcflfihaa.CL
end
section
namespace Go.Proofs.Ytecnfekcflfihaa.F1
open Go.Proofs.Ytecnfekcflfihaa.H
set_option linter.unusedVariables false
set_option maxRecDepth 100000
/-- cordwain/cordwainlaw13.FoldWhole -/
def c11 (a0 a1 : HV) (s : HS) (Q : HV → HS → Prop) : Prop :=
  HC Try.prog 31 [a0] s (fun r1 s2 => bindO (vUn .not r1) fun x3 => hcond x3 (HC Try.prog 32 [] s2 (fun r4 s5 => Q r4 s5)) (HLoop (fun y7 s8 K6 => bindO (vLenT (Try.prog.underlying 31) s8 a0) fun x9 => bindO (vBin .lss (y7.headD .junk) x9) fun x10 => hcond x10 (Join (fun K11 => bindO (vIdx 6 a0 (y7.headD .junk)) fun x14 => bindO (vLoad s8 x14 6 true) fun x15 => HC Try.prog 45 [x15] s8 (fun r16 s17 => bindO (vCmp (Try.prog.underlying 3) .neq r16 (.lit (.int .i64 0))) fun x18 => hcond x18 (K11 [(.lit (.bool true))] s17) (bindO (vBin .gtr (y7.headD .junk) (.lit (.int .i64 0))) fun x19 => hcond x19 (bindO (vIdx 6 a0 (y7.headD .junk)) fun x20 => bindO (vField 0 x20) fun x21 => bindO (vLoad s17 x21 1 false) fun x22 => bindO (vBin .sub (y7.headD .junk) (.lit (.int .i64 1))) fun x23 => bindO (vIdx 6 a0 x23) fun x24 => bindO (vField 1 x24) fun x25 => bindO (vLoad s17 x25 1 false) fun x26 => bindO (vBin .leq x22 x26) fun x27 => K11 [x27] s17) (K11 [(.lit (.bool false))] s17)))) (fun y12 s13 => hcond (y12.headD .junk) (HC Try.prog 32 [] s13 (fun r28 s29 => Q r28 s29)) (bindO (vBin .add (y7.headD .junk) (.lit (.int .i64 1))) fun x30 => K6 [x30] s13))) (HC Try.prog 41 [a0, (.lit (.int .i64 0)), a1] s8 (fun r31 s32 => HC Try.prog 41 [a0, a1, (.lit (.int .i64 4611686018427387905))] s32 (fun r33 s34 => Join (fun K35 => bindO (vBin .lss a1 (.lit (.int .i64 0))) fun x38 => hcond x38 (K35 [(.lit (.bool true))] s34) (bindO (vBin .gtr a1 (.lit (.int .i64 4611686018427387904))) fun x39 => K35 [x39] s34)) (fun y36 s37 => hcond (y36.headD .junk) (HC Try.prog 32 [] s37 (fun r40 s41 => Q r40 s41)) (JoinU (fun K42 => hBS s37 6 0 [] [] (fun x45 s46 => hAppend s46 6 64 x45 r31 (fun x47 s48 => hAppend s48 6 64 x47 r33 (fun x49 s50 => K42 [x49] s50)))) (fun y43 s44 => HC Try.prog 39 [(y43.headD .junk)] s44 (fun r51 s52 => HC Try.prog 39 [a0] s52 (fun r53 s54 => HC Try.prog 43 [r51, r53] s54 (fun r55 s56 => hcond r55 (HC Try.prog 28 [(y43.headD .junk)] s56 (fun r57 s58 => bindO (vLenT (Try.prog.underlying 44) s58 r57) fun x59 => HC Try.prog 28 [a0] s58 (fun r60 s61 => bindO (vLenT (Try.prog.underlying 44) s61 r60) fun x62 => bindO (vCmp (Try.prog.underlying 3) .eql x59 x62) fun x63 => hcond x63 (HC Try.prog 32 [] s61 (fun r64 s65 => Q r64 s65)) (Q (.lit (.bool false)) s61)))) (Q (.lit (.bool false)) s56))))))))))) [(.lit (.int .i64 0))] s2))
theorem c11_eq (a0 a1 : HV) (s : HS) (Q : HV → HS → Prop) : (match Try.f11.body with | some c => hwp Try.prog (fun p => if p = 58 then some [5] else if p = 126 then some [55] else if p = 127 then some [1000000, 8] else if p = 932 then some [42] else none) false 1 c (hretQ Try.prog Try.f11.results.toList Q) (([a0, a1] : List HV) ++ List.replicate (Try.f11.ntmps - 2) (.lit undef)) s | none => False) = c11 a0 a1 s Q := by kernel_rfl
theorem HC11 {a0 a1 : HV} {s : HS} {Q : HV → HS → Prop} (h : c11 a0 a1 s Q) : HC Try.prog 11 [a0, a1] s Q := HC_by Try.func11 (by have := c11_eq a0 a1 s Q; exact this.mpr h)
end Go.Proofs.Ytecnfekcflfihaa.F1
end
section
namespace Go.Proofs.Ytecnfekcflfihaa.CL
open Go.Proofs.Ytecnfekcflfihaa.H Go.Proofs.Ytecnfekcflfihaa.C0 Go.Proofs.Ytecnfekcflfihaa.F0 Go.Proofs.Ytecnfekcflfihaa.F1
set_option linter.unusedVariables false
set_option linter.unusedSimpArgs false
set_option maxRecDepth 100000
theorem acc0_appG {b t : HS} {sz by_ : Nat} {A : HV} {n : Nat} {cs : List HV} {K : HV → HS → Prop} (h : Acc0 b t sz A n cs) (hb : HS.le b t) {x : HV} {xs : List HV} {k : Nat} (hx : ∀ s, lcells s sz x = some xs) (hk : llen x = k) (hl : xs.length = k * sz)
    (hroom : room (n + k) by_) (hK : ∀ A' t', Acc0 b t' sz A' (n + k) (cs ++ xs) → HS.le b t' → K A' t') : hAppend t sz by_ A x K := by
  rcases h with h | ⟨rfl, rfl, q, h3, rfl, h4⟩
  · exact h.app hb (hx t) hk hl hroom fun A' t' h1 h2 _ => hK A' t' (.inl h1) h2
  · rw [Nat.zero_add] at hroom hK
    rw [List.nil_append] at hK
    exact app_empty hb h3 h4 (hx t) hk hl hroom hK
theorem acc0_upL {b t : HS} {sz : Nat} {A : HV} {n : Nat} {cs : List HV} (h : Acc0 b t sz A n cs) (hb : HS.le b t) : UpL [A] t [.list sz n cs false] b := by
  rcases h with h | ⟨rfl, rfl, q, h3, rfl, h4⟩
  · exact h.upAtL hb [] [] (fun _ _ => rfl) (fun _ _ => rfl)
  · have := UpL.freeze (ys := []) (zs := []) (id := q) (off := 0) (sz := sz) (n := 0) (full := true) (full' := false) (fun h => by cases h) h4 (by simp)
    simp only [Nat.zero_mul, List.take_zero, List.nil_append] at this
    exact this.trans (UpL.le _ (le_del_free hb h3))
theorem restF_in (f t : Int) {l : List Bat} (hbs : ∀ b ∈ l, ∃ r, b.recs = some r ∧ r.length ≤ 100000 ∧ ∀ x ∈ r, ShortR x) : ∀ b ∈ restF f t l, ∃ r, b.recs = some r ∧ r.length ≤ 100000 ∧ ∀ x ∈ r, ShortR x := by
  intro y hy
  obtain ⟨z, hz, hzy⟩ := List.mem_filterMap.1 hy
  obtain ⟨r, h1, h2, h3⟩ := hbs z hz
  unfold cutO at hzy
  rw [h1, Option.getD_some] at hzy
  have hf := List.length_filter_le (fun x => !outB f t x) r
  have hk : keptF f t r = r.filter fun x => !outB f t x := rfl
  rw [← hk] at hf
  have hm : ∀ x ∈ keptF f t r, x ∈ r := fun x hx => (List.mem_filter.1 hx).1
  split at hzy
  · cases hzy
  · rename_i p q hpq
    cases hzy
    rw [hpq] at hf hm
    exact ⟨p :: q, rfl, by omega, fun x hx => h3 x (hm x hx)⟩
theorem foldWhole_law (l : List Bat) (a : Int) (s : HS) (hl : l.length ≤ 9223372036854775807) (hin : ∀ b ∈ l, InBat b) :
    HC Try.prog 11 [batsV (some l), .lit (.int .i64 a)] s (fun v _ => v = .lit (.bool true)) := by
  refine HC11 ?_
  unfold c11
  refine (small l hl hin).mono ?_
  rintro v t ⟨rfl, b, rfl, hb⟩
  cases b with
  | false => simp only [vUn, Bool.not_false, bindO, hcond]; exact foldAwake _
  | true =>
  simp only [vUn, Bool.not_true, bindO, hcond]
  have hsm := hb rfl
  have hn : (recsOf l).length ≤ 4000 := by have := recsOf_len l; have := hsm.2; omega
  have hsh := recsOf_short hsm
  have hl6 : l.length ≤ 60 := hsm.1
  have hbs : ∀ b ∈ l, ∃ r, b.recs = some r ∧ r.length ≤ 100000 ∧ ∀ x ∈ r, ShortR x := fun b hb => by
    obtain ⟨r, h1, -, -⟩ := hin b hb
    obtain ⟨g1, g2⟩ := hsm.recs b hb
    rw [h1] at g1 g2
    exact ⟨r, h1, by simp only [Option.getD_some] at g1; omega, g2⟩
  clear hb
  refine HLoop.ghost (σ := Nat) (fun i => [.lit (.int .i64 (i : Int))]) (fun i u => i ≤ l.length ∧ u = t ∧ (∀ j, j < i → OkBt (l.getD j b0)) ∧ (∀ j, j + 1 < i → (l.getD j b0).last < (l.getD (j + 1) b0).base)) (fun i => l.length - i) 0 rfl ⟨Nat.zero_le _, rfl, fun j hj => by omega, fun j hj => by omega⟩ ?_
  rintro i u K ⟨hi, rfl, g1, g2⟩ hK
  simp only [List.headD_cons, len_batsV, Option.getD_some, vBin, if_true]
  by_cases hlt : i < l.length
  · have hlt' : (i : Int) < (l.length : Int) := by omega
    have hmem : l.getD i b0 ∈ l := by rw [List.getD, List.getElem?_eq_getElem hlt]; exact List.getElem_mem hlt
    obtain ⟨rs, hrs, -, -⟩ := hbs _ hmem
    simp only [hlt', decide_true, vIdx_bats l hlt, load_elt _ _ 6 (batC_len' _)]
    refine Join.of (fun xs u' => u' = u ∧ ∃ g : Bool, xs = [.lit (.bool g)] ∧ (g = false → OkBt (l.getD i b0) ∧ (0 < i → (l.getD (i - 1) b0).last < (l.getD i b0).base))) ?_ ?_
    · rintro xs u' ⟨rfl, g, rfl, hg⟩
      simp only [List.headD_cons]
      cases g with
      | true => exact foldAwake _
      | false =>
        obtain ⟨k1, k2⟩ := hg rfl
        simp only [wrap_add1 (show i < 9223372036854775807 by omega)]
        refine hK (i + 1) _ _ rfl ⟨hlt, rfl, fun j hj => ?_, fun j hj => ?_⟩ (by omega)
        · by_cases hji : j = i
          · rw [hji]; exact k1
          · exact g1 j (by omega)
        · by_cases hji : j + 1 = i
          · have := k2 (by omega)
            rw [← hji] at this
            simpa using this
          · exact g2 j (by omega)
    · intro K11 hK11
      refine (check (l.getD i b0) rs hrs).mono ?_
      rintro v u2 ⟨rfl, e, rfl, he⟩
      simp only [vCmp, vBin, if_true]
      cases hne : (e != 0) with
      | true => exact hK11 _ _ ⟨rfl, true, rfl, fun h => by cases h⟩
      | false =>
        have he0 : e = 0 := by simpa using hne
        have hok : OkBt (l.getD i b0) := by unfold OkBt; rw [hrs]; exact he he0
        by_cases hi0 : (i : Int) > 0
        · have hi1 : i - 1 < l.length := by omega
          have hw : IntKind.i64.wrap ((i : Int) - 1) = ((i - 1 : Nat) : Int) := by rw [w64 (by omega) (by omega)]; omega
          have b0' : ∀ x : Bat, (batC x)[0]? = some (.lit (.int .i64 x.base)) := fun _ => rfl
          have b1' : ∀ x : Bat, (batC x)[1]? = some (.lit (.int .i64 x.last)) := fun _ => rfl
          simp only [hi0, decide_true, hw, vIdx_bats l hi1, field_elt, load_elt1, Nat.zero_add, b0', b1', vIdx_bats l hlt]
          refine hK11 _ _ ⟨rfl, _, rfl, fun h => ⟨hok, fun _ => ?_⟩⟩
          simp only [decide_eq_false_iff_not] at h
          omega
        · simp only [hi0, decide_false]
          exact hK11 _ _ ⟨rfl, false, rfl, fun _ => ⟨hok, fun h => by omega⟩⟩
  · obtain rfl : i = l.length := by omega
    have hlt' : ¬ (l.length : Int) < (l.length : Int) := by omega
    have hch : Ch l := ch_of l g1 g2
    obtain ⟨hasc, hbd⟩ := ch_asc l hch
    simp only [hlt', decide_false]
    refine (restrict41 l 0 a _ (by omega) hbs).mono ?_
    rintro v u1 ⟨rfl, rfl⟩
    refine (restrict41 l a 4611686018427387905 _ (by omega) hbs).mono ?_
    rintro v u2 ⟨rfl, rfl⟩
    refine Join.of (fun xs u' => u' = u2 ∧ ∃ g : Bool, xs = [.lit (.bool g)]) ?_ ?_
    rotate_left
    · intro K35 hK35
      by_cases h1 : a < 0
      · simp only [h1, decide_true]; exact hK35 _ _ ⟨rfl, _, rfl⟩
      · simp only [h1, decide_false]; exact hK35 _ _ ⟨rfl, _, rfl⟩
    rintro xs u' ⟨rfl, g, rfl⟩
    simp only [List.headD_cons]
    cases g with
    | true => exact foldAwake _
    | false =>
    simp only []
    have hra := restF_len 0 a l
    have hrb := restF_len a 4611686018427387905 l
    have hrecs : recsOf (restF 0 a l ++ restF a 4611686018427387905 l) = recsOf l := by rw [recsOf_app, recs_rest, recs_rest, split_asc a _ hasc hbd]
    have hboth : ∀ b ∈ restF 0 a l ++ restF a 4611686018427387905 l, ∃ r, b.recs = some r ∧ r.length ≤ 100000 ∧ ∀ x ∈ r, ShortR x := fun b hb => by
      rcases List.mem_append.1 hb with hb | hb
      · exact restF_in _ _ hbs b hb
      · exact restF_in _ _ hbs b hb
    have hbl : (restF 0 a l ++ restF a 4611686018427387905 l).length ≤ 120 := by rw [List.length_append]; omega
    refine JoinU.of (fun xs u => u = u' ∧ xs = [batsV (some (restF 0 a l ++ restF a 4611686018427387905 l))]) ?_ ?_
    rotate_left
    · intro K hK
      refine hBS0 fun Y hY => ?_
      have lc : ∀ (o : Seg) s, lcells s 6 (batsV o) = some (batsC (o.getD [])) := fun o s => by rw [batsV_row]; exact lcells_rowV o s
      have ll : ∀ (o : Seg), llen (batsV o) = (o.getD []).length := fun o => by rw [batsV_row]; exact llen_rowV o
      refine app_empty (b := u') (le_set_new _ (le_refl' u') hY) hY (set_at _ _ _) (lc _ _) (by rw [ll, getD_orNil]) (by rw [getD_orNil, batsC_len]) ⟨by omega, by omega⟩ ?_
      intro A s3 h3 hl3
      refine acc0_appG h3 hl3 (fun s => lc _ s) (by rw [ll, getD_orNil]) (by rw [getD_orNil, batsC_len]) ⟨by omega, by omega⟩ ?_
      intro A' s4 h4 hl4
      refine hK _ _ _ _ (acc0_upL h4 hl4) ⟨rfl, ?_⟩
      rw [getD_orNil, getD_orNil, ← batsC_app, ← List.length_append]
      rfl
    rintro xs u ⟨rfl, rfl⟩
    generalize restF 0 a l ++ restF a 4611686018427387905 l = both at *
    simp only [List.headD_cons]
    refine (batches39 both _ (by omega) (by rw [hrecs]; omega) hboth).mono ?_
    rintro v t1 ⟨ks, k1, k2, k3, rfl, rfl⟩
    refine (batches39 l _ (by omega) (by omega) hbs).mono ?_
    rintro v t2 ⟨kt, j1, j2, j3, rfl, rfl⟩
    rw [hrecs] at k3 ⊢
    have hkl : (outP (lastG (recsOf l)).1 ks).length ≤ 1000000 := by
      have h2 : all2 (sameP true) (outP (lastG (recsOf l)).1 ks) (foldP (recsOf l)) = true := fold_same _ ks k1 k2 k3
      have h3 : (outP (lastG (recsOf l)).1 ks).length = (foldP (recsOf l)).length := by
        apply Classical.byContradiction
        intro h
        rw [all2_ne _ _ h] at h2
        cases h2
      rw [h3]
      have h4 : ∀ (xs : List Rec) (z : List Pr), (xs.foldl stepP z).length ≤ z.length + xs.length := by
        intro xs
        induction xs with
        | nil => intro z; exact Nat.le_refl _
        | cons r xs ih => intro z; have := ih (stepP z r); have := stepP_len z r; simp only [List.foldl_cons, List.length_cons]; omega
      have := h4 (recsOf l) []
      simp only [List.length_nil, Nat.zero_add] at this
      exact Nat.le_trans this (by omega)
    refine (same43 _ _ _ (by rw [getD_orNil]; exact hkl)).mono ?_
    rintro v t3 ⟨rfl, rfl⟩
    rw [getD_orNil, getD_orNil, outP_same _ ks kt k1 k2 k3 j1 j2 j3]
    simp only []
    have hflat : ∀ l, flatR l = recsOf l := fun _ => rfl
    refine (records (some both) (by rw [Option.getD_some]; omega) (by rw [Option.getD_some, hflat, hrecs]; omega)).mono ?_
    rintro v t4 ⟨rfl, rfl⟩
    simp only [Option.getD_some, hflat, hrecs, len_recsV, getD_orNil]
    refine (records (some l) (by rw [Option.getD_some]; omega) (by rw [Option.getD_some, hflat]; omega)).mono ?_
    rintro v t5 ⟨rfl, rfl⟩
    simp only [Option.getD_some, hflat, hrecs, len_recsV, getD_orNil, vCmp, vBin, if_true, beq_self_eq_true]
    exact foldAwake _
end Go.Proofs.Ytecnfekcflfihaa.CL
end
section
set_option linter.unusedVariables false
set_option linter.unusedSimpArgs false
namespace Go.Proofs.YtecnfekcflfihaaW.PrintWords
open Go.RowKit
/-- The world is the old one, some orders having been drawn. -/
structure Drawn0 (w w' : World) : Prop where mk :: (out : ∃ n, w' = w.drewN n)
theorem Drawn0.refl (w : World) : Drawn0 w w := ⟨⟨0, rfl⟩⟩
theorem Drawn0.step {w w' : World} (h : Drawn0 w w') (n : Nat) : Drawn0 w (w'.drewN n) := by
  obtain ⟨m, rfl⟩ := h
  exact ⟨⟨m + n, World.drewN_drewN ..⟩⟩
theorem Drawn0.grown {w w' : World} (h : Drawn0 w w') : Grown w w' := by
  obtain ⟨n, rfl⟩ := h
  induction n with
  | zero => exact Grown.refl _
  | succ n ih => rw [← World.drew_drewN]; exact Grown.drew ih
theorem Drawn0.below {w w' : World} (h : Drawn0 w w') : Below w.heap.size w w' := by
  obtain ⟨n, rfl⟩ := h
  induction n with
  | zero => exact Below.refl _ _
  | succ n ih => rw [← World.drew_drewN]; exact ih.drew
def rd (xs : List Int) (i : Int) : Int := xs.getD i.toNat 0
theorem below_alloc {w W : World} (h : Below w.heap.size w W) (o : Obj) : Below w.heap.size w (W.alloc o) := h.alloc h.size o
theorem grown_of_below {w w1 : World} (h : Below w.heap.size w w1) (row : Option Nat) : w.grownBy w1 row := ⟨h.os, h.tape, h.output, h.size, fun i hi _ => h.block i hi⟩
theorem pw_cell_below {w w1 : World} (h : Below w.heap.size w w1) {a : Addr} {v : Value} (hc : w.cell? a = some v) : w1.cell? a = some v := (h.cell (World.block_lt_of_cell? w a hc)).trans hc
def ReadsInt (w : World) (k : IntKind) (A : Option Addr) (n : Nat) (xs : List Int) : Prop :=
  xs.length = n ∧ n ≤ 9223372036854775807 ∧ (0 < n → ∃ ad, A = some ad ∧ ∀ j, j < n → w.cell? (ad.add j) = some (.int k (xs.getD j 0)))
theorem ReadsInt.below {w w1 : World} {k : IntKind} {A : Option Addr} {n : Nat} {xs : List Int} (h : ReadsInt w k A n xs) (hb : Below w.heap.size w w1) : ReadsInt w1 k A n xs :=
  ⟨h.1, h.2.1, fun hn => by
    obtain ⟨ad, e, hc⟩ := h.2.2 hn
    exact ⟨ad, e, fun j hj => pw_cell_below hb (hc j hj)⟩⟩
theorem own_nil (W : World) (base : Nat) (e : TypeId) (size : Nat) : W.ownsRow base e size (.slice none 0 0) 0 [] := ⟨by simp, .inl ⟨rfl, rfl⟩⟩
theorem own_base {w : World} {base : Nat} {e : TypeId} {size n : Nat} {v : Value} {xs : List Value} (h : w.ownsRow base e size v n xs) (k : Nat) (hk : v.ownBlock = some k) : base ≤ k := by
  rcases h.2 with ⟨rfl, _⟩ | ⟨g, cap, cur, rfl, hb, _⟩
  · simp [Value.ownBlock] at hk
  · have : g = k := by simpa [Value.ownBlock] using hk
    omega
theorem own_lt {w : World} {base : Nat} {e : TypeId} {size n : Nat} {v : Value} {xs : List Value} (h : w.ownsRow base e size v n xs) (k : Nat) (hk : v.ownBlock = some k) : k < w.heap.size := by
  rcases h.2 with ⟨rfl, _⟩ | ⟨g, cap, cur, rfl, hb, hh, _⟩
  · simp [Value.ownBlock] at hk
  · have : g = k := by simpa [Value.ownBlock] using hk
    subst this
    exact (Array.getElem?_eq_some_iff.1 hh).1
theorem pw_own_below {w w1 : World} {base : Nat} {e : TypeId} {size n : Nat} {v : Value} {xs : List Value} (h : w.ownsRow base e size v n xs) (hb : Below w.heap.size w w1) : w1.ownsRow base e size v n xs :=
  h.kept (grown_of_below hb none) (by cases v.ownBlock <;> simp)
/-- What is written is another row: this one lives on. -/
theorem own_other {w w1 : World} {base : Nat} {e : TypeId} {size n : Nat} {v : Value} {xs : List Value} (h : w.ownsRow base e size v n xs) {row : Option Nat} (hg : w.grownBy w1 row) (hne : v.ownBlock = none ∨ v.ownBlock ≠ row) : w1.ownsRow base e size v n xs := h.kept hg hne
section
variable {P : Program} {ops : Array Oper} {rest : List Oper} {o : Oper} {a : Act} {Q : Exit → Act → World → Prop}
end
section
variable {P : Program}
end
section
variable {P : Program} {ops : Array Oper} {rest : List Oper} {o : Oper} {a : Act} {Q : Exit → Act → World → Prop}
end
def bytesOf (s : ByteArray) : List Int := s.data.toList.map fun b => (b.toNat : Int)
/-- Where the first answers, the second answers the same. -/
def LeO {α : Type} (a b : Option α) : Prop := ∀ r, a = some r → b = some r
theorem LeO.refl {α : Type} (a : Option α) : LeO a a := fun _ h => h
theorem LeO.none {α : Type} (b : Option α) : LeO Option.none b := fun _ h => by cases h
theorem LeO.trans {α : Type} {a b c : Option α} (h : LeO a b) (k : LeO b c) : LeO a c := fun r hr => k r (h r hr)
theorem LeO.bind {α β : Type} {a a' : Option α} {f f' : α → Option β} (h : LeO a a') (k : ∀ x, LeO (f x) (f' x)) : LeO (a.bind f) (a'.bind f') := by
  intro r hr
  obtain ⟨x, hx, hf⟩ := Option.bind_eq_some_iff.1 hr
  exact Option.bind_eq_some_iff.2 ⟨x, h x hx, k x r hf⟩
theorem LeO.map {α β : Type} {a a' : Option α} (f : α → β) (h : LeO a a') : LeO (a.map f) (a'.map f) := by
  intro r hr
  obtain ⟨x, hx, hf⟩ := Option.map_eq_some_iff.1 hr
  exact Option.map_eq_some_iff.2 ⟨x, h x hx, hf⟩
theorem more_rounds {α : Type} {g : Nat → Option α} (h : ∀ k, LeO (g k) (g (k + 1))) (k : Nat) : ∀ j, LeO (g k) (g (k + j))
  | 0 => LeO.refl _
  | j + 1 => (more_rounds h k j).trans (h (k + j))
theorem at_rounds {α : Type} {g : Nat → Option α} (h : ∀ k, LeO (g k) (g (k + 1))) {k k' : Nat} (hk : k ≤ k') {r : α} (hr : g k = some r) : g k' = some r := by
  have := more_rounds h k (k' - k) r hr
  rwa [Nat.add_sub_cancel' hk] at this
def Reps {α : Type} (R : α → List Value → Prop) (size : Nat) (ps : List α) (cs : List Value) : Prop :=
  cs.length = ps.length * size ∧ ∀ j p, ps[j]? = some p → R p ((cs.drop (j * size)).take size)
theorem Reps.none {α : Type} (R : α → List Value → Prop) (size : Nat) : Reps R size [] [] := ⟨by simp, fun j p h => by simp at h⟩
theorem Reps.snoc {α : Type} {R : α → List Value → Prop} {size : Nat} {ps : List α} {cs c : List Value} {p : α} (h : Reps R size ps cs) (hp : R p c) (hc : c.length = size) : Reps R size (ps ++ [p]) (cs ++ c) := by
  refine ⟨by rw [List.length_append, h.1, hc, List.length_append, List.length_singleton, Nat.add_mul, Nat.one_mul], fun j q hq => ?_⟩
  rcases Nat.lt_or_ge j ps.length with hj | hj
  · rw [List.getElem?_append_left hj] at hq
    have h1 : j * size + size ≤ cs.length := by rw [h.1, ← Nat.succ_mul]; exact Nat.mul_le_mul_right _ hj
    have h2 := h.2 j q hq
    rw [List.drop_append_of_le_length (by omega), List.take_append_of_le_length (by rw [List.length_drop]; omega)]
    exact h2
  · have hj' : j = ps.length := by
      have := (List.getElem?_eq_some_iff.1 hq).1
      rw [List.length_append, List.length_singleton] at this
      omega
    subst hj'
    have hq' : p = q := by simpa using hq
    subst hq'
    rw [← h.1, List.drop_left, ← hc, List.take_length]
    exact hp
theorem Reps.imp_ {α : Type} {R R' : α → List Value → Prop} {size : Nat} {ps : List α} {cs : List Value} (h : Reps R size ps cs) (hR : ∀ p c, R p c → R' p c) : Reps R' size ps cs := ⟨h.1, fun j p hj => hR _ _ (h.2 j p hj)⟩
def ReadsRow {α : Type} (R : α → List Value → Prop) (size : Nat) (w : World) (A : Option Addr) (n : Nat) (ps : List α) : Prop :=
  ps.length = n ∧ n ≤ 9223372036854775807 ∧ (0 < n → ∃ ad, A = some ad ∧ ∀ j p, ps[j]? = some p → ∃ c, c.length = size ∧ R p c ∧ ∀ i u, c[i]? = some u → w.cell? (ad.add (j * size + i)) = some u)
theorem ReadsRow.imp_ {α : Type} {R R' : α → List Value → Prop} {size : Nat} {w w1 : World} {A : Option Addr} {n : Nat} {ps : List α} (h : ReadsRow R size w A n ps) (hb : Below w.heap.size w w1) (hR : ∀ p c, R p c → R' p c) : ReadsRow R' size w1 A n ps :=
  ⟨h.1, h.2.1, fun hn => by
    obtain ⟨ad, e, hc⟩ := h.2.2 hn
    refine ⟨ad, e, fun j p hj => ?_⟩
    obtain ⟨c, hs, hr, hcell⟩ := hc j p hj
    exact ⟨c, hs, hR _ _ hr, fun i u hu => pw_cell_below hb (hcell i u hu)⟩⟩
theorem own_reads_row {α : Type} {R : α → List Value → Prop} {w : World} {base n size : Nat} {e : TypeId} {v : Value} {ps : List α} {cs : List Value} (h : w.ownsRow base e size v n cs) (hR : Reps R size ps cs) (hn : ps.length = n) :
    ∃ A c, v = .slice A n c ∧ ReadsRow R size w A n ps := by
  rcases Nat.eq_zero_or_pos n with h0 | h0
  · rcases h.2 with ⟨rfl, rfl⟩ | ⟨g, cap, cur, rfl, _⟩
    · exact ⟨none, 0, rfl, hn, by omega, fun hp => absurd hp (by omega)⟩
    · exact ⟨_, cap, rfl, hn, by omega, fun hp => absurd hp (by omega)⟩
  · obtain ⟨g, cap, rfl, _, _⟩ := h.form h0
    have hm : n ≤ 9223372036854775807 := by
      rcases h.2 with ⟨_, h1⟩ | ⟨g', cap', cur, he, _, _, h1, h2, _⟩
      · omega
      · simp only [maxLen] at h2
        omega
    refine ⟨_, cap, rfl, hn, hm, fun _ => ⟨_, rfl, fun j p hj => ⟨(cs.drop (j * size)).take size, ?_, hR.2 j p hj, fun i u hu => ?_⟩⟩⟩
    · have hjl := (List.getElem?_eq_some_iff.1 hj).1
      have h1 : j * size + size ≤ cs.length := by rw [hR.1, ← Nat.succ_mul]; exact Nat.mul_le_mul_right _ hjl
      rw [List.length_take, List.length_drop]
      omega
    · refine h.cells (g := g) rfl _ u ?_
      rw [List.getElem?_take] at hu
      split at hu
      · rw [List.getElem?_drop] at hu
        exact hu
      · cases hu
section
variable {P : Program} {ops : Array Oper} {rest : List Oper} {o : Oper} {a : Act} {Q : Exit → Act → World → Prop}
/-- append(v, x), x of several cells; behind 'at_builtin'; the goal's world is 'W.alloc' of the variadic's box. -/
theorem print_append_cells {w0 W : World} (base : Nat) (hgd : o.guard = none) (s x : Operand) (t e : TypeId) (z : Value) (size bytes : Nat)
    (ho : o.op = .call { callee := .builtin .append, args := #[s, x], argTypes := #[t, t] })
    (ht : P.underlying t = some (.slice e)) (hinfo : (P.info? e).map (fun i => (i.zero, i.size, i.bytes)) = some (some z, size, bytes)) (hz : z.cells.size = size) (hs0 : 0 < size) (hb0 : 0 < bytes)
    (v : Value) (n : Nat) (xs ys : List Value) (hs : a.eval s = v) (hx : a.eval x = .slice (some ⟨W.heap.size, 0, none⟩) 1 1) (hys : ys.length = size) (h1 : ∀ u ∈ ys, u.oneCell' = true)
    (HO : W.ownsRow base e size v n xs) (HB : Below base w0 W) (hbase : base ≤ W.heap.size) (hl : (n + 1) * bytes ≤ 140737488355328)
    (h : ∀ v1 w1, w1.ownsRow base e size v1 (n + 1) (xs ++ ys) → Below base w0 w1 → W.grownBy w1 v.ownBlock → (v1.ownBlock = v.ownBlock ∨ ∃ b, v1.ownBlock = some b ∧ W.heap.size ≤ b) → wpList P ops Q rest (a.put o.dst v1) w1) :
    wpList P ops Q (o :: rest) a (W.alloc (.cells ys.toArray e)) := by
  obtain ⟨i0, hi, hzz⟩ := Option.map_eq_some_iff.1 hinfo
  simp only [Prod.mk.injEq] at hzz
  obtain ⟨hz0, hz1, hz2⟩ := hzz
  have hlen : n + 1 ≤ 140737488355328 := Nat.le_trans (Nat.le_mul_of_pos_right _ hb0) hl
  refine wpList_append_own_at (W.alloc (.cells ys.toArray e)) hgd s x t ho base e i0 z size bytes ht hi hz0 hz1 hz2 hz hs0 v n xs hs (HO.alloc _) ⟨W.heap.size, 0, none⟩ 1 1 ys hx (by rw [hys]; simp)
    (by simpa using World.news_of_block (cs := ys.toArray) (t := e) (fr := (0, 0)) (heap_alloc_new W (.cells ys.toArray e))) h1 (by simp only [maxLen]; omega) hl (by simp; omega) ?_
  intro v1 w1 hown hg _ hat
  refine h v1 w1 hown ((HB.alloc hbase _).grown hg (by simp; omega) (own_base HO)) (World.grownBy.trans (World.grownBy_alloc W _ _) hg) ?_
  rcases hat with hat | hat
  · exact .inl hat
  · exact .inr ⟨_, hat, by simp⟩
end
theorem own_ne {w : World} {base : Nat} {e t : TypeId} {size n g : Nat} {v : Value} {xs : List Value} {cs : Array Value} (h : w.ownsRow base e size v n xs) (hg : w.heap[g]? = some (.cells cs t (0, 0))) (hne : e ≠ t) : some g ≠ v.ownBlock := by
  rcases h.2 with ⟨rfl, _⟩ | ⟨g', cap, cur, rfl, _, hh, _⟩
  · simp [Value.ownBlock]
  · intro he
    have : g = g' := by simpa [Value.ownBlock] using he
    subst this
    rw [hg] at hh
    injection hh with hh
    injection hh with _ ht
    exact hne ht.symm
theorem blk_lt {w : World} {g : Nat} {o : Obj} (h : w.heap[g]? = some o) : g < w.heap.size := (Array.getElem?_eq_some_iff.1 h).1
def KeepBut (w w' : World) (g : Nat) (row : Option Nat) : Prop := w.heap.size ≤ w'.heap.size ∧ ∀ i, i < w.heap.size → i ≠ g → some i ≠ row → w'.heap[i]? = w.heap[i]?
theorem KeepBut.refl (w : World) (g : Nat) (row : Option Nat) : KeepBut w w g row := ⟨Nat.le_refl _, fun _ _ _ _ => rfl⟩
theorem KeepBut.of_below {w w1 : World} (h : Below w.heap.size w w1) (g : Nat) (row : Option Nat) : KeepBut w w1 g row := ⟨h.size, fun i hi _ _ => h.block i hi⟩
theorem KeepBut.trans {w w1 w2 : World} {g : Nat} {row row1 : Option Nat} (h : KeepBut w w1 g row) (k : KeepBut w1 w2 g row1) (hr : row1 = row ∨ ∃ b, row1 = some b ∧ w.heap.size ≤ b) : KeepBut w w2 g row :=
  ⟨Nat.le_trans h.1 k.1, fun i hi hg hn => by
    refine (k.2 i (Nat.lt_of_lt_of_le hi h.1) hg ?_).trans (h.2 i hi hg hn)
    rcases hr with rfl | ⟨b, rfl, hb⟩
    · exact hn
    · intro e
      injection e with e
      omega⟩
/-- Another block, another row: they live on. -/
theorem KeepBut.blk {w w1 : World} {g g' : Nat} {row : Option Nat} {o : Obj} (h : KeepBut w w1 g row) (hb : w.heap[g']? = some o) (hg : g' ≠ g) (hr : some g' ≠ row) : w1.heap[g']? = some o := (h.2 g' (blk_lt hb) hg hr).trans hb
theorem KeepBut.own {w w1 : World} {g : Nat} {row : Option Nat} {base : Nat} {e : TypeId} {size n : Nat} {v : Value} {xs : List Value} (h : KeepBut w w1 g row) (ho : w.ownsRow base e size v n xs) (hg : v.ownBlock ≠ some g) (hr : v.ownBlock = none ∨ v.ownBlock ≠ row) : w1.ownsRow base e size v n xs := by
  obtain ⟨h1, h2⟩ := ho
  refine ⟨h1, ?_⟩
  rcases h2 with h2 | ⟨b, cap, cur, rfl, hb, hh, r⟩
  · exact .inl h2
  · refine .inr ⟨b, cap, cur, rfl, hb, h.blk hh ?_ ?_, r⟩
    · intro e
      exact hg (by rw [← e]; rfl)
    · rcases hr with hr | hr
      · simp [Value.ownBlock] at hr
      · exact hr
def Ev {α : Type} (g : Nat → Option α) (r : α) : Prop := ∃ K, ∀ k, K ≤ k → g k = some r
theorem Ev.of {α : Type} {g : Nat → Option α} {r : α} (hg : ∀ k, LeO (g k) (g (k + 1))) {k : Nat} (h : g k = some r) : Ev g r := ⟨k, fun _ hk => at_rounds hg hk h⟩
theorem Ev.now {α : Type} (r : α) : Ev (fun _ => some r) r := ⟨0, fun _ _ => rfl⟩
theorem Ev.bind {α β : Type} {g : Nat → Option α} {f : Nat → α → Option β} {a : α} {r : β} (h : Ev g a) (k : Ev (fun n => f n a) r) : Ev (fun n => (g n).bind (f n)) r := by
  obtain ⟨K, h⟩ := h
  obtain ⟨K', k⟩ := k
  refine ⟨max K K', fun n hn => ?_⟩
  have h1 := h n (by omega)
  have h2 := k n (by omega)
  simp only [h1, Option.bind_some]
  exact h2
/-- One round of a loop. -/
theorem Ev.step {α : Type} {g f : Nat → Option α} {r : α} (h : ∀ k, g (k + 1) = f k) (k : Ev f r) : Ev g r := by
  obtain ⟨K, k⟩ := k
  refine ⟨K + 1, fun n hn => ?_⟩
  obtain ⟨m, rfl⟩ : ∃ m, n = m + 1 := ⟨n - 1, by omega⟩
  rw [h]
  exact k m (by omega)
theorem Ev.congr {α : Type} {g f : Nat → Option α} {r : α} (h : ∀ k, g k = f k) (k : Ev f r) : Ev g r := by
  obtain ⟨K, k⟩ := k
  exact ⟨K, fun n hn => (h n).trans (k n hn)⟩
section
variable {P : Program} {ops : Array Oper} {o : Oper} {a : Act} {Q : Exit → Act → World → Prop} {K : Act → World → Prop}
end
theorem own_weaken {w : World} {base base' : Nat} {e : TypeId} {size n : Nat} {v : Value} {xs : List Value} (h : w.ownsRow base e size v n xs) (hb : base' ≤ base) : w.ownsRow base' e size v n xs := by
  obtain ⟨h1, h2⟩ := h
  refine ⟨h1, ?_⟩
  rcases h2 with h2 | ⟨g, cap, cur, rfl, hg, r⟩
  · exact .inl h2
  · exact .inr ⟨g, cap, cur, rfl, Nat.le_trans hb hg, r⟩
section
variable {α : Type} {enc : α → Value} {d : α}
def ReadsOf (enc : α → Value) (d : α) (w : World) (A : Option Addr) (n : Nat) (xs : List α) : Prop :=
  xs.length = n ∧ n ≤ 9223372036854775807 ∧ (0 < n → ∃ ad, A = some ad ∧ ∀ j, j < n → w.cell? (ad.add j) = some (enc (xs.getD j d)))
theorem ReadsOf.below {w w1 : World} {A : Option Addr} {n : Nat} {xs : List α} (h : ReadsOf enc d w A n xs) (hb : Below w.heap.size w w1) : ReadsOf enc d w1 A n xs :=
  ⟨h.1, h.2.1, fun hn => by
    obtain ⟨ad, e, hc⟩ := h.2.2 hn
    exact ⟨ad, e, fun j hj => pw_cell_below hb (hc j hj)⟩⟩
end
section
variable {α : Type} {P : Program} {ops : Array Oper} {rest : List Oper} {o : Oper} {a : Act} {Q : Exit → Act → World → Prop}
end
section
variable {P : Program}
end
theorem own_le {w : World} {base n m c size : Nat} {e : TypeId} {A : Option Addr} {xs : List Value} (h : w.ownsRow base e size (.slice A m c) n xs) : m ≤ c := by
  rcases h.2 with ⟨he, _⟩ | ⟨g, cap, cur, he, _, _, hnc, _⟩
  · injection he with _ h2 h3
    omega
  · injection he with _ h2 h3
    omega
def OwnRow {α : Type} (R : α → List Value → Prop) (e : TypeId) (size : Nat) (w : World) (base : Nat) (v : Value) (ps : List α) : Prop :=
  ∃ inner, w.ownsRow base e size v ps.length inner ∧ Reps R size ps inner
section
variable {α : Type} {R R' : α → List Value → Prop} {e : TypeId} {size : Nat} {w w1 : World} {base : Nat} {v : Value} {ps : List α}
theorem OwnRow.none_ (R : α → List Value → Prop) (e : TypeId) (size : Nat) (w : World) (base : Nat) : OwnRow R e size w base (.slice none 0 0) [] := ⟨[], own_nil _ _ _ _, Reps.none _ _⟩
theorem OwnRow.imp_ (h : OwnRow R e size w base v ps) (hR : ∀ p c, R p c → R' p c) : OwnRow R' e size w base v ps := by
  obtain ⟨inner, ho, hr⟩ := h
  exact ⟨inner, ho, hr.imp_ hR⟩
theorem OwnRow.below (h : OwnRow R e size w base v ps) (hb : Below w.heap.size w w1) : OwnRow R e size w1 base v ps := by
  obtain ⟨inner, ho, hr⟩ := h
  exact ⟨inner, pw_own_below ho hb, hr⟩
theorem OwnRow.other (h : OwnRow R e size w base v ps) {row : Option Nat} (hg : w.grownBy w1 row) (hne : v.ownBlock = none ∨ v.ownBlock ≠ row) : OwnRow R e size w1 base v ps := by
  obtain ⟨inner, ho, hr⟩ := h
  exact ⟨inner, own_other ho hg hne, hr⟩
theorem OwnRow.keep (h : OwnRow R e size w base v ps) {g : Nat} {t : TypeId} {cells : Array Value} (hb : w.heap[g]? = some (.cells cells t (0, 0))) (ht : e ≠ t) (hk : KeepBut w w1 g none) : OwnRow R e size w1 base v ps := by
  obtain ⟨inner, ho, hr⟩ := h
  exact ⟨inner, hk.own ho (Ne.symm (own_ne ho hb ht)) (by cases v.ownBlock <;> simp), hr⟩
theorem OwnRow.reads (h : OwnRow R e size w base v ps) : ∃ A c, v = .slice A ps.length c ∧ ps.length ≤ c ∧ ReadsRow R size w A ps.length ps := by
  obtain ⟨inner, ho, hr⟩ := h
  obtain ⟨A, c, rfl, hrow⟩ := own_reads_row ho hr rfl
  exact ⟨A, c, rfl, own_le ho, hrow⟩
/-- A literal: the elements' cells one behind the other. -/
theorem OwnRow.lit (W : World) (base : Nat) {inner : List Value} (hr : Reps R size ps inner) (hb : base ≤ W.heap.size) (hm : ps.length ≤ 9223372036854775807) :
    OwnRow R e size (W.alloc (.cells inner.toArray e)) base (.slice (some ⟨W.heap.size, 0, none⟩) ps.length ps.length) ps := by
  have h := World.ownsRow_lit (base := base) (e := e) (size := size) W inner.toArray ps.length hb (by simpa [maxLen] using hm) (by simpa using hr.1)
  exact ⟨inner, by simpa using h, hr⟩
end
section
variable {P : Program} {ops : Array Oper} {rest : List Oper} {o : Oper} {a : Act} {Q : Exit → Act → World → Prop} {α : Type} {R : α → List Value → Prop}
/-- append(v, x): x's cells are cs. R is that of the world AHEAD; move it over hg ('OwnRow.imp_'). -/
theorem OwnRow.append {w0 W : World} (base : Nat) (hgd : o.guard = none) (s x : Operand) (t e : TypeId) (z : Value) (size bytes : Nat)
    (ho : o.op = .call { callee := .builtin .append, args := #[s, x], argTypes := #[t, t] })
    (ht : P.underlying t = some (.slice e)) (hinfo : (P.info? e).map (fun i => (i.zero, i.size, i.bytes)) = some (some z, size, bytes)) (hz : z.cells.size = size) (hs0 : 0 < size) (hb0 : 0 < bytes)
    (v : Value) (ps : List α) (p : α) (cs : List Value) (hs : a.eval s = v) (hx : a.eval x = .slice (some ⟨W.heap.size, 0, none⟩) 1 1) (hp : R p cs) (hcs : cs.length = size) (h1 : ∀ u ∈ cs, u.oneCell' = true)
    (HO : OwnRow R e size W base v ps) (HB : Below base w0 W) (hbase : base ≤ W.heap.size) (hl : (ps.length + 1) * bytes ≤ 140737488355328)
    (h : ∀ v1 w1, OwnRow R e size w1 base v1 (ps ++ [p]) → Below base w0 w1 → W.grownBy w1 v.ownBlock → (v1.ownBlock = v.ownBlock ∨ ∃ b, v1.ownBlock = some b ∧ W.heap.size ≤ b) → wpList P ops Q rest (a.put o.dst v1) w1) :
    wpList P ops Q (o :: rest) a (W.alloc (.cells cs.toArray e)) := by
  obtain ⟨inner, hown, hr⟩ := HO
  refine print_append_cells base hgd s x t e z size bytes ho ht hinfo hz hs0 hb0 v ps.length inner cs hs hx hcs h1 hown HB hbase hl ?_
  intro v1 w1 hown1 hb1 hg1 hat1
  exact h v1 w1 ⟨inner ++ cs, by rw [List.length_append, List.length_singleton]; exact hown1, hr.snoc hp hcs⟩ hb1 hg1 hat1
end
section
variable {P : Program} {ops : Array Oper} {o : Oper} {a : Act} {Q : Exit → Act → World → Prop} {K : Act → World → Prop} {α : Type} {R : α → List Value → Prop}
end
section
variable {α : Type} {P : Program}
theorem ReadsOf.len_ {enc : α → Value} {d : α} {w : World} {A : Option Addr} {n : Nat} {xs : List α} (h : ReadsOf enc d w A n xs) : ReadsOf enc d w A xs.length xs := by rw [h.1]; exact h
end
section
variable {P : Program} {ops : Array Oper} {rest : List Oper} {o : Oper} {a : Act} {Q : Exit → Act → World → Prop}
end
/-- ok: which blocks the rows inside may be ('not the row that is being written'). -/
structure Kd (α : Type) where
  sz : Nat
  E : List Nat
  K : World → α → List Value → Prop
  M : World → Nat → (Nat → Prop) → α → List Value → Prop
  K_len : ∀ {w x cs}, K w x cs → cs.length = sz
  K_one : ∀ {w x cs}, K w x cs → ∀ u ∈ cs, u.oneCell' = true
  K_below : ∀ {w w1 : World} {x cs}, Below w.heap.size w w1 → K w x cs → K w1 x cs
  K_of_M : ∀ {w base ok x cs}, M w base ok x cs → K w x cs
  M_mono : ∀ {w base ok ok' x cs}, (∀ k, ok k → ok' k) → M w base ok x cs → M w base ok' x cs
  M_bound : ∀ {w : World} {base ok x cs}, M w base ok x cs → M w base (fun k => ok k ∧ base ≤ k ∧ k < w.heap.size ∧ ∃ q, q ∈ E ∧ ∃ cells, w.heap[k]? = some (.cells cells q (0, 0))) x cs
  M_move : ∀ {w w1 : World} {base ok x cs}, (∀ k, ok k → w1.heap[k]? = w.heap[k]?) → M w base ok x cs → M w1 base ok x cs
  M_lower : ∀ {w base base' ok x cs}, base' ≤ base → M w base ok x cs → M w base' ok x cs
theorem own_move {w w1 : World} {base : Nat} {e : TypeId} {size n : Nat} {v : Value} {xs : List Value} (h : w.ownsRow base e size v n xs) (hm : ∀ k, v.ownBlock = some k → w1.heap[k]? = w.heap[k]?) : w1.ownsRow base e size v n xs := by
  obtain ⟨h1, h2⟩ := h
  refine ⟨h1, ?_⟩
  rcases h2 with h2 | ⟨g, cap, cur, rfl, hg, hh, r⟩
  · exact .inl h2
  · exact .inr ⟨g, cap, cur, rfl, hg, (hm g (by simp [Value.ownBlock])).trans hh, r⟩
theorem own_typed {w : World} {base : Nat} {e : TypeId} {size n : Nat} {v : Value} {xs : List Value} (h : w.ownsRow base e size v n xs) (k : Nat) (hk : v.ownBlock = some k) : ∃ cells, w.heap[k]? = some (.cells cells e (0, 0)) := by
  rcases h.2 with ⟨rfl, _⟩ | ⟨g, cap, cur, rfl, hg, hh, r⟩
  · simp [Value.ownBlock] at hk
  · have : g = k := by simpa [Value.ownBlock] using hk
    subst this
    exact ⟨cur, hh⟩
namespace Kd
/-- A row of elements that is read. -/
def C {α : Type} (d : Kd α) (w : World) (A : Option Addr) (n : Nat) (xs : List α) : Prop := ReadsRow (d.K w) d.sz w A n xs
/-- A row of elements (type e) of the call's own; the elements' rows are not this one. -/
def R {α : Type} (d : Kd α) (e : Nat) (w : World) (base : Nat) (ok : Nat → Prop) (v : Value) (xs : List α) : Prop :=
  (∀ k, v.ownBlock = some k → ok k) ∧ OwnRow (d.M w base (fun k => ok k ∧ some k ≠ v.ownBlock)) e d.sz w base v xs
section
variable {α : Type} {d : Kd α} {e : Nat} {w w1 : World} {base : Nat} {ok ok' : Nat → Prop} {v : Value} {xs : List α}
theorem C_below {A : Option Addr} {n : Nat} (h : d.C w A n xs) (hb : Below w.heap.size w w1) : d.C w1 A n xs := ReadsRow.imp_ h hb (fun _ _ hp => d.K_below hb hp)
theorem R_mono (h : d.R e w base ok v xs) (hok : ∀ k, ok k → ok' k) : d.R e w base ok' v xs := ⟨fun k hk => hok k (h.1 k hk), h.2.imp_ (fun _ _ hp => d.M_mono (fun k hk => ⟨hok k hk.1, hk.2⟩) hp)⟩
theorem R_bound (h : d.R e w base ok v xs) : d.R e w base (fun k => ok k ∧ base ≤ k ∧ k < w.heap.size ∧ ∃ q, q ∈ e :: d.E ∧ ∃ cells, w.heap[k]? = some (.cells cells q (0, 0))) v xs := by
  obtain ⟨h0, inner, ho, hr⟩ := h
  refine ⟨fun k hk => ?_, inner, ho, hr.imp_ (fun _ _ hp => d.M_mono (fun k hk => ?_) (d.M_bound hp))⟩
  · obtain ⟨cells, hc⟩ := own_typed ho k hk
    exact ⟨h0 k hk, own_base ho k hk, own_lt ho k hk, e, List.mem_cons_self, cells, hc⟩
  · obtain ⟨⟨h1, h2⟩, h3, h4, q, hq, hc⟩ := hk
    exact ⟨⟨h1, h3, h4, q, List.mem_cons_of_mem _ hq, hc⟩, h2⟩
theorem R_move (h : d.R e w base ok v xs) (hm : ∀ k, ok k → w1.heap[k]? = w.heap[k]?) : d.R e w1 base ok v xs := by
  obtain ⟨h0, inner, ho, hr⟩ := h
  exact ⟨h0, inner, own_move ho (fun k hk => hm k (h0 k hk)), hr.imp_ (fun _ _ hp => d.M_move (fun k hk => hm k hk.1) hp)⟩
theorem R_lower {base' : Nat} (h : d.R e w base ok v xs) (hb : base' ≤ base) : d.R e w base' ok v xs := by
  obtain ⟨h0, inner, ho, hr⟩ := h
  exact ⟨h0, inner, own_weaken ho hb, hr.imp_ (fun _ _ hp => d.M_lower hb hp)⟩
theorem R_reads (h : d.R e w base ok v xs) : ∃ A c, v = .slice A xs.length c ∧ xs.length ≤ c ∧ d.C w A xs.length xs := by
  obtain ⟨A, c, he, hl, hr⟩ := OwnRow.reads h.2
  exact ⟨A, c, he, hl, hr.imp_ (Below.refl _ _) (fun _ _ hp => d.K_of_M hp)⟩
end
def scalar {α : Type} (enc : α → Value) (h1 : ∀ x, (enc x).oneCell' = true) : Kd α where
  sz := 1
  E := []
  K := fun _ x cs => cs = [enc x]
  M := fun _ _ _ x cs => cs = [enc x]
  K_len := fun h => by rw [h]; rfl
  K_one := fun h u hu => by
    rw [h] at hu
    rw [List.mem_singleton.1 hu]
    exact h1 _
  K_below := fun _ h => h
  K_of_M := fun h => h
  M_mono := fun _ h => h
  M_bound := fun h => h
  M_move := fun _ h => h
  M_lower := fun _ h => h
def int (k : IntKind) : Kd Int := scalar (Value.int k) (fun _ => rfl)
def bool : Kd Bool := scalar Value.bool (fun _ => rfl)
def string : Kd ByteArray := scalar Value.string (fun _ => rfl)
def slice {α : Type} (e : Nat) (d : Kd α) : Kd (List α) where
  sz := 1
  E := e :: d.E
  K := fun w xs cs => ∃ A c, cs = [.slice A xs.length c] ∧ xs.length ≤ c ∧ d.C w A xs.length xs
  M := fun w base ok xs cs => ∃ v, cs = [v] ∧ d.R e w base ok v xs
  K_len := by
    rintro w x cs ⟨A, c, rfl, _⟩
    rfl
  K_one := by
    rintro w x cs ⟨A, c, rfl, _⟩ u hu
    rw [List.mem_singleton.1 hu]
    rfl
  K_below := by
    rintro w w1 x cs hb ⟨A, c, rfl, hl, hr⟩
    exact ⟨A, c, rfl, hl, C_below hr hb⟩
  K_of_M := by
    rintro w base ok x cs ⟨v, rfl, h⟩
    obtain ⟨A, c, rfl, hl, hr⟩ := R_reads h
    exact ⟨A, c, rfl, hl, hr⟩
  M_mono := by
    rintro w base ok ok' x cs hok ⟨v, rfl, h⟩
    exact ⟨v, rfl, R_mono h hok⟩
  M_bound := by
    rintro w base ok x cs ⟨v, rfl, h⟩
    exact ⟨v, rfl, R_bound h⟩
  M_move := by
    rintro w w1 base ok x cs hm ⟨v, rfl, h⟩
    exact ⟨v, rfl, R_move h hm⟩
  M_lower := by
    rintro w base base' ok x cs hb ⟨v, rfl, h⟩
    exact ⟨v, rfl, R_lower h hb⟩
/-- Two in line. -/
def pair {α β : Type} (a : Kd α) (b : Kd β) : Kd (α × β) where
  sz := a.sz + b.sz
  E := a.E ++ b.E
  K := fun w x cs => ∃ c0 c1, cs = c0 ++ c1 ∧ a.K w x.1 c0 ∧ b.K w x.2 c1
  M := fun w base ok x cs => ∃ c0 c1, cs = c0 ++ c1 ∧ a.M w base ok x.1 c0 ∧ b.M w base ok x.2 c1
  K_len := by
    rintro w x cs ⟨c0, c1, rfl, h0, h1⟩
    rw [List.length_append, a.K_len h0, b.K_len h1]
  K_one := by
    rintro w x cs ⟨c0, c1, rfl, h0, h1⟩ u hu
    rcases List.mem_append.1 hu with hu | hu
    · exact a.K_one h0 u hu
    · exact b.K_one h1 u hu
  K_below := by
    rintro w w1 x cs hb ⟨c0, c1, rfl, h0, h1⟩
    exact ⟨c0, c1, rfl, a.K_below hb h0, b.K_below hb h1⟩
  K_of_M := by
    rintro w base ok x cs ⟨c0, c1, rfl, h0, h1⟩
    exact ⟨c0, c1, rfl, a.K_of_M h0, b.K_of_M h1⟩
  M_mono := by
    rintro w base ok ok' x cs hok ⟨c0, c1, rfl, h0, h1⟩
    exact ⟨c0, c1, rfl, a.M_mono hok h0, b.M_mono hok h1⟩
  M_bound := by
    rintro w base ok x cs ⟨c0, c1, rfl, h0, h1⟩
    refine ⟨c0, c1, rfl, a.M_mono ?_ (a.M_bound h0), b.M_mono ?_ (b.M_bound h1)⟩
    · rintro k ⟨h2, h3, h4, q, hq, hc⟩
      exact ⟨h2, h3, h4, q, List.mem_append_left _ hq, hc⟩
    · rintro k ⟨h2, h3, h4, q, hq, hc⟩
      exact ⟨h2, h3, h4, q, List.mem_append_right _ hq, hc⟩
  M_move := by
    rintro w w1 base ok x cs hm ⟨c0, c1, rfl, h0, h1⟩
    exact ⟨c0, c1, rfl, a.M_move hm h0, b.M_move hm h1⟩
  M_lower := by
    rintro w base base' ok x cs hb ⟨c0, c1, rfl, h0, h1⟩
    exact ⟨c0, c1, rfl, a.M_lower hb h0, b.M_lower hb h1⟩
/-- A Lean structure by its fields. -/
def iso {α β : Type} (d : Kd α) (f : β → α) : Kd β where
  sz := d.sz
  E := d.E
  K := fun w x cs => d.K w (f x) cs
  M := fun w base ok x cs => d.M w base ok (f x) cs
  K_len := d.K_len
  K_one := d.K_one
  K_below := d.K_below
  K_of_M := d.K_of_M
  M_mono := d.M_mono
  M_bound := d.M_bound
  M_move := d.M_move
  M_lower := d.M_lower
/-- Nothing is of this kind: where the nesting's depth is used up. -/
def bot {α : Type} (sz : Nat) (E : List Nat) : Kd α where
  sz := sz
  E := E
  K := fun _ _ _ => False
  M := fun _ _ _ _ _ => False
  K_len := fun h => h.elim
  K_one := fun h => h.elim
  K_below := fun _ h => h
  K_of_M := fun h => h
  M_mono := fun _ h => h
  M_bound := fun h => h
  M_move := fun _ h => h
  M_lower := fun _ h => h
/-- A type nested in itself: nested at most n deep .. -/
def upto {α : Type} (F : Kd α → Kd α) (sz : Nat) (E : List Nat) : Nat → Kd α
  | 0 => bot sz E
  | n + 1 => F (upto F sz E n)
/-- .. for some n. -/
def fix {α : Type} (F : Kd α → Kd α) (sz : Nat) (E : List Nat) (hs : ∀ n, (upto F sz E n).sz = sz) (hE : ∀ n q, q ∈ (upto F sz E n).E → q ∈ E) : Kd α where
  sz := sz
  E := E
  K := fun w x cs => ∃ n, (upto F sz E n).K w x cs
  M := fun w base ok x cs => ∃ n, (upto F sz E n).M w base ok x cs
  K_len := by
    rintro w x cs ⟨n, h⟩
    rw [(upto F sz E n).K_len h, hs n]
  K_one := by
    rintro w x cs ⟨n, h⟩
    exact (upto F sz E n).K_one h
  K_below := by
    rintro w w1 x cs hb ⟨n, h⟩
    exact ⟨n, (upto F sz E n).K_below hb h⟩
  K_of_M := by
    rintro w base ok x cs ⟨n, h⟩
    exact ⟨n, (upto F sz E n).K_of_M h⟩
  M_mono := by
    rintro w base ok ok' x cs hok ⟨n, h⟩
    exact ⟨n, (upto F sz E n).M_mono hok h⟩
  M_bound := by
    rintro w base ok x cs ⟨n, h⟩
    refine ⟨n, (upto F sz E n).M_mono ?_ ((upto F sz E n).M_bound h)⟩
    rintro k ⟨h2, h3, h4, q, hq, hc⟩
    exact ⟨h2, h3, h4, q, hE n q hq, hc⟩
  M_move := by
    rintro w w1 base ok x cs hm ⟨n, h⟩
    exact ⟨n, (upto F sz E n).M_move hm h⟩
  M_lower := by
    rintro w base base' ok x cs hb ⟨n, h⟩
    exact ⟨n, (upto F sz E n).M_lower hb h⟩
section
variable {P : Program} {ops : Array Oper} {rest : List Oper} {o : Oper} {a : Act} {Q : Exit → Act → World → Prop} {α : Type}
end
section
variable {P : Program} {ops : Array Oper} {o : Oper} {a : Act} {Q : Exit → Act → World → Prop} {Kc : Act → World → Prop} {α : Type}
end
end Kd
namespace Kd
/-- F says the more, the more its argument says. -/
structure Mono {α β : Type} (F : Kd α → Kd β) : Prop where
  sz : ∀ d d' : Kd α, d.sz = d'.sz → (F d).sz = (F d').sz
  K : ∀ d d' : Kd α, d.sz = d'.sz → (∀ w x cs, d.K w x cs → d'.K w x cs) → ∀ w x cs, (F d).K w x cs → (F d').K w x cs
  M : ∀ d d' : Kd α, d.sz = d'.sz → (∀ w base ok x cs, d.M w base ok x cs → d'.M w base ok x cs) → ∀ w base ok x cs, (F d).M w base ok x cs → (F d').M w base ok x cs
section
variable {α : Type} {F : Kd α → Kd α} {sz : Nat} {E : List Nat} {hs : ∀ n, (upto F sz E n).sz = sz} {hE : ∀ n q, q ∈ (upto F sz E n).E → q ∈ E}
end
end Kd
namespace Kd
end Kd
namespace Kd
section
variable {α β : Type} {d : Kd α} {d' : Kd β} {e e' : Nat} {w w1 W : World} {base b b' : Nat} {ok ok' okv oku : Nat → Prop} {v u : Value} {xs : List α} {ys : List β}
theorem C_nil (d : Kd α) (w : World) : d.C w none ([] : List α).length [] := ⟨rfl, by simp, fun h => absurd h (Nat.lt_irrefl 0)⟩
end
section
variable {w W : World} {A : Option Addr} {n : Nat}
variable {α : Type} {enc : α → Value} {h1 : ∀ x, (enc x).oneCell' = true} {e base g cap : Nat} {ok : Nat → Prop} {xs : List α}
end
section
variable {P : Program} {ops : Array Oper} {rest : List Oper} {o : Oper} {a : Act} {Q : Exit → Act → World → Prop}
variable {α : Type}
end
end Kd
section
variable {P : Program}
end
/-- A row of one's own that may begin inside its block. -/
def QRow (w : World) (base : Nat) (e : TypeId) (size : Nat) (v : Value) (n : Nat) (xs : List Value) : Prop :=
  xs.length = n * size ∧
  ((n = 0 ∧ ∃ A, v = .slice A 0 0 ∧ ∀ a, A = some a → base ≤ a.block ∧ ∃ cur, w.heap[a.block]? = some (.cells cur e (0, 0))) ∨
   ∃ g off cap cur, v = .slice (some ⟨g, off * size, none⟩) n cap ∧ base ≤ g ∧ w.heap[g]? = some (.cells cur e (0, 0)) ∧ n ≤ cap ∧ off + cap ≤ maxLen ∧ cur.size = (off + cap) * size ∧ (cur.toList.drop (off * size)).take (n * size) = xs)
section
variable {w w1 : World} {base n size : Nat} {e : TypeId} {v : Value} {xs : List Value}
end
section
variable {P : Program}
end
namespace Kd
def Q {α : Type} (d : Kd α) (e : Nat) (w : World) (base : Nat) (ok : Nat → Prop) (v : Value) (xs : List α) : Prop :=
  (∀ k, v.ownBlock = some k → ok k) ∧ ∃ inner, QRow w base e d.sz v xs.length inner ∧ Reps (d.M w base (fun k => ok k ∧ some k ≠ v.ownBlock)) d.sz xs inner
section
variable {α : Type} {d : Kd α} {e : Nat} {w w1 W : World} {base : Nat} {ok ok' : Nat → Prop} {v : Value} {xs : List α}
end
section
variable {P : Program} {ops : Array Oper} {rest : List Oper} {o : Oper} {a : Act} {Q' : Exit → Act → World → Prop} {Kc : Act → World → Prop} {α : Type}
end
end Kd
namespace Kd
section
variable {α : Type} {d : Kd α} {e e' : Nat} {w w1 W : World} {base : Nat} {ok : Nat → Prop} {u v : Value} {xs : List α}
end
end Kd
namespace Kd
section
variable {α : Type} {d : Kd α} {e base g n cap : Nat} {ok okp : Nat → Prop} {W : World} {xs : List α}
end
end Kd
namespace Kd
section
variable {α : Type} {F : Kd α → Kd α} {sz : Nat} {E : List Nat} {hs : ∀ n, (upto F sz E n).sz = sz} {hE : ∀ n q, q ∈ (upto F sz E n).E → q ∈ E}
end
end Kd
namespace Kd
section
variable {P : Program} {ops : Array Oper} {rest : List Oper} {o : Oper} {a : Act} {Q : Exit → Act → World → Prop} {α : Type}
end
end Kd
namespace Kd
section
variable {P : Program} {ops : Array Oper} {rest : List Oper} {o : Oper} {a : Act} {Q : Exit → Act → World → Prop} {α : Type}
end
end Kd
namespace Kd
section
variable {α : Type} {k : Kd α} {w : World} {A : Option Addr} {xs : List α} {m c : Nat}
end
end Kd
section
variable {P : Program}
end
theorem ReadsInt.nil (W : World) (k : IntKind) : ReadsInt W k none ([] : List Int).length [] := ⟨rfl, by simp, fun h => absurd h (Nat.lt_irrefl 0)⟩
theorem ReadsInt.drewN {W : World} {k : IntKind} {A : Option Addr} {n : Nat} {xs : List Int} (h : ReadsInt W k A n xs) (m : Nat) : ReadsInt (W.drewN m) k A n xs := h
theorem keep_cell {w W : World} {g : Nat} (h : KeepBut w W g none) {a : Addr} {v : Value} (hc : w.cell? a = some v) (hne : a.block ≠ g) : W.cell? a = some v := by
  have := h.2 a.block (World.block_lt_of_cell? w a hc) hne (by simp)
  simpa [World.cell?, this] using hc
theorem add_block (a : Addr) (i : Nat) : (a.add i).block = a.block := by unfold Addr.add; split <;> rfl
theorem ReadsOf.nil {α : Type} (enc : α → Value) (d : α) (W : World) : ReadsOf enc d W none ([] : List α).length [] := ⟨rfl, by simp, fun h => absurd h (Nat.lt_irrefl 0)⟩
theorem ReadsOf.drewN {α : Type} {enc : α → Value} {d : α} {W : World} {A : Option Addr} {n : Nat} {xs : List α} (h : ReadsOf enc d W A n xs) (m : Nat) : ReadsOf enc d (W.drewN m) A n xs := h
theorem ReadsInt.keep {w W : World} {k : IntKind} {A : Option Addr} {n g : Nat} {xs : List Int} (h : ReadsInt w k A n xs) (hk : KeepBut w W g none) (hf : ∀ ad, A = some ad → 0 < n → ad.block ≠ g) : ReadsInt W k A n xs :=
  ⟨h.1, h.2.1, fun hn => by
    obtain ⟨ad, e, hc⟩ := h.2.2 hn
    exact ⟨ad, e, fun j hj => keep_cell hk (hc j hj) (by rw [add_block]; exact hf ad e hn)⟩⟩
theorem ReadsOf.keep {α : Type} {enc : α → Value} {d : α} {w W : World} {A : Option Addr} {n g : Nat} {xs : List α} (h : ReadsOf enc d w A n xs) (hk : KeepBut w W g none) (hf : ∀ ad, A = some ad → 0 < n → ad.block ≠ g) : ReadsOf enc d W A n xs :=
  ⟨h.1, h.2.1, fun hn => by
    obtain ⟨ad, e, hc⟩ := h.2.2 hn
    exact ⟨ad, e, fun j hj => keep_cell hk (hc j hj) (by rw [add_block]; exact hf ad e hn)⟩⟩
namespace Kd
section
variable {α β : Type} {d : Kd α} {d' : Kd β} {e e' base base' n : Nat} {ok ok' : Nat → Prop} {w W w1 W1 : World} {v u : Value} {xs : List α} {ys : List β} {A : Option Addr} {c : Nat}
end
section
variable {α : Type} {enc : α → Value} {h1 : ∀ x, (enc x).oneCell' = true} {w W : World} {A : Option Addr} {n g : Nat} {xs : List α}
end
end Kd
namespace Kd
section
variable {α : Type} {d : Kd α} {e base g : Nat} {ok : Nat → Prop} {w w1 : World} {v : Value} {xs : List α} {o : Obj}
end
end Kd
section
variable {P : Program} {ops : Array Oper} {rest : List Oper} {o : Oper} {a : Act} {Q : Exit → Act → World → Prop}
end
namespace Kd
section
variable {α : Type} {enc : α → Value} {h1 : ∀ x, (enc x).oneCell' = true} {e base g n cap : Nat} {ok : Nat → Prop} {W : World} {xs : List α}
end
end Kd
section
variable {P : Program} {ops : Array Oper} {rest : List Oper} {o : Oper} {a : Act} {Q : Exit → Act → World → Prop}
end
namespace Kd
section
variable {α : Type} {enc : α → Value} {h1 : ∀ x, (enc x).oneCell' = true} {e base g n cap : Nat} {ok : Nat → Prop} {W : World} {xs : List α}
end
end Kd
section
variable {P : Program} {ops : Array Oper} {rest : List Oper} {o : Oper} {a : Act} {Q : Exit → Act → World → Prop} {W : World}
end
section
variable {P : Program} {ops : Array Oper} {o : Oper} {a : Act} {Q : Exit → Act → World → Prop} {Kc : Act → World → Prop}
namespace Kd
variable {α : Type}
end Kd
end
inductive Vals (P : Program) (tmps : Array Value) (w : World) : List ResultVar → List Value → Prop where
  | nil : Vals P tmps w [] []
  | tmp {u : Tmp} {rs : List ResultVar} {vs : List Value} (h : Vals P tmps w rs vs) : Vals P tmps w (.tmp u :: rs) (tmps.getD u undef :: vs)
  | cell {p : Tmp} {ty : TypeId} {rs : List ResultVar} {vs : List Value} (g : Nat) (t : TypeId) (cs : Array Value) (fr : Nat × Nat) (d : TypeDesc)
      (hp : tmps.getD p undef = .pointer (some ⟨g, 0, none⟩)) (hg : w.heap[g]? = some (.cells cs t fr))
      (hu : P.underlying ty = some d) (hd : (match d with | .struct _ | .array _ _ => true | _ => false) = true) (hi : (P.info? ty).map (·.size) = some cs.size)
      (h : Vals P tmps w rs vs) : Vals P tmps w (.cell p ty :: rs) (.agg cs :: vs)
section
variable {P : Program} {tmps : Array Value} {w : World}
end
namespace Kd
section
variable {P : Program} {α : Type}
end
section
variable {P : Program} {ops : Array Oper} {rest : List Oper} {o : Oper} {a : Act} {Q : Exit → Act → World → Prop} {Kc : Act → World → Prop} {α : Type}
end
end Kd
end Go.Proofs.YtecnfekcflfihaaW.PrintWords
end
section
namespace Go.Proofs.Ytecnfekcflfihaa.H
open Go.RowKit Go.MapKept Go.Proofs.YtecnfekcflfihaaW.PrintWords
set_option linter.unusedVariables false
set_option linter.unusedSimpArgs false
variable {P : Program}
def m0 (w : World) : M :=
  { w0 := w, fix := ⟨fun k => k < w.heap.size, fun k => k < w.heap.size, fun _ h => h⟩, com := fun b o => match w.cell? ⟨b, o, none⟩ with | some v => if v.oneCell' then some v else none | none => none, loc := fun _ => none, res := fun _ => false }
theorem m0_com {w : World} {b o : Nat} {v : Value} : (m0 w).com b o = some v ↔ w.cell? ⟨b, o, none⟩ = some v ∧ v.oneCell' = true := by
  show (match w.cell? ⟨b, o, none⟩ with | some v => if v.oneCell' then some v else none | none => none) = some v ↔ _
  cases h : w.cell? ⟨b, o, none⟩ with
  | none => simp
  | some u =>
    simp only
    split
    · rename_i h1; simp only [Option.some.injEq]; constructor
      · rintro rfl; exact ⟨rfl, h1⟩
      · exact fun h => h.1
    · rename_i h1; simp only [Option.some.injEq, false_iff, not_and, reduceCtorEq]; rintro rfl; exact h1
def s0 : HS := fun _ => none
theorem rel0 (w : World) : Rel (m0 w) s0 w :=
  ⟨⟨rfl, rfl, rfl, fun k h => ⟨h, rfl⟩⟩, fun b o v h => (m0_com.1 h).1, (fun id ob l h => by cases h), (fun id ob l h => by cases h), (fun id id' ob ob' l l' h => by cases h), 0, fun id _ => ⟨rfl, rfl, rfl⟩⟩
/-- A kind's cells, as H values. -/
structure Br {α : Type} (d : Kd α) (enc : α → List HV) : Prop where
  pos : 0 < d.sz
  len : ∀ x, (enc x).length = d.sz
  rep : ∀ w x cs, d.K w x cs → Reps (m0 w) (enc x) cs
theorem reps1 {m : M} {x : HV} {v : Value} (h : Rep m x v) (ho : hone x = true) : Reps m [x] [v] :=
  ⟨fun z hz => by simp at hz; subst hz; exact ho, rfl, fun j z hj => by cases j with | zero => simp at hj; subst hj; exact h | succ j => simp at hj⟩
theorem Br.int (k : IntKind) : Br (Kd.int k) (fun n => [.lit (.int k n)]) := ⟨Nat.one_pos, fun _ => rfl, fun w x cs h => by rw [show cs = [.int k x] from h]; exact reps1 (.lit _) rfl⟩
theorem Br.bool : Br Kd.bool (fun b => [.lit (.bool b)]) := ⟨Nat.one_pos, fun _ => rfl, fun w x cs h => by rw [show cs = [.bool x] from h]; exact reps1 (.lit _) rfl⟩
theorem Br.string : Br Kd.string (fun b => [.lit (.string b)]) := ⟨Nat.one_pos, fun _ => rfl, fun w x cs h => by rw [show cs = [.string x] from h]; exact reps1 (.lit _) rfl⟩
theorem Br.pair {α β : Type} {a : Kd α} {b : Kd β} {ea : α → List HV} {eb : β → List HV} (ha : Br a ea) (hb : Br b eb) : Br (Kd.pair a b) (fun x => ea x.1 ++ eb x.2) :=
  ⟨Nat.lt_of_lt_of_le ha.pos (Nat.le_add_right _ _), fun x => by rw [List.length_append, ha.len, hb.len]; rfl, fun w x cs h => by
    obtain ⟨c0, c1, rfl, h0, h1⟩ := h
    exact (ha.rep w _ _ h0).append (hb.rep w _ _ h1)⟩
theorem Br.iso {α β : Type} {d : Kd α} {e : α → List HV} (h : Br d e) (f : β → α) : Br (Kd.iso d f) (fun x => e (f x)) := ⟨h.pos, fun x => h.len _, fun w x cs hk => h.rep w _ _ hk⟩
theorem flat_at {α : Type} {enc : α → List HV} {sz : Nat} (hlen : ∀ x, (enc x).length = sz) (hpos : 0 < sz) : ∀ (xs : List α) (j : Nat), (xs.flatMap enc)[j]? = (xs[j / sz]?).bind fun x => (enc x)[j % sz]?
  | [], j => by simp
  | x :: xs, j => by
    rw [List.flatMap_cons]
    by_cases h : j < sz
    · rw [List.getElem?_append_left (by rw [hlen]; exact h), Nat.div_eq_of_lt h, Nat.mod_eq_of_lt h]; simp
    · rw [List.getElem?_append_right (by rw [hlen]; omega), hlen, flat_at hlen hpos xs]
      have h1 : j / sz = (j - sz) / sz + 1 := by rw [Nat.div_eq_sub_div hpos (by omega)]
      have h2 : j % sz = (j - sz) % sz := Nat.mod_eq_sub_mod (by omega)
      rw [h1, h2]; simp
theorem flat_len {α : Type} {enc : α → List HV} {sz : Nat} (hlen : ∀ x, (enc x).length = sz) : ∀ xs : List α, (xs.flatMap enc).length = xs.length * sz
  | [] => by simp
  | x :: xs => by rw [List.flatMap_cons, List.length_append, hlen, flat_len hlen xs, List.length_cons, Nat.add_mul]; omega
theorem Br.row {α : Type} {d : Kd α} {enc : α → List HV} (h : Br d enc) {w : World} {A : Option Addr} {n c : Nat} {xs : List α} (hr : d.C w A n xs) (hc : n ≤ c) : Rep (m0 w) (.list d.sz n (xs.flatMap enc) false) (.slice A n c) := by
  obtain ⟨h1, h2, h3⟩ := hr
  rcases Nat.eq_zero_or_pos n with hn | hn
  · subst hn
    have : xs = [] := List.eq_nil_of_length_eq_zero h1
    subst this
    exact .list0 _ _ _ _ (fun h => by cases h)
  · obtain ⟨ad, rfl, hx⟩ := h3 hn
    have hlenF := flat_len h.len xs
    rw [h1] at hlenF
    -- each cell
    have key : ∀ j, j < n * d.sz → ∃ v y, w.cell? (ad.add j) = some v ∧ v.oneCell' = true ∧ (xs.flatMap enc)[j]? = some y ∧ Rep (m0 w) y v ∧ hone y = true := by
      intro j hj
      have hq : j / d.sz < xs.length := by rw [h1]; exact Nat.div_lt_of_lt_mul (by rw [Nat.mul_comm]; exact hj)
      have hxq : xs[j / d.sz]? = some xs[j / d.sz] := by simp [hq]
      obtain ⟨cs, hl, hk, hcell⟩ := hx _ _ hxq
      have hrp := h.rep w _ _ hk
      have hm : j % d.sz < cs.length := by rw [hl]; exact Nat.mod_lt _ h.pos
      have hcj : cs[j % d.sz]? = some cs[j % d.sz] := by simp [hm]
      have hm2 : j % d.sz < (enc xs[j / d.sz]).length := by rw [h.len]; exact Nat.mod_lt _ h.pos
      have hy : (enc xs[j / d.sz])[j % d.sz]? = some (enc xs[j / d.sz])[j % d.sz] := by simp [hm2]
      refine ⟨cs[j % d.sz], (enc xs[j / d.sz])[j % d.sz], ?_, d.K_one hk _ (List.getElem_mem hm), ?_, ?_, hrp.1 _ (List.getElem_mem hm2)⟩
      · have := hcell _ _ hcj
        rwa [Nat.div_add_mod' j d.sz] at this
      · rw [flat_at h.len h.pos, hxq]; exact hy
      · have := hrp.2.2 _ _ hy
        rwa [show cs.getD (j % d.sz) undef = cs[j % d.sz] from by simp [List.getD, hm]] at this
    have hspot : ad.spot = none := by
      obtain ⟨v, y, hv, -⟩ := key 0 (Nat.mul_pos hn h.pos)
      have e : ad.add 0 = ad := by unfold Addr.add; rfl
      rw [e] at hv
      unfold World.cell? at hv
      split at hv
      · split at hv
        · cases hv
        · rename_i hs; simpa using hs
      · cases hv
    obtain ⟨b, o, sp⟩ := ad
    simp only at hspot; subst hspot
    refine .list d.sz n _ false c b o (fun j => (w.cell? ⟨b, o + j, none⟩).getD undef) hc (fun h => by cases h) hlenF (fun x hx => ?_) (fun j hj => ?_) (fun j x hj => ?_)
    · obtain ⟨j, hj⟩ := List.getElem?_of_mem hx
      have hlt := (List.getElem?_eq_some_iff.1 hj).1
      obtain ⟨v, y, g1, g2, g3, g4, g5⟩ := key j (by omega)
      rw [g3] at hj; cases hj; exact g5
    · obtain ⟨v, y, g1, g2, g3, g4, g5⟩ := key j (by omega)
      rw [add_loc] at g1
      rw [g1]; exact m0_com.2 ⟨g1, g2⟩
    · have hlt := (List.getElem?_eq_some_iff.1 hj).1
      obtain ⟨v, y, g1, g2, g3, g4, g5⟩ := key j (by omega)
      rw [add_loc] at g1
      rw [g1]; rw [g3] at hj; cases hj; exact g4
theorem Br.slice {α : Type} (e : Nat) {d : Kd α} {enc : α → List HV} (h : Br d enc) : Br (Kd.slice e d) (fun xs => [.list d.sz xs.length (xs.flatMap enc) false]) :=
  ⟨Nat.one_pos, fun _ => rfl, fun w xs cs hk => by
    obtain ⟨A, c, rfl, hc, hr⟩ := hk
    exact reps1 (h.row hr hc) rfl⟩
/-- From the H layer to the law. -/
theorem law_of {f : FuncId} {args : List HV} {cargs : Array Value} {w : World} (h : HC P f args s0 fun v _ => v = .lit (.bool true)) (hn : cargs.size = args.length) (ha : ∀ (j : Nat) x, args[j]? = some x → Rep (m0 w) x (cargs.getD j undef)) :
    Calls P f cargs w fun e w' => e = .returned (.bool true) ∧ Below w.heap.size w w' := by
  refine (h (m0 w) w cargs (rel0 w) hn ha).mono ?_
  rintro e w' ⟨cv, v, s', m', rfl, h1, h2, h3, rfl⟩
  cases h3
  refine ⟨rfl, ?_⟩
  have hb := h2.below
  have hf := h1.fix
  have hkey : ∀ k, k < w.heap.size → k < w'.heap.size ∧ w'.heap[k]? = w.heap[k]? := fun k hk => ⟨(hb.block k (hf k hk).1).1, (hb.block k (hf k hk).1).2.trans (hf k hk).2⟩
  refine ⟨hb.os.trans h1.env.1, hb.tape.trans h1.env.2.1, hb.output.trans h1.env.2.2, ?_, fun k hk => (hkey k hk).2⟩
  rcases Nat.eq_zero_or_pos w.heap.size with h0 | h0
  · omega
  · have := (hkey (w.heap.size - 1) (by omega)).1
    omega
end Go.Proofs.Ytecnfekcflfihaa.H
end
section
namespace Go.Proofs.YtecnfekcflfihaaW.PrintLast
section
variable {P : Program} {ops : Array Oper} {Q : Exit → Act → World → Prop} {md : Region.Mode} {S : World → Prop} {ds : List Nat}
def ListedClosed (md : Region.Mode) (ops : Array Oper) (listed : Array Bool) : Prop :=
  ∀ j oj, ops[j]? = some oj → listed.getD j false = true → ∀ e ∈ oj.after, Region.binds md e = true → listed.getD e.on false = true
theorem ListedClosed.set {listed : Array Bool} {i : Nat} (h : ListedClosed md ops listed) (hi : i ∈ Region.ready md ops listed) : ListedClosed md ops (listed.setIfInBounds i true) := by
  obtain ⟨_, oi, hoi, hall⟩ := mem_ready.1 hi
  intro j oj hj hl e he hb
  by_cases hij : i = j
  · subst hij
    have : oj = oi := Option.some.inj (hj.symm.trans hoi)
    subst this
    exact getD_set_true (hall e he hb)
  · rw [getD_set_ne false hij] at hl
    exact getD_set_true (h j oj hj hl e he hb)
/-- Whatever order is picked from here on, AND 'S' HOLDS BEHIND EVERY OPERATION THAT IS CARRIED OUT, those of ds apart. -/
def wpAnyLast (P : Program) (md : Region.Mode) (ops : Array Oper) (Q : Exit → Act → World → Prop) (S : World → Prop) (ds : List Nat) : Nat → Array Bool → Act → World → Prop
  | 0, listed, a, w => Region.ready md ops listed = [] ∧ Q .normal a w
  | fuel + 1, listed, a, w =>
    (Region.ready md ops listed = [] → Q .normal a w) ∧
    ∀ i ∈ Region.ready md ops listed, wpOp P ops Q i (fun a' w' => (i ∉ ds → S w → S w') ∧ wpAnyLast P md ops Q S ds fuel (listed.setIfInBounds i true) a' w') a w
end
section
variable {P : Program} {ops : Array Oper} {Q : Exit → Act → World → Prop} {md : Region.Mode} {S : World → Prop} {ds : List Nat}
def AllReadyL (P : Program) (md : Region.Mode) (ops : Array Oper) (Q : Exit → Act → World → Prop) (S : World → Prop) (ds : List Nat) (fuel : Nat) (listed : Array Bool) (a : Act) (w : World) (rs : List Nat) : Prop :=
  ∀ i ∈ rs, wpOp P ops Q i (fun a' w' => (i ∉ ds → S w → S w') ∧ wpAnyLast P md ops Q S ds fuel (listed.setIfInBounds i true) a' w') a w
theorem AllReadyL.nil {fuel : Nat} {listed : Array Bool} {a : Act} {w : World} : AllReadyL P md ops Q S ds fuel listed a w [] := fun _ h => by cases h
theorem AllReadyL.cons {fuel : Nat} {listed : Array Bool} {a : Act} {w : World} {i : Nat} {o : Oper} {rs : List Nat} (ho : ops[i]? = some o) (hd : i ∉ ds)
    (h : ∀ K' : Act → World → Prop, Shut (∀ a w, S w → (S w → wpAnyLast P md ops Q S ds fuel (listed.setIfInBounds i true) a w) → K' a w) → if Region.wanted o (yielded ops a.tmps) = true then Oper.wp P o a w K' Q else K' (a.put o.dst undef) w)
    (hs : AllReadyL P md ops Q S ds fuel listed a w rs) : AllReadyL P md ops Q S ds fuel listed a w (i :: rs) := fun j hj => by
  rcases List.mem_cons.1 hj with rfl | hj
  · exact wpOp_step ho (fun K' hK => h K' (fun a w hS hW => hK a w ⟨fun _ _ => hS, hW hS⟩))
  · exact hs j hj
end
end Go.Proofs.YtecnfekcflfihaaW.PrintLast
end
section
namespace Go.Proofs.YtecnfekcflfihaaW.PrintLast
end Go.Proofs.YtecnfekcflfihaaW.PrintLast
end
section
namespace Go.Proofs.YtecnfekcflfihaaW.PrintLast
end Go.Proofs.YtecnfekcflfihaaW.PrintLast
end
section
namespace Go.Proofs.YtecnfekcflfihaaW.PrintWords
end Go.Proofs.YtecnfekcflfihaaW.PrintWords
namespace Kd
end Kd
end
section
namespace Go.Proofs.YtecnfekcflfihaaW.PrintWords
open Go.RowKit
namespace Kd
/-- An element with its index: its blocks are those that f gives to it. -/
def tag {α : Type} (f : Nat → Nat) (d : Kd α) : Kd (α × Nat) where
  sz := d.sz
  E := d.E
  K := fun w x cs => d.K w x.1 cs
  M := fun w base ok x cs => d.M w base (fun k => ok k ∧ f k = x.2) x.1 cs
  K_len := fun h => d.K_len h
  K_one := fun h => d.K_one h
  K_below := fun hb h => d.K_below hb h
  K_of_M := fun h => d.K_of_M h
  M_mono := fun hok h => d.M_mono (fun k hk => ⟨hok k hk.1, hk.2⟩) h
  M_bound := fun h => d.M_mono (fun _ hk => ⟨⟨hk.1.1, hk.2⟩, hk.1.2⟩) (d.M_bound h)
  M_move := fun hm h => d.M_move (fun k hk => hm k hk.1) h
  M_lower := fun hb h => d.M_lower hb h
/-- The cells themselves. -/
def raw (sz : Nat) : Kd (List Value) where
  sz := sz
  E := []
  K := fun _ x cs => cs = x ∧ cs.length = sz ∧ ∀ u ∈ cs, u.oneCell' = true
  M := fun _ _ _ x cs => cs = x ∧ cs.length = sz ∧ ∀ u ∈ cs, u.oneCell' = true
  K_len := fun h => h.2.1
  K_one := fun h => h.2.2
  K_below := fun _ h => h
  K_of_M := fun h => h
  M_mono := fun _ h => h
  M_bound := fun h => h
  M_move := fun _ h => h
  M_lower := fun _ h => h
/-- A row of elements (type e) of the call's own, no two of which lead to one block. -/
def S {α : Type} (d : Kd α) (e : Nat) (w : World) (base : Nat) (ok : Nat → Prop) (v : Value) (xs : List α) : Prop := ∃ f, (tag f d).R e w base ok v xs.zipIdx
section
variable {α β : Type} {d : Kd α} {d' : Kd β} {e e' : Nat} {w w1 W : World} {base b : Nat} {ok ok' okv oku : Nat → Prop} {u v : Value} {xs : List α} {ys : List β}
end
section
variable {α β : Type} {d : Kd α} {d' : Kd β} {e e' g : Nat} {w w1 W : World} {base b : Nat} {ok ok' okv oku : Nat → Prop} {u v : Value} {xs : List α} {ys : List β}
end
section
variable {P : Program} {ops : Array Oper} {rest : List Oper} {o : Oper} {a : Act} {Q : Exit → Act → World → Prop} {Kc : Act → World → Prop} {α : Type}
end
/-- Element i is these cells; the others are d's. -/
def gap {α : Type} (f : Nat → Nat) (d : Kd α) (i : Nat) (c : List Value) : Kd (α × Nat) where
  sz := d.sz
  E := d.E
  K := fun w x cs => (x.2 = i → cs = c ∧ cs.length = d.sz ∧ ∀ u ∈ cs, u.oneCell' = true) ∧ (x.2 ≠ i → d.K w x.1 cs)
  M := fun w base ok x cs => (x.2 = i → cs = c ∧ cs.length = d.sz ∧ ∀ u ∈ cs, u.oneCell' = true) ∧ (x.2 ≠ i → d.M w base (fun k => ok k ∧ f k = x.2) x.1 cs)
  K_len := fun {w x cs} h => by
    by_cases hx : x.2 = i
    · exact (h.1 hx).2.1
    · exact d.K_len (h.2 hx)
  K_one := fun {w x cs} h => by
    by_cases hx : x.2 = i
    · exact (h.1 hx).2.2
    · exact d.K_one (h.2 hx)
  K_below := fun hb h => ⟨h.1, fun hx => d.K_below hb (h.2 hx)⟩
  K_of_M := fun h => ⟨h.1, fun hx => d.K_of_M (h.2 hx)⟩
  M_mono := fun hok h => ⟨h.1, fun hx => d.M_mono (fun k hk => ⟨hok k hk.1, hk.2⟩) (h.2 hx)⟩
  M_bound := fun h => ⟨h.1, fun hx => d.M_mono (fun _ hk => ⟨⟨hk.1.1, hk.2⟩, hk.1.2⟩) (d.M_bound (h.2 hx))⟩
  M_move := fun hm h => ⟨h.1, fun hx => d.M_move (fun k hk => hm k hk.1) (h.2 hx)⟩
  M_lower := fun hb h => ⟨h.1, fun hx => d.M_lower hb (h.2 hx)⟩
def H {α : Type} (d : Kd α) (e : Nat) (w : World) (base : Nat) (ok : Nat → Prop) (v : Value) (xs : List α) (i : Int) (oki : Nat → Prop) (c : List Value) : Prop :=
  (∀ k, oki k → ok k) ∧ ∃ f, (gap f d i.toNat c).R e w base (fun k => ok k ∧ ¬ oki k) v xs.zipIdx
section
variable {α β : Type} {d : Kd α} {e e' g n cap : Nat} {w w1 W : World} {base : Nat} {ok ok' oki okp : Nat → Prop} {u v : Value} {xs : List α} {i : Int} {c : List Value}
end
section
variable {P : Program} {ops : Array Oper} {rest : List Oper} {o : Oper} {a : Act} {Q : Exit → Act → World → Prop} {α : Type}
end
end Kd
end Go.Proofs.YtecnfekcflfihaaW.PrintWords
end
section
namespace Go.Proofs.YtecnfekcflfihaaW.PrintWords
end Go.Proofs.YtecnfekcflfihaaW.PrintWords
namespace Kd
end Kd
end
section
namespace Go.Proofs.YtecnfekcflfihaaW.PrintWords
end Go.Proofs.YtecnfekcflfihaaW.PrintWords
namespace Kd
end Kd
end
section
namespace Go.Proofs.YtecnfekcflfihaaW.PrintWords
open Go.RowKit
namespace Kd
/-- What a kind reads lies in the blocks: nothing else of the world is looked at. -/
structure Heap {α : Type} (d : Kd α) : Prop where
  K : ∀ {w w1 : World} {x : α} {cs : List Value}, (∀ k, k < w.heap.size → w1.heap[k]? = w.heap[k]?) → d.K w x cs → d.K w1 x cs
theorem cell_heap {w w1 : World} (hb : ∀ k, k < w.heap.size → w1.heap[k]? = w.heap[k]?) {a : Addr} {v : Value} (h : w.cell? a = some v) : w1.cell? a = some v := by
  have := hb a.block (World.block_lt_of_cell? w a h)
  simpa [World.cell?, this] using h
theorem Heap.C {α : Type} {d : Kd α} (hd : Heap d) {w w1 : World} {A : Option Addr} {n : Nat} {xs : List α} (hb : ∀ k, k < w.heap.size → w1.heap[k]? = w.heap[k]?) (h : d.C w A n xs) : d.C w1 A n xs :=
  ⟨h.1, h.2.1, fun hn => by
    obtain ⟨ad, e, hc⟩ := h.2.2 hn
    refine ⟨ad, e, fun j p hj => ?_⟩
    obtain ⟨c, hs, hr, hcell⟩ := hc j p hj
    exact ⟨c, hs, hd.K hb hr, fun i u hu => cell_heap hb (hcell i u hu)⟩⟩
section
variable {α : Type} {d : Kd α} {e base g n c : Nat} {ok : Nat → Prop} {w w0 W : World} {A : Option Addr} {xs : List α}
end
end Kd
end Go.Proofs.YtecnfekcflfihaaW.PrintWords
end
section
namespace Go.Proofs.YtecnfekcflfihaaW.PrintWords
open Go.RowKit
def Kept (w W : World) (S : Nat → Prop) : Prop := w.heap.size ≤ W.heap.size ∧ ∀ i, i < w.heap.size → ¬ S i → W.heap[i]? = w.heap[i]?
section
variable {w W W2 : World} {S S2 S' : Nat → Prop}
theorem Kept.refl (w : World) (S : Nat → Prop) : Kept w w S := ⟨Nat.le_refl _, fun _ _ _ => rfl⟩
theorem Kept.of_below (h : Below w.heap.size w W) (S : Nat → Prop) : Kept w W S := ⟨h.size, fun i hi _ => h.block i hi⟩
theorem Kept.mono (h : Kept w W S) (hs : ∀ k, S k → S' k) : Kept w W S' := ⟨h.1, fun i hi hn => h.2 i hi (fun hk => hn (hs i hk))⟩
theorem Kept.then_ (h : Kept w W S) (k : Kept W W2 S2) (hs : ∀ k, S2 k → S k ∨ w.heap.size ≤ k) : Kept w W2 S :=
  ⟨Nat.le_trans h.1 k.1, fun i hi hn => (k.2 i (Nat.lt_of_lt_of_le hi h.1) (fun h2 => (hs i h2).elim hn (fun h3 => by omega))).trans (h.2 i hi hn)⟩
theorem Kept.below (h : Kept w W S) (hb : Below W.heap.size W W2) : Kept w W2 S := h.then_ (Kept.of_below hb (fun _ => False)) (fun _ hk => hk.elim)
theorem Kept.alloc (h : Kept w W S) (o : Obj) : Kept w (W.alloc o) S := h.below (below_alloc (Below.refl _ _) o)
theorem Kept.drew (h : Kept w W S) : Kept w W.drew S := h
theorem Kept.drewN (h : Kept w W S) (m : Nat) : Kept w (W.drewN m) S := h
theorem Kept.setCell (h : Kept w W S) {p : Addr} (hp : S p.block ∨ w.heap.size ≤ p.block) (u : Value) : Kept w (W.setCell p u) S :=
  h.then_ (S2 := fun k => k = p.block) ⟨by simp [World.setCell], fun i _ hn => Below.heap_setCell W p u i hn⟩ (fun k hk => by rw [hk]; exact hp)
/-- Beside a state: what was written is new since. -/
theorem Kept.keep {g : Nat} (h : KeepBut w W g none) (k : Kept W W2 S2) (hs : ∀ k, S2 k → w.heap.size ≤ k) : KeepBut w W2 g none :=
  ⟨Nat.le_trans h.1 k.1, fun i hi hg hr => (k.2 i (Nat.lt_of_lt_of_le hi h.1) (fun h2 => by have := hs i h2; omega)).trans (h.2 i hi hg hr)⟩
end
namespace Kd
section
variable {α : Type} {d : Kd α} {e base n c : Nat} {ok oki S S2 : Nat → Prop} {w w0 W W1 W2 : World} {v : Value} {A : Option Addr} {xs : List α} {i : Int} {cs : List Value}
end
end Kd
end Go.Proofs.YtecnfekcflfihaaW.PrintWords
end
section
namespace Go.Proofs.YtecnfekcflfihaaW.PrintWords
open Go.RowKit
/-- P holds in W and in every world that has W's blocks of ok. -/
def Foot (P : World → Prop) (W : World) (ok : Nat → Prop) : Prop := ∀ W' : World, (∀ k, ok k → k < W.heap.size → W'.heap[k]? = W.heap[k]?) → P W'
theorem heap_lt {W W1 : World} {k : Nat} (h : W1.heap[k]? = W.heap[k]?) (hlt : k < W.heap.size) : k < W1.heap.size := by
  rw [Array.getElem?_eq_getElem hlt] at h
  exact (Array.getElem?_eq_some_iff.1 h).1
namespace Foot
variable {P Q : World → Prop} {W W1 : World} {ok ok' : Nat → Prop}
theorem now (h : Foot P W ok) : P W := h W (fun _ _ _ => rfl)
theorem mono (h : Foot P W ok) (hok : ∀ k, ok k → ok' k) : Foot P W ok' := fun W' hW => h W' (fun k hk hlt => hW k (hok k hk) hlt)
theorem bound (h : Foot P W ok) : Foot P W (fun k => ok k ∧ k < W.heap.size) := fun W' hW => h W' (fun k hk hlt => hW k ⟨hk, hlt⟩ hlt)
theorem step (h : Foot P W ok) (hm : ∀ k, ok k → k < W.heap.size → W1.heap[k]? = W.heap[k]?) : Foot P W1 ok := fun W' hW => h W' (fun k hk hlt => (hW k hk (heap_lt (hm k hk hlt) hlt)).trans (hm k hk hlt))
theorem imp (h : Foot P W ok) (hi : ∀ W', P W' → Q W') : Foot Q W ok := fun W' hW => hi W' (h W' hW)
/-- Moved, and still elder than what is new since W. -/
theorem old (h : Foot P W ok) (hb : Below W.heap.size W W1) : Foot P W1 (fun k => ok k ∧ k < W.heap.size) := (h.bound).step (fun k _ hlt => hb.block k hlt)
end Foot
namespace Kd
/-- A row that is only read: what it leads to lies in ok. -/
def F {α : Type} (d : Kd α) (W : World) (ok : Nat → Prop) (A : Option Addr) (n : Nat) (xs : List α) : Prop := Foot (fun W => d.C W A n xs) W ok
/-- An element's cells: what they lead to lies in ok. -/
def FK {α : Type} (d : Kd α) (W : World) (ok : Nat → Prop) (x : α) (c : List Value) : Prop := Foot (fun W => d.K W x c) W ok
section
variable {α β : Type} {d : Kd α} {e base n n' cc g N : Nat} {ok ok' okp S : Nat → Prop} {w w0 w1 W W1 : World} {A A' : Option Addr} {u v v1 : Value} {xs : List α} {xs' : List β} {d' : Kd β} {x : α} {c : List Value}
end
end Kd
end Go.Proofs.YtecnfekcflfihaaW.PrintWords
end
section
namespace Go.Proofs.YtecnfekcflfihaaW.PrintWords
open Go.RowKit
namespace Kd
section
variable {α : Type} {d : Kd α} {e base n cc g : Nat} {ok ok' okp S : Nat → Prop} {w w1 W W1 : World} {A : Option Addr} {u v v1 : Value} {xs : List α} {x : α} {c : List Value}
/-- A row of elements (type e) of the call's own; what the elements lead to is only read, and is not this row. -/
def N {α : Type} (d : Kd α) (e : Nat) (w : World) (base : Nat) (ok : Nat → Prop) (v : Value) (xs : List α) : Prop :=
  (∀ k, v.ownBlock = some k → ok k) ∧ ∃ rows : List (List Value), rows.length = xs.length ∧ (raw d.sz).R e w base (fun k => some k = v.ownBlock) v rows ∧ ∀ (j : Nat) (x : α) (c : List Value), xs[j]? = some x → rows[j]? = some c → FK d w (fun k => ok k ∧ some k ≠ v.ownBlock) x c
end
end Kd
end Go.Proofs.YtecnfekcflfihaaW.PrintWords
end
section
namespace Go.Proofs.YtecnfekcflfihaaW.PrintWords
end Go.Proofs.YtecnfekcflfihaaW.PrintWords
namespace Kd
end Kd
end
section
namespace Go.Proofs.YtecnfekcflfihaaW.PrintWords
end Go.Proofs.YtecnfekcflfihaaW.PrintWords
namespace Kd
end Kd
end
section
namespace Go.Proofs.YtecnfekcflfihaaW.PrintWords
end Go.Proofs.YtecnfekcflfihaaW.PrintWords
end
section
namespace Go.Proofs.YtecnfekcflfihaaW.PrintWords
/-- One cell an element. -/
theorem Reps.one {α : Type} {R : α → List Value → Prop} {ps : List α} {cs : List Value} {p : α} {v : Value} (hp : R p [v]) (h : Reps R 1 ps cs) : Reps R 1 (p :: ps) (v :: cs) := by
  refine ⟨by simp [h.1], fun j q hq => ?_⟩
  cases j with
  | zero =>
    simp only [List.getElem?_cons_zero, Option.some.injEq] at hq
    subst hq
    simpa using hp
  | succ j =>
    simp only [List.getElem?_cons_succ] at hq
    have h1 := h.2 j q hq
    simpa [Nat.mul_one] using h1
/-- More cells an element: told apart by the cells' list. -/
theorem Reps.front {α : Type} {R : α → List Value → Prop} {size : Nat} {ps : List α} {cs c all : List Value} {p : α} (hp : R p c) (hc : c.length = size) (h : Reps R size ps cs) (ha : c ++ cs = all) : Reps R size (p :: ps) all := by
  subst ha
  refine ⟨by rw [List.length_append, hc, h.1, List.length_cons, Nat.succ_mul, Nat.add_comm], fun j q hq => ?_⟩
  cases j with
  | zero =>
    simp only [List.getElem?_cons_zero, Option.some.injEq] at hq
    subst hq
    rw [Nat.zero_mul, List.drop_zero, List.take_append_of_le_length (by omega), List.take_of_length_le (by omega)]
    exact hp
  | succ j =>
    simp only [List.getElem?_cons_succ] at hq
    have h1 := h.2 j q hq
    rw [Nat.succ_mul, List.drop_append, List.drop_of_length_le (by rw [hc]; exact Nat.le_add_left _ _), List.nil_append, hc, Nat.add_sub_cancel]
    exact h1
theorem Reps.c2 {α : Type} {R : α → List Value → Prop} {ps : List α} {cs : List Value} {p : α} {va vb : Value} (hp : R p [va, vb]) (h : Reps R 2 ps cs) : Reps R 2 (p :: ps) (va :: vb :: cs) := Reps.front hp rfl h rfl
theorem Reps.c3 {α : Type} {R : α → List Value → Prop} {ps : List α} {cs : List Value} {p : α} {va vb vc : Value} (hp : R p [va, vb, vc]) (h : Reps R 3 ps cs) : Reps R 3 (p :: ps) (va :: vb :: vc :: cs) := Reps.front hp rfl h rfl
theorem Reps.c4 {α : Type} {R : α → List Value → Prop} {ps : List α} {cs : List Value} {p : α} {va vb vc vd : Value} (hp : R p [va, vb, vc, vd]) (h : Reps R 4 ps cs) : Reps R 4 (p :: ps) (va :: vb :: vc :: vd :: cs) := Reps.front hp rfl h rfl
end Go.Proofs.YtecnfekcflfihaaW.PrintWords
end
section
namespace Go.Proofs.YtecnfekcflfihaaW.PrintLast
/-- Number i is listed too. -/
def up (b : Nat → Bool) (i : Nat) : Nat → Bool := fun j => if j = i then true else b j
section
variable {P : Program} {ops : Array Oper} {Q : Exit → Act → World → Prop} {md : Region.Mode} {T : Bool × List (List Nat × List Nat)} {B : List Nat} {O : List Nat} {b : Nat → Bool} {i j n : Nat}
end
end Go.Proofs.YtecnfekcflfihaaW.PrintLast
end
section
namespace Go.Proofs.YtecnfekcflfihaaW.PrintWords
end Go.Proofs.YtecnfekcflfihaaW.PrintWords
namespace Go.Proofs.YtecnfekcflfihaaW.PrintLast
end Go.Proofs.YtecnfekcflfihaaW.PrintLast
end
section
namespace Go.Proofs.YtecnfekcflfihaaW.PrintWords
end Go.Proofs.YtecnfekcflfihaaW.PrintWords
end
section
namespace Go.Proofs.YtecnfekcflfihaaW.PrintWords
end Go.Proofs.YtecnfekcflfihaaW.PrintWords
namespace Kd
end Kd
end
section
namespace Go.Proofs.YtecnfekcflfihaaW.PrintMore
open Go.RowKit Go.Proofs.YtecnfekcflfihaaW.PrintWords
namespace Kd
open Go.Proofs.YtecnfekcflfihaaW.PrintWords.Kd
end Kd
namespace Kd
open Go.Proofs.YtecnfekcflfihaaW.PrintWords.Kd
section
variable {α : Type} {d : Kd α} {e base g N : Nat} {ok : Nat → Prop} {W w1 : World} {u v : Value} {xs : List α}
end
end Kd
end Go.Proofs.YtecnfekcflfihaaW.PrintMore
namespace Go.Proofs.YtecnfekcflfihaaW.PrintWords
open Go.RowKit
section
variable {P : Program} {ops : Array Oper} {rest : List Oper} {o : Oper} {a : Act} {Q : Exit → Act → World → Prop} {W : World}
end
/-- The greater of two whole numbers, as Go's max tells it. -/
def mx (a b : Int) : Int := if a < b then b else a
/-- A shift to the left, as Go tells it: a count beyond the width leaves nothing. -/
def shl (k : IntKind) (x y : Int) : Int := k.wrap (x * 2 ^ min y.toNat k.bits)
/-- A shift to the right: a count beyond the width leaves the sign. -/
def shr (k : IntKind) (x y : Int) : Int := x / 2 ^ min y.toNat k.bits
namespace Kd
section
variable {α : Type} {d : Kd α} {e base : Nat} {ok : Nat → Prop} {W w1 : World} {v : Value} {xs : List α}
end
section
variable {α : Type} {d : Kd α} {e base g n cap : Nat} {ok oki okp : Nat → Prop} {W : World} {xs : List α} {i : Int} {c : List Value}
end
section
variable {α : Type} {d : Kd α} {e base b b' g N : Nat} {ok ok1 : Nat → Prop} {W W2 w1 : World} {u v : Value} {xs ys : List α} {S : Nat → Prop}
end
end Kd
end Go.Proofs.YtecnfekcflfihaaW.PrintWords
namespace Go.Proofs.YtecnfekcflfihaaW.PrintWords
open Go.RowKit
namespace Kd
section
variable {α β : Type} {d : Kd α} {e base base' n m c g N' lo hi : Nat} {ok ok' S : Nat → Prop} {w W w1 : World} {A : Option Addr} {ad : Addr} {u v v1 : Value} {xs : List α}
end
end Kd
end Go.Proofs.YtecnfekcflfihaaW.PrintWords
end
section
namespace Go.Proofs.Ytecnfekcflfihaa.CK
open Go.RowKit Go.Proofs.YtecnfekcflfihaaW.PrintWords Go.Proofs.YtecnfekcflfihaaW.PrintLast Go.Proofs.YtecnfekcflfihaaW.PrintMore
set_option linter.unusedVariables false
structure S34 where
  f0 : Int
  f1 : Int
  f2 : Bool
  f3 : (List Int)
  f4 : Bool
  f5 : (List Int)
def k34 : Kd S34 := Kd.iso (Kd.pair (Kd.int .i64) (Kd.pair (Kd.int .i64) (Kd.pair Kd.bool (Kd.pair (Kd.slice 5 (Kd.int .u8)) (Kd.pair Kd.bool (Kd.slice 5 (Kd.int .u8))))))) (fun x : S34 => (x.f0, x.f1, x.f2, x.f3, x.f4, x.f5))
structure S46 where
  f0 : Int
  f1 : Int
  f2 : Int
  f3 : Int
  f4 : Int
  f5 : (List S34)
def z46 : S46 := ⟨(0 : Int), (0 : Int), (0 : Int), (0 : Int), (0 : Int), ([] : List S34)⟩
def k46 : Kd S46 := Kd.iso (Kd.pair (Kd.int .i64) (Kd.pair (Kd.int .i64) (Kd.pair (Kd.int .i64) (Kd.pair (Kd.int .i64) (Kd.pair (Kd.int .i64) (Kd.slice 34 k34)))))) (fun x : S46 => (x.f0, x.f1, x.f2, x.f3, x.f4, x.f5))
structure S24 where
  f0 : Int
  f1 : Int
  f2 : Int
  f3 : Int
  f4 : Int
  f5 : Bool
  f6 : Int
  f7 : Int
  f8 : Bool
def z24 : S24 := ⟨(0 : Int), (0 : Int), (0 : Int), (0 : Int), (0 : Int), false, (0 : Int), (0 : Int), false⟩
structure S103 where
  f0 : (List Int)
  f1 : (List Int)
  f2 : Int
end Go.Proofs.Ytecnfekcflfihaa.CK
end
section
namespace Go.Proofs.Ytecnfekcflfihaa.CL
open Go.Proofs.Ytecnfekcflfihaa.H Go.RowKit Go.Proofs.YtecnfekcflfihaaW.PrintWords Go.Proofs.Ytecnfekcflfihaa.CK
set_option linter.unusedVariables false
theorem br_congr {α : Type} {d : Kd α} {e e' : α → List HV} (h : Br d e) (he : ∀ x, e x = e' x) : Br d e' := by
  have : e = e' := funext he
  rw [← this]; exact h
theorem flat_bl (l : List Int) : l.flatMap (fun n => ([.lit (.int .u8 n)] : List HV)) = bl l := by
  induction l with
  | nil => rfl
  | cons x r ih => simp only [List.flatMap_cons, ih]; rfl
def toRec (x : S34) : Rec := ⟨x.f0, x.f1, x.f2, some x.f3, x.f4, some x.f5⟩
def toBat (x : S46) : Bat := ⟨x.f0, x.f1, x.f2, x.f3, x.f4, some (x.f5.map toRec)⟩
theorem br34 : Br k34 (fun x => recC (toRec x)) := by
  refine br_congr (Br.iso (Br.pair (Br.int .i64) (Br.pair (Br.int .i64) (Br.pair Br.bool (Br.pair (Br.slice 5 (Br.int .u8)) (Br.pair Br.bool (Br.slice 5 (Br.int .u8))))))) (fun x : S34 => (x.f0, x.f1, x.f2, x.f3, x.f4, x.f5))) ?_
  intro x
  simp only [flat_bl]
  rfl
theorem flat_map {α β γ : Type} (l : List α) (f : α → β) (g : β → List γ) : (l.map f).flatMap g = l.flatMap fun x => g (f x) := List.flatMap_map f g l
theorem br46 : Br k46 (fun x => batC (toBat x)) := by
  refine br_congr (Br.iso (Br.pair (Br.int .i64) (Br.pair (Br.int .i64) (Br.pair (Br.int .i64) (Br.pair (Br.int .i64) (Br.pair (Br.int .i64) (Br.slice 34 br34)))))) (fun x : S46 => (x.f0, x.f1, x.f2, x.f3, x.f4, x.f5))) ?_
  intro x
  have e1 : recsC (x.f5.map toRec) = x.f5.flatMap fun x => recC (toRec x) := flat_map _ _ _
  have e2 : (x.f5.map toRec).length = x.f5.length := List.length_map ..
  have e : recsV (some (x.f5.map toRec)) = .list 6 x.f5.length (x.f5.flatMap fun x => recC (toRec x)) false := by simp only [recsV, e1, e2]
  show _ = [HV.lit (.int .i64 x.f0), .lit (.int .i64 x.f1), .lit (.int .i64 x.f2), .lit (.int .i64 x.f3), .lit (.int .i64 x.f4), recsV (some (x.f5.map toRec))]
  rw [e]
  rfl
theorem repBats {w : World} {A : Option Addr} {c : Nat} {l : List S46} (hr : Kd.C k46 w A l.length l) (hc : l.length ≤ c) : Rep (m0 w) (rowL batC 6 (l.map toBat)) (.slice A l.length c) := by
  have := br46.row hr hc
  have e1 : rows batC (l.map toBat) = l.flatMap fun x => batC (toBat x) := flat_map _ _ _
  have e2 : (l.map toBat).length = l.length := List.length_map ..
  unfold rowL
  rw [e1, e2]
  exact this
theorem inBat_of (x : S46) (h : x.f5.length ≤ maxLen) : InBat (toBat x) := ⟨x.f5.map toRec, rfl, by rw [List.length_map]; exact h, fun y hy => by obtain ⟨z, -, rfl⟩ := List.mem_map.1 hy; exact ⟨_, _, rfl, rfl⟩⟩
end Go.Proofs.Ytecnfekcflfihaa.CL
end
section
namespace Go.Proofs.Ytecnfekcflfihaa.FTW
open Go.Proofs.Ytecnfekcflfihaa.H Go.RowKit Go.Proofs.YtecnfekcflfihaaW.PrintWords Go.Proofs.YtecnfekcflfihaaW.PrintLast Go.Proofs.YtecnfekcflfihaaW.PrintMore Go.Proofs.Ytecnfekcflfihaa.CK
set_option linter.unusedVariables false
theorem foldWhole_walk (A0 : Option Addr) (c0 : Nat) (l0 : List (S46)) (a1 : Int) (w : World) (hc0 : l0.length ≤ c0) (hr0 : Kd.C k46 w A0 l0.length l0) (q0 : (l0.length ≤ maxLen ∧ ∀ x_ ∈ l0, ((Lit.int .i64 x_.f0).wf = true ∧ (Lit.int .i64 x_.f1).wf = true ∧ (Lit.int .i64 x_.f2).wf = true ∧ (Lit.int .i64 x_.f3).wf = true ∧ (Lit.int .i64 x_.f4).wf = true ∧ (x_.f5.length ≤ maxLen ∧ ∀ x__ ∈ x_.f5, ((Lit.int .i64 x__.f0).wf = true ∧ (Lit.int .i64 x__.f1).wf = true ∧ True ∧ (x__.f3.length ≤ maxLen ∧ ∀ x___ ∈ x__.f3, (Lit.int .u8 x___).wf = true) ∧ True ∧ (x__.f5.length ≤ maxLen ∧ ∀ x___ ∈ x__.f5, (Lit.int .u8 x___).wf = true)))))) (q1 : (Lit.int .i64 a1).wf = true) :
    Calls Try.prog 11 #[.slice A0 l0.length c0, .int .i64 a1] w fun e w' => e = .returned (.bool true) ∧ Below w.heap.size w w' := by
  refine law_of (CL.foldWhole_law (l0.map CL.toBat) a1 s0 (by rw [List.length_map]; exact q0.1) ?_) rfl ?_
  · intro b hb
    obtain ⟨z, hz, rfl⟩ := List.mem_map.1 hb
    exact CL.inBat_of z (q0.2 z hz).2.2.2.2.2.1
  · intro j x hj
    rcases j with _ | _ | j <;> simp at hj
    · subst hj; exact CL.repBats hr0 hc0
    · subst hj; exact .lit _
end Go.Proofs.Ytecnfekcflfihaa.FTW
end
section
namespace Go.Proofs.YtecnfekcflfihaaW.Opens
open Go.RowKit Go.WideShapes Go.Proofs.YtecnfekcflfihaaW.PrintWords
/-- Whatever can be read as a value of type t is a value of kind d, of which Q holds. -/
def Opens (P : Program) (t : TypeId) {α : Type} (d : Kd α) (Q : α → Prop) : Prop :=
  ∀ {H : Type} (enc : TypeId × Value → H) (w : World) (base : Nat) (spare : Nat → Bool) (held : Bool) (fuel : Nat) (cs : List Value) (x : DataW H × List MemPlace),
    DataW.trod enc P w base spare held fuel t cs = some x → ∃ a : α, d.K w a cs ∧ Q a
variable {P : Program} {α β : Type}
theorem opens_int {t : TypeId} {k : IntKind} (ht : P.underlying t = some (.int k)) : Opens P t (Kd.int k) (fun n => (Lit.int k n).wf = true) := by
  intro H enc w base spare held fuel cs x h
  obtain ⟨n, rfl, _, hw⟩ := DataW.trod_int ht h
  exact ⟨n, rfl, hw⟩
theorem opens_bool {t : TypeId} (ht : P.underlying t = some .bool) : Opens P t Kd.bool (fun _ => True) := by
  intro H enc w base spare held fuel cs x h
  obtain ⟨b, rfl, _⟩ := DataW.trod_bool ht h
  exact ⟨b, rfl, trivial⟩
theorem add_of_add (a : Addr) (i j : Nat) : (a.add i).add j = a.add (i + j) := by
  unfold Addr.add
  by_cases hi : i = 0 <;> by_cases hj : j = 0 <;> simp [hi, hj, Nat.add_assoc]
theorem opens_slice {t e : TypeId} (n : Nat) (ht : P.underlying t = some (.slice e)) {d : Kd α} {Q : α → Prop} (hs : P.cellsOf e = d.sz) (he : Opens P e d Q) :
    Opens P t (Kd.slice n d) (fun l => l.length ≤ maxLen ∧ ∀ x ∈ l, Q x) := by
  intro H enc w base spare held fuel cs x h
  rcases DataW.trod_slice ht h with ⟨rfl, _⟩ | ⟨a, len, cap, elems, rest, n', _, rfl, _, _, hl, hm, hlen, hel, _, _⟩
  · exact ⟨[], ⟨none, 0, rfl, Nat.le_refl _, Kd.C_nil _ _⟩, by simp, fun x hx => by simp at hx⟩
  · have each : ∀ i : Fin len, ∃ (x : α) (c : List Value), d.K w x c ∧ Q x ∧ ∀ j u, c[j]? = some u → w.cell? (a.add (i.val * d.sz + j)) = some u := by
      intro i
      have h1 := hel i.val i.isLt
      rw [List.getElem?_eq_getElem (by omega), Option.bind_eq_some_iff] at h1
      obtain ⟨c, hc, hy⟩ := h1
      obtain ⟨x, hK, hQ⟩ := he enc w base spare held n' c _ hy
      obtain ⟨_, hcl, hcc⟩ := World.cells?_some hc
      refine ⟨x, c, hK, hQ, fun j u hu => ?_⟩
      have hj : j < c.length := by
        rcases Nat.lt_or_ge j c.length with hlt | hge
        · exact hlt
        · rw [List.getElem?_eq_none hge] at hu; cases hu
      have := hcc j (by omega)
      rw [add_of_add, hs] at this
      rw [this, hu]
    let f : Fin len → α := fun i => Classical.choose (each i)
    have hf : ∀ i : Fin len, ∃ c : List Value, d.K w (f i) c ∧ Q (f i) ∧ ∀ j u, c[j]? = some u → w.cell? (a.add (i.val * d.sz + j)) = some u := fun i => Classical.choose_spec (each i)
    have hlen' : (List.ofFn f).length = len := List.length_ofFn
    have hget : ∀ j p, (List.ofFn f)[j]? = some p → ∃ hj : j < len, p = f ⟨j, hj⟩ := by
      intro j p hp
      have hj : j < len := by
        rcases Nat.lt_or_ge j len with hlt | hge
        · exact hlt
        · rw [List.getElem?_eq_none (by omega)] at hp; cases hp
      rw [List.getElem?_eq_getElem (by omega), List.getElem_ofFn] at hp
      exact ⟨hj, (Option.some.inj hp).symm⟩
    refine ⟨List.ofFn f, ⟨some a, cap, by rw [hlen'], by omega, hlen'.symm ▸ ?_⟩, by omega, ?_⟩
    · refine ⟨hlen', ?_, fun _ => ⟨a, rfl, fun j p hp => ?_⟩⟩
      · unfold maxLen at hm; omega
      · obtain ⟨hj, rfl⟩ := hget j p hp
        obtain ⟨c, hK, _, hc⟩ := hf ⟨j, hj⟩
        exact ⟨c, d.K_len hK, hK, fun i u hu => hc i u hu⟩
    · intro x hx
      obtain ⟨j, hj⟩ := List.getElem?_of_mem hx
      obtain ⟨hj', rfl⟩ := hget j x hj
      exact (hf ⟨j, hj'⟩).choose_spec.2.1
/-- The fields of a struct from the one at offset o on. -/
def OpensF (P : Program) (o : Nat) (fs : List Field) (d : Kd α) (Q : α → Prop) : Prop :=
  ∀ {H : Type} (enc : TypeId × Value → H) (w : World) (base : Nat) (spare : Nat → Bool) (held : Bool) (fuel : Nat) (cs : List Value),
    (∀ f ∈ fs, ∃ x, DataW.trod enc P w base spare held fuel f.type ((cs.drop f.offset).take (P.cellsOf f.type)) = some x) → cs.length = o + d.sz → ∃ a : α, d.K w a (cs.drop o) ∧ Q a
theorem opensF_one {o : Nat} {f : Field} {d : Kd α} {Q : α → Prop} (ho : f.offset = o) (hs : P.cellsOf f.type = d.sz) (h : Opens P f.type d Q) : OpensF P o [f] d Q := by
  intro H enc w base spare held fuel cs hx hl
  obtain ⟨x, hx⟩ := hx f (by simp)
  rw [ho, hs, List.take_of_length_le (by simp; omega)] at hx
  exact h enc w base spare held fuel _ x hx
theorem opensF_cons {o : Nat} {f : Field} {fs : List Field} {d : Kd α} {d' : Kd β} {Q : α → Prop} {Q' : β → Prop} (ho : f.offset = o) (hs : P.cellsOf f.type = d.sz) (h : Opens P f.type d Q) (hr : OpensF P (o + d.sz) fs d' Q') :
    OpensF P o (f :: fs) (Kd.pair d d') (fun x => Q x.1 ∧ Q' x.2) := by
  intro H enc w base spare held fuel cs hx hl
  have hl' : cs.length = o + (d.sz + d'.sz) := hl
  obtain ⟨x, hx1⟩ := hx f (by simp)
  rw [ho, hs] at hx1
  obtain ⟨a, ha, hq⟩ := h enc w base spare held fuel _ x hx1
  obtain ⟨b, hb, hq'⟩ := hr enc w base spare held fuel cs (fun g hg => hx g (by simp [hg])) (by omega)
  refine ⟨(a, b), ⟨_, _, ?_, ha, hb⟩, hq, hq'⟩
  rw [← List.drop_drop, List.take_append_drop]
theorem opens_struct {t : TypeId} {fs : Array Field} (ht : P.underlying t = some (.struct fs)) {d : Kd α} {Q : α → Prop} (hs : P.cellsOf t = d.sz) (h : OpensF P 0 fs.toList d Q) : Opens P t d Q := by
  intro H enc w base spare held fuel cs x hx
  obtain ⟨xs, n, _, _, hl, hxl, hf⟩ := DataW.trod_struct ht hx
  obtain ⟨a, ha, hq⟩ := h enc w base spare held n cs (fun f hm => by
    obtain ⟨i, hi⟩ := List.getElem?_of_mem hm
    have hi' : fs[i]? = some f := by rw [← hi, Array.getElem?_toList]
    have hlt : i < fs.size := by
      rcases Nat.lt_or_ge i fs.size with hlt | hge
      · exact hlt
      · rw [Array.getElem?_eq_none hge] at hi'; cases hi'
    rw [hf i f hi']
    exact ⟨_, List.getElem?_eq_getElem (by omega)⟩) (by omega)
  exact ⟨a, ha, hq⟩
theorem opens_iso {t : TypeId} {d : Kd α} {Q : α → Prop} (f : β → α) (g : α → β) (hg : ∀ a, f (g a) = a) (h : Opens P t d Q) : Opens P t (Kd.iso d f) (fun b => Q (f b)) := by
  intro H enc w base spare held fuel cs x hx
  obtain ⟨a, ha, hq⟩ := h enc w base spare held fuel cs x hx
  exact ⟨g a, (show d.K w (f (g a)) cs by rw [hg]; exact ha), (show Q (f (g a)) by rw [hg]; exact hq)⟩
/-- A parameter that is a slice. -/
theorem open_slice {t e : TypeId} {n : Nat} {d : Kd α} {Q : List α → Prop} (ht : P.underlying t = some (.slice e)) (h : Opens P t (Kd.slice n d) Q) {H : Type} {enc : TypeId × Value → H} {w : World} {base base' : Nat} {spare : Nat → Bool} {held : Bool} {r : Reach} {v : Value} {x : DataW H} {ps : List MemPlace}
    (hv : Value.okWide P w r base' t v) (hx : DataW.Trod enc P w base spare held t v x ps) : ∃ (A : Option Addr) (c : Nat) (l : List α), v = .slice A l.length c ∧ l.length ≤ c ∧ d.C w A l.length l ∧ Q l := by
  obtain ⟨a, len, cap, rfl⟩ := okWide_slice ht hv
  obtain ⟨fuel, hf⟩ := hx
  obtain ⟨l, ⟨A, c, hc, hl, hC⟩, hQ⟩ := h enc w base spare held fuel _ _ hf
  have : (Value.slice a len cap) = .slice A l.length c := by simpa [Value.cells] using hc
  exact ⟨A, c, l, this, hl, hC, hQ⟩
end Go.Proofs.YtecnfekcflfihaaW.Opens
end
