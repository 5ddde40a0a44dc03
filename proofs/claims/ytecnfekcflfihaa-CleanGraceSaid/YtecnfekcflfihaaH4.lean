/- The H layer, 4: indexes, cuts, lengths, lookups. -/
import Derived.Test.YtecnfekcflfihaaH3
namespace Go.Proofs.Ytecnfekcflfihaa.H
open Go.RowKit Go.MapKept
set_option linter.unusedVariables false
set_option linter.unusedSimpArgs false
variable {P : Program} {m : M} {s : HS} {w : World}

theorem vIdx_ok {t e sz : Nat} {x i v : HV} {cx ci : Value} (he : tElem P t = some e) (hn : tSize P e = some sz) (h : vIdx sz x i = some v) (hx : Rep m x cx) (hi : Rep m i ci) :
    ∃ cv, (Instr.indexAt t cx ci).run P w = .ok cv w ∧ Rep m v cv := by
  have hd := tElem_run he
  have hn' := tSize_run (P := P) (w := w) hn
  unfold vIdx at h
  split at h
  · rename_i k i
    cases hi
    split at h
    · rename_i sz' n cs full
      split at h
      · rename_i hb
        cases h
        cases hx with
        | list0 => omega
        | list _ _ _ _ cap b o f h1 h2 h3 h0 h4 h5 =>
          refine ⟨.pointer (some ⟨b, o + i.toNat * sz, none⟩), ?_, ?_⟩
          · simp [Instr.indexAt, run_underlying hd, asIntOf, hn', hb.1, hb.2, add_loc]
          · refine .elt _ 0 b (o + i.toNat * sz) (fun j => f (i.toNat * sz + j)) (fun x hx => h0 x (List.mem_of_mem_drop (List.mem_of_mem_take hx))) (fun j hj => ?_) (fun j x hj => ?_)
            · rw [Nat.add_assoc]; exact h4 _ (by simp at hj; omega)
            · have hlt : j < sz := by have := (List.getElem?_eq_some_iff.1 hj).1; simp at this; omega
              rw [List.getElem?_take, if_pos hlt, List.getElem?_drop] at hj
              exact h5 _ _ hj
      · cases h
    · rename_i id off sz' n full
      split at h
      · rename_i hb
        cases h
        cases hx with
        | view0 => omega
        | view _ _ _ _ _ cap l h1 h2 h3 h4 =>
          refine ⟨.pointer (some ⟨l.b, l.base + off + i.toNat * sz, none⟩), ?_, ?_⟩
          · simp [Instr.indexAt, run_underlying hd, asIntOf, hn', hb.1, hb.2, add_loc]
          · rw [Nat.add_assoc]; exact .ptr _ _ _ h1
      · cases h
    · cases h
  · cases h
def tArr (P : Program) (t : TypeId) : Option (Nat × TypeId) := match P.underlying t with | some (.array n e) => some (n, e) | _ => none
theorem tArr_run {t n e : Nat} (h : tArr P t = some (n, e)) : P.underlying t = some (.array n e) := by
  unfold tArr at h
  split at h
  · rename_i hd; cases h; exact hd
  · cases h
theorem vIdxArr_ok {t e sz len : Nat} {x i v : HV} {cx ci : Value} (he : tArr P t = some (len, e)) (hn : tSize P e = some sz) (h : vIdxArr len sz x i = some v) (hx : Rep m x cx) (hi : Rep m i ci) :
    ∃ cv, (Instr.indexAt t cx ci).run P w = .ok cv w ∧ Rep m v cv := by
  have hd := tArr_run he
  have hn' := tSize_run (P := P) (w := w) hn
  unfold vIdxArr at h
  split at h
  · rename_i k i
    cases hi
    split at h
    · split at h
      · rename_i id off hb
        cases h
        cases hx with
        | ptr _ _ l hl =>
          refine ⟨.pointer (some ⟨l.b, l.base + off + i.toNat * sz, none⟩), ?_, ?_⟩
          · simp [Instr.indexAt, run_underlying hd, asIntOf, hn', hb.1, hb.2, add_loc, Instr.sureAddr]
          · rw [Nat.add_assoc]; exact .ptr _ _ _ hl
      · cases h
    · split at h
      · rename_i cs off hb
        cases h
        cases hx with
        | elt _ _ b o f h0 h1 h2 =>
          refine ⟨.pointer (some ⟨b, o + off + i.toNat * sz, none⟩), ?_, ?_⟩
          · simp [Instr.indexAt, run_underlying hd, asIntOf, hn', hb.1, hb.2, add_loc, Instr.sureAddr]
          · rw [Nat.add_assoc]; exact .elt _ _ _ _ _ h0 h1 h2
      · cases h
    · cases h
  · cases h
theorem vStrIdx_ok {t : TypeId} {x i v : HV} {cx ci : Value} (hd : P.underlying t = some .string) (h : vStrIdx x i = some v) (hx : Rep m x cx) (hi : Rep m i ci) :
    ∃ cv, (Instr.index t cx ci).run P w = .ok cv w ∧ Rep m v cv := by
  unfold vStrIdx at h
  split at h
  · rename_i k i s
    cases hx; cases hi
    split at h
    · rename_i hb
      cases hs : s[i.toNat]? with
      | none => rw [hs] at h; cases h
      | some b =>
        rw [hs] at h; cases h
        refine ⟨.int .u8 b.toNat, ?_, .lit _⟩
        simp [Instr.index, asIntOf, run_underlying hd, hb, hs]
    · cases h
  · cases h
theorem vAggIdx_ok {t e len n : Nat} {ag : Bool} {x i v : HV} {cx ci : Value} (he : tArr P t = some (len, e)) (hn : tSize P e = some n) (ha : tAgg P e = some ag) (h : vAggIdx len n ag x i = some v)
    (hx : Rep m x cx) (hi : Rep m i ci) : ∃ cv, (Instr.index t cx ci).run P w = .ok cv w ∧ Rep m v cv := by
  have hd := tArr_run he
  have hn' := tSize_run (P := P) (w := w) hn
  unfold vAggIdx at h
  split at h
  · rename_i k i
    cases hi
    split at h
    · rename_i hb
      obtain ⟨vs, rfl, cs, hr, ht⟩ := aggOf h hx
      obtain ⟨cv, h1, h2⟩ := part_ok (w := w) hn ha hr ht
      exact ⟨cv, by simp [Instr.index, asIntOf, run_underlying hd, hb.1, hb.2, hn', h1], h2⟩
    · cases h
  · cases h
theorem field_ok {t f u off n : Nat} {ag : Bool} {x v : HV} {cx : Value} (hf : tField P t f = some (u, off)) (hn : tSize P u = some n) (ha : tAgg P u = some ag) (h : vPart off n ag x = some v) (hx : Rep m x cx) :
    ∃ cv, (Instr.field t cx f).run P w = .ok cv w ∧ Rep m v cv := by
  unfold tField at hf
  split at hf
  · rename_i fs hd
    cases hfl : fs[f]? with
    | none => rw [hfl] at hf; cases hf
    | some fl =>
      rw [hfl] at hf
      simp only [Option.map_some, Option.some.injEq, Prod.mk.injEq] at hf
      obtain ⟨rfl, rfl⟩ := hf
      obtain ⟨vs, rfl, cs, hr, ht⟩ := aggOf h hx
      obtain ⟨cv, h1, h2⟩ := part_ok (w := w) hn ha hr ht
      exact ⟨cv, by simp [Instr.field, run_underlying hd, hfl, asAgg, h1], h2⟩
  · cases hf
theorem vExtract_ok {x v : HV} {i : Nat} {cx : Value} (h : vExtract x i = some v) (hx : Rep m x cx) : ∃ cv, (Instr.extract cx i).run P w = .ok cv w ∧ Rep m v cv := by
  unfold vExtract at h
  split at h
  · cases hx with
    | tup _ vs hs hr =>
      have hlt := (List.getElem?_eq_some_iff.1 h).1
      have h1 := hr _ _ h
      rw [← hs] at hlt
      refine ⟨vs.getD i undef, ?_, h1⟩
      have : vs[i]? = some (vs.getD i undef) := by simp [Array.getD, hlt]
      unfold Instr.extract
      simp only [this]
      rfl
  · rename_i vs
    cases hx
    cases hv : vs[i]? with
    | none => rw [hv] at h; cases h
    | some u =>
      rw [hv] at h; cases h
      exact ⟨u, by unfold Instr.extract; simp only [hv]; rfl, .lit _⟩
  · cases h
theorem lit_or {x : HV} {v : Value} (h : Rep m x v) : ∀ {u : Value}, x = .lit u → v = u := by
  intro u hu; subst hu; cases h; rfl
theorem intAt_ok {x : HV} {v : Value} {i : Int} (h : Rep m x v) (hi : intAt (some x) = some i) : ∃ k, v = .int k i := by
  unfold intAt at hi
  split at hi
  · rename_i k i' heq; cases heq; cases hi; cases h; exact ⟨k, rfl⟩
  · cases hi
/-- Optional operands. -/
def RepO (m : M) : Option HV → Option Value → Prop
  | none, none => True
  | some x, some v => Rep m x v
  | _, _ => False
theorem cutAt_ok {n cap : Nat} {isS : Bool} {lo hi mx : Option HV} {cl ch cm : Option Value} {l h : Nat} {f : Bool} (hc : cutAt n lo hi mx = some (l, h, f)) (hl : RepO m lo cl) (hh : RepO m hi ch) (hm : RepO m mx cm) (hcap : n ≤ cap) :
    (Instr.sliceBounds isS n cap cl ch cm).run P w = .ok (l, h, if f then h else cap) w ∧ l ≤ h ∧ h ≤ n := by
  unfold cutAt at hc
  split at hc
  · rename_i mo h' l' hmo hhi hlo
    split at hc
    · rename_i hb
      obtain ⟨hb1, hb2, hb3, hb4⟩ := hb
      have bound : ∀ (v : Value) (y : Nat) (code : BoundsCode) (i : Int), (∃ k, v = .int k i) → 0 ≤ i → i ≤ (y : Int) → (Instr.sliceBound v y code).run P w = .ok i.toNat w := by
        rintro v y code i ⟨k, rfl⟩ h0 h1
        simp [Instr.sliceBound, asIntOf, h0, h1]
      have hL : (cl = none ∧ l'.toNat = 0) ∨ ∃ v, cl = some v ∧ ∀ code, (Instr.sliceBound v h'.toNat code).run P w = .ok l'.toNat w := by
        cases lo with
        | none => cases cl with
          | none => cases hlo; exact .inl ⟨rfl, rfl⟩
          | some v => exact hl.elim
        | some x => cases cl with
          | none => exact hl.elim
          | some v => exact .inr ⟨v, rfl, fun code => bound v _ code l' (intAt_ok hl hlo) hb1 (by omega)⟩
      cases mx with
      | none =>
        cases cm with
        | some v => exact hm.elim
        | none =>
        cases hmo
        simp only [Option.some.injEq, Prod.mk.injEq] at hc
        obtain ⟨rfl, rfl, rfl⟩ := hc
        refine ⟨?_, by omega, by omega⟩
        cases hi with
        | none =>
          cases ch with
          | some v => exact hh.elim
          | none =>
          cases hhi
          simp only [Int.toNat_natCast] at hL ⊢
          rcases hL with ⟨rfl, e⟩ | ⟨v, rfl, e⟩ <;> simp [Instr.sliceBounds, e]
        | some x =>
          cases ch with
          | none => exact hh.elim
          | some v =>
          have hH := fun code => bound v cap code h' (intAt_ok hh hhi) (by omega) (by omega)
          rcases hL with ⟨rfl, e⟩ | ⟨u, rfl, e⟩ <;> simp [Instr.sliceBounds, e, hH]
      | some x =>
        cases cm with
        | none => exact hm.elim
        | some v =>
        cases hi with
        | none => exact absurd (hb4 rfl) (by simp)
        | some y =>
        cases ch with
        | none => exact hh.elim
        | some u =>
        have hmo' : (intAt (some x)).map some = some mo := hmo
        cases hxi : intAt (some x) with
        | none => rw [hxi] at hmo'; cases hmo'
        | some xi =>
        rw [hxi] at hmo'
        cases hmo'
        simp only at hc
        split at hc
        · rename_i hxe
          subst hxe
          simp only [Option.some.injEq, Prod.mk.injEq] at hc
          obtain ⟨rfl, rfl, rfl⟩ := hc
          have hM := fun code => bound v cap code xi (intAt_ok hm hxi) (by omega) (by omega)
          have hH := fun code => bound u xi.toNat code xi (intAt_ok hh hhi) (by omega) (by omega)
          refine ⟨?_, by omega, by omega⟩
          rcases hL with ⟨rfl, e⟩ | ⟨q, rfl, e⟩ <;> simp [Instr.sliceBounds, e, hH, hM]
        · cases hc
    · cases hc
  · cases hc

theorem reps_sub {cs : List HV} {f : Nat → Value} {k n : Nat} (hr : ∀ j x, cs[j]? = some x → Rep m x (f j)) : ∀ j x, ((cs.drop k).take n)[j]? = some x → Rep m x (f (k + j)) := by
  intro j x hj
  have hlt : j < n := by have := (List.getElem?_eq_some_iff.1 hj).1; simp at this; omega
  rw [List.getElem?_take, if_pos hlt, List.getElem?_drop] at hj
  exact hr _ _ hj
theorem vSlice_ok {t e sz : Nat} {x v : HV} {lo hi mx : Option HV} {cx : Value} {cl ch cm : Option Value} (he : tElem P t = some e) (hn : tSize P e = some sz) (h : vSlice sz x lo hi mx = some v)
    (hx : Rep m x cx) (hl : RepO m lo cl) (hh : RepO m hi ch) (hm : RepO m mx cm) :
    ∃ cv, (Instr.sliceAt t cx cl ch cm).run P w = .ok cv w ∧ Rep m v cv := by
  have hd := tElem_run he
  have hn' := tSize_run (P := P) (w := w) hn
  have go : ∀ (a : Option Addr) (n cap l h : Nat) (f : Bool), (Instr.sliceBounds true n cap cl ch cm).run P w = .ok (l, h, if f then h else cap) w →
      (Instr.sliceAt t (.slice a n cap) cl ch cm).run P w = .ok (.slice (if (if f then h else cap) = l then a else a.map (·.add (l * sz))) (h - l) ((if f then h else cap) - l)) w := by
    intro a n cap l h f hb
    simp [Instr.sliceAt, Instr.slice, run_underlying hd, hb, hn']
  have zero : ∀ (a : Option Addr) (n cap l h : Nat) (f : Bool), l ≤ h → h ≤ n → n ≤ cap → (if f then h else cap) = l → h = l := by
    intro a n cap l h f h1 h2 h3 h4
    cases f <;> simp at h4 <;> omega
  unfold vSlice at h
  split at h
  · rename_i k n cs full
    split at h
    rotate_left
    · cases h
    rename_i hk
    subst hk
    cases hc : cutAt n lo hi mx with
    | none => rw [hc] at h; cases h
    | some r =>
      obtain ⟨l, h', f⟩ := r
      rw [hc] at h; cases h
      cases hx with
      | list0 _ a cap _ hf =>
        obtain ⟨h1, h2, h3⟩ := cutAt_ok (P := P) (w := w) (isS := true) hc hl hh hm (Nat.zero_le cap)
        obtain rfl : h' = 0 := by omega
        obtain rfl : l = 0 := by omega
        refine ⟨_, go a 0 cap 0 0 f h1, ?_⟩
        simp only [Nat.zero_mul, List.drop_zero, Nat.sub_self, List.take_zero]
        refine .list0 k _ _ _ ?_
        intro hff
        cases f
        · simp at hff; simp [hf hff]
        · simp
      | list _ _ _ _ cap b o g hle hf hlen ho hcm hr =>
        obtain ⟨h1, h2, h3⟩ := cutAt_ok (P := P) (w := w) (isS := true) hc hl hh hm hle
        refine ⟨_, go _ n cap l h' f h1, ?_⟩
        by_cases hz : (if f then h' else cap) = l
        · obtain rfl : h' = l := zero none n cap l h' f h2 h3 hle hz
          rw [if_pos hz, hz]
          simp only [Nat.sub_self, Nat.zero_mul, List.take_zero]
          exact .list0 _ _ _ _ (fun _ => rfl)
        · rw [if_neg hz]
          simp only [Option.map_some, add_loc]
          refine .list _ _ _ _ _ b (o + l * k) (fun j => g (l * k + j)) ?_ ?_ ?_ (fun x hx => ho x (List.mem_of_mem_drop (List.mem_of_mem_take hx))) ?_ (reps_sub hr)
          · cases f <;> simp <;> omega
          · intro hff
            cases f
            · simp at hff; have := hf hff.1; simp; omega
            · simp
          · have : h' * k ≤ n * k := Nat.mul_le_mul_right k h3
            simp [hlen, Nat.sub_mul]; omega
          · intro j hj
            rw [Nat.add_assoc]; exact hcm _ (by simp at hj; omega)
  · rename_i id off k n full
    split at h
    rotate_left
    · cases h
    rename_i hk
    subst hk
    cases hc : cutAt n lo hi mx with
    | none => rw [hc] at h; cases h
    | some r =>
      obtain ⟨l, h', f⟩ := r
      rw [hc] at h; cases h
      cases hx with
      | view0 _ _ _ _ a =>
        obtain ⟨h1, h2, h3⟩ := cutAt_ok (P := P) (w := w) (isS := true) hc hl hh hm (Nat.le_refl 0)
        obtain rfl : h' = 0 := by omega
        obtain rfl : l = 0 := by omega
        refine ⟨_, go _ 0 0 0 0 f h1, ?_⟩
        have e1 : (if f then 0 else 0 : Nat) = 0 := by cases f <;> rfl
        rw [e1, if_pos rfl]
        exact .view0 _ _ _ _ a
      | view _ _ _ _ _ cap lc hlc hle hf hlim =>
        obtain ⟨h1, h2, h3⟩ := cutAt_ok (P := P) (w := w) (isS := true) hc hl hh hm hle
        refine ⟨_, go _ n cap l h' f h1, ?_⟩
        by_cases hz : (if f then h' else cap) = l
        · obtain rfl : h' = l := zero none n cap l h' f h2 h3 hle hz
          rw [if_pos hz, hz]
          simp only [Nat.sub_self]
          exact .view0 _ _ _ _ _
        · rw [if_neg hz]
          simp only [Option.map_some, add_loc]
          rw [Nat.add_assoc]
          have hcl : (if f then h' else cap) ≤ cap := by cases f <;> simp; omega
          refine .view _ _ _ _ _ _ lc hlc ?_ ?_ ?_
          · cases f <;> simp <;> omega
          · intro hff
            cases f
            · simp at hff; have := hf hff.1; simp; omega
            · simp
          · have h5 : ((if f then h' else cap) - l) * k + l * k ≤ cap * k := by
              rw [← Nat.add_mul]; exact Nat.mul_le_mul_right k (by cases f <;> simp <;> omega)
            omega
  · rename_i v0
    split at h
    rotate_left
    · cases h
    rename_i hnil
    obtain rfl := isNilS_eq hnil
    cases hc : cutAt 0 lo hi mx with
    | none => rw [hc] at h; cases h
    | some r =>
      obtain ⟨l, h', f⟩ := r
      rw [hc] at h; cases h
      cases hx
      obtain ⟨h1, h2, h3⟩ := cutAt_ok (P := P) (w := w) (isS := true) hc hl hh hm (Nat.le_refl 0)
      obtain rfl : h' = 0 := by omega
      obtain rfl : l = 0 := by omega
      refine ⟨_, go none 0 0 0 0 f h1, ?_⟩
      have e1 : (if f then 0 else 0 : Nat) = 0 := by cases f <;> rfl
      rw [e1, if_pos rfl]
      exact .lit _
  · cases hc : cutAt 0 lo hi mx with
    | none => rw [hc] at h; cases h
    | some r =>
      obtain ⟨l, h', f⟩ := r
      rw [hc] at h; cases h
      cases hx with
      | nils cap =>
      obtain ⟨h1, h2, h3⟩ := cutAt_ok (P := P) (w := w) (isS := true) hc hl hh hm (Nat.zero_le cap)
      obtain rfl : h' = 0 := by omega
      obtain rfl : l = 0 := by omega
      refine ⟨_, go none 0 cap 0 0 f h1, ?_⟩
      have e1 : (if (if f then 0 else cap : Nat) = 0 then (none : Option Addr) else Option.map (fun x : Addr => x.add (0 * sz)) none) = none := by
        by_cases hz : (if f then 0 else cap : Nat) = 0
        · rw [if_pos hz]
        · rw [if_neg hz]; rfl
      rw [e1]
      exact .nils _
  · cases h
theorem vStrSlice_ok {t : TypeId} {x v : HV} {lo hi : Option HV} {cx : Value} {cl ch : Option Value} (hd : P.underlying t = some .string) (h : vStrSlice x lo hi = some v) (hx : Rep m x cx) (hl : RepO m lo cl) (hh : RepO m hi ch) :
    ∃ cv, (Instr.sliceAt t cx cl ch none).run P w = .ok cv w ∧ Rep m v cv := by
  unfold vStrSlice at h
  split at h
  · rename_i b
    cases hc : cutAt b.size lo hi none with
    | none => rw [hc] at h; cases h
    | some r =>
      obtain ⟨l, h', f⟩ := r
      rw [hc] at h; cases h
      cases hx
      obtain ⟨h1, h2, h3⟩ := cutAt_ok (P := P) (w := w) (isS := false) hc hl hh (show RepO m none none from trivial) (Nat.le_refl _)
      refine ⟨_, ?_, .lit _⟩
      simp [Instr.sliceAt, Instr.slice, run_underlying hd, h1]
  · cases h

/-- What a slice holds, in the world. -/
theorem lcells_ok {sz : Nat} {x : HV} {cs : List HV} {cx : Value} (h : lcells s sz x = some cs) (hR : Rel m s w) (hx : Rep m x cx) (hns : ∀ b, x ≠ .lit (.string b)) :
    ∃ a n cap vs, cx = .slice a n cap ∧ Reps m cs vs ∧ vs.length = n * sz ∧ n ≤ cap ∧ (n = 0 ∨ ∃ b o, a = some ⟨b, o, none⟩ ∧ ∀ j u, vs[j]? = some u → w.cell? ⟨b, o + j, none⟩ = some u) := by
  unfold lcells at h
  split at h
  · rename_i k
    split at h
    · cases h
      cases hx with
      | ne _ a cap => exact ⟨some a, 0, cap, [], rfl, ⟨fun x hx => by simp at hx, rfl, fun j x hj => by simp at hj⟩, by simp, Nat.zero_le _, .inl rfl⟩
    · cases h
  · cases h
    cases hx with
    | nils cap => exact ⟨none, 0, cap, [], rfl, ⟨fun x hx => by simp at hx, rfl, fun j x hj => by simp at hj⟩, by simp, Nat.zero_le _, .inl rfl⟩
  · rename_i k n cs' full
    split at h
    · rename_i hk
      subst hk; cases h
      cases hx with
      | list0 _ a cap _ _ => exact ⟨a, 0, cap, [], rfl, ⟨fun x hx => by simp at hx, rfl, fun j x hj => by simp at hj⟩, by simp, Nat.zero_le _, .inl rfl⟩
      | list _ _ _ _ cap b o f h1 h2 h3 h0 h4 h5 =>
        refine ⟨_, n, cap, (List.range cs.length).map f, rfl, ⟨h0, by simp, fun j x hj => ?_⟩, by simp [h3], h1, .inr ⟨b, o, rfl, fun j u hj => ?_⟩⟩
        · have hlt := (List.getElem?_eq_some_iff.1 hj).1
          have h6 := h5 _ _ hj
          have : ((List.range cs.length).map f).getD j undef = f j := by simp [List.getD, List.getElem?_range, hlt]
          rw [this]; exact h6
        · have hlt : j < cs.length := by have := (List.getElem?_eq_some_iff.1 hj).1; simpa using this
          rw [List.getElem?_map, List.getElem?_range hlt] at hj
          cases hj
          exact hR.com _ _ _ (h4 j hlt)
    · cases h
  · rename_i id off k n full
    split at h
    · rename_i cs' hcs
      split at h
      · rename_i hk
        obtain ⟨hk, hle⟩ := hk
        subst hk; cases h
        cases hx with
        | view0 _ _ _ _ a => exact ⟨some a, 0, 0, [], rfl, ⟨fun x hx => by simp at hx, by simp, fun j x hj => by simp at hj⟩, by simp, Nat.le_refl _, .inl rfl⟩
        | view _ _ _ _ _ cap l hl hn hf hlim =>
          obtain ⟨h0, c, t, fr, h1, h2, h3, h4, h5⟩ := hR.objs _ _ _ hcs hl
          refine ⟨_, n, cap, (List.range (n * k)).map fun j => c.getD (l.base + off + j) undef, rfl, ⟨fun x hx => h0 x (List.mem_of_mem_drop (List.mem_of_mem_take hx)), by simp; omega, fun j x hj => ?_⟩, by simp, hn, .inr ⟨l.b, l.base + off, rfl, fun j u hj => ?_⟩⟩
          · have hlt : j < n * k := by have := (List.getElem?_eq_some_iff.1 hj).1; simp at this; omega
            rw [List.getElem?_take, if_pos hlt, List.getElem?_drop] at hj
            have h6 := h5 _ _ hj
            have : ((List.range (n * k)).map fun j => c.getD (l.base + off + j) undef).getD j undef = c.getD (l.base + (off + j)) undef := by
              simp [List.getD, List.getElem?_range, hlt, Nat.add_assoc]
            rw [this]; exact h6
          · have hlt : j < n * k := by have := (List.getElem?_eq_some_iff.1 hj).1; simpa using this
            rw [List.getElem?_map, List.getElem?_range hlt] at hj
            cases hj
            have hlt2 : l.base + off + j < c.size := by omega
            simp [World.cell?, h1, hlt2]
      · cases h
    · cases h
  · rename_i v0
    unfold litCells at h
    split at h
    · split at h
      · rename_i n c hn
        subst hn
        cases h; cases hx
        exact ⟨none, 0, c, [], rfl, ⟨fun x hx => by simp at hx, rfl, fun j x hj => by simp at hj⟩, by simp, Nat.zero_le _, .inl rfl⟩
      · cases h
    · rename_i b; exact absurd rfl (hns b)
    · cases h
  · cases h
theorem loadCells_list {b o n : Nat} {vs : List Value} (hn : vs.length = n) (h : ∀ j u, vs[j]? = some u → w.cell? ⟨b, o + j, none⟩ = some u) : (loadCells ⟨b, o, none⟩ n).run P w = .ok vs.toArray w := by
  subst hn
  exact run_loadCells_list w ⟨b, o, none⟩ vs (fun j v hj => by rw [add_loc]; exact h j v hj)
theorem bytesOf_vals : ∀ {cs : List HV} {vs : List Value} {bs : List UInt8}, bytesOf cs = some bs → Reps m cs vs → ∃ ns : List Int, vs = ns.map (Value.int .u8) ∧ bs = ns.map fun n => UInt8.ofNat n.toNat
  | [], vs, bs, h, hr => by
    simp [bytesOf] at h
    subst h
    exact ⟨[], by have := hr.2.1; simpa using this, rfl⟩
  | c :: cs, vs, bs, h, hr => by
    unfold bytesOf at h
    rw [List.mapM_cons] at h
    cases hc : byteOfHV c with
    | none => rw [hc] at h; cases h
    | some b =>
      cases hcs : cs.mapM byteOfHV with
      | none => rw [hc, hcs] at h; cases h
      | some r =>
        rw [hc, hcs] at h
        simp at h
        subst h
        cases vs with
        | nil => have := hr.2.1; simp at this
        | cons v vs =>
          have h1 := hr.2.2 0 c rfl
          simp at h1
          obtain ⟨ns, e1, e2⟩ := bytesOf_vals (cs := cs) (vs := vs) hcs ⟨fun x hx => hr.1 x (.tail _ hx), by have := hr.2.1; simpa using this, fun j x hj => by have := hr.2.2 (j + 1) x (by simpa using hj); simpa using this⟩
          unfold byteOfHV at hc
          split at hc
          · rename_i n
            cases hc; cases h1
            exact ⟨n :: ns, by simp [e1], by simp [e2]⟩
          · cases hc
theorem push_bytes : ∀ (ns : List Int) (s : ByteArray), ns.foldl (fun r n => r.push (UInt8.ofNat n.toNat)) s = ⟨(s.data.toList ++ ns.map fun n => UInt8.ofNat n.toNat).toArray⟩
  | [], s => by simp
  | n :: ns, s => by
    rw [List.foldl_cons, push_bytes ns]
    simp [ByteArray.push]
theorem vToStr_ok {x v : HV} {cx : Value} (h : vToStr s x = some v) (hR : Rel m s w) (hx : Rep m x cx) (hns : ∀ b, x ≠ .lit (.string b)) : ∃ cv, (Conv.bytesToString cx).run P w = .ok cv w ∧ Rep m v cv := by
  unfold vToStr at h
  cases hl : lcells s 1 x with
  | none => rw [hl] at h; cases h
  | some cs =>
    rw [hl] at h
    cases hb : bytesOf cs with
    | none => simp [hb] at h
    | some bs =>
      simp [hb] at h
      subst h
      obtain ⟨a, n, cap, vs, rfl, hr, hlen, -, hw⟩ := lcells_ok hl hR hx hns
      obtain ⟨ns, rfl, rfl⟩ := bytesOf_vals hb hr
      cases a with
      | none =>
        have : n = 0 := by rcases hw with h | ⟨b, o, h, -⟩; exact h; cases h
        subst this
        have : ns = [] := by simpa using hlen
        subst this
        exact ⟨_, rfl, .lit _⟩
      | some ad =>
        have hload : (loadCells ad n).run P w = .ok (ns.map (Value.int .u8)).toArray w := by
          rcases hw with rfl | ⟨b, o, h, hc⟩
          · have : ns = [] := by simpa using hlen
            subst this; rfl
          · cases h
            exact loadCells_list (by simpa using hlen) hc
        have h1 := run_bytesToString w ad n cap ns hload
        refine ⟨_, h1, ?_⟩
        rw [push_bytes]
        have : (ByteArray.empty.data.toList ++ ns.map fun n => UInt8.ofNat n.toNat) = ns.map fun n => UInt8.ofNat n.toNat := by simp
        rw [this]
        exact .lit _
theorem vLookup_ok {t kt et : TypeId} {d : TypeDesc} {z : Value} {x k v : HV} {ok : Bool} {cx ck : Value} (ht : P.underlying t = some (.map kt et)) (hd : P.underlying kt = some d) (hz : tZero P et = some z)
    (h : vLookup s (some d) (.lit z) x k ok = some v) (hR : Rel m s w) (hx : Rep m x cx) (hk : Rep m k ck) : ∃ cv, (Instr.lookup t cx ck ok).run P w = .ok cv w ∧ Rep m v cv := by
  have hz' := tZero_run (P := P) (w := w) hz
  unfold vLookup at h
  split at h
  · rename_i k' d' heq
    cases heq
    cases hk
    split at h
    · rename_i hki
      have hik := isKey_of hki
      have hck := fun e => run_checkKey (P := P) (w := w) hd hik e 9999
      have tup2 : ∀ (a : HV) (ca : Value) (b : Bool), Rep m a ca → Rep m (.tup [a, .lit (.bool b)]) (.tuple #[ca, .bool b]) := fun a ca b ha => by
        refine .tup _ _ rfl (fun j y hj => ?_)
        match j, hj with
        | 0, hj => simp at hj; subst hj; exact ha
        | 1, hj => simp at hj; subst hj; exact .lit _
        | j + 2, hj => simp at hj
      split at h
      · cases h; cases hx
        have hf : (Instr.findKey kt ck []).run P w = .ok none w := run_findKey hd rfl
        cases ok
        · refine ⟨z, ?_, .lit _⟩
          simp [Instr.lookup, run_underlying ht, hck, hf, hz']
        · refine ⟨_, ?_, tup2 _ _ _ (.lit z)⟩
          simp [Instr.lookup, run_underlying ht, hck, hf, hz']
      · rename_i id
        split at h
        · rename_i d2 f n hs
          split at h
          · rename_i hsd
            have hdd : d2 = d := by
              unfold sameKey at hsd
              split at hsd <;> simp_all
            subst hdd
            cases h
            cases hx with
            | map _ l hl =>
            obtain ⟨es, cl, h1, h2, h3, h4, h5, h6⟩ := hR.objs _ _ _ hs hl
            have hg := Go.MapKept.run_getObj_map (P := P) h1
            rcases findNow_spec hik es.toList 0 h4 with ⟨g1, g2⟩ | ⟨j, e, g1, g2, g3⟩
            · have hf : (Instr.findKey kt ck es.toList).run P w = .ok none w := run_findKey hd g1
              have hfk : f ck = none := by
                cases hfk : f ck with
                | none => rfl
                | some y => obtain ⟨e, he, he2, -⟩ := h5 _ _ hfk; exact absurd he2 (g2 e he)
              rw [hfk]
              cases ok
              · refine ⟨z, ?_, .lit _⟩
                simp [Instr.lookup, run_underlying ht, hck, hf, hz', hg]
              · refine ⟨_, ?_, tup2 _ _ _ (.lit z)⟩
                simp [Instr.lookup, run_underlying ht, hck, hf, hz', hg]
            · have hf : (Instr.findKey kt ck es.toList).run P w = .ok (some (0 + j, e.val)) w := run_findKey hd g1
              have hem : e ∈ es.toList := List.mem_of_getElem? g2
              obtain ⟨y, hy⟩ := Option.isSome_iff_exists.1 (h6 e hem)
              obtain ⟨e', he', hq2, hr'⟩ := h5 _ _ hy
              have hee : e' = e := by
                obtain ⟨i, hi⟩ := List.getElem?_of_mem he'
                have hnd := h3.2.2
                have hij : i = j := by
                  have h8 : (es.toList.map (·.key))[i]? = (es.toList.map (·.key))[j]? := by simp [hi, g2, hq2]
                  exact (List.getElem?_inj (by have := (List.getElem?_eq_some_iff.1 hi).1; simpa using this) hnd).1 h8
                subst hij
                rw [hi] at g2; exact Option.some.inj g2
              subst hee
              rw [← g3, hy]
              cases ok
              · refine ⟨e'.val, ?_, hr'⟩
                rw [g3]
                simp [Instr.lookup, run_underlying ht, hck, hf, hz', hg]
              · refine ⟨_, ?_, tup2 _ _ _ hr'⟩
                rw [g3]
                simp [Instr.lookup, run_underlying ht, hck, hf, hz', hg]
          · cases h
        · cases h
      · cases h
    · cases h
  · cases h
end Go.Proofs.Ytecnfekcflfihaa.H
