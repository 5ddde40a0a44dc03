/- The H layer, 15: an object that is not written any more is a list, wherever it is named. -/
import Derived.Test.YtecnfekcflfihaaS0
namespace Go.Proofs.Ytecnfekcflfihaa.H
open Go.RowKit Go.MapKept
set_option linter.unusedVariables false
set_option linter.unusedSimpArgs false
variable {P : Program} {m m' : M} {s : HS} {w : World}

/-- What is left of a view of a block that is frozen. -/
def phi (id : Nat) (cs : List HV) (i off sz n : Nat) : Option HV := if i = id ∧ off + n * sz ≤ cs.length then some (.list sz n ((cs.drop off).take (n * sz)) false) else none
def frz0 (id : Nat) (cs : List HV) : HV → HV
  | .view i o z n f => (phi id cs i o z n).getD (.view i o z n f)
  | x => x
def frz1 (id : Nat) (cs : List HV) : HV → HV
  | .agg l => .agg (l.map (frz0 id cs))
  | x => frz0 id cs x
def frz2 (id : Nat) (cs : List HV) : HV → HV
  | .tup l => .tup (l.map (frz1 id cs))
  | x => frz1 id cs x
def frzO (id : Nat) (cs : List HV) : HObj → HObj
  | .cells l => .cells (l.map (frz0 id cs))
  | .map d f n => .map d (fun k => (f k).map (frz1 id cs)) n
def frzS (id : Nat) (cs : List HV) (s : HS) : HS := fun k => if k = id then none else (s k).map (frzO id cs)

theorem hone_frz0 {id : Nat} {cs : List HV} (x : HV) : hone (frz0 id cs x) = hone x := by
  cases x <;> try rfl
  rename_i i o z n f
  simp only [frz0, phi]
  split <;> rfl
theorem ones_frz {id : Nat} {cs l : List HV} (h : Ones l) : Ones (l.map (frz0 id cs)) := by
  intro x hx
  obtain ⟨y, hy, rfl⟩ := List.mem_map.1 hx
  rw [hone_frz0]
  exact h y hy
theorem frz0_rep {id : Nat} {cs : List HV} (hm : M.le m m') (hφ : ∀ off sz n full v, off + n * sz ≤ cs.length → Rep m (.view id off sz n full) v → Rep m' (.list sz n ((cs.drop off).take (n * sz)) false) v) {x : HV} {v : Value} (h : Rep m x v) :
    Rep m' (frz0 id cs x) v := by
  cases x with
  | view i o z n f =>
    simp only [frz0, phi]
    split
    · rename_i hc
      obtain ⟨rfl, hc⟩ := hc
      exact hφ _ _ _ _ _ hc h
    · exact h.mono hm
  | _ => exact h.mono hm
theorem frz1_rep {id : Nat} {cs : List HV} (hm : M.le m m') (hφ : ∀ off sz n full v, off + n * sz ≤ cs.length → Rep m (.view id off sz n full) v → Rep m' (.list sz n ((cs.drop off).take (n * sz)) false) v) {x : HV} {v : Value} (h : Rep m x v) :
    Rep m' (frz1 id cs x) v := by
  cases x with
  | agg l =>
    cases h with
    | agg l vs ho hs hr =>
      refine .agg _ vs (ones_frz ho) (by simpa using hs) (fun j x hj => ?_)
      rw [List.getElem?_map] at hj
      cases hy : l[j]? with
      | none => rw [hy] at hj; cases hj
      | some y => rw [hy] at hj; cases hj; exact frz0_rep hm hφ (hr j y hy)
  | _ => exact frz0_rep hm hφ h
theorem frz2_rep {id : Nat} {cs : List HV} (hm : M.le m m') (hφ : ∀ off sz n full v, off + n * sz ≤ cs.length → Rep m (.view id off sz n full) v → Rep m' (.list sz n ((cs.drop off).take (n * sz)) false) v) {x : HV} {v : Value} (h : Rep m x v) :
    Rep m' (frz2 id cs x) v := by
  cases x with
  | tup l =>
    cases h with
    | tup l vs hs hr =>
      refine .tup _ vs (by simpa using hs) (fun j x hj => ?_)
      rw [List.getElem?_map] at hj
      cases hy : l[j]? with
      | none => rw [hy] at hj; cases hj
      | some y => rw [hy] at hj; cases hj; exact frz1_rep hm hφ (hr j y hy)
  | _ => exact frz1_rep hm hφ h
theorem frzO_at {id : Nat} {cs : List HV} (hm : M.le m m') (hφ : ∀ off sz n full v, off + n * sz ≤ cs.length → Rep m (.view id off sz n full) v → Rep m' (.list sz n ((cs.drop off).take (n * sz)) false) v) {ob : HObj} {l : Loc} (h : ObjAt m ob l w) :
    ObjAt m' (frzO id cs ob) l w := by
  cases ob with
  | cells xs =>
    obtain ⟨h0, c, t, fr, h1, h2, h3, h4, h5⟩ := h
    refine ⟨ones_frz h0, c, t, fr, h1, h2, by simpa using h3, h4, fun j x hj => ?_⟩
    rw [List.getElem?_map] at hj
    cases hy : xs[j]? with
    | none => rw [hy] at hj; cases hj
    | some y => rw [hy] at hj; cases hj; exact frz0_rep hm hφ (h5 j y hy)
  | map d f n =>
    obtain ⟨es, cl, h1, h2, h3, h6, h4, h5⟩ := h
    refine ⟨es, cl, h1, h2, h3, h6, fun k x hk => ?_, fun e he => by show ((f e.key).map _).isSome = true; rw [Option.isSome_map]; exact h5 e he⟩
    simp only at hk
    cases hy : f k with
    | none => rw [hy] at hk; cases hk
    | some y => rw [hy] at hk; cases hk; exact (h4 k y hy).imp fun e he => ⟨he.1, he.2.1, frz1_rep hm hφ he.2.2⟩
/-- An object that is not written any more. -/
theorem freeze_m {s' : HS} {id : Nat} {cs : List HV} (hR : Rel m s w) (hs : s id = some (.cells cs)) (h' : ∀ k o, s' k = some o → k ≠ id ∧ ∃ o0, s k = some o0 ∧ (o = o0 ∨ o = frzO id cs o0)) :
    ∃ m', M.le m m' ∧ Rel m' s' w ∧ ∀ off sz n full v, off + n * sz ≤ cs.length → Rep m (.view id off sz n full) v → Rep m' (.list sz n ((cs.drop off).take (n * sz)) false) v := by
  have hfin : ∃ N, ∀ k, N ≤ k → s' k = none ∧ m.loc k = none ∧ m.res k = false := by
    obtain ⟨N, hN⟩ := hR.fin
    refine ⟨N, fun k hk => ⟨?_, (hN k hk).2⟩⟩
    cases hy : s' k with
    | none => rfl
    | some o =>
      obtain ⟨-, o0, h0, -⟩ := h' k o hy
      rw [(hN k hk).1] at h0
      cases h0
  cases hloc : m.loc id with
  | none =>
    have hφ : ∀ off sz n full v, off + n * sz ≤ cs.length → Rep m (.view id off sz n full) v → Rep m (.list sz n ((cs.drop off).take (n * sz)) false) v := by
      intro off sz n full v _ h
      cases h with
      | view0 _ _ _ _ a => simp only [Nat.zero_mul, List.take_zero]; exact .list0 _ _ _ _ (fun h => by cases h)
      | view _ _ _ _ _ cap l hl => rw [hloc] at hl; cases hl
    refine ⟨m, M.le.refl m, ⟨hR.below, hR.com, fun k ob l hk hl => ?_, fun k ob l hk hl => ?_, fun a b oa ob la lb ha hb hla hlb hab => ?_, hfin⟩, hφ⟩
    · obtain ⟨-, o0, h0, rfl | rfl⟩ := h' k ob hk
      · exact hR.objs _ _ _ h0 hl
      · exact frzO_at (M.le.refl m) hφ (hR.objs _ _ _ h0 hl)
    · obtain ⟨-, o0, h0, -⟩ := h' k ob hk
      exact hR.own _ _ _ h0 hl
    · obtain ⟨-, o0, h0, -⟩ := h' a oa ha
      obtain ⟨-, o1, h1, -⟩ := h' b ob hb
      exact hR.inj a b o0 o1 la lb h0 h1 hla hlb hab
  | some l =>
    obtain ⟨h0, c, t, fr, h1, h2, h3, h4, h5⟩ := hR.objs _ _ _ hs hloc
    have hnc := (hR.own _ _ _ hs hloc).2
    have hm : M.le m { m with com := fun b o => if b = l.b then c[o]? else m.com b o } := by
      refine ⟨rfl, fun b o v hv => ?_, fun _ _ h => h, rfl, fun _ _ => rfl⟩
      show (if b = l.b then c[o]? else m.com b o) = some v
      rw [if_neg (fun e => by rw [e, hnc] at hv; cases hv)]; exact hv
    have hφ : ∀ off sz n full v, off + n * sz ≤ cs.length → Rep m (.view id off sz n full) v → Rep { m with com := fun b o => if b = l.b then c[o]? else m.com b o } (.list sz n ((cs.drop off).take (n * sz)) false) v := by
      intro off sz n full v hle h
      cases h with
      | view0 _ _ _ _ a => simp only [Nat.zero_mul, List.take_zero]; exact .list0 _ _ _ _ (fun h => by cases h)
      | view _ _ _ _ _ cap l' hl hn hf hlim =>
        obtain rfl : l = l' := by rw [hloc] at hl; cases hl; rfl
        refine .list sz n _ false cap l.b (l.base + off) (fun j => c.getD (l.base + off + j) undef) hn (fun h => by cases h) (by simp; omega) (fun x hx => h0 x (List.mem_of_mem_drop (List.mem_of_mem_take hx))) (fun j hj => ?_) (fun j x hj => ?_)
        · show (if l.b = l.b then c[l.base + off + j]? else _) = _
          rw [if_pos rfl]
          have hlt : l.base + off + j < c.size := by simp at hj; omega
          simp [Array.getD, hlt]
        · have hlt : j < n * sz := by have := (List.getElem?_eq_some_iff.1 hj).1; simp at this; omega
          rw [List.getElem?_take, if_pos hlt, List.getElem?_drop] at hj
          have := (h5 _ _ hj).mono hm
          rw [show l.base + (off + j) = l.base + off + j from by omega] at this
          exact this
    refine ⟨_, hm, ⟨hR.below, fun b o v hv => ?_, fun k ob l' hk hl' => ?_, fun k ob l' hk hl' => ?_, fun a b oa ob la lb ha hb hla hlb hab => ?_, hfin⟩, hφ⟩
    · simp only at hv
      split at hv
      · rename_i e; subst e
        simp only [World.cell?, h1]
        simpa using hv
      · exact hR.com b o v hv
    · obtain ⟨-, o0, h0, rfl | rfl⟩ := h' k ob hk
      · exact (hR.objs _ _ _ h0 hl').mono hm
      · exact frzO_at hm hφ (hR.objs _ _ _ h0 hl')
    · obtain ⟨hne, o0, hy, -⟩ := h' k ob hk
      obtain ⟨g1, g2⟩ := hR.own _ _ _ hy hl'
      refine ⟨g1, fun o => ?_⟩
      show (if l'.b = l.b then c[o]? else m.com l'.b o) = none
      rw [if_neg (fun e => hne (hR.inj k id _ _ l' l hy hs hl' hloc e))]
      exact g2 o
    · obtain ⟨-, o0, h0, -⟩ := h' a oa ha
      obtain ⟨-, o1, h1, -⟩ := h' b ob hb
      exact hR.inj a b o0 o1 la lb h0 h1 hla hlb hab
theorem UpL.frzG {xs : List HV} {s' : HS} {id : Nat} {cs : List HV} (hs : s id = some (.cells cs)) (h' : ∀ k o, s' k = some o → k ≠ id ∧ ∃ o0, s k = some o0 ∧ (o = o0 ∨ o = frzO id cs o0)) : UpL xs s (xs.map (frz2 id cs)) s' := by
  intro m w cvs hR hr
  obtain ⟨m', h1, h2, h3⟩ := freeze_m hR hs h'
  refine ⟨m', h1, h2, by simpa using hr.1, fun j x hj => ?_⟩
  rw [List.getElem?_map] at hj
  cases hy : xs[j]? with
  | none => rw [hy] at hj; cases hj
  | some y => rw [hy] at hj; cases hj; exact frz2_rep h1 h3 (hr.2 j y hy)
/-- Wherever it is named, it is a list from here on: in other objects too. -/
theorem UpL.frz {xs : List HV} {id : Nat} {cs : List HV} (hs : s id = some (.cells cs)) : UpL xs s (xs.map (frz2 id cs)) (frzS id cs s) := by
  refine UpL.frzG hs fun k o hk => ?_
  simp only [frzS] at hk
  split at hk
  · cases hk
  · rename_i hne
    cases hy : s k with
    | none => rw [hy] at hk; cases hk
    | some o0 => rw [hy] at hk; cases hk; exact ⟨hne, o0, rfl, .inr rfl⟩
/-- It is a list in these values from here on; what of the state is told stays as it is. -/
theorem UpL.frzD {xs : List HV} {s' : HS} {id : Nat} {cs : List HV} (hs : s id = some (.cells cs)) (hle : HS.le s' s) (hid : s' id = none) : UpL xs s (xs.map (frz2 id cs)) s' :=
  UpL.frzG hs fun k o hk => ⟨(by rintro rfl; rw [hid] at hk; cases hk), o, hle k o hk, Or.inl rfl⟩
/-- A nil is a row of none, among other values. -/
theorem UpL.nilAt (sz : Nat) {ys zs : List HV} {t : HS} : UpL (ys ++ .lit (.slice none 0 0) :: zs) t (ys ++ .list sz 0 [] false :: zs) t := by
  intro m w cvs h1 h2
  refine ⟨m, M.le.refl m, h1, by have := h2.1; simpa using this, fun j x hj => ?_⟩
  by_cases hlt : j < ys.length
  · rw [List.getElem?_append_left hlt] at hj
    exact h2.2 j x (by rw [List.getElem?_append_left hlt]; exact hj)
  · by_cases heq : j = ys.length
    · subst heq
      rw [List.getElem?_append_right (Nat.le_refl _)] at hj
      simp at hj; subst hj
      have := h2.2 ys.length (.lit (.slice none 0 0)) (by simp)
      generalize cvs.getD ys.length undef = cv at this ⊢
      cases this
      exact .list0 _ _ _ _ (fun h => by cases h)
    · rw [List.getElem?_append_right (by omega)] at hj
      obtain ⟨k, hk⟩ : ∃ k, j - ys.length = k + 1 := ⟨j - ys.length - 1, by omega⟩
      refine h2.2 j x ?_
      rw [hk] at hj
      rw [List.getElem?_append_right (by omega), hk]
      simpa using hj
end Go.Proofs.Ytecnfekcflfihaa.H
