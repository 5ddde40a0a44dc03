/- The H layer, 6: literals, maps, slices that are made. -/
import Derived.Test.YtecnfekcflfihaaH5
import Derived.Great.FillDense
import Derived.Laws.Tables
namespace Go.Proofs.Ytecnfekcflfihaa.H
open Go.RowKit Go.MapKept
set_option linter.unusedVariables false
set_option linter.unusedSimpArgs false
variable {P : Program} {m : M} {s : HS} {w : World}

theorem Reps.append {a b : List HV} {x y : List Value} (h : Reps m a x) (k : Reps m b y) : Reps m (a ++ b) (x ++ y) := by
  refine ⟨fun z hz => (List.mem_append.1 hz).elim (h.1 z) (k.1 z), by rw [List.length_append, List.length_append, h.2.1, k.2.1], fun j z hj => ?_⟩
  by_cases hlt : j < a.length
  · rw [List.getElem?_append_left hlt] at hj
    have h2 : (x ++ y).getD j undef = x.getD j undef := by simp [List.getD, List.getElem?_append_left (show j < x.length by rw [h.2.1]; exact hlt)]
    rw [h2]; exact h.2.2 j z hj
  · rw [List.getElem?_append_right (by omega)] at hj
    have h2 : (x ++ y).getD j undef = y.getD (j - a.length) undef := by simp [List.getD, List.getElem?_append_right (show x.length ≤ j by rw [h.2.1]; omega), h.2.1]
    rw [h2]; exact k.2.2 _ z hj
theorem Reps.take {a : List HV} {x : List Value} (h : Reps m a x) (n : Nat) : Reps m (a.take n) (x.take n) := by
  refine ⟨fun z hz => h.1 z (List.mem_of_mem_take hz), by simp [h.2.1], fun j z hj => ?_⟩
  have hlt : j < n := by have := (List.getElem?_eq_some_iff.1 hj).1; simp at this; omega
  rw [List.getElem?_take, if_pos hlt] at hj
  have h2 : (x.take n).getD j undef = x.getD j undef := by simp [List.getD, List.getElem?_take, hlt]
  rw [h2]; exact h.2.2 j z hj
theorem Reps.drop {a : List HV} {x : List Value} (h : Reps m a x) (n : Nat) : Reps m (a.drop n) (x.drop n) := by
  refine ⟨fun z hz => h.1 z (List.mem_of_mem_drop hz), by simp [h.2.1], fun j z hj => ?_⟩
  rw [List.getElem?_drop] at hj
  have h2 : (x.drop n).getD j undef = x.getD (n + j) undef := by simp [List.getD, List.getElem?_drop]
  rw [h2]; exact h.2.2 _ z hj
def cputCells (cs : List Value) (off : Nat) (vs : List Value) : List Value := cs.take off ++ vs ++ cs.drop (off + vs.length)
theorem Reps.put {a b : List HV} {x y : List Value} (h : Reps m a x) (k : Reps m b y) (off : Nat) : Reps m (putCells a off b) (cputCells x off y) := by
  unfold putCells cputCells
  rw [k.2.1]
  exact ((h.take off).append k).append (h.drop _)
theorem fold_put (off : Nat) (vs cells : Array Value) (hle : off + vs.size ≤ cells.size) :
    vs.zipIdx.foldl (fun cs (x : Value × Nat) => cs.setIfInBounds (off + x.2) x.1) cells = (cputCells cells.toList off vs.toList).toArray := by
  have h1 : vs.zipIdx.foldl (fun cs (x : Value × Nat) => cs.setIfInBounds (off + x.2) x.1) cells = (vs.toList.zipIdx 0).foldl (fun cs (x : Value × Nat) => cs.setIfInBounds (off + x.2) x.1) cells := by
    rw [← Array.foldl_toList]; simp
  rw [h1]
  obtain ⟨h2, h3⟩   := Great.foldl_set off vs.toList 0 cells
  apply Array.ext_getElem?
  intro k
  rw [h3 k]
  simp only [Nat.add_zero, Array.length_toList, cputCells, List.getElem?_toArray]
  by_cases h4 : k < off
  · rw [if_neg (by omega), List.append_assoc, List.getElem?_append_left (by simp; omega), List.getElem?_take, if_pos h4]
    simp
  · by_cases h5 : k < off + vs.size
    · rw [if_pos ⟨by omega, h5, by omega⟩, List.append_assoc, List.getElem?_append_right (by simp; omega), List.getElem?_append_left (by simp; omega)]
      congr 1; simp; omega
    · rw [if_neg (by omega), List.append_assoc, List.getElem?_append_right (by simp; omega), List.getElem?_append_right (by simp; omega), List.getElem?_drop]
      rw [← Array.getElem?_toList]
      congr 1; simp; omega
def RepParts (m : M) : List (Nat × HV) → List (Nat × Value) → Prop
  | [], [] => True
  | (i, x) :: r, (j, v) :: q => i = j ∧ Rep m x v ∧ RepParts m r q
  | _, _ => False
theorem hfill_ok {place : Nat → Option (Nat × Nat)} : ∀ {parts : List (Nat × HV)} {cparts : List (Nat × Value)} {cs cs' : List HV} {c : Array Value}, hfill place cs parts = some cs' → RepParts m parts cparts → Reps m cs c.toList →
    ∃ c', Instr.fill place c cparts = some c' ∧ Reps m cs' c'.toList
  | [], [], cs, cs', c, h, _, hr => by simp only [hfill, Option.some.injEq] at h; subst h; exact ⟨c, rfl, hr⟩
  | [], _ :: _, _, _, _, _, hp, _ => hp.elim
  | _ :: _, [], _, _, _, _, hp, _ => hp.elim
  | (i, x) :: r, (j, v) :: q, cs, cs', c, h, hp, hr => by
    obtain ⟨rfl, hx, hq⟩ := hp
    unfold hfill at h
    split at h
    · rename_i off size vs hpl hcv
      split at h
      · rename_i hc
        have hv := hx.cells hcv
        have hvl := hv.2.1
        have hcl := hr.2.1
        simp only [Array.length_toList] at hvl hcl
        have hr2 := hr.put hv off
        have hput : putCells cs off vs = cs.take off ++ vs ++ cs.drop (off + vs.length) := rfl
        rw [← hput] at h
        have hsz : (cputCells c.toList off v.cells.toList).length = c.size := by
          simp only [cputCells, List.length_append, List.length_take, List.length_drop, Array.length_toList]; omega
        obtain ⟨c', h1, h2⟩ := hfill_ok (c := (cputCells c.toList off v.cells.toList).toArray) h hq hr2
        refine ⟨c', ?_, h2⟩
        unfold Instr.fill
        rw [hpl]
        simp only
        rw [if_neg (by simp; omega), fold_put off v.cells c (by omega)]
        exact h1
      · cases h
    · cases h
/-- Where the parts of a literal go, and its zero. -/
def tPlace (P : Program) (t : TypeId) : Option (Nat → Option (Nat × Nat)) :=
  match P.underlying t with
  | some (.array _ e) => (P.info? e).map fun ie i => some (i * ie.size, ie.size)
  | some (.struct fields) => (fields.toList.mapM fun f => (P.info? f.type).map fun i => (f.offset, i.size)).map fun places i => places.toArray[i]?
  | _ => none
def vBuild (place : Nat → Option (Nat × Nat)) (z : Value) (parts : List (Nat × HV)) : Option HV :=
  match hcells (.lit (.agg z.cells)) with
  | some zs => (hfill place zs parts).map .agg
  | none => none
theorem vBuild_ok {t : TypeId} {place : Nat → Option (Nat × Nat)} {z : Value} {parts : List (Nat × HV)} {cparts : Array (Nat × Value)} {v : HV} (hp : tPlace P t = some place) (hz : tZero P t = some z)
    (h : vBuild place z parts = some v) (hr : RepParts m parts cparts.toList) : ∃ cv, (Instr.build t cparts).run P w = .ok cv w ∧ Rep m v cv := by
  unfold vBuild at h
  split at h
  · rename_i zs hzs
    cases hf : hfill place zs parts with
    | none => rw [hf] at h; cases h
    | some cs =>
      rw [hf] at h; cases h
      have hzr := (Rep.lit (m := m) (.agg z.cells)).cells hzs
      obtain ⟨c', h1, h2⟩ := hfill_ok (c := z.cells) hf hr hzr
      refine ⟨.agg c', run_build w t cparts c' ?_, .agg _ _ h2.1 (by have := h2.2.1; simpa using this) (fun j x hj => by have := h2.2.2 j x hj; simpa [List.getD, Array.getD_eq_getD_getElem?] using this)⟩
      unfold tPlace at hp
      unfold tZero at hz
      unfold Program.built
      cases hi : P.info? t with
      | none => rw [hi] at hz; cases hz
      | some it =>
        rw [hi] at hz
        have hz' : it.zero = some z := hz
        cases hd : P.underlying t with
        | none => rw [hd] at hp; cases hp
        | some d =>
          rw [hd] at hp
          cases d <;> simp only at hp <;> first | (cases hp; done) | skip
          · rename_i n e
            cases hie : P.info? e with
            | none => rw [hie] at hp; cases hp
            | some ie => rw [hie] at hp; cases hp; simpa [hz', hie] using h1
          · rename_i fs
            cases hpl : fs.toList.mapM (fun f => (P.info? f.type).map fun i => (f.offset, i.size)) with
            | none => rw [hpl] at hp; cases hp
            | some places => rw [hpl] at hp; cases hp; simpa [hz', hpl] using h1
  · cases h
def zcells (z : Value) (n : Nat) : List HV := (List.range n).map fun j => .lit (z.cells.toList.getD (j % z.cells.size) undef)
def hBuildSlice (s : HS) (sz n : Nat) (z : Value) (parts : List (Nat × HV)) (K : HV → HS → Prop) : Prop :=
  if n * sz ≤ 16777216 && z.cells.size == sz && z.cells.toList.all Value.oneCell' then
  match hfill (fun i => some (i * sz, sz)) (zcells z (n * sz)) parts with
  | some cs => hNew s (.cells cs) (fun id => .view id 0 sz n true) K
  | none => False
  else False
theorem zcells_reps (z : Value) (n : Nat) (hz : 0 < n → 0 < z.cells.size) (h1 : z.cells.toList.all Value.oneCell' = true) : Reps m (zcells z n) ((Array.range n).map (z.cells[· % z.cells.size]!)).toList := by
  have e : ((Array.range n).map (z.cells[· % z.cells.size]!)).toList = (List.range n).map fun j => z.cells.toList.getD (j % z.cells.size) undef := by
    simp only [Array.toList_map, Array.toList_range]
    apply List.map_congr_left
    intro j hj
    have hj' := List.mem_range.1 hj
    have hlt : j % z.cells.size < z.cells.size := Nat.mod_lt _ (hz (by omega))
    simp [List.getD, hlt]
  rw [e]
  have e2 : zcells z n = ((List.range n).map fun j => z.cells.toList.getD (j % z.cells.size) undef).map .lit := by simp [zcells]
  rw [e2]
  refine reps_lits m (List.all_eq_true.2 fun v hv => ?_)
  obtain ⟨j, hj, rfl⟩ := List.mem_map.1 hv
  have hj' := List.mem_range.1 hj
  have hlt : j % z.cells.size < z.cells.toList.length := by rw [Array.length_toList]; exact Nat.mod_lt _ (hz (by omega))
  have : z.cells.toList.getD (j % z.cells.size) undef = z.cells.toList[j % z.cells.size] := by simp only [List.getD, List.getElem?_eq_getElem hlt, Option.getD_some]
  rw [this]
  exact List.all_eq_true.1 h1 _ (List.getElem_mem hlt)
theorem hBuildSlice_ok {t e sz n : Nat} {z : Value} {parts : List (Nat × HV)} {cparts : Array (Nat × Value)} {K : HV → HS → Prop} (he : tElem P t = some e) (hn : tSize P e = some sz) (hz : tZero P e = some z)
    (h : hBuildSlice s sz n z parts K) (hR : Rel m s w) (hr : RepParts m parts cparts.toList) : Did m K ((Instr.buildSlice t n cparts).run P w) := by
  unfold hBuildSlice at h
  split at h
  rotate_left
  · exact h.elim
  rename_i hcc
  rw [Bool.and_eq_true, Bool.and_eq_true, beq_iff_eq, decide_eq_true_iff] at hcc
  obtain ⟨⟨h24, hzs⟩, hone⟩ := hcc
  split at h
  rotate_left
  · exact h.elim
  rename_i cs hcs
  have hd := tElem_run he
  have hn' := tSize_run (P := P) (w := w) hn
  have hz' := tZero_run (P := P) (w := w) hz
  have hzr := zcells_reps (m := m) z (n * sz) (fun h0 => by rw [hzs]; exact Nat.pos_of_mul_pos_left h0) hone
  obtain ⟨c', h1, h2⟩ := hfill_ok (c := (Array.range (n * sz)).map (z.cells[· % z.cells.size]!)) hcs hr hzr
  have hlen : c'.size = n * sz := by
    have : ∀ {cs cs' : List HV} {parts}, hfill (fun i => some (i * sz, sz)) cs parts = some cs' → cs'.length = cs.length := by
      intro cs cs' parts
      induction parts generalizing cs with
      | nil => intro h; simp only [hfill, Option.some.injEq] at h; rw [h]
      | cons p r ih =>
        intro h
        obtain ⟨i, x⟩ := p
        unfold hfill at h
        split at h
        · split at h
          · rename_i hc
            rw [ih h]
            simp; omega
          · cases h
        · cases h
    have h3 := this hcs
    have h4 := h2.2.1
    simp only [Array.length_toList] at h4
    rw [h4, h3]; simp [zcells]
  have hlc : cs.length = n * sz := by have := h2.2.1; simp only [Array.length_toList] at this; omega
  obtain ⟨id, m', g1, g2, g3, g4⟩ := new_ok (c := c') (t := e) hR h2.1 (by omega) (fun j x hj => by have := h2.2.2 j x hj; simpa [List.getD, Array.getD_eq_getD_getElem?] using this) h
  refine ⟨_, _, _, _, m', ?_, g1, g3, .view id 0 sz n true n _ g2 (Nat.le_refl n) (fun _ => rfl) (by simp [hlen]), g4⟩
  have h24' : ¬ (n * sz > 2 ^ 24) := by omega
  unfold Instr.buildSlice
  rw [rb (run_underlying hd w)]
  simp only
  rw [rb hn']
  simp only [h24', if_false]
  by_cases h0 : n * sz = 0
  · have e0 : ∀ (q : Array Value), (Array.range (n * sz)).map (fun x => q[x % q.size]!) = #[] := fun q => by rw [h0]; simp
    rw [e0] at h1
    simp only [e0, h1]
    simp only [h0, if_true]
    rfl
  · simp only [h0, if_false]
    show (zeroValue e >>= fun v => _).run P w = _
    rw [rb hz']
    show Sem.run P (match Instr.fill (fun i => some (i * sz, sz)) (Array.map (fun x => z.cells[x % z.cells.size]!) (Array.range (n * sz))) cparts.toList with | some cells => _ | x => _) w = _
    rw [h1]
    rfl
end Go.Proofs.Ytecnfekcflfihaa.H
